/- ids: Clone; maps.Clone, slices.Clone. -/
import Derived.Test.YtolilbcpfdnkjaaGreatZBI3x
import Derived.Shelf.SlMaps.Clone
import Derived.Lib.SliceRun
namespace Go.Proofs.YtolilbcpfdnkjaaGreat
open Go.RowKit
set_option linter.unusedSimpArgs false
set_option maxRecDepth 100000
set_option maxHeartbeats 1000000 in
theorem mclone_any (b : Nat) (es : Array MapEntry) (clock : Nat) (w : World) (hb : w.heap[b]? = some (.map es clock)) :
    Calls Tryz.prog 35 #[.map (some b)] w fun e w' => e = .returned (.map (some w.heap.size)) ∧ w' = w.alloc (.map es clock) := by
  have hq := fun w => run_eql_map_nil_sl (P := Tryz.prog) w 75 _ _ (some b) Tryz.underlying75
  go_enter Tryz.func35, Tryz.ntmps35
  go_wp2
  rw [run_callFunc_extern Tryz.func68 (by kernel_rfl) (by kernel_rfl) (by kernel_rfl) (e := Extern.MapsClone.clone) (by kernel_rfl), run_maps_clone_sl w 75 hb]
  simp only [Result.andThen]
  rw [Oper.upon_value]
  go_wp2
  rw [run_typeAssert_map_sl _ 75 20 _ _ _ Tryz.underlying75]
  simp only [Result.andThen]
  rw [Oper.upon_value]
  go_wp2
  go_ret
  exact ⟨rfl, rfl⟩
theorem IMap.copy {V : Type} {enc : V → Value} {w : World} {b : Nat} {L : List (Int × V)} (h : IMap enc w b L) : ∃ es clock, w.heap[b]? = some (.map es clock) ∧ ∀ (w' : World) (k : Nat), w'.heap[k]? = some (.map es clock) → IMap enc w' k L := by
  obtain ⟨es, clock, hb, r⟩ := h
  exact ⟨es, clock, hb, fun w' k q => ⟨es, clock, q, r⟩⟩
theorem eql_nil (w : World) (a : Option Addr) (l c : Nat) : (binOp .eql 138 (.slice a l c) (.slice none 0 0)).run Tryz.prog w = .ok (.bool a.isNone) w := by
  exact Lib.run_eql_slice_nil w 138 3 a l c 0 0 Tryz.underlying138
set_option maxHeartbeats 1000000 in
theorem sclone_any (B : Nat) (v : Value) (l : List Int) (w : World) (h : Ints w B v l) (hl : l.length ≤ 400000) :
    Calls Tryz.prog 69 #[v] w fun e w' => ∃ v', e = .returned v' ∧ Ints w' w.heap.size v' l ∧ Below w.heap.size w w' := by
  rcases h.2 with ⟨rfl, h0⟩ | ⟨g, cap, cur, rfl, _⟩
  · have : l = [] := List.eq_nil_of_length_eq_zero h0
    subst this
    have hq := fun w => eql_nil w none 0 0
    go_enter Tryz.func69, Tryz.ntmps69
    go_wp2
    go_ret
    exact ⟨_, rfl, World.ownsRow_nil _ _ _ _, Below.refl _ _⟩
  · have hq := fun w => eql_nil w (some ⟨g, 0, none⟩) l.length cap
    have harg : ArgI w (.slice (some ⟨g, 0, none⟩) l.length cap) l := by
      by_cases hl0 : l = []
      · exact ⟨_, _, rfl, Or.inr ⟨_, rfl, fun i hi => by rw [hl0] at hi; simp at hi⟩⟩
      · obtain ⟨g2, cap2, e, _, _, _, _, hc, _⟩ := h.slice hl0
        simp only [Value.slice.injEq, Option.some.injEq, Addr.mk.injEq] at e
        obtain ⟨⟨rfl, _, _⟩, _, rfl⟩ := e
        exact ⟨_, _, rfl, Or.inr ⟨_, rfl, fun i hi => by rw [Addr.add_lit, Nat.zero_add]; exact hc i hi⟩⟩
    have hnil : Ints (w.alloc (.cells #[] 3)) w.heap.size (.slice (some ⟨w.heap.size, 0, none⟩) 0 0) [] := Ints.new w w.heap.size #[] [] (Nat.le_refl _) rfl (by simp [maxLen])
    have harg2 := harg.below ((Below.refl w.heap.size w).alloc (Nat.le_refl _) (.cells #[] 3))
    go_enter Tryz.func69, Tryz.ntmps69
    go_wp2_with (refine app_arg rfl _ _ _ _ Tryz.underlying138 Tryz.underlying138 rfl _ [] rfl hnil _ l rfl harg2 ?c1 ?c2 ?_; (case c1 => simp; omega); (case c2 => simp); intro v1 w1 hown1 hgrow1)
    go_ret
    rw [List.nil_append] at hown1
    refine ⟨v1, rfl, hown1, ((Below.refl w.heap.size w).alloc (Nat.le_refl _) (.cells #[] 3)).grown hgrow1 (by simp) (fun k hk => ?_)⟩
    have hk' : some w.heap.size = some k := hk
    simp only [Option.some.injEq] at hk'; omega
def ClonePost (w : World) (p : PD) (e : Ending) (w' : World) : Prop :=
  ∃ (g b : Nat) (v : Value), e = .returned (.pointer (some ⟨g, 0, none⟩)) ∧ PAt w' g v b p ∧ w.heap.size ≤ g ∧ w.heap.size ≤ b ∧ (∀ k, v.ownBlock = some k → w.heap.size ≤ k) ∧ Below w.heap.size w w'
set_option maxHeartbeats 2000000 in
theorem clone_any (w : World) (g b : Nat) (v : Value) (p : PD) (h : PAt w g v b p) (hi : PInv p) :
    Calls Tryz.prog 36 #[.pointer (some ⟨g, 0, none⟩)] w (ClonePost w p) := by
  have hc := (m_cells h.blk).1
  have c0 : w.cell? ⟨g, 0, none⟩ = some (.int .i64 p.most) := hc 0
  have c1 : w.cell? ⟨g, 1, none⟩ = some (.int .i64 p.fresh) := hc 1
  have c2 : w.cell? ⟨g, 2, none⟩ = some v := hc 2
  have c3 : w.cell? ⟨g, 3, none⟩ = some (.map (some b)) := hc 3
  have hbl := hi.back_len
  have hrow := h.row
  obtain ⟨es, clock, hmb, hcopy⟩ := h.mp.copy
  have Hmb := Lib.hid hmb
  have Hcopy := Lib.hid hcopy
  have hlt := h.lt
  clear hc hmb hcopy
  go_enter Tryz.func36, Tryz.ntmps36
  go_wp2_with fail
  go_region_held3 (fun w' => w'.cell? ⟨g, 0, none⟩ = some (.int .i64 p.most) ∧ w'.cell? ⟨g, 1, none⟩ = some (.int .i64 p.fresh) ∧ w'.cell? ⟨g, 2, none⟩ = some v ∧ w'.cell? ⟨g, 3, none⟩ = some (.map (some b)))
    (first | exact ⟨cell_later hbb c0, cell_later hbb c1, cell_later hbb c2, cell_later hbb c3⟩ | go_keep)
    (first
     | (go_at_call 69; refine (sclone_any 0 v p.back _ (by exact hrow) (by omega)).mono ?_; rintro e w1 ⟨v1, rfl, hown1, hb1⟩; obtain ⟨a1, n1, k1, rfl⟩ := hown1.isSlice; have hbb : Below w.heap.size w w1 := Below.trans (by repeat (first | exact Below.refl _ _ | assumption | (refine Below.drew ?_) | (refine below_drewN ?_ _) | (refine Below.alloc ?_ (by simp; done) _) | (refine Below.alloc ?_ (by simp; omega) _))) hb1)
     | (go_at_call 35; refine (mclone_any b es clock _ (by exact (hbb.block b h.mp.lt).trans Hmb.out)).mono ?_; rintro e w2 ⟨rfl, hw2⟩; have hbb : Below w.heap.size w w2 := by (subst hw2; exact hbb.alloc hbb.size _)))
  go_wp2_with fail
  go_ret
  have hbw1 : Below w.heap.size w w1 := Below.trans ((Below.refl w.heap.size w).drew) hb1
  have hs1 := hbw1.size
  have hown1' : Ints w1 0 (.slice a1 n1 k1) p.back := ⟨hown1.1, hown1.2.imp id (fun ⟨q1, q2, q3, q4, q5, q6⟩ => ⟨q1, q2, q3, q4, Nat.zero_le _, q6⟩)⟩
  have hown : ∀ k, (Value.slice a1 n1 k1).ownBlock = some k → w.heap.size ≤ k ∧ k < w1.heap.size := World.ownsRow.lt hown1
  refine ⟨w1.heap.size + 1, w1.heap.size, .slice a1 n1 k1, by simp, ⟨m_alloc _ _ _ (by simp), (World.ownsRow.alloc (World.ownsRow.alloc hown1' _) _), Hcopy.out _ _ (m_old _ (m_alloc _ _ _ rfl)), fun e => by have := (hown _ e).2; omega, by omega, fun e => by have := (hown _ e).2; omega⟩, by omega, hs1, fun k q => (hown k q).1, (hbw1.alloc hs1 _).alloc (by simp; omega) _⟩
end Go.Proofs.YtolilbcpfdnkjaaGreat
