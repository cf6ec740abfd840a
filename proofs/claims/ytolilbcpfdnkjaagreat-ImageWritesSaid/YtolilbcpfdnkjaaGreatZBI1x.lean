/- ids: a pool in memory; Give, Out. -/
import Derived.Test.YtolilbcpfdnkjaaGreatZBG0x
import Derived.Test.YtolilbcpfdnkjaaGreatZBMapsA
import Derived.Test.YtolilbcpfdnkjaaGreatZBH4x
namespace Go.Proofs.YtolilbcpfdnkjaaGreat
open Go.RowKit
set_option linter.unusedSimpArgs false
/-- A pool, by value. -/
structure PD where
  (most fresh : Nat) (back : List Int) (out : List (Int × Int))
@[reducible] def PD.cells (p : PD) (v : Value) (b : Nat) : Array Value := #[.int .i64 p.most, .int .i64 p.fresh, v, .map (some b)]
/-- A pool in memory. -/
structure PAt (w : World) (g : Nat) (v : Value) (b : Nat) (p : PD) : Prop where
  blk : w.heap[g]? = some (.cells #[.int .i64 p.most, .int .i64 p.fresh, v, .map (some b)] 142 (0, 0))
  row : Ints w 0 v p.back
  mp : IMap (Value.int .i64) w b p.out
  ne1 : v.ownBlock ≠ some g
  ne2 : b ≠ g
  ne3 : v.ownBlock ≠ some b
def pfoot (g : Nat) (v : Value) (b : Nat) (k : Nat) : Prop := k = g ∨ k = b ∨ some k = v.ownBlock
/-- What holds of each pool. -/
structure PInv (p : PD) : Prop where
  most : p.most ≤ 200
  ones : ∀ q ∈ p.out, q.2 = 1
  keys : ∀ k ∈ mkeys p.out, 1 ≤ k ∧ k ≤ p.most
  nodup : (mkeys p.out).Nodup
  heap : ∀ k, HCond p.back p.back.length k
  bnodup : p.back.Nodup
  f1 : 1 ≤ p.fresh
  f2 : p.fresh ≤ p.most + 1
  back : ∀ x ∈ p.back, 1 ≤ x ∧ x < p.fresh ∧ x ∉ mkeys p.out
  below : ∀ m : Nat, 1 ≤ m → m < p.fresh → (m : Int) ∈ mkeys p.out ∨ (m : Int) ∈ p.back
theorem nodup_bound : ∀ (n : Nat) (l : List Int), l.Nodup → (∀ x ∈ l, 1 ≤ x ∧ x ≤ n) → l.length ≤ n := by
  intro n
  induction n with
  | zero =>
    intro l _ h
    rcases l with _ | ⟨x, l⟩
    · simp
    · have := h x (List.mem_cons_self ..); omega
  | succ n ih =>
    intro l hn h
    by_cases e : ((n + 1 : Nat) : Int) ∈ l
    · have h2 := ih (l.erase ((n + 1 : Nat) : Int)) (hn.erase _) (fun x hx => by
        have h3 := h x (List.mem_of_mem_erase hx)
        have : x ≠ ((n + 1 : Nat) : Int) := by
          intro q; subst q
          exact absurd hx (by rw [hn.mem_erase_iff]; simp)
        omega)
      rw [List.length_erase_of_mem e] at h2
      omega
    · exact Nat.le_succ_of_le (ih l hn (fun x hx => by
        have h3 := h x hx
        have : x ≠ ((n + 1 : Nat) : Int) := fun q => e (by rw [← q]; exact hx)
        omega))
theorem PInv.back_len {p : PD} (h : PInv p) : p.back.length ≤ 200 := by
  have := nodup_bound p.most p.back h.bnodup (fun x hx => by have := h.back x hx; have := h.f2; omega)
  have := h.most; omega
theorem PInv.out_len {p : PD} (h : PInv p) : p.out.length ≤ 200 := by
  have := nodup_bound p.most (mkeys p.out) h.nodup h.keys
  have h2 := h.most
  simp [mkeys] at this; omega
theorem PInv.get {p : PD} (h : PInv p) (k : Int) : (mget p.out k = none ∧ k ∉ mkeys p.out) ∨ (mget p.out k = some 1 ∧ k ∈ mkeys p.out) := by
  cases e : mget p.out k with
  | none => exact Or.inl ⟨rfl, (mget_none_iff _ _).1 e⟩
  | some v =>
    refine Or.inr ⟨?_, ?_⟩
    · unfold mget at e
      cases f : p.out.find? (fun q => q.1 == k) with
      | none => rw [f] at e; simp at e
      | some q =>
        rw [f] at e
        simp only [Option.map_some, Option.some.injEq] at e
        have := h.ones q (List.mem_of_find?_eq_some f)
        rw [← e, this]
    · by_cases q : k ∈ mkeys p.out
      · exact q
      · rw [(mget_none_iff _ _).2 q] at e; cases e
theorem zero_int (w : World) : (zeroValue 3).run Tryz.prog w = .ok (.int .i64 0) w := by kernel_rfl
set_option maxHeartbeats 1000000 in
theorem out_any (w : World) (g b : Nat) (v : Value) (p : PD) (h : PAt w g v b p) :
    Calls Tryz.prog 54 #[.pointer (some ⟨g, 0, none⟩)] w fun e w' => e = .returned (.int .i64 p.out.length) ∧ w = w' := by
  obtain ⟨hc, hf⟩ := m_cells h.blk
  have hl := h.mp.len (P := Tryz.prog) Tryz.underlying75 3
  have c3 := hc 3
  have Hc := Lib.hid hc
  clear hc
  go_enter Tryz.func54, Tryz.ntmps54
  go_wp2
  go_ret
  exact ⟨rfl, rfl⟩
def GivePost (w : World) (g b : Nat) (v : Value) (p : PD) (n : Int) (e : Ending) (w' : World) : Prop :=
  ∃ p' v', e = .returned (.bool (decide (n ∈ mkeys p.out))) ∧ PAt w' g v' b p' ∧ PInv p' ∧ p'.most = p.most ∧ (∀ k, k ∈ mkeys p'.out ↔ k ∈ mkeys p.out ∧ k ≠ n) ∧
    (∀ k, v'.ownBlock = some k → v.ownBlock = some k ∨ w.heap.size ≤ k) ∧ Keep (pfoot g v b) w w'
theorem mem_mdel {V : Type} (L : List (Int × V)) (n k : Int) : k ∈ mkeys (mdel L n) ↔ k ∈ mkeys L ∧ k ≠ n := by rw [mkeys_del]; simp
/-- The map has turned, nothing else. -/
theorem PAt.map_turned {w w' : World} {g b : Nat} {v : Value} {p : PD} {out' : List (Int × Int)} (h : PAt w g v b p) (hm : IMap (Value.int .i64) w' b out') (hk : Keep (fun i => i = b) w w') : PAt w' g v b { p with out := out' } :=
  ⟨m_keep h.blk hk h.ne2.symm, h.row.kept (fun k hk' => hk.block k (World.ownsRow.lt h.row k hk').2 (fun e => h.ne3 (by rw [hk', e]))), hm, h.ne1, h.ne2, h.ne3⟩
theorem PAt.heapAt {w : World} {g b : Nat} {v : Value} {p : PD} (h : PAt w g v b p) : HAt w 0 g 2 (p.cells v b) 142 v p.back := ⟨h.blk, rfl, h.row, h.ne1⟩
theorem PAt.of_heap {w1 w2 : World} {g b : Nat} {v v3 : Value} {p : PD} {l3 : List Int} (h : PAt w1 g v b p) (h3 : HAt w2 0 g 2 ((p.cells v b).setIfInBounds 2 v3) 142 v3 l3)
    (hk : Keep (fun k => k = g ∨ some k = v.ownBlock) w1 w2) (hv : ∀ k, v3.ownBlock = some k → v.ownBlock = some k ∨ w1.heap.size ≤ k) : PAt w2 g v3 b { p with back := l3 } :=
  ⟨h3.blk, h3.row, h.mp.keep hk (fun q => q.elim (fun e => h.ne2 e) (fun e => h.ne3 e.symm)), h3.ne, h.ne2, fun e => (hv b e).elim h.ne3 (fun q => absurd h.mp.lt (Nat.not_lt.2 q))⟩
theorem PInv.give_low {p : PD} (h : PInv p) {n : Int} (hn : n ∈ mkeys p.out) (hlt : n < p.fresh) {l3 : List Int} (hp : l3.Perm (p.back ++ [n])) (hc : ∀ k, HCond l3 l3.length k) : PInv { p with back := l3, out := mdel p.out n } := by
  have hm : ∀ k, k ∈ l3 ↔ k ∈ p.back ∨ k = n := fun k => by rw [hp.mem_iff]; simp
  refine ⟨h.most, fun q hq => h.ones q (List.mem_filter.1 hq).1, fun k hk => h.keys k ((mem_mdel _ _ _).1 hk).1, nodup_del _ _ h.nodup, hc, ?_, h.f1, h.f2, fun x hx => ?_, fun m q1 q2 => ?_⟩
  · refine hp.nodup_iff.2 ?_
    rw [List.nodup_append]
    exact ⟨h.bnodup, by simp, fun a ha c hc' => by simp at hc'; subst hc'; exact fun e => (h.back a ha).2.2 (by rw [e]; exact hn)⟩
  · rcases (hm x).1 hx with q | q
    · have := h.back x q
      exact ⟨this.1, this.2.1, fun e => this.2.2 ((mem_mdel _ _ _).1 e).1⟩
    · subst q
      exact ⟨(h.keys x hn).1, hlt, fun e => ((mem_mdel _ _ _).1 e).2 rfl⟩
  · by_cases e : (m : Int) = n
    · exact Or.inr ((hm _).2 (Or.inr e))
    · rcases h.below m q1 q2 with q | q
      · exact Or.inl ((mem_mdel _ _ _).2 ⟨q, e⟩)
      · exact Or.inr ((hm _).2 (Or.inl q))
theorem PInv.give_high {p : PD} (h : PInv p) {n : Int} (hge : ¬ n < p.fresh) : PInv { p with out := mdel p.out n } := by
  refine ⟨h.most, fun q hq => h.ones q (List.mem_filter.1 hq).1, fun k hk => h.keys k ((mem_mdel _ _ _).1 hk).1, nodup_del _ _ h.nodup, h.heap, h.bnodup, h.f1, h.f2, fun x hx => ?_, fun m q1 q2 => ?_⟩
  · have := h.back x hx
    exact ⟨this.1, this.2.1, fun e => this.2.2 ((mem_mdel _ _ _).1 e).1⟩
  · rcases h.below m q1 q2 with q | q
    · exact Or.inl ((mem_mdel _ _ _).2 ⟨q, by show (m : Int) ≠ n; have q2' : m < p.fresh := q2; omega⟩)
    · exact Or.inr q
theorem pfoot_of {g b : Nat} {v : Value} : (∀ i, i = b → pfoot g v b i) ∧ (∀ i, (i = g ∨ some i = v.ownBlock) → pfoot g v b i) :=
  ⟨fun _ h => Or.inr (Or.inl h), fun _ h => h.elim Or.inl (fun q => Or.inr (Or.inr q))⟩
set_option maxHeartbeats 2000000 in
theorem give_any (w : World) (g b : Nat) (v : Value) (p : PD) (n : Int) (h : PAt w g v b p) (hi : PInv p) :
    Calls Tryz.prog 72 #[.pointer (some ⟨g, 0, none⟩), .int .i64 n] w (GivePost w g b v p n) := by
  have hc := (m_cells h.blk).1
  have hlk := h.mp.lookup (P := Tryz.prog) Tryz.underlying75 Tryz.underlying3 zero_int n false
  have c1 : w.cell? ⟨g, 1, none⟩ = some (.int .i64 p.fresh) := hc 1
  have c3 : w.cell? ⟨g, 3, none⟩ = some (.map (some b)) := hc 3
  clear hc
  rcases hi.get n with ⟨e1, e2⟩ | ⟨e1, e2⟩
  · rw [e1] at hlk
    simp only [Bool.false_eq_true, if_false] at hlk
    have He := Lib.hid e2
    clear e1 e2
    go_enter Tryz.func72, Tryz.ntmps72
    go_wp2
    go_ret
    exact ⟨p, v, ret_bool (by rw [decide_eq_false He.out]), h, hi, rfl, fun k => ⟨fun q => ⟨q, fun e => He.out (by rw [← e]; exact q)⟩, fun q => q.1⟩, fun k q => Or.inl q, Keep.refl _ _⟩
  · rw [e1] at hlk
    simp only [Bool.false_eq_true, if_false] at hlk
    have He := Lib.hid e2
    clear e1 e2
    have hrange := hi.keys n He.out
    have hf2 := hi.f2
    have hmost := hi.most
    by_cases hlt : n < p.fresh
    · have HI := Lib.hid hi
      have H := Lib.hid h
      clear hi h
      go_enter Tryz.func72, Tryz.ntmps72
      go_wp2_with (first
        | (refine map_del (tk := 3) (te := 3) rfl _ _ rfl Tryz.underlying75 Tryz.underlying3 n rfl rfl H.out.mp ?_; intro w1 hm1 k1; have h1 := H.out.map_turned hm1 k1; have d1 : w1.cell? ⟨g, 1, none⟩ = some (.int .i64 p.fresh) := (m_cells h1.blk).1 1)
        | (go_at_call 98; fail))
      refine (Bk.hpush_any 0 g 2 _ _ v p.back n _ h1.heapAt (by have := HI.out.back_len; show p.back.length < 300000; omega) (Nat.zero_le _) HI.out.heap).mono ?_
      rintro e w2 ⟨rfl, l3, v3, h3, hp3, hc3, hv3, k3⟩
      go_wp2_with fail
      go_ret
      have hk1 : Keep (pfoot g v b) w w1 := k1.mono (fun i hi => Or.inl (pfoot_of.1 i hi))
      have hk := hk1.trans' k3 (fun i hi => Or.inl (pfoot_of.2 i hi))
      exact ⟨_, v3, ret_bool (by rw [decide_eq_true He.out]), h1.of_heap h3 k3 hv3, HI.out.give_low He.out hlt hp3 hc3, rfl, fun k => mem_mdel _ _ _, fun k q => (hv3 k q).imp id (fun q => Nat.le_trans k1.size q), hk⟩
    · have HI := Lib.hid hi
      have H := Lib.hid h
      clear hi h
      go_enter Tryz.func72, Tryz.ntmps72
      go_wp2_with (first
        | (refine map_del (tk := 3) (te := 3) rfl _ _ rfl Tryz.underlying75 Tryz.underlying3 n rfl rfl H.out.mp ?_; intro w1 hm1 k1; have h1 := H.out.map_turned hm1 k1; have d1 : w1.cell? ⟨g, 1, none⟩ = some (.int .i64 p.fresh) := (m_cells h1.blk).1 1)
        | (go_at_call 98; fail))
      go_ret
      exact ⟨_, v, ret_bool (by rw [decide_eq_true He.out]), h1, HI.out.give_high (Int.not_lt.2 hlt), rfl, fun k => mem_mdel _ _ _, fun k q => Or.inl q, k1.mono (fun i hi => Or.inl (pfoot_of.1 i hi))⟩
end Go.Proofs.YtolilbcpfdnkjaaGreat
