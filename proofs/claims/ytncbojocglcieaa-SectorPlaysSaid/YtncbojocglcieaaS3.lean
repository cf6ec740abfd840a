/- sector: New, Flush, Restart. -/
import Derived.Test.YtncbojocglcieaaS2
import Derived.Deep.RegionWith
import Derived.BigRegion
namespace Go.Proofs.Ytncbojocglcieaa
open Go.RowKit
set_option linter.unusedSimpArgs false
set_option linter.unusedVariables false
theorem contains_any (w : World) (kv : Value) (l : List Int) (x : Int) (h : Arg EInt w kv l) (hl : l.length ≤ maxLen) :
    Calls Try.prog 57 #[kv, .int .i64 x] w fun e w' => e = .returned (.bool (decide (x ∈ l))) ∧ w' = w := by
  by_cases h0 : l = []
  · subst h0
    obtain ⟨a, c, rfl⟩ := h.shape
    refine (Try.slices_Contains_int_empty a c x w).mono ?_
    rintro e w1 ⟨rfl, rfl⟩
    exact ⟨by simp, rfl⟩
  · obtain ⟨b, off, cap, rfl, hc⟩ := h.cells h0
    unfold maxLen at hl
    refine (Try.slices_Contains_int b off l.length cap l x w (Nat.le_refl _) hl (fun j hj => ?_)).mono ?_
    · have := hc j (l.getD j 0) (by simp [hj]) 0 (by decide)
      simpa [EInt] using this
    · rintro e w1 ⟨rfl, rfl⟩
      exact ⟨by rw [List.take_of_length_le (Nat.le_refl _)]; simp, rfl⟩
set_option maxRecDepth 100000 in
set_option maxHeartbeats 1000000 in
theorem mclone_str (b : Nat) (es : Array MapEntry) (clock : Nat) (w : World) (hb : w.heap[b]? = some (.map es clock)) :
    Calls Try.prog 56 #[.map (some b)] w fun e w' => e = .returned (.map (some w.heap.size)) ∧ w' = w.alloc (.map es clock) := by
  have hq := fun w => run_eql_map_nil_sl (P := Try.prog) w 98 _ _ (some b) Try.underlying98
  go_enter Try.func56, Try.ntmps56
  go_wp2
  rw [run_callFunc_extern Try.func77 (by kernel_rfl) (by kernel_rfl) (by kernel_rfl) (e := Extern.MapsClone.clone) (by kernel_rfl), run_maps_clone_sl w 98 hb]
  simp only [Result.andThen]
  rw [Oper.upon_value]
  go_wp2
  rw [run_typeAssert_map_sl _ 98 20 _ _ _ Try.underlying98]
  simp only [Result.andThen]
  rw [Oper.upon_value]
  go_wp2
  go_ret
  exact ⟨rfl, rfl⟩
theorem IMap.copy {V : Type} {enc : V → Value} {w : World} {b : Nat} {L : List (Int × V)} (h : IMap enc w b L) : ∃ es clock, w.heap[b]? = some (.map es clock) ∧ ∀ (w' : World) (k : Nat), w'.heap[k]? = some (.map es clock) → IMap enc w' k L := by
  obtain ⟨es, clock, hb, r⟩ := h
  exact ⟨es, clock, hb, fun w' k q => ⟨es, clock, q, r⟩⟩
theorem IMap.mk0 {V : Type} {enc : V → Value} {w : World} {b : Nat} (h : w.heap[b]? = some (.map #[] 0)) : IMap enc w b [] := ⟨#[], 0, h, rfl, by simp [mkeys]⟩
theorem DAt.below {w w' : World} {g a b : Nat} {qv : Value} {d : DevD} (h : DAt w g a b qv d) (hb : Below w.heap.size w w') : DAt w' g a b qv d := h.keep (Keep.below hb) (fun _ hi q => absurd (h.foot_lt hi) (Nat.not_lt.2 q))
theorem DAt.safe_turned {w w' : World} {g a b : Nat} {qv : Value} {d : DevD} {s : List (Int × ByteArray)} (h : DAt w g a b qv d) (hm : IMap Value.string w' a s) (k : Keep (fun i => i = a) w w') : DAt w' g a b qv { d with safe := s } :=
  ⟨m_keep h.blk k h.nag.symm, hm, h.seen.keep k h.nab.symm, h.row.keep k (fun i hi q => h.nqa (by rw [hi, q])), h.nab, h.nag, h.nbg, h.nqa, h.nqb, h.nqg⟩
def NewDev (w : World) (n : Nat) (e : Ending) (w' : World) : Prop :=
  ∃ (F : Nat → Prop) (g : Nat), e = .returned (.pointer (some ⟨g, 0, none⟩)) ∧ Dev w' F g ⟨n, [], [], [], -1⟩ ∧ (∀ k, F k → w.heap.size ≤ k) ∧ Below w.heap.size w w'
set_option maxHeartbeats 1000000 in
theorem newdev_any (n : Int) (w : World) : Calls Try.prog 17 #[.int .i64 n] w (NewDev w (min (max n 0) 4096).toNat) := by
  obtain ⟨m, hm⟩ : ∃ m : Nat, (min (max n 0) 4096) = (m : Int) := ⟨(min (max n 0) 4096).toNat, by omega⟩
  have hm2 : m ≤ 4096 := by omega
  rw [hm, Int.toNat_natCast]
  have hmm := @run_makeMap Try.prog
  have key : ∀ m : Nat, Dev ((((w.alloc (.map #[] 0)).alloc (.map #[] 0)).alloc (.cells #[.int .i64 m, .map (some w.heap.size), .map (some (w.heap.size + 1)), .slice none 0 0, .int .i64 (-1)] 101 (0, 0)))) (dfoot (w.heap.size + 2) w.heap.size (w.heap.size + 1) (.slice none 0 0)) (w.heap.size + 2) ⟨m, [], [], [], -1⟩ := fun m =>
    ⟨_, _, _, rfl, m_alloc _ _ _ (by simp), IMap.mk0 (m_old _ (m_old _ (m_alloc _ _ _ rfl))), IMap.mk0 (m_old _ (m_alloc _ _ _ (by simp))), Row.nil _ _ _, by omega, by omega, by omega, by simp [Value.ownBlock], by simp [Value.ownBlock], by simp [Value.ownBlock]⟩
  have hge : ∀ k, dfoot (w.heap.size + 2) w.heap.size (w.heap.size + 1) (.slice none 0 0) k → w.heap.size ≤ k := fun k q => by
    rcases q with q | q | q | q
    · omega
    · omega
    · omega
    · simp [Value.ownBlock] at q
  have hbel : ∀ o1 o2 o3, Below w.heap.size w (((w.alloc o1).alloc o2).alloc o3) := fun o1 o2 o3 => (((Below.refl _ _).alloc (Nat.le_refl _) _).alloc (by simp) _).alloc (by simp; omega) _
  have K1 := Lib.hid key
  have K2 := Lib.hid hge
  have K3 := Lib.hid hbel
  clear key hge hbel
  have HM := Lib.hid hm
  clear hm
  go_enter Try.func17, Try.ntmps17
  go_wp2
  go_ret
  refine ⟨_, _, rfl, ?_, K2.out, K3.out _ _ _⟩
  have := K1.out m
  rw [← HM.out] at this
  exact this
set_option maxHeartbeats 1000000 in
theorem flush_any (w : World) (F : Nat → Prop) (g : Nat) (d : DevD) (h : Dev w F g d) :
    Calls Try.prog 20 #[.pointer (some ⟨g, 0, none⟩)] w fun e w' => e = .returned (.int .i64 (if d.left = 0 then 13 else 0)) ∧ Stepped w F g (if d.left = 0 then d else d.flush) w' := by
  have HD := Lib.hid h
  obtain ⟨a, b, qv, rfl, h⟩ := h
  obtain ⟨c, f⟩ := m_cells h.blk
  have c2 : w.cell? ⟨g, 2, none⟩ = some (.map (some b)) := c 2
  have c4 : w.cell? ⟨g, 4, none⟩ = some (.int .i64 d.left) := c 4
  have H := Lib.hid h
  have hlt := m_lt h.blk
  by_cases h0 : d.left = 0
  · rw [if_pos h0, if_pos h0]
    clear c f h
    go_enter Try.func20, Try.ntmps20
    go_wp2
    go_ret
    exact ⟨rfl, Stepped.refl HD.out⟩
  · rw [if_neg h0, if_neg h0]
    have n2 : (d.left == 0) = false := by simpa using h0
    obtain ⟨es, clock, hmb, hcopy⟩ := h.seen.copy
    have Hcopy := Lib.hid hcopy
    clear c f h h0 hcopy
    go_enter Try.func20, Try.ntmps20
    go_wp2_with fail
    refine (mclone_str b es clock _ hmb).mono ?_
    rintro e w1 ⟨rfl, hw1⟩
    have hb1 : Below w.heap.size w w1 := by rw [hw1]; exact (Below.refl _ _).alloc (Nat.le_refl _) _
    have hm1 : w1.heap[w.heap.size]? = some (.map es clock) := by rw [hw1]; exact m_alloc _ _ _ rfl
    have hn : w.heap.size < w1.heap.size := m_lt hm1
    have H1 := Lib.hid (H.out.below hb1)
    have c1 : w1.cell? ⟨g, 1, none⟩ = some (.map (some a)) := (m_cells H1.out.blk).1 1
    have c3 : w1.cell? ⟨g, 3, none⟩ = some qv := (m_cells H1.out.blk).1 3
    have f1 := (m_cells H1.out.blk).2 1
    have f3 := (m_cells H1.out.blk).2 3
    clear hw1
    obtain ⟨n, hN⟩ : ∃ n, w.heap.size = n := ⟨_, rfl⟩
    rw [hN] at hm1 hn ⊢
    go_wp2_with fail
    go_ret
    have kg : Keep (fun k => k = g) w1 ((w1.setCell ⟨g, 1, none⟩ (.map (some n))).setCell ⟨g, 3, none⟩ (.slice none 0 0)) := ((Keep.refl (fun k => k = g) w1).set g 1 _ (Or.inl rfl)).set g 3 _ (Or.inl rfl)
    refine ⟨rfl, Stepped.of (a' := n) (b' := b) (qv' := .slice none 0 0) ⟨?_, ?_, H1.out.seen.keep kg H.out.nbg, Row.nil _ _ _, ?_, ?_, H.out.nbg, by simp [Value.ownBlock], by simp [Value.ownBlock], by simp [Value.ownBlock]⟩ ((keepBelow hb1).trans (kg.mono (fun i q => Or.inl (Or.inl q)))) (Or.inr (by omega)) (Or.inl rfl) (fun k q => by simp [Value.ownBlock] at q)⟩
    · exact m_set (m_set H1.out.blk 1 _) 3 _
    · exact Hcopy.out _ _ (m_set_ne (m_set_ne hm1 g 1 _ (by omega)) g 3 _ (by omega))
    · have := H.out.seen.lt; omega
    · omega
def RestRel (w : World) (g a b : Nat) (qv : Value) (d : DevD) (kept : List Int) (iv : Value) (wr : World) : Prop :=
  ∃ i : Nat, iv = .int .i64 i ∧ i ≤ d.queue.length ∧ DAt wr g a b qv { d with safe := keepers kept 0 (d.queue.take i) d.safe } ∧ Keep (dfoot g a b qv) w wr
set_option maxHeartbeats 2000000 in
theorem restart_any (w : World) (F : Nat → Prop) (g : Nat) (d : DevD) (kv : Value) (kept : List Int) (h : Dev w F g d) (harg : ∀ w', Keep F w w' → Arg EInt w' kv kept) (hk : kept.length ≤ maxLen) (hq : d.queue.length ≤ 1000000) :
    Calls Try.prog 22 #[.pointer (some ⟨g, 0, none⟩), kv] w fun e w' => e = .returned (.tuple #[]) ∧ Stepped w F g (d.restart kept) w' := by
  have HD := Lib.hid h
  obtain ⟨a, b, qv, rfl, h⟩ := h
  have c3 : w.cell? ⟨g, 3, none⟩ = some qv := (m_cells h.blk).1 3
  obtain ⟨qa, qc, rfl⟩ := h.row.shape
  have H := Lib.hid h
  have Harg := Lib.hid harg
  obtain ⟨ka, kc, rfl⟩ := (harg w (Keep.refl _ w)).shape
  clear h harg
  go_enter Try.func22, Try.ntmps22
  go_wp2_with fail
  go_loopw [4, 5, 11] (fun _ _ iv wr => RestRel w g a b (.slice qa d.queue.length qc) d kept iv wr) (fun _ _ iv _ => d.queue.length - (intOf iv).toNat)
  case atStart => exact ⟨0, rfl, Nat.zero_le _, H.out, Keep.refl _ _⟩
  case round =>
    obtain ⟨i, rfl, hi, hat, hkeep⟩ := hrel
    by_cases hlt : i < d.queue.length
    · obtain ⟨p, hp⟩ : ∃ p, d.queue[i]? = some p := ⟨_, List.getElem?_eq_getElem hlt⟩
      obtain ⟨qg, qcap, e, _, hqlt, _, _, hcell, _⟩ := hat.row.slice (by intro q; have : d.queue = [] := q; rw [this] at hlt; simp at hlt)
      simp only [Value.slice.injEq] at e
      obtain ⟨rfl, _, rfl⟩ := e
      have y0 : wr.cell? ⟨qg, i * 2, none⟩ = some (.int .i64 p.1) := hcell i p hp 0 (by decide)
      have y1 : wr.cell? ⟨qg, i * 2 + 1, none⟩ = some (.string p.2) := hcell i p hp 1 (by decide)
      have c1 : wr.cell? ⟨g, 1, none⟩ = some (.map (some a)) := (m_cells hat.blk).1 1
      have Hat := Lib.hid hat
      have hglt := m_lt hat.blk
      have i2 : (i : Int) < d.queue.length := by omega
      have Harg1 := Lib.hid (Harg.out wr hkeep)
      clear hat hcell
      go_wp2_with fail
      refine (contains_any _ _ kept i (Harg1.out.keep ((Keep.refl (fun _ => False) wr).alloc _) (fun _ _ q => q)) hk).mono ?_
      rintro e w1 ⟨rfl, hw1⟩
      have hb1 : Below wr.heap.size wr w1 := by rw [hw1]; exact (Below.refl _ _).alloc (Nat.le_refl _) _
      have hl1 : w1.heap[wr.heap.size]? = some (.cells #[.int .i64 p.1, .string p.2] 104 (0, 0)) := by rw [hw1]; exact m_alloc _ _ _ rfl
      have hn : wr.heap.size < w1.heap.size := m_lt hl1
      have H1 := Lib.hid (Hat.out.below hb1)
      have c1 : w1.cell? ⟨g, 1, none⟩ = some (.map (some a)) := (m_cells H1.out.blk).1 1
      have l0 : w1.cell? ⟨wr.heap.size, 0, none⟩ = some (.int .i64 p.1) := (m_cells hl1).1 0
      have l1 : w1.cell? ⟨wr.heap.size, 1, none⟩ = some (.string p.2) := (m_cells hl1).1 1
      have Hn0 := Lib.hid hb1
      have hsn := keepers_snoc kept p (d.queue.take i) 0 d.safe
      have ht : d.queue.take (i + 1) = d.queue.take i ++ [p] := by rw [List.take_succ_eq_append_getElem hlt, (List.getElem?_eq_some_iff.1 hp).2]
      rw [← ht, List.length_take, Nat.min_eq_left hi, Nat.zero_add] at hsn
      have Hsn := Lib.hid hsn
      clear hw1 hb1 hl1 y0 y1 hsn ht
      have hNs : wr.heap.size = wr.heap.size := rfl
      generalize hN : wr.heap.size = n at l0 l1 hn hglt hqlt ⊢
      clear hNs
      by_cases hin : (i : Int) ∈ kept
      · have Hin := Lib.hid hin
        rw [decide_eq_true hin]
        clear hin
        go_wp2_with fail
        obtain ⟨w2, hr2, hm2, k2⟩ := (show IMap Value.string w1.drew a _ from H1.out.safe.blk rfl).update (P := Try.prog) Try.underlying98 Try.underlying3 p.1 p.2
        have H2 := Lib.hid (show DAt w1.drew g a b _ _ from H1.out.keep (Keep.refl (fun _ => False) w1).drew (fun _ _ q => q))
        have HR := Lib.hid (And.intro hm2 k2)
        clear hm2 k2
        go_region
        go_wp2_with fail
        have hm2 := HR.out.1
        have k2 := HR.out.2
        refine ⟨⟨i + 1, by go_num, hlt, ?_, ?_⟩, by simp [intOf]; omega⟩
        · rw [Hsn.out, if_pos Hin.out]
          exact H2.out.safe_turned hm2 k2
        · exact hkeep.trans' (((keepBelow (F := fun k => k = a) Hn0.out).drew).trans k2) (fun k q => Or.inl (Or.inr (Or.inl q)))
      · have Hin := Lib.hid hin
        rw [decide_eq_false hin]
        clear hin
        go_wp2_with fail
        refine ⟨⟨i + 1, by go_num, hlt, ?_, ?_⟩, by simp [intOf]; omega⟩
        · rw [Hsn.out, if_neg Hin.out]
          exact H1.out
        · exact hkeep.trans (keepBelow Hn0.out)
    · have ei : d.queue.take i = d.queue := List.take_of_length_le (by omega)
      rw [ei] at hat
      have hfold : keepers kept 0 d.queue d.safe = d.kept kept := rfl
      rw [hfold] at hat
      have hres : d.restart kept = { d with safe := d.kept kept, seen := d.kept kept, queue := [], left := -1 } := rfl
      generalize d.kept kept = s at *
      have Hres := Lib.hid hres
      clear hres
      have c1 : wr.cell? ⟨g, 1, none⟩ = some (.map (some a)) := (m_cells hat.blk).1 1
      obtain ⟨es, clock, hmb, hcopy⟩ := hat.safe.copy
      have Hcopy := Lib.hid hcopy
      have Hat := Lib.hid hat
      clear hat hcopy hfold ei
      go_wp2_with fail
      refine (mclone_str a es clock _ hmb).mono ?_
      rintro e w1 ⟨rfl, hw1⟩
      have hb1 : Below wr.heap.size wr w1 := by rw [hw1]; exact (Below.refl _ _).alloc (Nat.le_refl _) _
      have hm1 : w1.heap[wr.heap.size]? = some (.map es clock) := by rw [hw1]; exact m_alloc _ _ _ rfl
      have hn : wr.heap.size < w1.heap.size := m_lt hm1
      have hglt := m_lt Hat.out.blk
      have hal := Hat.out.safe.lt
      have H1 := Lib.hid (Hat.out.below hb1)
      have c1 : w1.cell? ⟨g, 2, none⟩ = some (.map (some b)) := (m_cells H1.out.blk).1 2
      have c3 : w1.cell? ⟨g, 3, none⟩ = some (.slice qa d.queue.length qc) := (m_cells H1.out.blk).1 3
      have c4 : w1.cell? ⟨g, 4, none⟩ = some (.int .i64 d.left) := (m_cells H1.out.blk).1 4
      have f2 := (m_cells H1.out.blk).2 2
      have f3 := (m_cells H1.out.blk).2 3
      have f4 := (m_cells H1.out.blk).2 4
      have hwn := hkeep.size
      clear hw1
      obtain ⟨n, hN⟩ : ∃ n, wr.heap.size = n := ⟨_, rfl⟩
      rw [hN] at hm1 hn hwn hglt hal ⊢
      go_wp2_with fail
      go_end0
      have kg : Keep (fun k => k = g) w1 (((w1.setCell ⟨g, 2, none⟩ (.map (some n))).setCell ⟨g, 3, none⟩ (.slice none 0 0)).setCell ⟨g, 4, none⟩ (.int .i64 (-1))) := (((Keep.refl (fun k => k = g) w1).set g 2 _ (Or.inl rfl)).set g 3 _ (Or.inl rfl)).set g 4 _ (Or.inl rfl)
      rw [Hres.out]
      refine ⟨rfl, Stepped.of (a' := a) (b' := n) (qv' := .slice none 0 0) ⟨?_, H1.out.safe.keep kg H.out.nag, ?_, Row.nil _ _ _, ?_, H.out.nag, ?_, by simp [Value.ownBlock], by simp [Value.ownBlock], by simp [Value.ownBlock]⟩ ((hkeep.trans (keepBelow hb1)).trans (kg.mono (fun i q => Or.inl (Or.inl q)))) (Or.inl rfl) (Or.inr (by omega)) (fun k q => by simp [Value.ownBlock] at q)⟩
      · exact m_set (m_set (m_set H1.out.blk 2 _) 3 _) 4 _
      · exact Hcopy.out _ _ (m_set_ne (m_set_ne (m_set_ne hm1 g 2 _ (by omega)) g 3 _ (by omega)) g 4 _ (by omega))
      · omega
      · omega
end Go.Proofs.Ytncbojocglcieaa
