/- tree: below, the walk. -/
import Derived.Test.YtolilbcpfdnkjaaU6
import Derived.Laws.EntriesVeiled
namespace Go.Proofs.Ytolilbcpfdnkjaa
open Go.RowKit
set_option linter.unusedSimpArgs false
set_option linter.unusedVariables false
def wcap (bN bT bW : Nat) : Array Value := #[.pointer (some ⟨bN, 0, none⟩), .pointer (some ⟨bT, 0, none⟩), .pointer (some ⟨bW, 0, none⟩)]
set_option maxRecDepth 100000 in
set_option maxHeartbeats 1000000 in
theorem bclos_any (x : Ent) (bN bT bW : Nat) (b : Bool) (w : World) (n3 : w.cell? ⟨bW, 0, none⟩ = some (.func (.func 72) #[] #[.pointer (some ⟨bN, 0, none⟩), .pointer (some ⟨bT, 0, none⟩), .pointer (some ⟨bW, 0, none⟩)]))
    (hc : ∀ o, Calls Try.prog 72 #[.int .i64 x.node, .pointer (some ⟨bN, 0, none⟩), .pointer (some ⟨bT, 0, none⟩), .pointer (some ⟨bW, 0, none⟩)] (w.alloc o) fun e w' => e = .returned (.bool b) ∧ Below (w.alloc o).heap.size (w.alloc o) w') :
    Calls Try.prog 74 #[x.val, .pointer (some ⟨bW, 0, none⟩)] w fun e w' => e = .returned (.bool b) ∧ Below w.heap.size w w' := by
  have hbw : ∀ o, Below w.heap.size w (w.alloc o) := fun o => (Below.refl _ _).alloc (Nat.le_refl _) o
  have c0 := fun o => cell_later (hbw o) n3
  have HB := Lib.hid hbw
  have HC := Lib.hid hc
  clear hbw hc n3
  go_enter Try.func74, Try.ntmps74
  go_wp2_with fail
  refine (HC.out _).mono ?_
  rintro e w1 ⟨rfl, hb1⟩
  go_wp2_with fail
  go_ret
  exact ⟨rfl, (HB.out _).trans (hb1.mono (HB.out _).size)⟩
set_option maxRecDepth 100000 in
set_option maxHeartbeats 2000000 in
theorem bstep_any {g bd bf gp bp : Nat} {vp : Value} {D : List (Int × DE)} {Fm : List (Int × Int)} {p : PD} {L : List Itm} {next : Int} (hi : TInv L next) (hrep : TRep D Fm p L) {node at_ : Int} {bN bT bW : Nat} (w : World)
    (hm : MAt w g bd bf gp bp vp D Fm p next) (n1 : w.cell? ⟨bN, 0, none⟩ = some (.int .i64 node)) (n2 : w.cell? ⟨bT, 0, none⟩ = some (.pointer (some ⟨g, 0, none⟩)))
    (hcl : ∀ x ∈ entries L at_, ∀ w', Below w.heap.size w w' → Calls Try.prog 74 (#[x.val] ++ #[.pointer (some ⟨bW, 0, none⟩)]) w' fun e w2 => e = .returned (.bool (underB L x.node node)) ∧ Below w'.heap.size w' w2) :
    Calls Try.prog 72 #[.int .i64 at_, .pointer (some ⟨bN, 0, none⟩), .pointer (some ⟨bT, 0, none⟩), .pointer (some ⟨bW, 0, none⟩)] w fun e w' => e = .returned (.bool (underB L at_ node)) ∧ Below w.heap.size w w' := by
  have hlen := hi.len
  have c0 : w.cell? ⟨g, 0, none⟩ = some (.map (some bd)) := (m_cells hm.blk).1 0
  have hlk : ∃ a c, (Instr.lookup 73 (.map (some bd)) (.int .i64 at_) false).run Try.prog w = .ok (.slice a (entries L at_).length c) w ∧ Arg EEnt w (.slice a (entries L at_).length c) (entries L at_) := by
    have hl := hm.dm.lookup (P := Try.prog) Try.underlying73 Try.underlying3 zero_ents at_ false
    cases hd : isDirB L at_ with
    | true =>
      obtain ⟨v, hv⟩ := hrep.r1 at_ hd
      have hrow : RowO EEnt w 0 v (entries L at_) := hm.rows _ (mget_mem hv)
      obtain ⟨a, c, rfl⟩ := hrow.shape
      rw [hv] at hl
      simp only [Bool.false_eq_true, if_false, encDE] at hl
      exact ⟨a, c, hl, hrow.arg⟩
    | false =>
      rw [hrep.r2 at_ hd] at hl
      simp only [Bool.false_eq_true, if_false] at hl
      rw [entries_none hi hd]
      exact ⟨_, _, hl, Arg.nil _ _⟩
  obtain ⟨la, lc, hlk, harg⟩ := hlk
  have hlen2 : (entries L at_).length ≤ 1000000 := by
    unfold entries; rw [List.length_map]
    exact Nat.le_trans (List.length_filter_le _ _) (by omega)
  have HCF := Lib.hid (containsfunc_any w (fun x => underB L x.node node) 74 #[.pointer (some ⟨bW, 0, none⟩)] harg hlen2 (fun args w => by kernel_rfl) hcl)
  have hub := underB_down L at_ node
  obtain ⟨U, hU⟩ : ∃ U, underB L at_ node = U := ⟨_, rfl⟩
  obtain ⟨K, hK⟩ : ∃ K, (entries L at_).any (fun e => underB L e.node node) = K := ⟨_, rfl⟩
  obtain ⟨n, hn⟩ : ∃ n, (entries L at_).length = n := ⟨_, rfl⟩
  rw [hU, hK] at hub
  rw [hK, hn] at HCF
  rw [hU]
  rw [hn] at hlk
  have HUB := Lib.hid hub
  clear hub hU hK hn harg hcl hm hrep hi hlen2 hlen
  by_cases e : at_ = node
  · subst e
    have e1 : (at_ == at_) = true := by simp
    have HU : U = true := by rw [HUB.out]; simp
    subst HU
    go_enter Try.func72, Try.ntmps72
    go_wp2_with fail
    go_ret
    exact ⟨rfl, Below.refl _ _⟩
  · have e1 : (at_ == node) = false := by simpa using e
    have HU : U = K := by rw [HUB.out]; simp [e]
    subst HU
    clear HUB
    go_enter Try.func72, Try.ntmps72
    go_wp2_with fail
    refine HCF.out.mono ?_
    rintro e w1 ⟨rfl, hb1⟩
    go_wp2_with fail
    go_ret
    exact ⟨rfl, hb1⟩
set_option maxRecDepth 100000 in
set_option maxHeartbeats 2000000 in
theorem bwalk_any {g bd bf gp bp : Nat} {vp : Value} {D : List (Int × DE)} {Fm : List (Int × Int)} {p : PD} {L : List Itm} {next : Int} (hi : TInv L next) (hrep : TRep D Fm p L) {node : Int} {bN bT bW : Nat}
    {r : Int → Nat} (ri : ∀ i ∈ L, r i.e.node = r i.d + 1) {M : Nat} (hM : ∀ i ∈ L, r i.e.node ≤ M) :
    ∀ (k : Nat) (at_ : Int) (w : World), M ≤ r at_ + k → MAt w g bd bf gp bp vp D Fm p next → w.cell? ⟨bN, 0, none⟩ = some (.int .i64 node) → w.cell? ⟨bT, 0, none⟩ = some (.pointer (some ⟨g, 0, none⟩)) →
      w.cell? ⟨bW, 0, none⟩ = some (.func (.func 72) #[] #[.pointer (some ⟨bN, 0, none⟩), .pointer (some ⟨bT, 0, none⟩), .pointer (some ⟨bW, 0, none⟩)]) →
      Calls Try.prog 72 #[.int .i64 at_, .pointer (some ⟨bN, 0, none⟩), .pointer (some ⟨bT, 0, none⟩), .pointer (some ⟨bW, 0, none⟩)] w fun e w' => e = .returned (.bool (underB L at_ node)) ∧ Below w.heap.size w w' := by
  intro k
  induction k with
  | zero =>
    intro at_ w hk hm n1 n2 n3
    have hcl : ∀ x ∈ entries L at_, ∀ w', Below w.heap.size w w' → Calls Try.prog 74 (#[x.val] ++ #[.pointer (some ⟨bW, 0, none⟩)]) w' fun e w2 => e = .returned (.bool (underB L x.node node)) ∧ Below w'.heap.size w' w2 := by
      intro x hx
      obtain ⟨i, hi', e1, e2⟩ := mem_entries.1 hx
      subst e1; subst e2
      have := ri i hi'; have := hM i hi'; omega
    exact bstep_any hi hrep w hm n1 n2 hcl
  | succ k ih =>
    intro at_ w hk hm n1 n2 n3
    have hcl : ∀ x ∈ entries L at_, ∀ w', Below w.heap.size w w' → Calls Try.prog 74 (#[x.val] ++ #[.pointer (some ⟨bW, 0, none⟩)]) w' fun e w2 => e = .returned (.bool (underB L x.node node)) ∧ Below w'.heap.size w' w2 := by
      intro x hx w' hb
      obtain ⟨i, hi', e1, e2⟩ := mem_entries.1 hx
      subst e1; subst e2
      have hr := ri i hi'
      refine bclos_any i.e bN bT bW _ w' (cell_later hb n3) (fun o => ?_)
      have hb2 := hb.alloc hb.size o
      exact ih i.e.node _ (by omega) (hm.below hb2) (cell_later hb2 n1) (cell_later hb2 n2) (cell_later hb2 n3)
    exact bstep_any hi hrep w hm n1 n2 hcl
set_option maxRecDepth 100000 in
set_option maxHeartbeats 2000000 in
theorem tbelow_any {w : World} {F : Nat → Prop} {g : Nat} {L : List Itm} {next : Int} (node top : Int) (h : TreeM w F g L next) (hi : TInv L next) :
    Calls Try.prog 46 #[.pointer (some ⟨g, 0, none⟩), .int .i64 node, .int .i64 top] w fun e w' => e = .returned (.bool (underB L top node)) ∧ Below w.heap.size w w' := by
  obtain ⟨bd, bf, gp, bp, vp, D, Fm, p, rfl, hm, hrep⟩ := h
  obtain ⟨r, r0, ri⟩ := hi.ac
  obtain ⟨M, hM⟩ := bound_of L r
  have HW := Lib.hid (fun (w' : World) bN bT bW (hb : Below w.heap.size w w') n1 n2 n3 => bwalk_any (node := node) (bN := bN) (bT := bT) (bW := bW) hi hrep ri hM M top w' (by omega) (hm.below hb) n1 n2 n3)
  clear hm hrep ri hM
  obtain ⟨W3, hW3⟩ : ∃ W3, ((w.alloc (.cells #[.pointer (some ⟨g, 0, none⟩)] 26)).alloc (.cells #[.int .i64 node] 3)).alloc (.cells #[.nilFunc] 87) = W3 := ⟨_, rfl⟩
  have a1 : W3.heap[w.heap.size]? = some (.cells #[.pointer (some ⟨g, 0, none⟩)] 26 (0, 0)) := by rw [← hW3]; exact m_old _ (m_old _ (m_alloc w _ _ rfl))
  have a2 : W3.heap[w.heap.size + 1]? = some (.cells #[.int .i64 node] 3 (0, 0)) := by rw [← hW3]; exact m_old _ (m_alloc _ _ _ (by simp))
  have a3 : W3.heap[w.heap.size + 1 + 1]? = some (.cells #[.nilFunc] 87 (0, 0)) := by rw [← hW3]; exact m_alloc _ _ _ (by simp)
  have hb3 : Below w.heap.size w W3 := by rw [← hW3]; exact (((Below.refl _ w).alloc (Nat.le_refl _) _).alloc (by simp) _).alloc (by simp; omega) _
  have x3 : W3.cell? ⟨w.heap.size + 1 + 1, 0, none⟩ = some .nilFunc := (m_cells a3).1 0
  have f3 := (m_cells a3).2 0
  have HA1 := Lib.hid a1
  have HA2 := Lib.hid a2
  have HA3 := Lib.hid a3
  have HB3 := Lib.hid hb3
  clear a1 a2 a3 hb3
  go_enter Try.func46, Try.ntmps46
  go_wp2_with fail
  have hn1 : w.heap.size ≠ w.heap.size + 1 + 1 := by omega
  have hn2 : w.heap.size + 1 ≠ w.heap.size + 1 + 1 := by omega
  refine (HW.out _ _ _ _ ?_ ?_ ?_ ?_).mono ?_
  · exact HB3.out.trans (((Keep.refl (fun k => k = w.heap.size + 1 + 1) W3).set _ 0 _ (Or.inl rfl)).toBelow HB3.out.size (fun i hi => by omega))
  · exact (m_cells (m_set_ne HA2.out _ 0 _ hn2)).1 0
  · exact (m_cells (m_set_ne HA1.out _ 0 _ hn1)).1 0
  · exact (m_cells (m_set HA3.out 0 _)).1 0
  rintro e w4 ⟨rfl, hb4⟩
  go_wp2_with fail
  go_ret
  have hs := HB3.out.size
  exact ⟨rfl, (HB3.out.trans (((Keep.refl (fun k => k = w.heap.size + 1 + 1) W3).set _ 0 _ (Or.inl rfl)).toBelow HB3.out.size (fun i hi => by omega))).trans (hb4.mono (by simpa [World.setCell] using hs))⟩
end Go.Proofs.Ytolilbcpfdnkjaa
