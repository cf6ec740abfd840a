/- Lemmas, texts U6 U7 U8 U9 UA; no condition beyond those that each states. -/
import Derived.Test.YtolilbcpfdnkjaaGreatZBU1
import Derived.Laws.EntriesVeiled
/- tree: below. -/
namespace Go.Proofs.YtolilbcpfdnkjaaGreat
open Go.RowKit
set_option linter.unusedSimpArgs false
set_option linter.unusedVariables false
/-- A node, or what is below it. -/
inductive Under (L : List Itm) (top : Int) : Int → Prop
  | refl : Under L top top
  | step (i : Itm) : i ∈ L → Under L top i.d → Under L top i.e.node
theorem Under.trans {L : List Itm} {a b c : Int} (h : Under L a b) (k : Under L b c) : Under L a c := by
  induction k with
  | refl => exact h
  | step i hi _ ih => exact .step i hi ih
theorem Under.down {L : List Itm} {a n : Int} (h : Under L a n) : a = n ∨ ∃ i ∈ L, i.d = a ∧ Under L i.e.node n := by
  induction h with
  | refl => exact Or.inl rfl
  | step i hi h ih =>
    rcases ih with e | ⟨j, hj, e, k⟩
    · exact Or.inr ⟨i, hi, e.symm, .refl⟩
    · exact Or.inr ⟨j, hj, e, k.trans (.step i hi .refl)⟩
noncomputable def underB (L : List Itm) (top n : Int) : Bool := by classical exact decide (Under L top n)
theorem underB_iff {L : List Itm} {top n : Int} : underB L top n = true ↔ Under L top n := by unfold underB; simp
theorem underB_down (L : List Itm) (a n : Int) : underB L a n = (decide (a = n) || (entries L a).any (fun e => underB L e.node n)) := by
  rw [Bool.eq_iff_iff, underB_iff, Bool.or_eq_true, List.any_eq_true]
  constructor
  · intro h
    rcases h.down with e | ⟨i, hi, e, k⟩
    · exact Or.inl (by simpa using e)
    · exact Or.inr ⟨i.e, mem_entries.2 ⟨i, hi, e, rfl⟩, underB_iff.2 k⟩
  · rintro (e | ⟨x, hx, k⟩)
    · have : a = n := by simpa using e
      subst this; exact .refl
    · obtain ⟨i, hi, e1, e2⟩ := mem_entries.1 hx
      subst e2; subst e1
      exact Under.trans (.step i hi .refl) (underB_iff.1 k)
theorem bound_of (L : List Itm) (r : Int → Nat) : ∃ M, ∀ i ∈ L, r i.e.node ≤ M := by
  induction L with
  | nil => exact ⟨0, fun i hi => by cases hi⟩
  | cons a t ih =>
    obtain ⟨M, hM⟩ := ih
    exact ⟨M + r a.e.node, fun i hi => by
      rcases List.mem_cons.1 hi with e | q
      · subst e; omega
      · have := hM i q; omega⟩
theorem idxP_any (l : List Ent) (p : Ent → Bool) : (idxP l p = -1 ∧ l.any p = false) ∨ ∃ i : Nat, idxP l p = i ∧ l.any p = true := by
  rcases idxP_spec l p with ⟨i, x, h1, h2, h3⟩ | ⟨h1, h2⟩
  · exact Or.inr ⟨i, h1, List.any_eq_true.2 ⟨x, List.mem_of_find?_eq_some h3, List.find?_some h3⟩⟩
  · refine Or.inl ⟨h1, ?_⟩
    rw [List.any_eq_false]
    intro x hx
    have := List.find?_eq_none.1 h2 x hx
    simpa using this
/-- slices.ContainsFunc over entries. -/
theorem containsfunc_any {v : Value} {l : List Ent} (w : World) (p : Ent → Bool) (f : Nat) (cap : Array Value) (h : Arg EEnt w v l) (hl : l.length ≤ 1000000)
    (heg : ∀ args w, (callFunc f args).run Tryz.prog w = .ok (.enter f args) w)
    (hf : ∀ x ∈ l, ∀ w', Below w.heap.size w w' → Calls Tryz.prog f (#[x.val] ++ cap) w' fun e w2 => e = .returned (.bool (p x)) ∧ Below w'.heap.size w' w2) :
    Calls Tryz.prog 100 #[v, .func (.func f) #[] cap] w fun e w' => e = .returned (.bool (l.any p)) ∧ Below w.heap.size w w' := by
  have H := Lib.hid (indexfunc_any w p f cap h hl heg hf)
  obtain ⟨a, c, rfl⟩ := h.shape
  clear h hf heg
  go_enter Tryz.func100, Tryz.ntmps100
  go_wp2_with fail
  refine H.out.mono ?_
  rintro e w1 ⟨rfl, hb⟩
  have HB := Lib.hid hb
  clear hb
  rcases idxP_any l p with ⟨e1, e2⟩ | ⟨i, e1, e2⟩
  · have HE := Lib.hid e2
    rw [e1]
    clear e1 e2 H
    go_wp2_with fail
    go_ret
    exact ⟨ret_bool HE.out.symm, HB.out⟩
  · have HE := Lib.hid e2
    rw [e1]
    clear e1 e2 H
    have i1 : decide ((0 : Int) ≤ i) = true := by simp
    have i2 : (0 : Int) ≤ i := by omega
    go_wp2_with fail
    go_ret
    exact ⟨ret_bool HE.out.symm, HB.out⟩
end Go.Proofs.YtolilbcpfdnkjaaGreat

/- tree: below, the walk. -/
namespace Go.Proofs.YtolilbcpfdnkjaaGreat
open Go.RowKit
set_option linter.unusedSimpArgs false
set_option linter.unusedVariables false
def wcap (bN bT bW : Nat) : Array Value := #[.pointer (some ⟨bN, 0, none⟩), .pointer (some ⟨bT, 0, none⟩), .pointer (some ⟨bW, 0, none⟩)]
set_option maxRecDepth 100000 in
set_option maxHeartbeats 1000000 in
theorem bclos_any (x : Ent) (bN bT bW : Nat) (b : Bool) (w : World) (n3 : w.cell? ⟨bW, 0, none⟩ = some (.func (.func 99) #[] #[.pointer (some ⟨bN, 0, none⟩), .pointer (some ⟨bT, 0, none⟩), .pointer (some ⟨bW, 0, none⟩)]))
    (hc : ∀ o, Calls Tryz.prog 99 #[.int .i64 x.node, .pointer (some ⟨bN, 0, none⟩), .pointer (some ⟨bT, 0, none⟩), .pointer (some ⟨bW, 0, none⟩)] (w.alloc o) fun e w' => e = .returned (.bool b) ∧ Below (w.alloc o).heap.size (w.alloc o) w') :
    Calls Tryz.prog 101 #[x.val, .pointer (some ⟨bW, 0, none⟩)] w fun e w' => e = .returned (.bool b) ∧ Below w.heap.size w w' := by
  have hbw : ∀ o, Below w.heap.size w (w.alloc o) := fun o => (Below.refl _ _).alloc (Nat.le_refl _) o
  have c0 := fun o => cell_later (hbw o) n3
  have HB := Lib.hid hbw
  have HC := Lib.hid hc
  clear hbw hc n3
  go_enter Tryz.func101, Tryz.ntmps101
  go_wp2_with fail
  refine (HC.out _).mono ?_
  rintro e w1 ⟨rfl, hb1⟩
  go_wp2_with fail
  go_ret
  exact ⟨rfl, (HB.out _).trans (hb1.mono (HB.out _).size)⟩
set_option maxRecDepth 100000 in
set_option maxHeartbeats 2000000 in
theorem bstep_any {g bd bf gp bp : Nat} {vp : Value} {D : List (Int × DE)} {Fm : List (Int × Int)} {p : PD} {L : List Itm} {next : Int} (hi : TInv L next) (hrep : TRep D Fm p L) {node at_ : Int} {bN bT bW : Nat} (w : World)
    (hm : MAt w g bd bf gp bp vp D Fm p next) (n1 : w.cell? ⟨bN, 0, none⟩ = some (.int .i64 node)) (n2 : w.cell? ⟨bT, 0, none⟩ = some (.pointer (some ⟨g, 0, none⟩)))
    (hcl : ∀ x ∈ entries L at_, ∀ w', Below w.heap.size w w' → Calls Tryz.prog 101 (#[x.val] ++ #[.pointer (some ⟨bW, 0, none⟩)]) w' fun e w2 => e = .returned (.bool (underB L x.node node)) ∧ Below w'.heap.size w' w2) :
    Calls Tryz.prog 99 #[.int .i64 at_, .pointer (some ⟨bN, 0, none⟩), .pointer (some ⟨bT, 0, none⟩), .pointer (some ⟨bW, 0, none⟩)] w fun e w' => e = .returned (.bool (underB L at_ node)) ∧ Below w.heap.size w w' := by
  have hlen := hi.len
  have c0 : w.cell? ⟨g, 0, none⟩ = some (.map (some bd)) := (m_cells hm.blk).1 0
  have hlk : ∃ a c, (Instr.lookup 53 (.map (some bd)) (.int .i64 at_) false).run Tryz.prog w = .ok (.slice a (entries L at_).length c) w ∧ Arg EEnt w (.slice a (entries L at_).length c) (entries L at_) := by
    have hl := hm.dm.lookup (P := Tryz.prog) Tryz.underlying53 Tryz.underlying3 zero_ents at_ false
    cases hd : isDirB L at_ with
    | true =>
      obtain ⟨v, hv⟩ := hrep.r1 at_ hd
      have hrow : RowO EEnt w 0 v (entries L at_) := hm.rows _ (mget_mem hv)
      obtain ⟨a, c, rfl⟩ := hrow.shape
      rw [hv] at hl
      simp only [Bool.false_eq_true, if_false, encDE] at hl
      exact ⟨a, c, hl, hrow.arg⟩
    | false =>
      rw [hrep.r2 at_ hd] at hl
      simp only [Bool.false_eq_true, if_false] at hl
      rw [entries_none hi hd]
      exact ⟨_, _, hl, Arg.nil _ _⟩
  obtain ⟨la, lc, hlk, harg⟩ := hlk
  have hlen2 : (entries L at_).length ≤ 1000000 := by
    unfold entries; rw [List.length_map]
    exact Nat.le_trans (List.length_filter_le _ _) (by omega)
  have HCF := Lib.hid (containsfunc_any w (fun x => underB L x.node node) 101 #[.pointer (some ⟨bW, 0, none⟩)] harg hlen2 (fun args w => by kernel_rfl) hcl)
  have hub := underB_down L at_ node
  obtain ⟨U, hU⟩ : ∃ U, underB L at_ node = U := ⟨_, rfl⟩
  obtain ⟨K, hK⟩ : ∃ K, (entries L at_).any (fun e => underB L e.node node) = K := ⟨_, rfl⟩
  obtain ⟨n, hn⟩ : ∃ n, (entries L at_).length = n := ⟨_, rfl⟩
  rw [hU, hK] at hub
  rw [hK, hn] at HCF
  rw [hU]
  rw [hn] at hlk
  have HUB := Lib.hid hub
  clear hub hU hK hn harg hcl hm hrep hi hlen2 hlen
  by_cases e : at_ = node
  · subst e
    have e1 : (at_ == at_) = true := by simp
    have HU : U = true := by rw [HUB.out]; simp
    subst HU
    go_enter Tryz.func99, Tryz.ntmps99
    go_wp2_with fail
    go_ret
    exact ⟨rfl, Below.refl _ _⟩
  · have e1 : (at_ == node) = false := by simpa using e
    have HU : U = K := by rw [HUB.out]; simp [e]
    subst HU
    clear HUB
    go_enter Tryz.func99, Tryz.ntmps99
    go_wp2_with fail
    refine HCF.out.mono ?_
    rintro e w1 ⟨rfl, hb1⟩
    go_wp2_with fail
    go_ret
    exact ⟨rfl, hb1⟩
set_option maxRecDepth 100000 in
set_option maxHeartbeats 2000000 in
theorem bwalk_any {g bd bf gp bp : Nat} {vp : Value} {D : List (Int × DE)} {Fm : List (Int × Int)} {p : PD} {L : List Itm} {next : Int} (hi : TInv L next) (hrep : TRep D Fm p L) {node : Int} {bN bT bW : Nat}
    {r : Int → Nat} (ri : ∀ i ∈ L, r i.e.node = r i.d + 1) {M : Nat} (hM : ∀ i ∈ L, r i.e.node ≤ M) :
    ∀ (k : Nat) (at_ : Int) (w : World), M ≤ r at_ + k → MAt w g bd bf gp bp vp D Fm p next → w.cell? ⟨bN, 0, none⟩ = some (.int .i64 node) → w.cell? ⟨bT, 0, none⟩ = some (.pointer (some ⟨g, 0, none⟩)) →
      w.cell? ⟨bW, 0, none⟩ = some (.func (.func 99) #[] #[.pointer (some ⟨bN, 0, none⟩), .pointer (some ⟨bT, 0, none⟩), .pointer (some ⟨bW, 0, none⟩)]) →
      Calls Tryz.prog 99 #[.int .i64 at_, .pointer (some ⟨bN, 0, none⟩), .pointer (some ⟨bT, 0, none⟩), .pointer (some ⟨bW, 0, none⟩)] w fun e w' => e = .returned (.bool (underB L at_ node)) ∧ Below w.heap.size w w' := by
  intro k
  induction k with
  | zero =>
    intro at_ w hk hm n1 n2 n3
    have hcl : ∀ x ∈ entries L at_, ∀ w', Below w.heap.size w w' → Calls Tryz.prog 101 (#[x.val] ++ #[.pointer (some ⟨bW, 0, none⟩)]) w' fun e w2 => e = .returned (.bool (underB L x.node node)) ∧ Below w'.heap.size w' w2 := by
      intro x hx
      obtain ⟨i, hi', e1, e2⟩ := mem_entries.1 hx
      subst e1; subst e2
      have := ri i hi'; have := hM i hi'; omega
    exact bstep_any hi hrep w hm n1 n2 hcl
  | succ k ih =>
    intro at_ w hk hm n1 n2 n3
    have hcl : ∀ x ∈ entries L at_, ∀ w', Below w.heap.size w w' → Calls Tryz.prog 101 (#[x.val] ++ #[.pointer (some ⟨bW, 0, none⟩)]) w' fun e w2 => e = .returned (.bool (underB L x.node node)) ∧ Below w'.heap.size w' w2 := by
      intro x hx w' hb
      obtain ⟨i, hi', e1, e2⟩ := mem_entries.1 hx
      subst e1; subst e2
      have hr := ri i hi'
      refine bclos_any i.e bN bT bW _ w' (cell_later hb n3) (fun o => ?_)
      have hb2 := hb.alloc hb.size o
      exact ih i.e.node _ (by omega) (hm.below hb2) (cell_later hb2 n1) (cell_later hb2 n2) (cell_later hb2 n3)
    exact bstep_any hi hrep w hm n1 n2 hcl
set_option maxRecDepth 100000 in
set_option maxHeartbeats 2000000 in
theorem tbelow_any {w : World} {F : Nat → Prop} {g : Nat} {L : List Itm} {next : Int} (node top : Int) (h : TreeM w F g L next) (hi : TInv L next) :
    Calls Tryz.prog 73 #[.pointer (some ⟨g, 0, none⟩), .int .i64 node, .int .i64 top] w fun e w' => e = .returned (.bool (underB L top node)) ∧ Below w.heap.size w w' := by
  obtain ⟨bd, bf, gp, bp, vp, D, Fm, p, rfl, hm, hrep⟩ := h
  obtain ⟨r, r0, ri⟩ := hi.ac
  obtain ⟨M, hM⟩ := bound_of L r
  have HW := Lib.hid (fun (w' : World) bN bT bW (hb : Below w.heap.size w w') n1 n2 n3 => bwalk_any (node := node) (bN := bN) (bT := bT) (bW := bW) hi hrep ri hM M top w' (by omega) (hm.below hb) n1 n2 n3)
  clear hm hrep ri hM
  obtain ⟨W3, hW3⟩ : ∃ W3, ((w.alloc (.cells #[.pointer (some ⟨g, 0, none⟩)] 25)).alloc (.cells #[.int .i64 node] 3)).alloc (.cells #[.nilFunc] 148) = W3 := ⟨_, rfl⟩
  have a1 : W3.heap[w.heap.size]? = some (.cells #[.pointer (some ⟨g, 0, none⟩)] 25 (0, 0)) := by rw [← hW3]; exact m_old _ (m_old _ (m_alloc w _ _ rfl))
  have a2 : W3.heap[w.heap.size + 1]? = some (.cells #[.int .i64 node] 3 (0, 0)) := by rw [← hW3]; exact m_old _ (m_alloc _ _ _ (by simp))
  have a3 : W3.heap[w.heap.size + 1 + 1]? = some (.cells #[.nilFunc] 148 (0, 0)) := by rw [← hW3]; exact m_alloc _ _ _ (by simp)
  have hb3 : Below w.heap.size w W3 := by rw [← hW3]; exact (((Below.refl _ w).alloc (Nat.le_refl _) _).alloc (by simp) _).alloc (by simp; omega) _
  have x3 : W3.cell? ⟨w.heap.size + 1 + 1, 0, none⟩ = some .nilFunc := (m_cells a3).1 0
  have f3 := (m_cells a3).2 0
  have HA1 := Lib.hid a1
  have HA2 := Lib.hid a2
  have HA3 := Lib.hid a3
  have HB3 := Lib.hid hb3
  clear a1 a2 a3 hb3
  go_enter Tryz.func73, Tryz.ntmps73
  go_wp2_with fail
  have hn1 : w.heap.size ≠ w.heap.size + 1 + 1 := by omega
  have hn2 : w.heap.size + 1 ≠ w.heap.size + 1 + 1 := by omega
  refine (HW.out _ _ _ _ ?_ ?_ ?_ ?_).mono ?_
  · exact HB3.out.trans (((Keep.refl (fun k => k = w.heap.size + 1 + 1) W3).set _ 0 _ (Or.inl rfl)).toBelow HB3.out.size (fun i hi => by omega))
  · exact (m_cells (m_set_ne HA2.out _ 0 _ hn2)).1 0
  · exact (m_cells (m_set_ne HA1.out _ 0 _ hn1)).1 0
  · exact (m_cells (m_set HA3.out 0 _)).1 0
  rintro e w4 ⟨rfl, hb4⟩
  go_wp2_with fail
  go_ret
  have hs := HB3.out.size
  exact ⟨rfl, (HB3.out.trans (((Keep.refl (fun k => k = w.heap.size + 1 + 1) W3).set _ 0 _ (Or.inl rfl)).toBelow HB3.out.size (fun i hi => by omega))).trans (hb4.mono (by simpa [World.setCell] using hs))⟩
end Go.Proofs.YtolilbcpfdnkjaaGreat

/- tree, in plain Lean: an item is moved. -/
namespace Go.Proofs.YtolilbcpfdnkjaaGreat
open Go.RowKit
set_option linter.unusedSimpArgs false
set_option linter.unusedVariables false
section
variable {L : List Itm} {next : Int}
theorem Under.rank {r : Int → Nat} (ri : ∀ i ∈ L, r i.e.node = r i.d + 1) {a n : Int} (h : Under L a n) : r a ≤ r n := by
  induction h with
  | refl => exact Nat.le_refl _
  | step i hi _ ih => rw [ri i hi]; omega
/-- The tree in which x stands elsewhere. -/
def movedT (L : List Itm) (dir : Int) (x : Ent) (to : Int) (y : Ent) : List Itm := dropT L dir x.name ++ [⟨to, y⟩]
theorem isDirB_moved (h : TInv L next) {d : Int} {x y : Ent} (hx : (⟨d, x⟩ : Itm) ∈ L) (e1 : y.node = x.node) (e2 : y.dir = x.dir) (to k : Int) : isDirB (movedT L d x to y) k = isDirB L k := by
  unfold movedT
  rw [isDirB_snoc, isDirB_dropT h hx, e1, e2]
  by_cases e : k = x.node
  · subst e
    have : isDirB L x.node = x.dir := by
      rw [Bool.eq_iff_iff, isDirB_iff]
      constructor
      · rintro (q | ⟨i, hi, q1, q2⟩)
        · have h0 : 1 ≤ x.node := (h.rg _ hx).1; omega
        · have := node_inj h hi hx q1; rw [this] at q2; exact q2
      · intro q; exact Or.inr ⟨_, hx, rfl, q⟩
    rw [this]; simp
  · have e' : ¬ x.node = k := fun q => e q.symm
    simp [e, e']
theorem isFileB_moved (h : TInv L next) {d : Int} {x y : Ent} (hx : (⟨d, x⟩ : Itm) ∈ L) (e1 : y.node = x.node) (e2 : y.dir = x.dir) (to k : Int) : isFileB (movedT L d x to y) k = isFileB L k := by
  unfold movedT
  rw [isFileB_snoc, isFileB_dropT h hx, e1, e2]
  by_cases e : k = x.node
  · subst e
    have : isFileB L x.node = !x.dir := by
      rw [Bool.eq_iff_iff, isFileB_iff]
      constructor
      · rintro ⟨i, hi, q1, q2⟩
        have := node_inj h hi hx q1; rw [this] at q2; simpa using q2
      · intro q; exact ⟨_, hx, rfl, by simpa using q⟩
    rw [this]; simp
  · have e' : ¬ x.node = k := fun q => e q.symm
    simp [e, e']
theorem nodes_moved (h : TInv L next) {d : Int} {x y : Ent} (hx : (⟨d, x⟩ : Itm) ∈ L) (e1 : y.node = x.node) (to : Int) (n : Int) : n ∈ nodes (movedT L d x to y) ↔ n ∈ nodes L := by
  unfold movedT
  rw [nodes_snoc, List.mem_append, mem_nodes, mem_nodes]
  constructor
  · rintro (⟨i, hi, e⟩ | e)
    · exact ⟨i, ((mem_dropT' h hx).1 hi).1, e⟩
    · simp at e; exact ⟨_, hx, by rw [e, e1]⟩
  · rintro ⟨i, hi, e⟩
    by_cases q : i.e.node = x.node
    · exact Or.inr (by simp; rw [e1, ← e, q])
    · exact Or.inl ⟨i, (mem_dropT' h hx).2 ⟨hi, q⟩, e⟩
theorem TInv.moved (h : TInv L next) {d : Int} {x y : Ent} (hx : (⟨d, x⟩ : Itm) ∈ L) {to : Int} (e1 : y.node = x.node) (e2 : y.dir = x.dir) (ec : y.cookie = next) (hto : isDirB L to = true) (hnu : ¬ Under L x.node to)
    (hu : y.name ∉ (entries L to).map (·.name)) (hg : mayErr y.name y.short = 0) : TInv (movedT L d x to y) (next + 1) := by
  have hs : (dropT L d x.name).Sublist L := List.filter_sublist ..
  have hnx := h.nx
  have hxr := h.rg _ hx
  have hmem : ∀ i ∈ movedT L d x to y, i ∈ dropT L d x.name ∨ i = ⟨to, y⟩ := fun i hi => by
    unfold movedT at hi
    rcases List.mem_append.1 hi with q | q
    · exact Or.inl q
    · simp at q; exact Or.inr q
  refine ⟨?_, fun i hi => ?_, fun i hi => ?_, fun k => ?_, ?_, fun i hi => ?_, by omega, ?_, fun i hi => ?_⟩
  · unfold movedT
    rw [nodes_snoc, List.nodup_append]
    refine ⟨h.nd.sublist (hs.map _), by simp, fun a ha b hb e => ?_⟩
    simp at hb
    obtain ⟨i, hi, q⟩ := mem_nodes.1 ha
    exact ((mem_dropT' h hx).1 hi).2 (by rw [q, e, hb, e1])
  · rcases hmem i hi with q | q
    · exact h.rg i (hs.subset q)
    · subst q; show 1 ≤ y.node ∧ y.node ≤ 200; rw [e1]; exact hxr
  · rw [isDirB_moved h hx e1 e2]
    rcases hmem i hi with q | q
    · exact h.pa i (hs.subset q)
    · subst q; exact hto
  · unfold movedT
    have hsub : (entries (dropT L d x.name) k).Sublist (entries L k) := by
      rw [entries_dropT]
      split
      · rename_i e; subst e; exact List.filter_sublist ..
      · exact List.Sublist.refl _
    rw [entries_snoc, List.map_append]
    by_cases e : to = k
    · subst e
      rw [if_pos rfl, List.nodup_append]
      exact ⟨(h.un _).sublist (hsub.map _), by simp, fun a ha b hb e => by simp at hb; subst hb; subst e; exact hu ((hsub.map _).subset ha)⟩
    · rw [if_neg e]; simpa using (h.un k).sublist (hsub.map _)
  · unfold movedT
    rw [List.map_append, List.pairwise_append]
    refine ⟨h.ck.sublist (hs.map _), by simp, fun a ha b hb => ?_⟩
    obtain ⟨i, hi, rfl⟩ := List.mem_map.1 ha
    simp at hb
    rw [hb, ec]
    exact (h.cb i (hs.subset hi)).2
  · rcases hmem i hi with q | q
    · have := h.cb i (hs.subset q); omega
    · subst q; show 1 ≤ y.cookie ∧ y.cookie < _; omega
  · obtain ⟨r, r0, ri⟩ := h.ac
    classical
    refine ⟨fun n => if Under L x.node n then r to + 1 + (r n - r x.node) else r n, ?_, fun i hi => ?_⟩
    · have : ¬ Under L x.node 0 := fun q => by
        have hr := q.rank ri
        have h1 : r x.node = r d + 1 := ri _ hx
        omega
      show (if Under L x.node 0 then r to + 1 + (r 0 - r x.node) else r 0) = 0
      rw [if_neg this]; exact r0
    · show (if Under L x.node i.e.node then r to + 1 + (r i.e.node - r x.node) else r i.e.node) = (if Under L x.node i.d then r to + 1 + (r i.d - r x.node) else r i.d) + 1
      rcases hmem i hi with q | q
      · obtain ⟨q1, q2⟩ := (mem_dropT' h hx).1 q
        have hr := ri i q1
        by_cases c : Under L x.node i.d
        · have := c.rank ri
          rw [if_pos (.step i q1 c), if_pos c]; omega
        · have c2 : ¬ Under L x.node i.e.node := fun z => by
            generalize hn : i.e.node = n at z
            cases z with
            | refl => exact q2 hn
            | step j hj k =>
              have := node_inj h q1 hj hn
              subst this; exact c k
          rw [if_neg c2, if_neg c, hr]
      · subst q
        show (if Under L x.node y.node then r to + 1 + (r y.node - r x.node) else r y.node) = (if Under L x.node to then _ else r to) + 1
        rw [e1, if_pos .refl, if_neg hnu]; omega
  · rcases hmem i hi with q | q
    · exact h.gd i (hs.subset q)
    · subst q; exact hg
theorem TRep.moved {D : List (Int × DE)} {F : List (Int × Int)} {p : PD} (h : TRep D F p L) (hi : TInv L next) {d : Int} {x y : Ent} (hx : (⟨d, x⟩ : Itm) ∈ L) {to : Int} (e1 : y.node = x.node) (e2 : y.dir = x.dir) (hto : isDirB L to = true)
    (v1 v2 : Value) {l1 : List Ent} (hl : l1 = (entries L d).filter (fun z => !hasName x.name z)) : TRep (mput (mput D d (v1, l1)) to (v2, (if to = d then l1 else entries L to) ++ [y])) F p (movedT L d x to y) := by
  have hd := hi.pa _ hx
  refine ⟨fun k hk => ?_, fun k hk => ?_, fun k => ?_, fun k => ?_⟩
  · rw [isDirB_moved hi hx e1 e2] at hk
    unfold movedT
    rw [mget_put, mget_put, entries_snoc, entries_dropT]
    by_cases c : k = to
    · subst c
      rw [if_pos rfl, if_pos rfl, ← hl]; exact ⟨v2, rfl⟩
    · rw [if_neg c, if_neg (show ¬ to = k from fun q => c q.symm), List.append_nil]
      by_cases c2 : k = d
      · rw [if_pos c2, if_pos c2, hl]; exact ⟨v1, rfl⟩
      · rw [if_neg c2, if_neg c2]; exact h.r1 k hk
  · rw [isDirB_moved hi hx e1 e2] at hk
    rw [mget_put, mget_put, if_neg (fun q => by rw [q, hto] at hk; cases hk), if_neg (fun q => by rw [q] at hk; rw [hk] at hd; cases hd)]
    exact h.r2 k hk
  · rw [isFileB_moved hi hx e1 e2]; exact h.r3 k
  · rw [h.r4 k, ← mem_nodes, ← mem_nodes, nodes_moved hi hx e1]
end
noncomputable def moveErr (L : List Itm) (dir : Int) (name : ByteArray) (to : Int) (as_ : ByteArray) (short : Int) : Int :=
  if (findRes L dir name).2 ≠ 0 then (findRes L dir name).2 else if listErr L to ≠ 0 then listErr L to else if mayErr as_ short ≠ 0 then mayErr as_ short
  else if underB L (findRes L dir name).1.node to = true then 10 else if (findE L to as_).isSome = true then 6 else 0
noncomputable def moveT (L : List Itm) (next : Int) (dir : Int) (name : ByteArray) (to : Int) (as_ : ByteArray) (short : Int) : LR :=
  if moveErr L dir name to as_ short ≠ 0 then ⟨L, next, 0, moveErr L dir name to as_ short⟩
  else ⟨dropT L dir name ++ [⟨to, ⟨as_, (findRes L dir name).1.node, (findRes L dir name).1.dir, next, short⟩⟩], next + 1, 0, 0⟩
end Go.Proofs.YtolilbcpfdnkjaaGreat

/- tree: Move. -/
namespace Go.Proofs.YtolilbcpfdnkjaaGreat
open Go.RowKit
set_option linter.unusedSimpArgs false
set_option linter.unusedVariables false
def MovePost (w : World) (F : Nat → Prop) (g : Nat) (R : LR) (e : Ending) (w' : World) : Prop := e = .returned (.int .i64 R.err) ∧ TStep w F g R.L R.next w'
set_option maxRecDepth 100000 in
set_option maxHeartbeats 4000000 in
theorem tmove_any {w : World} {F : Nat → Prop} {g : Nat} {L : List Itm} {next : Int} (dir : Int) (name : ByteArray) (to : Int) (as_ : ByteArray) (short : Int) (h : TreeM w F g L next) (hi : TInv L next) (hn : next ≤ 1000000000) (hs : as_.size ≤ maxLen) :
    Calls Tryz.prog 39 #[.pointer (some ⟨g, 0, none⟩), .int .i64 dir, .string name, .int .i64 to, .string as_, .int .i64 short] w (MovePost w F g (moveT L next dir name to as_ short)) := by
  have hlen := hi.len
  have HFI := Lib.hid (tfind_any dir name h (by omega))
  have HT := Lib.hid h
  have HI := Lib.hid hi
  obtain ⟨⟨nm, nd, dr, ck, sh⟩, hx⟩ : ∃ x, (findRes L dir name).1 = x := ⟨_, rfl⟩
  obtain ⟨E, hE⟩ : ∃ E, (findRes L dir name).2 = E := ⟨_, rfl⟩
  obtain ⟨E2, hE2⟩ : ∃ E2, listErr L to = E2 := ⟨_, rfl⟩
  obtain ⟨M, hM⟩ : ∃ M, mayErr as_ short = M := ⟨_, rfl⟩
  obtain ⟨U, hU⟩ : ∃ U, underB L nd to = U := ⟨_, rfl⟩
  rw [hx, hE] at HFI
  have HX := Lib.hid hx
  have HE := Lib.hid hE
  have HE2 := Lib.hid hE2
  have HMM := Lib.hid hM
  have HU := Lib.hid hU
  have HMAY := fun w => Lib.hid (tmay_any as_ short w hs)
  have early : ∀ (c : Int) (w1 : World), moveErr L dir name to as_ short = c → c ≠ 0 → Below w.heap.size w w1 → MovePost w F g (moveT L next dir name to as_ short) (.returned (.int .i64 c)) w1 := by
    intro c w1 h1 h2 hb
    unfold MovePost moveT
    rw [h1, if_pos h2]
    exact ⟨rfl, TStep.same HT.out hb⟩
  have HEA := Lib.hid early
  clear h hi hx hE early hE2 hM hU
  go_enter Tryz.func39, Tryz.ntmps39
  go_wp2_with fail
  refine HFI.out.mono ?_
  rintro e w1 ⟨rfl, hb1⟩
  by_cases h0 : E = 0
  · subst h0
    have hb2 : Below w.heap.size w (w1.alloc (.cells #[.string nm, .int .i64 nd, .bool dr, .int .i64 ck, .int .i64 sh] 84)) := hb1.alloc hb1.size _
    have hblk := m_alloc w1 (.cells #[.string nm, .int .i64 nd, .bool dr, .int .i64 ck, .int .i64 sh] 84) w1.heap.size rfl
    have hBw : w.heap.size ≤ w1.heap.size := hb1.size
    have HFB := Lib.hid (show ∀ k, F k → w1.heap.size ≠ k from fun k q => by have := HT.out.lt q; omega)
    generalize hBB : w1.heap.size = B at *
    generalize hW : w1.alloc (.cells #[.string nm, .int .i64 nd, .bool dr, .int .i64 ck, .int .i64 sh] 84) = W at *
    have HBLK := Lib.hid hblk
    have HW := Lib.hid hW
    have HBB := Lib.hid hBB
    have HB2 := Lib.hid hb2
    clear hb2 hblk hb1 hW hBB hBw
    go_wp2_with fail
    rw [HBB.out, HW.out]
    refine (tlist_any to (HT.out.below HB2.out) (by omega)).mono ?_
    rintro e w2 ⟨v, l, rfl, hr, hle, hb⟩
    rw [HE2.out] at hle ⊢
    obtain ⟨a1, k1, rfl⟩ := hr.shape
    have HB3 := Lib.hid (HB2.out.trans (hb.mono HB2.out.size))
    have HBL2 := Lib.hid (m_keep HBLK.out (Keep.below hb) (fun q => by have := m_lt HBLK.out; omega))
    have HR2 := Lib.hid hr
    have HLE := Lib.hid hle
    clear hb hr hle HB2 HBLK HW HBB HFI
    by_cases h2 : E2 = 0
    · subst h2
      have hle := HLE.out rfl
      subst hle
      go_wp2_with fail
      refine (HMAY w2).out.mono ?_
      rintro e w3 ⟨rfl, hb3⟩
      rw [HMM.out]
      have HB4 := Lib.hid (HB3.out.trans (hb3.mono HB3.out.size))
      have HBL3 := Lib.hid (m_keep HBL2.out (Keep.below hb3) (fun q => by have := m_lt HBL2.out; omega))
      have HR3 := Lib.hid (HR2.out.below hb3)
      clear hb3 HB3 HBL2 HR2 HLE
      by_cases m0 : M = 0
      · subst m0
        have n1 : w3.cell? ⟨B, 1, none⟩ = some (.int .i64 nd) := (m_cells HBL3.out).1 1
        go_wp2_with fail
        refine (tbelow_any to nd (HT.out.below HB4.out) HI.out).mono ?_
        rintro e w4 ⟨rfl, hb4⟩
        rw [HU.out]
        have HB5 := Lib.hid (HB4.out.trans (hb4.mono HB4.out.size))
        have HBL4 := Lib.hid (m_keep HBL3.out (Keep.below hb4) (fun q => by have := m_lt HBL3.out; omega))
        have HR4 := Lib.hid (HR3.out.below hb4)
        clear hb4 HB4 HBL3 HR3 n1
        cases U
        · have hlen5 : (entries L to).length ≤ 1000000 := by
            unfold entries; rw [List.length_map]
            exact Nat.le_trans (List.length_filter_le _ _) (by omega)
          go_wp2_with fail
          refine (index_any as_ w4 HR4.out.arg hlen5).mono ?_
          rintro e w5 ⟨rfl, hb5⟩
          have HB6 := Lib.hid (HB5.out.trans (hb5.mono HB5.out.size))
          have HBL5 := Lib.hid (m_keep HBL4.out (Keep.below hb5) (fun q => by have := m_lt HBL4.out; omega))
          clear hb5 HB5 HBL4 HR4
          rcases idx_find L to as_ with ⟨hx, hf⟩ | ⟨i, hx, hf⟩
          · rw [hx]
            have HFN := Lib.hid (find_none hf)
            have HM0 := Lib.hid (show moveErr L dir name to as_ short = 0 from by
              unfold moveErr; rw [HE.out, if_neg (by decide), HE2.out, if_neg (by decide), HMM.out, if_neg (by decide), HX.out]
              show (if underB L nd to = true then _ else _) = _
              rw [HU.out, if_neg (by decide), hf]; rfl)
            clear hx hf
            have HTO := Lib.hid (show isDirB L to = true from by
              cases hd : isDirB L to with
              | true => rfl
              | false => have := HE2.out; unfold listErr at this; rw [hd] at this; simp at this; split at this <;> cases this)
            have HNU := Lib.hid (show ¬ Under L nd to from fun q => by have := underB_iff.2 q; rw [HU.out] at this; cases this)
            obtain ⟨x, i, e1, hit, enm, eix, eget, efi, hdd⟩ := find_spec HE.out
            have ex : x = ⟨nm, nd, dr, ck, sh⟩ := by have := HX.out; rw [e1] at this; exact this
            subst ex
            obtain ⟨bd, bf, gp, bp, vp, D, Fm, p, rfl, hm, hrep⟩ := HT.out
            have HENM := Lib.hid (show nm = name from enm)
            have HERA := Lib.hid (show (entries L dir).eraseIdx i = (entries L dir).filter (fun y => !hasName nm y) from by
              have e2 : nm = name := enm
              rw [e2]; exact erase_filter name _ i (HI.out.un dir) efi)
            have HIT := Lib.hid (show (⟨dir, ⟨nm, nd, dr, ck, sh⟩⟩ : Itm) ∈ L from hit)
            have HIX := Lib.hid eix
            have HGET := Lib.hid eget
            have HREP := Lib.hid hrep
            have HM6 := Lib.hid (hm.below HB6.out)
            obtain ⟨v0, hv0⟩ := hrep.r1 dir hdd
            obtain ⟨v1, hv1⟩ := hrep.r1 to HTO.out
            have HV0 := Lib.hid hv0
            have HV1 := Lib.hid hv1
            have HNX := Lib.hid (show 0 ≤ next ∧ next ≤ 1000000000 from ⟨by have := HI.out.nx; omega, hn⟩)
            have HL5 := Lib.hid (show ∀ d, (entries L d).length ≤ 100000 from fun d => by
              unfold entries; rw [List.length_map]
              exact Nat.le_trans (List.length_filter_le _ _) (by omega))
            clear hm hrep hit eix eget hdd efi e1 enm hv0 hv1
            go_wp2_with fail
            refine (tdrop_any dir name i ⟨nm, nd, dr, ck, sh⟩ (v := v0) (E := entries L dir) HM6.out HV0.out (HL5.out dir) HIX.out HGET.out).mono ?_
            rintro e w6 ⟨v', rfl, hm7, hv7, hk7⟩
            have HM7 := Lib.hid hm7
            have HV7 := Lib.hid (show ∀ k, v'.ownBlock = some k → w.heap.size ≤ k from fun k q => Nat.le_trans HB6.out.size (hv7 k q))
            have HK7 := Lib.hid (show Keep (tfoot g bd bf gp bp vp D) w w6 from ((Keep.refl _ w).trans' (Keep.below HB6.out) (fun i q => Or.inr q)).trans (hk7.mono (fun i q => q.elim (fun q => Or.inl (Or.inl q)) (fun q => Or.inl (Or.inr (Or.inl q))))))
            have hB7 := m_keep HBL5.out hk7 (fun e => e.elim (HFB.out g (Or.inl rfl)) (HFB.out bd (Or.inr (Or.inl rfl))))
            have n1 : w6.cell? ⟨B, 1, none⟩ = some (.int .i64 nd) := (m_cells hB7).1 1
            have n2 : w6.cell? ⟨B, 2, none⟩ = some (.bool dr) := (m_cells hB7).1 2
            have hE' : ∃ v2, mget (mput D dir (v', (entries L dir).eraseIdx i)) to = some (v2, if to = dir then (entries L dir).eraseIdx i else entries L to) := by
              rw [mget_put]
              by_cases c : to = dir
              · rw [if_pos c, if_pos c]; exact ⟨_, rfl⟩
              · rw [if_neg c, if_neg c]; exact ⟨_, HV1.out⟩
            obtain ⟨v2, hE'⟩ := hE'
            obtain ⟨E', hEE⟩ : ∃ E', (if to = dir then (entries L dir).eraseIdx i else entries L to) = E' := ⟨_, rfl⟩
            rw [hEE] at hE'
            have HE' := Lib.hid hE'
            have HLE' := Lib.hid (show E'.length ≤ 100000 from by
              rw [← hEE]
              split
              · exact Nat.le_trans (List.length_eraseIdx_le _ _) (HL5.out dir)
              · exact HL5.out to)
            have HEE := Lib.hid hEE
            clear hm7 hv7 hk7 hB7 hE' hEE
            go_wp2_with fail
            refine (tput_any to ⟨as_, nd, dr, 0, short⟩ (v := v2) (E := E') HM7.out HE'.out HLE'.out HNX.out).mono ?_
            rintro e w7 ⟨v3, rfl, hm8, hv8, hk8⟩
            have HM8 := Lib.hid hm8
            have HV8 := Lib.hid (show ∀ k, v3.ownBlock = some k → w.heap.size ≤ k from fun k q => Nat.le_trans HK7.out.size (hv8 k q))
            have HK8 := Lib.hid (HK7.out.trans (hk8.mono (fun i q => q.elim (fun q => Or.inl (Or.inl q)) (fun q => Or.inl (Or.inr (Or.inl q))))))
            clear hm8 hv8 hk8 n1 n2
            go_wp2_with fail
            go_ret
            have hr := HREP.out.moved HI.out HIT.out (y := ⟨as_, nd, dr, next, short⟩) (to := to) rfl rfl HTO.out v' v3 HERA.out
            rw [HEE.out] at hr
            have hfin := tstep_mk (w := w) (vp := vp) (D := D) HM8.out hr (fun k q => Or.inl q)
              (fun x hx k q => by
                rcases mem_mput_de hx with r | r
                · rcases mem_mput_de r with r | r
                  · exact Or.inl ⟨x, r, q⟩
                  · rw [r] at q; exact Or.inr (HV7.out k q)
                · rw [r] at q; exact Or.inr (HV8.out k q)) HK8.out
            have hR : moveT L next dir name to as_ short = ⟨movedT L dir ⟨nm, nd, dr, ck, sh⟩ to ⟨as_, nd, dr, next, short⟩, next + 1, 0, 0⟩ := by
              unfold moveT movedT; rw [HM0.out, if_neg (by decide), HX.out, ← HENM.out]
            unfold MovePost
            rw [hR]
            exact ⟨rfl, hfin⟩
          · have HF := Lib.hid hf
            rw [hx]
            have i1 : decide ((0 : Int) ≤ i) = true := by simp
            have i2 : (0 : Int) ≤ i := by omega
            clear hx hf
            go_wp2_with fail
            go_ret
            exact HEA.out 6 _ (by
              unfold moveErr; rw [HE.out, if_neg (by decide), HE2.out, if_neg (by decide), HMM.out, if_neg (by decide), HX.out]
              show (if underB L nd to = true then _ else _) = _
              rw [HU.out, if_neg (by decide), HF.out]; rfl) (by decide) HB6.out
        · go_wp2_with fail
          go_ret
          exact HEA.out 10 _ (by
            unfold moveErr; rw [HE.out, if_neg (by decide), HE2.out, if_neg (by decide), HMM.out, if_neg (by decide), HX.out]
            show (if underB L nd to = true then _ else _) = _
            rw [HU.out]; rfl) (by decide) HB5.out
      · have e1 : (M == 0) = false := by simpa using m0
        have e2 : (M != 0) = true := by simpa using m0
        go_wp2_with fail
        go_ret
        exact HEA.out M _ (by unfold moveErr; rw [HE.out, if_neg (by decide), HE2.out, if_neg (by decide), HMM.out, if_pos m0]) m0 HB4.out
    · have e1 : (E2 == 0) = false := by simpa using h2
      have e2 : (E2 != 0) = true := by simpa using h2
      go_wp2_with fail
      go_ret
      exact HEA.out E2 _ (by unfold moveErr; rw [HE.out, if_neg (by decide), HE2.out, if_pos h2]) h2 HB3.out
  · have e1 : (E == 0) = false := by simpa using h0
    have e2 : (E != 0) = true := by simpa using h0
    go_wp2_with fail
    go_ret
    exact HEA.out E _ (by unfold moveErr; rw [HE.out, if_pos h0]) h0 (hb1.alloc hb1.size _)
end Go.Proofs.YtolilbcpfdnkjaaGreat

/- tree: what holds of each tree stays; New, Cookie, Nodes. -/
namespace Go.Proofs.YtolilbcpfdnkjaaGreat
open Go.RowKit
set_option linter.unusedSimpArgs false
set_option linter.unusedVariables false
theorem max_of (S : List Int) : ∃ M : Nat, ∀ x ∈ S, x ≤ M := by
  induction S with
  | nil => exact ⟨0, fun x h => by cases h⟩
  | cons a t ih =>
    obtain ⟨M, hM⟩ := ih
    exact ⟨M + a.toNat, fun x h => by
      rcases List.mem_cons.1 h with e | q
      · subst e; omega
      · have := hM x q; omega⟩
theorem free_exists (S : List Int) : ∃ n, LeastFree S n := by
  have key : ∀ k : Nat, (∃ n, LeastFree S n) ∨ ∀ m : Nat, 1 ≤ m → m ≤ k → (m : Int) ∈ S := by
    intro k
    induction k with
    | zero => exact Or.inr (fun m a b => by omega)
    | succ k ih =>
      rcases ih with h | h
      · exact Or.inl h
      · by_cases c : ((k + 1 : Nat) : Int) ∈ S
        · exact Or.inr (fun m a b => by
            rcases Nat.lt_or_ge k m with q | q
            · have : m = k + 1 := by omega
              subst this; exact c
            · exact h m a q)
        · exact Or.inl ⟨k + 1, by omega, c, fun m a b => h m a (by omega)⟩
  obtain ⟨M, hM⟩ := max_of S
  rcases key (M + 1) with h | h
  · exact h
  · have := hM _ (h (M + 1) (by omega) (Nat.le_refl _)); omega
theorem freeN_spec (S : List Int) : LeastFree S (freeN S) := by
  obtain ⟨n, h⟩ := free_exists S
  rw [freeN_eq h]; exact h
theorem dir_of_list {L : List Itm} {d : Int} (h : listErr L d = 0) : isDirB L d = true := by
  cases hd : isDirB L d with
  | true => rfl
  | false => unfold listErr at h; rw [hd] at h; simp at h; split at h <;> cases h
theorem TInv.new : TInv [] 1 := ⟨by simp [nodes], by simp, by simp, by simp [entries], by simp, by simp, by decide, ⟨fun _ => 0, rfl, by simp⟩, by simp⟩
theorem TInv.link {L : List Itm} {next : Int} (h : TInv L next) (dir : Int) (name : ByteArray) (isDir : Bool) (short : Int) : TInv (linkT L next dir name isDir short).L (linkT L next dir name isDir short).next := by
  unfold linkT
  split
  · exact h
  · rename_i hz
    have hz' : linkErr L dir name short = 0 := by simpa using hz
    split
    · rename_i hf
      unfold linkErr at hz'
      split at hz'
      · rename_i q; exact absurd hz' q
      · rename_i q1
        split at hz'
        · rename_i q; exact absurd hz' q
        · rename_i q2
          split at hz'
          · cases hz'
          · rename_i q3
            have hs := freeN_spec (nodes L)
            exact h.linked hs.2.1 (by have := hs.1; show (1 : Int) ≤ (freeN (nodes L) : Int); omega) (by show (freeN (nodes L) : Int) ≤ 200; omega) (dir_of_list (by simpa using q1)) (find_none (by simpa using q3)) rfl (by simpa using q2)
    · exact h
theorem TInv.unlink {L : List Itm} {next : Int} (h : TInv L next) (dir : Int) (name : ByteArray) (isDir : Bool) : TInv (unlinkT L dir name isDir).1 next := by
  unfold unlinkT
  split
  · exact h
  · rename_i hz
    have hz' : unlinkErr L dir name isDir = 0 := by simpa using hz
    unfold unlinkErr at hz'
    split at hz'
    · rename_i q; exact absurd hz' q
    · rename_i q1
      obtain ⟨x, i, e1, hit, enm, -, -, -, -⟩ := find_spec (by simpa using q1)
      rw [e1] at hz'
      split at hz'
      · cases hz'
      · split at hz'
        · cases hz'
        · split at hz'
          · cases hz'
          · rename_i q4
            rw [← enm]
            exact h.dropped hit (by simpa using q4)
theorem TInv.move {L : List Itm} {next : Int} (h : TInv L next) (dir : Int) (name : ByteArray) (to : Int) (as_ : ByteArray) (short : Int) : TInv (moveT L next dir name to as_ short).L (moveT L next dir name to as_ short).next := by
  unfold moveT
  split
  · exact h
  · rename_i hz
    have hz' : moveErr L dir name to as_ short = 0 := by simpa using hz
    unfold moveErr at hz'
    split at hz'
    · rename_i q; exact absurd hz' q
    · rename_i q1
      obtain ⟨x, i, e1, hit, enm, -, -, -, -⟩ := find_spec (by simpa using q1)
      split at hz'
      · rename_i q; exact absurd hz' q
      · rename_i q2
        split at hz'
        · rename_i q; exact absurd hz' q
        · rename_i q3
          split at hz'
          · cases hz'
          · rename_i q4
            split at hz'
            · cases hz'
            · rename_i q5
              rw [e1] at q4 ⊢
              have := h.moved hit (to := to) (y := ⟨as_, x.node, x.dir, next, short⟩) rfl rfl rfl (dir_of_list (by simpa using q2)) (fun u => q4 (underB_iff.2 u)) (find_none (by simpa using q5)) (by simpa using q3)
              unfold movedT at this
              rw [enm] at this
              exact this
set_option maxHeartbeats 1000000 in
theorem tcookie_any {w : World} {F : Nat → Prop} {g : Nat} {L : List Itm} {next : Int} (h : TreeM w F g L next) : Calls Tryz.prog 25 #[.pointer (some ⟨g, 0, none⟩)] w fun e w' => e = .returned (.int .i64 next) ∧ w = w' := by
  obtain ⟨bd, bf, gp, bp, vp, D, Fm, p, rfl, hm, -⟩ := h
  have c3 : w.cell? ⟨g, 3, none⟩ = some (.int .i64 next) := (m_cells hm.blk).1 3
  clear hm
  go_enter Tryz.func25, Tryz.ntmps25
  go_wp2_with fail
  go_ret
  exact ⟨rfl, rfl⟩
end Go.Proofs.YtolilbcpfdnkjaaGreat
