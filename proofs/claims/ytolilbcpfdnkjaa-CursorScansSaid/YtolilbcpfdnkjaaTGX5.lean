/- Lemmas, texts X5 X6 X7; no condition beyond those that each states. -/
import Derived.Test.YtolilbcpfdnkjaaTGUB
import Derived.Laws.StructEq
import Derived.Test.YtolilbcpfdnkjaaTGX1
/- tree: a tree of a law's own beside other blocks. -/
namespace Go.Proofs.Ytolilbcpfdnkjaa
open Go.RowKit
set_option linter.unusedSimpArgs false
set_option linter.unusedVariables false
/-- The blocks R read as before. -/
def Stays (R : Nat → Prop) (w w' : World) : Prop := ∀ k, R k → w'.heap[k]? = w.heap[k]?
/-- A law's own tree, apart from the blocks R. -/
def OwnTR (w0 w : World) (R : Nat → Prop) (g : Nat) (L : List Itm) (next : Int) : Prop :=
  ∃ F, TreeM w F g L next ∧ (∀ k, F k → w0.heap.size ≤ k) ∧ Below w0.heap.size w0 w ∧ (∀ k, R k → k < w.heap.size ∧ ¬ F k)
def ownBk (v : Value) (k : Nat) : Prop := v.ownBlock = some k
section
variable {w0 w w' : World} {g : Nat} {L L' : List Itm} {next next' : Int} {R R' : Nat → Prop}
theorem OwnTR.bel (h : OwnTR w0 w R g L next) : Below w0.heap.size w0 w := by obtain ⟨F, _, _, h, _⟩ := h; exact h
theorem OwnTR.own (h : OwnTR w0 w R g L next) : OwnT w0 w g L next := by obtain ⟨F, a, b, c, _⟩ := h; exact ⟨F, a, b, c⟩
theorem OwnT.beside (h : OwnT w0 w g L next) : OwnTR w0 w (fun _ => False) g L next := by obtain ⟨F, a, b, c⟩ := h; exact ⟨F, a, b, c, fun k q => q.elim⟩
/-- Others have turned, behind w. -/
theorem OwnTR.turn (h : OwnTR w0 w R g L next) (hb : Below w.heap.size w w') (hR : ∀ k, R' k → (R k ∨ w.heap.size ≤ k) ∧ k < w'.heap.size) : OwnTR w0 w' R' g L next := by
  obtain ⟨F, a, b, c, d⟩ := h
  refine ⟨F, a.below hb, b, c.trans (hb.mono c.size), fun k q => ?_⟩
  obtain ⟨e1, e2⟩ := hR k q
  refine ⟨e2, fun f => ?_⟩
  rcases e1 with e1 | e1
  · exact (d k e1).2 f
  · exact absurd (a.lt f) (Nat.not_lt.2 e1)
theorem OwnTR.below (h : OwnTR w0 w R g L next) (hb : Below w.heap.size w w') : OwnTR w0 w' R g L next := by
  refine h.turn hb (fun k q => ⟨Or.inl q, ?_⟩)
  obtain ⟨F, a, b, c, d⟩ := h
  exact Nat.lt_of_lt_of_le (d k q).1 hb.size
theorem OwnTR.less (h : OwnTR w0 w R g L next) (hR : ∀ k, R' k → R k) : OwnTR w0 w R' g L next := by
  obtain ⟨F, a, b, c, d⟩ := h
  exact ⟨F, a, b, c, fun k q => d k (hR k q)⟩
theorem OwnTR.step {F : Nat → Prop} (h1 : TreeM w F g L next) (h2 : ∀ k, F k → w0.heap.size ≤ k) (h3 : Below w0.heap.size w0 w) (h4 : ∀ k, R k → k < w.heap.size ∧ ¬ F k) (hs : TStep w F g L' next' w') : OwnTR w0 w' R g L' next' ∧ Stays R w w' := by
  obtain ⟨F', k1, k2, k3⟩ := hs
  refine ⟨⟨F', k1, fun k q => (k2 k q).elim (h2 k) (fun q => Nat.le_trans h3.size q), h3.trans (k3.toBelow h3.size h2), fun k q => ⟨Nat.lt_of_lt_of_le (h4 k q).1 k3.size, fun f => (k2 k f).elim (h4 k q).2 (fun e => Nat.lt_irrefl _ (Nat.lt_of_lt_of_le (h4 k q).1 e))⟩⟩, fun k q => k3.block k (h4 k q).1 (h4 k q).2⟩
theorem Row.stays {α : Type} {E : EK α} {B : Nat} {v : Value} {l : List α} (h : Row E w B v l) (hs : Stays R w w') (hR : ∀ k, v.ownBlock = some k → R k) : Row E w' B v l := h.kept (fun k q => hs k (hR k q))
theorem ownr_do (h : OwnTR w0 w R g L next) (hi : TInv L next) (hn : next ≤ 1000000000) (o : Op1) (hk : o.kind < 256) (h1 : o.name.size ≤ maxLen) (h2 : o.as_.size ≤ maxLen) :
    Calls Try.prog 13 #[.pointer (some ⟨g, 0, none⟩), o.val] w fun e w' =>
      e = .returned (.tuple #[.int .i64 (doT L next o).node, .int .i64 (doT L next o).err]) ∧ OwnTR w0 w' R g (doT L next o).L (doT L next o).next ∧ Stays R w w' := by
  obtain ⟨F, k1, k2, k3, k4⟩ := h
  exact (tdo_any o k1 hi hn hk h1 h2).mono fun e w' ⟨a, b⟩ => ⟨a, OwnTR.step k1 k2 k3 k4 b⟩
theorem ownr_list (h : OwnTR w0 w R g L next) (hi : TInv L next) (d : Int) :
    Calls Try.prog 14 #[.pointer (some ⟨g, 0, none⟩), .int .i64 d] w fun e w' => ∃ v l, e = .returned (.tuple #[v, .int .i64 (listErr L d)]) ∧ Row EEnt w' w.heap.size v l ∧ (listErr L d = 0 → l = entries L d) ∧ OwnTR w0 w' R g L next ∧ Below w.heap.size w w' := by
  have hl := hi.len
  have h0 := h
  obtain ⟨F, k1, k2, k3, k4⟩ := h
  exact (tlist_any d k1 (by omega)).mono fun e w' ⟨v, l, a, b, c, hb⟩ => ⟨v, l, a, b, c, h0.below hb, hb⟩
end
end Go.Proofs.Ytolilbcpfdnkjaa

/- cursor's law: has, count. -/
namespace Go.Proofs.Ytolilbcpfdnkjaa
open Go.RowKit
set_option linter.unusedSimpArgs false
set_option linter.unusedVariables false
theorem eql_ent (x y : Ent) (w : World) : (binOp .eql 40 x.val y.val).run Try.prog w = .ok (.bool (decide (x = y))) w := by
  have u2 := Try.underlying2
  have u3 := Try.underlying3
  have u4 := Try.underlying4
  have u9 := Try.underlying9
  have a2 := Try.isAgg2
  have a3 := Try.isAgg3
  have a4 := Try.isAgg4
  have a9 := Try.isAgg9
  have z2 := Try.sizeOf2
  have z3 := Try.sizeOf3
  have z4 := Try.sizeOf4
  have z9 := Try.sizeOf9
  have hS : Try.prog.underlying 40 = some (.struct (Try.prog.fieldsOf 40)) := by kernel_rfl
  have hp : Try.prog.stoodInHeld 40 = false := by kernel_rfl
  have hd : decide (x = y) = ((x.name.toList == y.name.toList) && ((x.node == y.node) && ((x.dir == y.dir) && ((x.cookie == y.cookie) && (x.short == y.short))))) := by
    rw [Bool.eq_iff_iff, decide_eq_true_iff]
    have hs : (x.name.toList = y.name.toList) ↔ x.name = y.name := by rw [← bstr_eq_iff, beq_iff_eq]
    simp only [Bool.and_eq_true, beq_iff_eq, hs]
    cases x; cases y; simp
  rw [hd]
  rw [run_eql_struct, show (10000 : Nat) = 9999 + 1 from rfl, run_equalIn_agg w 9999 40 _ _ hS hp]
  simp only [Program.fieldsOf, Try.underlying40]
  go_simp
  by_cases h1 : x.name.toList = y.name.toList <;> by_cases h2 : x.node = y.node <;> by_cases h3 : x.dir = y.dir <;> by_cases h4 : x.cookie = y.cookie <;> by_cases h5 : x.short = y.short <;> simp [h1, h2, h3, h4, h5]
def cntE (l : List Ent) (x : Ent) : Nat := l.countP (fun y => decide (y = x))
theorem cntE_snoc (l : List Ent) (i : Nat) (x y : Ent) (hy : l[i]? = some y) : cntE (l.take (i + 1)) x = cntE (l.take i) x + if y = x then 1 else 0 := by
  have : l.take (i + 1) = l.take i ++ [y] := by rw [List.take_add_one, hy]; rfl
  unfold cntE
  rw [this, List.countP_append]
  by_cases h : y = x <;> simp [h]
set_option maxRecDepth 100000 in
set_option maxHeartbeats 2000000 in
theorem count_any {v : Value} (w : World) (l : List Ent) (x : Ent) (h : Arg EEnt w v l) (ml : l.length ≤ 1000000) :
    Calls Try.prog 24 #[v, x.val] w fun e w' => e = .returned (.int .i64 (cntE l x)) ∧ Below w.heap.size w w' := by
  obtain ⟨a1, k1, rfl⟩ := h.shape
  have hbw : Below w.heap.size w (w.alloc (.cells #[.string x.name, .int .i64 x.node, .bool x.dir, .int .i64 x.cookie, .int .i64 x.short] 40)) := (Below.refl _ _).alloc (Nat.le_refl _) _
  have hblk := m_alloc w (.cells #[.string x.name, .int .i64 x.node, .bool x.dir, .int .i64 x.cookie, .int .i64 x.short] 40) w.heap.size rfl
  obtain ⟨W, hW⟩ : ∃ W, w.alloc (.cells #[.string x.name, .int .i64 x.node, .bool x.dir, .int .i64 x.cookie, .int .i64 x.short] 40) = W := ⟨_, rfl⟩
  rw [hW] at hbw hblk
  have H := Lib.hid (h.below hbw)
  have HBW := Lib.hid hbw
  have HBLK := Lib.hid hblk
  have HSZ := Lib.hid (m_lt hblk)
  clear h hbw hblk
  go_enter Try.func24, Try.ntmps24
  go_wp2_with fail
  clear hW
  go_loopw [5, 6] (fun nv iv wr => ∃ i : Nat, iv = .int .i64 i ∧ i ≤ l.length ∧ nv = .int .i64 (cntE (l.take i) x) ∧ Below W.heap.size W wr) (fun _ iv _ => l.length - (intOf iv).toNat)
  case atStart => exact ⟨0, rfl, Nat.zero_le _, rfl, Below.refl _ _⟩
  case round =>
    obtain ⟨i, rfl, hi, rfl, hb⟩ := hrel
    have HB := Lib.hid hb
    clear hb
    by_cases hlt : i < l.length
    · have i1 : (i : Int) < l.length := by omega
      obtain ⟨y, hy⟩ : ∃ y, l[i]? = some y := ⟨_, List.getElem?_eq_getElem hlt⟩
      obtain ⟨g, off, rfl, -, c0, c1, c2, c3, c4⟩ := ent_cells H.out i y hy
      have c0 := cell_later HB.out c0
      have c1 := cell_later HB.out c1
      have c2 := cell_later HB.out c2
      have c3 := cell_later HB.out c3
      have c4 := cell_later HB.out c4
      have hbk : wr.heap[w.heap.size]? = some (.cells #[.string x.name, .int .i64 x.node, .bool x.dir, .int .i64 x.cookie, .int .i64 x.short] 40 (0, 0)) := by rw [HB.out.block _ HSZ.out]; exact HBLK.out
      have d0 : wr.cell? ⟨w.heap.size, 0, none⟩ = some (.string x.name) := (m_cells hbk).1 0
      have d1 : wr.cell? ⟨w.heap.size, 1, none⟩ = some (.int .i64 x.node) := (m_cells hbk).1 1
      have d2 : wr.cell? ⟨w.heap.size, 2, none⟩ = some (.bool x.dir) := (m_cells hbk).1 2
      have d3 : wr.cell? ⟨w.heap.size, 3, none⟩ = some (.int .i64 x.cookie) := (m_cells hbk).1 3
      have d4 : wr.cell? ⟨w.heap.size, 4, none⟩ = some (.int .i64 x.short) := (m_cells hbk).1 4
      have hne := eql_ent y x
      have HCN := Lib.hid (cntE_snoc l i x y hy)
      have HLE := Lib.hid (show cntE (l.take i) x ≤ i from Nat.le_trans List.countP_le_length (by rw [List.length_take]; omega))
      clear hy hbk
      go_wp2_with fail
      go_quiet (fail)
      have HBQ := Lib.hid (show Below wr.heap.size wr (wr.drewN nq) from ⟨rfl, rfl, rfl, Nat.le_refl _, fun _ _ => rfl⟩)
      have hcl := HLE.out
      generalize hC : cntE (l.take i) x = C at *
      by_cases e : y = x
      · have hd : decide (y = x) = true := decide_eq_true e
        rw [hd]
        go_wp2_with fail
        exact ⟨⟨i + 1, by go_num, hlt, by rw [HCN.out, if_pos e]; rfl, HB.out.trans (HBQ.out.mono HB.out.size)⟩, by simp [intOf]; omega⟩
      · have hd : decide (y = x) = false := decide_eq_false e
        rw [hd]
        go_wp2_with fail
        exact ⟨⟨i + 1, by go_num, hlt, by rw [HCN.out, if_neg e]; rfl, HB.out.trans (HBQ.out.mono HB.out.size)⟩, by simp [intOf]; omega⟩
    · have ei : i = l.length := by omega
      subst ei
      have i2 : ¬ ((l.length : Int) < l.length) := by omega
      go_wp2_with fail
      go_ret
      exact ⟨rfl, HBW.out.trans (HB.out.mono HBW.out.size)⟩
theorem has_any {v : Value} (w : World) (l : List Ent) (x : Ent) (h : Arg EEnt w v l) (ml : l.length ≤ 1000000) :
    Calls Try.prog 23 #[v, x.val] w fun e w' => e = .returned (.bool (decide (x ∈ l))) ∧ Below w.heap.size w w' := by
  have hb : ∀ b, Below w.heap.size w (w.alloc b) := fun b => (Below.refl _ w).alloc (Nat.le_refl _) b
  have HC := fun b => Lib.hid (count_any (w.alloc b) l x (h.below (hb b)) ml)
  have HD := Lib.hid (show decide (0 < cntE l x) = decide (x ∈ l) from by
    rw [decide_eq_decide]
    unfold cntE
    have : 0 < l.countP (fun y => decide (y = x)) ↔ x ∈ l := by rw [List.countP_pos_iff]; simp
    exact this)
  have HB := Lib.hid hb
  obtain ⟨a1, k1, rfl⟩ := h.shape
  clear h hb
  go_enter Try.func23, Try.ntmps23
  go_wp2_with fail
  refine (HC _).out.mono ?_
  rintro e w1 ⟨rfl, hb1⟩
  go_wp2_with fail
  go_ret
  exact ⟨ret_bool HD.out, (HB.out _).trans (hb1.mono (HB.out _).size)⟩
end Go.Proofs.Ytolilbcpfdnkjaa

/- CursorScans, in plain Lean. -/
namespace Go.Proofs.Ytolilbcpfdnkjaa
open Go.RowKit
set_option linter.unusedSimpArgs false
set_option linter.unusedVariables false
/-- Those of l that are not there yet, behind a. -/
def extE (a l : List Ent) : List Ent := l.foldl (fun a x => if x ∈ a then a else a ++ [x]) a
theorem extE_snoc (a l : List Ent) (x : Ent) : extE a (l ++ [x]) = if x ∈ extE a l then extE a l else extE a l ++ [x] := by
  unfold extE; rw [List.foldl_append]; rfl
theorem extE_take (a l : List Ent) (i : Nat) (x : Ent) (hx : l[i]? = some x) : extE a (l.take (i + 1)) = if x ∈ extE a (l.take i) then extE a (l.take i) else extE a (l.take i) ++ [x] := by
  rw [show l.take (i + 1) = l.take i ++ [x] from by rw [List.take_add_one, hx]; rfl, extE_snoc]
theorem extE_mem (a l : List Ent) (y : Ent) : y ∈ extE a l ↔ y ∈ a ∨ y ∈ l := by
  induction l generalizing a with
  | nil => simp [extE]
  | cons x l ih =>
    have : extE a (x :: l) = extE (if x ∈ a then a else a ++ [x]) l := rfl
    rw [this, ih]
    by_cases h : x ∈ a
    · rw [if_pos h, List.mem_cons]
      exact ⟨fun q => q.elim Or.inl (fun q => Or.inr (Or.inr q)), fun q => q.elim Or.inl (fun q => q.elim (fun e => Or.inl (e ▸ h)) Or.inr)⟩
    · rw [if_neg h, List.mem_cons, List.mem_append, List.mem_singleton, or_assoc]
theorem extE_nodup (a l : List Ent) (h : a.Nodup) : (extE a l).Nodup := by
  induction l generalizing a with
  | nil => exact h
  | cons x l ih =>
    have : extE a (x :: l) = extE (if x ∈ a then a else a ++ [x]) l := rfl
    rw [this]
    refine ih _ ?_
    by_cases q : x ∈ a
    · rw [if_pos q]; exact h
    · rw [if_neg q, List.nodup_append]
      exact ⟨h, by simp, fun y hy z hz e => by simp at hz; subst hz; subst e; exact q hy⟩
/-- At most one comes. -/
theorem extE_len (a l : List Ent) (y : Ent) (h : ∀ x ∈ l, x ∈ a ∨ x = y) : (extE a l).length ≤ a.length + 1 := by
  have key : ∀ (l a' : List Ent), (a' = a ∨ a' = a ++ [y]) → (∀ x ∈ l, x ∈ a ∨ x = y) → extE a' l = a ∨ extE a' l = a ++ [y] := by
    intro l
    induction l with
    | nil => exact fun a' h _ => h
    | cons x l ih =>
      intro a' ha hl
      have : extE a' (x :: l) = extE (if x ∈ a' then a' else a' ++ [x]) l := rfl
      rw [this]
      refine ih _ ?_ (fun z hz => hl z (List.mem_cons_of_mem _ hz))
      by_cases c : x ∈ a'
      · rw [if_pos c]; exact ha
      · rw [if_neg c]
        rcases ha with e | e
        · subst e
          rcases hl x (by simp) with q | q
          · exact absurd q c
          · subst q; exact Or.inr rfl
        · subst e
          exact absurd (by rcases hl x (by simp) with q | q
                           · exact List.mem_append_left _ q
                           · subst q; simp) c
  rcases key l a (Or.inl rfl) h with e | e <;> rw [e] <;> simp
theorem extE_len2 (a l : List Ent) (n : Nat) (h : l.length ≤ n) : (extE a l).length ≤ a.length + n := by
  have key : ∀ (l a : List Ent), (extE a l).length ≤ a.length + l.length := by
    intro l
    induction l with
    | nil => intro a; exact Nat.le_refl _
    | cons x l ih =>
      intro a
      have : extE a (x :: l) = extE (if x ∈ a then a else a ++ [x]) l := rfl
      rw [this]
      have := ih (if x ∈ a then a else a ++ [x])
      have h2 : (if x ∈ a then a else a ++ [x]).length ≤ a.length + 1 := by split <;> simp
      simp only [List.length_cons]
      omega
  have := key l a
  omega
theorem nodup_len {α : Type} {a b : List α} (h : a.Nodup) (hs : ∀ x ∈ a, x ∈ b) : a.length ≤ b.length := by
  induction a generalizing b with
  | nil => exact Nat.zero_le _
  | cons x t ih =>
    obtain ⟨h1, h2⟩ := List.nodup_cons.1 h
    obtain ⟨s, u, rfl⟩ := List.append_of_mem (hs x (by simp))
    have := ih h2 (b := s ++ u) (fun z hz => by
      have := hs z (List.mem_cons_of_mem _ hz)
      rcases List.mem_append.1 this with q | q
      · exact List.mem_append_left _ q
      · rcases List.mem_cons.1 q with q | q
        · subst q; exact absurd hz h1
        · exact List.mem_append_right _ q)
    simp only [List.length_append, List.length_cons] at this ⊢
    omega
/-- What a call leaves, and what it brings. -/
theorem doT_items (L : List Itm) (next : Int) (o : Op1) : (∀ i ∈ (doT L next o).L, i ∈ L) ∨ ((doT L next o).next = next + 1 ∧ ∃ y : Itm, y.e.cookie = next ∧ ∀ i ∈ (doT L next o).L, i ∈ L ∨ i = y) := by
  have drop : ∀ d name i, i ∈ dropT L d name → i ∈ L := fun d name i hi => (List.mem_filter.1 hi).1
  unfold doT
  split
  · unfold linkT
    split
    · exact Or.inl (fun i hi => hi)
    · split
      · refine Or.inr ⟨rfl, ⟨o.dir, ⟨o.name, freeN (nodes L), o.is_, next, o.short⟩⟩, rfl, fun i hi => ?_⟩
        rcases List.mem_append.1 hi with q | q
        · exact Or.inl q
        · exact Or.inr (by simpa using q)
      · exact Or.inl (fun i hi => hi)
  · split
    · refine Or.inl (fun i hi => ?_)
      unfold unlinkT at hi
      split at hi
      · exact hi
      · exact drop _ _ _ hi
    · unfold moveT
      split
      · exact Or.inl (fun i hi => hi)
      · refine Or.inr ⟨rfl, ⟨o.to_, ⟨o.as_, (findRes L o.dir o.name).1.node, (findRes L o.dir o.name).1.dir, next, o.short⟩⟩, rfl, fun i hi => ?_⟩
        rcases List.mem_append.1 hi with q | q
        · exact Or.inl (drop _ _ _ q)
        · exact Or.inr (by simpa using q)
theorem ck_inj {L : List Itm} {next : Int} (h : TInv L next) {i j : Itm} (hi : i ∈ L) (hj : j ∈ L) (e : i.e.cookie = j.e.cookie) : i = j :=
  inj_of_nodup (f := fun i : Itm => i.e.cookie) (h.ck.imp (fun q => by intro e; omega)) hi hj e
theorem uq_ent {L : List Itm} {next : Int} (h : TInv L next) {x : Ent} (hx : x ∈ entries L 0) : ∀ i ∈ L, i.e.cookie = x.cookie → i.d = 0 ∧ i.e = x := by
  intro i hi e
  obtain ⟨j, hj, h1, rfl⟩ := mem_entries.1 hx
  have := ck_inj h hi hj e
  subst this
  exact ⟨h1, rfl⟩
theorem ents_nodup {l : List Ent} (h : (l.map (·.cookie)).Pairwise (· < ·)) : l.Nodup := by
  rw [List.pairwise_map] at h
  exact h.imp (fun q e => by subst e; omega)
theorem lastC_spec {X : List Ent} {c : Int} (hs : (X.map (·.cookie)).Pairwise (· < ·)) : (X = [] ∧ lastC X c = c) ∨ ∃ z ∈ X, lastC X c = z.cookie ∧ ∀ x ∈ X, x.cookie ≤ z.cookie := by
  cases h : X.getLast? with
  | none => exact Or.inl ⟨List.getLast?_eq_none_iff.1 h, by unfold lastC; rw [h]⟩
  | some z =>
    refine Or.inr ⟨z, List.mem_of_getLast? h, lastC_some h, fun x hx => ?_⟩
    obtain ⟨s, rfl⟩ := List.getLast?_eq_some_iff.1 h
    rw [List.map_append, List.pairwise_append] at hs
    rcases List.mem_append.1 hx with q | q
    · have := hs.2.2 x.cookie (List.mem_map.2 ⟨x, q, rfl⟩) z.cookie (by simp)
      omega
    · simp at q; subst q; exact Int.le_refl _
/-- What holds while one reads on. -/
structure SInv (first all read : List Ent) (at_ : Int) (L : List Itm) (next : Int) : Prop where
  ti : TInv L next
  fa : ∀ x ∈ first, x ∈ all
  la : ∀ x ∈ entries L 0, x ∈ all
  ac : ∀ x ∈ all, x.cookie < next
  uq : ∀ x ∈ all, ∀ i ∈ L, i.e.cookie = x.cookie → i.d = 0 ∧ i.e = x
  nd : all.Nodup
  ra : ∀ x ∈ read, x ∈ all
  rn : read.Nodup
  rc : ∀ x ∈ read, x.cookie ≤ at_
  lr : ∀ x ∈ entries L 0, x.cookie ≤ at_ → x ∈ read
  a0 : 0 ≤ at_
  an : at_ < next
theorem SInv.start {L : List Itm} {next : Int} (h : TInv L next) : SInv (entries L 0) (entries L 0) [] 0 L next := by
  refine ⟨h, fun x q => q, fun x q => q, fun x q => (entries_cookie h 0 x q).2, fun x q => uq_ent h q, ents_nodup (entries_sorted h 0), by simp, by simp, by simp, fun x q c => ?_, Int.le_refl _, by have := h.nx; omega⟩
  have := (entries_cookie h 0 x q).1
  omega
/-- A bit is read. -/
theorem SInv.read {first all rd : List Ent} {at_ : Int} {L : List Itm} {next : Int} (h : SInv first all rd at_ L next) (n : Nat) (h1 : 1 ≤ n) (h2 : n ≤ 64) :
    ∃ X, readT (entries L 0) at_ n = (X, lastC X at_, 0) ∧ SInv first all (rd ++ X) (lastC X at_) L next ∧ (X = [] → ∀ x ∈ entries L 0, x.cookie ≤ at_) ∧ X.length ≤ 64 := by
  have hE := entries_sorted h.ti 0
  have hF : (((entries L 0).filter (fun x => decide (at_ < x.cookie))).map (·.cookie)).Pairwise (· < ·) := hE.sublist (List.Sublist.map _ List.filter_sublist)
  have hX : (((entries L 0).filter (fun x => decide (at_ < x.cookie))).take n |>.map (·.cookie)).Pairwise (· < ·) := hF.sublist (List.Sublist.map _ (List.take_sublist _ _))
  have hmem : ∀ x ∈ ((entries L 0).filter (fun x => decide (at_ < x.cookie))).take n, x ∈ entries L 0 ∧ at_ < x.cookie := fun x q => by
    have := List.mem_filter.1 (List.mem_of_mem_take q)
    exact ⟨this.1, by simpa using this.2⟩
  refine ⟨((entries L 0).filter (fun x => decide (at_ < x.cookie))).take n, ?_, ?_, ?_, ?_⟩
  · have := h.a0
    unfold readT
    rw [if_neg (by omega), if_neg (by omega)]
    rfl
  · generalize hXX : ((entries L 0).filter (fun x => decide (at_ < x.cookie))).take n = X at *
    have hl := lastC_spec (c := at_) hX
    have hat : at_ ≤ lastC X at_ := by
      rcases hl with ⟨_, e⟩ | ⟨z, hz, e, _⟩
      · rw [e]; exact Int.le_refl _
      · have := (hmem z hz).2; omega
    refine ⟨h.ti, h.fa, h.la, h.ac, h.uq, h.nd, fun x q => ?_, ?_, fun x q => ?_, fun x q c => ?_, by have := h.a0; omega, ?_⟩
    · rcases List.mem_append.1 q with q | q
      · exact h.ra x q
      · exact h.la x (hmem x q).1
    · rw [List.nodup_append]
      refine ⟨h.rn, ents_nodup hX, fun a ha b hb e => ?_⟩
      subst e
      have h1 := h.rc a ha
      have h2 := (hmem a hb).2
      omega
    · rcases List.mem_append.1 q with q | q
      · have := h.rc x q; omega
      · rcases hl with ⟨e, _⟩ | ⟨z, hz, e, hm⟩
        · rw [e] at q; cases q
        · rw [e]; exact hm x q
    · by_cases c2 : x.cookie ≤ at_
      · exact List.mem_append_left _ (h.lr x q c2)
      · refine List.mem_append_right _ ?_
        have hxF : x ∈ (entries L 0).filter (fun x => decide (at_ < x.cookie)) := List.mem_filter.2 ⟨q, by simp; omega⟩
        rw [← List.take_append_drop n ((entries L 0).filter (fun x => decide (at_ < x.cookie))), List.mem_append, hXX] at hxF
        rcases hxF with hxF | hxF
        · exact hxF
        · exfalso
          rw [← List.take_append_drop n ((entries L 0).filter (fun x => decide (at_ < x.cookie))), List.map_append, List.pairwise_append, hXX] at hF
          rcases hl with ⟨e, _⟩ | ⟨z, hz, e, hm⟩
          · rw [e] at hXX
            have hd : (((entries L 0).filter (fun x => decide (at_ < x.cookie))).take n).length = 0 := by rw [hXX]; rfl
            rw [List.length_take] at hd
            have : ((entries L 0).filter (fun x => decide (at_ < x.cookie))).length = 0 := by omega
            rw [List.eq_nil_of_length_eq_zero this] at hxF
            simp at hxF
          · have := hF.2.2 z.cookie (List.mem_map.2 ⟨z, hz, rfl⟩) x.cookie (List.mem_map.2 ⟨x, hxF, rfl⟩)
            omega
    · rcases hl with ⟨_, e⟩ | ⟨z, hz, e, _⟩
      · rw [e]; exact h.an
      · rw [e]; exact (entries_cookie h.ti 0 z (hmem z hz).1).2
  · intro e x hx
    have hd : (((entries L 0).filter (fun x => decide (at_ < x.cookie))).take n).length = 0 := by rw [e]; rfl
    rw [List.length_take] at hd
    have h0 : ((entries L 0).filter (fun x => decide (at_ < x.cookie))).length = 0 := by omega
    rcases Int.lt_or_le at_ x.cookie with c | c
    · have : x ∈ (entries L 0).filter (fun x => decide (at_ < x.cookie)) := List.mem_filter.2 ⟨hx, by simpa using c⟩
      rw [List.eq_nil_of_length_eq_zero h0] at this
      cases this
    · exact c
  · rw [List.length_take]; omega
/-- A call is done between. -/
theorem SInv.step {first all rd : List Ent} {at_ : Int} {L : List Itm} {next : Int} (h : SInv first all rd at_ L next) (o : Op1) :
    SInv first (extE all (entries (doT L next o).L 0)) rd at_ (doT L next o).L (doT L next o).next ∧ (extE all (entries (doT L next o).L 0)).length ≤ all.length + 1 := by
  have hT := h.ti.do_ o
  have hN := (doT_next L next o).1
  have hI := doT_items L next o
  generalize hR : doT L next o = R at *
  have hE : ∃ y : Ent, (y.cookie < next → False) ∧ (∀ x ∈ entries R.L 0, x ∈ entries L 0 ∨ x = y) ∧ ∀ i ∈ R.L, i ∈ L ∨ i.e = y := by
    rcases hI with q | ⟨_, y, hy, q⟩
    · exact ⟨⟨⟨#[]⟩, 0, false, next, 0⟩, fun c => Int.lt_irrefl _ c, fun x hx => by
        obtain ⟨i, hi, e1, e2⟩ := mem_entries.1 hx
        exact Or.inl (mem_entries.2 ⟨i, q i hi, e1, e2⟩), fun i hi => Or.inl (q i hi)⟩
    · exact ⟨y.e, fun c => by omega, fun x hx => by
        obtain ⟨i, hi, e1, e2⟩ := mem_entries.1 hx
        rcases q i hi with q | q
        · exact Or.inl (mem_entries.2 ⟨i, q, e1, e2⟩)
        · subst q; exact Or.inr e2.symm, fun i hi => (q i hi).imp id (fun e => by rw [e])⟩
  obtain ⟨y, hy, hEy, hLy⟩ := hE
  refine ⟨⟨hT, fun x q => (extE_mem _ _ _).2 (Or.inl (h.fa x q)), fun x q => (extE_mem _ _ _).2 (Or.inr q), fun x q => ?_, fun x q i hi e => ?_, extE_nodup _ _ h.nd, fun x q => (extE_mem _ _ _).2 (Or.inl (h.ra x q)), h.rn, h.rc, fun x q c => ?_, h.a0, by have := h.an; omega⟩, extE_len _ _ y (fun x q => (hEy x q).imp (h.la x) id)⟩
  · rcases (extE_mem _ _ _).1 q with q | q
    · have := h.ac x q; omega
    · exact (entries_cookie hT 0 x q).2
  · rcases (extE_mem _ _ _).1 q with q | q
    · rcases hLy i hi with c | c
      · exact h.uq x q i c e
      · exfalso
        have := h.ac x q
        rw [c] at e
        exact hy (by omega)
    · exact uq_ent hT q i hi e
  · rcases hEy x q with q | q
    · exact h.lr x q c
    · subst q
      have := h.an
      exact absurd (hy (by omega)) id
theorem SInv.lens {first all rd : List Ent} {at_ : Int} {L : List Itm} {next : Int} (h : SInv first all rd at_ L next) : rd.length ≤ all.length := nodup_len h.rn h.ra
theorem first_len {L : List Itm} {next : Int} (h : TInv L next) : ((entries L 0).length : Int) ≤ next - 1 := by
  have hn := h.nx
  have hnd : ((entries L 0).map (·.cookie)).Nodup := List.Pairwise.imp (fun {a b} q => by intro e; omega) (entries_sorted h 0)
  have := nodup_bound (next - 1).toNat ((entries L 0).map (·.cookie)) hnd (fun x hx => by
    obtain ⟨e, he, rfl⟩ := List.mem_map.1 hx
    have := entries_cookie h 0 e he
    omega)
  rw [List.length_map] at this
  omega
end Go.Proofs.Ytolilbcpfdnkjaa
