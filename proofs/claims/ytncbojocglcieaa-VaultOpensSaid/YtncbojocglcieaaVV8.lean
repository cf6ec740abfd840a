/- Lemmas for the laws of one seat, texts Ro V5 V6 V7; no condition beyond those that each states. -/
import Derived.Test.YtncbojocglcieaaVV7
import Derived.Deep.RegionWith
import Derived.Deep.Cut
/- Rows that begin anywhere in their block: what is left of a row whose first elements were cut off; appending one. -/
namespace Go.Proofs.Ytncbojocglcieaa
open Go.RowKit
set_option linter.unusedSimpArgs false
set_option linter.unusedVariables false
/-- A slice of the call's own, wherever it begins. -/
def RowO {α : Type} (E : EK α) (w : World) (B : Nat) (v : Value) (l : List α) : Prop :=
  (v = .slice none 0 0 ∧ l = []) ∨ ∃ g off cap, v = .slice (some ⟨g, off, none⟩) l.length cap ∧ B ≤ g ∧ g < w.heap.size ∧ l.length ≤ cap ∧ cap ≤ maxLen ∧
    (∀ j u, (l.flatMap E.enc)[j]? = some u → w.cell? ⟨g, off + j, none⟩ = some u) ∧
    (∀ j, j < cap * E.size → (w.cell? ⟨g, off + j, none⟩).isSome = true ∧ w.frozen? ⟨g, off + j, none⟩ = false)
section
variable {α : Type} {E : EK α} {w w' : World} {B : Nat} {v : Value} {l : List α}
theorem RowO.nil (E : EK α) (w : World) (B : Nat) : RowO E w B (.slice none 0 0) [] := Or.inl ⟨rfl, rfl⟩
theorem RowO.of_row (h : Row E w B v l) : RowO E w B v l := by
  rcases h.2 with ⟨rfl, q⟩ | ⟨g, cap, cur, rfl, hg, hh, hn, hc, hz, ht⟩
  · exact Or.inl ⟨rfl, List.eq_nil_of_length_eq_zero q⟩
  · have hm := m_cells hh
    refine Or.inr ⟨g, 0, cap, rfl, hg, m_lt hh, hn, hc, fun j u hj => ?_, fun j hj => ?_⟩
    · rw [Nat.zero_add, hm.1 j]
      have hjl := (List.getElem?_eq_some_iff.1 hj).1
      rw [E.flat_len] at hjl
      rw [← ht, List.getElem?_take] at hj
      rw [if_pos hjl] at hj
      rw [← Array.getElem?_toList]; exact hj
    · rw [Nat.zero_add]
      refine ⟨?_, hm.2 j⟩
      rw [hm.1 j, Array.getElem?_eq_getElem (by omega)]; rfl
theorem RowO.kept (h : RowO E w B v l) (hs : w.heap.size ≤ w'.heap.size) (hk : ∀ k, v.ownBlock = some k → w'.heap[k]? = w.heap[k]?) : RowO E w' B v l := by
  rcases h with h | ⟨g, off, cap, rfl, h1, h2, h3, h4, h5, h6⟩
  · exact Or.inl h
  · have hb := hk g rfl
    exact Or.inr ⟨g, off, cap, rfl, h1, Nat.lt_of_lt_of_le h2 hs, h3, h4, fun j u hj => by rw [World.cell?_of_block (by exact hb)]; exact h5 j u hj,
      fun j hj => by rw [World.cell?_of_block (by exact hb), World.frozen?_of_block (by exact hb)]; exact h6 j hj⟩
theorem RowO.lt (h : RowO E w B v l) {k : Nat} (hk : v.ownBlock = some k) : k < w.heap.size := by
  rcases h with ⟨rfl, _⟩ | ⟨g, off, cap, rfl, h1, h2, _⟩
  · cases hk
  · simp only [Value.ownBlock, Option.some.injEq] at hk; subst hk; exact h2
theorem RowO.ge (h : RowO E w B v l) {k : Nat} (hk : v.ownBlock = some k) : B ≤ k := by
  rcases h with ⟨rfl, _⟩ | ⟨g, off, cap, rfl, h1, h2, _⟩
  · cases hk
  · simp only [Value.ownBlock, Option.some.injEq] at hk; subst hk; exact h1
theorem RowO.keep {F : Nat → Prop} (h : RowO E w B v l) (k : Keep F w w') (hd : ∀ i, v.ownBlock = some i → ¬ F i) : RowO E w' B v l := h.kept k.size fun j hj => k.block j (h.lt hj) (hd j hj)
theorem RowO.below (h : RowO E w B v l) (k : Below w.heap.size w w') : RowO E w' B v l := h.kept k.size fun j hj => k.block j (h.lt hj)
theorem RowO.shape (h : RowO E w B v l) : ∃ a c, v = .slice a l.length c := by
  rcases h with ⟨rfl, rfl⟩ | ⟨g, off, cap, rfl, _⟩
  · exact ⟨_, _, rfl⟩
  · exact ⟨_, _, rfl⟩
theorem RowO.arg (h : RowO E w B v l) : Arg E w v l := by
  rcases h with ⟨rfl, rfl⟩ | ⟨g, off, cap, rfl, h1, h2, h3, h4, h5, h6⟩
  · exact Arg.nil E w
  · exact ⟨_, _, rfl, Or.inr ⟨_, rfl, fun j u hj => by rw [Addr.add_lit]; exact h5 j u hj⟩⟩
/-- What is left behind the first. -/
theorem RowO.tail {g cap : Nat} {x : α} (h : Row E w B (.slice (some ⟨g, 0, none⟩) (x :: l).length cap) (x :: l)) :
    RowO E w B (.slice (if cap = 1 then some ⟨g, 0, none⟩ else some ⟨g, E.size, none⟩) l.length (cap - 1)) l := by
  rcases RowO.of_row h with ⟨_, q⟩ | ⟨g', off, cap', e, h1, h2, h3, h4, h5, h6⟩
  · cases q
  · simp only [Value.slice.injEq, Option.some.injEq, Addr.mk.injEq, and_true, true_and] at e
    obtain ⟨⟨rfl, rfl⟩, rfl⟩ := e
    simp only [List.length_cons] at h3
    by_cases hc : cap = 1
    · subst hc
      have : l = [] := List.eq_nil_of_length_eq_zero (by omega)
      subst this
      rw [if_pos rfl]
      exact Or.inr ⟨g, 0, 0, rfl, h1, h2, Nat.zero_le _, by unfold maxLen; omega, fun j u hj => by simp at hj, fun j hj => by simp at hj⟩
    · rw [if_neg hc]
      refine Or.inr ⟨g, E.size, cap - 1, rfl, h1, h2, by omega, by omega, fun j u hj => ?_, fun j hj => ?_⟩
      · have := h5 (E.size + j) u (by
          rw [List.flatMap_cons, List.getElem?_append_right (by rw [E.len]; omega), E.len, Nat.add_sub_cancel_left]; exact hj)
        rwa [Nat.zero_add] at this
      · have := h6 (E.size + j) (by
          have e : cap = cap - 1 + 1 := by omega
          rw [e, Nat.succ_mul]; omega)
        rwa [Nat.zero_add] at this
theorem heap_setCells (b : Nat) : ∀ (vs : List Value) (o : Nat) (w : World), Keep (fun k => k = b) w (w.setCells b o vs)
  | [], _, w => Keep.refl _ _
  | v :: r, o, w => by
    rw [World.setCells]
    exact ((Keep.refl (fun k => k = b) w).set b o v (Or.inl rfl)).trans (heap_setCells b r (o + 1) _)
theorem size_setCells (b : Nat) : ∀ (vs : List Value) (o : Nat) (w : World), (w.setCells b o vs).heap.size = w.heap.size
  | [], _, w => rfl
  | v :: r, o, w => by
    rw [World.setCells, size_setCells b r (o + 1)]
    simp [World.setCell]
end
section
variable {α : Type} {E : EK α} {ops : Array Oper} {rest : List Oper} {o : Oper} {a : Act} {w : World} {Q : Exit → Act → World → Prop} {B : Nat}
/-- One element behind a row, at the operation. -/
theorem wp_appO {K : Act → World → Prop} (L : E.Laid) (s x : Operand) (ts : TypeId) (hts : Try.prog.underlying ts = some (.slice E.t)) (ho : o.op = .call { callee := .builtin .append, args := #[s, x], argTypes := #[ts, ts] })
    (v : Value) (l : List α) (hs : a.eval s = v) (hown : RowO E w B v l) (ad : Addr) (y : α) (c : Nat) (hx : a.eval x = .slice (some ad) 1 c) (harg : ∀ j u, (E.enc y)[j]? = some u → w.cell? (ad.add j) = some u) (hbytes : (l.length + 1) * E.bytes ≤ 140737488355328) (h63 : l.length + 1 ≤ maxLen) (hbase : B ≤ w.heap.size)
    (h : ∀ v' w', RowO E w' B v' (l ++ [y]) → (∀ k, v'.ownBlock = some k → v.ownBlock = some k ∨ w.heap.size ≤ k) → Keep (fun k => some k = v.ownBlock) w w' → K (a.put o.dst v') w') : o.wp Try.prog a w K Q := by
  obtain ⟨i0, z, hi, hz, hs0, hby, hzs⟩ := L
  have hel : (E.enc y).length = 1 * E.size := by rw [E.len, Nat.one_mul]
  rcases hown with ⟨rfl, rfl⟩ | ⟨g, off, cap, rfl, h1, h2, h3, h4, h5, h6⟩
  · obtain ⟨v', w', hr, h2, h3, _, h5⟩ := run_append_own_at (P := Try.prog) w B ts o.type E.t i0 z E.size E.bytes hts hi hz hs0 hby hzs E.pos (.slice none 0 0) 0 [] (World.ownsRow_nil _ _ _ _) ad 1 c (E.enc y) hel
      harg (fun u hu => E.one y u hu) (by simpa using h63) (by simpa using hbytes) hbase
    unfold Oper.wp execOp
    simp only [ho, resolve, invoke, builtin, Sem.run_bind, Sem.run_pure, Result.andThen_ok, List.map_toArray, List.map_cons, List.map_nil, hs, hx, hr]
    refine h v' w' (RowO.of_row ?_) (fun k q => ?_) (Keep.grown h3)
    · unfold Row; simpa using h2
    · rcases h5 with h5 | h5
      · exact Or.inl (by rw [← h5]; exact q)
      · rw [h5] at q; exact Or.inr (Nat.le_of_eq (by simpa using q))
  · rcases Nat.lt_or_ge cap (l.length + 1) with hlt | hge
    · obtain ⟨v', w', hr, r1, r2⟩ := run_append_arg_grows (P := Try.prog) w ts o.type E.t i0 z E.size E.bytes hts hi hz hs0 hby hzs E.pos ⟨g, off, none⟩ l.length cap (l.flatMap E.enc) (E.flat_len l)
        (fun j u hj => by rw [Addr.add_lit]; exact h5 j u hj) ad 1 c (E.enc y) hel harg hlt h63 hbytes
      unfold Oper.wp execOp
      simp only [ho, resolve, invoke, builtin, Sem.run_bind, Sem.run_pure, Result.andThen_ok, List.map_toArray, List.map_cons, List.map_nil, hs, hx, hr]
      have hrow : Row E w' w.heap.size v' (l ++ [y]) := by
        unfold Row; rw [List.length_append, List.flatMap_append]; simpa using r1
      refine h v' w' (RowO.of_row (hrow.mono hbase)) (fun k q => ?_) ((Keep.grown r2).mono (fun i q => by cases q))
      exact Or.inr (hrow.ge q)
    · have hr := run_append_room_cells (P := Try.prog) w ts o.type E.t i0 hts hi g off l.length cap ad 1 c (E.enc y) (by rw [hs0]; exact hel) harg (fun u hu => E.one y u hu) hge
        (fun j hj => by
          rw [hs0]
          have := (h6 (l.length * E.size + j) (by rw [E.len] at hj; have : (l.length + 1) * E.size ≤ cap * E.size := Nat.mul_le_mul_right _ hge; rw [Nat.succ_mul] at this; omega)).1
          rwa [← Nat.add_assoc] at this)
        (fun j hj => by
          rw [hs0]
          have := (h6 (l.length * E.size + j) (by rw [E.len] at hj; have : (l.length + 1) * E.size ≤ cap * E.size := Nat.mul_le_mul_right _ hge; rw [Nat.succ_mul] at this; omega)).2
          rwa [← Nat.add_assoc] at this)
      rw [hs0] at hr
      unfold Oper.wp execOp
      simp only [ho, resolve, invoke, builtin, Sem.run_bind, Sem.run_pure, Result.andThen_ok, List.map_toArray, List.map_cons, List.map_nil, hs, hx, hr]
      refine h _ _ (Or.inr ⟨g, off, cap, by simp, h1, by rw [size_setCells]; exact h2, by simpa using hge, h4, fun j u hj => ?_, fun j hj => ?_⟩) (fun k q => Or.inl q) ((heap_setCells g _ _ w).mono (fun i q => Or.inl (by rw [q]; rfl)))
      · rw [List.flatMap_append] at hj
        by_cases hjl : j < l.length * E.size
        · rw [World.cell?_setCells_out _ _ _ _ _ (fun _ _ => Or.inl (by show off + j < off + l.length * E.size; omega))]
          rw [List.getElem?_append_left (by rw [E.flat_len]; exact hjl)] at hj
          exact h5 j u hj
        · rw [List.getElem?_append_right (by rw [E.flat_len]; omega), E.flat_len] at hj
          simp only [List.flatMap_cons, List.flatMap_nil, List.append_nil] at hj
          obtain ⟨q1, q2⟩ := List.getElem?_eq_some_iff.1 hj
          have := World.cell?_setCells_in g (E.enc y) (off + l.length * E.size) w (fun i hi => by
            have := (h6 (l.length * E.size + i) (by rw [E.len] at hi; have : (l.length + 1) * E.size ≤ cap * E.size := Nat.mul_le_mul_right _ hge; rw [Nat.succ_mul] at this; omega)).1
            rwa [← Nat.add_assoc] at this) _ q1
          rw [show off + j = off + l.length * E.size + (j - l.length * E.size) from by omega, this, q2]
      · refine ⟨?_, by rw [World.frozen?_setCells]; exact (h6 j hj).2⟩
        by_cases hin : off + l.length * E.size ≤ off + j ∧ off + j < off + l.length * E.size + (E.enc y).length
        · have := World.cell?_setCells_in g (E.enc y) (off + l.length * E.size) w (fun i hi => by
            have := (h6 (l.length * E.size + i) (by rw [E.len] at hi; have : (l.length + 1) * E.size ≤ cap * E.size := Nat.mul_le_mul_right _ hge; rw [Nat.succ_mul] at this; omega)).1
            rwa [← Nat.add_assoc] at this) (j - l.length * E.size) (by omega)
          rw [show off + j = off + l.length * E.size + (j - l.length * E.size) from by omega, this]; rfl
        · rw [World.cell?_setCells_out _ _ _ _ _ (fun _ _ => by show off + j < _ ∨ _ ≤ off + j; omega)]
          exact (h6 j hj).1
/-- At the list of a plain region's operations. -/
theorem app_rowO (L : E.Laid) (hgd : o.guard = none) (s x : Operand) (ts : TypeId) (hts : Try.prog.underlying ts = some (.slice E.t)) (ho : o.op = .call { callee := .builtin .append, args := #[s, x], argTypes := #[ts, ts] })
    (v : Value) (l : List α) (hs : a.eval s = v) (hown : RowO E w B v l) (ad : Addr) (y : α) (c : Nat) (hx : a.eval x = .slice (some ad) 1 c) (harg : ∀ j u, (E.enc y)[j]? = some u → w.cell? (ad.add j) = some u) (hbytes : (l.length + 1) * E.bytes ≤ 140737488355328) (h63 : l.length + 1 ≤ maxLen) (hbase : B ≤ w.heap.size)
    (h : ∀ v' w', RowO E w' B v' (l ++ [y]) → (∀ k, v'.ownBlock = some k → v.ownBlock = some k ∨ w.heap.size ≤ k) → Keep (fun k => some k = v.ownBlock) w w' → wpList Try.prog ops Q rest (a.put o.dst v') w') : wpList Try.prog ops Q (o :: rest) a w :=
  wpList_plain hgd fun _ hK => wp_appO L s x ts hts ho v l hs hown ad y c hx harg hbytes h63 hbase fun v' w' h1 h2 h3 => hK _ _ (h v' w' h1 h2 h3)
/-- At a step of a region that draws. -/
theorem step_appO {K : Act → World → Prop} {E1 : Prop} (L : E.Laid) (hgd : o.guard = none) (s x : Operand) (ts : TypeId) (hts : Try.prog.underlying ts = some (.slice E.t)) (ho : o.op = .call { callee := .builtin .append, args := #[s, x], argTypes := #[ts, ts] })
    (v : Value) (l : List α) (hs : a.eval s = v) (hown : RowO E w B v l) (ad : Addr) (y : α) (c : Nat) (hx : a.eval x = .slice (some ad) 1 c) (harg : ∀ j u, (E.enc y)[j]? = some u → w.cell? (ad.add j) = some u) (hbytes : (l.length + 1) * E.bytes ≤ 140737488355328) (h63 : l.length + 1 ≤ maxLen) (hbase : B ≤ w.heap.size)
    (h : ∀ v' w', RowO E w' B v' (l ++ [y]) → (∀ k, v'.ownBlock = some k → v.ownBlock = some k ∨ w.heap.size ≤ k) → Keep (fun k => some k = v.ownBlock) w w' → K (a.put o.dst v') w') :
    if Region.wanted o (yielded ops a.tmps) = true then Oper.wp Try.prog o a w K Q else E1 := by
  have hw : Region.wanted o (yielded ops a.tmps) = true := by simp [Region.wanted, hgd]
  rw [if_pos hw]
  exact wp_appO L s x ts hts ho v l hs hown ad y c hx harg hbytes h63 hbase h
end
end Go.Proofs.Ytncbojocglcieaa

/- vault: a vault in memory; what only asks; Sync. -/
namespace Go.Proofs.Ytncbojocglcieaa
open Go.RowKit
set_option linter.unusedSimpArgs false
set_option linter.unusedVariables false
/-- A vault, by value. -/
structure VaultD where
  f : Int
  s : Int
  f2 : Int
  s2 : Int
  ep : Nat
  at_ : Int
  img : ByteArray
  recs : List ByteArray
  over : Bool
@[reducible] def VaultD.cells (v : VaultD) (g : Nat) (rv : Value) : Array Value :=
  #[.pointer (some ⟨g, 0, none⟩), .int .i64 v.f, .int .i64 v.s, .pointer (some ⟨g, 0, none⟩), .int .i64 v.f2, .int .i64 v.s2, .int .u64 v.ep, .int .i64 v.at_, .string v.img, rv, .bool v.over]
structure VAt (w : World) (g vb : Nat) (rv : Value) (v : VaultD) : Prop where
  blk : w.heap[vb]? = some (.cells (v.cells g rv) 122 (0, 0))
  row : RowO EStr w 0 rv v.recs
  sep : rv.ownBlock ≠ some vb
def vfoot (vb : Nat) (rv : Value) (k : Nat) : Prop := k = vb ∨ some k = rv.ownBlock
/-- A vault and its device, of the call's own, beside other blocks R. -/
structure OwnV (w0 w : World) (R : Nat → Prop) (g : Nat) (d : DevD) (vb : Nat) (rv : Value) (v : VaultD) : Prop where
  own : OwnR w0 w (fun k => R k ∨ vfoot vb rv k) g d
  vat : VAt w g vb rv v
  sep : ∀ k, R k → ¬ vfoot vb rv k
section
variable {w0 w w' : World} {R : Nat → Prop} {g vb : Nat} {d d' : DevD} {rv rv' : Value} {v v' : VaultD}
theorem VAt.kept (h : VAt w g vb rv v) (hs : w.heap.size ≤ w'.heap.size) (hk : ∀ k, vfoot vb rv k → w'.heap[k]? = w.heap[k]?) : VAt w' g vb rv v :=
  ⟨(hk vb (Or.inl rfl)).trans h.blk, h.row.kept hs (fun k q => hk k (Or.inr q.symm)), h.sep⟩
theorem VAt.foot_lt (h : VAt w g vb rv v) {k : Nat} (q : vfoot vb rv k) : k < w.heap.size := by
  rcases q with rfl | q
  · exact m_lt h.blk
  · exact h.row.lt q.symm
theorem OwnV.dev (h : OwnV w0 w R g d vb rv v) (h1 : OwnR w0 w' (fun k => R k ∨ vfoot vb rv k) g d') (h2 : Held w0 (fun k => R k ∨ vfoot vb rv k) w w') : OwnV w0 w' R g d' vb rv v :=
  ⟨h1, h.vat.kept h2.size (fun k q => h2.block k (Or.inr q)), h.sep⟩
theorem OwnV.below (h : OwnV w0 w R g d vb rv v) (hb : Below w.heap.size w w') : OwnV w0 w' R g d vb rv v :=
  h.dev (h.own.below hb) (Held.below (fun k q => h.own.lt q) hb)
theorem Held.left {w0 w w' : World} {R S : Nat → Prop} (h : Held w0 (fun k => R k ∨ S k) w w') : Held w0 R w w' := ⟨h.size, fun k q => h.block k (Or.inl q)⟩
/-- A cell of the vault is set. -/
theorem OwnV.store (h : OwnV w0 w R g d vb rv v) (o : Nat) (x : Value) (hc : (v.cells g rv).setIfInBounds o x = v'.cells g rv) (hr : v'.recs = v.recs) : OwnV w0 (w.setCell ⟨vb, o, none⟩ x) R g d vb rv v' := by
  have hk : Keep (fun k => k = vb) w (w.setCell ⟨vb, o, none⟩ x) := (Keep.refl _ w).set vb o x (Or.inl rfl)
  have hsz : (w.setCell ⟨vb, o, none⟩ x).heap.size = w.heap.size := by simp [World.setCell]
  refine ⟨h.own.turn (hk.mono (fun i q => Or.inl (Or.inr (Or.inl q)))) (fun k q => ⟨Or.inl q, by rw [hsz]; exact h.own.lt q⟩), ⟨?_, ?_, h.vat.sep⟩, h.sep⟩
  · rw [← hc]; exact m_set h.vat.blk o x
  · rw [hr]; exact h.vat.row.keep hk (fun i q e => h.vat.sep (by rw [q, e]))
theorem OwnV.held_store (h : OwnV w0 w R g d vb rv v) (o : Nat) (x : Value) : Held w0 R w (w.setCell ⟨vb, o, none⟩ x) :=
  ⟨by simp [World.setCell], fun k q => Below.heap_setCell _ _ _ _ (fun e => h.sep k q (Or.inl e))⟩
set_option maxRecDepth 100000 in
theorem vimage_any (h : OwnV w0 w R g d vb rv v) :
    Calls Try.prog 44 #[.pointer (some ⟨vb, 0, none⟩)] w fun e w' => e = .returned (.string v.img) ∧ w' = w := by
  have c := (m_cells h.vat.blk).1 8
  have c8 : w.cell? ⟨vb, 8, none⟩ = some (.string v.img) := c
  clear h c
  go_enter Try.func44, Try.ntmps44
  go_wp2
  go_ret
  exact ⟨rfl, rfl⟩
set_option maxRecDepth 100000 in
theorem vover_any (h : OwnV w0 w R g d vb rv v) :
    Calls Try.prog 52 #[.pointer (some ⟨vb, 0, none⟩)] w fun e w' => e = .returned (.bool v.over) ∧ w' = w := by
  have c10 : w.cell? ⟨vb, 10, none⟩ = some (.bool v.over) := (m_cells h.vat.blk).1 10
  clear h
  go_enter Try.func52, Try.ntmps52
  go_wp2
  go_ret
  exact ⟨rfl, rfl⟩
set_option maxRecDepth 100000 in
theorem vroom_any (h : OwnV w0 w R g d vb rv v) (h1 : 0 ≤ v.at_ ∧ v.at_ ≤ 1000000) (h2 : 0 ≤ v.s ∧ v.s ≤ 1000000) :
    Calls Try.prog 51 #[.pointer (some ⟨vb, 0, none⟩)] w fun e w' => e = .returned (.int .i64 (v.s - v.at_)) ∧ Below w.heap.size w w' := by
  have c2 : w.cell? ⟨vb, 2, none⟩ = some (.int .i64 v.s) := (m_cells h.vat.blk).1 2
  have c7 : w.cell? ⟨vb, 7, none⟩ = some (.int .i64 v.at_) := (m_cells h.vat.blk).1 7
  clear h
  go_enter Try.func51, Try.ntmps51
  go_wp2
  go_quiet (fail)
  go_wp2
  go_ret
  exact ⟨rfl, (by repeat (first | exact Below.refl _ _ | assumption | (refine Below.drew ?_) | (refine below_drewN ?_ _) | (refine Below.alloc ?_ (by simp; done) _) | (refine Below.alloc ?_ (by simp; omega) _)))⟩
theorem flat_str (l : List ByteArray) : l.flatMap EStr.enc = l.map Value.string := by
  induction l with
  | nil => rfl
  | cons x l ih => rw [List.flatMap_cons, ih]; rfl
theorem sclone_any {l : List ByteArray} (h : RowO EStr w 0 rv l) (hl : l.length ≤ 1000000) :
    Calls Try.prog 69 #[rv] w fun e w' => ∃ v', e = .returned v' ∧ Row EStr w' w.heap.size v' l ∧ Below w.heap.size w w' := by
  rcases h with ⟨rfl, rfl⟩ | ⟨b, off, cap, rfl, h1, h2, h3, h4, h5, h6⟩
  · refine (Try.slices_Clone_string_nil 0 0 w).mono ?_
    rintro e w1 ⟨rfl, rfl⟩
    exact ⟨_, rfl, Row.nil _ _ _, Below.refl _ _⟩
  · refine (Try.slices_Clone_string b off l.length cap l w (Nat.le_refl _) (by omega) (fun j hj => ?_)).mono ?_
    · refine h5 j _ ?_
      rw [show l.flatMap EStr.enc = l.map Value.string from flat_str l]
      simp [hj]
    · rintro e w1 ⟨v', rfl, q1, q2, q3⟩
      refine ⟨v', rfl, ?_, q3⟩
      unfold Row
      rw [show l.flatMap EStr.enc = l.map Value.string from flat_str l]
      rw [List.take_length] at q1
      exact q1
set_option maxRecDepth 100000 in
theorem vrecords_any (h : OwnV w0 w R g d vb rv v) (hl : v.recs.length ≤ 1000000) :
    Calls Try.prog 45 #[.pointer (some ⟨vb, 0, none⟩)] w fun e w' => ∃ v', e = .returned v' ∧ Row EStr w' w.heap.size v' v.recs ∧ Below w.heap.size w w' := by
  have c9 : w.cell? ⟨vb, 9, none⟩ = some rv := (m_cells h.vat.blk).1 9
  obtain ⟨a, c, rfl⟩ := h.vat.row.shape
  have H := Lib.hid h
  clear h
  go_enter Try.func45, Try.ntmps45
  go_wp2_with fail
  refine (sclone_any H.out.vat.row hl).mono ?_
  rintro e w1 ⟨v', rfl, h1, hb⟩
  obtain ⟨a', c', rfl⟩ := h1.shape
  have H1 := Lib.hid h1
  clear h1
  go_wp2_with fail
  go_ret
  exact ⟨_, rfl, H1.out, hb⟩
/-- An error is noted. -/
def VaultD.done (v : VaultD) (E : Int) : VaultD := { v with over := v.over || decide (E = 13) }
theorem vdone_is (v : VaultD) (E : Int) (o b : Bool) (ho : v.over = o) (hb : (o || decide (E = 13)) = b) : v.done E = { v with over := b } := by unfold VaultD.done; rw [ho, hb]
set_option maxRecDepth 100000 in
theorem vdone_any (h : OwnV w0 w R g d vb rv v) (E : Int) :
    Calls Try.prog 75 #[.pointer (some ⟨vb, 0, none⟩), .int .i64 E] w fun e w' => e = .returned (.int .i64 E) ∧ OwnV w0 w' R g d vb rv (v.done E) ∧ Held w0 R w w' := by
  have c10 : w.cell? ⟨vb, 10, none⟩ = some (.bool v.over) := (m_cells h.vat.blk).1 10
  have f10 : w.frozen? ⟨vb, 10, none⟩ = false := (m_cells h.vat.blk).2 10
  have H := Lib.hid h
  have HS := fun x => Lib.hid (h.store (v' := { v with over := x }) 10 (.bool x) rfl rfl)
  have HH := fun x => Lib.hid (h.held_store 10 (.bool x))
  clear h
  obtain ⟨X, hX⟩ : ∃ X, v.done E = X := ⟨_, rfl⟩
  rw [hX]
  have HX := Lib.hid hX
  clear hX
  obtain ⟨o, ho⟩ : ∃ o, v.over = o := ⟨_, rfl⟩
  rw [ho] at c10
  have HO := Lib.hid ho
  clear ho
  by_cases e1 : E = 13
  · subst e1
    cases o
    · go_enter Try.func75, Try.ntmps75
      go_wp2
      go_ret
      rw [← HX.out, vdone_is v 13 _ true HO.out rfl]
      exact ⟨rfl, (HS true).out, (HH true).out⟩
    · go_enter Try.func75, Try.ntmps75
      go_wp2
      go_ret
      rw [← HX.out, vdone_is v 13 _ true HO.out rfl]
      exact ⟨rfl, (HS true).out, (HH true).out⟩
  · have e2 : decide (E = 13) = false := decide_eq_false e1
    have e3 : (E == 13) = false := by rw [beq_eq_false_iff_ne]; exact e1
    have E2 := Lib.hid e2
    cases o
    · go_enter Try.func75, Try.ntmps75
      go_wp2
      go_ret
      rw [← HX.out, vdone_is v E _ false HO.out (by rw [E2.out]; rfl)]
      exact ⟨rfl, (HS false).out, (HH false).out⟩
    · go_enter Try.func75, Try.ntmps75
      go_wp2
      go_ret
      rw [← HX.out, vdone_is v E _ true HO.out rfl]
      exact ⟨rfl, (HS true).out, (HH true).out⟩
/-- Sync, by value. -/
def VaultD.syncErr (v : VaultD) (d : DevD) : Int := if v.over = true then 13 else d.fl.2
set_option maxRecDepth 100000 in
theorem vsync_any (h : OwnV w0 w R g d vb rv v) :
    Calls Try.prog 48 #[.pointer (some ⟨vb, 0, none⟩)] w fun e w' => e = .returned (.int .i64 (v.syncErr d)) ∧ OwnV w0 w' R g (if v.over = true then d else d.fl.1) vb rv (v.done (v.syncErr d)) ∧ Held w0 R w w' := by
  have c0 : w.cell? ⟨vb, 0, none⟩ = some (.pointer (some ⟨g, 0, none⟩)) := (m_cells h.vat.blk).1 0
  have c10 : w.cell? ⟨vb, 10, none⟩ = some (.bool v.over) := (m_cells h.vat.blk).1 10
  have H := Lib.hid h
  clear h
  obtain ⟨X, hX⟩ : ∃ X, v.syncErr d = X := ⟨_, rfl⟩
  rw [hX]
  have HX := Lib.hid hX
  clear hX
  obtain ⟨o, ho⟩ : ∃ o, v.over = o := ⟨_, rfl⟩
  rw [ho] at c10 ⊢
  have HO := Lib.hid ho
  clear ho
  cases o
  · have hx : X = d.fl.2 := by rw [← HX.out]; unfold VaultD.syncErr; rw [HO.out, if_neg (by decide)]
    have HX2 := Lib.hid hx
    rw [if_neg (by decide)]
    clear hx
    go_enter Try.func48, Try.ntmps48
    go_wp2_with fail
    refine (ownr_flush H.out.own).mono ?_
    rintro e w1 ⟨rfl, h1, hh1⟩
    have H1 := Lib.hid (H.out.dev (show OwnR w0 w1 _ g d.fl.1 from h1) hh1)
    have HH1 := Lib.hid hh1.left
    have q : (if d.left = 0 then (13 : Int) else 0) = X := HX2.out.symm
    rw [q]
    clear h1 hh1 q
    go_wp2_with fail
    refine (vdone_any H1.out X).mono ?_
    rintro e w2 ⟨rfl, h2, hh2⟩
    have H2 := Lib.hid h2
    have HH2 := Lib.hid (HH1.out.trans hh2)
    clear h2 hh2
    go_wp2_with fail
    go_ret
    exact ⟨rfl, H2.out, HH2.out⟩
  · have hx : X = 13 := by rw [← HX.out]; unfold VaultD.syncErr; rw [HO.out, if_pos rfl]
    subst hx
    rw [if_pos rfl]
    go_enter Try.func48, Try.ntmps48
    go_wp2_with fail
    go_ret
    have e : v.done 13 = v := by
      have hv := HO.out
      cases v
      simp only at hv
      subst hv
      rfl
    rw [e]
    exact ⟨rfl, H.out, Held.refl _ _ _⟩
end
end Go.Proofs.Ytncbojocglcieaa

/- vault: Append. -/
namespace Go.Proofs.Ytncbojocglcieaa
open Go.RowKit
set_option linter.unusedSimpArgs false
set_option linter.unusedVariables false
/-- Append, by value. -/
def VaultD.append (v : VaultD) (d : DevD) (r : ByteArray) : VaultD × DevD × Int :=
  if v.over = true then (v, d, 13) else if fitsErr v.s v.at_ r.size ≠ 0 then (v, d, fitsErr v.s v.at_ r.size) else
    if (d.write v.f v.s v.at_ r).2.2 ≠ 0 then (v.done (d.write v.f v.s v.at_ r).2.2, (d.write v.f v.s v.at_ r).1, (d.write v.f v.s v.at_ r).2.2)
    else ({ v with at_ := (d.write v.f v.s v.at_ r).2.1, recs := v.recs ++ [r] }, (d.write v.f v.s v.at_ r).1, 0)
section
variable {w0 w w' : World} {R : Nat → Prop} {g vb : Nat} {d d' : DevD} {rv rv' : Value} {v v' : VaultD}
/-- The half that a vault has its records in. -/
theorem VAt.half (h : VAt w g vb rv v) : w.cell? ⟨vb, 0, none⟩ = some (.pointer (some ⟨g, 0, none⟩)) ∧ w.cell? ⟨vb, 1, none⟩ = some (.int .i64 v.f) ∧ w.cell? ⟨vb, 2, none⟩ = some (.int .i64 v.s) :=
  ⟨(m_cells h.blk).1 0, (m_cells h.blk).1 1, (m_cells h.blk).1 2⟩
/-- The records have turned. -/
theorem OwnV.setRecs {l : List ByteArray} {w6 : World} (h : OwnV w0 w R g d vb rv v) (hk : Keep (fun k => some k = rv.ownBlock) w w6) (hr : RowO EStr w6 0 rv' l) (hv : ∀ k, rv'.ownBlock = some k → rv.ownBlock = some k ∨ w.heap.size ≤ k) :
    OwnV w0 (w6.setCell ⟨vb, 9, none⟩ rv') R g d vb rv' { v with recs := l } ∧ Held w0 R w (w6.setCell ⟨vb, 9, none⟩ rv') := by
  have hvb : vb < w.heap.size := m_lt h.vat.blk
  have hb6 : w6.heap[vb]? = some (.cells (v.cells g rv) 122 (0, 0)) := m_keep h.vat.blk hk (fun e => h.vat.sep e.symm)
  have hk7 : Keep (fun k => vfoot vb rv k) w (w6.setCell ⟨vb, 9, none⟩ rv') := (hk.mono (fun i q => Or.inl (Or.inr q))).set vb 9 rv' (Or.inl (Or.inl rfl))
  have hne : rv'.ownBlock ≠ some vb := fun e => (hv vb e).elim h.vat.sep (fun q => absurd hvb (Nat.not_lt.2 q))
  have hsz : (w6.setCell ⟨vb, 9, none⟩ rv').heap.size = w6.heap.size := by simp [World.setCell]
  have hs := hk.size
  refine ⟨⟨h.own.turn (hk7.mono (fun i q => Or.inl (Or.inr q))) (fun k q => ?_), ⟨m_set hb6 9 rv', ?_, hne⟩, fun k q e => ?_⟩, ⟨hk7.size, fun k q => hk7.block k (h.own.lt (Or.inl q)) (h.sep k q)⟩⟩
  · rcases q with q | q | q
    · exact ⟨Or.inl (Or.inl q), by rw [hsz]; exact Nat.lt_of_lt_of_le (h.own.lt (Or.inl q)) hs⟩
    · subst q
      exact ⟨Or.inl (Or.inr (Or.inl rfl)), by rw [hsz]; exact Nat.lt_of_lt_of_le hvb hs⟩
    · refine ⟨?_, by rw [hsz]; exact hr.lt q.symm⟩
      rcases hv k q.symm with e | e
      · exact Or.inl (Or.inr (Or.inr e.symm))
      · exact Or.inr e
  · exact hr.keep ((Keep.refl (fun k => k = vb) w6).set vb 9 rv' (Or.inl rfl)) (fun i q e => hne (by rw [q, e]))
  · rcases e with e | e
    · exact h.sep k q (Or.inl e)
    · rcases hv k e.symm with e | e
      · exact h.sep k q (Or.inr e.symm)
      · exact absurd (h.own.lt (Or.inl q)) (Nat.not_lt.2 e)
def VPost (w0 w : World) (R : Nat → Prop) (g vb : Nat) (E : Int) (d : DevD) (v : VaultD) (e : Ending) (w' : World) : Prop := e = .returned (.int .i64 E) ∧ Held w0 R w w' ∧ ∃ rv', OwnV w0 w' R g d vb rv' v
set_option maxRecDepth 100000 in
set_option maxHeartbeats 2000000 in
theorem vappend_any (r : ByteArray) (h : OwnV w0 w R g d vb rv v) (hd : d.size ≤ 4096) (hq : d.queue.length ≤ 900000) (hleft : d.left ≤ 9223372036854775807) (hr : r.size ≤ 9223372036854775807)
    (hat : 0 ≤ v.at_ ∧ v.at_ ≤ 4096) (hs : 0 ≤ v.s ∧ v.s ≤ 4096) (hl : v.recs.length ≤ 100000) :
    Calls Try.prog 50 #[.pointer (some ⟨vb, 0, none⟩), .string r] w (VPost w0 w R g vb (v.append d r).2.2 (v.append d r).2.1 (v.append d r).1) := by
  obtain ⟨c0, c1, c2⟩ := h.vat.half
  have c7 : w.cell? ⟨vb, 7, none⟩ = some (.int .i64 v.at_) := (m_cells h.vat.blk).1 7
  have c10 : w.cell? ⟨vb, 10, none⟩ = some (.bool v.over) := (m_cells h.vat.blk).1 10
  have H := Lib.hid h
  clear h
  obtain ⟨X, hX⟩ : ∃ X, v.append d r = X := ⟨_, rfl⟩
  rw [hX]
  have HX := Lib.hid hX
  clear hX
  obtain ⟨o, ho⟩ : ∃ o, v.over = o := ⟨_, rfl⟩
  rw [ho] at c10
  have HO := Lib.hid ho
  clear ho
  cases o
  · have HX1 := Lib.hid (show X = if fitsErr v.s v.at_ r.size ≠ 0 then (v, d, fitsErr v.s v.at_ r.size) else
      if (d.write v.f v.s v.at_ r).2.2 ≠ 0 then (v.done (d.write v.f v.s v.at_ r).2.2, (d.write v.f v.s v.at_ r).1, (d.write v.f v.s v.at_ r).2.2)
      else ({ v with at_ := (d.write v.f v.s v.at_ r).2.1, recs := v.recs ++ [r] }, (d.write v.f v.s v.at_ r).1, 0) from by rw [← HX.out]; unfold VaultD.append; rw [HO.out, if_neg (by decide)])
    go_enter Try.func50, Try.ntmps50
    go_wp2_with fail
    obtain ⟨F, hF⟩ : ∃ F, fitsErr v.s v.at_ r.size = F := ⟨_, rfl⟩
    rw [hF] at HX1
    have HF := Lib.hid hF
    clear hF
    go_cut [5] from 8 (fun s5 wc => s5 = .int .i64 F ∧ Below w.heap.size w wc)
    case first =>
      go_region_with (go_at_call 70; refine (fits_any g v.f v.s v.at_ r _ hr hs hat).mono ?_; rintro e w1 ⟨rfl, hb1⟩)
      all_goals
        rw [HF.out]
        go_wp2
        go_meet
        case rel => exact ⟨rfl, ⟨hb1.os, hb1.tape, hb1.output, hb1.size, hb1.block⟩⟩
    case rest =>
      rename World => w1
      obtain ⟨rfl, hb1⟩ := hcut
      have H1 := Lib.hid (H.out.below hb1)
      have HH1 := Lib.hid (Held.below (w0 := w0) (fun k q => H.out.own.lt q) hb1).left
      clear hb1 c0 c1 c2 c7 c10
      obtain ⟨c0, c1, c2⟩ := H1.out.vat.half
      have c7 : w1.cell? ⟨vb, 7, none⟩ = some (.int .i64 v.at_) := (m_cells H1.out.vat.blk).1 7
      by_cases e1 : F = 0
      · subst e1
        go_wp2_with fail
        obtain ⟨P, hP⟩ : ∃ P, d.write v.f v.s v.at_ r = P := ⟨_, rfl⟩
        have HP := Lib.hid hP
        have HX2 := Lib.hid (show X = if P.2.2 ≠ 0 then (v.done P.2.2, P.1, P.2.2) else ({ v with at_ := P.2.1, recs := v.recs ++ [r] }, P.1, 0) from by rw [HX1.out, if_neg (by decide), hP])
        obtain ⟨D2, a2, E2⟩ := P
        clear hP HX1
        simp only at HX2
        go_cut [6, 7] from 8 (fun s6 s7 w2 => s6 = .int .i64 a2 ∧ s7 = .int .i64 E2 ∧ OwnV w0 w2 R g D2 vb rv v ∧ Held w0 R w1 w2)
        case first =>
          go_region_with (go_at_call 76; refine (vwrite_any v.f v.s v.at_ r (H1.out.own.below (by repeat (first | exact Below.refl _ _ | assumption | (refine Below.drew ?_) | (refine below_drewN ?_ _) | (refine Below.alloc ?_ (by simp; done) _) | (refine Below.alloc ?_ (by simp; omega) _)))) hd hq hleft hr (by omega) (by omega)).mono ?_; rintro e w2 ⟨rfl, h2, hh2⟩)
          all_goals
            rw [HP.out] at h2 ⊢
            go_wp2
            go_meet
            case rel =>
              have hh3 : Held w0 (fun k => R k ∨ vfoot vb rv k) w1 w2 := ⟨hh2.size, hh2.block⟩
              exact ⟨rfl, rfl, H1.out.dev h2 hh3, hh3.left⟩
        case rest =>
          obtain ⟨rfl, rfl, h2, hh2⟩ := hcut
          have H2 := Lib.hid h2
          have HH2 := Lib.hid (HH1.out.trans hh2)
          clear h2 hh2 c0 c1 c2 c7
          by_cases e2 : E2 = 0
          · subst e2
            have HX3 := Lib.hid (show X = ({ v with at_ := a2, recs := v.recs ++ [r] }, D2, 0) from by rw [HX2.out, if_neg (by decide)])
            have c7 : wc.cell? ⟨vb, 7, none⟩ = some (.int .i64 v.at_) := (m_cells H2.out.vat.blk).1 7
            have f7 : wc.frozen? ⟨vb, 7, none⟩ = false := (m_cells H2.out.vat.blk).2 7
            go_upto_region 9 with fail
            go_cut [] from 8 (fun w3 => OwnV w0 w3 R g D2 vb rv { v with at_ := a2 } ∧ Held w0 R w w3)
            case first =>
              go_wp2_with fail
              go_meet
              case rel => exact ⟨H2.out.store 7 (.int .i64 a2) rfl rfl, HH2.out.trans (H2.out.held_store 7 (.int .i64 a2))⟩
            case rest =>
              rename World => w3
              obtain ⟨h3, hh3⟩ := hcut
              have H3 := Lib.hid h3
              have HH3 := Lib.hid hh3
              clear h3 hh3 c7 f7
              have c9 : w3.cell? ⟨vb, 9, none⟩ = some rv := (m_cells H3.out.vat.blk).1 9
              obtain ⟨ra, rc, rfl⟩ := H3.out.vat.row.shape
              go_wp2_with (first
                | (refine app_rowO EStr.laid rfl _ _ 49 Try.underlying49 rfl _ v.recs rfl (H3.out.vat.row.below (by repeat (first | exact Below.refl _ _ | assumption | (refine Below.drew ?_) | (refine below_drewN ?_ _) | (refine Below.alloc ?_ (by simp; done) _) | (refine Below.alloc ?_ (by simp; omega) _)))) ⟨w3.heap.size, 0, none⟩ r 1 rfl ?e1 ?e2 ?e3 (Nat.zero_le _) ?_
                   case e1 =>
                     intro j u hj
                     rw [Addr.add_lit, (m_cells (m_alloc w3 _ _ rfl)).1]
                     simpa [EStr] using hj
                   case e2 => show (v.recs.length + 1) * 16 ≤ _; omega
                   case e3 => show v.recs.length + 1 ≤ maxLen; unfold maxLen; omega
                   intro v' w6 hr6 hv6 hk6
                   obtain ⟨ra', rc', rfl⟩ := hr6.shape
                   have hset := H3.out.setRecs (((Keep.refl _ _).alloc _).trans hk6) hr6 (fun k q => (hv6 k q).imp id (fun e => by simp at e; omega))
                   have hb6 : w6.heap[vb]? = some (.cells (VaultD.cells { v with at_ := a2 } g _) 122 (0, 0)) := m_keep H3.out.vat.blk (((Keep.refl _ _).alloc _).trans hk6) (fun e => H3.out.vat.sep e.symm)
                   have c9' := (m_cells hb6).1 9
                   have f9' := (m_cells hb6).2 9
                   have HSET := Lib.hid hset
                   clear hr6 hv6 hk6 hset hb6))
              have hset := HSET.out
              rw [show (v.recs ++ [r]).length = v.recs.length + 1 from by simp] at hset
              go_ret
              rw [HX3.out]
              exact ⟨rfl, HH3.out.trans hset.2, _, hset.1⟩
          · have HX3 := Lib.hid (show X = (v.done E2, D2, E2) from by rw [HX2.out, if_pos e2])
            go_wp2_with fail
            refine (vdone_any H2.out E2).mono ?_
            rintro e w3 ⟨rfl, h3, hh3⟩
            have H3 := Lib.hid h3
            have HH3 := Lib.hid (HH2.out.trans hh3)
            clear h3 hh3
            go_wp2_with fail
            go_ret
            rw [HX3.out]
            exact ⟨rfl, HH3.out, _, H3.out⟩
      · have HX3 := Lib.hid (show X = (v, d, F) from by rw [HX1.out, if_pos e1])
        go_wp2_with fail
        go_ret
        rw [HX3.out]
        exact ⟨rfl, HH1.out, _, H1.out⟩
  · have hx : X = (v, d, 13) := by rw [← HX.out]; unfold VaultD.append; rw [HO.out, if_pos rfl]
    subst hx
    go_enter Try.func50, Try.ntmps50
    go_wp2_with fail
    go_ret
    exact ⟨rfl, Held.refl _ _ _, _, H.out⟩
end
end Go.Proofs.Ytncbojocglcieaa

/- vault: Renew. -/
namespace Go.Proofs.Ytncbojocglcieaa
open Go.RowKit
set_option linter.unusedSimpArgs false
set_option linter.unusedVariables false
def VaultD.renewed (v : VaultD) (r : ByteArray) : VaultD := { f := v.f2, s := v.s2, f2 := v.f, s2 := v.s, ep := v.ep + 1, at_ := 1 + (nframes r.size : Nat), img := r, recs := [], over := v.over }
/-- Renew, by value. -/
def VaultD.renew (v : VaultD) (d : DevD) (r : ByteArray) : VaultD × DevD × Int :=
  if v.over = true then (v, d, 13) else if fitsErr v.s2 1 r.size ≠ 0 then (v, d, fitsErr v.s2 1 r.size) else if 9223372036854775808 ≤ v.ep then (v, d, 12) else
    if (d.begin v.f2 v.s2 r (v.ep + 1)).2 ≠ 0 then (v.done (d.begin v.f2 v.s2 r (v.ep + 1)).2, (d.begin v.f2 v.s2 r (v.ep + 1)).1, (d.begin v.f2 v.s2 r (v.ep + 1)).2)
    else (v.renewed r, (d.begin v.f2 v.s2 r (v.ep + 1)).1, 0)
section
variable {w0 w w' : World} {R : Nat → Prop} {g vb : Nat} {d d' : DevD} {rv rv' : Value} {v v' : VaultD}
theorem VAt.half2 (h : VAt w g vb rv v) : w.cell? ⟨vb, 3, none⟩ = some (.pointer (some ⟨g, 0, none⟩)) ∧ w.cell? ⟨vb, 4, none⟩ = some (.int .i64 v.f2) ∧ w.cell? ⟨vb, 5, none⟩ = some (.int .i64 v.s2) :=
  ⟨(m_cells h.blk).1 3, (m_cells h.blk).1 4, (m_cells h.blk).1 5⟩
set_option maxRecDepth 100000 in
set_option maxHeartbeats 2000000 in
theorem vrenew_any (r : ByteArray) (h : OwnV w0 w R g d vb rv v) (hd : d.size ≤ 4096) (hq : d.queue.length ≤ 500000) (hleft : d.left ≤ 9223372036854775807) (hr : r.size ≤ 9223372036854775807)
    (hs : 0 ≤ v.s2 ∧ v.s2 ≤ 4096) (hep : v.ep < 18446744073709551616) :
    Calls Try.prog 49 #[.pointer (some ⟨vb, 0, none⟩), .string r] w (VPost w0 w R g vb (v.renew d r).2.2 (v.renew d r).2.1 (v.renew d r).1) := by
  obtain ⟨c3, c4, c5⟩ := h.vat.half2
  have c10 : w.cell? ⟨vb, 10, none⟩ = some (.bool v.over) := (m_cells h.vat.blk).1 10
  have H := Lib.hid h
  clear h
  obtain ⟨X, hX⟩ : ∃ X, v.renew d r = X := ⟨_, rfl⟩
  rw [hX]
  have HX := Lib.hid hX
  clear hX
  obtain ⟨o, ho⟩ : ∃ o, v.over = o := ⟨_, rfl⟩
  rw [ho] at c10
  have HO := Lib.hid ho
  clear ho
  cases o
  · have HX1 := Lib.hid (show X = if fitsErr v.s2 1 r.size ≠ 0 then (v, d, fitsErr v.s2 1 r.size) else if 9223372036854775808 ≤ v.ep then (v, d, 12) else
      if (d.begin v.f2 v.s2 r (v.ep + 1)).2 ≠ 0 then (v.done (d.begin v.f2 v.s2 r (v.ep + 1)).2, (d.begin v.f2 v.s2 r (v.ep + 1)).1, (d.begin v.f2 v.s2 r (v.ep + 1)).2)
      else (v.renewed r, (d.begin v.f2 v.s2 r (v.ep + 1)).1, 0) from by rw [← HX.out]; unfold VaultD.renew; rw [HO.out, if_neg (by decide)])
    go_enter Try.func49, Try.ntmps49
    go_wp2_with fail
    refine (fits_any g v.f2 v.s2 1 r w hr hs ⟨by decide, by decide⟩).mono ?_
    rintro e w1 ⟨rfl, hb1⟩
    have H1 := Lib.hid (H.out.below hb1)
    have HH1 := Lib.hid (Held.below (w0 := w0) (fun k q => H.out.own.lt q) hb1).left
    obtain ⟨F, hF⟩ : ∃ F, fitsErr v.s2 1 r.size = F := ⟨_, rfl⟩
    rw [hF] at HX1 ⊢
    clear hF hb1 c3 c4 c5 c10
    obtain ⟨c3, c4, c5⟩ := H1.out.vat.half2
    have c6 : w1.cell? ⟨vb, 6, none⟩ = some (.int .u64 v.ep) := (m_cells H1.out.vat.blk).1 6
    by_cases e1 : F = 0
    · subst e1
      by_cases e2 : 9223372036854775808 ≤ v.ep
      · have HX3 := Lib.hid (show X = (v, d, 12) from by rw [HX1.out, if_neg (by decide), if_pos e2])
        have e3 : decide ((9223372036854775808 : Int) ≤ v.ep) = true := decide_eq_true (by omega)
        go_wp2_with fail
        go_ret
        rw [HX3.out]
        exact ⟨rfl, HH1.out, _, H1.out⟩
      · have e3 : decide ((9223372036854775808 : Int) ≤ v.ep) = false := decide_eq_false (by omega)
        obtain ⟨P, hP⟩ : ∃ P, d.begin v.f2 v.s2 r (v.ep + 1) = P := ⟨_, rfl⟩
        have HP := Lib.hid hP
        have HX2 := Lib.hid (show X = if P.2 ≠ 0 then (v.done P.2, P.1, P.2) else (v.renewed r, P.1, 0) from by rw [HX1.out, if_neg (by decide), if_neg e2, hP])
        have e4 : v.ep < 9223372036854775808 := by omega
        have HWR := Lib.hid (show IntKind.u64.wrap ((v.ep : Int) + 1) = ((v.ep + 1 : Nat) : Int) from by rw [IntWalk.u64_in _ (by omega)]; simp)
        clear hP HX1 e2
        go_wp2_with fail
        go_cut [6] from 7 (fun s6 w2 => s6 = .int .i64 P.2 ∧ OwnV w0 w2 R g P.1 vb rv v ∧ Held w0 R w w2)
        case first =>
          go_region_with (go_at_call 74; rw [HWR.out]; refine (begin_any v.f2 v.s2 r (v.ep + 1) (H1.out.own.below (by repeat (first | exact Below.refl _ _ | assumption | (refine Below.drew ?_) | (refine below_drewN ?_ _) | (refine Below.alloc ?_ (by simp; done) _) | (refine Below.alloc ?_ (by simp; omega) _)))) hd hq hleft hr (by omega) (by omega)).mono ?_; rintro e w2 ⟨rfl, h2, hh2⟩)
          all_goals
            rw [HP.out] at h2 ⊢
            go_wp2
            go_meet
            case rel =>
              have hh3 : Held w0 (fun k => R k ∨ vfoot vb rv k) w1 w2 := ⟨hh2.size, hh2.block⟩
              exact ⟨rfl, H1.out.dev h2 hh3, HH1.out.trans hh3.left⟩
        case rest =>
          rename World => w2
          obtain ⟨rfl, h2, hh2⟩ := hcut
          have H2 := Lib.hid h2
          have HH2 := Lib.hid hh2
          obtain ⟨D2, E2⟩ := P
          simp only at HX2 H2 ⊢
          clear h2 hh2 c3 c4 c5 c6
          by_cases e5 : E2 = 0
          · subst e5
            have HX3 := Lib.hid (show X = (v.renewed r, D2, 0) from by rw [HX2.out, if_neg (by decide)])
            obtain ⟨c0, c1, c2⟩ := H2.out.vat.half
            obtain ⟨c3, c4, c5⟩ := H2.out.vat.half2
            have hf := (m_cells H2.out.vat.blk).2
            have f0 := hf 0
            have f1 := hf 1
            have f2 := hf 2
            have f3 := hf 3
            have f4 := hf 4
            have f5 := hf 5
            clear hf
            go_upto_region 11 with fail
            go_cut [] from 7 (fun w3 => OwnV w0 w3 R g D2 vb rv { v with f := v.f2, s := v.s2, f2 := v.f, s2 := v.s } ∧ Held w0 R w w3)
            case first =>
              go_region
              go_wp2
              go_meet
              case rel =>
                have a0 := H2.out.store (v' := v) 0 (.pointer (some ⟨g, 0, none⟩)) rfl rfl
                have b0 := HH2.out.trans (H2.out.held_store 0 (.pointer (some ⟨g, 0, none⟩)))
                have a1 := a0.store (v' := { v with f := v.f2 }) 1 (.int .i64 v.f2) rfl rfl
                have b1 := b0.trans (a0.held_store 1 (.int .i64 v.f2))
                have a2 := a1.store (v' := { v with f := v.f2, s := v.s2 }) 2 (.int .i64 v.s2) rfl rfl
                have b2 := b1.trans (a1.held_store 2 (.int .i64 v.s2))
                have a3 := a2.store (v' := { v with f := v.f2, s := v.s2 }) 3 (.pointer (some ⟨g, 0, none⟩)) rfl rfl
                have b3 := b2.trans (a2.held_store 3 (.pointer (some ⟨g, 0, none⟩)))
                have a4 := a3.store (v' := { v with f := v.f2, s := v.s2, f2 := v.f }) 4 (.int .i64 v.f) rfl rfl
                have b4 := b3.trans (a3.held_store 4 (.int .i64 v.f))
                have a5 := a4.store (v' := { v with f := v.f2, s := v.s2, f2 := v.f, s2 := v.s }) 5 (.int .i64 v.s) rfl rfl
                have b5 := b4.trans (a4.held_store 5 (.int .i64 v.s))
                exact ⟨a5.below (Below.refl _ _).drew, b5.trans (Held.below (w0 := w0) (fun k q => a5.own.lt q) (Below.refl _ _).drew).left⟩
            case rest =>
              rename World => w3
              obtain ⟨h3, hh3⟩ := hcut
              have H3 := Lib.hid h3
              have HH3 := Lib.hid hh3
              clear h3 hh3 c0 c1 c2 c3 c4 c5 f0 f1 f2 f3 f4 f5
              have c6 : w3.cell? ⟨vb, 6, none⟩ = some (.int .u64 v.ep) := (m_cells H3.out.vat.blk).1 6
              have f6 : w3.frozen? ⟨vb, 6, none⟩ = false := (m_cells H3.out.vat.blk).2 6
              go_upto_region 12 with fail
              go_cut [] from 7 (fun w4 => OwnV w0 w4 R g D2 vb rv { v with f := v.f2, s := v.s2, f2 := v.f, s2 := v.s, ep := v.ep + 1 } ∧ Held w0 R w w4)
              case first =>
                go_wp2_with fail
                go_meet
                case rel =>
                  rw [show (v.ep : Int) + 1 = ((v.ep + 1 : Nat) : Int) from by simp]
                  have a5 := H3.out.store (v' := { v with f := v.f2, s := v.s2, f2 := v.f, s2 := v.s, ep := v.ep + 1 }) 6 (.int .u64 (v.ep + 1 : Nat)) rfl rfl
                  have b5 := HH3.out.trans (H3.out.held_store 6 (.int .u64 (v.ep + 1 : Nat)))
                  exact ⟨a5, b5⟩
              case rest =>
                rename World => w4
                obtain ⟨h4, hh4⟩ := hcut
                have H4 := Lib.hid h4
                have HH4 := Lib.hid hh4
                clear h4 hh4 c6 f6
                have f7 : w4.frozen? ⟨vb, 7, none⟩ = false := (m_cells H4.out.vat.blk).2 7
                have c7 : w4.cell? ⟨vb, 7, none⟩ = some (.int .i64 v.at_) := (m_cells H4.out.vat.blk).1 7
                have hfr := fun w => frames_any (r.size : Int) w (by omega)
                simp only [frames_nat] at hfr
                have HFR := Lib.hid hfr
                have HWN := Lib.hid (show wrap64 (1 + ((nframes r.size : Nat) : Int)) = 1 + ((nframes r.size : Nat) : Int) from IntWalk.wrap64_in _ (by unfold nframes; omega))
                obtain ⟨n1, hn1⟩ : ∃ n1, nframes r.size = n1 := ⟨_, rfl⟩
                rw [hn1] at HFR HWN
                have HN1 := Lib.hid hn1
                clear hfr hn1
                go_upto_region 13 with fail
                go_cut [] from 7 (fun w5 => OwnV w0 w5 R g D2 vb rv { v with f := v.f2, s := v.s2, f2 := v.f, s2 := v.s, ep := v.ep + 1, at_ := 1 + (n1 : Int) } ∧ Held w0 R w w5)
                case first =>
                  go_wp2_with fail
                  refine (HFR.out _).mono ?_
                  rintro e w5 ⟨rfl, rfl⟩
                  go_wp2_with fail
                  rw [HWN.out]
                  go_meet
                  case rel =>
                    have a5 := H4.out.store (v' := { v with f := v.f2, s := v.s2, f2 := v.f, s2 := v.s, ep := v.ep + 1, at_ := 1 + (n1 : Int) }) 7 (.int .i64 (1 + (n1 : Int))) rfl rfl
                    have b5 := HH4.out.trans (H4.out.held_store 7 (.int .i64 (1 + (n1 : Int))))
                    exact ⟨a5, b5⟩
                case rest =>
                  rename World => w5
                  obtain ⟨h5, hh5⟩ := hcut
                  have H5 := Lib.hid h5
                  have HH5 := Lib.hid hh5
                  clear h5 hh5 f7 c7
                  obtain ⟨ra, rc, hra⟩ := H5.out.vat.row.shape
                  have c8 : w5.cell? ⟨vb, 8, none⟩ = some (.string v.img) := (m_cells H5.out.vat.blk).1 8
                  have c9 : w5.cell? ⟨vb, 9, none⟩ = some rv := (m_cells H5.out.vat.blk).1 9
                  have f8 : w5.frozen? ⟨vb, 8, none⟩ = false := (m_cells H5.out.vat.blk).2 8
                  have f9 : w5.frozen? ⟨vb, 9, none⟩ = false := (m_cells H5.out.vat.blk).2 9
                  go_wp2_with fail
                  go_ret
                  have a8 := H5.out.store (v' := { v with f := v.f2, s := v.s2, f2 := v.f, s2 := v.s, ep := v.ep + 1, at_ := 1 + (n1 : Int), img := r }) 8 (.string r) rfl rfl
                  have b8 := HH5.out.trans (H5.out.held_store 8 (.string r))
                  have a9 := a8.setRecs (rv' := .slice none 0 0) (l := []) (Keep.refl _ _) (Or.inl ⟨rfl, rfl⟩) (fun k q => by cases q)
                  rw [HX3.out]
                  have hv : v.renewed r = { v with f := v.f2, s := v.s2, f2 := v.f, s2 := v.s, ep := v.ep + 1, at_ := 1 + (n1 : Int), img := r, recs := [] } := by unfold VaultD.renewed; rw [HN1.out]
                  rw [hv]
                  exact ⟨rfl, b8.trans a9.2, _, a9.1⟩
          · have HX3 := Lib.hid (show X = (v.done E2, D2, E2) from by rw [HX2.out, if_pos e5])
            go_wp2_with fail
            refine (vdone_any H2.out E2).mono ?_
            rintro e w3 ⟨rfl, h3, hh3⟩
            have H3 := Lib.hid h3
            have HH3 := Lib.hid (HH2.out.trans hh3)
            clear h3 hh3
            go_wp2_with fail
            go_ret
            rw [HX3.out]
            exact ⟨rfl, HH3.out, _, H3.out⟩
    · have HX3 := Lib.hid (show X = (v, d, F) from by rw [HX1.out, if_pos e1])
      go_wp2_with fail
      go_ret
      rw [HX3.out]
      exact ⟨rfl, HH1.out, _, H1.out⟩
  · have hx : X = (v, d, 13) := by rw [← HX.out]; unfold VaultD.renew; rw [HO.out, if_pos rfl]
    subst hx
    go_enter Try.func49, Try.ntmps49
    go_wp2_with fail
    go_ret
    exact ⟨rfl, Held.refl _ _ _, _, H.out⟩
end
end Go.Proofs.Ytncbojocglcieaa
