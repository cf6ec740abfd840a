/- Rows of whatever kind of element: what a slice of the call's own holds, what one that came in holds; appending. -/
import Derived.Test.YtolilbcpfdnkjaaGreatZBLib1
import Derived.Maps.AppendAt
import Derived.Deep.AppendLies
import Derived.Deep.Onto
import Derived.Deep.RegionLaw
import Derived.OwnWalk
namespace Go.Proofs.YtolilbcpfdnkjaaGreat
open Go.RowKit
set_option linter.unusedSimpArgs false
/-- A kind of element: its type's number, its cells, its bytes. -/
structure EK (α : Type) where
  t : TypeId
  size : Nat
  bytes : Nat
  enc : α → List Value
  len : ∀ x, (enc x).length = size
  one : ∀ x, ∀ u ∈ enc x, u.oneCell' = true
  pos : 0 < size
/-- The kind lies so in this program. -/
def EK.Laid {α : Type} (E : EK α) : Prop := ∃ (i : TypeInfo) (z : Value), Tryz.prog.info? E.t = some i ∧ i.zero = some z ∧ i.size = E.size ∧ i.bytes = E.bytes ∧ z.cells.size = E.size
theorem EK.laid {α : Type} {E : EK α} {z : Value} (h : (Tryz.prog.info? E.t).map (fun i => (i.zero, i.size, i.bytes)) = some (some z, E.size, E.bytes)) (hz : z.cells.size = E.size) : E.Laid := by
  obtain ⟨i, h1, h2, h3, h4⟩ := info_parts h
  exact ⟨i, z, h1, h2, h3, h4, hz⟩
section plain
variable {α : Type} (E : EK α)
theorem EK.flat_len (l : List α) : (l.flatMap E.enc).length = l.length * E.size := by
  induction l with
  | nil => simp
  | cons x l ih => simp [ih, E.len, Nat.succ_mul, Nat.add_comm]
theorem EK.flat_get (l : List α) (i j : Nat) (hj : j < E.size) : (l.flatMap E.enc)[i * E.size + j]? = (l[i]?).bind (fun x => (E.enc x)[j]?) := by
  induction l generalizing i with
  | nil => simp
  | cons x l ih =>
    rw [List.flatMap_cons]
    rcases i with _ | i
    · rw [Nat.zero_mul, Nat.zero_add, List.getElem?_append_left (by rw [E.len]; exact hj)]; simp
    · rw [List.getElem?_append_right (by rw [E.len, Nat.succ_mul]; omega), E.len, show (i + 1) * E.size + j - E.size = i * E.size + j from by rw [Nat.succ_mul]; omega, ih i]; simp
theorem EK.flat_one (l : List α) : ∀ u ∈ l.flatMap E.enc, u.oneCell' = true := by
  intro u hu
  obtain ⟨x, _, h⟩ := List.mem_flatMap.1 hu
  exact E.one x u h
end plain
/-- A slice of the call's own. -/
def Row {α : Type} (E : EK α) (w : World) (B : Nat) (v : Value) (l : List α) : Prop := w.ownsRow B E.t E.size v l.length (l.flatMap E.enc)
/-- A slice that can be read. -/
def Arg {α : Type} (E : EK α) (w : World) (v : Value) (l : List α) : Prop :=
  ∃ a cap, v = .slice a l.length cap ∧ ((a = none ∧ cap = 0 ∧ l = []) ∨ ∃ x, a = some x ∧ ∀ j u, (l.flatMap E.enc)[j]? = some u → w.cell? (x.add j) = some u)
section
variable {α : Type} {E : EK α} {w w' : World} {B : Nat} {v : Value} {l : List α}
theorem Row.kept (h : Row E w B v l) (hk : ∀ k, v.ownBlock = some k → w'.heap[k]? = w.heap[k]?) : Row E w' B v l := by
  obtain ⟨h1, h2⟩ := h
  refine ⟨h1, ?_⟩
  rcases h2 with h2 | ⟨g, cap, cur, rfl, hg, hh, r⟩
  · exact Or.inl h2
  · exact Or.inr ⟨g, cap, cur, rfl, hg, by rw [hk g rfl]; exact hh, r⟩
theorem Row.qt (h : Row E w B v l) (q : Qt w w') : Row E w' B v l := h.kept fun _ _ => by rw [q.heap]
theorem Row.lt (h : Row E w B v l) {k : Nat} (hk : v.ownBlock = some k) : k < w.heap.size := (World.ownsRow.lt h k hk).2
theorem Row.ge (h : Row E w B v l) {k : Nat} (hk : v.ownBlock = some k) : B ≤ k := (World.ownsRow.lt h k hk).1
theorem Row.keep {F : Nat → Prop} (h : Row E w B v l) (k : Keep F w w') (hd : ∀ i, v.ownBlock = some i → ¬ F i) : Row E w' B v l := h.kept (fun j hj => k.block j (h.lt hj) (hd j hj))
theorem Row.below (h : Row E w B v l) (k : Below w.heap.size w w') : Row E w' B v l := h.kept (fun j hj => k.block j (h.lt hj))
theorem Row.mono {B' : Nat} (h : Row E w B v l) (hb : B' ≤ B) : Row E w B' v l := World.ownsRow.mono h hb
/-- Its blocks lie from B on. -/
theorem Row.raise {B' : Nat} (h : Row E w B v l) (hb : ∀ k, v.ownBlock = some k → B' ≤ k) : Row E w B' v l := by
  obtain ⟨h1, h2⟩ := h
  exact ⟨h1, h2.imp id (fun ⟨g, cap, cur, e, hg, r⟩ => ⟨g, cap, cur, e, hb g (by rw [e]; rfl), r⟩)⟩
theorem Row.alloc (h : Row E w B v l) (o : Obj) : Row E (w.alloc o) B v l := World.ownsRow.alloc h o
theorem Row.nil (E : EK α) (w : World) (B : Nat) : Row E w B (.slice none 0 0) [] := World.ownsRow_nil _ _ _ _
theorem Row.new (w : World) (B : Nat) (cs : Array Value) (l : List α) (hB : B ≤ w.heap.size) (e : cs.toList = l.flatMap E.enc) (hl : l.length ≤ maxLen) : Row E (w.alloc (.cells cs E.t)) B (.slice (some ⟨w.heap.size, 0, none⟩) l.length l.length) l := by
  have := World.ownsRow_lit (base := B) (e := E.t) (size := E.size) w cs l.length hB hl (by rw [← Array.length_toList, e, E.flat_len])
  rw [e] at this; exact this
theorem Row.isSlice (h : Row E w B v l) : ∃ a n c, v = .slice a n c := by
  rcases h.2 with ⟨rfl, _⟩ | ⟨_, _, _, rfl, _⟩
  · exact ⟨_, _, _, rfl⟩
  · exact ⟨_, _, _, rfl⟩
theorem Row.shape (h : Row E w B v l) : ∃ a c, v = .slice a l.length c := by
  rcases h.2 with ⟨rfl, q⟩ | ⟨_, _, _, rfl, _⟩
  · exact ⟨_, _, by rw [q]⟩
  · exact ⟨_, _, rfl⟩
theorem Row.len_eq {a : Option Addr} {n c : Nat} (h : Row E w B (.slice a n c) l) : n = l.length := by
  obtain ⟨_, _, e⟩ := h.shape
  simp only [Value.slice.injEq] at e; exact e.2.1
/-- What a row with something in it looks like. -/
theorem Row.slice (h : Row E w B v l) (hl : l ≠ []) : ∃ g cap, v = .slice (some ⟨g, 0, none⟩) l.length cap ∧ B ≤ g ∧ g < w.heap.size ∧ l.length ≤ cap ∧ cap ≤ maxLen ∧
    (∀ i x, l[i]? = some x → ∀ j, j < E.size → w.cell? ⟨g, i * E.size + j, none⟩ = (E.enc x)[j]?) ∧ (∀ i, w.frozen? ⟨g, i, none⟩ = false) := by
  have h0 := h
  obtain ⟨h1, h2⟩ := h
  rcases h2 with ⟨_, h2⟩ | ⟨g, cap, cur, rfl, hg, hh, hn, hc, _, _⟩
  · exact absurd (List.eq_nil_of_length_eq_zero h2) hl
  · refine ⟨g, cap, rfl, hg, (World.ownsRow.lt h0 g rfl).2, hn, hc, fun i x hx j hj => ?_, fun i => by simp [World.frozen?, hh]⟩
    have hi : i < l.length := (List.getElem?_eq_some_iff.1 hx).1
    have hb : i * E.size + j < l.length * E.size := by
      have : (i + 1) * E.size ≤ l.length * E.size := Nat.mul_le_mul_right _ hi
      rw [Nat.succ_mul] at this; omega
    rw [World.ownsRow.cellAt h0 _ hb, E.flat_get l i j hj, hx]; rfl
theorem Row.arg (h : Row E w B v l) : Arg E w v l := by
  rcases h.2 with ⟨rfl, q⟩ | ⟨g, cap, cur, rfl, _⟩
  · have := List.eq_nil_of_length_eq_zero q
    subst this
    exact ⟨none, 0, rfl, Or.inl ⟨rfl, rfl, rfl⟩⟩
  · exact ⟨_, _, rfl, Or.inr ⟨_, rfl, fun j u hj => World.ownsRow.cells h rfl j u hj⟩⟩
theorem Arg.nil (E : EK α) (w : World) : Arg E w (.slice none 0 0) [] := ⟨none, 0, rfl, Or.inl ⟨rfl, rfl, rfl⟩⟩
theorem Arg.below (h : Arg E w v l) (hb : Below w.heap.size w w') : Arg E w' v l := by
  obtain ⟨a, cap, rfl, h⟩ := h
  refine ⟨a, cap, rfl, ?_⟩
  rcases h with h | ⟨x, rfl, hc⟩
  · exact Or.inl h
  · refine Or.inr ⟨x, rfl, fun j u hj => ?_⟩
    have := hc j u hj
    rw [hb.cell (World.block_lt_of_cell? _ _ this)]; exact this
theorem Arg.below' (h : Arg E w v l) (hb : Below w.heap.size w w') : Arg E w' v l := h.below hb
theorem Arg.keep {F : Nat → Prop} (h : Arg E w v l) (k : Keep F w w') (hd : ∀ i, v.ownBlock = some i → ¬ F i) : Arg E w' v l := by
  obtain ⟨a, cap, rfl, h⟩ := h
  refine ⟨a, cap, rfl, ?_⟩
  rcases h with h | ⟨x, rfl, hc⟩
  · exact Or.inl h
  · refine Or.inr ⟨x, rfl, fun j u hj => ?_⟩
    have hx := hc j u hj
    have hb : (x.add j).block = x.block := by unfold Addr.add; split <;> rfl
    rw [World.cell?_of_block (k.block _ (World.block_lt_of_cell? _ _ hx) (by rw [hb]; exact hd _ rfl))]; exact hx
theorem Arg.shape (h : Arg E w v l) : ∃ a c, v = .slice a l.length c := by obtain ⟨a, cap, rfl, _⟩ := h; exact ⟨_, _, rfl⟩
theorem Arg.cells (h : Arg E w v l) (h0 : l ≠ []) : ∃ b off cap, v = .slice (some ⟨b, off, none⟩) l.length cap ∧ ∀ i x, l[i]? = some x → ∀ j, j < E.size → w.cell? ⟨b, off + (i * E.size + j), none⟩ = (E.enc x)[j]? := by
  obtain ⟨a, cap, rfl, h⟩ := h
  rcases h with ⟨_, _, e⟩ | ⟨x, rfl, hc⟩
  · exact absurd e h0
  · obtain ⟨b, off, spot⟩ := x
    have hall : ∀ i x, l[i]? = some x → ∀ j, j < E.size → w.cell? ((⟨b, off, spot⟩ : Addr).add (i * E.size + j)) = (E.enc x)[j]? := fun i x hx j hj => by
      have hjl : j < (E.enc x).length := by rw [E.len]; exact hj
      have := hc (i * E.size + j) (E.enc x)[j] (by rw [E.flat_get l i j hj, hx]; simp [hjl])
      rw [this]; simp [hjl]
    obtain ⟨y, ys, rfl⟩ := List.exists_cons_of_ne_nil h0
    have hjl : 0 < (E.enc y).length := by rw [E.len]; exact E.pos
    have hc0 := hall 0 y rfl 0 E.pos
    rw [List.getElem?_eq_getElem hjl] at hc0
    have hspot : spot = none := by simpa [Addr.add] using World.cell?_spot hc0
    subst hspot
    exact ⟨b, off, cap, rfl, fun i x hx j hj => by have := hall i x hx j hj; rwa [Addr.add_lit] at this⟩
end
section
variable {α : Type} {E : EK α} {ops : Array Oper} {rest : List Oper} {o : Oper} {a : Act} {w : World} {Q : Exit → Act → World → Prop} {B : Nat}
theorem append_types {P : Program} {t tx ty e e' : TypeId} {v x : Value} {w : World} (ht : P.underlying t = some (.slice e)) (hx : P.underlying tx = some (.slice e')) :
    (Builtin.append_ #[t, tx] ty #[v, x]).run P w = (Builtin.append_ #[t, t] ty #[v, x]).run P w := by
  unfold Builtin.append_
  cases v <;> simp [run_underlying ht, run_underlying hx]
/-- A row that came, behind one of the call's own: at the operation. -/
theorem wp_app {K : Act → World → Prop} (L : E.Laid) (s x : Operand) (ts tx : TypeId) (hts : Tryz.prog.underlying ts = some (.slice E.t)) (htx : Tryz.prog.underlying tx = some (.slice E.t)) (ho : o.op = .call { callee := .builtin .append, args := #[s, x], argTypes := #[ts, tx] })
    (v : Value) (l : List α) (hs : a.eval s = v) (hown : Row E w B v l) (tv : Value) (news : List α) (hx : a.eval x = tv) (harg : Arg E w tv news) (hbytes : (l.length + news.length) * E.bytes ≤ 140737488355328) (h63 : l.length + news.length ≤ maxLen) (hbase : B ≤ w.heap.size)
    (h : ∀ v' w', Row E w' B v' (l ++ news) → (∀ k, v'.ownBlock = some k → v.ownBlock = some k ∨ w.heap.size = k) → Keep (fun k => some k = v.ownBlock) w w' → K (a.put o.dst v') w') : o.wp Tryz.prog a w K Q := by
  obtain ⟨i0, z, hi, hz, hs0, hby, hzs⟩ := L
  obtain ⟨ad, cap, rfl, harg⟩ := harg
  rcases harg with ⟨rfl, rfl, rfl⟩ | ⟨ad, rfl, hc⟩
  · have hrun := run_append_owned_none (P := Tryz.prog) (w := w) B ts o.type E.t i0 E.size hts hi v l.length (l.flatMap E.enc) hown
    unfold Oper.wp execOp
    simp only [ho, resolve, invoke, builtin, Sem.run_bind, Sem.run_pure, Result.andThen_ok, List.map_toArray, List.map_cons, List.map_nil, hs, hx, append_types hts htx, List.length_nil, hrun]
    exact h v w (by rw [List.append_nil]; exact hown) (fun _ q => Or.inl q) (Keep.refl _ _)
  · obtain ⟨v', w', hr, h2, h3, _, h5⟩ := run_append_own_at (P := Tryz.prog) w B ts o.type E.t i0 z E.size E.bytes hts hi hz hs0 hby hzs E.pos v l.length (l.flatMap E.enc) hown ad news.length cap (news.flatMap E.enc) (E.flat_len news)
      hc (E.flat_one news) h63 hbytes hbase
    unfold Oper.wp execOp
    simp only [ho, resolve, invoke, builtin, Sem.run_bind, Sem.run_pure, Result.andThen_ok, List.map_toArray, List.map_cons, List.map_nil, hs, hx, append_types hts htx, hr]
    refine h v' w' ?_ (fun k q => ?_) (Keep.grown h3)
    · unfold Row; rw [List.length_append, List.flatMap_append]; exact h2
    · rcases h5 with h5 | h5
      · exact Or.inl (by rw [← h5]; exact q)
      · rw [h5] at q; exact Or.inr (by simpa using q)
/-- At the list of a plain region's operations. -/
theorem app_row (L : E.Laid) (hgd : o.guard = none) (s x : Operand) (ts tx : TypeId) (hts : Tryz.prog.underlying ts = some (.slice E.t)) (htx : Tryz.prog.underlying tx = some (.slice E.t)) (ho : o.op = .call { callee := .builtin .append, args := #[s, x], argTypes := #[ts, tx] })
    (v : Value) (l : List α) (hs : a.eval s = v) (hown : Row E w B v l) (tv : Value) (news : List α) (hx : a.eval x = tv) (harg : Arg E w tv news) (hbytes : (l.length + news.length) * E.bytes ≤ 140737488355328) (h63 : l.length + news.length ≤ maxLen) (hbase : B ≤ w.heap.size)
    (h : ∀ v' w', Row E w' B v' (l ++ news) → (∀ k, v'.ownBlock = some k → v.ownBlock = some k ∨ w.heap.size = k) → Keep (fun k => some k = v.ownBlock) w w' → wpList Tryz.prog ops Q rest (a.put o.dst v') w') : wpList Tryz.prog ops Q (o :: rest) a w :=
  wpList_plain hgd fun _ hK => wp_app L s x ts tx hts htx ho v l hs hown tv news hx harg hbytes h63 hbase fun v' w' h1 h2 h3 => hK _ _ (h v' w' h1 h2 h3)
/-- At a step of a region that draws. -/
theorem step_app {K : Act → World → Prop} {E1 : Prop} (L : E.Laid) (hgd : o.guard = none) (s x : Operand) (ts tx : TypeId) (hts : Tryz.prog.underlying ts = some (.slice E.t)) (htx : Tryz.prog.underlying tx = some (.slice E.t)) (ho : o.op = .call { callee := .builtin .append, args := #[s, x], argTypes := #[ts, tx] })
    (v : Value) (l : List α) (hs : a.eval s = v) (hown : Row E w B v l) (tv : Value) (news : List α) (hx : a.eval x = tv) (harg : Arg E w tv news) (hbytes : (l.length + news.length) * E.bytes ≤ 140737488355328) (h63 : l.length + news.length ≤ maxLen) (hbase : B ≤ w.heap.size)
    (h : ∀ v' w', Row E w' B v' (l ++ news) → (∀ k, v'.ownBlock = some k → v.ownBlock = some k ∨ w.heap.size = k) → Keep (fun k => some k = v.ownBlock) w w' → K (a.put o.dst v') w') :
    if Region.wanted o (yielded ops a.tmps) = true then Oper.wp Tryz.prog o a w K Q else E1 := by
  have hw : Region.wanted o (yielded ops a.tmps) = true := by simp [Region.wanted, hgd]
  rw [if_pos hw]
  exact wp_app L s x ts tx hts htx ho v l hs hown tv news hx harg hbytes h63 hbase h
end
/-- What was just laid. -/
theorem Arg.one {α : Type} {E : EK α} {w : World} (g : Nat) (y : α) (h : ∀ j, j < E.size → w.cell? ⟨g, j, none⟩ = (E.enc y)[j]?) : Arg E w (.slice (some ⟨g, 0, none⟩) 1 1) [y] := by
  refine ⟨_, _, rfl, Or.inr ⟨_, rfl, fun j u hj => ?_⟩⟩
  have hjl : j < E.size := by
    have := (List.getElem?_eq_some_iff.1 hj).1
    rw [E.flat_len] at this; simpa using this
  rw [Addr.add_lit, Nat.zero_add, h j hjl]
  simpa using hj
/-- A block that is known whole, as a slice. -/
theorem Arg.blk {α : Type} {E : EK α} {w : World} {g : Nat} {cs : Array Value} {t : TypeId} (hb : w.heap[g]? = some (.cells cs t (0, 0))) (l : List α) (h : cs.toList = l.flatMap E.enc) (c : Nat) : Arg E w (.slice (some ⟨g, 0, none⟩) l.length c) l := by
  refine ⟨_, _, rfl, Or.inr ⟨_, rfl, fun j u hj => ?_⟩⟩
  rw [Addr.add_lit, Nat.zero_add, (m_cells hb).1 j, ← Array.getElem?_toList, h]; exact hj
def EInt : EK Int := ⟨3, 1, 8, fun x => [.int .i64 x], fun _ => rfl, fun _ u hu => by simp at hu; subst hu; rfl, by decide⟩
def EStr : EK ByteArray := ⟨9, 1, 16, fun x => [.string x], fun _ => rfl, fun _ u hu => by simp at hu; subst hu; rfl, by decide⟩
theorem EInt.laid : EInt.Laid := EK.laid (z := .int .i64 0) (by kernel_rfl) (by decide)
theorem EStr.laid : EStr.Laid := EK.laid (z := .string ⟨#[]⟩) (by kernel_rfl) (by decide)
end Go.Proofs.YtolilbcpfdnkjaaGreat
