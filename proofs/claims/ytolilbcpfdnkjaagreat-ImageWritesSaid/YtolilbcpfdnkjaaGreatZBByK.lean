/- Rows of bytes; bytes into a string; a row that is made. -/
import Derived.Test.YtolilbcpfdnkjaaGreatZBRk
namespace Go.Proofs.YtolilbcpfdnkjaaGreat
open Go.RowKit
set_option linter.unusedSimpArgs false
def EByt : EK UInt8 := ⟨5, 1, 1, fun x => [.int .u8 x.toNat], fun _ => rfl, fun _ u hu => by simp at hu; subst hu; rfl, by decide⟩
theorem EByt.laid : EByt.Laid := EK.laid (z := .int .u8 0) (by kernel_rfl) (by decide)
theorem EByt.flat (l : List UInt8) : l.flatMap EByt.enc = bv l := by
  induction l with
  | nil => rfl
  | cons x l ih => rw [List.flatMap_cons, ih]; rfl
set_option maxRecDepth 10000 in
theorem Row.convert {w : World} {B : Nat} {v : Value} {l : List UInt8} (h : Row EByt w B v l) : (convert 69 9 v).run Tryz.prog w = .ok (.string ⟨l.toArray⟩) w := by
  unfold Row at h
  rw [EByt.flat] at h
  obtain ⟨_, h⟩ := h
  rcases h with ⟨rfl, h0⟩ | ⟨g, cap, cur, rfl, hg, hh, hn, hc, hs, hcur⟩
  · have : l = [] := List.eq_nil_of_length_eq_zero h0
    subst this
    exact run_convert_bytes_nil (P := Tryz.prog) w 69 5 Tryz.underlying69 Tryz.underlying5 0 0 9 Tryz.underlying9
  · have := run_convert_bytes_arg (P := Tryz.prog) w 69 5 Tryz.underlying69 Tryz.underlying5 g 0 l.length cap (l.map fun c => (c.toNat : Int)) (by simp) (fun i hi => by
      have e1 : w.cell? ⟨g, 0 + i, none⟩ = cur[i]? := by simp [World.cell?, hh]
      have e2 : cur[i]? = (bv l)[i]? := by
        rw [← hcur, List.getElem?_take_of_lt (by show i < l.length * 1; omega)]; simp
      rw [e1, e2]; simp [bv, hi]) 9 Tryz.underlying9
    rw [this]
    congr 2
    simp only [strOfNums, List.map_map]
    congr 2
    rw [show ((fun n : Int => UInt8.ofNat n.toNat) ∘ fun c : UInt8 => (c.toNat : Int)) = id from by funext c; simp]
    simp
section
variable {ops : Array Oper} {rest : List Oper} {o : Oper} {a : Act} {w : World} {Q : Exit → Act → World → Prop} {B : Nat}
theorem conv_row (hgd : o.guard = none) (x : Operand) (ho : o.op = .convert 69 9 x) (v : Value) (l : List UInt8) (hx : a.eval x = v) (hown : Row EByt w B v l)
    (h : wpList Tryz.prog ops Q rest (a.put o.dst (.string ⟨l.toArray⟩)) w) : wpList Tryz.prog ops Q (o :: rest) a w := by
  refine wpList_plain hgd fun K hK => ?_
  unfold Oper.wp execOp
  simp only [ho, hx, Sem.run_bind, hown.convert, Result.andThen_ok, Sem.run_pure]
  exact hK _ _ h
theorem madeCells_rep {α : Type} (E : EK α) (x : α) (n : Nat) : (madeCells (E.enc x).toArray (n * E.size)).toList = (List.replicate n x).flatMap E.enc := by
  apply List.ext_getElem?
  intro j
  by_cases hj : j < n * E.size
  · have hm : j % E.size < E.size := Nat.mod_lt _ E.pos
    have hd : j / E.size < n := by rw [Nat.div_lt_iff_lt_mul E.pos]; exact hj
    have e1 : j = j / E.size * E.size + j % E.size := by rw [Nat.mul_comm]; exact (Nat.div_add_mod _ _).symm
    have e2 := E.flat_get (List.replicate n x) (j / E.size) (j % E.size) hm
    rw [← e1] at e2
    rw [e2]
    have hl : j % E.size < (E.enc x).length := by rw [E.len]; exact hm
    have e3 : (E.enc x)[j % E.size]? = some (E.enc x)[j % E.size] := List.getElem?_eq_getElem hl
    simp [madeCells, hj, hd, E.len, e3]
  · rw [List.getElem?_eq_none (by simp [madeCells]; omega), List.getElem?_eq_none (by rw [E.flat_len]; simp; omega)]
theorem make_row {α : Type} {E : EK α} {z : Value} (x0 : α) (hinfo : (Tryz.prog.info? E.t).map (fun i => (i.zero, i.size, i.bytes)) = some (some z, E.size, E.bytes)) (hz : z.cells = (E.enc x0).toArray) (hgd : o.guard = none) (t : TypeId) (ht : Tryz.prog.underlying t = some (.slice E.t)) (l c : Operand) (ho : o.op = Op.makeSlice t l c)
    (L C : Int) (n : Nat) (hl : a.eval l = .int .i64 L) (hc : a.eval c = .int .i64 C) (hL : L = n) (hC : C = n) (hn : E.bytes * n ≤ 140737488355328) (h63 : n ≤ maxLen) (hB : B ≤ w.heap.size)
    (h : ∀ w', Row E w' B (.slice (some ⟨w.heap.size, 0, none⟩) n n) (List.replicate n x0) → Below w.heap.size w w' → wpList Tryz.prog ops Q rest (a.put o.dst (.slice (some ⟨w.heap.size, 0, none⟩) n n)) w') : wpList Tryz.prog ops Q (o :: rest) a w := by
  obtain ⟨i0, hi, hz0, hz1, hz2⟩ := info_parts hinfo
  refine wpList_make_full w hgd l c t ho B E.t i0 z E.size ht hi hz0 hz1 .i64 .i64 L C n hl hc hL hC (by rw [hz2]; omega) h63 hB ?_
  intro w' h1 h2
  refine h w' ?_ ⟨h2.os, h2.tape, h2.output, h2.size, fun k hk => h2.block k hk (by simp)⟩
  rw [hz, madeCells_rep] at h1
  unfold Row; rw [List.length_replicate]; exact h1
end
/-- One cell of a row is another. -/
theorem Row.set1 {α : Type} {E : EK α} (h1 : E.size = 1) {w : World} {B g n cap : Nat} {l : List α} (h : Row E w B (.slice (some ⟨g, 0, none⟩) n cap) l) (i : Nat) (x : α) (u : Value) (hu : E.enc x = [u]) : Row E (w.setCell ⟨g, i, none⟩ u) B (.slice (some ⟨g, 0, none⟩) n cap) (l.set i x) := by
  have hn := h.len_eq
  subst hn
  have := (World.ownsRow.stored h i u).1
  unfold Row
  rw [List.length_set]
  have e : (l.set i x).flatMap E.enc = (l.flatMap E.enc).set i u := by
    apply List.ext_getElem?
    intro j
    have f1 := E.flat_get (l.set i x) j 0 (by omega)
    have f2 := E.flat_get l j 0 (by omega)
    rw [h1, Nat.mul_one, Nat.add_zero] at f1 f2
    rw [f1, List.getElem?_set, List.getElem?_set, E.flat_len, h1, Nat.mul_one]
    by_cases hij : i = j
    · subst hij
      rw [if_pos rfl, if_pos rfl]
      by_cases hl : i < l.length
      · rw [if_pos hl, if_pos hl]; simp [hu]
      · rw [if_neg hl, if_neg hl]; rfl
    · rw [if_neg hij, if_neg hij, f2]
  rw [e]; exact this
end Go.Proofs.YtolilbcpfdnkjaaGreat
