/- Bytes that came of a string: a row that is frozen one past its end. -/
import Derived.Test.YtolilbcpfdnkjaaGreatZBByK
import Derived.Lib.ConvBytes
namespace Go.Proofs.YtolilbcpfdnkjaaGreat
open Go.RowKit
set_option linter.unusedSimpArgs false
set_option linter.unusedVariables false
theorem str_eq_iff (x y : ByteArray) : (x.toList == y.toList) = true ↔ x = y := by
  simp only [beq_iff_eq, ByteArray.toList_eq]
  exact ⟨fun h => ByteArray.ext (Array.ext' h), fun h => by rw [h]⟩
theorem str_ne {x y : ByteArray} (h : x ≠ y) : (x.toList == y.toList) = false := by
  rw [Bool.eq_false_iff]; exact fun q => h ((str_eq_iff x y).1 q)
theorem str_refl (x : ByteArray) : (x.toList == x.toList) = true := (str_eq_iff x x).2 rfl
/-- The bytes l in the block g, of a conversion. -/
def Fz (w : World) (g : Nat) (l : List UInt8) : Prop := ∃ cs t k, w.heap[g]? = some (.cells cs t (k, k + 1)) ∧ l.length ≤ k ∧ ∀ j, j < l.length → cs[j]? = some (.int .u8 (l.getD j 0).toNat)
section
variable {w w' : World} {g : Nat} {l : List UInt8}
theorem Fz.lt (h : Fz w g l) : g < w.heap.size := by obtain ⟨cs, t, k, h, _⟩ := h; exact m_lt h
theorem Fz.same (h : Fz w g l) (e : w'.heap[g]? = w.heap[g]?) : Fz w' g l := by obtain ⟨cs, t, k, h, h2⟩ := h; exact ⟨cs, t, k, e.trans h, h2⟩
theorem Fz.below (h : Fz w g l) (hb : Below w.heap.size w w') : Fz w' g l := h.same (hb.block g h.lt)
theorem Fz.cell (h : Fz w g l) (j : Nat) (hj : j < l.length) : w.cell? ⟨g, j, none⟩ = some (.int .u8 (l.getD j 0).toNat) := by
  obtain ⟨cs, t, k, h, h1, h2⟩ := h
  simp [World.cell?, h, h2 j hj]
theorem Fz.free (h : Fz w g l) (j : Nat) (hj : j < l.length) : w.frozen? ⟨g, j, none⟩ = false := by
  obtain ⟨cs, t, k, h, h1, h2⟩ := h
  simp [World.frozen?, h]; omega
theorem Fz.set (h : Fz w g l) (i : Nat) (c : UInt8) (hi : i < l.length) : Fz (w.setCell ⟨g, i, none⟩ (.int .u8 c.toNat)) g (l.set i c) := by
  obtain ⟨cs, t, k, h, h1, h2⟩ := h
  refine ⟨cs.setIfInBounds i (.int .u8 c.toNat), t, k, ?_, by simpa using h1, fun j hj => ?_⟩
  · have hg := m_lt h
    have hlt : g < w.heap.size := hg
    simp only [World.setCell, Array.getElem?_modify]
    rw [h]; simp
  · rw [List.length_set] at hj
    rw [Array.getElem?_setIfInBounds]
    have hc : i < cs.size := by
      have := h2 i hi
      exact (Array.getElem?_eq_some_iff.1 this).1
    by_cases e : i = j
    · subst e
      rw [if_pos rfl, if_pos hc]; simp [hi, List.getD]
    · rw [if_neg e, h2 j hj]; simp [List.getD, List.getElem?_set, e]
set_option maxRecDepth 10000 in
theorem Fz.convert (h : Fz w g l) (cap : Nat) : (convert 69 9 (.slice (some ⟨g, 0, none⟩) l.length cap)).run Tryz.prog w = .ok (.string ⟨l.toArray⟩) w := by
  have := run_convert_bytes_arg (P := Tryz.prog) w 69 5 Tryz.underlying69 Tryz.underlying5 g 0 l.length cap (l.map fun c => (c.toNat : Int)) (by simp) (fun i hi => by
    rw [Nat.zero_add, h.cell i hi]; simp [hi, List.getD]) 9 Tryz.underlying9
  rw [this]
  congr 2
  simp only [strOfNums, List.map_map]
  congr 2
  rw [show ((fun n : Int => UInt8.ofNat n.toNat) ∘ fun c : UInt8 => (c.toNat : Int)) = id from by funext c; simp]
  simp
set_option maxRecDepth 10000 in
theorem fz_conv (h : Fz w g l) (n cap : Nat) (hn : n = l.length) : (convert 69 9 (.slice (some ⟨g, 0, none⟩) n cap)).run Tryz.prog w = .ok (.string ⟨l.toArray⟩) w := by
  subst hn; exact h.convert cap
theorem fz_new (w : World) (s : ByteArray) : Fz (Lib.bytesWorld w 5 s) w.heap.size s.data.toList := by
  refine ⟨_, _, _, Lib.bytesWorld_at_new w 5 s, ?_, fun j hj => ?_⟩
  · simp [Lib.bytesCells]
  · have hj' : j < s.size := by rw [Array.length_toList] at hj; exact hj
    have := Lib.bytesWorld_cell w 5 s j hj'
    simpa [World.cell?, Lib.bytesWorld_at_new] using this
theorem fz_below (w : World) (s : ByteArray) : Below w.heap.size w (Lib.bytesWorld w 5 s) := by
  refine ⟨?_, ?_, ?_, by rw [Lib.bytesWorld_size]; omega, fun k hk => Lib.bytesWorld_at_old w 5 s k hk⟩
  all_goals simp [Lib.bytesWorld, World.freeze, World.alloc, World.drew, -World.alloc_eq, -World.drew_eq]
end
section
variable {ops : Array Oper} {rest : List Oper} {o : Oper} {a : Act} {w : World} {Q : Exit → Act → World → Prop}
/-- A string into bytes, at the list of a plain region's operations. -/
theorem conv_bytes (hgd : o.guard = none) (x : Operand) (ho : o.op = .convert 9 69 x) (s : ByteArray) (hx : a.eval x = .string s)
    (h : ∀ w' cap, Fz w' w.heap.size s.data.toList → Below w.heap.size w w' → wpList Tryz.prog ops Q rest (a.put o.dst (.slice (some ⟨w.heap.size, 0, none⟩) s.size cap)) w') : wpList Tryz.prog ops Q (o :: rest) a w := by
  refine wpList_plain hgd fun K hK => ?_
  unfold Oper.wp execOp
  simp only [ho, hx, Sem.run_bind, Lib.run_convert_string_bytes w 9 69 5 s Tryz.underlying9 Tryz.underlying69 Tryz.underlying5, Result.andThen_ok, Sem.run_pure]
  exact hK _ _ (h _ _ (fz_new w s) (fz_below w s))
theorem conv_fz (hgd : o.guard = none) (x : Operand) (ho : o.op = .convert 69 9 x) (g n cap : Nat) (l : List UInt8) (hx : a.eval x = .slice (some ⟨g, 0, none⟩) n cap) (hn : n = l.length) (hf : Fz w g l)
    (h : wpList Tryz.prog ops Q rest (a.put o.dst (.string ⟨l.toArray⟩)) w) : wpList Tryz.prog ops Q (o :: rest) a w := by
  subst hn
  refine wpList_plain hgd fun K hK => ?_
  unfold Oper.wp execOp
  simp only [ho, hx, Sem.run_bind, hf.convert, Result.andThen_ok, Sem.run_pure]
  exact hK _ _ h
/-- At a step of a region that draws. -/
theorem step_conv_fz {K : Act → World → Prop} {E1 : Prop} (hw : Region.wanted o (yielded ops a.tmps) = true) (x : Operand) (ho : o.op = .convert 69 9 x) (g n cap : Nat) (l : List UInt8) (hx : a.eval x = .slice (some ⟨g, 0, none⟩) n cap) (hn : n = l.length) (hf : Fz w g l)
    (h : K (a.put o.dst (.string ⟨l.toArray⟩)) w) : if Region.wanted o (yielded ops a.tmps) = true then Oper.wp Tryz.prog o a w K Q else E1 := by
  subst hn
  rw [if_pos hw]
  unfold Oper.wp execOp
  simp only [ho, hx, Sem.run_bind, hf.convert, Result.andThen_ok, Sem.run_pure]
  exact h
end
end Go.Proofs.YtolilbcpfdnkjaaGreat
