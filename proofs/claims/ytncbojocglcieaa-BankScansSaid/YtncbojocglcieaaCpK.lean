/- A string that is copied into a row of bytes. -/
import Derived.Test.YtncbojocglcieaaByK
import Derived.Lib.BufferWrite
namespace Go.Proofs.Ytncbojocglcieaa
open Go.RowKit
set_option linter.unusedSimpArgs false
set_option linter.unusedVariables false
theorem EByt.info : (Try.prog.info? 5).map (·.size) = some 1 := by kernel_rfl
theorem keep_setRow (w : World) (g : Nat) (cs : Array Value) : Keep (fun k => k = g) w (w.setRow g cs) := by
  refine ⟨rfl, rfl, rfl, by simp [World.setRow], fun k hk hn => ?_⟩
  simp only [World.setRow, Array.getElem?_modify]
  rw [if_neg (fun e => hn e.symm)]
section
variable {ops : Array Oper} {rest : List Oper} {o : Oper} {a : Act} {w : World} {Q : Exit → Act → World → Prop} {B : Nat}
set_option maxRecDepth 100000 in
theorem wp_copy_str {K : Act → World → Prop} (d s : Operand) (ho : o.op = .call { callee := .builtin .copy, args := #[d, s], argTypes := #[60, 9] }) (g off dLen dCap n cap : Nat) (l : List UInt8) (x : ByteArray)
    (hd : a.eval d = .slice (some ⟨g, off, none⟩) dLen dCap) (hs : a.eval s = .string x) (hrow : Row EByt w B (.slice (some ⟨g, 0, none⟩) n cap) l) (hle : x.size ≤ dLen) (hfit : off + x.size ≤ l.length)
    (h : ∀ w', Row EByt w' B (.slice (some ⟨g, 0, none⟩) n cap) (l.take off ++ x.data.toList ++ l.drop (off + x.size)) → Keep (fun k => k = g) w w' → K (a.put o.dst (goInt x.size)) w') : Oper.wp Try.prog o a w K Q := by
  have hn := hrow.len_eq
  subst hn
  have hrow0 := hrow
  obtain ⟨h1, h2⟩ := hrow
  rcases h2 with ⟨h2, _⟩ | ⟨g', cap', cur, e, hg, hh, hnc, hc, hcs, hcur⟩
  · simp at h2
  simp only [Value.slice.injEq, Option.some.injEq, Addr.mk.injEq] at e
  obtain ⟨⟨rfl, -, -⟩, -, rfl⟩ := e
  rw [EByt.flat] at hcur
  have hcur' : cur.toList.take l.length = bv l := by rw [← hcur]; congr 1; show _ = _ * 1; omega
  have hcs' : cur.size = cap := by rw [hcs]; show _ * 1 = _; omega
  have hxl : (Lib.byteCells x.data.toList).length = x.size := by rw [Lib.byteCells_length, Lib.size_eq]
  have hrun := Lib.run_copy_row_string (P := Try.prog) w 60 9 o.type 5 g off dLen dCap x cur _ Try.underlying60 EByt.info hh hle (by omega)
  unfold Oper.wp
  simp [execOp, ho, resolve, invoke, builtin, hd, hs, hrun, Result.andThen]
  refine h _ ?_ (keep_setRow w g _)
  have hln : (l.take off ++ x.data.toList ++ l.drop (off + x.size)).length = l.length := by
    simp only [List.length_append, List.length_take, List.length_drop, Array.length_toList]
    have : x.data.size = x.size := rfl
    omega
  have hsh := setRow_heap w g cur (cur.toList.take off ++ Lib.byteCells x.data.toList ++ cur.toList.drop (off + x.size)).toArray _ _ hh
  refine ⟨by rw [hln, EByt.flat, bv_length, hln]; show _ = _ * 1; omega, Or.inr ⟨g, cap, _, by rw [hln], hg, by simpa using hsh, by rw [hln]; exact hnc, hc, ?_, ?_⟩⟩
  · have : (cur.toList.take off ++ (Lib.byteCells x.data.toList ++ cur.toList.drop (off + x.size))).length = cap := by
      simp only [List.length_append, List.length_take, List.length_drop, hxl, Array.length_toList]; omega
    rw [List.size_toArray, this]; show _ = _ * 1; omega
  · rw [hln, EByt.flat, bv_append, bv_append]
    have e1 : (bv (l.take off)) = cur.toList.take off := by
      have : bv (l.take off) = (bv l).take off := by simp [bv, List.map_take]
      rw [this, ← hcur', List.take_take, Nat.min_eq_left (by omega)]
    have e2 : bv (l.drop (off + x.size)) = (cur.toList.take l.length).drop (off + x.size) := by
      rw [hcur']; simp [bv, List.map_drop]
    rw [e1, e2]
    show List.take (l.length * 1) (cur.toList.take off ++ (Lib.byteCells x.data.toList ++ cur.toList.drop (off + x.size))) = _
    have hto : (cur.toList.take off).length = off := by rw [List.length_take, Array.length_toList]; omega
    rw [Nat.mul_one, List.take_append, hto, List.take_of_length_le (by omega), List.append_assoc]
    congr 1
    rw [List.take_append, hxl, List.take_of_length_le (by rw [hxl]; omega)]
    congr 1
    rw [List.take_drop]
    congr 1
    congr 1
    omega
theorem copy_str (hgd : o.guard = none) (d s : Operand) (ho : o.op = .call { callee := .builtin .copy, args := #[d, s], argTypes := #[60, 9] }) (g off dLen dCap n cap : Nat) (l : List UInt8) (x : ByteArray)
    (hd : a.eval d = .slice (some ⟨g, off, none⟩) dLen dCap) (hs : a.eval s = .string x) (hrow : Row EByt w B (.slice (some ⟨g, 0, none⟩) n cap) l) (hle : x.size ≤ dLen) (hfit : off + x.size ≤ l.length)
    (h : ∀ w', Row EByt w' B (.slice (some ⟨g, 0, none⟩) n cap) (l.take off ++ x.data.toList ++ l.drop (off + x.size)) → Keep (fun k => k = g) w w' → wpList Try.prog ops Q rest (a.put o.dst (goInt x.size)) w') : wpList Try.prog ops Q (o :: rest) a w :=
  wpList_plain hgd fun _ hK => wp_copy_str d s ho g off dLen dCap n cap l x hd hs hrow hle hfit fun w' h1 h2 => hK _ _ (h w' h1 h2)
theorem step_copy_str {K : Act → World → Prop} {E1 : Prop} (hgd : o.guard = none) (d s : Operand) (ho : o.op = .call { callee := .builtin .copy, args := #[d, s], argTypes := #[60, 9] }) (g off dLen dCap n cap : Nat) (l : List UInt8) (x : ByteArray)
    (hd : a.eval d = .slice (some ⟨g, off, none⟩) dLen dCap) (hs : a.eval s = .string x) (hrow : Row EByt w B (.slice (some ⟨g, 0, none⟩) n cap) l) (hle : x.size ≤ dLen) (hfit : off + x.size ≤ l.length)
    (h : ∀ w', Row EByt w' B (.slice (some ⟨g, 0, none⟩) n cap) (l.take off ++ x.data.toList ++ l.drop (off + x.size)) → Keep (fun k => k = g) w w' → K (a.put o.dst (goInt x.size)) w') : if Region.wanted o (yielded ops a.tmps) = true then Oper.wp Try.prog o a w K Q else E1 := by
  have hw : Region.wanted o (yielded ops a.tmps) = true := by simp [Region.wanted, hgd]
  rw [if_pos hw]
  exact wp_copy_str d s ho g off dLen dCap n cap l x hd hs hrow hle hfit h
end
end Go.Proofs.Ytncbojocglcieaa
