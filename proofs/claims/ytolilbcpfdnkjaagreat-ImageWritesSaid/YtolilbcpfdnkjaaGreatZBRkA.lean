/- Rows: appending to what is new. -/
import Derived.Test.YtolilbcpfdnkjaaGreatZBRk
namespace Go.Proofs.YtolilbcpfdnkjaaGreat
open Go.RowKit
set_option linter.unusedSimpArgs false
set_option linter.unusedVariables false
theorem cell_drew {w : World} {a : Addr} {v : Value} (h : w.cell? a = some v) : w.drew.cell? a = some v := h
theorem cell_allocd {w : World} {a : Addr} {v : Value} (h : w.cell? a = some v) : ∀ ob, (w.alloc ob).drew.cell? a = some v := fun ob => cell_later (wx := (w.alloc ob).drew) ((Below.refl _ w).alloc (Nat.le_refl _) ob).drew h
theorem cell_alloc2 {w : World} {a : Addr} {v : Value} (h : w.cell? a = some v) : ∀ o1 o2, ((w.alloc o1).alloc o2).cell? a = some v := fun o1 o2 => cell_later (wx := (w.alloc o1).alloc o2) (((Below.refl _ w).alloc (Nat.le_refl _) o1).alloc (by simp) o2) h
theorem cell_alloc2d {w : World} {a : Addr} {v : Value} (h : w.cell? a = some v) : ∀ o1 o2, ((w.alloc o1).alloc o2).drew.cell? a = some v := fun o1 o2 => cell_later (wx := ((w.alloc o1).alloc o2).drew) (((Below.refl _ w).alloc (Nat.le_refl _) o1).alloc (by simp) o2).drew h
theorem cell_alloc1 {w : World} {a : Addr} {v : Value} (h : w.cell? a = some v) : ∀ ob, (w.alloc ob).cell? a = some v := fun ob => cell_later (wx := w.alloc ob) ((Below.refl _ w).alloc (Nat.le_refl _) ob) h
section
variable {α : Type} {E : EK α} {ops : Array Oper} {rest : List Oper} {o : Oper} {a : Act} {w : World} {Q : Exit → Act → World → Prop} {B : Nat}
theorem Row.keepBelow {w' : World} {v : Value} {l : List α} (h : Row E w B v l) (k : Keep (fun k => some k = v.ownBlock) w w') (hB : B ≤ w.heap.size) : Below B w w' :=
  k.toBelow hB (fun i q => h.ge q.symm)
/-- To a row that is new since w0. -/
theorem app_on {w0 : World} (L : E.Laid) (hgd : o.guard = none) (s x : Operand) (ts tx : TypeId) (hts : Tryz.prog.underlying ts = some (.slice E.t)) (htx : Tryz.prog.underlying tx = some (.slice E.t)) (ho : o.op = .call { callee := .builtin .append, args := #[s, x], argTypes := #[ts, tx] })
    (v : Value) (l : List α) (hs : a.eval s = v) (hown : Row E w B v l) (hb0 : Below B w0 w) (hB : B ≤ w0.heap.size) (tv : Value) (news : List α) (hx : a.eval x = tv) (harg : Arg E w tv news) (hbytes : (l.length + news.length) * E.bytes ≤ 140737488355328) (h63 : l.length + news.length ≤ maxLen)
    (h : ∀ v' w', Row E w' B v' (l ++ news) → Below B w0 w' → wpList Tryz.prog ops Q rest (a.put o.dst v') w') : wpList Tryz.prog ops Q (o :: rest) a w :=
  app_row L hgd s x ts tx hts htx ho v l hs hown tv news hx harg hbytes h63 (Nat.le_trans hB hb0.size) (fun v' w' h1 h2 h3 => h v' w' h1 (hb0.trans (hown.keepBelow h3 (Nat.le_trans hB hb0.size))))
/-- To an empty one that was just laid. -/
theorem app_new (L : E.Laid) (hgd : o.guard = none) (s x : Operand) (ts tx : TypeId) (hts : Tryz.prog.underlying ts = some (.slice E.t)) (htx : Tryz.prog.underlying tx = some (.slice E.t)) (ho : o.op = .call { callee := .builtin .append, args := #[s, x], argTypes := #[ts, tx] })
    (hs : a.eval s = .slice (some ⟨w.heap.size, 0, none⟩) 0 0) (tv : Value) (news : List α) (hx : a.eval x = tv) (harg : Arg E w tv news) (hbytes : news.length * E.bytes ≤ 140737488355328) (h63 : news.length ≤ maxLen)
    (h : ∀ v' w', Row E w' w.heap.size v' news → Below w.heap.size w w' → wpList Tryz.prog ops Q rest (a.put o.dst v') w') : wpList Tryz.prog ops Q (o :: rest) a (w.alloc (.cells #[] E.t)) :=
  app_on (w0 := w) (B := w.heap.size) L hgd s x ts tx hts htx ho _ [] hs (Row.new w w.heap.size #[] [] (Nat.le_refl _) rfl (Nat.zero_le _)) ((Below.refl _ w).alloc (Nat.le_refl _) _) (Nat.le_refl _) tv news hx
    (harg.below ((Below.refl _ w).alloc (Nat.le_refl _) _)) (by simpa using hbytes) (by simpa using h63) (fun v' w' h1 h2 => h v' w' (by rw [List.nil_append] at h1; exact h1) h2)
/-- In a region that draws. -/
theorem step_on {w0 : World} {K : Act → World → Prop} {E1 : Prop} (L : E.Laid) (hgd : o.guard = none) (s x : Operand) (ts tx : TypeId) (hts : Tryz.prog.underlying ts = some (.slice E.t)) (htx : Tryz.prog.underlying tx = some (.slice E.t)) (ho : o.op = .call { callee := .builtin .append, args := #[s, x], argTypes := #[ts, tx] })
    (v : Value) (l : List α) (hs : a.eval s = v) (hown : Row E w B v l) (hb0 : Below B w0 w) (hB : B ≤ w0.heap.size) (tv : Value) (news : List α) (hx : a.eval x = tv) (harg : Arg E w tv news) (hbytes : (l.length + news.length) * E.bytes ≤ 140737488355328) (h63 : l.length + news.length ≤ maxLen)
    (h : ∀ v' w', Row E w' B v' (l ++ news) → Below B w0 w' → Keep (fun k => some k = v.ownBlock) w w' → K (a.put o.dst v') w') :
    if Region.wanted o (yielded ops a.tmps) = true then Oper.wp Tryz.prog o a w K Q else E1 :=
  step_app L hgd s x ts tx hts htx ho v l hs hown tv news hx harg hbytes h63 (Nat.le_trans hB hb0.size) (fun v' w' h1 h2 h3 => h v' w' h1 (hb0.trans (hown.keepBelow h3 (Nat.le_trans hB hb0.size))) h3)
end
end Go.Proofs.YtolilbcpfdnkjaaGreat
