/- tree: a call. -/
import Derived.Test.YtolilbcpfdnkjaaUB
namespace Go.Proofs.Ytolilbcpfdnkjaa
open Go.RowKit
set_option linter.unusedSimpArgs false
set_option linter.unusedVariables false
structure Op1 where
  kind : Nat
  dir : Int
  to_ : Int
  name : ByteArray
  as_ : ByteArray
  is_ : Bool
  short : Int
@[reducible] def Op1.cells (o : Op1) : List Value := [.int .u8 o.kind, .int .i64 o.dir, .int .i64 o.to_, .string o.name, .string o.as_, .bool o.is_, .int .i64 o.short]
@[reducible] def Op1.val (o : Op1) : Value := .agg #[.int .u8 o.kind, .int .i64 o.dir, .int .i64 o.to_, .string o.name, .string o.as_, .bool o.is_, .int .i64 o.short]
def EOp : EK Op1 := ⟨32, 7, 72, Op1.cells, fun _ => rfl, fun _ u hu => by simp at hu; rcases hu with rfl | rfl | rfl | rfl | rfl | rfl | rfl <;> rfl, by decide⟩
theorem EOp.laid : EOp.Laid := EK.laid (z := .agg #[.int .u8 0, .int .i64 0, .int .i64 0, .string ⟨#[]⟩, .string ⟨#[]⟩, .bool false, .int .i64 0]) (by kernel_rfl) (by decide)
noncomputable def doT (L : List Itm) (next : Int) (o : Op1) : LR :=
  if o.kind % 3 = 0 then linkT L next o.dir o.name o.is_ o.short else if o.kind % 3 = 1 then ⟨(unlinkT L o.dir o.name o.is_).1, next, 0, (unlinkT L o.dir o.name o.is_).2⟩
  else moveT L next o.dir o.name o.to_ o.as_ o.short
theorem moveT_node (L : List Itm) (next dir : Int) (name : ByteArray) (to : Int) (as_ : ByteArray) (short : Int) : (moveT L next dir name to as_ short).node = 0 := by
  unfold moveT; split <;> rfl
theorem TInv.do_ {L : List Itm} {next : Int} (h : TInv L next) (o : Op1) : TInv (doT L next o).L (doT L next o).next := by
  unfold doT
  split
  · exact h.link _ _ _ _
  · split
    · exact h.unlink _ _ _
    · exact h.move _ _ _ _ _
theorem doT_next (L : List Itm) (next : Int) (o : Op1) : next ≤ (doT L next o).next ∧ (doT L next o).next ≤ next + 1 := by
  unfold doT linkT moveT
  repeat' split
  all_goals (constructor <;> simp <;> omega)
set_option maxHeartbeats 4000000 in
set_option maxRecDepth 100000 in
theorem tdo_any {w : World} {F : Nat → Prop} {g : Nat} {L : List Itm} {next : Int} (o : Op1) (h : TreeM w F g L next) (hi : TInv L next) (hn : next ≤ 1000000000) (hk : o.kind < 256) (h1 : o.name.size ≤ maxLen) (h2 : o.as_.size ≤ maxLen) :
    Calls Try.prog 13 #[.pointer (some ⟨g, 0, none⟩), o.val] w (LinkPost w F g (doT L next o)) := by
  have hb : ∀ b, Below w.heap.size w (w.alloc b) := fun b => (Below.refl _ w).alloc (Nat.le_refl _) b
  have HL := fun b => Lib.hid (tlink_any o.dir o.name o.is_ o.short (h.below (hb b)) hi hn h1)
  have HU := fun b => Lib.hid (tunlink_any o.dir o.name o.is_ (h.below (hb b)) hi hn)
  have HM := fun b => Lib.hid (tmove_any o.dir o.name o.to_ o.as_ o.short (h.below (hb b)) hi hn h2)
  have HB := Lib.hid hb
  clear h hi hb
  have hc : o.kind % 3 = 0 ∨ o.kind % 3 = 1 ∨ o.kind % 3 = 2 := by omega
  rcases hc with hc | hc | hc
  · have e0 : ((o.kind : Int) % 3 == 0) = true := by rw [beq_iff_eq]; omega
    have HD := Lib.hid (show doT L next o = linkT L next o.dir o.name o.is_ o.short from by unfold doT; rw [if_pos hc])
    clear hc HU HM
    go_enter Try.func13, Try.ntmps13
    go_wp2_with fail
    refine (HL _).out.mono ?_
    rintro e w1 ⟨rfl, hs⟩
    have HS := Lib.hid hs
    clear hs
    go_wp2_with fail
    go_ret2
    exact ⟨by rw [HD.out]; rfl, by rw [HD.out]; exact HS.out.before (HB.out _)⟩
  · have e0 : ((o.kind : Int) % 3 == 0) = false := by rw [beq_eq_false_iff_ne]; omega
    have e1 : ((o.kind : Int) % 3 == 1) = true := by rw [beq_iff_eq]; omega
    have HD := Lib.hid (show doT L next o = ⟨(unlinkT L o.dir o.name o.is_).1, next, 0, (unlinkT L o.dir o.name o.is_).2⟩ from by unfold doT; rw [if_neg (by omega), if_pos hc])
    clear hc HL HM
    go_enter Try.func13, Try.ntmps13
    go_wp2_with fail
    refine (HU _).out.mono ?_
    rintro e w1 ⟨rfl, hs⟩
    have HS := Lib.hid hs
    clear hs
    go_wp2_with fail
    go_ret2
    exact ⟨by rw [HD.out]; rfl, by rw [HD.out]; exact HS.out.before (HB.out _)⟩
  · have e0 : ((o.kind : Int) % 3 == 0) = false := by rw [beq_eq_false_iff_ne]; omega
    have e1 : ((o.kind : Int) % 3 == 1) = false := by rw [beq_eq_false_iff_ne]; omega
    have HD := Lib.hid (show doT L next o = moveT L next o.dir o.name o.to_ o.as_ o.short from by unfold doT; rw [if_neg (by omega), if_neg (by omega)])
    have HN := Lib.hid (moveT_node L next o.dir o.name o.to_ o.as_ o.short)
    clear hc HL HU
    go_enter Try.func13, Try.ntmps13
    go_wp2_with fail
    refine (HM _).out.mono ?_
    rintro e w1 ⟨rfl, hs⟩
    have HS := Lib.hid hs
    clear hs
    go_wp2_with fail
    go_ret2
    exact ⟨by rw [HD.out, HN.out]; rfl, by rw [HD.out]; exact HS.out.before (HB.out _)⟩
end Go.Proofs.Ytolilbcpfdnkjaa
