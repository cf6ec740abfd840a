/- sector: a device by value, and in memory; what only asks. -/
import Derived.Test.YtncbojocglcieaaRk
import Derived.Test.YtncbojocglcieaaMapsA
import Derived.Test.YtncbojocglcieaaSHB
namespace Go.Proofs.Ytncbojocglcieaa
open Go.RowKit
set_option linter.unusedSimpArgs false
/-- A sector of noughts. -/
def zsec : ByteArray := ⟨(List.replicate 64 (0 : UInt8)).toArray⟩
/-- A device, by value. -/
structure DevD where
  size : Nat
  safe : List (Int × ByteArray)
  seen : List (Int × ByteArray)
  queue : List (Int × ByteArray)
  left : Int
def DevD.ask (d : DevD) (i : Int) : Int := if d.left = 0 then 13 else if i < 0 ∨ (d.size : Int) ≤ i then 1 else 0
def DevD.sec (d : DevD) (i : Int) : ByteArray := (mget d.seen i).getD zsec
def DevD.get (d : DevD) (i : Int) : ByteArray := if d.ask i = 0 then d.sec i else ⟨#[]⟩
def DevD.putErr (d : DevD) (i : Int) (b : ByteArray) : Int := if d.ask i ≠ 0 then d.ask i else if b.size ≠ 64 then 1 else 0
def DevD.put (d : DevD) (i : Int) (b : ByteArray) : DevD := { d with left := if 0 < d.left then d.left - 1 else d.left, seen := mput d.seen i b, queue := d.queue ++ [(i, b)] }
def DevD.flush (d : DevD) : DevD := { d with safe := d.seen, queue := [] }
def DevD.cut (d : DevD) (n : Int) : DevD := if d.left = 0 then d else { d with left := max n (-1) }
/-- What is kept of a queue, made in sectors. -/
def keepers (kept : List Int) : Nat → List (Int × ByteArray) → List (Int × ByteArray) → List (Int × ByteArray)
  | _, [], s => s
  | i, p :: q, s => keepers kept (i + 1) q (if (i : Int) ∈ kept then mput s p.1 p.2 else s)
def DevD.kept (d : DevD) (kept : List Int) : List (Int × ByteArray) := keepers kept 0 d.queue d.safe
def DevD.restart (d : DevD) (kept : List Int) : DevD := { d with safe := d.kept kept, seen := d.kept kept, queue := [], left := -1 }
theorem keepers_snoc (kept : List Int) (p : Int × ByteArray) : ∀ (q : List (Int × ByteArray)) (i : Nat) (s : List (Int × ByteArray)),
    keepers kept i (q ++ [p]) s = (if ((i + q.length : Nat) : Int) ∈ kept then mput (keepers kept i q s) p.1 p.2 else keepers kept i q s) := by
  intro q
  induction q with
  | nil => intro i s; rfl
  | cons x q ih =>
    intro i s
    rw [List.cons_append, keepers, ih, keepers, show i + 1 + q.length = i + (x :: q).length from by simp; omega]
def EPen : EK (Int × ByteArray) := ⟨104, 2, 24, fun p => [.int .i64 p.1, .string p.2], fun _ => rfl, fun _ u hu => by simp at hu; rcases hu with rfl | rfl <;> rfl, by decide⟩
theorem EPen.laid : EPen.Laid := EK.laid (z := .agg #[.int .i64 0, .string ⟨#[]⟩]) (by kernel_rfl) (by decide)
/-- A device in memory. -/
structure DAt (w : World) (g a b : Nat) (qv : Value) (d : DevD) : Prop where
  blk : w.heap[g]? = some (.cells #[.int .i64 d.size, .map (some a), .map (some b), qv, .int .i64 d.left] 101 (0, 0))
  safe : IMap Value.string w a d.safe
  seen : IMap Value.string w b d.seen
  row : Row EPen w 0 qv d.queue
  nab : a ≠ b
  nag : a ≠ g
  nbg : b ≠ g
  nqa : qv.ownBlock ≠ some a
  nqb : qv.ownBlock ≠ some b
  nqg : qv.ownBlock ≠ some g
/-- Its blocks. -/
def dfoot (g a b : Nat) (qv : Value) (k : Nat) : Prop := k = g ∨ k = a ∨ k = b ∨ some k = qv.ownBlock
/-- A device in memory, its blocks F. -/
def Dev (w : World) (F : Nat → Prop) (g : Nat) (d : DevD) : Prop := ∃ a b qv, F = dfoot g a b qv ∧ DAt w g a b qv d
section
variable {w w' : World} {g a b : Nat} {qv : Value} {d : DevD} {F G : Nat → Prop}
theorem DAt.foot_lt (h : DAt w g a b qv d) {k : Nat} (hk : dfoot g a b qv k) : k < w.heap.size := by
  rcases hk with rfl | rfl | rfl | hk
  · exact m_lt h.blk
  · exact h.safe.lt
  · exact h.seen.lt
  · exact h.row.lt hk.symm
theorem DAt.keep (h : DAt w g a b qv d) (k : Keep G w w') (hd : ∀ i, dfoot g a b qv i → ¬ G i) : DAt w' g a b qv d :=
  ⟨m_keep h.blk k (hd _ (Or.inl rfl)), h.safe.keep k (hd _ (Or.inr (Or.inl rfl))), h.seen.keep k (hd _ (Or.inr (Or.inr (Or.inl rfl)))), h.row.keep k (fun i hi => hd _ (Or.inr (Or.inr (Or.inr hi.symm)))), h.nab, h.nag, h.nbg, h.nqa, h.nqb, h.nqg⟩
theorem Dev.lt (h : Dev w F g d) {k : Nat} (hk : F k) : k < w.heap.size := by obtain ⟨a, b, qv, rfl, h⟩ := h; exact h.foot_lt hk
theorem Dev.g_lt (h : Dev w F g d) : g < w.heap.size := by obtain ⟨a, b, qv, rfl, h⟩ := h; exact m_lt h.blk
theorem Dev.g_in (h : Dev w F g d) : F g := by obtain ⟨a, b, qv, rfl, h⟩ := h; exact Or.inl rfl
theorem Dev.keep (h : Dev w F g d) (k : Keep G w w') (hd : ∀ i, F i → ¬ G i) : Dev w' F g d := by obtain ⟨a, b, qv, rfl, h⟩ := h; exact ⟨a, b, qv, rfl, h.keep k hd⟩
theorem Dev.below (h : Dev w F g d) (hb : Below w.heap.size w w') : Dev w' F g d := h.keep (Keep.below hb) (fun _ hi q => absurd (h.lt hi) (Nat.not_lt.2 q))
end
theorem keepBelow {w w' : World} {F : Nat → Prop} (hb : Below w.heap.size w w') : Keep F w w' := (Keep.below hb).mono (fun _ h => Or.inr h)
/-- What a call that turns a device leaves. -/
def Stepped (w : World) (F : Nat → Prop) (g : Nat) (d : DevD) (w' : World) : Prop := ∃ F', Dev w' F' g d ∧ (∀ k, F' k → F k ∨ w.heap.size ≤ k) ∧ Keep F w w'
theorem rep_zero : (⟨(Lib.repeatL [0] 64).toArray⟩ : ByteArray) = zsec := by kernel_rfl
set_option maxHeartbeats 1000000 in
theorem size_any (w : World) (F : Nat → Prop) (g : Nat) (d : DevD) (h : Dev w F g d) :
    Calls Try.prog 30 #[.pointer (some ⟨g, 0, none⟩)] w fun e w' => e = .returned (.int .i64 d.size) ∧ w' = w := by
  obtain ⟨a, b, qv, rfl, h⟩ := h
  have c0 := (m_cells h.blk).1 0
  clear h
  go_enter Try.func30, Try.ntmps30
  go_wp2
  go_ret
  exact ⟨rfl, rfl⟩
set_option maxHeartbeats 1000000 in
theorem pending_any (w : World) (F : Nat → Prop) (g : Nat) (d : DevD) (h : Dev w F g d) :
    Calls Try.prog 21 #[.pointer (some ⟨g, 0, none⟩)] w fun e w' => e = .returned (.int .i64 d.queue.length) ∧ w' = w := by
  obtain ⟨a, b, qv, rfl, h⟩ := h
  have c0 := (m_cells h.blk).1 3
  obtain ⟨qa, qc, rfl⟩ := h.row.shape
  clear h
  go_enter Try.func21, Try.ntmps21
  go_wp2
  go_ret
  exact ⟨rfl, rfl⟩
set_option maxHeartbeats 1000000 in
theorem ask_any (w : World) (F : Nat → Prop) (g : Nat) (d : DevD) (i : Int) (h : Dev w F g d) :
    Calls Try.prog 55 #[.pointer (some ⟨g, 0, none⟩), .int .i64 i] w fun e w' => e = .returned (.int .i64 (d.ask i)) ∧ w' = w := by
  obtain ⟨a, b, qv, rfl, h⟩ := h
  have c0 : w.cell? ⟨g, 0, none⟩ = some (.int .i64 d.size) := (m_cells h.blk).1 0
  have c4 : w.cell? ⟨g, 4, none⟩ = some (.int .i64 d.left) := (m_cells h.blk).1 4
  clear h
  obtain ⟨r, hr⟩ : ∃ r, d.ask i = r := ⟨_, rfl⟩
  rw [hr]
  have Hr := Lib.hid hr
  clear hr
  by_cases h1 : d.left = 0
  · have e : r = 13 := by rw [← Hr.out, DevD.ask, if_pos h1]
    subst e
    go_enter Try.func55, Try.ntmps55
    go_wp2
    go_ret
    exact ⟨rfl, rfl⟩
  · by_cases h2 : i < 0 ∨ (d.size : Int) ≤ i
    · have e : r = 1 := by rw [← Hr.out, DevD.ask, if_neg h1, if_pos h2]
      subst e
      rcases Int.lt_or_le i 0 with q | q
      · clear h2
        go_enter Try.func55, Try.ntmps55
        go_wp2
        go_ret
        exact ⟨rfl, rfl⟩
      · have h3 : (d.size : Int) ≤ i := by omega
        clear h2
        go_enter Try.func55, Try.ntmps55
        go_wp2
        go_ret
        exact ⟨rfl, rfl⟩
    · have e : r = 0 := by rw [← Hr.out, DevD.ask, if_neg h1, if_neg h2]
      subst e
      have q1 : 0 ≤ i := by omega
      have q2 : i < (d.size : Int) := by omega
      have q3 : decide (i < 0) = false := decide_eq_false (by omega)
      clear h2
      go_enter Try.func55, Try.ntmps55
      go_wp2
      go_ret
      exact ⟨rfl, rfl⟩
end Go.Proofs.Ytncbojocglcieaa
