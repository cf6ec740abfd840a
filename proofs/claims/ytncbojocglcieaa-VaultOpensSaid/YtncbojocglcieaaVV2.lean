/- Lemmas for the laws of one seat, texts S1 S2 S3 ByK S4 S6; no condition beyond those that each states. -/
import Derived.Test.YtncbojocglcieaaVV1
import Derived.Shelf.SlMaps.Clone
import Derived.Deep.RegionWith
import Derived.BigRegion
/- sector: a device by value, and in memory; what only asks. -/
namespace Go.Proofs.Ytncbojocglcieaa
open Go.RowKit
set_option linter.unusedSimpArgs false
/-- A sector of noughts. -/
def zsec : ByteArray := ⟨(List.replicate 64 (0 : UInt8)).toArray⟩
/-- A device, by value. -/
structure DevD where
  size : Nat
  safe : List (Int × ByteArray)
  seen : List (Int × ByteArray)
  queue : List (Int × ByteArray)
  left : Int
def DevD.ask (d : DevD) (i : Int) : Int := if d.left = 0 then 13 else if i < 0 ∨ (d.size : Int) ≤ i then 1 else 0
def DevD.sec (d : DevD) (i : Int) : ByteArray := (mget d.seen i).getD zsec
def DevD.get (d : DevD) (i : Int) : ByteArray := if d.ask i = 0 then d.sec i else ⟨#[]⟩
def DevD.putErr (d : DevD) (i : Int) (b : ByteArray) : Int := if d.ask i ≠ 0 then d.ask i else if b.size ≠ 64 then 1 else 0
def DevD.put (d : DevD) (i : Int) (b : ByteArray) : DevD := { d with left := if 0 < d.left then d.left - 1 else d.left, seen := mput d.seen i b, queue := d.queue ++ [(i, b)] }
def DevD.flush (d : DevD) : DevD := { d with safe := d.seen, queue := [] }
def DevD.cut (d : DevD) (n : Int) : DevD := if d.left = 0 then d else { d with left := max n (-1) }
/-- What is kept of a queue, made in sectors. -/
def keepers (kept : List Int) : Nat → List (Int × ByteArray) → List (Int × ByteArray) → List (Int × ByteArray)
  | _, [], s => s
  | i, p :: q, s => keepers kept (i + 1) q (if (i : Int) ∈ kept then mput s p.1 p.2 else s)
def DevD.kept (d : DevD) (kept : List Int) : List (Int × ByteArray) := keepers kept 0 d.queue d.safe
def DevD.restart (d : DevD) (kept : List Int) : DevD := { d with safe := d.kept kept, seen := d.kept kept, queue := [], left := -1 }
theorem keepers_snoc (kept : List Int) (p : Int × ByteArray) : ∀ (q : List (Int × ByteArray)) (i : Nat) (s : List (Int × ByteArray)),
    keepers kept i (q ++ [p]) s = (if ((i + q.length : Nat) : Int) ∈ kept then mput (keepers kept i q s) p.1 p.2 else keepers kept i q s) := by
  intro q
  induction q with
  | nil => intro i s; rfl
  | cons x q ih =>
    intro i s
    rw [List.cons_append, keepers, ih, keepers, show i + 1 + q.length = i + (x :: q).length from by simp; omega]
def EPen : EK (Int × ByteArray) := ⟨104, 2, 24, fun p => [.int .i64 p.1, .string p.2], fun _ => rfl, fun _ u hu => by simp at hu; rcases hu with rfl | rfl <;> rfl, by decide⟩
theorem EPen.laid : EPen.Laid := EK.laid (z := .agg #[.int .i64 0, .string ⟨#[]⟩]) (by kernel_rfl) (by decide)
/-- A device in memory. -/
structure DAt (w : World) (g a b : Nat) (qv : Value) (d : DevD) : Prop where
  blk : w.heap[g]? = some (.cells #[.int .i64 d.size, .map (some a), .map (some b), qv, .int .i64 d.left] 101 (0, 0))
  safe : IMap Value.string w a d.safe
  seen : IMap Value.string w b d.seen
  row : Row EPen w 0 qv d.queue
  nab : a ≠ b
  nag : a ≠ g
  nbg : b ≠ g
  nqa : qv.ownBlock ≠ some a
  nqb : qv.ownBlock ≠ some b
  nqg : qv.ownBlock ≠ some g
/-- Its blocks. -/
def dfoot (g a b : Nat) (qv : Value) (k : Nat) : Prop := k = g ∨ k = a ∨ k = b ∨ some k = qv.ownBlock
/-- A device in memory, its blocks F. -/
def Dev (w : World) (F : Nat → Prop) (g : Nat) (d : DevD) : Prop := ∃ a b qv, F = dfoot g a b qv ∧ DAt w g a b qv d
section
variable {w w' : World} {g a b : Nat} {qv : Value} {d : DevD} {F G : Nat → Prop}
theorem DAt.foot_lt (h : DAt w g a b qv d) {k : Nat} (hk : dfoot g a b qv k) : k < w.heap.size := by
  rcases hk with rfl | rfl | rfl | hk
  · exact m_lt h.blk
  · exact h.safe.lt
  · exact h.seen.lt
  · exact h.row.lt hk.symm
theorem DAt.keep (h : DAt w g a b qv d) (k : Keep G w w') (hd : ∀ i, dfoot g a b qv i → ¬ G i) : DAt w' g a b qv d :=
  ⟨m_keep h.blk k (hd _ (Or.inl rfl)), h.safe.keep k (hd _ (Or.inr (Or.inl rfl))), h.seen.keep k (hd _ (Or.inr (Or.inr (Or.inl rfl)))), h.row.keep k (fun i hi => hd _ (Or.inr (Or.inr (Or.inr hi.symm)))), h.nab, h.nag, h.nbg, h.nqa, h.nqb, h.nqg⟩
theorem Dev.lt (h : Dev w F g d) {k : Nat} (hk : F k) : k < w.heap.size := by obtain ⟨a, b, qv, rfl, h⟩ := h; exact h.foot_lt hk
theorem Dev.g_lt (h : Dev w F g d) : g < w.heap.size := by obtain ⟨a, b, qv, rfl, h⟩ := h; exact m_lt h.blk
theorem Dev.g_in (h : Dev w F g d) : F g := by obtain ⟨a, b, qv, rfl, h⟩ := h; exact Or.inl rfl
theorem Dev.keep (h : Dev w F g d) (k : Keep G w w') (hd : ∀ i, F i → ¬ G i) : Dev w' F g d := by obtain ⟨a, b, qv, rfl, h⟩ := h; exact ⟨a, b, qv, rfl, h.keep k hd⟩
theorem Dev.below (h : Dev w F g d) (hb : Below w.heap.size w w') : Dev w' F g d := h.keep (Keep.below hb) (fun _ hi q => absurd (h.lt hi) (Nat.not_lt.2 q))
end
theorem keepBelow {w w' : World} {F : Nat → Prop} (hb : Below w.heap.size w w') : Keep F w w' := (Keep.below hb).mono (fun _ h => Or.inr h)
/-- What a call that turns a device leaves. -/
def Stepped (w : World) (F : Nat → Prop) (g : Nat) (d : DevD) (w' : World) : Prop := ∃ F', Dev w' F' g d ∧ (∀ k, F' k → F k ∨ w.heap.size ≤ k) ∧ Keep F w w'
theorem rep_zero : (⟨(Lib.repeatL [0] 64).toArray⟩ : ByteArray) = zsec := by kernel_rfl
set_option maxHeartbeats 1000000 in
theorem size_any (w : World) (F : Nat → Prop) (g : Nat) (d : DevD) (h : Dev w F g d) :
    Calls Try.prog 30 #[.pointer (some ⟨g, 0, none⟩)] w fun e w' => e = .returned (.int .i64 d.size) ∧ w' = w := by
  obtain ⟨a, b, qv, rfl, h⟩ := h
  have c0 := (m_cells h.blk).1 0
  clear h
  go_enter Try.func30, Try.ntmps30
  go_wp2
  go_ret
  exact ⟨rfl, rfl⟩
set_option maxHeartbeats 1000000 in
theorem pending_any (w : World) (F : Nat → Prop) (g : Nat) (d : DevD) (h : Dev w F g d) :
    Calls Try.prog 21 #[.pointer (some ⟨g, 0, none⟩)] w fun e w' => e = .returned (.int .i64 d.queue.length) ∧ w' = w := by
  obtain ⟨a, b, qv, rfl, h⟩ := h
  have c0 := (m_cells h.blk).1 3
  obtain ⟨qa, qc, rfl⟩ := h.row.shape
  clear h
  go_enter Try.func21, Try.ntmps21
  go_wp2
  go_ret
  exact ⟨rfl, rfl⟩
set_option maxHeartbeats 1000000 in
theorem ask_any (w : World) (F : Nat → Prop) (g : Nat) (d : DevD) (i : Int) (h : Dev w F g d) :
    Calls Try.prog 55 #[.pointer (some ⟨g, 0, none⟩), .int .i64 i] w fun e w' => e = .returned (.int .i64 (d.ask i)) ∧ w' = w := by
  obtain ⟨a, b, qv, rfl, h⟩ := h
  have c0 : w.cell? ⟨g, 0, none⟩ = some (.int .i64 d.size) := (m_cells h.blk).1 0
  have c4 : w.cell? ⟨g, 4, none⟩ = some (.int .i64 d.left) := (m_cells h.blk).1 4
  clear h
  obtain ⟨r, hr⟩ : ∃ r, d.ask i = r := ⟨_, rfl⟩
  rw [hr]
  have Hr := Lib.hid hr
  clear hr
  by_cases h1 : d.left = 0
  · have e : r = 13 := by rw [← Hr.out, DevD.ask, if_pos h1]
    subst e
    go_enter Try.func55, Try.ntmps55
    go_wp2
    go_ret
    exact ⟨rfl, rfl⟩
  · by_cases h2 : i < 0 ∨ (d.size : Int) ≤ i
    · have e : r = 1 := by rw [← Hr.out, DevD.ask, if_neg h1, if_pos h2]
      subst e
      rcases Int.lt_or_le i 0 with q | q
      · clear h2
        go_enter Try.func55, Try.ntmps55
        go_wp2
        go_ret
        exact ⟨rfl, rfl⟩
      · have h3 : (d.size : Int) ≤ i := by omega
        clear h2
        go_enter Try.func55, Try.ntmps55
        go_wp2
        go_ret
        exact ⟨rfl, rfl⟩
    · have e : r = 0 := by rw [← Hr.out, DevD.ask, if_neg h1, if_neg h2]
      subst e
      have q1 : 0 ≤ i := by omega
      have q2 : i < (d.size : Int) := by omega
      have q3 : decide (i < 0) = false := decide_eq_false (by omega)
      clear h2
      go_enter Try.func55, Try.ntmps55
      go_wp2
      go_ret
      exact ⟨rfl, rfl⟩
end Go.Proofs.Ytncbojocglcieaa

/- sector: Get, Put, Cut, Flush, New. -/
namespace Go.Proofs.Ytncbojocglcieaa
open Go.RowKit
set_option linter.unusedSimpArgs false
set_option linter.unusedVariables false
theorem zero_str (w : World) : (zeroValue 9).run Try.prog w = .ok (.string ⟨#[]⟩) w := by kernel_rfl
set_option maxHeartbeats 1000000 in
theorem get_any (w : World) (F : Nat → Prop) (g : Nat) (d : DevD) (i : Int) (h : Dev w F g d) :
    Calls Try.prog 23 #[.pointer (some ⟨g, 0, none⟩), .int .i64 i] w fun e w' => e = .returned (.tuple #[.string (d.get i), .int .i64 (d.ask i)]) ∧ Below w.heap.size w w' := by
  have H := Lib.hid h
  obtain ⟨a, b, qv, rfl, h⟩ := h
  have c2 : w.cell? ⟨g, 2, none⟩ = some (.map (some b)) := (m_cells h.blk).1 2
  have hlk := h.seen.lookup (P := Try.prog) Try.underlying98 Try.underlying3 zero_str i true
  clear h
  obtain ⟨r, hr⟩ : ∃ r, d.ask i = r := ⟨_, rfl⟩
  have Hr := Lib.hid hr
  by_cases h0 : r = 0
  · subst h0
    have hg : d.get i = d.sec i := by unfold DevD.get; rw [if_pos hr]
    rw [hg]
    rw [hr]
    cases hm : mget d.seen i with
    | none =>
      rw [hm] at hlk
      have hs : d.sec i = zsec := by unfold DevD.sec; rw [hm]; rfl
      rw [hs]
      simp only [if_true] at hlk
      clear hr hg hm hs
      go_enter Try.func23, Try.ntmps23
      go_wp2_with fail
      refine (ask_any _ _ _ _ _ H.out).mono ?_
      rintro e w1 ⟨rfl, rfl⟩
      rw [Hr.out]
      go_wp2_with fail
      refine (Try.strings_Repeat ⟨#[0]⟩ 64 _ (by decide) (by decide)).mono ?_
      rintro e w2 ⟨rfl, hb2⟩
      go_wp2_with fail
      go_ret2
      exact ⟨by rw [← rep_zero]; rfl, hb2⟩
    | some x =>
      rw [hm] at hlk
      have hs : d.sec i = x := by unfold DevD.sec; rw [hm]; rfl
      rw [hs]
      simp only [if_true] at hlk
      clear hr hg hm hs
      go_enter Try.func23, Try.ntmps23
      go_wp2_with fail
      refine (ask_any _ _ _ _ _ H.out).mono ?_
      rintro e w1 ⟨rfl, rfl⟩
      rw [Hr.out]
      go_wp2_with fail
      go_ret2
      exact ⟨rfl, Below.refl _ _⟩
  · have hg : d.get i = ⟨#[]⟩ := by unfold DevD.get; rw [if_neg (by rw [hr]; exact h0)]
    rw [hg, hr]
    have n1 : (r == 0) = false := by simpa using h0
    have n2 : (r != 0) = true := by simpa using h0
    clear hr hg h0 hlk
    go_enter Try.func23, Try.ntmps23
    go_wp2_with fail
    refine (ask_any _ _ _ _ _ H.out).mono ?_
    rintro e w1 ⟨rfl, rfl⟩
    rw [Hr.out]
    go_wp2_with fail
    go_ret2
    exact ⟨rfl, Below.refl _ _⟩
/-- A map's value has turned, or its queue; the head's cells as told. -/
theorem Stepped.of {w w' : World} {g a b a' b' : Nat} {qv qv' : Value} {d' : DevD} (h : DAt w' g a' b' qv' d') (hk : Keep (dfoot g a b qv) w w') (h1 : a' = a ∨ w.heap.size ≤ a') (h2 : b' = b ∨ w.heap.size ≤ b') (h3 : ∀ k, qv'.ownBlock = some k → qv.ownBlock = some k ∨ w.heap.size ≤ k) : Stepped w (dfoot g a b qv) g d' w' := by
  refine ⟨_, ⟨a', b', qv', rfl, h⟩, fun k q => ?_, hk⟩
  rcases q with q | q | q | q
  · exact Or.inl (Or.inl q)
  · subst q; exact h1.imp (fun e => Or.inr (Or.inl e)) id
  · subst q; exact h2.imp (fun e => Or.inr (Or.inr (Or.inl e))) id
  · exact (h3 k q.symm).imp (fun e => Or.inr (Or.inr (Or.inr e.symm))) id
set_option maxHeartbeats 1000000 in
theorem cut_any (w : World) (F : Nat → Prop) (g : Nat) (d : DevD) (n : Int) (h : Dev w F g d) :
    Calls Try.prog 28 #[.pointer (some ⟨g, 0, none⟩), .int .i64 n] w fun e w' => e = .returned (.tuple #[]) ∧ Stepped w F g (d.cut n) w' := by
  obtain ⟨a, b, qv, rfl, h⟩ := h
  have H := Lib.hid h
  obtain ⟨c, f⟩ := m_cells h.blk
  have c4 : w.cell? ⟨g, 4, none⟩ = some (.int .i64 d.left) := c 4
  have f4 := f 4
  clear h c f
  by_cases h0 : d.left = 0
  · have e : d.cut n = d := by unfold DevD.cut; rw [if_pos h0]
    rw [e]
    clear e
    go_enter Try.func28, Try.ntmps28
    go_wp2
    go_end0
    exact ⟨rfl, Stepped.of H.out (Keep.refl _ _) (Or.inl rfl) (Or.inl rfl) (fun _ q => Or.inl q)⟩
  · have e : d.cut n = { d with left := max n (-1) } := by unfold DevD.cut; rw [if_neg h0]
    have n2 : (d.left != 0) = true := by simpa using h0
    rw [e]
    have k4 : ∀ v, Keep (fun k => k = g) w (w.setCell ⟨g, 4, none⟩ v) := fun v => (Keep.refl _ w).set g 4 v (Or.inl rfl)
    clear e
    go_enter Try.func28, Try.ntmps28
    go_wp2
    go_end0
    exact ⟨rfl, Stepped.of ⟨m_set H.out.blk 4 _, H.out.safe.keep (k4 _) H.out.nag, H.out.seen.keep (k4 _) H.out.nbg, H.out.row.keep (k4 _) (fun i hi q => H.out.nqg (by rw [hi, q])), H.out.nab, H.out.nag, H.out.nbg, H.out.nqa, H.out.nqb, H.out.nqg⟩ ((k4 _).mono (fun i q => Or.inl (Or.inl q))) (Or.inl rfl) (Or.inl rfl) (fun _ q => Or.inl q)⟩
theorem DAt.head {w : World} {g a b : Nat} {qv : Value} {d : DevD} (h : DAt w g a b qv d) (v : Int) : DAt (w.setCell ⟨g, 4, none⟩ (.int .i64 v)) g a b qv { d with left := v } := by
  have k4 : Keep (fun k => k = g) w (w.setCell ⟨g, 4, none⟩ (.int .i64 v)) := (Keep.refl _ w).set g 4 _ (Or.inl rfl)
  exact ⟨m_set h.blk 4 _, h.safe.keep k4 h.nag, h.seen.keep k4 h.nbg, h.row.keep k4 (fun i hi q => h.nqg (by rw [hi, q])), h.nab, h.nag, h.nbg, h.nqa, h.nqb, h.nqg⟩
theorem DAt.seen_turned {w w' : World} {g a b : Nat} {qv : Value} {d : DevD} {s : List (Int × ByteArray)} (h : DAt w g a b qv d) (hm : IMap Value.string w' b s) (k : Keep (fun i => i = b) w w') : DAt w' g a b qv { d with seen := s } :=
  ⟨m_keep h.blk k h.nbg.symm, h.safe.keep k h.nab, hm, h.row.keep k (fun i hi q => h.nqb (by rw [hi, q])), h.nab, h.nag, h.nbg, h.nqa, h.nqb, h.nqg⟩
theorem Stepped.refl {w : World} {F : Nat → Prop} {g : Nat} {d : DevD} (h : Dev w F g d) : Stepped w F g d w := ⟨F, h, fun _ q => Or.inl q, Keep.refl _ _⟩
/-- The queue is another. -/
theorem DAt.queued {w w1 : World} {g a b : Nat} {qv qv' : Value} {d : DevD} {q : List (Int × ByteArray)} {G : Nat → Prop} (h : DAt w g a b qv d) (hr : Row EPen w1 0 qv' q) (hk : Keep G w w1) (hg : ¬ G g) (ha : ¬ G a) (hb : ¬ G b) (hn : ∀ k, qv'.ownBlock = some k → qv.ownBlock = some k ∨ w.heap.size ≤ k) :
    DAt (w1.setCell ⟨g, 3, none⟩ qv') g a b qv' { d with queue := q } := by
  have hgl := m_lt h.blk
  have hal := h.safe.lt
  have hbl := h.seen.lt
  have k3 : Keep (fun k => k = g) w1 (w1.setCell ⟨g, 3, none⟩ qv') := (Keep.refl _ w1).set g 3 _ (Or.inl rfl)
  have nqg : qv'.ownBlock ≠ some g := fun e => (hn g e).elim h.nqg (fun q => absurd hgl (Nat.not_lt.2 q))
  refine ⟨?_, (h.safe.keep hk ha).keep k3 h.nag, (h.seen.keep hk hb).keep k3 h.nbg, hr.keep k3 (fun i hi e => nqg (by rw [hi, e])), h.nab, h.nag, h.nbg, fun e => (hn a e).elim h.nqa (fun q => absurd hal (Nat.not_lt.2 q)), fun e => (hn b e).elim h.nqb (fun q => absurd hbl (Nat.not_lt.2 q)), nqg⟩
  have := m_set (m_keep h.blk hk hg) 3 qv'
  exact this
set_option maxRecDepth 100000 in
set_option maxHeartbeats 1000000 in
theorem put_any (w : World) (F : Nat → Prop) (g : Nat) (d : DevD) (i : Int) (x : ByteArray) (h : Dev w F g d) (hq : d.queue.length ≤ 1000000) (hleft : d.left ≤ 9223372036854775807) :
    Calls Try.prog 18 #[.pointer (some ⟨g, 0, none⟩), .int .i64 i, .string x] w fun e w' => e = .returned (.int .i64 (d.putErr i x)) ∧ Stepped w F g (if d.putErr i x = 0 then d.put i x else d) w' := by
  have HD := Lib.hid h
  obtain ⟨r, hr⟩ : ∃ r, d.putErr i x = r := ⟨_, rfl⟩
  rw [hr]
  obtain ⟨r1, hr1⟩ : ∃ r, d.ask i = r := ⟨_, rfl⟩
  have Hr1 := Lib.hid hr1
  unfold DevD.putErr at hr
  rw [hr1] at hr
  clear hr1
  by_cases h0 : r1 = 0
  · subst h0
    by_cases h1 : x.size = 64
    · rw [if_neg (by simp), if_neg (by simp [h1])] at hr
      subst hr
      rw [if_pos rfl]
      obtain ⟨a, b, qv, rfl, h⟩ := h
      obtain ⟨c, f⟩ := m_cells h.blk
      have c2 : w.cell? ⟨g, 2, none⟩ = some (.map (some b)) := c 2
      have c3 : w.cell? ⟨g, 3, none⟩ = some qv := c 3
      have c4 : w.cell? ⟨g, 4, none⟩ = some (.int .i64 d.left) := c 4
      have f4 := f 4
      have H := Lib.hid h
      have n1 : ((x.size : Int) != 64) = false := by rw [h1]; rfl
      clear h c f
      by_cases h2 : 0 < d.left
      · skip
        go_enter Try.func18, Try.ntmps18
        go_wp2_with fail
        refine (ask_any _ _ _ _ _ HD.out).mono ?_
        rintro e w1 ⟨rfl, rfl⟩
        rw [Hr1.out]
        go_wp2_with (first
          | (refine map_put (enc := Value.string) (tk := 3) (te := 9) rfl _ _ _ rfl Try.underlying98 Try.underlying3 i x rfl rfl rfl (H.out.head (d.left - 1)).seen ?_; intro w2 hm2 k2; have h2d := (H.out.head (d.left - 1)).seen_turned hm2 k2; have c3 : w2.cell? ⟨g, 3, none⟩ = some qv := (m_cells h2d.blk).1 3)
          | (refine app_row EPen.laid rfl _ _ 99 99 Try.underlying99 Try.underlying99 rfl qv d.queue rfl (h2d.row.alloc _) _ [(i, x)] rfl ?c1 ?c2 ?c3 (Nat.zero_le _) ?_
             case c1 => exact Arg.blk (m_alloc _ _ _ rfl) [(i, x)] rfl 1
             case c2 => show (d.queue.length + 1) * 24 ≤ _; omega
             case c3 => show d.queue.length + 1 ≤ maxLen; unfold maxLen; omega
             intro v3 w3 hr3 hv3 k3
             obtain ⟨va, vc, rfl⟩ := hr3.shape
             have hb3 := m_cells (m_keep (m_old (.cells #[.int .i64 i, .string x] 104) h2d.blk) k3 (fun e => h2d.nqg e.symm))
             have c33 : w3.cell? ⟨g, 3, none⟩ = some qv := hb3.1 3
             have f33 := hb3.2 3
             clear hb3))
        go_ret
        have ka : Keep (fun k => some k = qv.ownBlock) w2 w3 := ((Keep.refl _ w2).alloc _).trans k3
        have hq2 := h2d.queued hr3 ka (fun e => h2d.nqg e.symm) (fun e => h2d.nqa e.symm) (fun e => h2d.nqb e.symm) (fun k q => (hv3 k q).imp id (fun e => by simp at e; omega))
        have hk2 : Keep (dfoot g a b qv) (w1.setCell ⟨g, 4, none⟩ (.int .i64 (d.left - 1))) w2 := k2.mono (fun i hi => Or.inl (Or.inr (Or.inr (Or.inl hi))))
        have hk3 : Keep (dfoot g a b qv) w2 w3 := ka.mono (fun i hi => Or.inl (Or.inr (Or.inr (Or.inr hi))))
        have hp : d.put i x = { d with left := d.left - 1, seen := mput d.seen i x, queue := d.queue ++ [(i, x)] } := by unfold DevD.put; rw [if_pos h2]
        rw [List.length_append, List.length_singleton] at hq2
        simp only [List.length_append, List.length_singleton] at hv3
        refine ⟨rfl, ?_⟩
        rw [hp]
        refine Stepped.of hq2 ?_ (Or.inl rfl) (Or.inl rfl) (fun k q => (hv3 k q).imp id (fun e => by have := k2.size; simp at e this; omega))
        exact ((((Keep.refl (dfoot g a b qv) w1).set g 4 _ (Or.inl (Or.inl rfl))).trans hk2).trans (hk3)).set g 3 _ (Or.inl (Or.inl rfl))
      · skip
        go_enter Try.func18, Try.ntmps18
        go_wp2_with fail
        refine (ask_any _ _ _ _ _ HD.out).mono ?_
        rintro e w1 ⟨rfl, rfl⟩
        rw [Hr1.out]
        go_wp2_with (first
          | (refine map_put (enc := Value.string) (tk := 3) (te := 9) rfl _ _ _ rfl Try.underlying98 Try.underlying3 i x rfl rfl rfl H.out.seen ?_; intro w2 hm2 k2; have h2d := H.out.seen_turned hm2 k2; have c3 : w2.cell? ⟨g, 3, none⟩ = some qv := (m_cells h2d.blk).1 3)
          | (refine app_row EPen.laid rfl _ _ 99 99 Try.underlying99 Try.underlying99 rfl qv d.queue rfl (h2d.row.alloc _) _ [(i, x)] rfl ?c1 ?c2 ?c3 (Nat.zero_le _) ?_
             case c1 => exact Arg.blk (m_alloc _ _ _ rfl) [(i, x)] rfl 1
             case c2 => show (d.queue.length + 1) * 24 ≤ _; omega
             case c3 => show d.queue.length + 1 ≤ maxLen; unfold maxLen; omega
             intro v3 w3 hr3 hv3 k3
             obtain ⟨va, vc, rfl⟩ := hr3.shape
             have hb3 := m_cells (m_keep (m_old (.cells #[.int .i64 i, .string x] 104) h2d.blk) k3 (fun e => h2d.nqg e.symm))
             have c33 : w3.cell? ⟨g, 3, none⟩ = some qv := hb3.1 3
             have f33 := hb3.2 3
             clear hb3))
        go_ret
        have ka : Keep (fun k => some k = qv.ownBlock) w2 w3 := ((Keep.refl _ w2).alloc _).trans k3
        have hq2 := h2d.queued hr3 ka (fun e => h2d.nqg e.symm) (fun e => h2d.nqa e.symm) (fun e => h2d.nqb e.symm) (fun k q => (hv3 k q).imp id (fun e => by simp at e; omega))
        have hk2 : Keep (dfoot g a b qv) w1 w2 := k2.mono (fun i hi => Or.inl (Or.inr (Or.inr (Or.inl hi))))
        have hk3 : Keep (dfoot g a b qv) w2 w3 := ka.mono (fun i hi => Or.inl (Or.inr (Or.inr (Or.inr hi))))
        have hp : d.put i x = { d with left := d.left, seen := mput d.seen i x, queue := d.queue ++ [(i, x)] } := by unfold DevD.put; rw [if_neg (by omega)]
        rw [List.length_append, List.length_singleton] at hq2
        simp only [List.length_append, List.length_singleton] at hv3
        refine ⟨rfl, ?_⟩
        rw [hp]
        refine Stepped.of hq2 ?_ (Or.inl rfl) (Or.inl rfl) (fun k q => (hv3 k q).imp id (fun e => by have := k2.size; simp at e this; omega))
        exact (hk2.trans (hk3)).set g 3 _ (Or.inl (Or.inl rfl))
    · rw [if_neg (by simp), if_pos (by simpa using h1)] at hr
      subst hr
      rw [if_neg (by decide)]
      have n1 : ((x.size : Int) != 64) = true := by simp; omega
      clear h
      go_enter Try.func18, Try.ntmps18
      go_wp2_with fail
      refine (ask_any _ _ _ _ _ HD.out).mono ?_
      rintro e w1 ⟨rfl, rfl⟩
      rw [Hr1.out]
      go_wp2_with fail
      go_ret
      exact ⟨rfl, Stepped.refl HD.out⟩
  · rw [if_pos h0] at hr
    subst hr
    rw [if_neg h0]
    have n1 : (r1 == 0) = false := by simpa using h0
    have n2 : (r1 != 0) = true := by simpa using h0
    clear h h0
    go_enter Try.func18, Try.ntmps18
    go_wp2_with fail
    refine (ask_any _ _ _ _ _ HD.out).mono ?_
    rintro e w1 ⟨rfl, rfl⟩
    rw [Hr1.out]
    go_wp2_with fail
    go_ret
    exact ⟨rfl, Stepped.refl HD.out⟩
end Go.Proofs.Ytncbojocglcieaa

/- sector: New, Flush, Restart. -/
namespace Go.Proofs.Ytncbojocglcieaa
open Go.RowKit
set_option linter.unusedSimpArgs false
set_option linter.unusedVariables false
theorem contains_any (w : World) (kv : Value) (l : List Int) (x : Int) (h : Arg EInt w kv l) (hl : l.length ≤ maxLen) :
    Calls Try.prog 57 #[kv, .int .i64 x] w fun e w' => e = .returned (.bool (decide (x ∈ l))) ∧ w' = w := by
  by_cases h0 : l = []
  · subst h0
    obtain ⟨a, c, rfl⟩ := h.shape
    refine (Try.slices_Contains_int_empty a c x w).mono ?_
    rintro e w1 ⟨rfl, rfl⟩
    exact ⟨by simp, rfl⟩
  · obtain ⟨b, off, cap, rfl, hc⟩ := h.cells h0
    unfold maxLen at hl
    refine (Try.slices_Contains_int b off l.length cap l x w (Nat.le_refl _) hl (fun j hj => ?_)).mono ?_
    · have := hc j (l.getD j 0) (by simp [hj]) 0 (by decide)
      simpa [EInt] using this
    · rintro e w1 ⟨rfl, rfl⟩
      exact ⟨by rw [List.take_of_length_le (Nat.le_refl _)]; simp, rfl⟩
set_option maxRecDepth 100000 in
set_option maxHeartbeats 1000000 in
theorem mclone_str (b : Nat) (es : Array MapEntry) (clock : Nat) (w : World) (hb : w.heap[b]? = some (.map es clock)) :
    Calls Try.prog 56 #[.map (some b)] w fun e w' => e = .returned (.map (some w.heap.size)) ∧ w' = w.alloc (.map es clock) := by
  have hq := fun w => run_eql_map_nil_sl (P := Try.prog) w 98 _ _ (some b) Try.underlying98
  go_enter Try.func56, Try.ntmps56
  go_wp2
  rw [run_callFunc_extern Try.func77 (by kernel_rfl) (by kernel_rfl) (by kernel_rfl) (e := Extern.MapsClone.clone) (by kernel_rfl), run_maps_clone_sl w 98 hb]
  simp only [Result.andThen]
  rw [Oper.upon_value]
  go_wp2
  rw [run_typeAssert_map_sl _ 98 20 _ _ _ Try.underlying98]
  simp only [Result.andThen]
  rw [Oper.upon_value]
  go_wp2
  go_ret
  exact ⟨rfl, rfl⟩
theorem IMap.copy {V : Type} {enc : V → Value} {w : World} {b : Nat} {L : List (Int × V)} (h : IMap enc w b L) : ∃ es clock, w.heap[b]? = some (.map es clock) ∧ ∀ (w' : World) (k : Nat), w'.heap[k]? = some (.map es clock) → IMap enc w' k L := by
  obtain ⟨es, clock, hb, r⟩ := h
  exact ⟨es, clock, hb, fun w' k q => ⟨es, clock, q, r⟩⟩
theorem IMap.mk0 {V : Type} {enc : V → Value} {w : World} {b : Nat} (h : w.heap[b]? = some (.map #[] 0)) : IMap enc w b [] := ⟨#[], 0, h, rfl, by simp [mkeys]⟩
theorem DAt.below {w w' : World} {g a b : Nat} {qv : Value} {d : DevD} (h : DAt w g a b qv d) (hb : Below w.heap.size w w') : DAt w' g a b qv d := h.keep (Keep.below hb) (fun _ hi q => absurd (h.foot_lt hi) (Nat.not_lt.2 q))
theorem DAt.safe_turned {w w' : World} {g a b : Nat} {qv : Value} {d : DevD} {s : List (Int × ByteArray)} (h : DAt w g a b qv d) (hm : IMap Value.string w' a s) (k : Keep (fun i => i = a) w w') : DAt w' g a b qv { d with safe := s } :=
  ⟨m_keep h.blk k h.nag.symm, hm, h.seen.keep k h.nab.symm, h.row.keep k (fun i hi q => h.nqa (by rw [hi, q])), h.nab, h.nag, h.nbg, h.nqa, h.nqb, h.nqg⟩
def NewDev (w : World) (n : Nat) (e : Ending) (w' : World) : Prop :=
  ∃ (F : Nat → Prop) (g : Nat), e = .returned (.pointer (some ⟨g, 0, none⟩)) ∧ Dev w' F g ⟨n, [], [], [], -1⟩ ∧ (∀ k, F k → w.heap.size ≤ k) ∧ Below w.heap.size w w'
set_option maxHeartbeats 1000000 in
theorem newdev_any (n : Int) (w : World) : Calls Try.prog 17 #[.int .i64 n] w (NewDev w (min (max n 0) 4096).toNat) := by
  obtain ⟨m, hm⟩ : ∃ m : Nat, (min (max n 0) 4096) = (m : Int) := ⟨(min (max n 0) 4096).toNat, by omega⟩
  have hm2 : m ≤ 4096 := by omega
  rw [hm, Int.toNat_natCast]
  have hmm := @run_makeMap Try.prog
  have key : ∀ m : Nat, Dev ((((w.alloc (.map #[] 0)).alloc (.map #[] 0)).alloc (.cells #[.int .i64 m, .map (some w.heap.size), .map (some (w.heap.size + 1)), .slice none 0 0, .int .i64 (-1)] 101 (0, 0)))) (dfoot (w.heap.size + 2) w.heap.size (w.heap.size + 1) (.slice none 0 0)) (w.heap.size + 2) ⟨m, [], [], [], -1⟩ := fun m =>
    ⟨_, _, _, rfl, m_alloc _ _ _ (by simp), IMap.mk0 (m_old _ (m_old _ (m_alloc _ _ _ rfl))), IMap.mk0 (m_old _ (m_alloc _ _ _ (by simp))), Row.nil _ _ _, by omega, by omega, by omega, by simp [Value.ownBlock], by simp [Value.ownBlock], by simp [Value.ownBlock]⟩
  have hge : ∀ k, dfoot (w.heap.size + 2) w.heap.size (w.heap.size + 1) (.slice none 0 0) k → w.heap.size ≤ k := fun k q => by
    rcases q with q | q | q | q
    · omega
    · omega
    · omega
    · simp [Value.ownBlock] at q
  have hbel : ∀ o1 o2 o3, Below w.heap.size w (((w.alloc o1).alloc o2).alloc o3) := fun o1 o2 o3 => (((Below.refl _ _).alloc (Nat.le_refl _) _).alloc (by simp) _).alloc (by simp; omega) _
  have K1 := Lib.hid key
  have K2 := Lib.hid hge
  have K3 := Lib.hid hbel
  clear key hge hbel
  have HM := Lib.hid hm
  clear hm
  go_enter Try.func17, Try.ntmps17
  go_wp2
  go_ret
  refine ⟨_, _, rfl, ?_, K2.out, K3.out _ _ _⟩
  have := K1.out m
  rw [← HM.out] at this
  exact this
set_option maxHeartbeats 1000000 in
theorem flush_any (w : World) (F : Nat → Prop) (g : Nat) (d : DevD) (h : Dev w F g d) :
    Calls Try.prog 20 #[.pointer (some ⟨g, 0, none⟩)] w fun e w' => e = .returned (.int .i64 (if d.left = 0 then 13 else 0)) ∧ Stepped w F g (if d.left = 0 then d else d.flush) w' := by
  have HD := Lib.hid h
  obtain ⟨a, b, qv, rfl, h⟩ := h
  obtain ⟨c, f⟩ := m_cells h.blk
  have c2 : w.cell? ⟨g, 2, none⟩ = some (.map (some b)) := c 2
  have c4 : w.cell? ⟨g, 4, none⟩ = some (.int .i64 d.left) := c 4
  have H := Lib.hid h
  have hlt := m_lt h.blk
  by_cases h0 : d.left = 0
  · rw [if_pos h0, if_pos h0]
    clear c f h
    go_enter Try.func20, Try.ntmps20
    go_wp2
    go_ret
    exact ⟨rfl, Stepped.refl HD.out⟩
  · rw [if_neg h0, if_neg h0]
    have n2 : (d.left == 0) = false := by simpa using h0
    obtain ⟨es, clock, hmb, hcopy⟩ := h.seen.copy
    have Hcopy := Lib.hid hcopy
    clear c f h h0 hcopy
    go_enter Try.func20, Try.ntmps20
    go_wp2_with fail
    refine (mclone_str b es clock _ hmb).mono ?_
    rintro e w1 ⟨rfl, hw1⟩
    have hb1 : Below w.heap.size w w1 := by rw [hw1]; exact (Below.refl _ _).alloc (Nat.le_refl _) _
    have hm1 : w1.heap[w.heap.size]? = some (.map es clock) := by rw [hw1]; exact m_alloc _ _ _ rfl
    have hn : w.heap.size < w1.heap.size := m_lt hm1
    have H1 := Lib.hid (H.out.below hb1)
    have c1 : w1.cell? ⟨g, 1, none⟩ = some (.map (some a)) := (m_cells H1.out.blk).1 1
    have c3 : w1.cell? ⟨g, 3, none⟩ = some qv := (m_cells H1.out.blk).1 3
    have f1 := (m_cells H1.out.blk).2 1
    have f3 := (m_cells H1.out.blk).2 3
    clear hw1
    obtain ⟨n, hN⟩ : ∃ n, w.heap.size = n := ⟨_, rfl⟩
    rw [hN] at hm1 hn ⊢
    go_wp2_with fail
    go_ret
    have kg : Keep (fun k => k = g) w1 ((w1.setCell ⟨g, 1, none⟩ (.map (some n))).setCell ⟨g, 3, none⟩ (.slice none 0 0)) := ((Keep.refl (fun k => k = g) w1).set g 1 _ (Or.inl rfl)).set g 3 _ (Or.inl rfl)
    refine ⟨rfl, Stepped.of (a' := n) (b' := b) (qv' := .slice none 0 0) ⟨?_, ?_, H1.out.seen.keep kg H.out.nbg, Row.nil _ _ _, ?_, ?_, H.out.nbg, by simp [Value.ownBlock], by simp [Value.ownBlock], by simp [Value.ownBlock]⟩ ((keepBelow hb1).trans (kg.mono (fun i q => Or.inl (Or.inl q)))) (Or.inr (by omega)) (Or.inl rfl) (fun k q => by simp [Value.ownBlock] at q)⟩
    · exact m_set (m_set H1.out.blk 1 _) 3 _
    · exact Hcopy.out _ _ (m_set_ne (m_set_ne hm1 g 1 _ (by omega)) g 3 _ (by omega))
    · have := H.out.seen.lt; omega
    · omega
def RestRel (w : World) (g a b : Nat) (qv : Value) (d : DevD) (kept : List Int) (iv : Value) (wr : World) : Prop :=
  ∃ i : Nat, iv = .int .i64 i ∧ i ≤ d.queue.length ∧ DAt wr g a b qv { d with safe := keepers kept 0 (d.queue.take i) d.safe } ∧ Keep (dfoot g a b qv) w wr
set_option maxHeartbeats 2000000 in
theorem restart_any (w : World) (F : Nat → Prop) (g : Nat) (d : DevD) (kv : Value) (kept : List Int) (h : Dev w F g d) (harg : ∀ w', Keep F w w' → Arg EInt w' kv kept) (hk : kept.length ≤ maxLen) (hq : d.queue.length ≤ 1000000) :
    Calls Try.prog 22 #[.pointer (some ⟨g, 0, none⟩), kv] w fun e w' => e = .returned (.tuple #[]) ∧ Stepped w F g (d.restart kept) w' := by
  have HD := Lib.hid h
  obtain ⟨a, b, qv, rfl, h⟩ := h
  have c3 : w.cell? ⟨g, 3, none⟩ = some qv := (m_cells h.blk).1 3
  obtain ⟨qa, qc, rfl⟩ := h.row.shape
  have H := Lib.hid h
  have Harg := Lib.hid harg
  obtain ⟨ka, kc, rfl⟩ := (harg w (Keep.refl _ w)).shape
  clear h harg
  go_enter Try.func22, Try.ntmps22
  go_wp2_with fail
  go_loopw [4, 5, 11] (fun _ _ iv wr => RestRel w g a b (.slice qa d.queue.length qc) d kept iv wr) (fun _ _ iv _ => d.queue.length - (intOf iv).toNat)
  case atStart => exact ⟨0, rfl, Nat.zero_le _, H.out, Keep.refl _ _⟩
  case round =>
    obtain ⟨i, rfl, hi, hat, hkeep⟩ := hrel
    by_cases hlt : i < d.queue.length
    · obtain ⟨p, hp⟩ : ∃ p, d.queue[i]? = some p := ⟨_, List.getElem?_eq_getElem hlt⟩
      obtain ⟨qg, qcap, e, _, hqlt, _, _, hcell, _⟩ := hat.row.slice (by intro q; have : d.queue = [] := q; rw [this] at hlt; simp at hlt)
      simp only [Value.slice.injEq] at e
      obtain ⟨rfl, _, rfl⟩ := e
      have y0 : wr.cell? ⟨qg, i * 2, none⟩ = some (.int .i64 p.1) := hcell i p hp 0 (by decide)
      have y1 : wr.cell? ⟨qg, i * 2 + 1, none⟩ = some (.string p.2) := hcell i p hp 1 (by decide)
      have c1 : wr.cell? ⟨g, 1, none⟩ = some (.map (some a)) := (m_cells hat.blk).1 1
      have Hat := Lib.hid hat
      have hglt := m_lt hat.blk
      have i2 : (i : Int) < d.queue.length := by omega
      have Harg1 := Lib.hid (Harg.out wr hkeep)
      clear hat hcell
      go_wp2_with fail
      refine (contains_any _ _ kept i (Harg1.out.keep ((Keep.refl (fun _ => False) wr).alloc _) (fun _ _ q => q)) hk).mono ?_
      rintro e w1 ⟨rfl, hw1⟩
      have hb1 : Below wr.heap.size wr w1 := by rw [hw1]; exact (Below.refl _ _).alloc (Nat.le_refl _) _
      have hl1 : w1.heap[wr.heap.size]? = some (.cells #[.int .i64 p.1, .string p.2] 104 (0, 0)) := by rw [hw1]; exact m_alloc _ _ _ rfl
      have hn : wr.heap.size < w1.heap.size := m_lt hl1
      have H1 := Lib.hid (Hat.out.below hb1)
      have c1 : w1.cell? ⟨g, 1, none⟩ = some (.map (some a)) := (m_cells H1.out.blk).1 1
      have l0 : w1.cell? ⟨wr.heap.size, 0, none⟩ = some (.int .i64 p.1) := (m_cells hl1).1 0
      have l1 : w1.cell? ⟨wr.heap.size, 1, none⟩ = some (.string p.2) := (m_cells hl1).1 1
      have Hn0 := Lib.hid hb1
      have hsn := keepers_snoc kept p (d.queue.take i) 0 d.safe
      have ht : d.queue.take (i + 1) = d.queue.take i ++ [p] := by rw [List.take_succ_eq_append_getElem hlt, (List.getElem?_eq_some_iff.1 hp).2]
      rw [← ht, List.length_take, Nat.min_eq_left hi, Nat.zero_add] at hsn
      have Hsn := Lib.hid hsn
      clear hw1 hb1 hl1 y0 y1 hsn ht
      have hNs : wr.heap.size = wr.heap.size := rfl
      generalize hN : wr.heap.size = n at l0 l1 hn hglt hqlt ⊢
      clear hNs
      by_cases hin : (i : Int) ∈ kept
      · have Hin := Lib.hid hin
        rw [decide_eq_true hin]
        clear hin
        go_wp2_with fail
        obtain ⟨w2, hr2, hm2, k2⟩ := (show IMap Value.string w1.drew a _ from H1.out.safe.blk rfl).update (P := Try.prog) Try.underlying98 Try.underlying3 p.1 p.2
        have H2 := Lib.hid (show DAt w1.drew g a b _ _ from H1.out.keep (Keep.refl (fun _ => False) w1).drew (fun _ _ q => q))
        have HR := Lib.hid (And.intro hm2 k2)
        clear hm2 k2
        go_region
        go_wp2_with fail
        have hm2 := HR.out.1
        have k2 := HR.out.2
        refine ⟨⟨i + 1, by go_num, hlt, ?_, ?_⟩, by simp [intOf]; omega⟩
        · rw [Hsn.out, if_pos Hin.out]
          exact H2.out.safe_turned hm2 k2
        · exact hkeep.trans' (((keepBelow (F := fun k => k = a) Hn0.out).drew).trans k2) (fun k q => Or.inl (Or.inr (Or.inl q)))
      · have Hin := Lib.hid hin
        rw [decide_eq_false hin]
        clear hin
        go_wp2_with fail
        refine ⟨⟨i + 1, by go_num, hlt, ?_, ?_⟩, by simp [intOf]; omega⟩
        · rw [Hsn.out, if_neg Hin.out]
          exact H1.out
        · exact hkeep.trans (keepBelow Hn0.out)
    · have ei : d.queue.take i = d.queue := List.take_of_length_le (by omega)
      rw [ei] at hat
      have hfold : keepers kept 0 d.queue d.safe = d.kept kept := rfl
      rw [hfold] at hat
      have hres : d.restart kept = { d with safe := d.kept kept, seen := d.kept kept, queue := [], left := -1 } := rfl
      generalize d.kept kept = s at *
      have Hres := Lib.hid hres
      clear hres
      have c1 : wr.cell? ⟨g, 1, none⟩ = some (.map (some a)) := (m_cells hat.blk).1 1
      obtain ⟨es, clock, hmb, hcopy⟩ := hat.safe.copy
      have Hcopy := Lib.hid hcopy
      have Hat := Lib.hid hat
      clear hat hcopy hfold ei
      go_wp2_with fail
      refine (mclone_str a es clock _ hmb).mono ?_
      rintro e w1 ⟨rfl, hw1⟩
      have hb1 : Below wr.heap.size wr w1 := by rw [hw1]; exact (Below.refl _ _).alloc (Nat.le_refl _) _
      have hm1 : w1.heap[wr.heap.size]? = some (.map es clock) := by rw [hw1]; exact m_alloc _ _ _ rfl
      have hn : wr.heap.size < w1.heap.size := m_lt hm1
      have hglt := m_lt Hat.out.blk
      have hal := Hat.out.safe.lt
      have H1 := Lib.hid (Hat.out.below hb1)
      have c1 : w1.cell? ⟨g, 2, none⟩ = some (.map (some b)) := (m_cells H1.out.blk).1 2
      have c3 : w1.cell? ⟨g, 3, none⟩ = some (.slice qa d.queue.length qc) := (m_cells H1.out.blk).1 3
      have c4 : w1.cell? ⟨g, 4, none⟩ = some (.int .i64 d.left) := (m_cells H1.out.blk).1 4
      have f2 := (m_cells H1.out.blk).2 2
      have f3 := (m_cells H1.out.blk).2 3
      have f4 := (m_cells H1.out.blk).2 4
      have hwn := hkeep.size
      clear hw1
      obtain ⟨n, hN⟩ : ∃ n, wr.heap.size = n := ⟨_, rfl⟩
      rw [hN] at hm1 hn hwn hglt hal ⊢
      go_wp2_with fail
      go_end0
      have kg : Keep (fun k => k = g) w1 (((w1.setCell ⟨g, 2, none⟩ (.map (some n))).setCell ⟨g, 3, none⟩ (.slice none 0 0)).setCell ⟨g, 4, none⟩ (.int .i64 (-1))) := (((Keep.refl (fun k => k = g) w1).set g 2 _ (Or.inl rfl)).set g 3 _ (Or.inl rfl)).set g 4 _ (Or.inl rfl)
      rw [Hres.out]
      refine ⟨rfl, Stepped.of (a' := a) (b' := n) (qv' := .slice none 0 0) ⟨?_, H1.out.safe.keep kg H.out.nag, ?_, Row.nil _ _ _, ?_, H.out.nag, ?_, by simp [Value.ownBlock], by simp [Value.ownBlock], by simp [Value.ownBlock]⟩ ((hkeep.trans (keepBelow hb1)).trans (kg.mono (fun i q => Or.inl (Or.inl q)))) (Or.inl rfl) (Or.inr (by omega)) (fun k q => by simp [Value.ownBlock] at q)⟩
      · exact m_set (m_set (m_set H1.out.blk 2 _) 3 _) 4 _
      · exact Hcopy.out _ _ (m_set_ne (m_set_ne (m_set_ne hm1 g 2 _ (by omega)) g 3 _ (by omega)) g 4 _ (by omega))
      · omega
      · omega
end Go.Proofs.Ytncbojocglcieaa

/- Rows of bytes; bytes into a string; a row that is made. -/
namespace Go.Proofs.Ytncbojocglcieaa
open Go.RowKit
set_option linter.unusedSimpArgs false
def EByt : EK UInt8 := ⟨5, 1, 1, fun x => [.int .u8 x.toNat], fun _ => rfl, fun _ u hu => by simp at hu; subst hu; rfl, by decide⟩
theorem EByt.laid : EByt.Laid := EK.laid (z := .int .u8 0) (by kernel_rfl) (by decide)
theorem EByt.flat (l : List UInt8) : l.flatMap EByt.enc = bv l := by
  induction l with
  | nil => rfl
  | cons x l ih => rw [List.flatMap_cons, ih]; rfl
set_option maxRecDepth 10000 in
theorem Row.convert {w : World} {B : Nat} {v : Value} {l : List UInt8} (h : Row EByt w B v l) : (convert 60 9 v).run Try.prog w = .ok (.string ⟨l.toArray⟩) w := by
  unfold Row at h
  rw [EByt.flat] at h
  obtain ⟨_, h⟩ := h
  rcases h with ⟨rfl, h0⟩ | ⟨g, cap, cur, rfl, hg, hh, hn, hc, hs, hcur⟩
  · have : l = [] := List.eq_nil_of_length_eq_zero h0
    subst this
    exact run_convert_bytes_nil (P := Try.prog) w 60 5 Try.underlying60 Try.underlying5 0 0 9 Try.underlying9
  · have := run_convert_bytes_arg (P := Try.prog) w 60 5 Try.underlying60 Try.underlying5 g 0 l.length cap (l.map fun c => (c.toNat : Int)) (by simp) (fun i hi => by
      have e1 : w.cell? ⟨g, 0 + i, none⟩ = cur[i]? := by simp [World.cell?, hh]
      have e2 : cur[i]? = (bv l)[i]? := by
        rw [← hcur, List.getElem?_take_of_lt (by show i < l.length * 1; omega)]; simp
      rw [e1, e2]; simp [bv, hi]) 9 Try.underlying9
    rw [this]
    congr 2
    simp only [strOfNums, List.map_map]
    congr 2
    rw [show ((fun n : Int => UInt8.ofNat n.toNat) ∘ fun c : UInt8 => (c.toNat : Int)) = id from by funext c; simp]
    simp
section
variable {ops : Array Oper} {rest : List Oper} {o : Oper} {a : Act} {w : World} {Q : Exit → Act → World → Prop} {B : Nat}
theorem conv_row (hgd : o.guard = none) (x : Operand) (ho : o.op = .convert 60 9 x) (v : Value) (l : List UInt8) (hx : a.eval x = v) (hown : Row EByt w B v l)
    (h : wpList Try.prog ops Q rest (a.put o.dst (.string ⟨l.toArray⟩)) w) : wpList Try.prog ops Q (o :: rest) a w := by
  refine wpList_plain hgd fun K hK => ?_
  unfold Oper.wp execOp
  simp only [ho, hx, Sem.run_bind, hown.convert, Result.andThen_ok, Sem.run_pure]
  exact hK _ _ h
theorem madeCells_rep {α : Type} (E : EK α) (x : α) (n : Nat) : (madeCells (E.enc x).toArray (n * E.size)).toList = (List.replicate n x).flatMap E.enc := by
  apply List.ext_getElem?
  intro j
  by_cases hj : j < n * E.size
  · have hm : j % E.size < E.size := Nat.mod_lt _ E.pos
    have hd : j / E.size < n := by rw [Nat.div_lt_iff_lt_mul E.pos]; exact hj
    have e1 : j = j / E.size * E.size + j % E.size := by rw [Nat.mul_comm]; exact (Nat.div_add_mod _ _).symm
    have e2 := E.flat_get (List.replicate n x) (j / E.size) (j % E.size) hm
    rw [← e1] at e2
    rw [e2]
    have hl : j % E.size < (E.enc x).length := by rw [E.len]; exact hm
    have e3 : (E.enc x)[j % E.size]? = some (E.enc x)[j % E.size] := List.getElem?_eq_getElem hl
    simp [madeCells, hj, hd, E.len, e3]
  · rw [List.getElem?_eq_none (by simp [madeCells]; omega), List.getElem?_eq_none (by rw [E.flat_len]; simp; omega)]
theorem make_row {α : Type} {E : EK α} {z : Value} (x0 : α) (hinfo : (Try.prog.info? E.t).map (fun i => (i.zero, i.size, i.bytes)) = some (some z, E.size, E.bytes)) (hz : z.cells = (E.enc x0).toArray) (hgd : o.guard = none) (t : TypeId) (ht : Try.prog.underlying t = some (.slice E.t)) (l c : Operand) (ho : o.op = Op.makeSlice t l c)
    (L C : Int) (n : Nat) (hl : a.eval l = .int .i64 L) (hc : a.eval c = .int .i64 C) (hL : L = n) (hC : C = n) (hn : E.bytes * n ≤ 140737488355328) (h63 : n ≤ maxLen) (hB : B ≤ w.heap.size)
    (h : ∀ w', Row E w' B (.slice (some ⟨w.heap.size, 0, none⟩) n n) (List.replicate n x0) → Below w.heap.size w w' → wpList Try.prog ops Q rest (a.put o.dst (.slice (some ⟨w.heap.size, 0, none⟩) n n)) w') : wpList Try.prog ops Q (o :: rest) a w := by
  obtain ⟨i0, hi, hz0, hz1, hz2⟩ := info_parts hinfo
  refine wpList_make_full w hgd l c t ho B E.t i0 z E.size ht hi hz0 hz1 .i64 .i64 L C n hl hc hL hC (by rw [hz2]; omega) h63 hB ?_
  intro w' h1 h2
  refine h w' ?_ ⟨h2.os, h2.tape, h2.output, h2.size, fun k hk => h2.block k hk (by simp)⟩
  rw [hz, madeCells_rep] at h1
  unfold Row; rw [List.length_replicate]; exact h1
end
/-- One cell of a row is another. -/
theorem Row.set1 {α : Type} {E : EK α} (h1 : E.size = 1) {w : World} {B g n cap : Nat} {l : List α} (h : Row E w B (.slice (some ⟨g, 0, none⟩) n cap) l) (i : Nat) (x : α) (u : Value) (hu : E.enc x = [u]) : Row E (w.setCell ⟨g, i, none⟩ u) B (.slice (some ⟨g, 0, none⟩) n cap) (l.set i x) := by
  have hn := h.len_eq
  subst hn
  have := (World.ownsRow.stored h i u).1
  unfold Row
  rw [List.length_set]
  have e : (l.set i x).flatMap E.enc = (l.flatMap E.enc).set i u := by
    apply List.ext_getElem?
    intro j
    have f1 := E.flat_get (l.set i x) j 0 (by omega)
    have f2 := E.flat_get l j 0 (by omega)
    rw [h1, Nat.mul_one, Nat.add_zero] at f1 f2
    rw [f1, List.getElem?_set, List.getElem?_set, E.flat_len, h1, Nat.mul_one]
    by_cases hij : i = j
    · subst hij
      rw [if_pos rfl, if_pos rfl]
      by_cases hl : i < l.length
      · rw [if_pos hl, if_pos hl]; simp [hu]
      · rw [if_neg hl, if_neg hl]; rfl
    · rw [if_neg hij, if_neg hij, f2]
  rw [e]; exact this
end Go.Proofs.Ytncbojocglcieaa

/- sector's laws: a full sector; awake; cuts. -/
namespace Go.Proofs.Ytncbojocglcieaa
open Go.RowKit
set_option linter.unusedSimpArgs false
set_option linter.unusedVariables false
/-- A sector of one byte. -/
def fsec (c : UInt8) : ByteArray := ⟨(List.replicate 64 c).toArray⟩
theorem fsec_size (c : UInt8) : (fsec c).size = 64 := by simp [fsec, ByteArray.size]
theorem fill_set (c z : UInt8) (n i : Nat) (h : i < n) : (List.replicate i c ++ List.replicate (n - i) z).set i c = List.replicate (i + 1) c ++ List.replicate (n - (i + 1)) z := by
  rw [List.set_append_right _ _ (by simp)]
  simp only [List.length_replicate, Nat.sub_self]
  rw [show n - i = (n - (i + 1)) + 1 from by omega, List.replicate_succ, List.set_cons_zero, List.replicate_succ', List.append_assoc]
  rfl
set_option maxHeartbeats 1000000 in
set_option maxRecDepth 100000 in
theorem full_any (c : UInt8) (w : World) : Calls Try.prog 19 #[.int .u8 c.toNat] w fun e w' => e = .returned (.string (fsec c)) ∧ Below w.heap.size w w' := by
  obtain ⟨n, hN⟩ : ∃ n, w.heap.size = n := ⟨_, rfl⟩
  go_enter Try.func19, Try.ntmps19
  go_wp2_with (refine make_row (E := EByt) (B := w.heap.size) (z := .int .u8 0) (0 : UInt8) (by kernel_rfl) (by rfl) rfl 60 Try.underlying60 _ _ rfl 64 64 64 rfl rfl rfl rfl (by decide) (by decide) (Nat.le_refl _) ?_; intro w1 hr1 hb1)
  rw [hN] at hr1 hb1
  go_loopw [4] (fun iv wr => ∃ i : Nat, iv = .int .i64 i ∧ i ≤ 64 ∧ Row EByt wr n (.slice (some ⟨n, 0, none⟩) 64 64) (List.replicate i c ++ List.replicate (64 - i) 0) ∧ Below n w wr) (fun iv _ => 64 - (intOf iv).toNat)
  case atStart => exact ⟨0, rfl, Nat.zero_le _, hr1, hb1⟩
  case round =>
    obtain ⟨i, rfl, hi, hr, hb⟩ := hrel
    by_cases hlt : i < 64
    · obtain ⟨g, cap, e, _, hgl, _, _, hcell, hfr⟩ := hr.slice (by intro q; have := congrArg List.length q; simp at this; omega)
      simp only [Value.slice.injEq, Option.some.injEq, Addr.mk.injEq] at e
      obtain ⟨⟨rfl, -, -⟩, -, -⟩ := e
      have hset := hr.set1 rfl i c (.int .u8 c.toNat) rfl
      rw [fill_set c 0 64 i hlt] at hset
      have hx := hcell i _ (List.getElem?_eq_getElem (by simp; omega)) 0 (by decide)
      have hx2 : ∃ v, wr.cell? ⟨n, i, none⟩ = some v := ⟨_, by simpa [EByt] using hx⟩
      obtain ⟨v, hv⟩ := hx2
      have hf := hfr i
      have Hset := Lib.hid hset
      clear hcell hfr hx hset hr
      have i1 : (i : Int) < 64 := by omega
      go_wp2_with fail
      refine ⟨⟨i + 1, by go_num, hlt, Hset.out, hb.trans (((Keep.refl (fun k => k = n) wr).set n i _ (Or.inl rfl)).toBelow (by omega) (fun k q => by omega))⟩, by simp [intOf]; omega⟩
    · have ei : i = 64 := by omega
      subst ei
      have Hr := Lib.hid hr
      clear hr
      go_wp2_with (refine conv_row rfl _ rfl _ _ rfl Hr.out ?_)
      go_ret
      exact ⟨by simp [fsec], hN ▸ hb⟩
/-- A device that came since the world w0, and nothing that was there has turned. -/
def Own (w0 w : World) (g : Nat) (d : DevD) : Prop := ∃ F, Dev w F g d ∧ (∀ k, F k → w0.heap.size ≤ k) ∧ Below w0.heap.size w0 w
theorem Own.below {w0 w w' : World} {g : Nat} {d : DevD} (h : Own w0 w g d) (hb : Below w.heap.size w w') : Own w0 w' g d := by
  obtain ⟨F, h1, h2, h3⟩ := h
  exact ⟨F, h1.below hb, h2, h3.trans (hb.mono h3.size)⟩
theorem Own.step {w0 w w' : World} {F : Nat → Prop} {g : Nat} {d d' : DevD} (h1 : Dev w F g d) (h2 : ∀ k, F k → w0.heap.size ≤ k) (h3 : Below w0.heap.size w0 w) (s : Stepped w F g d' w') : Own w0 w' g d' := by
  obtain ⟨F', q1, q2, q3⟩ := s
  exact ⟨F', q1, fun k q => (q2 k q).elim (h2 k) (fun e => Nat.le_trans h3.size e), h3.trans (q3.toBelow h3.size h2)⟩
theorem Own.bel {w0 w : World} {g : Nat} {d : DevD} (h : Own w0 w g d) : Below w0.heap.size w0 w := by obtain ⟨F, h1, h2, h3⟩ := h; exact h3
theorem own_new (w0 w : World) (n : Int) (hb : Below w0.heap.size w0 w) : Calls Try.prog 17 #[.int .i64 n] w fun e w' => ∃ g, e = .returned (.pointer (some ⟨g, 0, none⟩)) ∧ Own w0 w' g ⟨(min (max n 0) 4096).toNat, [], [], [], -1⟩ := by
  refine (newdev_any n w).mono ?_
  rintro e w' ⟨F, g, rfl, hd, hF, hB⟩
  exact ⟨g, rfl, F, hd, fun k q => Nat.le_trans hb.size (hF k q), hb.trans (hB.mono hb.size)⟩
theorem own_put {w0 w : World} {g : Nat} {d : DevD} (h : Own w0 w g d) (i : Int) (x : ByteArray) (hq : d.queue.length ≤ 1000000) (hleft : d.left ≤ 9223372036854775807) :
    Calls Try.prog 18 #[.pointer (some ⟨g, 0, none⟩), .int .i64 i, .string x] w fun e w' => e = .returned (.int .i64 (d.putErr i x)) ∧ Own w0 w' g (if d.putErr i x = 0 then d.put i x else d) := by
  obtain ⟨F, h1, h2, h3⟩ := h
  refine (put_any w F g d i x h1 hq hleft).mono ?_
  rintro e w' ⟨rfl, hs⟩
  exact ⟨rfl, Own.step h1 h2 h3 hs⟩
theorem own_get {w0 w : World} {g : Nat} {d : DevD} (h : Own w0 w g d) (i : Int) :
    Calls Try.prog 23 #[.pointer (some ⟨g, 0, none⟩), .int .i64 i] w fun e w' => e = .returned (.tuple #[.string (d.get i), .int .i64 (d.ask i)]) ∧ Own w0 w' g d ∧ Below w.heap.size w w' := by
  have h0 := h
  obtain ⟨F, h1, h2, h3⟩ := h
  refine (get_any w F g d i h1).mono ?_
  rintro e w' ⟨rfl, hb⟩
  exact ⟨rfl, h0.below hb, hb⟩
theorem own_cut {w0 w : World} {g : Nat} {d : DevD} (h : Own w0 w g d) (n : Int) :
    Calls Try.prog 28 #[.pointer (some ⟨g, 0, none⟩), .int .i64 n] w fun e w' => e = .returned (.tuple #[]) ∧ Own w0 w' g (d.cut n) := by
  obtain ⟨F, h1, h2, h3⟩ := h
  refine (cut_any w F g d n h1).mono ?_
  rintro e w' ⟨rfl, hs⟩
  exact ⟨rfl, Own.step h1 h2 h3 hs⟩
theorem own_flush {w0 w : World} {g : Nat} {d : DevD} (h : Own w0 w g d) :
    Calls Try.prog 20 #[.pointer (some ⟨g, 0, none⟩)] w fun e w' => e = .returned (.int .i64 (if d.left = 0 then 13 else 0)) ∧ Own w0 w' g (if d.left = 0 then d else d.flush) := by
  obtain ⟨F, h1, h2, h3⟩ := h
  refine (flush_any w F g d h1).mono ?_
  rintro e w' ⟨rfl, hs⟩
  exact ⟨rfl, Own.step h1 h2 h3 hs⟩
theorem own_restart {w0 w : World} {g : Nat} {d : DevD} (h : Own w0 w g d) (kv : Value) (kept : List Int) (harg : Arg EInt w0 kv kept) (hk : kept.length ≤ maxLen) (hq : d.queue.length ≤ 1000000) :
    Calls Try.prog 22 #[.pointer (some ⟨g, 0, none⟩), kv] w fun e w' => e = .returned (.tuple #[]) ∧ Own w0 w' g (d.restart kept) := by
  obtain ⟨F, h1, h2, h3⟩ := h
  refine (restart_any w F g d kv kept h1 (fun w' k => harg.below (h3.trans (k.toBelow h3.size h2))) hk hq).mono ?_
  rintro e w' ⟨rfl, hs⟩
  exact ⟨rfl, Own.step h1 h2 h3 hs⟩
theorem own_pending {w0 w : World} {g : Nat} {d : DevD} (h : Own w0 w g d) :
    Calls Try.prog 21 #[.pointer (some ⟨g, 0, none⟩)] w fun e w' => e = .returned (.int .i64 d.queue.length) ∧ w' = w := by
  obtain ⟨F, h1, h2, h3⟩ := h
  exact pending_any w F g d h1
theorem own_size {w0 w : World} {g : Nat} {d : DevD} (h : Own w0 w g d) :
    Calls Try.prog 30 #[.pointer (some ⟨g, 0, none⟩)] w fun e w' => e = .returned (.int .i64 d.size) ∧ w' = w := by
  obtain ⟨F, h1, h2, h3⟩ := h
  exact size_any w F g d h1
theorem own_full {w0 w : World} {g : Nat} {d : DevD} (h : Own w0 w g d) (c : UInt8) : Calls Try.prog 19 #[.int .u8 c.toNat] w fun e w' => e = .returned (.string (fsec c)) ∧ Own w0 w' g d ∧ Below w.heap.size w w' := by
  refine (full_any c w).mono ?_
  rintro e w' ⟨rfl, hb⟩
  exact ⟨rfl, h.below hb, hb⟩
theorem own_put_ok {w0 w : World} {g : Nat} {d : DevD} (h : Own w0 w g d) (i : Int) (x : ByteArray) (hq : d.queue.length ≤ 1000000) (hleft : d.left ≤ 9223372036854775807) (he : d.putErr i x = 0) :
    Calls Try.prog 18 #[.pointer (some ⟨g, 0, none⟩), .int .i64 i, .string x] w fun e w' => e = .returned (.int .i64 0) ∧ Own w0 w' g (d.put i x) := by
  have := own_put h i x hq hleft
  rw [he, if_pos rfl] at this
  exact this
set_option maxHeartbeats 1000000 in
theorem awake06_any (w : World) : Calls Try.prog 16 #[] w fun e w' => e = .returned (.bool true) ∧ Below w.heap.size w w' := by
  go_enter Try.func16, Try.ntmps16
  go_wp2_with fail
  refine (own_new w w 3 (Below.refl _ _)).mono ?_
  rintro e w1 ⟨g, rfl, h1⟩
  have H1 := Lib.hid h1
  clear h1
  go_wp2_with fail
  refine (own_size H1.out).mono ?_
  rintro e w2 ⟨rfl, rfl⟩
  go_wp2_with fail
  refine (own_full H1.out 7).mono ?_
  rintro e w3 ⟨rfl, h3, hb3⟩
  have H3 := Lib.hid h3
  clear h3 hb3
  go_wp2_with fail
  refine (own_put_ok H3.out 1 (fsec 7) (by decide) (by decide) (by decide)).mono ?_
  rintro e w4 ⟨rfl, h4⟩
  have H4 := Lib.hid h4
  clear h4
  go_wp2_with fail
  refine (own_pending H4.out).mono ?_
  rintro e w5 ⟨rfl, rfl⟩
  go_wp2_with fail
  go_ret
  exact ⟨rfl, H4.out.bel⟩
end Go.Proofs.Ytncbojocglcieaa

/- sector: a device beside other blocks of the call's own. -/
namespace Go.Proofs.Ytncbojocglcieaa
open Go.RowKit
set_option linter.unusedSimpArgs false
set_option linter.unusedVariables false
/-- A device that came since w0, apart from the blocks R; nothing that was there has turned. -/
def OwnR (w0 w : World) (R : Nat → Prop) (g : Nat) (d : DevD) : Prop :=
  ∃ F, Dev w F g d ∧ (∀ k, F k → w0.heap.size ≤ k ∧ ¬ R k) ∧ (∀ k, R k → w0.heap.size ≤ k ∧ k < w.heap.size) ∧ Below w0.heap.size w0 w
/-- The blocks R are as they were; what was there at first, too. -/
structure Held (w0 : World) (R : Nat → Prop) (w w' : World) : Prop where
  size : w.heap.size ≤ w'.heap.size
  block : ∀ k, R k → w'.heap[k]? = w.heap[k]?
theorem Held.refl (w0 : World) (R : Nat → Prop) (w : World) : Held w0 R w w := ⟨Nat.le_refl _, fun _ _ => rfl⟩
theorem Held.trans {w0 a b c : World} {R : Nat → Prop} (h : Held w0 R a b) (k : Held w0 R b c) : Held w0 R a c := ⟨Nat.le_trans h.size k.size, fun i q => (k.block i q).trans (h.block i q)⟩
theorem Held.below {w0 w w' : World} {R : Nat → Prop} (hR : ∀ k, R k → k < w.heap.size) (h : Below w.heap.size w w') : Held w0 R w w' := ⟨h.size, fun k q => h.block k (hR k q)⟩
section
variable {w0 w w' : World} {R R' : Nat → Prop} {g : Nat} {d d' : DevD}
theorem OwnR.bel (h : OwnR w0 w R g d) : Below w0.heap.size w0 w := by obtain ⟨F, _, _, _, h⟩ := h; exact h
theorem OwnR.lt (h : OwnR w0 w R g d) {k : Nat} (q : R k) : k < w.heap.size := by obtain ⟨F, _, _, h, _⟩ := h; exact (h k q).2
theorem OwnR.ge (h : OwnR w0 w R g d) {k : Nat} (q : R k) : w0.heap.size ≤ k := by obtain ⟨F, _, _, h, _⟩ := h; exact (h k q).1
theorem OwnR.below (h : OwnR w0 w R g d) (hb : Below w.heap.size w w') : OwnR w0 w' R g d := by
  obtain ⟨F, h1, h2, h3, h4⟩ := h
  exact ⟨F, h1.below hb, h2, fun k q => ⟨(h3 k q).1, Nat.lt_of_lt_of_le (h3 k q).2 hb.size⟩, h4.trans (hb.mono h4.size)⟩
/-- The others have turned. -/
theorem OwnR.turn (h : OwnR w0 w R g d) (hk : Keep R w w') (hR : ∀ k, R' k → (R k ∨ w.heap.size ≤ k) ∧ k < w'.heap.size) : OwnR w0 w' R' g d := by
  obtain ⟨F, h1, h2, h3, h4⟩ := h
  refine ⟨F, h1.keep hk (fun i q => (h2 i q).2), fun k q => ⟨(h2 k q).1, fun r => ?_⟩, fun k q => ⟨?_, (hR k q).2⟩, h4.trans (hk.toBelow h4.size (fun i q => (h3 i q).1))⟩
  · rcases (hR k r).1 with e | e
    · exact (h2 k q).2 e
    · exact absurd (h1.lt q) (Nat.not_lt.2 e)
  · rcases (hR k q).1 with e | e
    · exact (h3 k e).1
    · exact Nat.le_trans h4.size e
theorem OwnR.sub (h : OwnR w0 w R g d) (hR : ∀ k, R' k → R k) : OwnR w0 w R' g d := by
  obtain ⟨F, h1, h2, h3, h4⟩ := h
  exact ⟨F, h1, fun k q => ⟨(h2 k q).1, fun r => (h2 k q).2 (hR k r)⟩, fun k q => h3 k (hR k q), h4⟩
theorem Own.r (h : Own w0 w g d) : OwnR w0 w (fun _ => False) g d := by
  obtain ⟨F, h1, h2, h3⟩ := h
  exact ⟨F, h1, fun k q => ⟨h2 k q, fun r => r⟩, fun k r => r.elim, h3⟩
theorem OwnR.own (h : OwnR w0 w R g d) : Own w0 w g d := by
  obtain ⟨F, h1, h2, h3, h4⟩ := h
  exact ⟨F, h1, fun k q => (h2 k q).1, h4⟩
theorem OwnR.step {F : Nat → Prop} (h1 : Dev w F g d) (h2 : ∀ k, F k → w0.heap.size ≤ k ∧ ¬ R k) (h3 : ∀ k, R k → w0.heap.size ≤ k ∧ k < w.heap.size) (h4 : Below w0.heap.size w0 w) (s : Stepped w F g d' w') : OwnR w0 w' R g d' ∧ Held w0 R w w' := by
  obtain ⟨F', q1, q2, q3⟩ := s
  refine ⟨⟨F', q1, fun k q => ?_, fun k q => ⟨(h3 k q).1, Nat.lt_of_lt_of_le (h3 k q).2 q3.size⟩, h4.trans (q3.toBelow h4.size (fun k q => (h2 k q).1))⟩, ⟨q3.size, fun k q => q3.block k (h3 k q).2 (fun f => (h2 k f).2 q)⟩⟩
  rcases q2 k q with e | e
  · exact h2 k e
  · exact ⟨Nat.le_trans h4.size e, fun r => absurd (h3 k r).2 (Nat.not_lt.2 e)⟩
theorem ownr_new (w0 w : World) (n : Int) (hb : Below w0.heap.size w0 w) (hR : ∀ k, R k → w0.heap.size ≤ k ∧ k < w.heap.size) : Calls Try.prog 17 #[.int .i64 n] w fun e w' => ∃ g, e = .returned (.pointer (some ⟨g, 0, none⟩)) ∧ OwnR w0 w' R g ⟨(min (max n 0) 4096).toNat, [], [], [], -1⟩ ∧ Below w.heap.size w w' := by
  refine (newdev_any n w).mono ?_
  rintro e w' ⟨F, g, rfl, hd, hF, hB⟩
  exact ⟨g, rfl, ⟨F, hd, fun k q => ⟨Nat.le_trans hb.size (hF k q), fun r => absurd (hR k r).2 (Nat.not_lt.2 (hF k q))⟩, fun k q => ⟨(hR k q).1, Nat.lt_of_lt_of_le (hR k q).2 hB.size⟩, hb.trans (hB.mono hb.size)⟩, hB⟩
theorem ownr_put (h : OwnR w0 w R g d) (i : Int) (x : ByteArray) (hq : d.queue.length ≤ 1000000) (hleft : d.left ≤ 9223372036854775807) :
    Calls Try.prog 18 #[.pointer (some ⟨g, 0, none⟩), .int .i64 i, .string x] w fun e w' => e = .returned (.int .i64 (d.putErr i x)) ∧ OwnR w0 w' R g (if d.putErr i x = 0 then d.put i x else d) ∧ Held w0 R w w' := by
  obtain ⟨F, h1, h2, h3, h4⟩ := h
  refine (put_any w F g d i x h1 hq hleft).mono ?_
  rintro e w' ⟨rfl, hs⟩
  exact ⟨rfl, OwnR.step h1 h2 h3 h4 hs⟩
theorem ownr_get (h : OwnR w0 w R g d) (i : Int) :
    Calls Try.prog 23 #[.pointer (some ⟨g, 0, none⟩), .int .i64 i] w fun e w' => e = .returned (.tuple #[.string (d.get i), .int .i64 (d.ask i)]) ∧ OwnR w0 w' R g d ∧ Below w.heap.size w w' := by
  have h0 := h
  obtain ⟨F, h1, h2, h3⟩ := h
  refine (get_any w F g d i h1).mono ?_
  rintro e w' ⟨rfl, hb⟩
  exact ⟨rfl, h0.below hb, hb⟩
theorem ownr_cut (h : OwnR w0 w R g d) (n : Int) :
    Calls Try.prog 28 #[.pointer (some ⟨g, 0, none⟩), .int .i64 n] w fun e w' => e = .returned (.tuple #[]) ∧ OwnR w0 w' R g (d.cut n) ∧ Held w0 R w w' := by
  obtain ⟨F, h1, h2, h3, h4⟩ := h
  refine (cut_any w F g d n h1).mono ?_
  rintro e w' ⟨rfl, hs⟩
  exact ⟨rfl, OwnR.step h1 h2 h3 h4 hs⟩
theorem ownr_flush (h : OwnR w0 w R g d) :
    Calls Try.prog 20 #[.pointer (some ⟨g, 0, none⟩)] w fun e w' => e = .returned (.int .i64 (if d.left = 0 then 13 else 0)) ∧ OwnR w0 w' R g (if d.left = 0 then d else d.flush) ∧ Held w0 R w w' := by
  obtain ⟨F, h1, h2, h3, h4⟩ := h
  refine (flush_any w F g d h1).mono ?_
  rintro e w' ⟨rfl, hs⟩
  exact ⟨rfl, OwnR.step h1 h2 h3 h4 hs⟩
theorem ownr_restart (h : OwnR w0 w R g d) (kv : Value) (kept : List Int) (harg : Arg EInt w0 kv kept) (hk : kept.length ≤ maxLen) (hq : d.queue.length ≤ 1000000) :
    Calls Try.prog 22 #[.pointer (some ⟨g, 0, none⟩), kv] w fun e w' => e = .returned (.tuple #[]) ∧ OwnR w0 w' R g (d.restart kept) ∧ Held w0 R w w' := by
  obtain ⟨F, h1, h2, h3, h4⟩ := h
  refine (restart_any w F g d kv kept h1 (fun w' k => harg.below (h4.trans (k.toBelow h4.size (fun k q => (h2 k q).1)))) hk hq).mono ?_
  rintro e w' ⟨rfl, hs⟩
  exact ⟨rfl, OwnR.step h1 h2 h3 h4 hs⟩
theorem ownr_pending (h : OwnR w0 w R g d) :
    Calls Try.prog 21 #[.pointer (some ⟨g, 0, none⟩)] w fun e w' => e = .returned (.int .i64 d.queue.length) ∧ w' = w := own_pending h.own
theorem ownr_size (h : OwnR w0 w R g d) :
    Calls Try.prog 30 #[.pointer (some ⟨g, 0, none⟩)] w fun e w' => e = .returned (.int .i64 d.size) ∧ w' = w := own_size h.own
theorem ownr_put_ok (h : OwnR w0 w R g d) (i : Int) (x : ByteArray) (hq : d.queue.length ≤ 1000000) (hleft : d.left ≤ 9223372036854775807) (he : d.putErr i x = 0) :
    Calls Try.prog 18 #[.pointer (some ⟨g, 0, none⟩), .int .i64 i, .string x] w fun e w' => e = .returned (.int .i64 0) ∧ OwnR w0 w' R g (d.put i x) ∧ Held w0 R w w' := by
  have := ownr_put h i x hq hleft
  rw [he, if_pos rfl] at this
  exact this
end
end Go.Proofs.Ytncbojocglcieaa
