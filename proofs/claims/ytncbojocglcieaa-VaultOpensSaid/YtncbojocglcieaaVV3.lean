/- Lemmas for the laws of one seat, texts B1 B2 B3 P7 C1 Fz; no condition beyond those that each states. -/
import Derived.Test.YtncbojocglcieaaVV2
import Derived.Deep.RegionHeld3
import Derived.Lib.Strings
import Derived.Deep.RegionWith
import Derived.Lib.ConvBytes
/- bank: Frames, on, power, frame. -/
namespace Go.Proofs.Ytncbojocglcieaa
open Go.RowKit
set_option linter.unusedSimpArgs false
set_option linter.unusedVariables false
/-- How many frames. -/
def nframes (n : Nat) : Nat := (n + 61) / 62
set_option maxRecDepth 100000 in
theorem frames_any (n : Int) (w : World) (h : n ≤ 9223372036854775807) : Calls Try.prog 24 #[.int .i64 n] w fun e w' => e = .returned (.int .i64 (if n < 1 then 0 else (n - 1) / 62 + 1)) ∧ w' = w := by
  by_cases h1 : n < 1
  · rw [if_pos h1]
    go_enter Try.func24, Try.ntmps24
    go_wp2
    go_ret
    exact ⟨rfl, rfl⟩
  · rw [if_neg h1]
    have h2 : 1 ≤ n := by omega
    have h3 : (0 : Int) ≤ n - 1 := by omega
    have h4 : (n - 1) / 62 < 9223372036854775807 := by omega
    have h5 : 0 ≤ (n - 1) / 62 := by omega
    have h6 : (n - 1).tdiv 62 = (n - 1) / 62 := Int.tdiv_eq_ediv_of_nonneg h3
    clear h1
    go_enter Try.func24, Try.ntmps24
    go_wp2
    go_ret
    exact ⟨rfl, rfl⟩
theorem frames_nat (n : Nat) : (if (n : Int) < 1 then (0 : Int) else ((n : Int) - 1) / 62 + 1) = (nframes n : Nat) := by
  unfold nframes; split <;> omega
def DevD.pow (d : DevD) : Int := if d.left = 0 then 13 else 0
theorem power_any {w0 w : World} {R : Nat → Prop} {g : Nat} {d : DevD} (h : OwnR w0 w R g d) :
    Calls Try.prog 60 #[.pointer (some ⟨g, 0, none⟩)] w fun e w' => e = .returned (.int .i64 d.pow) ∧ OwnR w0 w' R g d ∧ Below w.heap.size w w' := by
  have H := Lib.hid h
  obtain ⟨r, hr⟩ : ∃ r, d.ask (-1) = r := ⟨_, rfl⟩
  have hp : (r = 13 ∧ d.pow = 13) ∨ (r = 1 ∧ d.pow = 0) := by
    rw [← hr]; unfold DevD.ask DevD.pow
    by_cases q : d.left = 0
    · rw [if_pos q, if_pos q]; simp
    · rw [if_neg q, if_neg q]; simp
  have HR := Lib.hid hr
  clear h hr
  rcases hp with ⟨rfl, hp⟩ | ⟨rfl, hp⟩
  all_goals
    rw [hp]
    clear hp
    go_enter Try.func60, Try.ntmps60
    go_wp2_with fail
    refine (ownr_get H.out (-1)).mono ?_
    rintro e w1 ⟨rfl, h1, hb1⟩
    rw [HR.out]
    have H1 := Lib.hid h1
    go_wp2_with fail
    go_ret
    exact ⟨rfl, H1.out, hb1⟩
/-- Whether a bank is on a device. -/
def DevD.on (d : DevD) (f s : Int) : Bool := decide (1 ≤ s ∧ 0 ≤ f ∧ f + s ≤ d.size)
theorem on_any {w0 w : World} {R : Nat → Prop} {g : Nat} {d : DevD} (f s : Int) (h : OwnR w0 w R g d) (hs : s ≤ 9223372036854775807) (hd : d.size ≤ 4096) :
    Calls Try.prog 61 #[.pointer (some ⟨g, 0, none⟩), .int .i64 f, .int .i64 s] w fun e w' => e = .returned (.bool (d.on f s)) ∧ w' = w := by
  have H := Lib.hid h
  clear h
  obtain ⟨r, hr⟩ : ∃ r, d.on f s = r := ⟨_, rfl⟩
  rw [hr]
  have HR := Lib.hid hr
  clear hr
  by_cases h1 : 1 ≤ s
  · by_cases h2 : 0 ≤ f
    · go_enter Try.func61, Try.ntmps61
      go_wp2_with fail
      refine (ownr_size H.out).mono ?_
      rintro e w1 ⟨rfl, rfl⟩
      go_wp2_with fail
      go_ret
      refine ⟨ret_bool ?_, rfl⟩
      rw [← HR.out]; unfold DevD.on
      rw [decide_eq_decide]; omega
    · have e : r = false := by rw [← HR.out]; unfold DevD.on; rw [decide_eq_false_iff_not]; omega
      subst e
      go_enter Try.func61, Try.ntmps61
      go_wp2_with fail
      go_ret
      exact ⟨rfl, rfl⟩
  · have e : r = false := by rw [← HR.out]; unfold DevD.on; rw [decide_eq_false_iff_not]; omega
    subst e
    go_enter Try.func61, Try.ntmps61
    go_wp2_with fail
    go_ret
    exact ⟨rfl, rfl⟩
end Go.Proofs.Ytncbojocglcieaa

/- bank: a frame. -/
namespace Go.Proofs.Ytncbojocglcieaa
open Go.RowKit
set_option linter.unusedSimpArgs false
set_option linter.unusedVariables false
/-- A frame of what is left of a record. -/
def frameL (l : List UInt8) : List UInt8 := UInt8.ofNat (l.length / 256 % 256) :: UInt8.ofNat (l.length % 256) :: (l.take 62 ++ List.replicate (62 - min l.length 62) 0)
def frameB (s : ByteArray) : ByteArray := ⟨(frameL s.data.toList).toArray⟩
theorem rep_any (n : Nat) (w : World) (h : n ≤ 64) : Calls Try.prog 58 #[.string ⟨#[0]⟩, .int .i64 n] w fun e w' => e = .returned (.string ⟨(List.replicate n (0 : UInt8)).toArray⟩) ∧ Below w.heap.size w w' := by
  refine (Try.strings_Repeat ⟨#[0]⟩ n w (by omega) (by show 1 * n ≤ _; omega)).mono ?_
  rintro e w1 ⟨rfl, hb⟩
  refine ⟨?_, hb⟩
  have := Lib.repeatL_replicate 0 1 n
  rw [Nat.mul_one] at this
  rw [show (ByteArray.mk #[0]).data.toList = List.replicate 1 0 from rfl, this]
set_option maxRecDepth 100000 in
theorem conv_two (x y : Int) (w : World) (n : Nat) (h0 : w.cell? ⟨n, 0, none⟩ = some (.int .u8 x)) (h1 : w.cell? ⟨n, 1, none⟩ = some (.int .u8 y)) :
    (convert 60 9 (.slice (some ⟨n, 0, none⟩) 2 2)).run Try.prog w = .ok (.string ⟨#[UInt8.ofNat x.toNat, UInt8.ofNat y.toNat]⟩) w := by
  have := run_convert_bytes_arg (P := Try.prog) w 60 5 Try.underlying60 Try.underlying5 n 0 2 2 [x, y] (by simp) (fun i hi => by
    match i, hi with
    | 0, _ => exact h0
    | 1, _ => exact h1) 9 Try.underlying9
  rw [this]
  rfl
theorem frame_eq (s p rz : ByteArray) (m z : Nat) (x y : Int) (hm : min s.size 62 = m) (hE : s.extract 0 m = p) (hz : 62 - m = z) (hr : ByteArray.mk (List.replicate z (0 : UInt8)).toArray = rz) (hx : x = (s.size : Int) / 256 % 256) (hy : y = (s.size : Int) % 256) :
    ByteArray.mk #[UInt8.ofNat x.toNat, UInt8.ofNat y.toNat] ++ p ++ rz = frameB s := by
  subst hm; subst hE; subst hz; subst hr
  have e1 : x.toNat = s.size / 256 % 256 := by omega
  have e2 : y.toNat = s.size % 256 := by omega
  rw [e1, e2]
  have hl : s.data.toList.length = s.size := by rw [Array.length_toList]; rfl
  apply ByteArray.ext
  apply Array.ext'
  unfold frameB frameL
  rw [hl]
  simp only [ByteArray.data_append, Array.toList_append, Lib.extract_data]
  simp
  exact Nat.min_comm _ _
set_option maxRecDepth 100000 in
set_option maxHeartbeats 2000000 in
theorem frame_any (s : ByteArray) (w : World) (h : s.size ≤ 1000000) : Calls Try.prog 62 #[.string s] w fun e w' => e = .returned (.string (frameB s)) ∧ Below w.heap.size w w' := by
  obtain ⟨m, hm⟩ : ∃ m, min s.size 62 = m := ⟨_, rfl⟩
  have hm1 : m ≤ 62 := by omega
  have hm2 : m ≤ s.size := by omega
  have hmi : min (s.size : Int) 62 = m := by omega
  have HM := Lib.hid hm
  clear hm
  go_enter Try.func62, Try.ntmps62
  go_wp2_with fail
  have hx : (s.extract 0 m).size = m := by rw [ByteArray.size_extract]; omega
  generalize hE : s.extract 0 m = p at *
  have HE := Lib.hid hE
  clear hE
  obtain ⟨z, hz⟩ : ∃ z : Nat, 62 - m = z := ⟨_, rfl⟩
  have hz2 : (62 : Int) - m = z := by omega
  have hzi : wrap64 ((62 : Int) - m) = z := by unfold wrap64; omega
  have hz3 : z ≤ 62 := by omega
  have hcv := fun (w : World) (n : Nat) => conv_two (IntKind.u8.wrap ((s.size : Int) / 256)) (IntKind.u8.wrap (s.size : Int)) w n
  have ho1 : ¬ (9223372036854775807 < 2 + m) := by omega
  have ho2 : ¬ (9223372036854775807 < 2 + m + z) := by omega
  obtain ⟨rz, hrz⟩ : ∃ b : ByteArray, (ByteArray.mk (List.replicate z (0 : UInt8)).toArray) = b := ⟨_, rfl⟩
  have hrs : rz.size = z := by rw [← hrz]; simp [ByteArray.size]
  have hRZ := Lib.hid hrz
  clear hrz
  have hrep := fun w => rep_any z w (by omega)
  rw [hRZ.out] at hrep
  have hw1 : IntKind.u8.wrap ((s.size : Int) / 256) = (s.size : Int) / 256 % 256 := by simp [IntKind.wrap, IntKind.bits, IntKind.signed]
  have hw2 : IntKind.u8.wrap (s.size : Int) = (s.size : Int) % 256 := by simp [IntKind.wrap, IntKind.bits, IntKind.signed]
  simp only [hw1, hw2] at hcv
  have hwz : IntKind.i64.wrap (z : Int) = z := IntWalk.i64_in _ (by omega)
  go_region_with (go_at_call 58; (try rw [hwz]); refine (hrep _).mono ?_; rintro e w3 ⟨rfl, hb3⟩; have hbc := bcell hb3)
  all_goals
    go_wp2
    go_ret
    refine ⟨?_, ?_⟩
    · rw [← frame_eq s p rz m z ((s.size : Int) / 256 % 256) ((s.size : Int) % 256) HM.out HE.out hz hRZ.out rfl rfl]
      first | rfl | (simp only [hw1, hw2]; rfl)
    · have hs3 := hb3.size
      simp at hs3
      have q : Below w.heap.size w w3 := Below.trans (by repeat (first | exact Below.refl _ _ | assumption | (refine Below.drew ?_) | (refine below_drewN ?_ _) | (refine Below.alloc ?_ (by simp; done) _) | (refine Below.alloc ?_ (by simp; omega) _))) (hb3.mono (by simp))
      first
        | exact q
        | exact q.alloc (by omega) _
        | exact (q.alloc (by omega) _).drew
end Go.Proofs.Ytncbojocglcieaa

/- bank: Write. -/
namespace Go.Proofs.Ytncbojocglcieaa
open Go.RowKit
set_option linter.unusedSimpArgs false
set_option linter.unusedVariables false
def frB (l : List UInt8) : ByteArray := ⟨(frameL l).toArray⟩
theorem frameB_of (s : ByteArray) : frameB s = frB s.data.toList := rfl
/-- A record's frames. -/
def cutL (l : List UInt8) : List ByteArray := (List.range (nframes l.length)).map fun i => frB (l.drop (i * 62))
theorem cutL_length (l : List UInt8) : (cutL l).length = nframes l.length := by simp [cutL]
theorem frameL_length (l : List UInt8) : (frameL l).length = 64 := by simp [frameL]; omega
theorem frB_size (l : List UInt8) : (frB l).size = 64 := by
  show (frameL l).toArray.size = 64
  rw [List.size_toArray, frameL_length]
/-- Sectors written behind one another, up to the first error. -/
def DevD.puts (d : DevD) (pos : Int) : List ByteArray → DevD × Int
  | [] => (d, 0)
  | f :: fs => if d.putErr pos f = 0 then (d.put pos f).puts (pos + 1) fs else (d, d.putErr pos f)
theorem puts_snoc (d : DevD) (fs : List ByteArray) (f : ByteArray) : ∀ (pos : Int), (d.puts pos fs).2 = 0 →
    d.puts pos (fs ++ [f]) = (if (d.puts pos fs).1.putErr (pos + fs.length) f = 0 then ((d.puts pos fs).1.put (pos + fs.length) f, 0) else ((d.puts pos fs).1, (d.puts pos fs).1.putErr (pos + fs.length) f)) := by
  induction fs generalizing d with
  | nil => intro pos _; simp only [List.nil_append, DevD.puts, List.length_nil, Int.natCast_zero, Int.add_zero]
  | cons x fs ih =>
    intro pos h
    unfold DevD.puts at h ⊢
    rw [List.cons_append]
    by_cases e : d.putErr pos x = 0
    · simp only [if_pos e] at h ⊢
      rw [ih (d.put pos x) (pos + 1) h]
      have : pos + 1 + (fs.length : Int) = pos + ((x :: fs).length : Int) := by simp; omega
      rw [this]
    · rw [if_neg e] at h
      exact absurd h e
/-- An error stands. -/
theorem puts_stop (d : DevD) (fs gs : List ByteArray) : ∀ (pos : Int), (d.puts pos fs).2 ≠ 0 → d.puts pos (fs ++ gs) = d.puts pos fs := by
  induction fs generalizing d with
  | nil => intro pos h; exact absurd rfl h
  | cons x fs ih =>
    intro pos h
    unfold DevD.puts at h ⊢
    rw [List.cons_append]
    by_cases e : d.putErr pos x = 0
    · simp only [if_pos e] at h ⊢
      exact ih _ _ h
    · rw [if_neg e]
      simp only [if_neg e]
theorem puts_size (d : DevD) (fs : List ByteArray) : ∀ pos, (d.puts pos fs).1.size = d.size ∧ (d.puts pos fs).1.queue.length ≤ d.queue.length + fs.length ∧ (d.puts pos fs).1.left ≤ max d.left (d.left - 0) := by
  induction fs generalizing d with
  | nil => intro pos; exact ⟨rfl, Nat.le_add_right _ _, by show d.left ≤ _; omega⟩
  | cons x fs ih =>
    intro pos
    unfold DevD.puts
    by_cases e : d.putErr pos x = 0
    · simp only [if_pos e]
      obtain ⟨h1, h2, h3⟩ := ih (d.put pos x) (pos + 1)
      refine ⟨h1, ?_, ?_⟩
      · have : (d.put pos x).queue.length = d.queue.length + 1 := by simp [DevD.put]
        simp; omega
      · have : (d.put pos x).left ≤ d.left := by unfold DevD.put; simp only; split <;> omega
        omega
    · simp only [if_neg e]
      exact ⟨trivial, Nat.le_add_right _ _, by omega⟩
/-- What is wrong with a record that is to be written. -/
def DevD.wErr (d : DevD) (f s a : Int) (n : Nat) : Int := if d.left = 0 then 13 else if d.on f s = false ∨ a < 1 then 1 else if n = 0 ∨ 60000 < n then 4 else if s - (nframes n : Int) < a then 11 else 0
def DevD.write (d : DevD) (f s a : Int) (r : ByteArray) : DevD × Int × Int :=
  if d.wErr f s a r.size ≠ 0 then (d, 0, d.wErr f s a r.size) else if (d.puts (f + a) (cutL r.data.toList)).2 = 0 then ((d.puts (f + a) (cutL r.data.toList)).1, a + nframes r.size, 0) else ((d.puts (f + a) (cutL r.data.toList)).1, 0, (d.puts (f + a) (cutL r.data.toList)).2)
def WriteRel (w0 : World) (R : Nat → Prop) (g : Nat) (d : DevD) (pos : Int) (r : ByteArray) (wb : World) (iv : Value) (wr : World) : Prop :=
  ∃ i : Nat, iv = .int .i64 i ∧ i ≤ nframes r.size ∧ (d.puts pos ((cutL r.data.toList).take i)).2 = 0 ∧ OwnR w0 wr R g (d.puts pos ((cutL r.data.toList).take i)).1 ∧ Held w0 R wb wr
set_option maxRecDepth 100000 in
set_option maxHeartbeats 2000000 in
theorem write_any {w0 w : World} {R : Nat → Prop} {g : Nat} {d : DevD} (f s a : Int) (r : ByteArray) (h : OwnR w0 w R g d) (hd : d.size ≤ 4096) (hq : d.queue.length ≤ 900000) (hl : d.left ≤ 9223372036854775807) (hr : r.size ≤ 1000000) (hs : s ≤ 9223372036854775807) (ha : a ≤ 9223372036854775807) :
    Calls Try.prog 35 #[.pointer (some ⟨g, 0, none⟩), .int .i64 f, .int .i64 s, .int .i64 a, .string r] w fun e w' =>
      e = .returned (.tuple #[.int .i64 (d.write f s a r).2.1, .int .i64 (d.write f s a r).2.2]) ∧ OwnR w0 w' R g (d.write f s a r).1 ∧ Held w0 R w w' := by
  have H := Lib.hid h
  have hfr := fun w => frames_any (r.size : Int) w (by omega)
  simp only [frames_nat] at hfr
  obtain ⟨k, hk⟩ : ∃ k, nframes r.size = k := ⟨_, rfl⟩
  have hk1 : k ≤ 16200 := by rw [← hk]; unfold nframes; omega
  rw [hk] at hfr
  have HK := Lib.hid hk
  obtain ⟨E, hE⟩ : ∃ E, d.wErr f s a r.size = E := ⟨_, rfl⟩
  have hRlt : ∀ k, R k → k < w.heap.size := fun k q => h.lt q
  have HR := Lib.hid hRlt
  clear h hk hRlt
  by_cases e1 : d.left = 0
  · have hw : d.write f s a r = (d, 0, 13) := by unfold DevD.write DevD.wErr; rw [if_pos e1]; rfl
    have hp : d.pow = 13 := by unfold DevD.pow; rw [if_pos e1]
    rw [hw]
    clear hw hE
    go_enter Try.func35, Try.ntmps35
    go_wp2_with fail
    refine (hfr _).mono ?_
    rintro e w1 ⟨rfl, rfl⟩
    go_wp2_with fail
    refine (power_any H.out).mono ?_
    rintro e w2 ⟨rfl, h2, hb2⟩
    rw [hp]
    have H2 := Lib.hid h2
    go_wp2_with fail
    go_ret2
    exact ⟨rfl, H2.out, Held.below HR.out hb2⟩
  · have hp : d.pow = 0 := by unfold DevD.pow; rw [if_neg e1]
    obtain ⟨o, ho⟩ : ∃ o, d.on f s = o := ⟨_, rfl⟩
    have HON := Lib.hid ho
    have E1 := Lib.hid e1
    clear e1
    by_cases e2 : o = false ∨ a < 1
    · have hw : d.write f s a r = (d, 0, 1) := by unfold DevD.write DevD.wErr; rw [if_neg E1.out, ho, if_pos e2]; rfl
      rw [hw]
      clear hw hE ho
      cases o
      · clear e2
        go_enter Try.func35, Try.ntmps35
        go_wp2_with fail
        refine (hfr _).mono ?_
        rintro e w1 ⟨rfl, rfl⟩
        go_wp2_with fail
        refine (power_any H.out).mono ?_
        rintro e w2 ⟨rfl, h2, hb2⟩
        rw [hp]
        have H2 := Lib.hid h2
        have HB2 := Lib.hid hb2
        clear h2 hb2
        go_wp2_with fail
        refine (on_any f s H2.out hs hd).mono ?_
        rintro e w3 ⟨rfl, rfl⟩
        rw [HON.out]
        go_wp2_with fail
        go_ret2
        exact ⟨rfl, H2.out, Held.below HR.out HB2.out⟩
      · have e3 : a < 1 := by simpa using e2
        clear e2
        go_enter Try.func35, Try.ntmps35
        go_wp2_with fail
        refine (hfr _).mono ?_
        rintro e w1 ⟨rfl, rfl⟩
        go_wp2_with fail
        refine (power_any H.out).mono ?_
        rintro e w2 ⟨rfl, h2, hb2⟩
        rw [hp]
        have H2 := Lib.hid h2
        have HB2 := Lib.hid hb2
        clear h2 hb2
        go_wp2_with fail
        refine (on_any f s H2.out hs hd).mono ?_
        rintro e w3 ⟨rfl, rfl⟩
        rw [HON.out]
        go_wp2_with fail
        go_ret2
        exact ⟨rfl, H2.out, Held.below HR.out HB2.out⟩
    · have ho2 : o = true := by cases o <;> simp_all
      subst ho2
      have e3 : 1 ≤ a := by simp at e2; omega
      have a1 : decide (a < 1) = false := decide_eq_false (by omega)
      have hon : 1 ≤ s ∧ 0 ≤ f ∧ f + s ≤ d.size := by have := ho; unfold DevD.on at this; simpa using this
      have he2 := e2
      by_cases e4 : k = 0 ∨ 60000 < r.size
      · have hw : d.write f s a r = (d, 0, 4) := by
          unfold DevD.write DevD.wErr
          have e4' : r.size = 0 ∨ 60000 < r.size := e4.imp (fun q => by have := HK.out; unfold nframes at this; omega) id
          rw [if_neg E1.out, ho, if_neg e2, if_pos e4']; rfl
        rw [hw]
        clear hw hE ho e2 he2
        rcases Nat.eq_zero_or_pos k with q | q
        · subst q
          clear e4
          go_enter Try.func35, Try.ntmps35
          go_wp2_with fail
          refine (hfr _).mono ?_
          rintro e w1 ⟨rfl, rfl⟩
          go_wp2_with fail
          refine (power_any H.out).mono ?_
          rintro e w2 ⟨rfl, h2, hb2⟩
          rw [hp]
          have H2 := Lib.hid h2
          have HB2 := Lib.hid hb2
          clear h2 hb2
          go_wp2_with fail
          refine (on_any f s H2.out hs hd).mono ?_
          rintro e w3 ⟨rfl, rfl⟩
          rw [HON.out]
          go_wp2_with fail
          go_ret2
          exact ⟨rfl, H2.out, Held.below HR.out HB2.out⟩
        · have e5 : 60000 < r.size := by omega
          have e6 : ((k : Int) == 0) = false := by simp; omega
          have e7 : decide ((60000 : Int) < r.size) = true := decide_eq_true (by omega)
          clear e4
          go_enter Try.func35, Try.ntmps35
          go_wp2_with fail
          refine (hfr _).mono ?_
          rintro e w1 ⟨rfl, rfl⟩
          go_wp2_with fail
          refine (power_any H.out).mono ?_
          rintro e w2 ⟨rfl, h2, hb2⟩
          rw [hp]
          have H2 := Lib.hid h2
          have HB2 := Lib.hid hb2
          clear h2 hb2
          go_wp2_with fail
          refine (on_any f s H2.out hs hd).mono ?_
          rintro e w3 ⟨rfl, rfl⟩
          rw [HON.out]
          go_wp2_with fail
          go_ret2
          exact ⟨rfl, H2.out, Held.below HR.out HB2.out⟩
      · have e5 : ((k : Int) == 0) = false := by simp; omega
        have e6 : decide ((60000 : Int) < r.size) = false := decide_eq_false (by omega)
        have hk0 : 0 < k := by omega
        have hrs : r.size ≤ 60000 := by omega
        have e4' : ¬ (r.size = 0 ∨ 60000 < r.size) := fun q => e4 (q.imp (fun q => by have := HK.out; unfold nframes at this; omega) id)
        have HE4 := Lib.hid e4'
        have HE2 := Lib.hid e2
        have HO' := Lib.hid ho
        clear e4 e4' e2 he2 ho
        by_cases e7 : s - (k : Int) < a
        · have hw : d.write f s a r = (d, 0, 11) := by
            unfold DevD.write DevD.wErr
            rw [if_neg E1.out, HO'.out, if_neg HE2.out, if_neg HE4.out, HK.out, if_pos e7]; rfl
          rw [hw]
          clear hw hE
          go_enter Try.func35, Try.ntmps35
          go_wp2_with fail
          refine (hfr _).mono ?_
          rintro e w1 ⟨rfl, rfl⟩
          go_wp2_with fail
          refine (power_any H.out).mono ?_
          rintro e w2 ⟨rfl, h2, hb2⟩
          rw [hp]
          have H2 := Lib.hid h2
          have HB2 := Lib.hid hb2
          clear h2 hb2
          go_wp2_with fail
          refine (on_any f s H2.out hs hd).mono ?_
          rintro e w3 ⟨rfl, rfl⟩
          rw [HON.out]
          go_wp2_with fail
          go_ret2
          exact ⟨rfl, H2.out, Held.below HR.out HB2.out⟩
        · have e8 : a ≤ s - (k : Int) := by omega
          have e9 : decide (s - (k : Int) < a) = false := decide_eq_false e7
          have hw0 : d.wErr f s a r.size = 0 := by
            unfold DevD.wErr
            rw [if_neg E1.out, HO'.out, if_neg HE2.out, if_neg HE4.out, HK.out, if_neg e7]
          have hw : d.write f s a r = if (d.puts (f + a) (cutL r.data.toList)).2 = 0 then ((d.puts (f + a) (cutL r.data.toList)).1, a + k, 0) else ((d.puts (f + a) (cutL r.data.toList)).1, 0, (d.puts (f + a) (cutL r.data.toList)).2) := by
            unfold DevD.write
            rw [if_neg (by rw [hw0]; decide), HK.out]
          have HW := Lib.hid hw
          clear hw hw0 hE e7
          go_enter Try.func35, Try.ntmps35
          go_wp2_with fail
          refine (hfr _).mono ?_
          rintro e w1 ⟨rfl, rfl⟩
          go_wp2_with fail
          refine (power_any H.out).mono ?_
          rintro e w2 ⟨rfl, h2, hb2⟩
          rw [hp]
          have H2 := Lib.hid h2
          have HB2 := Lib.hid hb2
          clear h2 hb2
          go_wp2_with fail
          refine (on_any f s H2.out hs hd).mono ?_
          rintro e w3 ⟨rfl, rfl⟩
          rw [HON.out]
          go_wp2_with fail
          obtain ⟨q1, q2, q3⟩ := hon
          go_loopw [13, 14, 47] (fun _ _ iv wr => WriteRel w0 R g d (f + a) r w1 iv wr) (fun _ _ iv _ => k - (intOf iv).toNat)
          case atStart => exact ⟨0, rfl, Nat.zero_le _, rfl, H2.out, Held.below HR.out HB2.out⟩
          case round =>
            obtain ⟨i, rfl, hi, herr, hown, hheld⟩ := hrel
            rw [HK.out] at hi
            have HERR := Lib.hid herr
            have HO := Lib.hid hown
            have HH := Lib.hid hheld
            clear herr hown hheld
            by_cases hlt : i < k
            · have hi62 : i * 62 < r.size := by have := HK.out; unfold nframes at this; omega
              have z1 : (0 : Int) ≤ (i : Int) * 62 := by omega
              have z2 : (i : Int) * 62 ≤ r.size := by omega
              have z3 : (i : Int) < k := by omega
              have hps := puts_size d ((cutL r.data.toList).take i) (f + a)
              have hcl : (cutL r.data.toList)[i]? = some (frameB (r.extract (i * 62) r.size)) := by
                have hl : r.data.toList.length = r.size := by rw [Array.length_toList]; rfl
                unfold cutL
                rw [List.getElem?_map, List.getElem?_range (by rw [hl, HK.out]; exact hlt)]
                simp only [Option.map_some, frameB_of, Lib.extract_data]
                congr 2
                rw [← hl]; simp
                rw [List.take_of_length_le (by rw [List.length_drop, hl]; exact Nat.le_refl _)]
              have hil : i < (cutL r.data.toList).length := (List.getElem?_eq_some_iff.1 hcl).1
              have htk : (cutL r.data.toList).take (i + 1) = (cutL r.data.toList).take i ++ [frameB (r.extract (i * 62) r.size)] := by
                rw [List.take_succ_eq_append_getElem hil, (List.getElem?_eq_some_iff.1 hcl).2]
              have hlen : ((cutL r.data.toList).take i).length = i := by rw [List.length_take]; omega
              have hsn := puts_snoc d ((cutL r.data.toList).take i) (frameB (r.extract (i * 62) r.size)) (f + a) HERR.out
              rw [← htk, hlen] at hsn
              rw [hlen] at hps
              have hx1 : (r.extract (i * 62) r.size).size ≤ 1000000 := by rw [ByteArray.size_extract]; omega
              have hsplit := puts_stop d ((cutL r.data.toList).take (i + 1)) ((cutL r.data.toList).drop (i + 1)) (f + a)
              rw [List.take_append_drop] at hsplit
              generalize hX : frameB (r.extract (i * 62) r.size) = X at *
              generalize (d.puts (f + a) ((cutL r.data.toList).take i)).1 = D at *
              generalize hT1 : (cutL r.data.toList).take (i + 1) = T1 at *
              have HT1 := Lib.hid hT1
              clear hT1
              have HSN := Lib.hid hsn
              have HSP := Lib.hid hsplit
              have hD1 : D.queue.length ≤ 1000000 := by omega
              have hD2 : D.left ≤ 9223372036854775807 := by omega
              have HX := Lib.hid hX
              clear hsn hsplit htk hlen hps hcl hil hX
              go_wp2_with fail
              refine (frame_any _ _ hx1).mono ?_
              rintro e w4 ⟨rfl, hb4⟩
              rw [HX.out]
              have H4 := Lib.hid (HO.out.below hb4)
              have HB4 := Lib.hid (Held.below (w0 := w0) (fun k q => HO.out.lt q) hb4)
              clear hb4
              have p1 : f + a + (i : Int) ≤ 4096 := by omega
              go_wp2_with fail
              refine (ownr_put H4.out (f + a + i) X hD1 hD2).mono ?_
              rintro e w5 ⟨rfl, h5, hh5⟩
              obtain ⟨er, her⟩ : ∃ er, D.putErr (f + a + i) X = er := ⟨_, rfl⟩
              rw [her] at h5 ⊢
              have HER := Lib.hid her
              have H5 := Lib.hid h5
              have HH5 := Lib.hid ((HH.out.trans HB4.out).trans hh5)
              clear her h5 hh5
              by_cases h0 : er = 0
              · subst h0
                go_wp2_with fail
                have e1 := HSN.out
                rw [if_pos HER.out] at e1
                have e2 := H5.out
                simp only [if_true] at e2
                refine ⟨⟨i + 1, by go_num, by rw [HK.out]; omega, by rw [HT1.out, e1], by rw [HT1.out, e1]; exact e2, HH5.out⟩, by simp [intOf]; omega⟩
              · have n1 : (er != 0) = true := by simpa using h0
                go_wp2_with fail
                go_ret2
                have e1 := HSN.out
                rw [if_neg (by rw [HER.out]; exact h0), HER.out] at e1
                have e2 := HSP.out (by rw [e1]; exact h0)
                rw [HW.out, e2, e1, if_neg h0]
                have e3 := H5.out
                rw [if_neg h0] at e3
                exact ⟨rfl, e3, HH5.out⟩
            · have ei : i = k := by omega
              subst ei
              go_wp2_with fail
              go_ret2
              have hcl : (cutL r.data.toList).length = i := by rw [cutL_length, Array.length_toList]; exact HK.out
              have e1 := HERR.out
              have e2 := HO.out
              rw [List.take_of_length_le (by omega)] at e1 e2
              rw [HW.out, if_pos e1]
              exact ⟨rfl, e2, HH.out⟩
end Go.Proofs.Ytncbojocglcieaa

/- bank: what stands at a frame, what stands in a bank, in plain Lean. -/
namespace Go.Proofs.Ytncbojocglcieaa
open Go.RowKit
set_option linter.unusedSimpArgs false
set_option linter.unusedVariables false
/-- What frames hold, behind their heads. -/
def frCat (l : List ByteArray) : List UInt8 := l.flatMap fun f => f.data.toList.drop 2
/-- What a frame's head says. -/
def hdB (f : ByteArray) : Nat := (f.data.toList.getD 0 0).toNat * 256 + (f.data.toList.getD 1 0).toNat
def hdN : List ByteArray → Nat
  | [] => 0
  | f :: _ => hdB f
/-- Its record, if it stands. -/
def recL (l : List ByteArray) : List UInt8 := (frCat (l.take (nframes (hdN l)))).take (hdN l)
def stands (l : List ByteArray) : Prop := 1 ≤ hdN l ∧ hdN l ≤ 60000 ∧ nframes (hdN l) ≤ l.length ∧ cutL (recL l) = l.take (nframes (hdN l))
instance (l : List ByteArray) : Decidable (stands l) := by unfold stands; infer_instance
def standL (l : List ByteArray) : List UInt8 := if stands l then recL l else []
theorem cutL_nil : cutL [] = [] := rfl
theorem cutL_cons (r : List UInt8) (h : r ≠ []) : cutL r = frB r :: cutL (r.drop 62) := by
  have hl : 0 < r.length := List.length_pos_iff.2 h
  unfold cutL
  have e : nframes r.length = nframes (r.drop 62).length + 1 := by unfold nframes; rw [List.length_drop]; omega
  rw [e, List.range_succ_eq_map, List.map_cons, List.map_map]
  congr 1
  apply List.map_congr_left
  intro i _
  simp only [Function.comp, List.drop_drop]
  congr 2
  omega
theorem frB_drop (l : List UInt8) : (frB l).data.toList.drop 2 = l.take 62 ++ List.replicate (62 - min l.length 62) 0 := rfl
theorem frB_head (l : List UInt8) (h : l.length < 65536) : hdB (frB l) = l.length := by
  show (UInt8.ofNat (l.length / 256 % 256)).toNat * 256 + (UInt8.ofNat (l.length % 256)).toNat = _
  simp; omega
theorem frCat_cut : ∀ (n : Nat) (r : List UInt8), r.length ≤ n → (frCat (cutL r)).take r.length = r := by
  intro n
  induction n with
  | zero => intro r h; have : r = [] := List.eq_nil_of_length_eq_zero (by omega); subst this; rfl
  | succ n ih =>
    intro r h
    by_cases h0 : r = []
    · subst h0; rfl
    have hl : 0 < r.length := List.length_pos_iff.2 h0
    have i := ih (r.drop 62) (by rw [List.length_drop]; omega)
    rw [cutL_cons r h0]
    unfold frCat at i ⊢
    rw [List.flatMap_cons, frB_drop]
    by_cases h1 : r.length ≤ 62
    · rw [List.append_assoc, List.take_append_of_le_length (by rw [List.length_take]; omega), List.take_take, Nat.min_eq_left h1, List.take_length]
    · have e : 62 - min r.length 62 = 0 := by omega
      rw [e, List.replicate_zero, List.append_nil]
      have e2 : r.length = (r.take 62).length + (r.drop 62).length := by rw [List.length_take, List.length_drop]; omega
      rw [e2, List.take_length_add_append, i, List.take_append_drop]
theorem cut_hd (r : List UInt8) (h : r ≠ []) (h2 : r.length ≤ 60000) (l : List ByteArray) : hdN (cutL r ++ l) = r.length := by
  rw [cutL_cons r h]; exact frB_head r (by omega)
/-- A record's frames stand. -/
theorem stands_cut (r : List UInt8) (h : r ≠ []) (h2 : r.length ≤ 60000) (l : List ByteArray) : standL (cutL r ++ l) = r := by
  have hl : 0 < r.length := List.length_pos_iff.2 h
  have e1 := cut_hd r h h2 l
  have e2 : (cutL r ++ l).take (nframes r.length) = cutL r := by rw [← cutL_length r]; exact List.take_left' rfl
  have e3 : recL (cutL r ++ l) = r := by unfold recL; rw [e1, e2]; exact frCat_cut _ r (Nat.le_refl _)
  have : stands (cutL r ++ l) := by
    unfold stands
    rw [e3, e1, e2]
    exact ⟨hl, h2, by rw [List.length_append, cutL_length]; omega, rfl⟩
  unfold standL
  rw [if_pos this, e3]
theorem stands_zero (l : List ByteArray) : standL (zsec :: l) = [] := by
  have h : ¬ stands (zsec :: l) := fun h => absurd h.1 (by show ¬ 1 ≤ hdB zsec; decide)
  unfold standL
  rw [if_neg h]
theorem frCat_length (l : List ByteArray) (h : ∀ f ∈ l, f.size = 64) : (frCat l).length = 62 * l.length := by
  induction l with
  | nil => rfl
  | cons f l ih =>
    have hf := h f List.mem_cons_self
    have := ih fun g hg => h g (List.mem_cons_of_mem _ hg)
    unfold frCat at this ⊢
    rw [List.flatMap_cons, List.length_append, this, List.length_drop, Array.length_toList, List.length_cons]
    have : f.data.size = 64 := hf
    omega
theorem recL_length (l : List ByteArray) (h : ∀ f ∈ l, f.size = 64) (hk : nframes (hdN l) ≤ l.length) : (recL l).length = hdN l := by
  unfold recL
  rw [List.length_take, frCat_length _ (fun f hf => h f (List.mem_of_mem_take hf)), List.length_take]
  unfold nframes at hk ⊢; omega
/-- What stands in frames, and how many have it. -/
def scanL : Nat → List ByteArray → List (List UInt8) × Nat
  | 0, _ => ([], 0)
  | f + 1, l => if l = [] ∨ standL l = [] then ([], 0) else (standL l :: (scanL f (l.drop (nframes (standL l).length))).1, nframes (standL l).length + (scanL f (l.drop (nframes (standL l).length))).2)
theorem nframes_pos {n : Nat} (h : 0 < n) : 0 < nframes n := by unfold nframes; omega
theorem scanL_more : ∀ (n f : Nat) (l : List ByteArray), l.length ≤ n → l.length ≤ f → scanL f l = scanL l.length l := by
  intro n
  induction n with
  | zero =>
    intro f l h1 h2
    have : l = [] := List.eq_nil_of_length_eq_zero (by omega)
    subst this
    cases f <;> simp [scanL]
  | succ n ih =>
    intro f l h1 h2
    by_cases h0 : l = []
    · subst h0; cases f <;> simp [scanL]
    have hl : 0 < l.length := List.length_pos_iff.2 h0
    obtain ⟨f, rfl⟩ : ∃ g, f = g + 1 := ⟨f - 1, by omega⟩
    obtain ⟨m, hm⟩ : ∃ g, l.length = g + 1 := ⟨l.length - 1, by omega⟩
    rw [hm]
    unfold scanL
    by_cases hs : standL l = []
    · rw [if_pos (Or.inr hs), if_pos (Or.inr hs)]
    · have hp := nframes_pos (List.length_pos_iff.2 hs)
      have hd : (l.drop (nframes (standL l).length)).length ≤ m := by rw [List.length_drop]; omega
      rw [if_neg (by simp [h0, hs]), if_neg (by simp [h0, hs]), ih f _ (by omega) (by omega), ih m _ (by omega) hd]
/-- What stands in frames. -/
def scanned (l : List ByteArray) : List (List UInt8) × Nat := scanL l.length l
theorem scanned_nil : scanned [] = ([], 0) := rfl
theorem scanned_stop (l : List ByteArray) (h : standL l = []) : scanned l = ([], 0) := by
  unfold scanned
  cases hl : l.length with
  | zero => rfl
  | succ m => unfold scanL; rw [if_pos (Or.inr h)]
theorem scanned_go (l : List ByteArray) (h0 : l ≠ []) (h : standL l ≠ []) : scanned l = (standL l :: (scanned (l.drop (nframes (standL l).length))).1, nframes (standL l).length + (scanned (l.drop (nframes (standL l).length))).2) := by
  have hl : 0 < l.length := List.length_pos_iff.2 h0
  have hp := nframes_pos (List.length_pos_iff.2 h)
  unfold scanned
  obtain ⟨m, hm⟩ : ∃ g, l.length = g + 1 := ⟨l.length - 1, by omega⟩
  rw [hm]
  conv => lhs; unfold scanL
  rw [if_neg (by simp [h0, h]), scanL_more m m _ (by rw [List.length_drop]; omega) (by rw [List.length_drop]; omega)]
theorem scanned_le : ∀ (n : Nat) (l : List ByteArray), l.length ≤ n → (∀ f ∈ l, f.size = 64) → (scanned l).2 ≤ l.length := by
  intro n
  induction n with
  | zero => intro l h _; have : l = [] := List.eq_nil_of_length_eq_zero (by omega); subst this; exact Nat.le_refl _
  | succ n ih =>
    intro l h h64
    by_cases h0 : l = []
    · subst h0; exact Nat.le_refl _
    by_cases hs : standL l = []
    · rw [scanned_stop l hs]; exact Nat.zero_le _
    · have hst : stands l := by
        by_cases q : stands l
        · exact q
        · exact absurd (by unfold standL; rw [if_neg q]) hs
      have e : standL l = recL l := by unfold standL; rw [if_pos hst]
      have hk : nframes (standL l).length ≤ l.length := by rw [e, recL_length l h64 hst.2.2.1]; exact hst.2.2.1
      have hp := nframes_pos (List.length_pos_iff.2 hs)
      rw [scanned_go l h0 hs]
      have := ih (l.drop (nframes (standL l).length)) (by rw [List.length_drop]; omega) (fun f hf => h64 f (List.mem_of_mem_drop hf))
      rw [List.length_drop] at this
      show nframes (standL l).length + _ ≤ _
      omega
/-- Records behind one another, and then nothing. -/
theorem scanned_cuts (rs : List (List UInt8)) (tl : List ByteArray) (h : ∀ r ∈ rs, r ≠ [] ∧ r.length ≤ 60000) (ht : tl = [] ∨ standL tl = []) : scanned (rs.flatMap cutL ++ tl) = (rs, (rs.flatMap cutL).length) := by
  induction rs with
  | nil =>
    rcases ht with rfl | ht
    · rfl
    · exact scanned_stop _ ht
  | cons r rs ih =>
    obtain ⟨h1, h2⟩ := h r List.mem_cons_self
    have i := ih fun x hx => h x (List.mem_cons_of_mem _ hx)
    have hs := stands_cut r h1 h2 (rs.flatMap cutL ++ tl)
    rw [List.flatMap_cons, List.append_assoc]
    have hne : cutL r ++ (rs.flatMap cutL ++ tl) ≠ [] := by rw [cutL_cons r h1]; simp
    rw [scanned_go _ hne (by rw [hs]; exact h1), hs]
    have e : (cutL r ++ (rs.flatMap cutL ++ tl)).drop (nframes r.length) = rs.flatMap cutL ++ tl := by rw [← cutL_length r]; exact List.drop_left' rfl
    rw [e, i, List.length_append, cutL_length]
/-- Each record's frames, whatever stands behind. -/
theorem scanned_recs : ∀ (n : Nat) (l : List ByteArray), l.length ≤ n → (∀ f ∈ l, f.size = 64) → (scanned l).1.flatMap cutL = l.take (scanned l).2 ∧ (∀ r ∈ (scanned l).1, r ≠ [] ∧ r.length ≤ 60000) ∧ (l.drop (scanned l).2 = [] ∨ standL (l.drop (scanned l).2) = []) := by
  intro n
  induction n with
  | zero => intro l h _; have : l = [] := List.eq_nil_of_length_eq_zero (by omega); subst this; exact ⟨rfl, fun r hr => by simp [scanned_nil] at hr, Or.inl rfl⟩
  | succ n ih =>
    intro l h h64
    by_cases h0 : l = []
    · subst h0; exact ⟨rfl, fun r hr => by simp [scanned_nil] at hr, Or.inl rfl⟩
    by_cases hs : standL l = []
    · rw [scanned_stop l hs]; exact ⟨rfl, fun r hr => by simp at hr, Or.inr hs⟩
    · have hst : stands l := by
        by_cases q : stands l
        · exact q
        · exact absurd (by unfold standL; rw [if_neg q]) hs
      have e : standL l = recL l := by unfold standL; rw [if_pos hst]
      have hlen : (standL l).length = hdN l := by rw [e]; exact recL_length l h64 hst.2.2.1
      have hp := nframes_pos (List.length_pos_iff.2 hs)
      have hcut : cutL (standL l) = l.take (nframes (standL l).length) := by rw [hlen, e]; exact hst.2.2.2
      obtain ⟨i1, i2, i3⟩ := ih (l.drop (nframes (standL l).length)) (by rw [List.length_drop]; have := List.length_pos_iff.2 h0; omega) (fun f hf => h64 f (List.mem_of_mem_drop hf))
      rw [scanned_go l h0 hs]
      refine ⟨?_, ?_, ?_⟩
      · rw [List.flatMap_cons, i1, hcut, List.take_add]
      · intro r hr
        rcases List.mem_cons.1 hr with rfl | hr
        · exact ⟨hs, by rw [hlen]; exact hst.2.1⟩
        · exact i2 r hr
      · rw [← List.drop_drop]; exact i3
end Go.Proofs.Ytncbojocglcieaa

/- bank: all frames of a bank. -/
namespace Go.Proofs.Ytncbojocglcieaa
open Go.RowKit
set_option linter.unusedSimpArgs false
set_option linter.unusedVariables false
def DevD.secs (d : DevD) (f : Int) (n : Nat) : List ByteArray := (List.range n).map fun (i : Nat) => d.sec (f + i)
theorem secs_length (d : DevD) (f : Int) (n : Nat) : (d.secs f n).length = n := by simp [DevD.secs]
theorem secs_succ (d : DevD) (f : Int) (n : Nat) : d.secs f (n + 1) = d.secs f n ++ [d.sec (f + n)] := by simp [DevD.secs, List.range_succ]
def FrRel (w0 w : World) (R : Nat → Prop) (g : Nat) (d : DevD) (f : Int) (n B : Nat) (ov iv : Value) (wr : World) : Prop :=
  ∃ i : Nat, iv = .int .i64 i ∧ i ≤ n ∧ Row EStr wr B ov (d.secs f i) ∧ Below B w wr
set_option maxRecDepth 100000 in
set_option maxHeartbeats 2000000 in
theorem frames_ok {w0 w : World} {R : Nat → Prop} {g : Nat} {d : DevD} (f : Int) (n : Nat) (h : OwnR w0 w R g d) (hl : d.left ≠ 0) (hf : 0 ≤ f) (hn : f + n ≤ d.size) (hd : d.size ≤ 4096) :
    Calls Try.prog 63 #[.pointer (some ⟨g, 0, none⟩), .int .i64 f, .int .i64 n] w fun e w' => ∃ v, e = .returned (.tuple #[v, .int .i64 0]) ∧ Row EStr w' w.heap.size v (d.secs f n) ∧ OwnR w0 w' R g d ∧ Below w.heap.size w w' := by
  have H := Lib.hid h
  obtain ⟨B, hB⟩ : ∃ B, w.heap.size = B := ⟨_, rfl⟩
  rw [hB]
  have HB := Lib.hid hB
  clear h hB
  go_enter Try.func63, Try.ntmps63
  go_wp2_with fail
  go_loopw [8, 13] (fun ov iv wr => FrRel w0 w R g d f n B ov iv wr) (fun _ iv _ => n - (intOf iv).toNat)
  case atStart => exact ⟨0, rfl, Nat.zero_le _, Row.nil _ _ _, Below.refl _ _⟩
  case round =>
    obtain ⟨i, rfl, hi, hr, hb⟩ := hrel
    have ho := H.out.below (w' := wr) (by rw [HB.out]; exact hb)
    have HR := Lib.hid hr
    have HO := Lib.hid ho
    have HBW := Lib.hid hb
    have hBl : B ≤ wr.heap.size := by have := hb.size; rw [HB.out] at this; exact this
    obtain ⟨oa, oc, rfl⟩ := hr.shape
    rw [secs_length]
    rw [secs_length] at HR
    clear hr ho hb
    by_cases hlt : i < n
    · have i1 : (i : Int) < n := by omega
      have ha : d.ask (f + i) = 0 := by unfold DevD.ask; rw [if_neg hl, if_neg (by omega)]
      have hg : d.get (f + i) = d.sec (f + i) := by unfold DevD.get; rw [if_pos ha]
      have HA := Lib.hid ha
      have HG := Lib.hid hg
      have HS := Lib.hid (secs_succ d f i)
      clear ha hg
      go_wp2_with fail
      refine (ownr_get HO.out (f + i)).mono ?_
      rintro e w1 ⟨rfl, h1, hb1⟩
      rw [HA.out, HG.out]
      have HR1 := Lib.hid (HR.out.below hb1)
      have HO1 := Lib.hid h1
      have HB1 := Lib.hid (HBW.out.trans (hb1.mono hBl))
      have hBl1 : B ≤ w1.heap.size := Nat.le_trans hBl hb1.size
      clear hb1 h1
      generalize d.sec (f + i) = x at *
      go_wp2_with (first
        | (refine app_row EStr.laid rfl _ _ 49 49 Try.underlying49 Try.underlying49 rfl _ (d.secs f i) rfl (HR1.out.alloc _) _ [x] rfl ?c1 ?c2 ?c3 (by simp; omega) ?_
           case c1 => exact Arg.blk (m_alloc _ _ _ rfl) [x] rfl 1
           case c2 => rw [secs_length]; show (i + 1) * 16 ≤ _; omega
           case c3 => rw [secs_length]; show i + 1 ≤ maxLen; unfold maxLen; omega
           intro v3 w3 hr3 hv3 k3
           rw [← HS.out] at hr3))
      have hb3 : Below B w w3 := (HB1.out.alloc (by omega) _).trans (k3.toBelow (by simp; omega) (fun k q => HR1.out.ge q.symm))
      exact ⟨⟨i + 1, by go_num, hlt, hr3, hb3⟩, by simp [intOf]; omega⟩
    · have ei : i = n := by omega
      subst ei
      go_wp2_with fail
      go_ret2
      exact ⟨_, rfl, HR.out, HO.out, HBW.out⟩
end Go.Proofs.Ytncbojocglcieaa

/- Bytes that came of a string: a row that is frozen one past its end. -/
namespace Go.Proofs.Ytncbojocglcieaa
open Go.RowKit
set_option linter.unusedSimpArgs false
set_option linter.unusedVariables false
theorem str_eq_iff (x y : ByteArray) : (x.toList == y.toList) = true ↔ x = y := by
  simp only [beq_iff_eq, ByteArray.toList_eq]
  exact ⟨fun h => ByteArray.ext (Array.ext' h), fun h => by rw [h]⟩
theorem str_ne {x y : ByteArray} (h : x ≠ y) : (x.toList == y.toList) = false := by
  rw [Bool.eq_false_iff]; exact fun q => h ((str_eq_iff x y).1 q)
theorem str_refl (x : ByteArray) : (x.toList == x.toList) = true := (str_eq_iff x x).2 rfl
/-- The bytes l in the block g, of a conversion. -/
def Fz (w : World) (g : Nat) (l : List UInt8) : Prop := ∃ cs t k, w.heap[g]? = some (.cells cs t (k, k + 1)) ∧ l.length ≤ k ∧ ∀ j, j < l.length → cs[j]? = some (.int .u8 (l.getD j 0).toNat)
section
variable {w w' : World} {g : Nat} {l : List UInt8}
theorem Fz.lt (h : Fz w g l) : g < w.heap.size := by obtain ⟨cs, t, k, h, _⟩ := h; exact m_lt h
theorem Fz.same (h : Fz w g l) (e : w'.heap[g]? = w.heap[g]?) : Fz w' g l := by obtain ⟨cs, t, k, h, h2⟩ := h; exact ⟨cs, t, k, e.trans h, h2⟩
theorem Fz.below (h : Fz w g l) (hb : Below w.heap.size w w') : Fz w' g l := h.same (hb.block g h.lt)
theorem Fz.cell (h : Fz w g l) (j : Nat) (hj : j < l.length) : w.cell? ⟨g, j, none⟩ = some (.int .u8 (l.getD j 0).toNat) := by
  obtain ⟨cs, t, k, h, h1, h2⟩ := h
  simp [World.cell?, h, h2 j hj]
theorem Fz.free (h : Fz w g l) (j : Nat) (hj : j < l.length) : w.frozen? ⟨g, j, none⟩ = false := by
  obtain ⟨cs, t, k, h, h1, h2⟩ := h
  simp [World.frozen?, h]; omega
theorem Fz.set (h : Fz w g l) (i : Nat) (c : UInt8) (hi : i < l.length) : Fz (w.setCell ⟨g, i, none⟩ (.int .u8 c.toNat)) g (l.set i c) := by
  obtain ⟨cs, t, k, h, h1, h2⟩ := h
  refine ⟨cs.setIfInBounds i (.int .u8 c.toNat), t, k, ?_, by simpa using h1, fun j hj => ?_⟩
  · have hg := m_lt h
    have hlt : g < w.heap.size := hg
    simp only [World.setCell, Array.getElem?_modify]
    rw [h]; simp
  · rw [List.length_set] at hj
    rw [Array.getElem?_setIfInBounds]
    have hc : i < cs.size := by
      have := h2 i hi
      exact (Array.getElem?_eq_some_iff.1 this).1
    by_cases e : i = j
    · subst e
      rw [if_pos rfl, if_pos hc]; simp [hi, List.getD]
    · rw [if_neg e, h2 j hj]; simp [List.getD, List.getElem?_set, e]
set_option maxRecDepth 10000 in
theorem Fz.convert (h : Fz w g l) (cap : Nat) : (convert 60 9 (.slice (some ⟨g, 0, none⟩) l.length cap)).run Try.prog w = .ok (.string ⟨l.toArray⟩) w := by
  have := run_convert_bytes_arg (P := Try.prog) w 60 5 Try.underlying60 Try.underlying5 g 0 l.length cap (l.map fun c => (c.toNat : Int)) (by simp) (fun i hi => by
    rw [Nat.zero_add, h.cell i hi]; simp [hi, List.getD]) 9 Try.underlying9
  rw [this]
  congr 2
  simp only [strOfNums, List.map_map]
  congr 2
  rw [show ((fun n : Int => UInt8.ofNat n.toNat) ∘ fun c : UInt8 => (c.toNat : Int)) = id from by funext c; simp]
  simp
set_option maxRecDepth 10000 in
theorem fz_conv (h : Fz w g l) (n cap : Nat) (hn : n = l.length) : (convert 60 9 (.slice (some ⟨g, 0, none⟩) n cap)).run Try.prog w = .ok (.string ⟨l.toArray⟩) w := by
  subst hn; exact h.convert cap
theorem fz_new (w : World) (s : ByteArray) : Fz (Lib.bytesWorld w 5 s) w.heap.size s.data.toList := by
  refine ⟨_, _, _, Lib.bytesWorld_at_new w 5 s, ?_, fun j hj => ?_⟩
  · simp [Lib.bytesCells]
  · have hj' : j < s.size := by rw [Array.length_toList] at hj; exact hj
    have := Lib.bytesWorld_cell w 5 s j hj'
    simpa [World.cell?, Lib.bytesWorld_at_new] using this
theorem fz_below (w : World) (s : ByteArray) : Below w.heap.size w (Lib.bytesWorld w 5 s) := by
  refine ⟨?_, ?_, ?_, by rw [Lib.bytesWorld_size]; omega, fun k hk => Lib.bytesWorld_at_old w 5 s k hk⟩
  all_goals simp [Lib.bytesWorld, World.freeze, World.alloc, World.drew, -World.alloc_eq, -World.drew_eq]
end
section
variable {ops : Array Oper} {rest : List Oper} {o : Oper} {a : Act} {w : World} {Q : Exit → Act → World → Prop}
/-- A string into bytes, at the list of a plain region's operations. -/
theorem conv_bytes (hgd : o.guard = none) (x : Operand) (ho : o.op = .convert 9 60 x) (s : ByteArray) (hx : a.eval x = .string s)
    (h : ∀ w' cap, Fz w' w.heap.size s.data.toList → Below w.heap.size w w' → wpList Try.prog ops Q rest (a.put o.dst (.slice (some ⟨w.heap.size, 0, none⟩) s.size cap)) w') : wpList Try.prog ops Q (o :: rest) a w := by
  refine wpList_plain hgd fun K hK => ?_
  unfold Oper.wp execOp
  simp only [ho, hx, Sem.run_bind, Lib.run_convert_string_bytes w 9 60 5 s Try.underlying9 Try.underlying60 Try.underlying5, Result.andThen_ok, Sem.run_pure]
  exact hK _ _ (h _ _ (fz_new w s) (fz_below w s))
theorem conv_fz (hgd : o.guard = none) (x : Operand) (ho : o.op = .convert 60 9 x) (g n cap : Nat) (l : List UInt8) (hx : a.eval x = .slice (some ⟨g, 0, none⟩) n cap) (hn : n = l.length) (hf : Fz w g l)
    (h : wpList Try.prog ops Q rest (a.put o.dst (.string ⟨l.toArray⟩)) w) : wpList Try.prog ops Q (o :: rest) a w := by
  subst hn
  refine wpList_plain hgd fun K hK => ?_
  unfold Oper.wp execOp
  simp only [ho, hx, Sem.run_bind, hf.convert, Result.andThen_ok, Sem.run_pure]
  exact hK _ _ h
/-- At a step of a region that draws. -/
theorem step_conv_fz {K : Act → World → Prop} {E1 : Prop} (hw : Region.wanted o (yielded ops a.tmps) = true) (x : Operand) (ho : o.op = .convert 60 9 x) (g n cap : Nat) (l : List UInt8) (hx : a.eval x = .slice (some ⟨g, 0, none⟩) n cap) (hn : n = l.length) (hf : Fz w g l)
    (h : K (a.put o.dst (.string ⟨l.toArray⟩)) w) : if Region.wanted o (yielded ops a.tmps) = true then Oper.wp Try.prog o a w K Q else E1 := by
  subst hn
  rw [if_pos hw]
  unfold Oper.wp execOp
  simp only [ho, hx, Sem.run_bind, hf.convert, Result.andThen_ok, Sem.run_pure]
  exact h
end
end Go.Proofs.Ytncbojocglcieaa
