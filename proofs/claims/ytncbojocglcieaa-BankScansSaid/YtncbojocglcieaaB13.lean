/- bank: Write, of a record of whatever length. -/
import Derived.Test.YtncbojocglcieaaP8
namespace Go.Proofs.Ytncbojocglcieaa
open Go.RowKit
set_option linter.unusedSimpArgs false
set_option linter.unusedVariables false
set_option maxRecDepth 100000 in
set_option maxHeartbeats 2000000 in
theorem write_all {w0 w : World} {R : Nat → Prop} {g : Nat} {d : DevD} (f s a : Int) (r : ByteArray) (h : OwnR w0 w R g d) (hd : d.size ≤ 4096) (hq : d.queue.length ≤ 900000) (hl : d.left ≤ 9223372036854775807) (hr : r.size ≤ 9223372036854775807) (hs : s ≤ 9223372036854775807) (ha : a ≤ 9223372036854775807) :
    Calls Try.prog 35 #[.pointer (some ⟨g, 0, none⟩), .int .i64 f, .int .i64 s, .int .i64 a, .string r] w fun e w' =>
      e = .returned (.tuple #[.int .i64 (d.write f s a r).2.1, .int .i64 (d.write f s a r).2.2]) ∧ OwnR w0 w' R g (d.write f s a r).1 ∧ Held w0 R w w' := by
  by_cases hbig : r.size ≤ 1000000
  · exact write_any f s a r h hd hq hl hbig hs ha
  have H := Lib.hid h
  have hfr := fun w => frames_any (r.size : Int) w (by omega)
  simp only [frames_nat] at hfr
  obtain ⟨k, hk⟩ : ∃ k, nframes r.size = k := ⟨_, rfl⟩
  have hk1 : 0 < k := by rw [← hk]; unfold nframes; omega
  rw [hk] at hfr
  have HR := Lib.hid (show ∀ k, R k → k < w.heap.size from fun k q => h.lt q)
  have hw : d.write f s a r = (d, 0, if d.left = 0 then 13 else if d.on f s = false ∨ a < 1 then 1 else 4) := by
    have e : d.wErr f s a r.size = if d.left = 0 then 13 else if d.on f s = false ∨ a < 1 then 1 else 4 := by
      unfold DevD.wErr
      by_cases e1 : d.left = 0
      · rw [if_pos e1, if_pos e1]
      · rw [if_neg e1, if_neg e1]
        by_cases e2 : d.on f s = false ∨ a < 1
        · rw [if_pos e2, if_pos e2]
        · rw [if_neg e2, if_neg e2, if_pos (by omega)]
    unfold DevD.write
    rw [e, if_pos (by split; decide; split <;> decide)]
  rw [hw]
  clear h hk hw
  have e5 : 60000 < r.size := by omega
  have e6 : ((k : Int) == 0) = false := by simp; omega
  have e7 : decide ((60000 : Int) < r.size) = true := decide_eq_true (by omega)
  by_cases e1 : d.left = 0
  · have hp : d.pow = 13 := by unfold DevD.pow; rw [if_pos e1]
    rw [if_pos e1]
    clear e1
    go_enter Try.func35, Try.ntmps35
    go_wp2_with fail
    refine (hfr _).mono ?_
    rintro e w1 ⟨rfl, rfl⟩
    go_wp2_with fail
    refine (power_any H.out).mono ?_
    rintro e w2 ⟨rfl, h2, hb2⟩
    rw [hp]
    have H2 := Lib.hid h2
    go_wp2_with fail
    go_ret2
    exact ⟨rfl, H2.out, Held.below HR.out hb2⟩
  · have hp : d.pow = 0 := by unfold DevD.pow; rw [if_neg e1]
    rw [if_neg e1]
    clear e1
    obtain ⟨o, ho⟩ : ∃ o, d.on f s = o := ⟨_, rfl⟩
    rw [ho]
    have HON := Lib.hid ho
    clear ho
    cases o
    · rw [if_pos (Or.inl rfl)]
      go_enter Try.func35, Try.ntmps35
      go_wp2_with fail
      refine (hfr _).mono ?_
      rintro e w1 ⟨rfl, rfl⟩
      go_wp2_with fail
      refine (power_any H.out).mono ?_
      rintro e w2 ⟨rfl, h2, hb2⟩
      rw [hp]
      have H2 := Lib.hid h2
      have HB2 := Lib.hid hb2
      clear h2 hb2
      go_wp2_with fail
      refine (on_any f s H2.out hs hd).mono ?_
      rintro e w3 ⟨rfl, rfl⟩
      rw [HON.out]
      go_wp2_with fail
      go_ret2
      exact ⟨rfl, H2.out, Held.below HR.out HB2.out⟩
    · by_cases a1 : a < 1
      · rw [if_pos (Or.inr a1)]
        go_enter Try.func35, Try.ntmps35
        go_wp2_with fail
        refine (hfr _).mono ?_
        rintro e w1 ⟨rfl, rfl⟩
        go_wp2_with fail
        refine (power_any H.out).mono ?_
        rintro e w2 ⟨rfl, h2, hb2⟩
        rw [hp]
        have H2 := Lib.hid h2
        have HB2 := Lib.hid hb2
        clear h2 hb2
        go_wp2_with fail
        refine (on_any f s H2.out hs hd).mono ?_
        rintro e w3 ⟨rfl, rfl⟩
        rw [HON.out]
        go_wp2_with fail
        go_ret2
        exact ⟨rfl, H2.out, Held.below HR.out HB2.out⟩
      · rw [if_neg (by simp [a1])]
        have a2 : decide (a < 1) = false := decide_eq_false a1
        clear a1
        go_enter Try.func35, Try.ntmps35
        go_wp2_with fail
        refine (hfr _).mono ?_
        rintro e w1 ⟨rfl, rfl⟩
        go_wp2_with fail
        refine (power_any H.out).mono ?_
        rintro e w2 ⟨rfl, h2, hb2⟩
        rw [hp]
        have H2 := Lib.hid h2
        have HB2 := Lib.hid hb2
        clear h2 hb2
        go_wp2_with fail
        refine (on_any f s H2.out hs hd).mono ?_
        rintro e w3 ⟨rfl, rfl⟩
        rw [HON.out]
        go_wp2_with fail
        go_ret2
        exact ⟨rfl, H2.out, Held.below HR.out HB2.out⟩
end Go.Proofs.Ytncbojocglcieaa
