/- bank: Wipe. -/
import Derived.Test.YtncbojocglcieaaC3
namespace Go.Proofs.Ytncbojocglcieaa
open Go.RowKit
set_option linter.unusedSimpArgs false
set_option linter.unusedVariables false
/-- Sectors that are made noughts, up to the first error. -/
def DevD.wipes : DevD → Int → Nat → DevD × Int
  | d, _, 0 => (d, 0)
  | d, pos, n + 1 => if d.left = 0 then (d, 13) else if d.sec pos = zsec then d.wipes (pos + 1) n else (d.put pos zsec).wipes (pos + 1) n
def DevD.wipe (d : DevD) (f s a : Int) : DevD × Int := if d.left = 0 then (d, 13) else if d.on f s = false then (d, 1) else d.wipes (f + max a 1) (s - max a 1).toNat
theorem zsec_size : zsec.size = 64 := by simp [zsec, ByteArray.size]
theorem put_parts (d : DevD) (i : Int) (x : ByteArray) : (d.put i x).size = d.size ∧ (d.put i x).queue.length = d.queue.length + 1 ∧ (d.put i x).left ≤ d.left := by
  refine ⟨rfl, by simp [DevD.put], ?_⟩
  unfold DevD.put; simp only; split <;> omega
def WipeRel (w0 : World) (R : Nat → Prop) (g : Nat) (d : DevD) (pos m : Int) (cnt : Nat) (wb : World) (iv : Value) (wr : World) : Prop :=
  ∃ (i : Nat) (D : DevD), iv = .int .i64 (m + i) ∧ i ≤ cnt ∧ OwnR w0 wr R g D ∧ d.wipes pos cnt = D.wipes (pos + i) (cnt - i) ∧ D.size = d.size ∧ D.queue.length ≤ d.queue.length + i ∧ D.left ≤ d.left ∧ Held w0 R wb wr
set_option maxRecDepth 100000 in
set_option maxHeartbeats 2000000 in
theorem wipe_any {w0 w : World} {R : Nat → Prop} {g : Nat} {d : DevD} (f s a : Int) (h : OwnR w0 w R g d) (hd : d.size ≤ 4096) (hq : d.queue.length ≤ 900000) (hl : d.left ≤ 9223372036854775807) (hs : s ≤ 9223372036854775807) (ha : a ≤ 9223372036854775807) :
    Calls Try.prog 40 #[.pointer (some ⟨g, 0, none⟩), .int .i64 f, .int .i64 s, .int .i64 a] w fun e w' =>
      e = .returned (.int .i64 (d.wipe f s a).2) ∧ OwnR w0 w' R g (d.wipe f s a).1 ∧ Held w0 R w w' := by
  have H := Lib.hid h
  have hRlt : ∀ k, R k → k < w.heap.size := fun k q => h.lt q
  have HR := Lib.hid hRlt
  obtain ⟨W, hW⟩ : ∃ W, d.wipe f s a = W := ⟨_, rfl⟩
  rw [hW]
  have HW := Lib.hid hW
  clear h hRlt hW
  by_cases e1 : d.left = 0
  · have hw : W = (d, 13) := by rw [← HW.out]; unfold DevD.wipe; rw [if_pos e1]
    have hp : d.pow = 13 := by unfold DevD.pow; rw [if_pos e1]
    subst hw
    go_enter Try.func40, Try.ntmps40
    go_wp2_with fail
    refine (power_any H.out).mono ?_
    rintro e w2 ⟨rfl, h2, hb2⟩
    rw [hp]
    have H2 := Lib.hid h2
    go_wp2_with fail
    go_ret
    exact ⟨rfl, H2.out, Held.below HR.out hb2⟩
  · have hp : d.pow = 0 := by unfold DevD.pow; rw [if_neg e1]
    obtain ⟨o, ho⟩ : ∃ o, d.on f s = o := ⟨_, rfl⟩
    have HON := Lib.hid ho
    have E1 := Lib.hid e1
    clear e1 ho
    cases o
    · have hw : W = (d, 1) := by rw [← HW.out]; unfold DevD.wipe; rw [if_neg E1.out, if_pos HON.out]
      subst hw
      go_enter Try.func40, Try.ntmps40
      go_wp2_with fail
      refine (power_any H.out).mono ?_
      rintro e w2 ⟨rfl, h2, hb2⟩
      rw [hp]
      have H2 := Lib.hid h2
      have HB2 := Lib.hid hb2
      clear h2 hb2
      go_wp2_with fail
      refine (on_any f s H2.out hs hd).mono ?_
      rintro e w3 ⟨rfl, rfl⟩
      rw [HON.out]
      go_wp2_with fail
      go_ret
      exact ⟨rfl, H2.out, Held.below HR.out HB2.out⟩
    · have hon : 1 ≤ s ∧ 0 ≤ f ∧ f + s ≤ d.size := by have := HON.out; unfold DevD.on at this; simpa using this
      obtain ⟨q1, q2, q3⟩ := hon
      obtain ⟨m, hm⟩ : ∃ m, max a 1 = m := ⟨_, rfl⟩
      obtain ⟨cnt, hcnt⟩ : ∃ n, (s - m).toNat = n := ⟨_, rfl⟩
      have hm1 : 1 ≤ m := by omega
      have hm2 : m ≤ 9223372036854775807 := by omega
      have hw : d.wipes (f + m) cnt = W := by
        rw [← HW.out]; unfold DevD.wipe; rw [if_neg E1.out, if_neg (by rw [HON.out]; decide), hm, hcnt]
      have HWW := Lib.hid hw
      have HM := Lib.hid hm
      clear hw HW
      have hrep := fun w => rep_any 64 w (by decide)
      rw [show (⟨(List.replicate 64 (0 : UInt8)).toArray⟩ : ByteArray) = zsec from rfl] at hrep
      have hzs := zsec_size
      obtain ⟨Z, hZ⟩ : ∃ Z, zsec = Z := ⟨_, rfl⟩
      rw [hZ] at hrep hzs
      have HZ := Lib.hid hZ
      clear hZ
      go_enter Try.func40, Try.ntmps40
      go_wp2_with fail
      refine (power_any H.out).mono ?_
      rintro e w2 ⟨rfl, h2, hb2⟩
      rw [hp]
      have H2 := Lib.hid h2
      have HB2 := Lib.hid hb2
      clear h2 hb2
      go_wp2_with fail
      refine (on_any f s H2.out hs hd).mono ?_
      rintro e w3 ⟨rfl, rfl⟩
      rw [HON.out]
      go_wp2_with fail
      refine (hrep _).mono ?_
      rintro e w4 ⟨rfl, hb4⟩
      have H4 := Lib.hid (H2.out.below hb4)
      have HH4 := Lib.hid ((Held.below (w0 := w0) HR.out HB2.out).trans (Held.below (fun k q => H2.out.lt q) hb4))
      clear hb4
      go_wp2_with fail
      go_loopw [10] (fun iv wr => WipeRel w0 R g d (f + m) m cnt w iv wr) (fun iv _ => (s - intOf iv).toNat)
      case atStart => exact ⟨0, d, by rw [← HM.out]; simp, Nat.zero_le _, H4.out, by simp, rfl, by omega, Int.le_refl _, HH4.out⟩
      case round =>
        obtain ⟨i, D, rfl, hi, hown, heq, hsz, hqq, hll, hheld⟩ := hrel
        have HO := Lib.hid hown
        have HEQ := Lib.hid heq
        have HH := Lib.hid hheld
        clear hown heq hheld
        by_cases hlt : i < cnt
        · have i1 : m + (i : Int) < s := by omega
          have i2 : m + (i : Int) ≤ 4096 := by omega
          have i3 : f + (m + (i : Int)) ≤ 4096 := by omega
          have hstep : D.wipes (f + m + i) (cnt - i) = if D.left = 0 then (D, 13) else if D.sec (f + (m + i)) = Z then D.wipes (f + m + (i + 1 : Nat)) (cnt - (i + 1)) else (D.put (f + (m + i)) Z).wipes (f + m + (i + 1 : Nat)) (cnt - (i + 1)) := by
            rw [show cnt - i = (cnt - (i + 1)) + 1 from by omega, DevD.wipes, HZ.out, show f + m + (i : Int) + 1 = f + m + (i + 1 : Nat) from by omega, show f + m + (i : Int) = f + (m + i) from by omega]
          have HSTEP := Lib.hid hstep
          clear hstep
          by_cases h0 : D.left = 0
          · have hask : D.ask (f + (m + i)) = 13 := by unfold DevD.ask; rw [if_pos h0]
            have hget : D.get (f + (m + i)) = ⟨#[]⟩ := by unfold DevD.get; rw [if_neg (by rw [hask]; decide)]
            have HA := Lib.hid hask
            have HG := Lib.hid hget
            have H0 := Lib.hid h0
            clear hask hget h0
            go_wp2_with fail
            refine (ownr_get HO.out (f + (m + i))).mono ?_
            rintro e w5 ⟨rfl, h5, hb5⟩
            rw [HA.out, HG.out]
            have H5 := Lib.hid h5
            have HH5 := Lib.hid (HH.out.trans (Held.below (fun k q => HO.out.lt q) hb5))
            clear h5 hb5
            go_wp2_with fail
            go_ret
            have e1 := HEQ.out
            rw [HSTEP.out, if_pos H0.out, HWW.out] at e1
            subst e1
            exact ⟨rfl, H5.out, HH5.out⟩
          · have hask : D.ask (f + (m + i)) = 0 := by unfold DevD.ask; rw [if_neg h0, if_neg (by rw [hsz]; omega)]
            have hget : D.get (f + (m + i)) = D.sec (f + (m + i)) := by unfold DevD.get; rw [if_pos hask]
            have hpe : D.putErr (f + (m + i)) Z = 0 := by unfold DevD.putErr; rw [if_neg (by rw [hask]; decide), if_neg (by rw [hzs]; decide)]
            have hpp := put_parts D (f + (m + i)) Z
            have HA := Lib.hid hask
            have HG := Lib.hid hget
            have HPE := Lib.hid hpe
            have H0 := Lib.hid h0
            clear hask hget h0 hpe
            go_wp2_with fail
            refine (ownr_get HO.out (f + (m + i))).mono ?_
            rintro e w5 ⟨rfl, h5, hb5⟩
            rw [HA.out, HG.out]
            have H5 := Lib.hid h5
            have HH5 := Lib.hid (HH.out.trans (Held.below (fun k q => HO.out.lt q) hb5))
            clear h5 hb5
            have e1 := HEQ.out
            rw [HSTEP.out, if_neg H0.out] at e1
            by_cases hZ : D.sec (f + (m + i)) = Z
            · rw [if_pos hZ] at e1
              rw [hZ]
              have HE1 := Lib.hid e1
              have hre := str_refl Z
              clear e1 hZ
              go_wp2_with fail
              exact ⟨⟨i + 1, D, by go_num, hlt, H5.out, HE1.out, hsz, by omega, hll, HH5.out⟩, by simp [intOf]; omega⟩
            · rw [if_neg hZ] at e1
              have hne := str_ne hZ
              have HE1 := Lib.hid e1
              clear e1 hZ
              generalize D.sec (f + (m + i)) = X at *
              go_wp2_with fail
              refine (ownr_put_ok H5.out (f + (m + i)) Z (by omega) (by omega) HPE.out).mono ?_
              rintro e w6 ⟨rfl, h6, hh6⟩
              have H6 := Lib.hid h6
              have HH6 := Lib.hid (HH5.out.trans hh6)
              clear h6 hh6
              obtain ⟨p1, p2, p3⟩ := hpp
              go_wp2_with fail
              exact ⟨⟨i + 1, _, by go_num, hlt, H6.out, HE1.out, by rw [p1, hsz], by omega, by omega, HH6.out⟩, by simp [intOf]; omega⟩
        · have ei : i = cnt := by omega
          subst ei
          have i1 : s ≤ m + (i : Int) := by omega
          have i2 : ¬ (m + (i : Int) < s) := by omega
          go_wp2_with fail
          go_ret
          have e1 := HEQ.out
          rw [Nat.sub_self, HWW.out, DevD.wipes] at e1
          subst e1
          exact ⟨rfl, HO.out, HH.out⟩
end Go.Proofs.Ytncbojocglcieaa
