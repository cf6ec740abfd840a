/- bank: Write. -/
import Derived.Test.YtncbojocglcieaaB2
import Derived.Lib.Strings
namespace Go.Proofs.Ytncbojocglcieaa
open Go.RowKit
set_option linter.unusedSimpArgs false
set_option linter.unusedVariables false
def frB (l : List UInt8) : ByteArray := ⟨(frameL l).toArray⟩
theorem frameB_of (s : ByteArray) : frameB s = frB s.data.toList := rfl
/-- A record's frames. -/
def cutL (l : List UInt8) : List ByteArray := (List.range (nframes l.length)).map fun i => frB (l.drop (i * 62))
theorem cutL_length (l : List UInt8) : (cutL l).length = nframes l.length := by simp [cutL]
theorem frameL_length (l : List UInt8) : (frameL l).length = 64 := by simp [frameL]; omega
theorem frB_size (l : List UInt8) : (frB l).size = 64 := by
  show (frameL l).toArray.size = 64
  rw [List.size_toArray, frameL_length]
/-- Sectors written behind one another, up to the first error. -/
def DevD.puts (d : DevD) (pos : Int) : List ByteArray → DevD × Int
  | [] => (d, 0)
  | f :: fs => if d.putErr pos f = 0 then (d.put pos f).puts (pos + 1) fs else (d, d.putErr pos f)
theorem puts_snoc (d : DevD) (fs : List ByteArray) (f : ByteArray) : ∀ (pos : Int), (d.puts pos fs).2 = 0 →
    d.puts pos (fs ++ [f]) = (if (d.puts pos fs).1.putErr (pos + fs.length) f = 0 then ((d.puts pos fs).1.put (pos + fs.length) f, 0) else ((d.puts pos fs).1, (d.puts pos fs).1.putErr (pos + fs.length) f)) := by
  induction fs generalizing d with
  | nil => intro pos _; simp only [List.nil_append, DevD.puts, List.length_nil, Int.natCast_zero, Int.add_zero]
  | cons x fs ih =>
    intro pos h
    unfold DevD.puts at h ⊢
    rw [List.cons_append]
    by_cases e : d.putErr pos x = 0
    · simp only [if_pos e] at h ⊢
      rw [ih (d.put pos x) (pos + 1) h]
      have : pos + 1 + (fs.length : Int) = pos + ((x :: fs).length : Int) := by simp; omega
      rw [this]
    · rw [if_neg e] at h
      exact absurd h e
/-- An error stands. -/
theorem puts_stop (d : DevD) (fs gs : List ByteArray) : ∀ (pos : Int), (d.puts pos fs).2 ≠ 0 → d.puts pos (fs ++ gs) = d.puts pos fs := by
  induction fs generalizing d with
  | nil => intro pos h; exact absurd rfl h
  | cons x fs ih =>
    intro pos h
    unfold DevD.puts at h ⊢
    rw [List.cons_append]
    by_cases e : d.putErr pos x = 0
    · simp only [if_pos e] at h ⊢
      exact ih _ _ h
    · rw [if_neg e]
      simp only [if_neg e]
theorem puts_size (d : DevD) (fs : List ByteArray) : ∀ pos, (d.puts pos fs).1.size = d.size ∧ (d.puts pos fs).1.queue.length ≤ d.queue.length + fs.length ∧ (d.puts pos fs).1.left ≤ max d.left (d.left - 0) := by
  induction fs generalizing d with
  | nil => intro pos; exact ⟨rfl, Nat.le_add_right _ _, by show d.left ≤ _; omega⟩
  | cons x fs ih =>
    intro pos
    unfold DevD.puts
    by_cases e : d.putErr pos x = 0
    · simp only [if_pos e]
      obtain ⟨h1, h2, h3⟩ := ih (d.put pos x) (pos + 1)
      refine ⟨h1, ?_, ?_⟩
      · have : (d.put pos x).queue.length = d.queue.length + 1 := by simp [DevD.put]
        simp; omega
      · have : (d.put pos x).left ≤ d.left := by unfold DevD.put; simp only; split <;> omega
        omega
    · simp only [if_neg e]
      exact ⟨trivial, Nat.le_add_right _ _, by omega⟩
/-- What is wrong with a record that is to be written. -/
def DevD.wErr (d : DevD) (f s a : Int) (n : Nat) : Int := if d.left = 0 then 13 else if d.on f s = false ∨ a < 1 then 1 else if n = 0 ∨ 60000 < n then 4 else if s - (nframes n : Int) < a then 11 else 0
def DevD.write (d : DevD) (f s a : Int) (r : ByteArray) : DevD × Int × Int :=
  if d.wErr f s a r.size ≠ 0 then (d, 0, d.wErr f s a r.size) else if (d.puts (f + a) (cutL r.data.toList)).2 = 0 then ((d.puts (f + a) (cutL r.data.toList)).1, a + nframes r.size, 0) else ((d.puts (f + a) (cutL r.data.toList)).1, 0, (d.puts (f + a) (cutL r.data.toList)).2)
def WriteRel (w0 : World) (R : Nat → Prop) (g : Nat) (d : DevD) (pos : Int) (r : ByteArray) (wb : World) (iv : Value) (wr : World) : Prop :=
  ∃ i : Nat, iv = .int .i64 i ∧ i ≤ nframes r.size ∧ (d.puts pos ((cutL r.data.toList).take i)).2 = 0 ∧ OwnR w0 wr R g (d.puts pos ((cutL r.data.toList).take i)).1 ∧ Held w0 R wb wr
set_option maxRecDepth 100000 in
set_option maxHeartbeats 2000000 in
theorem write_any {w0 w : World} {R : Nat → Prop} {g : Nat} {d : DevD} (f s a : Int) (r : ByteArray) (h : OwnR w0 w R g d) (hd : d.size ≤ 4096) (hq : d.queue.length ≤ 900000) (hl : d.left ≤ 9223372036854775807) (hr : r.size ≤ 1000000) (hs : s ≤ 9223372036854775807) (ha : a ≤ 9223372036854775807) :
    Calls Try.prog 35 #[.pointer (some ⟨g, 0, none⟩), .int .i64 f, .int .i64 s, .int .i64 a, .string r] w fun e w' =>
      e = .returned (.tuple #[.int .i64 (d.write f s a r).2.1, .int .i64 (d.write f s a r).2.2]) ∧ OwnR w0 w' R g (d.write f s a r).1 ∧ Held w0 R w w' := by
  have H := Lib.hid h
  have hfr := fun w => frames_any (r.size : Int) w (by omega)
  simp only [frames_nat] at hfr
  obtain ⟨k, hk⟩ : ∃ k, nframes r.size = k := ⟨_, rfl⟩
  have hk1 : k ≤ 16200 := by rw [← hk]; unfold nframes; omega
  rw [hk] at hfr
  have HK := Lib.hid hk
  obtain ⟨E, hE⟩ : ∃ E, d.wErr f s a r.size = E := ⟨_, rfl⟩
  have hRlt : ∀ k, R k → k < w.heap.size := fun k q => h.lt q
  have HR := Lib.hid hRlt
  clear h hk hRlt
  by_cases e1 : d.left = 0
  · have hw : d.write f s a r = (d, 0, 13) := by unfold DevD.write DevD.wErr; rw [if_pos e1]; rfl
    have hp : d.pow = 13 := by unfold DevD.pow; rw [if_pos e1]
    rw [hw]
    clear hw hE
    go_enter Try.func35, Try.ntmps35
    go_wp2_with fail
    refine (hfr _).mono ?_
    rintro e w1 ⟨rfl, rfl⟩
    go_wp2_with fail
    refine (power_any H.out).mono ?_
    rintro e w2 ⟨rfl, h2, hb2⟩
    rw [hp]
    have H2 := Lib.hid h2
    go_wp2_with fail
    go_ret2
    exact ⟨rfl, H2.out, Held.below HR.out hb2⟩
  · have hp : d.pow = 0 := by unfold DevD.pow; rw [if_neg e1]
    obtain ⟨o, ho⟩ : ∃ o, d.on f s = o := ⟨_, rfl⟩
    have HON := Lib.hid ho
    have E1 := Lib.hid e1
    clear e1
    by_cases e2 : o = false ∨ a < 1
    · have hw : d.write f s a r = (d, 0, 1) := by unfold DevD.write DevD.wErr; rw [if_neg E1.out, ho, if_pos e2]; rfl
      rw [hw]
      clear hw hE ho
      cases o
      · clear e2
        go_enter Try.func35, Try.ntmps35
        go_wp2_with fail
        refine (hfr _).mono ?_
        rintro e w1 ⟨rfl, rfl⟩
        go_wp2_with fail
        refine (power_any H.out).mono ?_
        rintro e w2 ⟨rfl, h2, hb2⟩
        rw [hp]
        have H2 := Lib.hid h2
        have HB2 := Lib.hid hb2
        clear h2 hb2
        go_wp2_with fail
        refine (on_any f s H2.out hs hd).mono ?_
        rintro e w3 ⟨rfl, rfl⟩
        rw [HON.out]
        go_wp2_with fail
        go_ret2
        exact ⟨rfl, H2.out, Held.below HR.out HB2.out⟩
      · have e3 : a < 1 := by simpa using e2
        clear e2
        go_enter Try.func35, Try.ntmps35
        go_wp2_with fail
        refine (hfr _).mono ?_
        rintro e w1 ⟨rfl, rfl⟩
        go_wp2_with fail
        refine (power_any H.out).mono ?_
        rintro e w2 ⟨rfl, h2, hb2⟩
        rw [hp]
        have H2 := Lib.hid h2
        have HB2 := Lib.hid hb2
        clear h2 hb2
        go_wp2_with fail
        refine (on_any f s H2.out hs hd).mono ?_
        rintro e w3 ⟨rfl, rfl⟩
        rw [HON.out]
        go_wp2_with fail
        go_ret2
        exact ⟨rfl, H2.out, Held.below HR.out HB2.out⟩
    · have ho2 : o = true := by cases o <;> simp_all
      subst ho2
      have e3 : 1 ≤ a := by simp at e2; omega
      have a1 : decide (a < 1) = false := decide_eq_false (by omega)
      have hon : 1 ≤ s ∧ 0 ≤ f ∧ f + s ≤ d.size := by have := ho; unfold DevD.on at this; simpa using this
      have he2 := e2
      by_cases e4 : k = 0 ∨ 60000 < r.size
      · have hw : d.write f s a r = (d, 0, 4) := by
          unfold DevD.write DevD.wErr
          have e4' : r.size = 0 ∨ 60000 < r.size := e4.imp (fun q => by have := HK.out; unfold nframes at this; omega) id
          rw [if_neg E1.out, ho, if_neg e2, if_pos e4']; rfl
        rw [hw]
        clear hw hE ho e2 he2
        rcases Nat.eq_zero_or_pos k with q | q
        · subst q
          clear e4
          go_enter Try.func35, Try.ntmps35
          go_wp2_with fail
          refine (hfr _).mono ?_
          rintro e w1 ⟨rfl, rfl⟩
          go_wp2_with fail
          refine (power_any H.out).mono ?_
          rintro e w2 ⟨rfl, h2, hb2⟩
          rw [hp]
          have H2 := Lib.hid h2
          have HB2 := Lib.hid hb2
          clear h2 hb2
          go_wp2_with fail
          refine (on_any f s H2.out hs hd).mono ?_
          rintro e w3 ⟨rfl, rfl⟩
          rw [HON.out]
          go_wp2_with fail
          go_ret2
          exact ⟨rfl, H2.out, Held.below HR.out HB2.out⟩
        · have e5 : 60000 < r.size := by omega
          have e6 : ((k : Int) == 0) = false := by simp; omega
          have e7 : decide ((60000 : Int) < r.size) = true := decide_eq_true (by omega)
          clear e4
          go_enter Try.func35, Try.ntmps35
          go_wp2_with fail
          refine (hfr _).mono ?_
          rintro e w1 ⟨rfl, rfl⟩
          go_wp2_with fail
          refine (power_any H.out).mono ?_
          rintro e w2 ⟨rfl, h2, hb2⟩
          rw [hp]
          have H2 := Lib.hid h2
          have HB2 := Lib.hid hb2
          clear h2 hb2
          go_wp2_with fail
          refine (on_any f s H2.out hs hd).mono ?_
          rintro e w3 ⟨rfl, rfl⟩
          rw [HON.out]
          go_wp2_with fail
          go_ret2
          exact ⟨rfl, H2.out, Held.below HR.out HB2.out⟩
      · have e5 : ((k : Int) == 0) = false := by simp; omega
        have e6 : decide ((60000 : Int) < r.size) = false := decide_eq_false (by omega)
        have hk0 : 0 < k := by omega
        have hrs : r.size ≤ 60000 := by omega
        have e4' : ¬ (r.size = 0 ∨ 60000 < r.size) := fun q => e4 (q.imp (fun q => by have := HK.out; unfold nframes at this; omega) id)
        have HE4 := Lib.hid e4'
        have HE2 := Lib.hid e2
        have HO' := Lib.hid ho
        clear e4 e4' e2 he2 ho
        by_cases e7 : s - (k : Int) < a
        · have hw : d.write f s a r = (d, 0, 11) := by
            unfold DevD.write DevD.wErr
            rw [if_neg E1.out, HO'.out, if_neg HE2.out, if_neg HE4.out, HK.out, if_pos e7]; rfl
          rw [hw]
          clear hw hE
          go_enter Try.func35, Try.ntmps35
          go_wp2_with fail
          refine (hfr _).mono ?_
          rintro e w1 ⟨rfl, rfl⟩
          go_wp2_with fail
          refine (power_any H.out).mono ?_
          rintro e w2 ⟨rfl, h2, hb2⟩
          rw [hp]
          have H2 := Lib.hid h2
          have HB2 := Lib.hid hb2
          clear h2 hb2
          go_wp2_with fail
          refine (on_any f s H2.out hs hd).mono ?_
          rintro e w3 ⟨rfl, rfl⟩
          rw [HON.out]
          go_wp2_with fail
          go_ret2
          exact ⟨rfl, H2.out, Held.below HR.out HB2.out⟩
        · have e8 : a ≤ s - (k : Int) := by omega
          have e9 : decide (s - (k : Int) < a) = false := decide_eq_false e7
          have hw0 : d.wErr f s a r.size = 0 := by
            unfold DevD.wErr
            rw [if_neg E1.out, HO'.out, if_neg HE2.out, if_neg HE4.out, HK.out, if_neg e7]
          have hw : d.write f s a r = if (d.puts (f + a) (cutL r.data.toList)).2 = 0 then ((d.puts (f + a) (cutL r.data.toList)).1, a + k, 0) else ((d.puts (f + a) (cutL r.data.toList)).1, 0, (d.puts (f + a) (cutL r.data.toList)).2) := by
            unfold DevD.write
            rw [if_neg (by rw [hw0]; decide), HK.out]
          have HW := Lib.hid hw
          clear hw hw0 hE e7
          go_enter Try.func35, Try.ntmps35
          go_wp2_with fail
          refine (hfr _).mono ?_
          rintro e w1 ⟨rfl, rfl⟩
          go_wp2_with fail
          refine (power_any H.out).mono ?_
          rintro e w2 ⟨rfl, h2, hb2⟩
          rw [hp]
          have H2 := Lib.hid h2
          have HB2 := Lib.hid hb2
          clear h2 hb2
          go_wp2_with fail
          refine (on_any f s H2.out hs hd).mono ?_
          rintro e w3 ⟨rfl, rfl⟩
          rw [HON.out]
          go_wp2_with fail
          obtain ⟨q1, q2, q3⟩ := hon
          go_loopw [13, 14, 47] (fun _ _ iv wr => WriteRel w0 R g d (f + a) r w1 iv wr) (fun _ _ iv _ => k - (intOf iv).toNat)
          case atStart => exact ⟨0, rfl, Nat.zero_le _, rfl, H2.out, Held.below HR.out HB2.out⟩
          case round =>
            obtain ⟨i, rfl, hi, herr, hown, hheld⟩ := hrel
            rw [HK.out] at hi
            have HERR := Lib.hid herr
            have HO := Lib.hid hown
            have HH := Lib.hid hheld
            clear herr hown hheld
            by_cases hlt : i < k
            · have hi62 : i * 62 < r.size := by have := HK.out; unfold nframes at this; omega
              have z1 : (0 : Int) ≤ (i : Int) * 62 := by omega
              have z2 : (i : Int) * 62 ≤ r.size := by omega
              have z3 : (i : Int) < k := by omega
              have hps := puts_size d ((cutL r.data.toList).take i) (f + a)
              have hcl : (cutL r.data.toList)[i]? = some (frameB (r.extract (i * 62) r.size)) := by
                have hl : r.data.toList.length = r.size := by rw [Array.length_toList]; rfl
                unfold cutL
                rw [List.getElem?_map, List.getElem?_range (by rw [hl, HK.out]; exact hlt)]
                simp only [Option.map_some, frameB_of, Lib.extract_data]
                congr 2
                rw [← hl]; simp
                rw [List.take_of_length_le (by rw [List.length_drop, hl]; exact Nat.le_refl _)]
              have hil : i < (cutL r.data.toList).length := (List.getElem?_eq_some_iff.1 hcl).1
              have htk : (cutL r.data.toList).take (i + 1) = (cutL r.data.toList).take i ++ [frameB (r.extract (i * 62) r.size)] := by
                rw [List.take_succ_eq_append_getElem hil, (List.getElem?_eq_some_iff.1 hcl).2]
              have hlen : ((cutL r.data.toList).take i).length = i := by rw [List.length_take]; omega
              have hsn := puts_snoc d ((cutL r.data.toList).take i) (frameB (r.extract (i * 62) r.size)) (f + a) HERR.out
              rw [← htk, hlen] at hsn
              rw [hlen] at hps
              have hx1 : (r.extract (i * 62) r.size).size ≤ 1000000 := by rw [ByteArray.size_extract]; omega
              have hsplit := puts_stop d ((cutL r.data.toList).take (i + 1)) ((cutL r.data.toList).drop (i + 1)) (f + a)
              rw [List.take_append_drop] at hsplit
              generalize hX : frameB (r.extract (i * 62) r.size) = X at *
              generalize (d.puts (f + a) ((cutL r.data.toList).take i)).1 = D at *
              generalize hT1 : (cutL r.data.toList).take (i + 1) = T1 at *
              have HT1 := Lib.hid hT1
              clear hT1
              have HSN := Lib.hid hsn
              have HSP := Lib.hid hsplit
              have hD1 : D.queue.length ≤ 1000000 := by omega
              have hD2 : D.left ≤ 9223372036854775807 := by omega
              have HX := Lib.hid hX
              clear hsn hsplit htk hlen hps hcl hil hX
              go_wp2_with fail
              refine (frame_any _ _ hx1).mono ?_
              rintro e w4 ⟨rfl, hb4⟩
              rw [HX.out]
              have H4 := Lib.hid (HO.out.below hb4)
              have HB4 := Lib.hid (Held.below (w0 := w0) (fun k q => HO.out.lt q) hb4)
              clear hb4
              have p1 : f + a + (i : Int) ≤ 4096 := by omega
              go_wp2_with fail
              refine (ownr_put H4.out (f + a + i) X hD1 hD2).mono ?_
              rintro e w5 ⟨rfl, h5, hh5⟩
              obtain ⟨er, her⟩ : ∃ er, D.putErr (f + a + i) X = er := ⟨_, rfl⟩
              rw [her] at h5 ⊢
              have HER := Lib.hid her
              have H5 := Lib.hid h5
              have HH5 := Lib.hid ((HH.out.trans HB4.out).trans hh5)
              clear her h5 hh5
              by_cases h0 : er = 0
              · subst h0
                go_wp2_with fail
                have e1 := HSN.out
                rw [if_pos HER.out] at e1
                have e2 := H5.out
                simp only [if_true] at e2
                refine ⟨⟨i + 1, by go_num, by rw [HK.out]; omega, by rw [HT1.out, e1], by rw [HT1.out, e1]; exact e2, HH5.out⟩, by simp [intOf]; omega⟩
              · have n1 : (er != 0) = true := by simpa using h0
                go_wp2_with fail
                go_ret2
                have e1 := HSN.out
                rw [if_neg (by rw [HER.out]; exact h0), HER.out] at e1
                have e2 := HSP.out (by rw [e1]; exact h0)
                rw [HW.out, e2, e1, if_neg h0]
                have e3 := H5.out
                rw [if_neg h0] at e3
                exact ⟨rfl, e3, HH5.out⟩
            · have ei : i = k := by omega
              subst ei
              go_wp2_with fail
              go_ret2
              have hcl : (cutL r.data.toList).length = i := by rw [cutL_length, Array.length_toList]; exact HK.out
              have e1 := HERR.out
              have e2 := HO.out
              rw [List.take_of_length_le (by omega)] at e1 e2
              rw [HW.out, if_pos e1]
              exact ⟨rfl, e2, HH.out⟩
end Go.Proofs.Ytncbojocglcieaa
