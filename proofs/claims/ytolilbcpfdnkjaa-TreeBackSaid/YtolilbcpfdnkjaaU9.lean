/- tree: Move. -/
import Derived.Test.YtolilbcpfdnkjaaU8
namespace Go.Proofs.Ytolilbcpfdnkjaa
open Go.RowKit
set_option linter.unusedSimpArgs false
set_option linter.unusedVariables false
def MovePost (w : World) (F : Nat → Prop) (g : Nat) (R : LR) (e : Ending) (w' : World) : Prop := e = .returned (.int .i64 R.err) ∧ TStep w F g R.L R.next w'
set_option maxRecDepth 100000 in
set_option maxHeartbeats 4000000 in
theorem tmove_any {w : World} {F : Nat → Prop} {g : Nat} {L : List Itm} {next : Int} (dir : Int) (name : ByteArray) (to : Int) (as_ : ByteArray) (short : Int) (h : TreeM w F g L next) (hi : TInv L next) (hn : next ≤ 1000000000) (hs : as_.size ≤ maxLen) :
    Calls Try.prog 19 #[.pointer (some ⟨g, 0, none⟩), .int .i64 dir, .string name, .int .i64 to, .string as_, .int .i64 short] w (MovePost w F g (moveT L next dir name to as_ short)) := by
  have hlen := hi.len
  have HFI := Lib.hid (tfind_any dir name h (by omega))
  have HT := Lib.hid h
  have HI := Lib.hid hi
  obtain ⟨⟨nm, nd, dr, ck, sh⟩, hx⟩ : ∃ x, (findRes L dir name).1 = x := ⟨_, rfl⟩
  obtain ⟨E, hE⟩ : ∃ E, (findRes L dir name).2 = E := ⟨_, rfl⟩
  obtain ⟨E2, hE2⟩ : ∃ E2, listErr L to = E2 := ⟨_, rfl⟩
  obtain ⟨M, hM⟩ : ∃ M, mayErr as_ short = M := ⟨_, rfl⟩
  obtain ⟨U, hU⟩ : ∃ U, underB L nd to = U := ⟨_, rfl⟩
  rw [hx, hE] at HFI
  have HX := Lib.hid hx
  have HE := Lib.hid hE
  have HE2 := Lib.hid hE2
  have HMM := Lib.hid hM
  have HU := Lib.hid hU
  have HMAY := fun w => Lib.hid (tmay_any as_ short w hs)
  have early : ∀ (c : Int) (w1 : World), moveErr L dir name to as_ short = c → c ≠ 0 → Below w.heap.size w w1 → MovePost w F g (moveT L next dir name to as_ short) (.returned (.int .i64 c)) w1 := by
    intro c w1 h1 h2 hb
    unfold MovePost moveT
    rw [h1, if_pos h2]
    exact ⟨rfl, TStep.same HT.out hb⟩
  have HEA := Lib.hid early
  clear h hi hx hE early hE2 hM hU
  go_enter Try.func19, Try.ntmps19
  go_wp2_with fail
  refine HFI.out.mono ?_
  rintro e w1 ⟨rfl, hb1⟩
  by_cases h0 : E = 0
  · subst h0
    have hb2 : Below w.heap.size w (w1.alloc (.cells #[.string nm, .int .i64 nd, .bool dr, .int .i64 ck, .int .i64 sh] 40)) := hb1.alloc hb1.size _
    have hblk := m_alloc w1 (.cells #[.string nm, .int .i64 nd, .bool dr, .int .i64 ck, .int .i64 sh] 40) w1.heap.size rfl
    have hBw : w.heap.size ≤ w1.heap.size := hb1.size
    have HFB := Lib.hid (show ∀ k, F k → w1.heap.size ≠ k from fun k q => by have := HT.out.lt q; omega)
    generalize hBB : w1.heap.size = B at *
    generalize hW : w1.alloc (.cells #[.string nm, .int .i64 nd, .bool dr, .int .i64 ck, .int .i64 sh] 40) = W at *
    have HBLK := Lib.hid hblk
    have HW := Lib.hid hW
    have HBB := Lib.hid hBB
    have HB2 := Lib.hid hb2
    clear hb2 hblk hb1 hW hBB hBw
    go_wp2_with fail
    rw [HBB.out, HW.out]
    refine (tlist_any to (HT.out.below HB2.out) (by omega)).mono ?_
    rintro e w2 ⟨v, l, rfl, hr, hle, hb⟩
    rw [HE2.out] at hle ⊢
    obtain ⟨a1, k1, rfl⟩ := hr.shape
    have HB3 := Lib.hid (HB2.out.trans (hb.mono HB2.out.size))
    have HBL2 := Lib.hid (m_keep HBLK.out (Keep.below hb) (fun q => by have := m_lt HBLK.out; omega))
    have HR2 := Lib.hid hr
    have HLE := Lib.hid hle
    clear hb hr hle HB2 HBLK HW HBB HFI
    by_cases h2 : E2 = 0
    · subst h2
      have hle := HLE.out rfl
      subst hle
      go_wp2_with fail
      refine (HMAY w2).out.mono ?_
      rintro e w3 ⟨rfl, hb3⟩
      rw [HMM.out]
      have HB4 := Lib.hid (HB3.out.trans (hb3.mono HB3.out.size))
      have HBL3 := Lib.hid (m_keep HBL2.out (Keep.below hb3) (fun q => by have := m_lt HBL2.out; omega))
      have HR3 := Lib.hid (HR2.out.below hb3)
      clear hb3 HB3 HBL2 HR2 HLE
      by_cases m0 : M = 0
      · subst m0
        have n1 : w3.cell? ⟨B, 1, none⟩ = some (.int .i64 nd) := (m_cells HBL3.out).1 1
        go_wp2_with fail
        refine (tbelow_any to nd (HT.out.below HB4.out) HI.out).mono ?_
        rintro e w4 ⟨rfl, hb4⟩
        rw [HU.out]
        have HB5 := Lib.hid (HB4.out.trans (hb4.mono HB4.out.size))
        have HBL4 := Lib.hid (m_keep HBL3.out (Keep.below hb4) (fun q => by have := m_lt HBL3.out; omega))
        have HR4 := Lib.hid (HR3.out.below hb4)
        clear hb4 HB4 HBL3 HR3 n1
        cases U
        · have hlen5 : (entries L to).length ≤ 1000000 := by
            unfold entries; rw [List.length_map]
            exact Nat.le_trans (List.length_filter_le _ _) (by omega)
          go_wp2_with fail
          refine (index_any as_ w4 HR4.out.arg hlen5).mono ?_
          rintro e w5 ⟨rfl, hb5⟩
          have HB6 := Lib.hid (HB5.out.trans (hb5.mono HB5.out.size))
          have HBL5 := Lib.hid (m_keep HBL4.out (Keep.below hb5) (fun q => by have := m_lt HBL4.out; omega))
          clear hb5 HB5 HBL4 HR4
          rcases idx_find L to as_ with ⟨hx, hf⟩ | ⟨i, hx, hf⟩
          · rw [hx]
            have HFN := Lib.hid (find_none hf)
            have HM0 := Lib.hid (show moveErr L dir name to as_ short = 0 from by
              unfold moveErr; rw [HE.out, if_neg (by decide), HE2.out, if_neg (by decide), HMM.out, if_neg (by decide), HX.out]
              show (if underB L nd to = true then _ else _) = _
              rw [HU.out, if_neg (by decide), hf]; rfl)
            clear hx hf
            have HTO := Lib.hid (show isDirB L to = true from by
              cases hd : isDirB L to with
              | true => rfl
              | false => have := HE2.out; unfold listErr at this; rw [hd] at this; simp at this; split at this <;> cases this)
            have HNU := Lib.hid (show ¬ Under L nd to from fun q => by have := underB_iff.2 q; rw [HU.out] at this; cases this)
            obtain ⟨x, i, e1, hit, enm, eix, eget, efi, hdd⟩ := find_spec HE.out
            have ex : x = ⟨nm, nd, dr, ck, sh⟩ := by have := HX.out; rw [e1] at this; exact this
            subst ex
            obtain ⟨bd, bf, gp, bp, vp, D, Fm, p, rfl, hm, hrep⟩ := HT.out
            have HENM := Lib.hid (show nm = name from enm)
            have HERA := Lib.hid (show (entries L dir).eraseIdx i = (entries L dir).filter (fun y => !hasName nm y) from by
              have e2 : nm = name := enm
              rw [e2]; exact erase_filter name _ i (HI.out.un dir) efi)
            have HIT := Lib.hid (show (⟨dir, ⟨nm, nd, dr, ck, sh⟩⟩ : Itm) ∈ L from hit)
            have HIX := Lib.hid eix
            have HGET := Lib.hid eget
            have HREP := Lib.hid hrep
            have HM6 := Lib.hid (hm.below HB6.out)
            obtain ⟨v0, hv0⟩ := hrep.r1 dir hdd
            obtain ⟨v1, hv1⟩ := hrep.r1 to HTO.out
            have HV0 := Lib.hid hv0
            have HV1 := Lib.hid hv1
            have HNX := Lib.hid (show 0 ≤ next ∧ next ≤ 1000000000 from ⟨by have := HI.out.nx; omega, hn⟩)
            have HL5 := Lib.hid (show ∀ d, (entries L d).length ≤ 100000 from fun d => by
              unfold entries; rw [List.length_map]
              exact Nat.le_trans (List.length_filter_le _ _) (by omega))
            clear hm hrep hit eix eget hdd efi e1 enm hv0 hv1
            go_wp2_with fail
            refine (tdrop_any dir name i ⟨nm, nd, dr, ck, sh⟩ (v := v0) (E := entries L dir) HM6.out HV0.out (HL5.out dir) HIX.out HGET.out).mono ?_
            rintro e w6 ⟨v', rfl, hm7, hv7, hk7⟩
            have HM7 := Lib.hid hm7
            have HV7 := Lib.hid (show ∀ k, v'.ownBlock = some k → w.heap.size ≤ k from fun k q => Nat.le_trans HB6.out.size (hv7 k q))
            have HK7 := Lib.hid (show Keep (tfoot g bd bf gp bp vp D) w w6 from ((Keep.refl _ w).trans' (Keep.below HB6.out) (fun i q => Or.inr q)).trans (hk7.mono (fun i q => q.elim (fun q => Or.inl (Or.inl q)) (fun q => Or.inl (Or.inr (Or.inl q))))))
            have hB7 := m_keep HBL5.out hk7 (fun e => e.elim (HFB.out g (Or.inl rfl)) (HFB.out bd (Or.inr (Or.inl rfl))))
            have n1 : w6.cell? ⟨B, 1, none⟩ = some (.int .i64 nd) := (m_cells hB7).1 1
            have n2 : w6.cell? ⟨B, 2, none⟩ = some (.bool dr) := (m_cells hB7).1 2
            have hE' : ∃ v2, mget (mput D dir (v', (entries L dir).eraseIdx i)) to = some (v2, if to = dir then (entries L dir).eraseIdx i else entries L to) := by
              rw [mget_put]
              by_cases c : to = dir
              · rw [if_pos c, if_pos c]; exact ⟨_, rfl⟩
              · rw [if_neg c, if_neg c]; exact ⟨_, HV1.out⟩
            obtain ⟨v2, hE'⟩ := hE'
            obtain ⟨E', hEE⟩ : ∃ E', (if to = dir then (entries L dir).eraseIdx i else entries L to) = E' := ⟨_, rfl⟩
            rw [hEE] at hE'
            have HE' := Lib.hid hE'
            have HLE' := Lib.hid (show E'.length ≤ 100000 from by
              rw [← hEE]
              split
              · exact Nat.le_trans (List.length_eraseIdx_le _ _) (HL5.out dir)
              · exact HL5.out to)
            have HEE := Lib.hid hEE
            clear hm7 hv7 hk7 hB7 hE' hEE
            go_wp2_with fail
            refine (tput_any to ⟨as_, nd, dr, 0, short⟩ (v := v2) (E := E') HM7.out HE'.out HLE'.out HNX.out).mono ?_
            rintro e w7 ⟨v3, rfl, hm8, hv8, hk8⟩
            have HM8 := Lib.hid hm8
            have HV8 := Lib.hid (show ∀ k, v3.ownBlock = some k → w.heap.size ≤ k from fun k q => Nat.le_trans HK7.out.size (hv8 k q))
            have HK8 := Lib.hid (HK7.out.trans (hk8.mono (fun i q => q.elim (fun q => Or.inl (Or.inl q)) (fun q => Or.inl (Or.inr (Or.inl q))))))
            clear hm8 hv8 hk8 n1 n2
            go_wp2_with fail
            go_ret
            have hr := HREP.out.moved HI.out HIT.out (y := ⟨as_, nd, dr, next, short⟩) (to := to) rfl rfl HTO.out v' v3 HERA.out
            rw [HEE.out] at hr
            have hfin := tstep_mk (w := w) (vp := vp) (D := D) HM8.out hr (fun k q => Or.inl q)
              (fun x hx k q => by
                rcases mem_mput_de hx with r | r
                · rcases mem_mput_de r with r | r
                  · exact Or.inl ⟨x, r, q⟩
                  · rw [r] at q; exact Or.inr (HV7.out k q)
                · rw [r] at q; exact Or.inr (HV8.out k q)) HK8.out
            have hR : moveT L next dir name to as_ short = ⟨movedT L dir ⟨nm, nd, dr, ck, sh⟩ to ⟨as_, nd, dr, next, short⟩, next + 1, 0, 0⟩ := by
              unfold moveT movedT; rw [HM0.out, if_neg (by decide), HX.out, ← HENM.out]
            unfold MovePost
            rw [hR]
            exact ⟨rfl, hfin⟩
          · have HF := Lib.hid hf
            rw [hx]
            have i1 : decide ((0 : Int) ≤ i) = true := by simp
            have i2 : (0 : Int) ≤ i := by omega
            clear hx hf
            go_wp2_with fail
            go_ret
            exact HEA.out 6 _ (by
              unfold moveErr; rw [HE.out, if_neg (by decide), HE2.out, if_neg (by decide), HMM.out, if_neg (by decide), HX.out]
              show (if underB L nd to = true then _ else _) = _
              rw [HU.out, if_neg (by decide), HF.out]; rfl) (by decide) HB6.out
        · go_wp2_with fail
          go_ret
          exact HEA.out 10 _ (by
            unfold moveErr; rw [HE.out, if_neg (by decide), HE2.out, if_neg (by decide), HMM.out, if_neg (by decide), HX.out]
            show (if underB L nd to = true then _ else _) = _
            rw [HU.out]; rfl) (by decide) HB5.out
      · have e1 : (M == 0) = false := by simpa using m0
        have e2 : (M != 0) = true := by simpa using m0
        go_wp2_with fail
        go_ret
        exact HEA.out M _ (by unfold moveErr; rw [HE.out, if_neg (by decide), HE2.out, if_neg (by decide), HMM.out, if_pos m0]) m0 HB4.out
    · have e1 : (E2 == 0) = false := by simpa using h2
      have e2 : (E2 != 0) = true := by simpa using h2
      go_wp2_with fail
      go_ret
      exact HEA.out E2 _ (by unfold moveErr; rw [HE.out, if_neg (by decide), HE2.out, if_pos h2]) h2 HB3.out
  · have e1 : (E == 0) = false := by simpa using h0
    have e2 : (E != 0) = true := by simpa using h0
    go_wp2_with fail
    go_ret
    exact HEA.out E _ (by unfold moveErr; rw [HE.out, if_pos h0]) h0 (hb1.alloc hb1.size _)
end Go.Proofs.Ytolilbcpfdnkjaa
