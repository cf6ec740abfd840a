/- tree: Unlink. -/
import Derived.Test.YtolilbcpfdnkjaaU4
import Derived.Deep.RegionHeld3
import Derived.Outline
namespace Go.Proofs.Ytolilbcpfdnkjaa
open Go.RowKit
set_option linter.unusedSimpArgs false
set_option linter.unusedVariables false
theorem TRep.dropped {D : List (Int × DE)} {F : List (Int × Int)} {p p' : PD} {L : List Itm} {next : Int} (h : TRep D F p L) (hi : TInv L next) {d : Int} {x : Ent} (hx : (⟨d, x⟩ : Itm) ∈ L)
    (hk : ∀ k, k ∈ mkeys p'.out ↔ k ∈ mkeys p.out ∧ k ≠ x.node) (v' : Value) {l : List Ent} (hl : l = (entries L d).filter (fun y => !hasName x.name y)) : TRep (mdel (mput D d (v', l)) x.node) (mdel F x.node) p' (dropT L d x.name) := by
  have hne : d ≠ x.node := hi.not_self hx
  have hd := hi.pa _ hx
  refine ⟨fun k hk' => ?_, fun k hk' => ?_, fun k => ?_, fun k => ?_⟩
  · rw [isDirB_dropT hi hx, Bool.and_eq_true] at hk'
    obtain ⟨q1, q2⟩ := hk'
    simp at q2
    rw [mget_del, if_neg q2, mget_put, entries_dropT]
    by_cases e : k = d
    · rw [if_pos e, if_pos e, hl]; exact ⟨v', rfl⟩
    · rw [if_neg e, if_neg e]; exact h.r1 k q1
  · rw [isDirB_dropT hi hx] at hk'
    rw [mget_del]
    by_cases e : k = x.node
    · rw [if_pos e]
    · rw [if_neg e]
      have q : isDirB L k = false := by simpa [e] using hk'
      rw [mget_put, if_neg (fun e => by rw [e] at q; rw [q] at hd; cases hd)]
      exact h.r2 k q
  · rw [mget_del, isFileB_dropT hi hx]
    by_cases e : k = x.node
    · simp [e]
    · rw [if_neg e, h.r3 k]; simp [e]
  · rw [hk k, h.r4 k]
    constructor
    · rintro ⟨⟨i, hi', e⟩, q⟩
      exact ⟨i, (mem_dropT' hi hx).2 ⟨hi', fun r => q (e.symm.trans r)⟩, e⟩
    · rintro ⟨i, hi', e⟩
      obtain ⟨a, b⟩ := (mem_dropT' hi hx).1 hi'
      exact ⟨⟨i, a, e⟩, fun r => b (e.trans r)⟩
theorem find_spec {L : List Itm} {d : Int} {name : ByteArray} (h : (findRes L d name).2 = 0) : ∃ (x : Ent) (i : Nat), findRes L d name = (x, 0) ∧ (⟨d, x⟩ : Itm) ∈ L ∧ x.name = name ∧ idxP (entries L d) (hasName name) = i ∧ (entries L d)[i]? = some x ∧ (entries L d).findIdx? (hasName name) = some i ∧ isDirB L d = true := by
  unfold findRes at h
  split at h
  · rename_i q; exact absurd h q
  · rename_i q
    have q' : listErr L d = 0 := by simpa using q
    cases hf : findE L d name with
    | none => rw [hf] at h; simp at h
    | some x =>
      obtain ⟨h1, h2⟩ := item_of hf
      rcases idxP_spec (entries L d) (hasName name) with ⟨i, y, e1, e2, e3⟩ | ⟨e1, e2⟩
      · have : y = x := by unfold findE at hf; rw [hf] at e3; exact (Option.some.inj e3).symm
        subst this
        refine ⟨y, i, ?_, h1, h2, e1, e2, ?_, ?_⟩
        · unfold findRes; rw [q', if_neg (by decide), hf]
        · unfold idxP at e1
          split at e1
          · rename_i j hj; rw [hj]; congr 1; omega
          · omega
        · cases hd : isDirB L d with
          | true => rfl
          | false => unfold listErr at q'; rw [hd] at q'; simp at q'; split at q' <;> cases q'
      · unfold findE at hf; rw [hf] at e2; cases e2
def UnlinkPost (w : World) (F : Nat → Prop) (g : Nat) (R : List Itm × Int) (next : Int) (e : Ending) (w' : World) : Prop := e = .returned (.int .i64 R.2) ∧ TStep w F g R.1 next w'
set_option maxRecDepth 100000 in
set_option maxHeartbeats 4000000 in
theorem tunlink_any {w : World} {F : Nat → Prop} {g : Nat} {L : List Itm} {next : Int} (dir : Int) (name : ByteArray) (isDir : Bool) (h : TreeM w F g L next) (hi : TInv L next) (hn : next ≤ 1000000000) :
    Calls Try.prog 16 #[.pointer (some ⟨g, 0, none⟩), .int .i64 dir, .string name, .bool isDir] w (UnlinkPost w F g (unlinkT L dir name isDir) next) := by
  have hlen := hi.len
  have HFI := Lib.hid (tfind_any dir name h (by omega))
  have HT := Lib.hid h
  have HI := Lib.hid hi
  obtain ⟨⟨nm, nd, dr, ck, sh⟩, hx⟩ : ∃ x, (findRes L dir name).1 = x := ⟨_, rfl⟩
  obtain ⟨E, hE⟩ : ∃ E, (findRes L dir name).2 = E := ⟨_, rfl⟩
  rw [hx, hE] at HFI
  have HX := Lib.hid hx
  have HE := Lib.hid hE
  have early : ∀ (c : Int) (w1 : World), unlinkErr L dir name isDir = c → c ≠ 0 → Below w.heap.size w w1 → UnlinkPost w F g (unlinkT L dir name isDir) next (.returned (.int .i64 c)) w1 := by
    intro c w1 h1 h2 hb
    unfold UnlinkPost unlinkT
    rw [h1, if_pos h2]
    exact ⟨rfl, TStep.same HT.out hb⟩
  have HEA := Lib.hid early
  clear h hi hx hE early
  go_enter Try.func16, Try.ntmps16
  go_wp2_with fail
  refine HFI.out.mono ?_
  rintro e w1 ⟨rfl, hb1⟩
  by_cases h0 : E = 0
  · cases isDir <;> cases dr
    · have hle : E = 0 := h0
      subst hle
      obtain ⟨x, i, e1, hit, enm, eix, eget, efi, hdd⟩ := find_spec HE.out
      have ex : x = ⟨nm, nd, false, ck, sh⟩ := by have := HX.out; rw [e1] at this; exact this
      subst ex
      obtain ⟨bd, bf, gp, bp, vp, D, Fm, p, rfl, hm, hrep⟩ := HT.out
      have HIT := Lib.hid hit
      have HIX := Lib.hid eix
      have HGET := Lib.hid eget
      have HDD := Lib.hid hdd
      have HREP := Lib.hid hrep
      have HENM := Lib.hid (show nm = name from enm)
      have HERA := Lib.hid (show (entries L dir).eraseIdx i = (entries L dir).filter (fun y => !hasName nm y) from by
        have e2 : nm = name := enm
        rw [e2]; exact erase_filter name _ i (HI.out.un dir) efi)
      have hb2 : Below w.heap.size w (w1.alloc (.cells #[.string nm, .int .i64 nd, .bool false, .int .i64 ck, .int .i64 sh] 40)) := hb1.alloc hb1.size _
      have HB2 := Lib.hid hb2
      have HM2 := Lib.hid (hm.below hb2)
      have hblk := m_alloc w1 (.cells #[.string nm, .int .i64 nd, .bool false, .int .i64 ck, .int .i64 sh] 40) w1.heap.size rfl
      have hBw : w.heap.size ≤ w1.heap.size := hb1.size
      have HFB := Lib.hid (show ¬ tfoot g bd bf gp bp vp D w1.heap.size from fun q => by have := hm.foot_lt q; omega)
      generalize hBB : w1.heap.size = B at *
      generalize hW : w1.alloc (.cells #[.string nm, .int .i64 nd, .bool false, .int .i64 ck, .int .i64 sh] 40) = W at *
      have HBLK := Lib.hid hblk
      have HW := Lib.hid hW
      have HBB := Lib.hid hBB
      have q0 : W.cell? ⟨g, 0, none⟩ = some (.map (some bd)) := (m_cells HM2.out.blk).1 0
      have n1 : W.cell? ⟨B, 1, none⟩ = some (.int .i64 nd) := (m_cells hblk).1 1
      obtain ⟨K, hK⟩ : ∃ K, (entries L nd).length = K := ⟨_, rfl⟩
      have hlk : ∃ a c, ∀ q, (Instr.lookup 73 (.map (some bd)) (.int .i64 nd) false).run Try.prog (W.drewN q) = .ok (.slice a K c) (W.drewN q) := by
        have hl := fun q => (HM2.out.dm.qt (Qt.drewN W q)).lookup (P := Try.prog) Try.underlying73 Try.underlying3 zero_ents nd false
        cases hd : isDirB L nd with
        | true =>
          obtain ⟨v, hv⟩ := HREP.out.r1 nd hd
          obtain ⟨a, c, rfl⟩ : ∃ a c, v = .slice a (entries L nd).length c := RowO.shape (HM2.out.rows _ (mget_mem hv))
          rw [hv] at hl
          simp only [Bool.false_eq_true, if_false, encDE, hK] at hl
          exact ⟨a, c, hl⟩
        | false =>
          rw [HREP.out.r2 nd hd] at hl
          simp only [Bool.false_eq_true, if_false] at hl
          rw [entries_none HI.out hd] at hK
          subst hK
          exact ⟨_, _, hl⟩
      obtain ⟨la, lc, hlk⟩ := hlk
      have HK := Lib.hid hK
      have HV0 := Lib.hid (HREP.out.r1 dir HDD.out)
      have HL5 := Lib.hid (show (entries L dir).length ≤ 100000 from by
        unfold entries; rw [List.length_map]
        exact Nat.le_trans (List.length_filter_le _ _) (by omega))
      clear hm hrep hit eix eget hdd efi hb2 hblk hb1 hW hK hBB hBw e1 enm
      go_wp2_with fail
      rw [HBB.out, HW.out]
      go_quiet (fail)
      have HBQ := Lib.hid (show Below W.heap.size W (W.drewN nq) from ⟨rfl, rfl, rfl, Nat.le_refl _, fun _ _ => rfl⟩)
      by_cases hK0 : K = 0
      · subst hK0
        have HNIL := Lib.hid (List.eq_nil_of_length_eq_zero HK.out)
        have HR := Lib.hid (show unlinkT L dir name false = (dropT L dir name, 0) from by
          have : unlinkErr L dir name false = 0 := by unfold unlinkErr; rw [HE.out, HX.out]; simp [HNIL.out]
          unfold unlinkT; rw [this]; rfl)
        obtain ⟨v0, hv0⟩ := HV0.out
        have HV1 := Lib.hid hv0
        have HSZ := Lib.hid HB2.out.size
        have hNB : ∀ k, tfoot g bd bf gp bp vp D k → B ≠ k := fun k q e => HFB.out (e ▸ q)
        have HNB := Lib.hid hNB
        clear hlk q0 n1 hv0 hNB
        go_wp2_with fail
        refine (tdrop_any dir name i ⟨nm, nd, false, ck, sh⟩ (v := v0) (E := entries L dir) (HM2.out.below HBQ.out) HV1.out HL5.out HIX.out HGET.out).mono ?_
        rintro e w3 ⟨v', rfl, hm3, hv3, hk3⟩
        have HM3 := Lib.hid hm3
        have HV3 := Lib.hid hv3
        have HK3 := Lib.hid (show Keep (tfoot g bd bf gp bp vp D) w w3 from ((Keep.refl _ w).trans' (Keep.below HB2.out) (fun i q => Or.inr q)).trans (((Keep.refl _ W).drewN nq).trans (hk3.mono (fun i q => q.elim (fun q => Or.inl (Or.inl q)) (fun q => Or.inl (Or.inr (Or.inl q)))))))
        have hB3 := m_keep (show (W.drewN nq).heap[B]? = _ from HBLK.out) hk3 (fun e => e.elim (HNB.out g (Or.inl rfl)) (HNB.out bd (Or.inr (Or.inl rfl))))
        have HS := Lib.hid (show ∀ w', Keep (fun k => k = bd ∨ k = bf ∨ pfoot gp vp bp k) w3 w' → w'.cell? ⟨g, 0, none⟩ = some (.map (some bd)) ∧ w'.cell? ⟨g, 1, none⟩ = some (.map (some bf)) ∧ w'.cell? ⟨g, 2, none⟩ = some (.pointer (some ⟨gp, 0, none⟩)) ∧ w'.cell? ⟨B, 1, none⟩ = some (.int .i64 nd) from fun w' k => by
          have c := (m_cells (m_keep HM3.out.blk k (fun e => e.elim (fun e => HM3.out.s1.1 e.symm) (fun e => e.elim (fun e => HM3.out.s1.2.1 e.symm) (fun e => (HM3.out.s2 _ e).1 rfl))))).1
          have c2 := (m_cells (m_keep hB3 k (fun e => e.elim (HNB.out bd (Or.inr (Or.inl rfl))) (fun e => e.elim (HNB.out bf (Or.inr (Or.inr (Or.inl rfl)))) (fun e => HNB.out B (Or.inr (Or.inr (Or.inr (Or.inl e)))) rfl))))).1
          exact ⟨c 0, c 1, c 2, c2 1⟩)
        clear hm3 hv3 hk3 hB3
        go_wp2_with fail
        go_region_held3 (fun w' => w'.cell? ⟨g, 0, none⟩ = some (.map (some bd)) ∧ w'.cell? ⟨B, 1, none⟩ = some (.int .i64 nd))
          (first | exact ⟨(HS.out _ HK4.out).1, (HS.out _ HK4.out).2.2.2⟩ | exact ⟨(HS.out _ ((Keep.refl _ _).drew)).1, (HS.out _ ((Keep.refl _ _).drew)).2.2.2⟩)
          (first
           | (refine step_del rfl _ _ rfl Try.underlying73 Try.underlying3 nd rfl rfl (HM3.out.below ((Below.refl _ _).drew)).dm ?_
              intro w4 hm4 hk4
              have HM4 := Lib.hid ((HM3.out.below ((Below.refl _ _).drew)).dired hm4 hk4 (fun x hx => Or.inl (mem_mdel_de hx)))
              have HK4 := Lib.hid (show Keep (fun k => k = bd ∨ k = bf ∨ pfoot gp vp bp k) w3 w4 from ((Keep.refl _ w3).drew).trans (hk4.mono (fun i q => Or.inl (Or.inl q))))
              clear hm4 hk4))
        go_wp2_with fail
        go_region_held3 (fun w' => w'.cell? ⟨g, 1, none⟩ = some (.map (some bf)) ∧ w'.cell? ⟨B, 1, none⟩ = some (.int .i64 nd))
          (first | exact ⟨(HS.out _ HK5.out).2.1, (HS.out _ HK5.out).2.2.2⟩ | exact ⟨(HS.out _ (HK4.out.drew)).2.1, (HS.out _ (HK4.out.drew)).2.2.2⟩)
          (first
           | (refine step_del rfl _ _ rfl Try.underlying74 Try.underlying3 nd rfl rfl (HM4.out.below ((Below.refl _ _).drew)).fm ?_
              intro w5 hm5 hk5
              have HM5 := Lib.hid ((HM4.out.below ((Below.refl _ _).drew)).filed hm5 hk5)
              have HK5 := Lib.hid (show Keep (fun k => k = bd ∨ k = bf ∨ pfoot gp vp bp k) w3 w5 from (HK4.out.drew).trans (hk5.mono (fun i q => Or.inl (Or.inr (Or.inl q)))))
              clear hm5 hk5))
        go_wp2_with fail
        go_region_held3 (fun w' => w'.cell? ⟨g, 2, none⟩ = some (.pointer (some ⟨gp, 0, none⟩)) ∧ w'.cell? ⟨B, 1, none⟩ = some (.int .i64 nd))
          (first | exact (HS.out _ HK6.out).2.2 | exact (HS.out _ (HK5.out.drew)).2.2)
          (first
           | (go_at_call 45
              refine (give_any w5.drew gp bp vp p nd (HM5.out.below ((Below.refl _ _).drew)).pl HM5.out.inv).mono ?_
              rintro e w6 ⟨p', vp', rfl, hp, hinv, hmost, hkeys, hv6, hk6⟩
              have HM6 := Lib.hid ((HM5.out.below ((Below.refl _ _).drew)).pooled hp hinv hmost hv6 hk6)
              have HK6 := Lib.hid (show Keep (fun k => k = bd ∨ k = bf ∨ pfoot gp vp bp k) w3 w6 from (HK5.out.drew).trans (hk6.mono (fun i q => Or.inl (Or.inr (Or.inr q)))))
              have HKEYS := Lib.hid hkeys
              have HV6 := Lib.hid hv6
              clear hp hinv hmost hk6 hkeys hv6))
        go_wp2_with fail
        go_ret
        have hitm : (⟨dir, ⟨nm, nd, false, ck, sh⟩⟩ : Itm) ∈ L := HIT.out
        have hfin := tstep_mk (w := w) (vp := vp) (D := D) HM6.out (HREP.out.dropped HI.out hitm HKEYS.out v' HERA.out) (fun k q => (HV6.out k q).imp id (fun q => by have h3 := HK3.out.size; have h5 := HK5.out.size; exact Nat.le_trans (Nat.le_trans h3 h5) q))
          (fun x hx k q => by
            rcases mem_mput_de (mem_mdel_de hx) with r | r
            · exact Or.inl ⟨x, r, q⟩
            · rw [r] at q; exact Or.inr (Nat.le_trans HSZ.out (HV3.out k q)))
          (HK3.out.trans (HK6.out.mono (fun i q => Or.inl (q.elim (fun q => Or.inr (Or.inl q)) (fun q => q.elim (fun q => Or.inr (Or.inr (Or.inl q))) (fun q => Or.inr (Or.inr (Or.inr (Or.inl q)))))))))
        unfold UnlinkPost
        rw [HR.out, ← HENM.out]
        exact ⟨rfl, hfin⟩
      · have hK1 : decide ((K : Int) > 0) = true := by simp; omega
        have hK2 : decide ((0 : Int) < K) = true := by simp; omega
        have hK3 : (0 : Int) < K := by omega
        have hK4 : 0 < K := by omega
        go_wp2_with fail
        go_ret
        exact HEA.out 9 _ (by
          unfold unlinkErr; rw [HE.out, HX.out]
          have : entries L nd ≠ [] := fun e => hK0 (by rw [← HK.out, e]; rfl)
          simp [this]) (by decide) (HB2.out.trans (HBQ.out.mono HB2.out.size))
    · subst h0
      go_wp2_with fail
      go_ret
      exact HEA.out 7 _ (by unfold unlinkErr; rw [HE.out, HX.out]; rfl) (by decide) (hb1.alloc hb1.size _)
    · subst h0
      go_wp2_with fail
      go_ret
      exact HEA.out 8 _ (by unfold unlinkErr; rw [HE.out, HX.out]; rfl) (by decide) (hb1.alloc hb1.size _)
    · have hle : E = 0 := h0
      subst hle
      obtain ⟨x, i, e1, hit, enm, eix, eget, efi, hdd⟩ := find_spec HE.out
      have ex : x = ⟨nm, nd, true, ck, sh⟩ := by have := HX.out; rw [e1] at this; exact this
      subst ex
      obtain ⟨bd, bf, gp, bp, vp, D, Fm, p, rfl, hm, hrep⟩ := HT.out
      have HIT := Lib.hid hit
      have HIX := Lib.hid eix
      have HGET := Lib.hid eget
      have HDD := Lib.hid hdd
      have HREP := Lib.hid hrep
      have HENM := Lib.hid (show nm = name from enm)
      have HERA := Lib.hid (show (entries L dir).eraseIdx i = (entries L dir).filter (fun y => !hasName nm y) from by
        have e2 : nm = name := enm
        rw [e2]; exact erase_filter name _ i (HI.out.un dir) efi)
      have hb2 : Below w.heap.size w (w1.alloc (.cells #[.string nm, .int .i64 nd, .bool true, .int .i64 ck, .int .i64 sh] 40)) := hb1.alloc hb1.size _
      have HB2 := Lib.hid hb2
      have HM2 := Lib.hid (hm.below hb2)
      have hblk := m_alloc w1 (.cells #[.string nm, .int .i64 nd, .bool true, .int .i64 ck, .int .i64 sh] 40) w1.heap.size rfl
      have hBw : w.heap.size ≤ w1.heap.size := hb1.size
      have HFB := Lib.hid (show ¬ tfoot g bd bf gp bp vp D w1.heap.size from fun q => by have := hm.foot_lt q; omega)
      generalize hBB : w1.heap.size = B at *
      generalize hW : w1.alloc (.cells #[.string nm, .int .i64 nd, .bool true, .int .i64 ck, .int .i64 sh] 40) = W at *
      have HBLK := Lib.hid hblk
      have HW := Lib.hid hW
      have HBB := Lib.hid hBB
      have q0 : W.cell? ⟨g, 0, none⟩ = some (.map (some bd)) := (m_cells HM2.out.blk).1 0
      have n1 : W.cell? ⟨B, 1, none⟩ = some (.int .i64 nd) := (m_cells hblk).1 1
      obtain ⟨K, hK⟩ : ∃ K, (entries L nd).length = K := ⟨_, rfl⟩
      have hlk : ∃ a c, ∀ q, (Instr.lookup 73 (.map (some bd)) (.int .i64 nd) false).run Try.prog (W.drewN q) = .ok (.slice a K c) (W.drewN q) := by
        have hl := fun q => (HM2.out.dm.qt (Qt.drewN W q)).lookup (P := Try.prog) Try.underlying73 Try.underlying3 zero_ents nd false
        cases hd : isDirB L nd with
        | true =>
          obtain ⟨v, hv⟩ := HREP.out.r1 nd hd
          obtain ⟨a, c, rfl⟩ : ∃ a c, v = .slice a (entries L nd).length c := RowO.shape (HM2.out.rows _ (mget_mem hv))
          rw [hv] at hl
          simp only [Bool.false_eq_true, if_false, encDE, hK] at hl
          exact ⟨a, c, hl⟩
        | false =>
          rw [HREP.out.r2 nd hd] at hl
          simp only [Bool.false_eq_true, if_false] at hl
          rw [entries_none HI.out hd] at hK
          subst hK
          exact ⟨_, _, hl⟩
      obtain ⟨la, lc, hlk⟩ := hlk
      have HK := Lib.hid hK
      have HV0 := Lib.hid (HREP.out.r1 dir HDD.out)
      have HL5 := Lib.hid (show (entries L dir).length ≤ 100000 from by
        unfold entries; rw [List.length_map]
        exact Nat.le_trans (List.length_filter_le _ _) (by omega))
      clear hm hrep hit eix eget hdd efi hb2 hblk hb1 hW hK hBB hBw e1 enm
      go_wp2_with fail
      rw [HBB.out, HW.out]
      go_quiet (fail)
      have HBQ := Lib.hid (show Below W.heap.size W (W.drewN nq) from ⟨rfl, rfl, rfl, Nat.le_refl _, fun _ _ => rfl⟩)
      by_cases hK0 : K = 0
      · subst hK0
        have HNIL := Lib.hid (List.eq_nil_of_length_eq_zero HK.out)
        have HR := Lib.hid (show unlinkT L dir name true = (dropT L dir name, 0) from by
          have : unlinkErr L dir name true = 0 := by unfold unlinkErr; rw [HE.out, HX.out]; simp [HNIL.out]
          unfold unlinkT; rw [this]; rfl)
        obtain ⟨v0, hv0⟩ := HV0.out
        have HV1 := Lib.hid hv0
        have HSZ := Lib.hid HB2.out.size
        have hNB : ∀ k, tfoot g bd bf gp bp vp D k → B ≠ k := fun k q e => HFB.out (e ▸ q)
        have HNB := Lib.hid hNB
        clear hlk q0 n1 hv0 hNB
        go_wp2_with fail
        refine (tdrop_any dir name i ⟨nm, nd, true, ck, sh⟩ (v := v0) (E := entries L dir) (HM2.out.below HBQ.out) HV1.out HL5.out HIX.out HGET.out).mono ?_
        rintro e w3 ⟨v', rfl, hm3, hv3, hk3⟩
        have HM3 := Lib.hid hm3
        have HV3 := Lib.hid hv3
        have HK3 := Lib.hid (show Keep (tfoot g bd bf gp bp vp D) w w3 from ((Keep.refl _ w).trans' (Keep.below HB2.out) (fun i q => Or.inr q)).trans (((Keep.refl _ W).drewN nq).trans (hk3.mono (fun i q => q.elim (fun q => Or.inl (Or.inl q)) (fun q => Or.inl (Or.inr (Or.inl q)))))))
        have hB3 := m_keep (show (W.drewN nq).heap[B]? = _ from HBLK.out) hk3 (fun e => e.elim (HNB.out g (Or.inl rfl)) (HNB.out bd (Or.inr (Or.inl rfl))))
        have HS := Lib.hid (show ∀ w', Keep (fun k => k = bd ∨ k = bf ∨ pfoot gp vp bp k) w3 w' → w'.cell? ⟨g, 0, none⟩ = some (.map (some bd)) ∧ w'.cell? ⟨g, 1, none⟩ = some (.map (some bf)) ∧ w'.cell? ⟨g, 2, none⟩ = some (.pointer (some ⟨gp, 0, none⟩)) ∧ w'.cell? ⟨B, 1, none⟩ = some (.int .i64 nd) from fun w' k => by
          have c := (m_cells (m_keep HM3.out.blk k (fun e => e.elim (fun e => HM3.out.s1.1 e.symm) (fun e => e.elim (fun e => HM3.out.s1.2.1 e.symm) (fun e => (HM3.out.s2 _ e).1 rfl))))).1
          have c2 := (m_cells (m_keep hB3 k (fun e => e.elim (HNB.out bd (Or.inr (Or.inl rfl))) (fun e => e.elim (HNB.out bf (Or.inr (Or.inr (Or.inl rfl)))) (fun e => HNB.out B (Or.inr (Or.inr (Or.inr (Or.inl e)))) rfl))))).1
          exact ⟨c 0, c 1, c 2, c2 1⟩)
        clear hm3 hv3 hk3 hB3
        go_wp2_with fail
        go_region_held3 (fun w' => w'.cell? ⟨g, 0, none⟩ = some (.map (some bd)) ∧ w'.cell? ⟨B, 1, none⟩ = some (.int .i64 nd))
          (first | exact ⟨(HS.out _ HK4.out).1, (HS.out _ HK4.out).2.2.2⟩ | exact ⟨(HS.out _ ((Keep.refl _ _).drew)).1, (HS.out _ ((Keep.refl _ _).drew)).2.2.2⟩)
          (first
           | (refine step_del rfl _ _ rfl Try.underlying73 Try.underlying3 nd rfl rfl (HM3.out.below ((Below.refl _ _).drew)).dm ?_
              intro w4 hm4 hk4
              have HM4 := Lib.hid ((HM3.out.below ((Below.refl _ _).drew)).dired hm4 hk4 (fun x hx => Or.inl (mem_mdel_de hx)))
              have HK4 := Lib.hid (show Keep (fun k => k = bd ∨ k = bf ∨ pfoot gp vp bp k) w3 w4 from ((Keep.refl _ w3).drew).trans (hk4.mono (fun i q => Or.inl (Or.inl q))))
              clear hm4 hk4))
        go_wp2_with fail
        go_region_held3 (fun w' => w'.cell? ⟨g, 1, none⟩ = some (.map (some bf)) ∧ w'.cell? ⟨B, 1, none⟩ = some (.int .i64 nd))
          (first | exact ⟨(HS.out _ HK5.out).2.1, (HS.out _ HK5.out).2.2.2⟩ | exact ⟨(HS.out _ (HK4.out.drew)).2.1, (HS.out _ (HK4.out.drew)).2.2.2⟩)
          (first
           | (refine step_del rfl _ _ rfl Try.underlying74 Try.underlying3 nd rfl rfl (HM4.out.below ((Below.refl _ _).drew)).fm ?_
              intro w5 hm5 hk5
              have HM5 := Lib.hid ((HM4.out.below ((Below.refl _ _).drew)).filed hm5 hk5)
              have HK5 := Lib.hid (show Keep (fun k => k = bd ∨ k = bf ∨ pfoot gp vp bp k) w3 w5 from (HK4.out.drew).trans (hk5.mono (fun i q => Or.inl (Or.inr (Or.inl q)))))
              clear hm5 hk5))
        go_wp2_with fail
        go_region_held3 (fun w' => w'.cell? ⟨g, 2, none⟩ = some (.pointer (some ⟨gp, 0, none⟩)) ∧ w'.cell? ⟨B, 1, none⟩ = some (.int .i64 nd))
          (first | exact (HS.out _ HK6.out).2.2 | exact (HS.out _ (HK5.out.drew)).2.2)
          (first
           | (go_at_call 45
              refine (give_any w5.drew gp bp vp p nd (HM5.out.below ((Below.refl _ _).drew)).pl HM5.out.inv).mono ?_
              rintro e w6 ⟨p', vp', rfl, hp, hinv, hmost, hkeys, hv6, hk6⟩
              have HM6 := Lib.hid ((HM5.out.below ((Below.refl _ _).drew)).pooled hp hinv hmost hv6 hk6)
              have HK6 := Lib.hid (show Keep (fun k => k = bd ∨ k = bf ∨ pfoot gp vp bp k) w3 w6 from (HK5.out.drew).trans (hk6.mono (fun i q => Or.inl (Or.inr (Or.inr q)))))
              have HKEYS := Lib.hid hkeys
              have HV6 := Lib.hid hv6
              clear hp hinv hmost hk6 hkeys hv6))
        go_wp2_with fail
        go_ret
        have hitm : (⟨dir, ⟨nm, nd, true, ck, sh⟩⟩ : Itm) ∈ L := HIT.out
        have hfin := tstep_mk (w := w) (vp := vp) (D := D) HM6.out (HREP.out.dropped HI.out hitm HKEYS.out v' HERA.out) (fun k q => (HV6.out k q).imp id (fun q => by have h3 := HK3.out.size; have h5 := HK5.out.size; exact Nat.le_trans (Nat.le_trans h3 h5) q))
          (fun x hx k q => by
            rcases mem_mput_de (mem_mdel_de hx) with r | r
            · exact Or.inl ⟨x, r, q⟩
            · rw [r] at q; exact Or.inr (Nat.le_trans HSZ.out (HV3.out k q)))
          (HK3.out.trans (HK6.out.mono (fun i q => Or.inl (q.elim (fun q => Or.inr (Or.inl q)) (fun q => q.elim (fun q => Or.inr (Or.inr (Or.inl q))) (fun q => Or.inr (Or.inr (Or.inr (Or.inl q)))))))))
        unfold UnlinkPost
        rw [HR.out, ← HENM.out]
        exact ⟨rfl, hfin⟩
      · have hK1 : decide ((K : Int) > 0) = true := by simp; omega
        have hK2 : decide ((0 : Int) < K) = true := by simp; omega
        have hK3 : (0 : Int) < K := by omega
        have hK4 : 0 < K := by omega
        go_wp2_with fail
        go_ret
        exact HEA.out 9 _ (by
          unfold unlinkErr; rw [HE.out, HX.out]
          have : entries L nd ≠ [] := fun e => hK0 (by rw [← HK.out, e]; rfl)
          simp [this]) (by decide) (HB2.out.trans (HBQ.out.mono HB2.out.size))
  · have e1 : (E == 0) = false := by simpa using h0
    have e2 : (E != 0) = true := by simpa using h0
    go_wp2_with fail
    go_ret
    exact HEA.out E _ (by unfold unlinkErr; rw [HE.out, if_pos h0]) h0 (hb1.alloc hb1.size _)
end Go.Proofs.Ytolilbcpfdnkjaa
