/- tree: Link. -/
import Derived.Test.YtolilbcpfdnkjaaU1
import Derived.Outline
namespace Go.Proofs.Ytolilbcpfdnkjaa
open Go.RowKit
set_option linter.unusedSimpArgs false
set_option linter.unusedVariables false
/-- A tree has turned. -/
def TStep (w : World) (F : Nat → Prop) (g : Nat) (L : List Itm) (next : Int) (w' : World) : Prop := ∃ F', TreeM w' F' g L next ∧ (∀ k, F' k → F k ∨ w.heap.size ≤ k) ∧ Keep F w w'
section
variable {w w' w1 w2 : World} {g bd bf gp bp : Nat} {vp vp' : Value} {D D' : List (Int × DE)} {Fm Fm' : List (Int × Int)} {p p' : PD} {L : List Itm} {next next' : Int} {F G : Nat → Prop}
theorem TStep.same (h : TreeM w F g L next) (hb : Below w.heap.size w w') : TStep w F g L next w' := ⟨F, h.below hb, fun _ q => Or.inl q, (Keep.refl F w).trans' (Keep.below hb) (fun i q => Or.inr q)⟩
theorem TStep.before (hb : Below w.heap.size w w1) (h : TStep w1 F g L next w') : TStep w F g L next w' := by
  obtain ⟨F', h1, h2, h3⟩ := h
  exact ⟨F', h1, fun k q => (h2 k q).imp id (fun q => Nat.le_trans hb.size q), ((Keep.refl F w).trans' (Keep.below hb) (fun i q => Or.inr q)).trans h3⟩
/-- The pool has turned. -/
theorem MAt.pooled (h : MAt w g bd bf gp bp vp D Fm p next) (hp : PAt w' gp vp' bp p') (hi : PInv p') (hm : p'.most = p.most) (hv : ∀ k, vp'.ownBlock = some k → vp.ownBlock = some k ∨ w.heap.size ≤ k) (hk : Keep (pfoot gp vp bp) w w') :
    MAt w' g bd bf gp bp vp' D Fm p' next := by
  have hf : ∀ k, pfoot gp vp' bp k → pfoot gp vp bp k ∨ w.heap.size ≤ k := fun k q => by
    rcases q with q | q | q
    · exact Or.inl (Or.inl q)
    · exact Or.inl (Or.inr (Or.inl q))
    · exact (hv k q.symm).imp (fun e => Or.inr (Or.inr e.symm)) id
  have hlt : ∀ j, tfoot g bd bf gp bp vp D j → j < w.heap.size := fun j hj => h.foot_lt hj
  refine ⟨m_keep h.blk hk (fun q => (h.s2 _ q).1 rfl), h.dm.keep hk (fun q => (h.s2 _ q).2.1 rfl), h.fm.keep hk (fun q => (h.s2 _ q).2.2 rfl), hp, hi, by rw [hm]; exact h.most,
    fun x hx => (h.rows x hx).keep hk (fun i q r => (h.s3 x hx i q).2.2.2 r), h.s1, fun k q => ?_, fun x hx k q => ?_⟩
  · rcases hf k q with q | q
    · exact h.s2 k q
    · have a := hlt g (Or.inl rfl); have b := hlt bd (Or.inr (Or.inl rfl)); have c := hlt bf (Or.inr (Or.inr (Or.inl rfl)))
      exact ⟨by omega, by omega, by omega⟩
  · obtain ⟨a, b, c, d⟩ := h.s3 x hx k q
    refine ⟨a, b, c, fun r => ?_⟩
    rcases hf k r with r | r
    · exact d r
    · have := hlt k (Or.inr (Or.inr (Or.inr (Or.inr ⟨x, hx, q⟩)))); omega
/-- The files' map has turned. -/
theorem MAt.filed (h : MAt w g bd bf gp bp vp D Fm p next) (hf : IMap (Value.int .i64) w' bf Fm') (hk : Keep (fun k => k = bf) w w') : MAt w' g bd bf gp bp vp D Fm' p next := by
  have hn : ∀ k, pfoot gp vp bp k → ¬ k = bf := fun k q => (h.s2 k q).2.2
  exact ⟨m_keep h.blk hk (fun e => h.s1.2.1 e.symm), h.dm.keep hk (fun e => h.s1.2.2 e.symm), hf,
    ⟨m_keep h.pl.blk hk (hn _ (Or.inl rfl)), h.pl.row.kept (fun j hj => hk.block j (World.ownsRow.lt h.pl.row j hj).2 (hn _ (Or.inr (Or.inr hj.symm)))), h.pl.mp.keep hk (hn _ (Or.inr (Or.inl rfl))), h.pl.ne1, h.pl.ne2, h.pl.ne3⟩, h.inv, h.most,
    fun x hx => (h.rows x hx).keep hk (fun i q r => (h.s3 x hx i q).2.2.1 r), h.s1, h.s2, h.s3⟩
/-- The directories' map has lost, or has been given, something that stood. -/
theorem MAt.dired (h : MAt w g bd bf gp bp vp D Fm p next) (hd : IMap encDE w' bd D') (hk : Keep (fun k => k = bd) w w') (hr : ∀ x ∈ D', x ∈ D ∨ x.2 = (.slice none 0 0, [])) : MAt w' g bd bf gp bp vp D' Fm p next := by
  have hn : ∀ k, pfoot gp vp bp k → ¬ k = bd := fun k q => (h.s2 k q).2.1
  refine ⟨m_keep h.blk hk (fun e => h.s1.1 e.symm), hd, h.fm.keep hk (fun e => h.s1.2.2 e),
    ⟨m_keep h.pl.blk hk (hn _ (Or.inl rfl)), h.pl.row.kept (fun j hj => hk.block j (World.ownsRow.lt h.pl.row j hj).2 (hn _ (Or.inr (Or.inr hj.symm)))), h.pl.mp.keep hk (hn _ (Or.inr (Or.inl rfl))), h.pl.ne1, h.pl.ne2, h.pl.ne3⟩, h.inv, h.most,
    fun x hx => ?_, h.s1, h.s2, fun x hx k q => ?_⟩
  · rcases hr x hx with r | r
    · exact (h.rows x r).keep hk (fun i q s => (h.s3 x r i q).2.1 s)
    · rw [r]; exact RowO.nil _ _ _
  · rcases hr x hx with r | r
    · exact h.s3 x r k q
    · rw [r] at q; cases q
theorem mem_mdel_de {D : List (Int × DE)} {d : Int} {x : Int × DE} (h : x ∈ mdel D d) : x ∈ D := (List.mem_filter.1 h).1
theorem idx_find (L : List Itm) (d : Int) (name : ByteArray) : (idxP (entries L d) (hasName name) = -1 ∧ (findE L d name).isSome = false) ∨ (∃ i : Nat, idxP (entries L d) (hasName name) = i ∧ (findE L d name).isSome = true) := by
  unfold findE
  rcases idxP_spec (entries L d) (hasName name) with ⟨i, x, h1, h2, h3⟩ | ⟨h1, h2⟩
  · exact Or.inr ⟨i, h1, by rw [h3]; rfl⟩
  · exact Or.inl ⟨h1, by rw [h2]; rfl⟩
end
theorem tstep_mk {w w' : World} {g bd bf gp bp : Nat} {vp vp' : Value} {D D' : List (Int × DE)} {Fm' : List (Int × Int)} {p' : PD} {L' : List Itm} {next' : Int}
    (hm' : MAt w' g bd bf gp bp vp' D' Fm' p' next') (hr' : TRep D' Fm' p' L') (hv : ∀ k, vp'.ownBlock = some k → vp.ownBlock = some k ∨ w.heap.size ≤ k)
    (hD : ∀ x ∈ D', ∀ k, x.2.1.ownBlock = some k → (∃ y ∈ D, y.2.1.ownBlock = some k) ∨ w.heap.size ≤ k) (hk : Keep (tfoot g bd bf gp bp vp D) w w') : TStep w (tfoot g bd bf gp bp vp D) g L' next' w' := by
  refine ⟨tfoot g bd bf gp bp vp' D', ⟨bd, bf, gp, bp, vp', D', Fm', p', rfl, hm', hr'⟩, fun k q => ?_, hk⟩
  rcases q with q | q | q | q | ⟨x, hx, q⟩
  · exact Or.inl (Or.inl q)
  · exact Or.inl (Or.inr (Or.inl q))
  · exact Or.inl (Or.inr (Or.inr (Or.inl q)))
  · rcases q with q | q | q
    · exact Or.inl (Or.inr (Or.inr (Or.inr (Or.inl (Or.inl q)))))
    · exact Or.inl (Or.inr (Or.inr (Or.inr (Or.inl (Or.inr (Or.inl q))))))
    · exact (hv k q.symm).imp (fun e => Or.inr (Or.inr (Or.inr (Or.inl (Or.inr (Or.inr e.symm)))))) id
  · exact (hD x hx k q).imp (fun e => Or.inr (Or.inr (Or.inr (Or.inr e)))) id
theorem mem_mput2 {D : List (Int × DE)} {d : Int} {y : DE} {x : Int × DE} (h : x ∈ mput D d y) : x ∈ D ∨ x.2 = y := mem_mput_de h
def LinkPost (w : World) (F : Nat → Prop) (g : Nat) (R : LR) (e : Ending) (w' : World) : Prop := e = .returned (.tuple #[.int .i64 R.node, .int .i64 R.err]) ∧ TStep w F g R.L R.next w'
set_option maxRecDepth 100000 in
set_option maxHeartbeats 4000000 in
theorem tlink_any {w : World} {F : Nat → Prop} {g : Nat} {L : List Itm} {next : Int} (dir : Int) (name : ByteArray) (isDir : Bool) (short : Int) (h : TreeM w F g L next) (hi : TInv L next) (hn : next ≤ 1000000000) (hs : name.size ≤ maxLen) :
    Calls Try.prog 15 #[.pointer (some ⟨g, 0, none⟩), .int .i64 dir, .string name, .bool isDir, .int .i64 short] w (LinkPost w F g (linkT L next dir name isDir short)) := by
  have hlen := hi.len
  have HLI := Lib.hid (tlist_any dir h (by omega))
  have HT := Lib.hid h
  have HI := Lib.hid hi
  obtain ⟨E, hE⟩ : ∃ E, listErr L dir = E := ⟨_, rfl⟩
  by_cases h0 : E = 0
  · subst h0
    obtain ⟨M, hM⟩ : ∃ M, mayErr name short = M := ⟨_, rfl⟩
    have HMAY := fun w => Lib.hid (tmay_any name short w hs)
    by_cases m0 : M = 0
    · subst m0
      have HLEN := Lib.hid (show (entries L dir).length ≤ 1000000 from by
        unfold entries; rw [List.length_map]
        exact Nat.le_trans (List.length_filter_le _ _) (by omega))
      have HE := Lib.hid hE
      have HMM := Lib.hid hM
      rcases idx_find L dir name with ⟨hx, hf⟩ | ⟨i, hx, hf⟩
      · have hlk : linkErr L dir name short = 0 := by unfold linkErr; rw [hE, if_neg (by decide), hM, if_neg (by decide), hf]; rfl
        have HLK := Lib.hid hlk
        have HFN := Lib.hid (find_none hf)
        have HD := Lib.hid (show isDirB L dir = true from by
          cases hd : isDirB L dir with
          | true => rfl
          | false => unfold listErr at hE; rw [hd] at hE; simp at hE; split at hE <;> cases hE)
        have HX := Lib.hid hx
        clear h hi hE hM hx hf hlk
        go_enter Try.func15, Try.ntmps15
        go_wp2_with fail
        refine HLI.out.mono ?_
        rintro e w1 ⟨v, l, rfl, hr, hle, hb⟩
        rw [HE.out] at hle ⊢
        have hle := hle rfl
        subst hle
        obtain ⟨a1, k1, rfl⟩ := hr.shape
        have HB := Lib.hid hb
        have HRW := Lib.hid hr
        clear hr hb
        go_wp2_with fail
        refine (HMAY w1).out.mono ?_
        rintro e w2 ⟨rfl, hb2⟩
        rw [HMM.out]
        have HB2 := Lib.hid (HB.out.trans (hb2.mono HB.out.size))
        have HRW2 := Lib.hid (HRW.out.below hb2)
        clear hb2 HRW HB HLI
        go_wp2_with fail
        refine (index_any name w2 HRW2.out.arg HLEN.out).mono ?_
        rintro e w3 ⟨rfl, hb3⟩
        rw [HX.out]
        have HB3 := Lib.hid (HB2.out.trans (hb3.mono HB2.out.size))
        clear hb3 HB2 HRW2
        obtain ⟨bd, bf, gp, bp, vp, D, Fm, p, rfl, hm, hrep⟩ := HT.out
        have HM3 := Lib.hid (hm.below HB3.out)
        have HREP := Lib.hid hrep
        have q2 : w3.cell? ⟨g, 2, none⟩ = some (.pointer (some ⟨gp, 0, none⟩)) := (m_cells HM3.out.blk).1 2
        have HSZ := Lib.hid (HB3.out.size)
        clear hm hrep
        go_wp2_with fail
        refine (take_any w3 gp bp vp p HM3.out.pl HM3.out.inv).mono ?_
        rintro e w4 ⟨p', vp', n, hlf, rfl, hp, hinv, hmost, hk4, hv4, hkeep⟩
        rw [HM3.out.most] at hk4 ⊢
        have HM4 := Lib.hid (HM3.out.pooled hp hinv hmost hv4 hkeep)
        have HFR : freeN (nodes L) = n := freeN_eq (hlf.congr (fun k => (HREP.out.r4 k).trans mem_nodes.symm))
        have HLF := Lib.hid (hlf.congr (fun k => (HREP.out.r4 k).trans (mem_nodes (L := L)).symm))
        have HK4 := Lib.hid hk4
        have HV4 := Lib.hid hv4
        have HKP := Lib.hid (show Keep (tfoot g bd bf gp bp vp D) w w4 from ((Keep.refl _ w).trans' (Keep.below HB3.out) (fun i q => Or.inr q)).trans (hkeep.mono (fun i q => Or.inl (Or.inr (Or.inr (Or.inr (Or.inl q)))))))
        clear hp hinv hmost hk4 hv4 hkeep hlf q2
        by_cases hn200 : n ≤ 200
        · rw [if_pos hn200, decide_eq_true hn200]
          have HR : linkT L next dir name isDir short = ⟨L ++ [⟨dir, ⟨name, n, isDir, next, short⟩⟩], next + 1, n, 0⟩ := by
            unfold linkT; rw [HLK.out, if_neg (by decide), HFR, if_pos hn200]
          have HRH := Lib.hid HR
          have hn1 : (1 : Int) ≤ n := by have := HLF.out.1; omega
          have hnn : (n : Int) ∉ nodes L := HLF.out.2.1
          have HKY := Lib.hid (show ∀ k, k ∈ mkeys p'.out ↔ k ∈ mkeys p.out ∨ k = (n : Int) from fun k => by rw [HK4.out k]; exact ⟨fun q => q.imp id (fun q => q.2), fun q => q.imp id (fun q => ⟨hn200, q⟩)⟩)
          obtain ⟨hfd, hff⟩ := dir_of_free hnn hn1
          have hne : dir ≠ n := fun e => by have := HD.out; rw [e, hfd] at this; cases this
          obtain ⟨v0, hv0⟩ := HREP.out.r1 dir HD.out
          have HN1 := Lib.hid hn1
          have HNN := Lib.hid hnn
          have HNE := Lib.hid hne
          have HV0 := Lib.hid hv0
          have HN2 := Lib.hid hn200
          have q0 : w4.cell? ⟨g, 0, none⟩ = some (.map (some bd)) := (m_cells HM4.out.blk).1 0
          have q1 : w4.cell? ⟨g, 1, none⟩ = some (.map (some bf)) := (m_cells HM4.out.blk).1 1
          have HL5 := Lib.hid (show (entries L dir).length ≤ 100000 from by
            unfold entries; rw [List.length_map]
            exact Nat.le_trans (List.length_filter_le _ _) (by omega))
          have HNX := Lib.hid (show 0 ≤ next ∧ next ≤ 1000000000 from ⟨by have := HI.out.nx; omega, hn⟩)
          clear HR HFR hn1 hnn hfd hff hne hv0 HLF HK4 hn200
          cases isDir
          · go_wp2_with (first
              | (refine map_put rfl _ _ _ rfl Try.underlying74 Try.underlying3 (n : Int) (1 : Int) rfl rfl rfl HM4.out.fm ?_
                 intro w5 hm5 hk5
                 have HM5 := Lib.hid (HM4.out.filed hm5 hk5)
                 have HK5 := Lib.hid (show Keep (tfoot g bd bf gp bp vp D) w w5 from HKP.out.trans (hk5.mono (fun i q => Or.inl (Or.inr (Or.inr (Or.inl q))))))
                 clear hm5 hk5))
            refine (tput_any dir ⟨name, n, false, 0, short⟩ HM5.out HV0.out HL5.out HNX.out).mono ?_
            rintro e w6 ⟨v', rfl, hm6, hv6, hk6⟩
            have HM6 := Lib.hid hm6
            have HV6 := Lib.hid hv6
            have HK6 := Lib.hid hk6
            clear hm6 hv6 hk6
            go_wp2_with fail
            go_ret2
            refine ⟨by rw [HRH.out]; rfl, ?_⟩
            rw [HRH.out]
            refine tstep_mk HM6.out (HREP.out.linkedF (x := ⟨dir, ⟨name, n, false, next, short⟩⟩) HI.out HNN.out HN1.out rfl HD.out HKY.out v') (fun k q => (HV4.out k q).imp id (fun q => Nat.le_trans HSZ.out q)) (fun x hx k q => ?_) (HK5.out.trans (HK6.out.mono (fun i q => q.elim (fun q => Or.inl (Or.inl q)) (fun q => Or.inl (Or.inr (Or.inl q))))))
            rcases mem_mput_de hx with r | r
            · exact Or.inl ⟨x, r, q⟩
            · rw [r] at q; exact Or.inr (Nat.le_trans HK5.out.size (HV6.out k q))
          · go_wp2_with (first
              | (refine map_put rfl _ _ _ rfl Try.underlying73 Try.underlying3 (n : Int) ((.slice none 0 0, []) : DE) rfl rfl rfl HM4.out.dm ?_
                 intro w5 hm5 hk5
                 have HM5 := Lib.hid (HM4.out.dired hm5 hk5 (fun x hx => mem_mput_de hx))
                 have HK5 := Lib.hid (show Keep (tfoot g bd bf gp bp vp D) w w5 from HKP.out.trans (hk5.mono (fun i q => Or.inl (Or.inr (Or.inl q)))))
                 clear hm5 hk5))
            refine (tput_any dir ⟨name, n, true, 0, short⟩ (v := v0) (E := entries L dir) HM5.out (by rw [mget_put, if_neg HNE.out]; exact HV0.out) HL5.out HNX.out).mono ?_
            rintro e w6 ⟨v', rfl, hm6, hv6, hk6⟩
            have HM6 := Lib.hid hm6
            have HV6 := Lib.hid hv6
            have HK6 := Lib.hid hk6
            clear hm6 hv6 hk6
            go_wp2_with fail
            go_ret2
            refine ⟨by rw [HRH.out]; rfl, ?_⟩
            rw [HRH.out]
            refine tstep_mk HM6.out (HREP.out.linkedD (x := ⟨dir, ⟨name, n, true, next, short⟩⟩) HI.out HNN.out HN1.out rfl HD.out HKY.out (.slice none 0 0) v') (fun k q => (HV4.out k q).imp id (fun q => Nat.le_trans HSZ.out q)) (fun x hx k q => ?_) (HK5.out.trans (HK6.out.mono (fun i q => q.elim (fun q => Or.inl (Or.inl q)) (fun q => Or.inl (Or.inr (Or.inl q))))))
            rcases mem_mput_de hx with r | r
            · rcases mem_mput_de r with r | r
              · exact Or.inl ⟨x, r, q⟩
              · rw [r] at q; cases q
            · rw [r] at q; exact Or.inr (Nat.le_trans HK5.out.size (HV6.out k q))
        · rw [if_neg hn200, decide_eq_false hn200]
          have HR : linkT L next dir name isDir short = ⟨L, next, 0, 12⟩ := by
            unfold linkT; rw [HLK.out, if_neg (by decide), HFR, if_neg hn200]
          have HRH := Lib.hid HR
          have HN := Lib.hid hn200
          clear HR hn200 HFR
          go_wp2_with fail
          go_ret2
          refine ⟨by rw [HRH.out]; rfl, ?_⟩
          rw [HRH.out]
          exact tstep_mk HM4.out ⟨HREP.out.r1, HREP.out.r2, HREP.out.r3, fun k => by rw [HK4.out k, ← HREP.out.r4 k]; exact ⟨fun q => q.elim id (fun q => absurd q.1 HN.out), Or.inl⟩⟩
            (fun k q => (HV4.out k q).imp id (fun q => Nat.le_trans HSZ.out q)) (fun x hx k q => Or.inl ⟨x, hx, q⟩) HKP.out
      · have HR : linkT L next dir name isDir short = ⟨L, next, 0, 6⟩ := by
          have : linkErr L dir name short = 6 := by unfold linkErr; rw [hE, if_neg (by decide), hM, if_neg (by decide), hf]; rfl
          unfold linkT; rw [this, if_pos (by decide)]
        have HRH := Lib.hid HR
        have HX := Lib.hid hx
        have hi0 : (0 : Int) ≤ i := by omega
        have hi1 : decide ((0 : Int) ≤ i) = true := by simp
        have hi2 : decide ((i : Int) ≥ 0) = true := by simp
        clear h hi hE hM hx hf HR
        go_enter Try.func15, Try.ntmps15
        go_wp2_with fail
        refine HLI.out.mono ?_
        rintro e w1 ⟨v, l, rfl, hr, hle, hb⟩
        rw [HE.out] at hle ⊢
        have hle := hle rfl
        subst hle
        obtain ⟨a1, k1, rfl⟩ := hr.shape
        have HB := Lib.hid hb
        have HRW := Lib.hid hr
        clear hr hb
        go_wp2_with fail
        refine (HMAY w1).out.mono ?_
        rintro e w2 ⟨rfl, hb2⟩
        rw [HMM.out]
        have HB2 := Lib.hid (HB.out.trans (hb2.mono HB.out.size))
        have HRW2 := Lib.hid (HRW.out.below hb2)
        clear hb2 HRW HB HLI
        go_wp2_with fail
        refine (index_any name w2 HRW2.out.arg HLEN.out).mono ?_
        rintro e w3 ⟨rfl, hb3⟩
        rw [HX.out]
        have HB3 := Lib.hid (HB2.out.trans (hb3.mono HB2.out.size))
        clear hb3 HB2 HRW2
        go_wp2_with fail
        go_ret2
        exact ⟨by rw [HRH.out]; rfl, by rw [HRH.out]; exact TStep.same HT.out HB3.out⟩
    · have e1 : (M == 0) = false := by simpa using m0
      have e2 : (M != 0) = true := by simpa using m0
      have HR : linkT L next dir name isDir short = ⟨L, next, 0, M⟩ := by
        have : linkErr L dir name short = M := by unfold linkErr; rw [hE, if_neg (by decide), hM, if_pos m0]
        unfold linkT; rw [this, if_pos m0]
      have HRH := Lib.hid HR
      have HE := Lib.hid hE
      have HMM := Lib.hid hM
      clear h hi hE hM HR
      go_enter Try.func15, Try.ntmps15
      go_wp2_with fail
      refine HLI.out.mono ?_
      rintro e w1 ⟨v, l, rfl, hr, -, hb⟩
      rw [HE.out]
      obtain ⟨a1, k1, rfl⟩ := hr.shape
      have HB := Lib.hid hb
      clear hr hb
      go_wp2_with fail
      refine (HMAY w1).out.mono ?_
      rintro e w2 ⟨rfl, hb2⟩
      rw [HMM.out]
      have HB2 := Lib.hid (HB.out.trans (hb2.mono HB.out.size))
      clear hb2
      go_wp2_with fail
      go_ret2
      exact ⟨by rw [HRH.out]; rfl, by rw [HRH.out]; exact TStep.same HT.out HB2.out⟩
  · have e1 : (E == 0) = false := by simpa using h0
    have e2 : (E != 0) = true := by simpa using h0
    have HR : linkT L next dir name isDir short = ⟨L, next, 0, E⟩ := by
      have : linkErr L dir name short = E := by unfold linkErr; rw [hE, if_pos h0]
      unfold linkT; rw [this, if_pos h0]
    have HRH := Lib.hid HR
    have HE := Lib.hid hE
    clear h hi hE HR
    go_enter Try.func15, Try.ntmps15
    go_wp2_with fail
    refine HLI.out.mono ?_
    rintro e w1 ⟨v, l, rfl, hr, -, hb⟩
    rw [HE.out]
    obtain ⟨a1, k1, rfl⟩ := hr.shape
    have HB := Lib.hid hb
    clear hr hb
    go_wp2_with fail
    go_ret2
    exact ⟨by rw [HRH.out]; rfl, by rw [HRH.out]; exact TStep.same HT.out HB.out⟩
end Go.Proofs.Ytolilbcpfdnkjaa
