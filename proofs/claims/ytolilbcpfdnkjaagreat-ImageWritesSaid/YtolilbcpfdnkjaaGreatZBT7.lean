/- tree: an entry is put behind a directory's others, or taken out: memory. -/
import Derived.Test.YtolilbcpfdnkjaaGreatZBT6
import Derived.Deep.RegionHeld3
import Derived.Deep.RegionLaw
import Derived.Outline
namespace Go.Proofs.YtolilbcpfdnkjaaGreat
open Go.RowKit
set_option linter.unusedSimpArgs false
set_option linter.unusedVariables false
theorem mem_mput_de {D : List (Int × DE)} {d : Int} {y : DE} {x : Int × DE} (h : x ∈ mput D d y) : x ∈ D ∨ x.2 = y := by
  unfold mput at h
  split at h
  · obtain ⟨q, hq, e⟩ := List.mem_map.1 h
    split at e
    · exact Or.inr (by rw [← e])
    · exact Or.inl (by rw [← e]; exact hq)
  · rcases List.mem_append.1 h with q | q
    · exact Or.inl q
    · simp at q; exact Or.inr (by rw [q])
section
variable {w w' : World} {g bd bf gp bp : Nat} {vp : Value} {D : List (Int × DE)} {Fm : List (Int × Int)} {p : PD} {next next' : Int}
/-- A directory has been given other entries, the counter another number. -/
theorem MAt.turned (h : MAt w g bd bf gp bp vp D Fm p next) {d : Int} {v : Value} {l : List Ent} (hk : Keep (fun k => k = g ∨ k = bd) w w')
    (hb : w'.heap[g]? = some (.cells #[.map (some bd), .map (some bf), .pointer (some ⟨gp, 0, none⟩), .int .i64 next'] 79 (0, 0))) (hd : IMap encDE w' bd (mput D d (v, l)))
    (hr : RowO EEnt w' 0 v l) (hv : ∀ k, v.ownBlock = some k → w.heap.size ≤ k) : MAt w' g bd bf gp bp vp (mput D d (v, l)) Fm p next' := by
  have hn : ∀ k, tfoot g bd bf gp bp vp D k → k ≠ g → k ≠ bd → ¬ (k = g ∨ k = bd) := fun k _ a b q => q.elim a b
  have hf : ∀ k, pfoot gp vp bp k → ¬ (k = g ∨ k = bd) := fun k q r => r.elim (h.s2 k q).1 (h.s2 k q).2.1
  refine ⟨hb, hd, h.fm.keep hk (fun q => q.elim h.s1.2.1 h.s1.2.2), ?_, h.inv, h.most, fun x hx => ?_, h.s1, h.s2, fun x hx k q => ?_⟩
  · exact ⟨m_keep h.pl.blk hk (hf _ (Or.inl rfl)), h.pl.row.kept (fun j hj => hk.block j (World.ownsRow.lt h.pl.row j hj).2 (hf _ (Or.inr (Or.inr hj.symm)))), h.pl.mp.keep hk (hf _ (Or.inr (Or.inl rfl))), h.pl.ne1, h.pl.ne2, h.pl.ne3⟩
  · rcases mem_mput_de hx with q | q
    · exact (h.rows x q).keep hk (fun i hi r => r.elim (h.s3 x q i hi).1 (h.s3 x q i hi).2.1)
    · rw [q]; exact hr
  · rcases mem_mput_de hx with r | r
    · exact h.s3 x r k q
    · rw [r] at q
      have := hv k q
      have hge : ∀ j, tfoot g bd bf gp bp vp D j → k ≠ j := fun j hj e => by have := h.foot_lt hj; omega
      exact ⟨hge g (Or.inl rfl), hge bd (Or.inr (Or.inl rfl)), hge bf (Or.inr (Or.inr (Or.inl rfl))), fun z => hge k (Or.inr (Or.inr (Or.inr (Or.inl z)))) rfl⟩
end
def Ent.at_ (x : Ent) (c : Int) : Ent := ⟨x.name, x.node, x.dir, c, x.short⟩
def PutPost (w : World) (g bd bf gp bp : Nat) (vp : Value) (D : List (Int × DE)) (Fm : List (Int × Int)) (p : PD) (d : Int) (l : List Ent) (next : Int) (e : Ending) (w' : World) : Prop :=
  ∃ v', e = .returned (.tuple #[]) ∧ MAt w' g bd bf gp bp vp (mput D d (v', l)) Fm p next ∧ (∀ k, v'.ownBlock = some k → w.heap.size ≤ k) ∧ Keep (fun k => k = g ∨ k = bd) w w'
set_option maxRecDepth 100000 in
set_option maxHeartbeats 4000000 in
theorem tput_any {w : World} {g bd bf gp bp : Nat} {vp : Value} {D : List (Int × DE)} {Fm : List (Int × Int)} {p : PD} {next : Int} (d : Int) (x : Ent) {v : Value} {E : List Ent}
    (h : MAt w g bd bf gp bp vp D Fm p next) (hd : mget D d = some (v, E)) (hE : E.length ≤ 100000) (hn : 0 ≤ next ∧ next ≤ 1000000000) :
    Calls Tryz.prog 58 #[.pointer (some ⟨g, 0, none⟩), .int .i64 d, x.val] w (PutPost w g bd bf gp bp vp D Fm p d (E ++ [x.at_ next]) (next + 1)) := by
  obtain ⟨B, hB⟩ : ∃ B, w.heap.size = B := ⟨_, rfl⟩
  have hgB : g ≠ B := by have := m_lt h.blk; omega
  have hBg : B ≠ g := Ne.symm hgB
  have hbx := m_alloc w (.cells #[.string x.name, .int .i64 x.node, .bool x.dir, .int .i64 x.cookie, .int .i64 x.short] 84 (0, 0)) B hB
  have hbg := m_old (.cells #[.string x.name, .int .i64 x.node, .bool x.dir, .int .i64 x.cookie, .int .i64 x.short] 84 (0, 0)) h.blk
  have k1 : Keep (fun k => k = g ∨ k = bd) w (w.alloc (.cells #[.string x.name, .int .i64 x.node, .bool x.dir, .int .i64 x.cookie, .int .i64 x.short] 84 (0, 0))) := (Keep.refl _ w).alloc _
  have c0 := (m_cells hbx).1 3
  have f0 := (m_cells hbx).2 3
  have cg3 : ∀ o, (w.alloc o).cell? ⟨g, 3, none⟩ = some (.int .i64 next) := fun o => (m_cells (m_old o h.blk)).1 3
  have fg3 : ∀ o, (w.alloc o).frozen? ⟨g, 3, none⟩ = false := fun o => (m_cells (m_old o h.blk)).2 3
  have HBX := Lib.hid hbx
  have HBG := Lib.hid hbg
  have HK1 := Lib.hid k1
  have HM := Lib.hid h
  have HD := Lib.hid hd
  have HBB := Lib.hid hB
  have n1 : next ≤ 9223372036854775806 := by omega
  have n2 : 0 ≤ next := hn.1
  clear hbx hbg k1 h hd hB
  go_enter Tryz.func58, Tryz.ntmps58
  go_wp2_with fail
  rw [HBB.out]
  have hWb : ∀ o, B < (w.alloc o).heap.size := fun o => by have := HBB.out; simp; omega
  have hbB := m_set_ne (m_alloc w (.cells #[.string x.name, .int .i64 x.node, .bool x.dir, .int .i64 next, .int .i64 x.short] 84) B HBB.out) g 3 (.int .i64 (next + 1)) hBg
  have hbg := m_set (m_old (.cells #[.string x.name, .int .i64 x.node, .bool x.dir, .int .i64 next, .int .i64 x.short] 84) HM.out.blk) 3 (.int .i64 (next + 1))
  have hkW : Keep (fun k => k = g) w ((w.alloc (.cells #[.string x.name, .int .i64 x.node, .bool x.dir, .int .i64 next, .int .i64 x.short] 84)).setCell ⟨g, 3, none⟩ (.int .i64 (next + 1))) := ((Keep.refl _ w).alloc _).set g 3 _ (Or.inl rfl)
  generalize hW : (w.alloc (.cells #[.string x.name, .int .i64 x.node, .bool x.dir, .int .i64 next, .int .i64 x.short] 84)).setCell ⟨g, 3, none⟩ (.int .i64 (next + 1)) = W at *
  clear hW cg3 fg3 c0 f0 HBX HBG HK1 hWb
  have hdm := HM.out.dm.keep hkW (fun e => HM.out.s1.1 e)
  have hrow : RowO EEnt W 0 v E := (HM.out.rows _ (mget_mem HD.out)).keep hkW (fun i hi e => (HM.out.s3 _ (mget_mem HD.out) i hi).1 e)
  have hbdB : bd ≠ B := by have := HM.out.dm.lt; have := HBB.out; omega
  have hBlt := m_lt hbB
  have HS := Lib.hid (show ∀ w', Keep (fun k => k = bd) W w' → (w'.cell? ⟨g, 0, none⟩ = some (.map (some bd)) ∧ w'.cell? ⟨B, 0, none⟩ = some (.string x.name) ∧ w'.cell? ⟨B, 1, none⟩ = some (.int .i64 x.node) ∧ w'.cell? ⟨B, 2, none⟩ = some (.bool x.dir) ∧ w'.cell? ⟨B, 3, none⟩ = some (.int .i64 next) ∧ w'.cell? ⟨B, 4, none⟩ = some (.int .i64 x.short)) from fun w' k => by
    have q1 := (m_cells (m_keep hbg k (fun e => HM.out.s1.1 e.symm))).1
    have q2 := (m_cells (m_keep hbB k (fun e => hbdB e.symm))).1
    exact ⟨q1 0, q2 0, q2 1, q2 2, q2 3, q2 4⟩)
  have HS0 := Lib.hid (fun (w' : World) (k : Keep (fun _ => False) W w') => HS.out w' (k.mono (fun _ q => q.elim)))
  have hlk := fun (w' : World) (k : Keep (fun k => k = g) W w') => (hdm.keep k (fun e => HM.out.s1.1 e)).lookup (P := Tryz.prog) Tryz.underlying53 Tryz.underlying3 zero_ents d false
  have hl1 := hlk _ ((Keep.refl _ W).drew)
  have hl2 := fun o => hlk _ (((Keep.refl _ W).alloc o).drew)
  rw [HD.out] at hl1 hl2
  simp only [Bool.false_eq_true, if_false, encDE] at hl1 hl2
  have HBG := Lib.hid hbg
  have HKW := Lib.hid hkW
  have HDM := Lib.hid hdm
  have HROW := Lib.hid hrow
  have HBL := Lib.hid (show w.heap.size ≤ W.heap.size from hkW.size)
  have HELEN := Lib.hid hE
  obtain ⟨va, vc, rfl⟩ := hrow.shape
  clear hbg hbB hkW hdm hrow hlk hBlt hE hgB hBg hbdB hn
  go_region_held3 (fun w' => w'.cell? ⟨g, 0, none⟩ = some (.map (some bd)) ∧ w'.cell? ⟨B, 0, none⟩ = some (.string x.name) ∧ w'.cell? ⟨B, 1, none⟩ = some (.int .i64 x.node) ∧ w'.cell? ⟨B, 2, none⟩ = some (.bool x.dir) ∧ w'.cell? ⟨B, 3, none⟩ = some (.int .i64 next) ∧ w'.cell? ⟨B, 4, none⟩ = some (.int .i64 x.short))
    (first | exact HS.out _ hk3 | exact HS0.out _ hk2 | exact HS0.out _ (hk1.alloc _) | exact HS0.out _ hk1 | exact HS0.out _ (((Keep.refl _ _).alloc _).drew) | exact HS0.out _ ((Keep.refl _ _).drew))
    (first
     | (go_at_call 37
        refine (eclone_any (l := E) W.drew (HROW.out.arg.below ((Below.refl _ _).drew)) (by have := HELEN.out; omega)).mono ?_
        rintro e w1 ⟨v1, rfl, hr1', hb1⟩
        have hk1 : Keep (fun _ => False) W w1 := ((Keep.refl _ W).drew).trans' (Keep.below hb1) (fun i hi => Or.inr hi)
        have hr1 : Row EEnt w1 W.heap.size v1 E := hr1'
        obtain ⟨a1, k1, rfl⟩ := hr1.shape
        clear hr1' hb1)
     | (go_at_call 37
        refine (eclone_any (l := E) (W.alloc _).drew (HROW.out.arg.below (((Below.refl _ _).alloc (Nat.le_refl _) _).drew)) (by have := HELEN.out; omega)).mono ?_
        rintro e w1 ⟨v1, rfl, hr1', hb1⟩
        have hsz : (W.alloc (.cells #[.string x.name, .int .i64 x.node, .bool x.dir, .int .i64 next, .int .i64 x.short] 84)).drew.heap.size = W.heap.size + 1 := (by simp [World.drew])
        have hk1 : Keep (fun _ => False) W w1 := (((Keep.refl _ W).alloc _).drew).trans' (Keep.below hb1) (fun i hi => Or.inr (by omega))
        have hr1 : Row EEnt w1 W.heap.size v1 E := hr1'.mono (by omega)
        have hbk := (hb1.block W.heap.size (by omega)).trans (m_alloc W (.cells #[.string x.name, .int .i64 x.node, .bool x.dir, .int .i64 next, .int .i64 x.short] 84) W.heap.size rfl)
        obtain ⟨a1, k1, rfl⟩ := hr1.shape
        clear hr1' hb1 hsz)
     | (refine step_app EEnt.laid rfl _ _ 49 49 Tryz.underlying49 Tryz.underlying49 rfl (.slice a1 E.length k1) E rfl hr1 _ [x.at_ next] rfl (Arg.blk hbk [x.at_ next] rfl 1) ?e2 ?e3 hk1.size ?_
        case e2 => (have := HELEN.out; show (E.length + 1) * 48 ≤ _; omega)
        case e3 => (have := HELEN.out; show E.length + 1 ≤ maxLen; unfold maxLen; omega)
        intro v2 w2 hr2 hv2 k2
        have hk2 : Keep (fun _ => False) W w2 := hk1.trans' k2 (fun i hi => Or.inr (hr1.ge hi.symm))
        obtain ⟨w3, hrun, hm3, hk3'⟩ := (HDM.out.keep hk2 (fun q => q)).update (P := Tryz.prog) Tryz.underlying53 Tryz.underlying3 d (v2, E ++ [x.at_ next])
        simp only [encDE] at hrun
        have hk3 : Keep (fun k => k = bd) W w3 := (hk2.mono (fun _ q => q.elim)).trans hk3'
        clear hk1 hr1 hbk)
     | (refine step_app EEnt.laid rfl _ _ 49 49 Tryz.underlying49 Tryz.underlying49 rfl (.slice a1 E.length k1) E rfl (hr1.alloc _) _ [x.at_ next] rfl (Arg.blk (m_alloc _ _ _ rfl) [x.at_ next] rfl 1) ?e2 ?e3 (hk1.alloc _).size ?_
        case e2 => (have := HELEN.out; show (E.length + 1) * 48 ≤ _; omega)
        case e3 => (have := HELEN.out; show E.length + 1 ≤ maxLen; unfold maxLen; omega)
        intro v2 w2 hr2 hv2 k2
        have hk2 : Keep (fun _ => False) W w2 := (hk1.alloc _).trans' k2 (fun i hi => Or.inr (hr1.ge hi.symm))
        obtain ⟨w3, hrun, hm3, hk3'⟩ := (HDM.out.keep hk2 (fun q => q)).update (P := Tryz.prog) Tryz.underlying53 Tryz.underlying3 d (v2, E ++ [x.at_ next])
        simp only [encDE] at hrun
        have hk3 : Keep (fun k => k = bd) W w3 := (hk2.mono (fun _ q => q.elim)).trans hk3'
        clear hk1 hr1))
  all_goals
    go_wp2_with fail
    refine bodyPost_ret (v := .tuple #[]) (by simp [results, Tryz.results58, go_sem]) rfl ?_
    have hge : ∀ k, v2.ownBlock = some k → W.heap.size ≤ k := fun k hk => hr2.ge hk
    have hk3g : Keep (fun k => k = g ∨ k = bd) w w3 := (HKW.out.mono (fun i q => Or.inl (Or.inl q))).trans (hk3.mono (fun i q => Or.inl (Or.inr q)))
    have hbdW : bd < W.heap.size := HDM.out.lt
    refine ⟨v2, rfl, HM.out.turned hk3g (m_keep HBG.out hk3 (fun e => HM.out.s1.1 e.symm)) hm3 (RowO.of_row ((hr2.keep hk3' (fun i hi e => by have := hge i hi; omega)).mono (Nat.zero_le _))) (fun k hk => Nat.le_trans HBL.out (hge k hk)), fun k hk => Nat.le_trans HBL.out (hge k hk), hk3g⟩
end Go.Proofs.YtolilbcpfdnkjaaGreat
