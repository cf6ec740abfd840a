/- TreeBack: the walk. -/
import Derived.Test.YtolilbcpfdnkjaaUG
import Derived.Deep.RegionHeld3
import Derived.Outline
namespace Go.Proofs.Ytolilbcpfdnkjaa
open Go.RowKit
set_option linter.unusedSimpArgs false
set_option linter.unusedVariables false
theorem link_bad {L : List Itm} {next dir : Int} {name : ByteArray} {isDir : Bool} {short : Int} (h : (linkT L next dir name isDir short).err ≠ 0) : (linkT L next dir name isDir short).L = L ∧ (linkT L next dir name isDir short).next = next := by
  unfold linkT at h ⊢
  split
  · exact ⟨rfl, rfl⟩
  · rename_i q
    rw [if_neg q] at h
    split
    · rename_i q2; rw [if_pos q2] at h; exact absurd rfl h
    · exact ⟨rfl, rfl⟩
theorem linkT_next (L : List Itm) (next dir : Int) (name : ByteArray) (isDir : Bool) (short : Int) : (linkT L next dir name isDir short).next ≤ next + 1 := by
  unfold linkT
  repeat' split
  all_goals (simp <;> omega)
def DoRel (w0 w : World) (g : Nat) (i : Nat) : Prop := ∃ L next, OwnT w0 w g L next ∧ TInv L next ∧ next ≤ i + 1
set_option maxRecDepth 100000 in
set_option maxHeartbeats 4000000 in
theorem treeback_walk (w : World) (v : Value) (l : List Op1) (dir : Int) (name as_ : ByteArray) (h : Arg EOp w v l) (ml : l.length ≤ maxLen) (hok : ∀ o ∈ l, (o.name.size ≤ maxLen ∧ o.as_.size ≤ maxLen) ∧ o.kind < 256) (hn : name.size ≤ maxLen) (ha : as_.size ≤ maxLen) :
    Calls Try.prog 3 #[v, .int .i64 dir, .agg #[.string name, .string as_]] w fun e w' => e = .returned (.bool true) ∧ Below w.heap.size w w' := by
  obtain ⟨va, vc, rfl⟩ := h.shape
  have hblk := m_alloc w (.cells #[.string name, .string as_] 23 (0, 0)) w.heap.size rfl
  have c0 : (w.alloc (.cells #[.string name, .string as_] 23 (0, 0))).cell? ⟨w.heap.size, 0, none⟩ = some (.string name) := (m_cells hblk).1 0
  have c1 : (w.alloc (.cells #[.string name, .string as_] 23 (0, 0))).cell? ⟨w.heap.size, 1, none⟩ = some (.string as_) := (m_cells hblk).1 1
  have H := Lib.hid h
  have HOK := Lib.hid hok
  have HN := Lib.hid hn
  have HA := Lib.hid ha
  clear h hok hn ha hblk
  go_enter Try.func3, Try.ntmps3
  go_wp2_with fail
  go_quiet (fail)
  have HB0 := Lib.hid (show Below w.heap.size w ((w.alloc (.cells #[.string name, .string as_] 23)).drewN nq) from ⟨rfl, rfl, rfl, by simp [World.drewN], fun k hk => Below.heap_alloc _ _ _ hk⟩)
  generalize hW : (w.alloc (.cells #[.string name, .string as_] 23)).drewN nq = W at *
  clear hW c0 c1
  go_wp2_with fail
  refine (awake10_any W).mono ?_
  rintro e w1 ⟨rfl, hb1⟩
  have HB1 := Lib.hid (HB0.out.trans (hb1.mono HB0.out.size))
  clear hb1 HB0
  go_wp2_with fail
  refine (few10_any w1 _ l 40 (H.out.below HB1.out) ml (fun o ho => (HOK.out o ho).1)).mono ?_
  rintro e w2 ⟨b, rfl, ⟨fw, rfl, hfew⟩, hb2⟩
  have HB2 := Lib.hid (HB1.out.trans (hb2.mono HB1.out.size))
  have HFEW := Lib.hid hfew
  clear hb2 HB1 hfew
  cases fw
  · go_wp2_with fail
    refine (awake10_any _).mono ?_
    rintro e w3 ⟨rfl, hb3⟩
    go_wp2_with fail
    go_ret
    exact ⟨rfl, HB2.out.trans (hb3.mono HB2.out.size)⟩
  · obtain ⟨hl40, hsm⟩ := HFEW.out rfl
    have hl40' : l.length ≤ 40 := by omega
    by_cases hn3 : name.size ≤ 300
    · have b1 : ¬ ((300 : Int) < name.size) := by omega
      have b2 : decide ((300 : Int) < name.size) = false := decide_eq_false b1
      by_cases ha3 : as_.size ≤ 300
      · have d1 : ¬ ((300 : Int) < as_.size) := by omega
        have d2 : decide ((300 : Int) < as_.size) = false := decide_eq_false d1
        have HOW := Lib.hid (own_new w HB2.out)
        clear hl40 hsm HFEW
        go_wp2_with fail
        refine HOW.out.mono ?_
        rintro e w3 ⟨g, rfl, hown⟩
        have HOWN := Lib.hid hown
        clear hown HOW b1 b2 d1 d2 hn3 ha3
        go_wp2_with fail
        go_loopw [10] (fun iv wr => ∃ i : Nat, iv = .int .i64 i ∧ i ≤ l.length ∧ DoRel w wr g i) (fun iv _ => l.length - (intOf iv).toNat)
        case atStart => exact ⟨0, rfl, Nat.zero_le _, [], 1, HOWN.out, TInv.new, by decide⟩
        case round =>
          obtain ⟨i, rfl, hi, L, next, ho, hti, hnx⟩ := hrel
          have HO := Lib.hid ho
          have HTI := Lib.hid hti
          have HNX := Lib.hid hnx
          clear ho hti hnx
          by_cases hlt : i < l.length
          · have i1 : (i : Int) < l.length := by omega
            obtain ⟨o, ho⟩ : ∃ o, l[i]? = some o := ⟨_, List.getElem?_eq_getElem hlt⟩
            have HBW := Lib.hid (show Below w.heap.size w wr from by obtain ⟨F, _, _, q⟩ := HO.out; exact q)
            obtain ⟨gb, off, rfl, -, k0, k1, k2, k3, k4, k5, k6⟩ := op1_cells H.out i o ho
            have k0 := cell_later HBW.out k0
            have k1 := cell_later HBW.out k1
            have k2 := cell_later HBW.out k2
            have k3 := cell_later HBW.out k3
            have k4 := cell_later HBW.out k4
            have k5 := cell_later HBW.out k5
            have k6 := cell_later HBW.out k6
            have HOO := Lib.hid (HOK.out o (List.mem_of_getElem? ho))
            have HDO := Lib.hid (own_do HO.out HTI.out (by have := HNX.out; omega) o HOO.out.2 HOO.out.1.1 HOO.out.1.2)
            clear ho
            go_wp2_with fail
            refine HDO.out.mono ?_
            rintro e w4 ⟨rfl, ho4⟩
            have HO4 := Lib.hid ho4
            clear ho4
            go_wp2_with fail
            refine ⟨⟨i + 1, by go_num, hlt, _, _, HO4.out, HTI.out.do_ o, ?_⟩, by simp [intOf]; omega⟩
            have h1 := (doT_next L next o).2
            have h2 := HNX.out
            push_cast; omega
          · have ei : i = l.length := by omega
            subst ei
            have i2 : ¬ ((l.length : Int) < l.length) := by omega
            go_wp2_with fail
            obtain ⟨F, hm, hF, hbw⟩ := HO.out
            have HNXB := Lib.hid (show next ≤ 1000000 from by have := HNX.out; omega)
            have HF := Lib.hid hF
            have HFL := Lib.hid (fun k (q : F k) => hm.lt q)
            have hlen := HTI.out.len
            refine (tlist_any dir hm (by omega)).mono ?_
            rintro e w3 ⟨v1, l1, rfl, hr1, hle1, hb1⟩
            have HM3 := Lib.hid (hm.below hb1)
            have HR1 := Lib.hid hr1
            have HLE1 := Lib.hid hle1
            have HB3 := Lib.hid (hbw.trans (hb1.mono hbw.size))
            have HS3 := Lib.hid hb1.size
            obtain ⟨a1, k1, rfl⟩ := hr1.shape
            obtain ⟨E1, hE1⟩ : ∃ E1, listErr L dir = E1 := ⟨_, rfl⟩
            rw [hE1]
            have HE1 := Lib.hid hE1
            clear hm hF hbw hr1 hle1 hb1 hE1 hlen
            go_wp2_with fail
            refine (tlink_any dir name true 0 HM3.out HTI.out (by have := HNXB.out; omega) HN.out).mono ?_
            rintro e w4 ⟨rfl, hs⟩
            have HS := Lib.hid hs
            clear hs
            obtain ⟨f, hf⟩ : ∃ f, (linkT L next dir name true 0).err = f := ⟨_, rfl⟩
            obtain ⟨nn, hnn⟩ : ∃ nn, (linkT L next dir name true 0).node = nn := ⟨_, rfl⟩
            rw [hf, hnn]
            have HFE := Lib.hid hf
            clear hf hnn
            by_cases f0 : f = 0
            · subst f0
              obtain ⟨hbk, hle0⟩ := back1 HTI.out HFE.out
              have e10 : E1 = 0 := by rw [← HE1.out]; exact hle0
              subst e10
              have HBK := Lib.hid hbk
              have HL0 := Lib.hid hle0
              obtain ⟨F2, hm2, hF2, hk2⟩ := HS.out
              have HTI2 := Lib.hid (HTI.out.link dir name true 0)
              have HNX2 := Lib.hid (linkT_next L next dir name true 0)
              have HR2 := Lib.hid (HR1.out.keep hk2 (fun i hi q => by have := HFL.out i q; have := HR1.out.ge hi; omega))
              have HF2 := Lib.hid hF2
              have HK2 := Lib.hid hk2
              have HM4 := Lib.hid hm2
              clear hm2 hF2 hk2 hbk hle0
              go_wp2_with fail
              refine (tunlink_any dir name true HM4.out HTI2.out (by have := HNX2.out; have := HNXB.out; omega)).mono ?_
              rw [HBK.out]
              rintro e w5 ⟨rfl, hs5⟩
              obtain ⟨F3, hm3, hF3, hk3⟩ := hs5
              have HM5 := Lib.hid hm3
              have HK3 := Lib.hid hk3
              have HR3 := Lib.hid (HR2.out.keep hk3 (fun i hi q => by
                rcases HF2.out i q with q | q
                · have := HFL.out i q; have := HR1.out.ge hi; omega
                · have := HR1.out.lt hi; omega))
              have HB5 := Lib.hid ((HB3.out.trans ((HK2.out).toBelow HB3.out.size HF.out)).trans (hk3.toBelow (Nat.le_trans HB3.out.size HK2.out.size) (fun i q => (HF2.out i q).elim (HF.out i) (fun q => Nat.le_trans HB3.out.size q))))
              clear hm3 hF3 hk3
              have hlen2 := HTI.out.len
              go_wp2_with fail
              refine (tlist_any dir HM5.out (by omega)).mono ?_
              rintro e w6 ⟨v2, l2, rfl, hr2, hle2, hb6⟩
              rw [HL0.out]
              have e2 := hle2 HL0.out
              have e1 := HLE1.out HL0.out
              subst e2
              subst e1
              have HR4 := Lib.hid (HR3.out.below hb6)
              have HR5 := Lib.hid hr2
              have HB6 := Lib.hid (HB5.out.trans (hb6.mono HB5.out.size))
              obtain ⟨a2, k2, rfl⟩ := hr2.shape
              have hlE : (entries L dir).length ≤ maxLen := by
                unfold entries maxLen; rw [List.length_map]
                have := List.length_filter_le (fun i : Itm => decide (i.d = dir)) L
                omega
              clear hr2 hle2 hb6 hlen2
              have HLE := Lib.hid hlE
              clear hlE
              go_wp2_with fail
              refine (same_any w6 (entries L dir) (entries L dir) HR4.out.arg HR5.out.arg HLE.out HLE.out).mono ?_
              rintro e w7 ⟨rfl, hb7⟩
              rw [decide_eq_true (rfl : entries L dir = entries L dir)]
              go_wp2_with fail
              go_ret
              exact ⟨rfl, HB6.out.trans (hb7.mono HB6.out.size)⟩
            · have f1 : (f == 0) = false := by simpa using f0
              have f2 : (f != 0) = true := by simpa using f0
              obtain ⟨hbl, hbn⟩ := link_bad (by rw [HFE.out]; exact f0)
              obtain ⟨F2, hm2, hF2, hk2⟩ := HS.out
              rw [hbl, hbn] at hm2
              have HOW := Lib.hid (show OwnT w w4 g L next from ⟨F2, hm2, fun k q => (hF2 k q).elim (HF.out k) (fun q => Nat.le_trans HB3.out.size q), HB3.out.trans (hk2.toBelow HB3.out.size HF.out)⟩)
              clear hm2 hF2 hk2 hbl hbn HS HM3 HR1 HLE1
              go_wp2_with fail
              have hlen3 := HTI.out.len
              have HLEN := Lib.hid hlen3
              by_cases hm0 : (moveT L next dir name dir as_ 0).err = 0
              · obtain ⟨⟨nm, nd, dr, ck, sh⟩, ⟨nm2, nd2, dr2, ck2, sh2⟩, hx, hy, hz, g1, g2, g3, g4, g5⟩ := back2 HTI.out hm0
                have g1' : nd = nd2 := g1
                have g2' : dr = dr2 := g2
                have g3' : next = ck2 := g3.symm
                have g5' : (moveT (moveT L next dir name dir as_ 0).L (next + 1) dir as_ dir name sh).err = 0 := g5
                subst g1'; subst g2'; subst g3'
                have HTI2 := Lib.hid (HTI.out.move dir name dir as_ 0)
                rw [g4] at HTI2
                obtain ⟨F, k1, k2, k3⟩ := HOW.out
                have HFX := Lib.hid hx
                have HFY := Lib.hid hy
                have HFZ := Lib.hid hz
                have HG5 := Lib.hid g5'
                have HG4 := Lib.hid g4
                have HM0 := Lib.hid hm0
                have HK1 := Lib.hid k1
                have HK2 := Lib.hid k2
                have HK3 := Lib.hid k3
                clear hx hy hz g1 g2 g3 g4 g5 g5' hm0 k1 k2 k3
                refine (tfind_any dir name HK1.out (by omega)).mono ?_
                rw [HFX.out]
                rintro e w5 ⟨rfl, hb5⟩
                have HB5 := Lib.hid hb5
                have HX5 := Lib.hid (m_alloc w5 (.cells #[.string nm, .int .i64 nd, .bool dr, .int .i64 ck, .int .i64 sh] 40) w5.heap.size rfl)
                clear hb5
                go_wp2_with fail
                have HM5 := Lib.hid (HK1.out.below (HB5.out.alloc HB5.out.size (.cells #[.string nm, .int .i64 nd, .bool dr, .int .i64 ck, .int .i64 sh] 40)))
                refine (tmove_any dir name dir as_ 0 HM5.out HTI.out (by have := HNXB.out; omega) HA.out).mono ?_
                rintro e w6 ⟨rfl, hs6⟩
                rw [HM0.out]
                obtain ⟨F6, m6, f6, k6⟩ := hs6
                rw [HG4.out] at m6
                have hFB : ∀ k, F k → k < w5.heap.size := fun k q => Nat.lt_of_lt_of_le (HK1.out.lt q) HB5.out.size
                have HX6 := Lib.hid (m_keep HX5.out k6 (fun q => Nat.lt_irrefl _ (hFB _ q)))
                have HNB := Lib.hid (show ¬ F6 w5.heap.size from fun q => (f6 _ q).elim (fun q => Nat.lt_irrefl _ (hFB _ q)) (fun q => by simp at q; omega))
                have HM6 := Lib.hid m6
                have HBW6 := Lib.hid (show Below w.heap.size w w6 from ((HK3.out.trans (HB5.out.mono HK3.out.size)).alloc (Nat.le_trans HK3.out.size HB5.out.size) _).trans (k6.toBelow (by have := HK3.out.size; have := HB5.out.size; simp; omega) HK2.out))
                have HF6 := Lib.hid (show ∀ k, F6 k → w.heap.size ≤ k from fun k q => (f6 k q).elim (HK2.out k) (fun q => by have := HK3.out.size; have := HB5.out.size; simp at q; omega))
                obtain ⟨B, hB⟩ : ∃ B, w5.heap.size = B := ⟨_, rfl⟩
                rw [hB] at HX6 HNB
                have HBB := Lib.hid hB
                clear m6 f6 k6 hFB HX5 hB
                go_wp2_with fail
                rw [HBB.out]
                have hlen6 := HTI2.out.len
                refine (tfind_any dir as_ HM6.out (by omega)).mono ?_
                rw [HFY.out]
                rintro e w7 ⟨rfl, hb7⟩
                have HX7 := Lib.hid ((hb7.block B (m_lt HX6.out)).trans HX6.out)
                have HB7 := Lib.hid hb7
                have HM7 := Lib.hid (HM6.out.below (hb7.alloc hb7.size (.cells #[.string nm2, .int .i64 nd, .bool dr, .int .i64 next, .int .i64 sh2] 40)))
                have HX8 := Lib.hid (m_old (.cells #[.string nm2, .int .i64 nd, .bool dr, .int .i64 next, .int .i64 sh2] 40) HX7.out)
                have HY8 := Lib.hid (m_alloc w7 (.cells #[.string nm2, .int .i64 nd, .bool dr, .int .i64 next, .int .i64 sh2] 40) w7.heap.size rfl)
                have HNB2 := Lib.hid (show ¬ F6 w7.heap.size from fun q => by have := HM6.out.lt q; have := hb7.size; omega)
                clear hb7 HX7 HX6
                go_wp2_with fail
                refine (tfind_any dir name HM7.out (by omega)).mono ?_
                rw [HFZ.out]
                rintro e w8 ⟨rfl, hb8⟩
                have HX9 := Lib.hid ((hb8.block B (m_lt HX8.out)).trans HX8.out)
                have HY9 := Lib.hid ((hb8.block w7.heap.size (m_lt HY8.out)).trans HY8.out)
                have HM8 := Lib.hid (HM7.out.below hb8)
                have HBW8 := Lib.hid (show Below w.heap.size w w8 from ((HBW6.out.trans (HB7.out.mono HBW6.out.size)).alloc (Nat.le_trans HBW6.out.size HB7.out.size) _).trans (hb8.mono (by have := HBW6.out.size; have := HB7.out.size; simp; omega)))
                clear hb8 HX8 HY8 HM7
                obtain ⟨B2, hB2⟩ : ∃ B2, w7.heap.size = B2 := ⟨_, rfl⟩
                rw [hB2] at HY9 HNB2
                have HBB2 := Lib.hid hB2
                clear hB2
                go_wp2_with fail
                rw [HBB2.out]
                have HB9 := Lib.hid (HBW8.out.alloc HBW8.out.size (.cells #[.string Ent.zero.name, .int .i64 Ent.zero.node, .bool Ent.zero.dir, .int .i64 Ent.zero.cookie, .int .i64 Ent.zero.short] 40))
                have HM9 := Lib.hid (HM8.out.below ((Below.refl _ w8).alloc (Nat.le_refl _) (.cells #[.string Ent.zero.name, .int .i64 Ent.zero.node, .bool Ent.zero.dir, .int .i64 Ent.zero.cookie, .int .i64 Ent.zero.short] 40)))
                have hx := m_old (.cells #[.string Ent.zero.name, .int .i64 Ent.zero.node, .bool Ent.zero.dir, .int .i64 Ent.zero.cookie, .int .i64 Ent.zero.short] 40) HX9.out
                have hy := m_old (.cells #[.string Ent.zero.name, .int .i64 Ent.zero.node, .bool Ent.zero.dir, .int .i64 Ent.zero.cookie, .int .i64 Ent.zero.short] 40) HY9.out
                generalize hW9 : w8.alloc (.cells #[.string Ent.zero.name, .int .i64 Ent.zero.node, .bool Ent.zero.dir, .int .i64 Ent.zero.cookie, .int .i64 Ent.zero.short] 40) = W9 at *
                clear hW9
                have HSS := Lib.hid (show ∀ w', Keep F6 W9 w' → (w'.cell? ⟨B, 1, none⟩ = some (.int .i64 nd) ∧ w'.cell? ⟨B, 2, none⟩ = some (.bool dr) ∧ w'.cell? ⟨B, 4, none⟩ = some (.int .i64 sh) ∧ w'.cell? ⟨B2, 1, none⟩ = some (.int .i64 nd) ∧ w'.cell? ⟨B2, 2, none⟩ = some (.bool dr) ∧ w'.cell? ⟨B2, 3, none⟩ = some (.int .i64 next)) from fun w' k => by
                  have c1 := (m_cells (m_keep hx k HNB.out)).1
                  have c2 := (m_cells (m_keep hy k HNB2.out)).1
                  exact ⟨c1 1, c1 2, c1 4, c2 1, c2 2, c2 3⟩)
                have n1 : next ≤ 1000000 := HNXB.out
                have n2 : 1 ≤ next := HTI.out.nx
                have hcw : IntKind.i64.wrap next = next := IntWalk.i64_in _ (by omega)
                have hcn : (next == IntKind.i64.wrap next) = true := by rw [hcw]; simp
                clear hx hy f1 f2
                go_region_held3 (fun w' => w'.cell? ⟨B, 1, none⟩ = some (.int .i64 nd) ∧ w'.cell? ⟨B, 2, none⟩ = some (.bool dr) ∧ w'.cell? ⟨B, 4, none⟩ = some (.int .i64 sh) ∧ w'.cell? ⟨B2, 1, none⟩ = some (.int .i64 nd) ∧ w'.cell? ⟨B2, 2, none⟩ = some (.bool dr) ∧ w'.cell? ⟨B2, 3, none⟩ = some (.int .i64 next))
                  (first | exact HSS.out _ HK11.out | exact HSS.out _ ((Keep.refl _ _).drew))
                  (first
                   | (go_at_call 20
                      refine (tcookie_any (HM9.out.below ((Below.refl _ _).drew))).mono ?_
                      rintro e w10 ⟨rfl, rfl⟩)
                   | (go_at_call 19
                      refine (tmove_any dir as_ dir name sh (HM9.out.below ((Below.refl _ _).drew)) HTI2.out (by omega) HN.out).mono ?_
                      rintro e w11 ⟨rfl, F11, m11, f11, k11⟩
                      rw [HG5.out]
                      have HK11 := Lib.hid (show Keep F6 W9 w11 from ((Keep.refl _ W9).drew).trans k11)
                      clear m11 f11 k11))
                all_goals
                  go_wp2_with fail
                  go_ret
                  exact ⟨rfl, HB9.out.trans (HK11.out.toBelow HB9.out.size HF6.out)⟩
              · obtain ⟨m, hm⟩ : ∃ m, (moveT L next dir name dir as_ 0).err = m := ⟨_, rfl⟩
                rw [hm] at hm0
                have m1 : (m == 0) = false := by simpa using hm0
                have m2 : (m != 0) = true := by simpa using hm0
                have HMM := Lib.hid hm
                obtain ⟨⟨nm, nd, dr, ck, sh⟩, hx⟩ : ∃ x, (findRes L dir name).1 = x := ⟨_, rfl⟩
                obtain ⟨G, hG⟩ : ∃ G, (findRes L dir name).2 = G := ⟨_, rfl⟩
                refine (own_find HOW.out HTI.out dir name).mono ?_
                rw [hx, hG]
                rintro e w5 ⟨rfl, how5, hb5⟩
                have HOW5 := Lib.hid how5
                clear how5 hb5 hx hG hm
                go_wp2_with fail
                refine (own_move (HOW5.out.below ((Below.refl _ w5).alloc (Nat.le_refl _) _)) HTI.out (by have := HNXB.out; omega) dir name dir as_ 0 HA.out).mono ?_
                rw [HMM.out]
                rintro e w6 ⟨rfl, how6⟩
                have HOW6 := Lib.hid how6
                clear how6
                go_wp2_with fail
                go_ret
                obtain ⟨F, _, _, q⟩ := HOW6.out
                exact ⟨rfl, q⟩
      · have d1 : (300 : Int) < as_.size := by omega
        have d2 : decide ((300 : Int) < as_.size) = true := decide_eq_true d1
        go_wp2_with fail
        refine (awake10_any _).mono ?_
        rintro e w3 ⟨rfl, hb3⟩
        go_wp2_with fail
        go_ret
        exact ⟨rfl, HB2.out.trans (hb3.mono HB2.out.size)⟩
    · have b1 : (300 : Int) < name.size := by omega
      have b2 : decide ((300 : Int) < name.size) = true := decide_eq_true b1
      go_wp2_with fail
      refine (awake10_any _).mono ?_
      rintro e w3 ⟨rfl, hb3⟩
      go_wp2_with fail
      go_ret
      exact ⟨rfl, HB2.out.trans (hb3.mono HB2.out.size)⟩
end Go.Proofs.Ytolilbcpfdnkjaa
