/- TreeMakes: the law's walk. -/
import Derived.Test.YtolilbcpfdnkjaaGreatZBTM4
import Derived.Test.YtolilbcpfdnkjaaGreatZBSM1
import Derived.Test.YtolilbcpfdnkjaaGreatZBYE
namespace Go.Proofs.YtolilbcpfdnkjaaGreat
open Go.RowKit
set_option linter.unusedSimpArgs false
set_option linter.unusedVariables false
theorem dirsT_mem {L : List Itm} {next : Int} (h : TInv L next) (x : Int) : x ∈ dirsT L ↔ isDirB L x = true := by
  unfold dirsT
  rw [List.mem_filter]
  constructor
  · exact fun q => q.2
  · intro q
    refine ⟨?_, q⟩
    have hr : 0 ≤ x ∧ x ≤ 200 := by
      rcases (isDirB_iff L x).1 q with e | ⟨i, hi, e, _⟩
      · subst e; exact ⟨by decide, by decide⟩
      · have := h.rg i hi; omega
    exact List.mem_map.2 ⟨x.toNat, List.mem_range.2 (by omega), by omega⟩
theorem dirsT_nodup (L : List Itm) : (dirsT L).Nodup := by
  unfold dirsT
  refine List.Pairwise.filter _ ?_
  rw [List.pairwise_map]
  exact List.nodup_range.imp (fun q e => q (by omega))
theorem dirsT_len (L : List Itm) : (dirsT L).length ≤ 201 := by
  unfold dirsT
  refine Nat.le_trans (List.length_filter_le _ _) ?_
  rw [List.length_map, List.length_range]; exact Nat.le_refl _
theorem ent_small {L : List Itm} {next : Int} (h : TInv L next) (d : Int) : ∀ e ∈ entries L d, e.name.size ≤ maxLen := fun e he => by
  have hm := h.gd _ (mem_entries'.1 he)
  have : e.name.size ≤ 255 := by
    unfold mayErr at hm
    split at hm
    · cases hm
    · rename_i q
      have q' : goodB e.name = true := by simpa using q
      unfold goodB at q'
      simp at q'
      exact q'.2.1
  unfold maxLen; omega
theorem u8_small (h : UInt8) : (h.toNat : Int) ≤ 9223372036854775807 := by have := h.toNat_lt; omega
theorem u8_wrap (h : UInt8) : IntKind.i64.wrap (h.toNat : Int) = (h.toNat : Int) := by have := h.toNat_lt; rw [IntKind.wrap_i64] <;> omega
theorem u8_wrap64 (h : UInt8) : wrap64 (h.toNat : Int) = (h.toNat : Int) := by have := h.toNat_lt; unfold wrap64; omega
theorem u8_even (h : UInt8) (hh : h.toNat % 2 = 0) : ((h.toNat : Int).tmod 2 == 0) = true := by
  rw [Int.tmod_eq_emod_of_nonneg (by omega)]; simp; omega
theorem u8_odd (h : UInt8) (hh : ¬ h.toNat % 2 = 0) : ((h.toNat : Int).tmod 2 == 0) = false := by
  rw [Int.tmod_eq_emod_of_nonneg (by omega)]; simp; omega
theorem mem_keysK {ds : List Int} {nb n : Int} (h : n ∈ ds ∨ n = nb) : n ∈ keysK ds nb := by
  unfold keysK
  split
  · rename_i q
    rcases h with h | h
    · exact h
    · rw [h]; exact q
  · rcases h with h | h
    · exact List.mem_append_left _ h
    · exact List.mem_append_right _ (List.mem_singleton.2 h)
theorem keysK_nodup {ds : List Int} {nb : Int} (h : ds.Nodup) : (keysK ds nb).Nodup := by
  unfold keysK
  split
  · exact h
  · rename_i q
    exact List.nodup_append.2 ⟨h, by simp, fun a ha b hb e => q (by rw [List.mem_singleton.1 hb] at e; rw [← e]; exact ha)⟩
theorem cell_at {w w' : World} {b : Nat} {cs : Array Value} {t : TypeId} (hb : Below w.heap.size w w') (h : w.heap[b]? = some (.cells cs t (0, 0))) (o : Nat) : w'.cell? ⟨b, o, none⟩ = cs[o]? :=
  (m_cells ((hb.block _ (m_lt h)).trans h)).1 o
theorem bfs_grow {all : List Itm} : ∀ (k : Nat) (M : List Int), Bfs all M → all.length + 1 - M.length ≤ k → ∃ M', Bfs all M' ∧ ∀ d ∈ M', ∀ x ∈ all, x.d = d → x.e.dir = true → x.e.node ∈ M' := by
  intro k
  induction k with
  | zero =>
    intro M h hk
    refine ⟨M, h, fun d hd x hx h1 h2 => Classical.byContradiction fun hn => ?_⟩
    have := (h.snoc hx h1 hd h2 hn).len
    have := h.len
    rw [List.length_append, List.length_singleton] at *
    omega
  | succ k ih =>
    intro M h hk
    by_cases c : ∀ d ∈ M, ∀ x ∈ all, x.d = d → x.e.dir = true → x.e.node ∈ M
    · exact ⟨M, h, c⟩
    · simp only [Classical.not_forall] at c
      obtain ⟨d, hd, x, hx, h1, h2, hn⟩ := c
      have h' := h.snoc hx h1 hd h2 hn
      have hl := h'.len
      exact ih _ h' (by rw [List.length_append, List.length_singleton] at *; omega)
theorem bfs_ex (all : List Itm) : ∃ M, Bfs all M ∧ ∀ d ∈ M, ∀ x ∈ all, x.d = d → x.e.dir = true → x.e.node ∈ M :=
  bfs_grow _ [0] ⟨by simp, ⟨[], rfl⟩, fun P d Q e => by
    cases P with
    | nil => simp at e; exact Or.inl e.1.symm
    | cons a P => simp at e⟩ (Nat.le_refl _)
/-- The directories' entries, gathered: j of them. -/
def GathT (W0 : World) (bd : Nat) (ds : List Int) (L : List Itm) (iv : Value) (wr : World) : Prop :=
  ∃ (j : Nat) (D : List (Int × DE)), iv = .int .i64 j ∧ j ≤ ds.length ∧ IMap encDE wr bd D ∧ (∀ x ∈ D, Arg EEnt wr x.2.1 x.2.2 ∧ ∀ k, x.2.1.ownBlock = some k → W0.heap.size ≤ k) ∧
    (∀ n, n ∈ ds.take j → ∃ v, mget D n = some (v, entries L n)) ∧ (∀ n, n ∉ ds.take j → mget D n = none) ∧ Keep (fun k => k = bd) W0 wr
theorem gath_step {W0 wr w5 w6 : World} {bd j : Nat} {ds : List Int} {L : List Itm} {D : List (Int × DE)} {n : Int} {lv : Value} (hj : j < ds.length) (hn : ds[j]? = some n) (hbd : bd < W0.heap.size) (hva : ∀ x ∈ D, Arg EEnt wr x.2.1 x.2.2 ∧ ∀ k, x.2.1.ownBlock = some k → W0.heap.size ≤ k)
    (hin : ∀ n, n ∈ ds.take j → ∃ v, mget D n = some (v, entries L n)) (hno : ∀ n, n ∉ ds.take j → mget D n = none) (hkp : Keep (fun k => k = bd) W0 wr) (hb5 : Below wr.heap.size wr w5) (hlr : Row EEnt w5 wr.heap.size lv (entries L n))
    (him : IMap encDE w6 bd (mput D n (lv, entries L n))) (hk6 : Keep (fun k => k = bd) w5 w6) : GathT W0 bd ds L (.int .i64 ((j : Int) + 1)) w6 := by
  have hs := hkp.size
  have ht : ds.take (j + 1) = ds.take j ++ [n] := by rw [List.take_add_one, hn]; rfl
  have hk : Keep (fun k => k = bd) wr w6 := ((Keep.below hb5).mono (fun i q => Or.inr q)).trans hk6
  refine ⟨j + 1, _, by go_num, hj, him, fun x hx => ?_, fun m hm => ?_, fun m hm => ?_, hkp.trans hk⟩
  · rcases mem_mput_de hx with q | q
    · exact ⟨(hva x q).1.keep hk (fun i z e => by have := (hva x q).2 i z; omega), (hva x q).2⟩
    · rw [q]
      exact ⟨hlr.arg.keep hk6 (fun i z e => by have := hlr.ge z; omega), fun k z => Nat.le_trans hs (hlr.ge z)⟩
  · rw [mget_put]
    by_cases e : m = n
    · rw [if_pos e, e]; exact ⟨_, rfl⟩
    · rw [if_neg e]
      rw [ht] at hm
      rcases List.mem_append.1 hm with q | q
      · exact hin m q
      · exact absurd (List.mem_singleton.1 q) e
  · rw [ht] at hm
    rw [mget_put, if_neg (fun e => hm (List.mem_append_right _ (List.mem_singleton.2 e)))]
    exact hno m (fun q => hm (List.mem_append_left _ q))
/-- The loops of calls: the tree of the law's beside the reference's. -/
def DosT (w0 : World) (g B : Nat) (iv : Value) (n : Nat) (wr : World) : Prop :=
  ∃ (i : Nat) (v : Value) (L : List Itm) (next : Int), iv = .int .i64 i ∧ i ≤ n ∧ Both w0 wr g B v L next ∧ TInv L next ∧ next ≤ i + 1
set_option maxRecDepth 100000 in
set_option maxHeartbeats 4000000 in
theorem treemakes_walk (w : World) (v vb : Value) (l : List Op1) (lb : List Ent) (nb : Int) (h1 h2 h3 h4 : UInt8) (h : Arg EOp w v l) (ml : l.length ≤ maxLen) (hok : ∀ o ∈ l, (o.name.size ≤ maxLen ∧ o.as_.size ≤ maxLen) ∧ o.kind < 256)
    (hb : Arg EEnt w vb lb) (mb : lb.length ≤ maxLen) (hbok : ∀ e ∈ lb, e.name.size ≤ maxLen) :
    Calls Tryz.prog 5 #[v, .agg #[.int .i64 nb, vb], .agg #[.int .u8 h1.toNat, .int .u8 h2.toNat, .int .u8 h3.toNat, .int .u8 h4.toNat]] w fun e w' => e = .returned (.bool true) ∧ Below w.heap.size w w' := by
  obtain ⟨va, vc, rfl⟩ := h.shape
  obtain ⟨va2, vc2, rfl⟩ := hb.shape
  have H := Lib.hid h
  have HV := Lib.hid hb
  have HOK := Lib.hid hok
  have HBOK := Lib.hid hbok
  clear h hok hb hbok
  go_enter Tryz.func5, Tryz.ntmps5
  go_wp2_with fail
  have hx1 : ((w.alloc (.cells #[.int .i64 nb, .slice va2 lb.length vc2] 51)).alloc (.cells #[.int .u8 h1.toNat, .int .u8 h2.toNat, .int .u8 h3.toNat, .int .u8 h4.toNat] 52)).heap[w.heap.size]? = some (.cells #[.int .i64 nb, .slice va2 lb.length vc2] 51 (0, 0)) := m_old _ (m_alloc w _ _ rfl)
  have hx2 : ((w.alloc (.cells #[.int .i64 nb, .slice va2 lb.length vc2] 51)).alloc (.cells #[.int .u8 h1.toNat, .int .u8 h2.toNat, .int .u8 h3.toNat, .int .u8 h4.toNat] 52)).heap[w.heap.size + 1]? = some (.cells #[.int .u8 h1.toNat, .int .u8 h2.toNat, .int .u8 h3.toNat, .int .u8 h4.toNat] 52 (0, 0)) := m_alloc _ _ _ (by simp)
  have hbw : Below w.heap.size w ((w.alloc (.cells #[.int .i64 nb, .slice va2 lb.length vc2] 51)).alloc (.cells #[.int .u8 h1.toNat, .int .u8 h2.toNat, .int .u8 h3.toNat, .int .u8 h4.toNat] 52)) := ((Below.refl _ w).alloc (Nat.le_refl _) _).alloc (by simp) _
  generalize (w.alloc (.cells #[.int .i64 nb, .slice va2 lb.length vc2] 51)).alloc (.cells #[.int .u8 h1.toNat, .int .u8 h2.toNat, .int .u8 h3.toNat, .int .u8 h4.toNat] 52) = w0 at *
  obtain ⟨bB, hbB⟩ : ∃ n, w.heap.size = n := ⟨_, rfl⟩
  obtain ⟨hB, hhB⟩ : ∃ n, w.heap.size + 1 = n := ⟨_, rfl⟩
  rw [hbB] at hx1
  rw [hhB] at hx2
  have HBW := Lib.hid hbw
  have HX1 := Lib.hid hx1
  have HX2 := Lib.hid hx2
  have HGB := Lib.hid (show w.heap.size ≤ bB ∧ w.heap.size ≤ hB from ⟨by omega, by omega⟩)
  rw [hhB, hbB]
  clear hx1 hx2 hbw hbB hhB
  refine (awake10_any w0).mono ?_
  rintro e w1 ⟨rfl, hb1⟩
  have HB1 := Lib.hid (show Below w0.heap.size w0 w1 from hb1)
  clear hb1
  go_wp2_with fail
  refine (few10_any w1 _ l 60 (H.out.below (HBW.out.trans (HB1.out.mono HBW.out.size))) ml (fun o ho => (HOK.out o ho).1)).mono ?_
  rintro e w2 ⟨b, rfl, ⟨fw, rfl, hfew⟩, hb2⟩
  have HB2 := Lib.hid (HB1.out.trans (hb2.mono HB1.out.size))
  have HFEW := Lib.hid hfew
  clear hb2 HB1 hfew
  cases fw
  · go_wp2_with fail
    refine (awake10_any _).mono ?_
    rintro e w3 ⟨rfl, hb3⟩
    go_wp2_with fail
    go_ret
    exact ⟨rfl, HBW.out.trans ((HB2.out.trans (hb3.mono HB2.out.size)).mono HBW.out.size)⟩
  obtain ⟨hl100, hsm⟩ := HFEW.out rfl
  have hl100' : l.length ≤ 60 := by omega
  have HX1b := Lib.hid ((HB2.out.block _ (m_lt HX1.out)).trans HX1.out)
  have HX2b := Lib.hid ((HB2.out.block _ (m_lt HX2.out)).trans HX2.out)
  have HBb := Lib.hid (HBW.out.trans (HB2.out.mono HBW.out.size))
  clear hl100 hsm HFEW
  have c1 : w2.cell? ⟨bB, 1, none⟩ = some (.slice va2 lb.length vc2) := (m_cells HX1b.out).1 1
  by_cases hl4 : 4 < lb.length
  · have e4 : (4 : Int) < lb.length := by omega
    go_wp2_with fail
    refine (awake10_any _).mono ?_
    rintro e w3 ⟨rfl, hb3⟩
    go_wp2_with fail
    go_ret
    exact ⟨rfl, HBb.out.trans (hb3.mono HBb.out.size)⟩
  have e4 : ¬ (4 : Int) < lb.length := by omega
  have HOW := Lib.hid (own_new w2 (Below.refl _ w2))
  have HH := Lib.hid (H.out.below HBb.out)
  clear H HX1 HX2 HB2
  go_wp2_with fail
  refine HOW.out.mono ?_
  rintro e w3 ⟨g, rfl, hown⟩
  have HOWN := Lib.hid hown
  clear hown HOW
  go_wp2_with fail
  refine (rnew_any w3).mono ?_
  rintro e w4 ⟨rfl, hb4⟩
  obtain ⟨B, hB⟩ : ∃ B, w4.heap.size = B := ⟨_, rfl⟩
  have hst : Both w2 (w4.alloc (.cells #[.slice none 0 0, .int .i64 1] 29)) g B (.slice none 0 0) [] 1 := by
    have hbb : Below w3.heap.size w3 (w4.alloc (.cells #[.slice none 0 0, .int .i64 1] 29)) := hb4.alloc hb4.size _
    refine ⟨HOWN.out.beside.turn hbb (fun k q => ?_), m_alloc _ _ _ hB, Arg.nil _ _, fun k q => (by cases q), ?_⟩
    · rcases q with q | q
      · subst q; exact ⟨Or.inr (by rw [← hB]; exact hb4.size), by rw [← hB]; simp⟩
      · cases q
    · obtain ⟨_, _, _, q⟩ := HOWN.out
      rw [← hB]; exact Nat.le_trans q.size hb4.size
  obtain ⟨W4, hW4⟩ : ∃ W4, w4.alloc (.cells #[.slice none 0 0, .int .i64 1] 29) = W4 := ⟨_, rfl⟩
  rw [hW4] at hst
  have HST := Lib.hid hst
  clear hst HOWN hb4
  go_wp2_with fail
  clear hW4 hB
  clear c1
  go_loopw [9] (fun iv wr => DosT w2 g B iv l.length wr) (fun iv _ => l.length - (intOf iv).toNat)
  case atStart => exact ⟨0, _, _, _, rfl, Nat.zero_le _, HST.out, TInv.new, by decide⟩
  case round =>
    obtain ⟨i, v, L, next, rfl, hi, hbo, hti, hnx⟩ := hrel
    obtain ⟨av, cv, rfl⟩ := hbo.arg.shape
    have hnx1 := hti.nx
    have hlen := hti.len
    by_cases hlt : i < l.length
    · as_aux_lemma =>
        have i1 : (i : Int) < l.length := by omega
        obtain ⟨o, ho⟩ : ∃ o, l[i]? = some o := ⟨_, List.getElem?_eq_getElem hlt⟩
        have HOO := Lib.hid (HOK.out o (List.mem_of_getElem? ho))
        obtain ⟨gb, off, rfl, -, q0, q1, q2, q3, q4, q5, q6⟩ := op1_cells HH.out i o ho
        have HLC := Lib.hid (show ∀ w', Below w2.heap.size w2 w' → (w'.cell? ⟨gb, off + i * 7, none⟩ = some (.int .u8 o.kind) ∧ w'.cell? ⟨gb, off + i * 7 + 1, none⟩ = some (.int .i64 o.dir) ∧ w'.cell? ⟨gb, off + i * 7 + 2, none⟩ = some (.int .i64 o.to_) ∧ w'.cell? ⟨gb, off + i * 7 + 3, none⟩ = some (.string o.name) ∧ w'.cell? ⟨gb, off + i * 7 + 4, none⟩ = some (.string o.as_) ∧ w'.cell? ⟨gb, off + i * 7 + 5, none⟩ = some (.bool o.is_) ∧ w'.cell? ⟨gb, off + i * 7 + 6, none⟩ = some (.int .i64 o.short)) from fun w' k =>
          ⟨cell_later k q0, cell_later k q1, cell_later k q2, cell_later k q3, cell_later k q4, cell_later k q5, cell_later k q6⟩)
        have HP := Lib.hid hbo.pair
        have HTI := Lib.hid hti
        clear ho q0 q1 q2 q3 q4 q5 q6 HST
        have HBO := Lib.hid hbo
        obtain ⟨k0, k1, k2, k3, k4, k5, k6⟩ := HLC.out _ hbo.own.bel
        have HDO := Lib.hid (ownr_do hbo.own HTI.out (by omega) o HOO.out.2 HOO.out.1.1 HOO.out.1.2)
        clear hbo hti
        go_wp2_with fail
        refine HDO.out.mono ?_
        rintro e w6 ⟨rfl, ho6, hs6⟩
        have HP6 := Lib.hid (HP.out.turned ho6 hs6)
        have hnx2 := (doT_next L next o).2
        have HTR := Lib.hid (HTI.out.do_ o)
        have HR6 := Lib.hid (fun (W : World) (hb : Below w6.heap.size w6 W) => rdo_any W next o (HP6.out.arg.below hb) (fun k q => Nat.lt_of_lt_of_le (HP6.out.lt k q) hb.size) HTI.out (by omega) HOO.out.2 HOO.out.1.1 HOO.out.1.2)
        generalize doT L next o = R at *
        clear ho6 hs6 HDO HP HBO k0 k1 k2 k3 k4 k5 k6
        obtain ⟨k0, k1, k2, k3, k4, k5, k6⟩ := HLC.out w6 HP6.out.own.bel
        obtain ⟨b0, b1, b2, b3⟩ := HP6.out.cells
        go_wp2_with fail
        have HS5 := Lib.hid (show ∀ w', Below w6.heap.size w6 w' → (w'.cell? ⟨B, 0, none⟩ = some (.slice av L.length cv) ∧ w'.cell? ⟨B, 1, none⟩ = some (.int .i64 next) ∧ w'.cell? ⟨gb, off + i * 7, none⟩ = some (.int .u8 o.kind) ∧ w'.cell? ⟨gb, off + i * 7 + 1, none⟩ = some (.int .i64 o.dir) ∧ w'.cell? ⟨gb, off + i * 7 + 2, none⟩ = some (.int .i64 o.to_) ∧ w'.cell? ⟨gb, off + i * 7 + 3, none⟩ = some (.string o.name) ∧ w'.cell? ⟨gb, off + i * 7 + 4, none⟩ = some (.string o.as_) ∧ w'.cell? ⟨gb, off + i * 7 + 5, none⟩ = some (.bool o.is_) ∧ w'.cell? ⟨gb, off + i * 7 + 6, none⟩ = some (.int .i64 o.short)) from fun w' k =>
          ⟨cell_later k b0, cell_later k b1, cell_later k k0, cell_later k k1, cell_later k k2, cell_later k k3, cell_later k k4, cell_later k k5, cell_later k k6⟩)
        have HNE := Lib.hid HP6.out.ne
        have HBK := Lib.hid HP6.out.blk
        have hwB := HP6.out.ge
        go_cut [10, 11, 12] from 1000 (fun s8 s9 s10 wx => MidX w2 g B (.slice av L.length cv) next R s8 s9 s10 wx)
        case first =>
          go_region_held3 (fun w' => w'.cell? ⟨B, 0, none⟩ = some (.slice av L.length cv) ∧ w'.cell? ⟨B, 1, none⟩ = some (.int .i64 next) ∧ w'.cell? ⟨gb, off + i * 7, none⟩ = some (.int .u8 o.kind) ∧ w'.cell? ⟨gb, off + i * 7 + 1, none⟩ = some (.int .i64 o.dir) ∧ w'.cell? ⟨gb, off + i * 7 + 2, none⟩ = some (.int .i64 o.to_) ∧ w'.cell? ⟨gb, off + i * 7 + 3, none⟩ = some (.string o.name) ∧ w'.cell? ⟨gb, off + i * 7 + 4, none⟩ = some (.string o.as_) ∧ w'.cell? ⟨gb, off + i * 7 + 5, none⟩ = some (.bool o.is_) ∧ w'.cell? ⟨gb, off + i * 7 + 6, none⟩ = some (.int .i64 o.short))
            (first | exact HS5.out _ ((HBB7.out.setCell (Nat.le_refl _) _).setCell (Nat.le_refl _) _) | exact HS5.out _ (HBB7.out.alloc HBB7.out.size _) | exact HS5.out _ HBB7.out | exact HS5.out _ (show Below w6.heap.size w6 _ from (by repeat (first | exact Below.refl _ _ | assumption | (refine Below.drew ?_) | (refine below_drewN ?_ _) | (refine Below.alloc ?_ (by simp; done) _) | (refine Below.alloc ?_ (by simp; omega) _)))))
            (first
             | (go_at_call 14
                refine (HR6.out w6.drew (Below.refl _ w6).drew).mono ?_
                rintro e w7 ⟨v6, rfl, ha6, hw6, hb6⟩
                have HBB7 := Lib.hid ((Below.refl _ w6).drew.trans hb6)
                have HA6 := Lib.hid ha6
                have HW6 := Lib.hid hw6
                obtain ⟨a6, c6, rfl⟩ := ha6.shape
                have ONE : True := trivial
                clear ha6 hw6 hb6)
             | (go_at_call 14
                refine (HR6.out (w6.alloc _).drew ((Below.refl _ w6).alloc (Nat.le_refl _) _).drew).mono ?_
                rintro e w7 ⟨v6, rfl, ha6, hw6, hb6⟩
                have TWO : True := trivial
                have hx6 := (hb6.block w6.heap.size (by simp [World.drew])).trans (m_alloc w6 (.cells #[.slice none 0 0, .int .i64 0] 29) w6.heap.size rfl)
                have HX6 := Lib.hid hx6
                have hb6' : Below w6.heap.size w6 w7 := ((Below.refl _ w6).alloc (Nat.le_refl _) _).drew.trans (hb6.mono (by simp [World.drew]))
                have HBB7 := Lib.hid hb6'
                have HA6 := Lib.hid ha6
                have HW6 := Lib.hid hw6
                obtain ⟨r0, r1, r2, r3⟩ := rfacts hx6
                obtain ⟨a6, c6, rfl⟩ := ha6.shape
                clear ha6 hw6 hb6 hb6' hx6))
          all_goals
            go_wp2
            go_meet
            case rel =>
              first
              | exact midx1 HP6.out.own HBK.out HNE.out HBB7.out HA6.out (fun k q => HW6.out k q)
              | exact midx2 HP6.out.own HBK.out HNE.out HBB7.out HA6.out HX6.out (fun k q => (HW6.out k q).imp id (fun z => ⟨by have := z.1; simp [World.drew] at this; omega, z.2⟩))
        case rest =>
          rename World => w7
          obtain ⟨X, v6, rfl, rfl, rfl, ho7, hblk7, hx7, ha7, hne7⟩ := hcut
          obtain ⟨a6, c6, rfl⟩ := ha7.shape
          have x0 : w7.cell? ⟨X, 0, none⟩ = some (.slice a6 R.L.length c6) := (m_cells hx7).1 0
          have x1 : w7.cell? ⟨X, 1, none⟩ = some (.int .i64 R.next) := (m_cells hx7).1 1
          have z0 : w7.cell? ⟨B, 0, none⟩ = some (.slice av L.length cv) := (m_cells hblk7).1 0
          have z1 : w7.cell? ⟨B, 1, none⟩ = some (.int .i64 next) := (m_cells hblk7).1 1
          have z2 : w7.frozen? ⟨B, 0, none⟩ = false := (m_cells hblk7).2 0
          have z3 : w7.frozen? ⟨B, 1, none⟩ = false := (m_cells hblk7).2 1
          have hp8 := midy_stored (n2 := R.next) ho7 hblk7 ha7 hne7 hwB
          obtain ⟨w8, hw8⟩ : ∃ w8, (w7.setCell ⟨B, 0, none⟩ (.slice a6 R.L.length c6)).setCell ⟨B, 1, none⟩ (.int .i64 R.next) = w8 := ⟨_, rfl⟩
          rw [hw8] at hp8
          have HP8 := Lib.hid hp8
          clear ho7 hblk7 hx7 ha7 hne7 hp8 HP6 HS5 HR6 HNE HBK b0 b1 b2 b3 k0 k1 k2 k3 k4 k5 k6
          go_wp2_with fail
          exact ⟨⟨i + 1, _, _, _, rfl, hlt, HP8.out.both, HTR.out, by push_cast; omega⟩, by simp [intOf]; omega⟩
    · have ei : i = l.length := by omega
      subst ei
      have i2 : ¬ ((l.length : Int) < l.length) := by omega
      obtain ⟨F, htm, hF, hbW, -⟩ := hbo.own
      have HTM := Lib.hid htm
      have HF := Lib.hid hF
      have HBWr := Lib.hid hbW
      have HTI := Lib.hid hti
      clear hbo hti HST htm hF hbW
      have hmm := @run_makeMap Tryz.prog
      go_wp2_with fail
      have him : IMap encDE (wr.alloc (.map #[] 0)) wr.heap.size [] := IMap.new wr
      have hbm : Below wr.heap.size wr (wr.alloc (.map #[] 0)) := (Below.refl _ wr).alloc (Nat.le_refl _) _
      obtain ⟨bd, hbd⟩ : ∃ bd, wr.heap.size = bd := ⟨_, rfl⟩
      rw [hbd] at him ⊢
      have HFB := Lib.hid (show ¬ F bd from fun q => by have := HTM.out.lt q; omega)
      have htm := HTM.out.below hbm
      have HGE := Lib.hid (show w2.heap.size ≤ bd from by have := HBWr.out.size; omega)
      have HB3 := Lib.hid (HBWr.out.trans (hbm.mono HBWr.out.size))
      generalize wr.alloc (.map #[] 0) = w3 at *
      have HIM := Lib.hid him
      have HTD := Lib.hid (tdirs_any htm HTI.out)
      have HTM3 := Lib.hid htm
      clear him hbm htm hbd HTM HBWr
      refine HTD.out.mono ?_
      rintro e W0 ⟨dv, rfl, hdr, hb0⟩
      obtain ⟨da, dc, rfl⟩ := hdr.shape
      have HDR := Lib.hid hdr
      have HTM0 := Lib.hid (HTM3.out.below hb0)
      have HIM0 := Lib.hid (HIM.out.keep (Keep.below hb0) (fun q => Nat.lt_irrefl _ (Nat.lt_of_lt_of_le HIM.out.lt q)))
      have HBD := Lib.hid (show bd < W0.heap.size from HIM0.out.lt)
      have HBL := Lib.hid (HB3.out.trans (hb0.mono HB3.out.size))
      have HDRb := Lib.hid (show ∀ k, (Value.slice da (dirsT L).length dc).ownBlock = some k → k ≠ bd from fun k q e => by have := HDR.out.ge q; have := HIM.out.lt; omega)
      have HDF := Lib.hid (show ∀ k, (Value.slice da (dirsT L).length dc).ownBlock = some k → ¬ F k from fun k q e => by have := HDR.out.ge q; have := HTM3.out.lt e; omega)
      have hdl := dirsT_len L
      have HMEM := Lib.hid (fun x => dirsT_mem HTI.out x)
      obtain ⟨ds, hds⟩ : ∃ ds, dirsT L = ds := ⟨_, rfl⟩
      rw [hds] at HDR HDRb HDF HMEM hdl ⊢
      have HDS := Lib.hid hds
      clear hdr hb0 HTD HTM3 HIM hmm hds
      go_wp2_with fail
      go_loopw [15] (fun iv wr => GathT W0 bd ds L iv wr) (fun iv _ => ds.length - (intOf iv).toNat)
      case atStart => exact ⟨0, [], rfl, Nat.zero_le _, HIM0.out, fun x hx => absurd hx (List.not_mem_nil), fun n hn => absurd hn (by simp), fun n _ => rfl, Keep.refl _ _⟩
      case round =>
        rename World => wr
        obtain ⟨j, D, rfl, hj, him, hva, hin, hno, hkp⟩ := hrel
        have HIMr := Lib.hid him
        have HVA := Lib.hid hva
        have HIN := Lib.hid hin
        have HNO := Lib.hid hno
        have HKP := Lib.hid hkp
        have HTMr := Lib.hid (HTM0.out.keep hkp (fun i q e => HFB.out (e ▸ q)))
        have HDRr := Lib.hid (HDR.out.keep hkp (fun i q => HDRb.out i q))
        clear him hva hin hno hkp HIM0
        by_cases hjt : j < ds.length
        · as_aux_lemma =>
            have j1 : (j : Int) < ds.length := by omega
            obtain ⟨n, hn⟩ : ∃ n, ds[j]? = some n := ⟨_, List.getElem?_eq_getElem hjt⟩
            obtain ⟨g1, o1, rfl, c0⟩ := int_cell HDRr.out.arg j n hn
            have HTL := Lib.hid (tlist_any n HTMr.out (by have := HTI.out.len; omega))
            have HN := Lib.hid hn
            clear hn
            go_wp2_with fail
            refine HTL.out.mono ?_
            rintro e w5 ⟨lv, ll, rfl, hlr, hle, hb5⟩
            have hd0 : isDirB L n = true := (HMEM.out n).1 (List.mem_of_getElem? HN.out)
            have he0 : listErr L n = 0 := by unfold listErr; rw [if_pos hd0]
            rw [he0]
            have hll : ll = entries L n := hle he0
            subst hll
            have HLR := Lib.hid hlr
            have HB5 := Lib.hid hb5
            have him5 := HIMr.out.keep (Keep.below hb5) (fun q => Nat.lt_irrefl _ (Nat.lt_of_lt_of_le HIMr.out.lt q))
            obtain ⟨w6, hrun, him6, hk6⟩ := him5.update (P := Tryz.prog) Tryz.underlying53 Tryz.underlying3 n (lv, entries L n)
            simp only [encDE] at hrun
            have c5 := cell_later hb5 c0
            have HIM6 := Lib.hid him6
            have HK6 := Lib.hid hk6
            clear hlr hb5 him5 him6 hk6 hd0 he0 hle
            go_wp2_with fail
            exact ⟨gath_step hjt HN.out HBD.out HVA.out HIN.out HNO.out HKP.out HB5.out HLR.out HIM6.out HK6.out, by simp [intOf]; omega⟩
        · have ej : j = ds.length := by omega
          subst ej
          have j2 : ¬ ((ds.length : Int) < ds.length) := by omega
          rw [List.take_length] at HIN HNO
          have HSAY := Lib.hid (show Says D L from ⟨fun d hd => HIN.out d ((HMEM.out d).2 hd), fun d hd => HNO.out d (fun q => by rw [(HMEM.out d).1 q] at hd; cases hd)⟩)
          have HDL := Lib.hid (show D.length ≤ 201 from by
            have h1 : (mkeys D).length = D.length := by unfold mkeys; rw [List.length_map]
            rw [← h1]
            refine Nat.le_trans (nodup_sub_len (mkeys D) ds HIMr.out.nodup (fun d hd => ?_)) hdl
            exact Classical.byContradiction fun q => (mget_none_iff D d).1 (HNO.out d q) hd)
          have HSM := Lib.hid (show ∀ x ∈ D, x.2.2.length ≤ 200 ∧ ∀ e ∈ x.2.2, e.name.size ≤ maxLen from fun x hx => by
            have h1 := mget_of_mem HIMr.out.nodup hx
            have hk : x.1 ∈ ds := Classical.byContradiction fun q => by rw [HNO.out x.1 q] at h1; cases h1
            obtain ⟨v, hv⟩ := HIN.out x.1 hk
            rw [h1] at hv
            have : x.2 = (v, entries L x.1) := by simpa using hv
            rw [this]
            exact ⟨ents_len HTI.out x.1, ent_small HTI.out x.1⟩)
          have HTC := Lib.hid (tcookie_any HTMr.out)
          have HMK := Lib.hid (tmake_any HIMr.out (fun x hx => (HVA.out x hx).1) (fun x hx => ⟨by have := (HSM.out x hx).1; omega, (HSM.out x hx).2⟩) (by have := HDL.out; omega) (show next ≤ 9223372036854775807 by omega))
          clear HIN HNO
          go_wp2_with fail
          refine HTC.out.mono ?_
          rintro e _ ⟨rfl, rfl⟩
          go_wp2_with fail
          refine HMK.out.mono ?_
          rintro e w4 (⟨L', gx, FX, hti', hsy', rfl, htx, hfx, hb4⟩ | ⟨hno, -, -⟩)
          rotate_left
          · exact absurd HSAY.out (hno L HTI.out)
          have eL : L' = L := says_unique HIMr.out.nodup hti' HTI.out hsy' HSAY.out
          subst eL
          have HTX := Lib.hid htx
          have HFX := Lib.hid hfx
          have HB4 := Lib.hid hb4
          have HLN := Lib.hid (show L'.length ≤ 100000 from by have := HTI.out.len; omega)
          have HSA := Lib.hid (fun (W : World) (hb : Below w4.heap.size w4 W) => tsame_any (HTX.out.below hb) ((HTMr.out.below HB4.out).below hb) HLN.out)
          have HNX := Lib.hid (fun (W : World) (hb : Below w4.heap.size w4 W) => tnodes_any (HTX.out.below hb) HTI.out)
          have HNT := Lib.hid (fun (W : World) (hb : Below w4.heap.size w4 W) => tnodes_any ((HTMr.out.below HB4.out).below hb) HTI.out)
          clear hti' hsy' htx hfx hb4 HMK HTC
          go_wp2_with fail
          refine (HSA.out w4 (Below.refl _ _)).mono ?_
          rintro e w5 ⟨rfl, hb5⟩
          have HB5 := Lib.hid hb5
          have hnx5 := (HNX.out w5 hb5).mono (fun e w' q => (⟨q.1, q.2.symm⟩ : e = .returned (.int .i64 L'.length) ∧ w5 = w'))
          have hnt5 := (HNT.out w5 hb5).mono (fun e w' q => (⟨q.1, q.2.symm⟩ : e = .returned (.int .i64 L'.length) ∧ w5 = w'))
          clear hb5
          go_wp2_with (first
            | (refine hnx5.mono ?_; rintro e _ ⟨rfl, rfl⟩)
            | (refine hnt5.mono ?_; rintro e _ ⟨rfl, rfl⟩))
          clear hnx5 hnt5 HSA HNX HNT
          have HTX5 := Lib.hid (HTX.out.below HB5.out)
          have hlx := tlink_any 0 ⟨#[122, 122]⟩ false 0 HTX5.out HTI.out (by omega) (by decide)
          obtain ⟨R, hR⟩ : ∃ R, linkT L' next 0 ⟨#[122, 122]⟩ false 0 = R := ⟨_, rfl⟩
          rw [hR] at hlx
          refine hlx.mono ?_
          rintro e w6 ⟨rfl, FY, hty, hfy, hk6⟩
          have HT6 := Lib.hid ((HTMr.out.below (HB4.out.trans (HB5.out.mono HB4.out.size))).keep hk6 (fun i q z => by have := HTMr.out.lt q; have := HFX.out i z; omega))
          have hlt := tlink_any 0 ⟨#[122, 122]⟩ false 0 HT6.out HTI.out (by omega) (by decide)
          rw [hR] at hlt
          have HTY := Lib.hid hty
          have HFY := Lib.hid (show ∀ k, FY k → wr.heap.size ≤ k from fun k q => (hfy k q).elim (HFX.out k) (fun z => by have := HB4.out.size; have := HB5.out.size; omega))
          have HK6 := Lib.hid (show Keep F wr w6 from (((Keep.below HB4.out).mono (fun i q => Or.inr q)).trans ((Keep.below HB5.out).mono (fun i q => Or.inr q))).trans' hk6 (fun i q => Or.inr (HFX.out i q)))
          clear hlx hty hfy hk6 HTX HTX5
          go_wp2_with fail
          refine hlt.mono ?_
          rintro e w7 ⟨rfl, FT, htt, hft, hk7⟩
          have HTI2 := Lib.hid (show TInv R.L R.next from by rw [← hR]; exact HTI.out.link 0 ⟨#[122, 122]⟩ false 0)
          have HTT7 := Lib.hid htt
          have HTY7 := Lib.hid (HTY.out.keep hk7 (fun i q z => by have := HTMr.out.lt z; have := HFY.out i q; omega))
          have HK7 := Lib.hid (HK6.out.trans hk7)
          have HSA := Lib.hid (tsame_any HTY7.out HTT7.out (by have := HTI2.out.len; omega))
          clear hR hlt htt hft hk7 HTY HT6 HK6 HTT7 HTY7
          have d1 : (R.node != R.node) = false := by simp
          have d2 : (R.err != R.err) = false := by simp
          go_wp2_with fail
          refine HSA.out.mono ?_
          rintro e w8 ⟨rfl, hb8⟩
          have HK8 := Lib.hid (HK7.out.trans ((Keep.below hb8).mono (fun i q => Or.inr q)))
          clear d1 d2 hb8 HSA HK7
          have HB8 := Lib.hid (show Below w2.heap.size w2 w8 from (HBL.out.trans (HKP.out.toBelow HBL.out.size (fun i q => by have := HGE.out; omega))).trans (HK8.out.toBelow (by have := HBL.out.size; have := HKP.out.size; omega) HF.out))
          have HIM8 := Lib.hid (HIMr.out.keep HK8.out HFB.out)
          have HVA8 := Lib.hid (show ∀ x ∈ D, Arg EEnt w8 x.2.1 x.2.2 from fun x hx => (HVA.out x hx).1.keep HK8.out (fun i q z => by have := (HVA.out x hx).2 i q; have := HTM0.out.lt z; omega))
          have HDR8 := Lib.hid (HDRr.out.arg.keep HK8.out (fun i q z => HDF.out i q z))
          have c1 := (m_cells ((HB8.out.block _ (m_lt HX1b.out)).trans HX1b.out)).1 0
          have c2 := (m_cells ((HB8.out.block _ (m_lt HX1b.out)).trans HX1b.out)).1 1
          have c3 := (m_cells ((HB8.out.block _ (m_lt HX2b.out)).trans HX2b.out)).1 0
          have c4 := (m_cells ((HB8.out.block _ (m_lt HX2b.out)).trans HX2b.out)).1 1
          have HVB8 := Lib.hid ((HV.out.below HBb.out).below HB8.out)
          have HVN := Lib.hid (show ∀ x ∈ D, ∀ k, x.2.1.ownBlock = some k → k ≠ bd from fun x hx k q e => by have := (HVA.out x hx).2 k q; have := HBD.out; omega)
          clear HDR HDRr HVA HIMr HTM0 HKP HK8 HTMr HBL
          have HDN := Lib.hid (show ds.Nodup from by rw [← HDS.out]; exact dirsT_nodup L')
          have HDK := Lib.hid (show ∀ n ∈ mkeys D, n ∈ ds from fun n hn => (HMEM.out n).2 ((keys_says HSAY.out n).1 hn))
          by_cases hh : h1.toNat % 2 = 0
          · as_aux_lemma =>
              have hh1 := u8_even h1 hh
              obtain ⟨w9, hrun, him9, hk9⟩ := HIM8.out.update (P := Tryz.prog) Tryz.underlying53 Tryz.underlying3 nb (.slice va2 lb.length vc2, lb)
              simp only [encDE] at hrun
              obtain ⟨D2, hD2⟩ : ∃ D2, mput D nb (.slice va2 lb.length vc2, lb) = D2 := ⟨_, rfl⟩
              rw [hD2] at him9
              have HIM9 := Lib.hid him9
              have hbw9 : Below w2.heap.size w2 w9 := HB8.out.trans (hk9.toBelow HB8.out.size (fun i q => by have := HGE.out; omega))
              have HBW9 := Lib.hid (HBb.out.trans (hbw9.mono HBb.out.size))
              have HVA9 := Lib.hid (show ∀ x ∈ D2, Arg EEnt w9 x.2.1 x.2.2 from fun x hx => by
                rw [← hD2] at hx
                rcases mem_mput_de hx with q | q
                · exact (HVA8.out x q).keep hk9 (fun i z e => HVN.out x q i z e)
                · rw [q]; exact HV.out.below HBW9.out)
              have HSM9 := Lib.hid (show ∀ x ∈ D2, x.2.2.length ≤ 200 ∧ ∀ e ∈ x.2.2, e.name.size ≤ maxLen from fun x hx => by
                rw [← hD2] at hx
                rcases mem_mput_de hx with q | q
                · exact HSM.out x q
                · rw [q]; exact ⟨show lb.length ≤ 200 by omega, HBOK.out⟩)
              have HDL9 := Lib.hid (show D2.length ≤ 202 from by rw [← hD2, mput_length]; have := HDL.out; split <;> omega)
              have HDR9 := Lib.hid (HDR8.out.keep hk9 (fun i z e => HDRb.out i z e))
              have HKK9 := Lib.hid (show ∀ n ∈ mkeys D2, n ∈ keysK ds nb from fun n hn => by
                rw [← hD2, mem_mput] at hn
                exact mem_keysK (hn.imp (HDK.out n) id))
              have k1 : w9.cell? ⟨bB, 0, none⟩ = some (.int .i64 nb) := cell_at hbw9 HX1b.out 0
              have k4 : w9.cell? ⟨hB, 1, none⟩ = some (.int .u8 h2.toNat) := cell_at hbw9 HX2b.out 1
              clear him9 hk9 hbw9 hD2 HB8 HIM8 HVA8 HDR8
              have hw64' := u8_wrap h2
              have hw64 := u8_wrap64 h2
              have HMK2 := Lib.hid (tmake_any (cookie := (h2.toNat : Int)) HIM9.out HVA9.out (fun x hx => ⟨by have := (HSM9.out x hx).1; omega, (HSM9.out x hx).2⟩) (by have := HDL9.out; omega) (u8_small h2))
              go_wp2_with fail
              refine HMK2.out.mono ?_
              rintro e w10 hmk
              have HMK3 := Lib.hid hmk
              have hb10 : Below w9.heap.size w9 w10 := by
                rcases hmk with ⟨_, _, _, _, _, _, _, _, q⟩ | ⟨_, _, q⟩
                · exact q
                · exact q
              have HB10 := Lib.hid hb10
              have HIM10 := Lib.hid (HIM9.out.keep (Keep.below hb10) (fun q => Nat.lt_irrefl _ (Nat.lt_of_lt_of_le HIM9.out.lt q)))
              have HFO := Lib.hid (formed_walk (cookie := (h2.toNat : Int)) (other := nb) HIM10.out (fun x hx => (HVA9.out x hx).below hb10) HSM9.out (HDR9.out.below hb10) (by omega) HKK9.out)
              have c1' := cell_later hb10 k1
              have c4' := cell_later hb10 k4
              clear hmk hb10
              rcases HMK3.out with ⟨L2, gy, FY2, hti2, hsy2, rfl, hty2, -, -⟩ | ⟨hno2, rfl, -⟩
              · as_aux_lemma =>
                  have HTY2 := Lib.hid hty2
                  have HTI2' := Lib.hid hti2
                  have HSY2 := Lib.hid hsy2
                  clear hti2 hsy2 hty2 HMK3
                  go_wp2_with fail
                  refine HFO.out.mono ?_
                  rintro e w11 ⟨b, rfl, hbi, hb11⟩
                  have eb : b = true := hbi.2 ⟨tree_asked HIM10.out.nodup HKK9.out (keysK_nodup HDN.out) HTI2'.out HSY2.out, by
                    obtain ⟨M, hM, hcl⟩ := bfs_ex (itemsOf D2 (keysK ds nb))
                    obtain ⟨T, hT⟩ := hM.hd
                    exact ⟨M, hM, hcl, fun n _ hn => tree_reached HTI2'.out HSY2.out HKK9.out (by rw [hT]; exact List.mem_cons_self ..) hcl n hn⟩⟩
                  subst eb
                  have htc := (tcookie_any (HTY2.out.below hb11.drew)).mono (fun e w' q => (⟨q.1, q.2⟩ : e = .returned (.int .i64 (h2.toNat : Int)) ∧ w11.drew = w'))
                  have HB11 := Lib.hid hb11
                  have c4'' := cell_later hb11 c4'
                  clear hb11 hbi
                  go_wp2_with fail
                  refine wp_region_held_drew (S := fun w' => w'.cell? ⟨hB, 1, none⟩ = some (.int .u8 h2.toNat)) (by kernel_rfl) (show w11.drew.cell? ⟨hB, 1, none⟩ = some (.int .u8 h2.toNat) from c4'') (fun hHeld => ?_)
                  refine take_on 0 170 (v := ?tv1) rfl rfl (by kernel_rfl) (by kernel_rfl) (by kernel_rfl) (fun _ _ _ h => h) (by rfl) ?ty1 (by assumption) ?tr1
                  case ty1 => (intro w hSw; (try dsimp only at hSw); go_simp; (try with_reducible rfl))
                  try simp only [Act.put, List.setIfInBounds_toArray, List.set_cons_zero, List.set_cons_succ]
                  refine take_on 1 171 (v := ?tv2) rfl rfl (by kernel_rfl) (by kernel_rfl) (by kernel_rfl) (fun _ _ _ h => h) (by rfl) ?ty2 (by assumption) ?tr2
                  case ty2 => (intro w hSw; (try dsimp only at hSw); go_simp; (try with_reducible rfl))
                  try simp only [Act.put, List.setIfInBounds_toArray, List.set_cons_zero, List.set_cons_succ]
                  refine take_on 2 172 (v := ?tv3) rfl rfl (by kernel_rfl) (by kernel_rfl) (by kernel_rfl) (fun _ _ _ h => h) (by rfl) ?ty3 (by assumption) ?tr3
                  case ty3 => (intro w hSw; (try dsimp only at hSw); go_simp; (try with_reducible rfl))
                  try simp only [Act.put, List.setIfInBounds_toArray, List.set_cons_zero, List.set_cons_succ]
                  refine take_on 3 173 (v := ?tv4) rfl rfl (by kernel_rfl) (by kernel_rfl) (by kernel_rfl) (fun _ _ _ h => h) (by rfl) ?ty4 (by assumption) ?tr4
                  case ty4 => (intro w hSw; (try dsimp only at hSw); go_simp; (try with_reducible rfl))
                  try simp only [Act.put, List.setIfInBounds_toArray, List.set_cons_zero, List.set_cons_succ]
                  refine take_on 5 175 (v := ?tv5) rfl rfl (by kernel_rfl) (by kernel_rfl) (by kernel_rfl) (fun _ _ _ h => h) (by rfl) ?ty5 (by assumption) ?tr5
                  case ty5 => (intro w hSw; (try dsimp only at hSw); go_simp; (try with_reducible rfl))
                  try simp only [Act.put, List.setIfInBounds_toArray, List.set_cons_zero, List.set_cons_succ]
                  refine take_on 6 176 (v := ?tv6) rfl rfl (by kernel_rfl) (by kernel_rfl) (by kernel_rfl) (fun _ _ _ h => h) (by rfl) ?ty6 (by assumption) ?tr6
                  case ty6 => (intro w hSw; (try dsimp only at hSw); go_simp; (try with_reducible rfl))
                  try simp only [Act.put, List.setIfInBounds_toArray, List.set_cons_zero, List.set_cons_succ]
                  refine take_on 7 177 (v := ?tv7) rfl rfl (by kernel_rfl) (by kernel_rfl) (by kernel_rfl) (fun _ _ _ h => h) (by rfl) ?ty7 (by assumption) ?tr7
                  case ty7 => (intro w hSw; (try dsimp only at hSw); go_simp; (try with_reducible rfl))
                  try simp only [Act.put, List.setIfInBounds_toArray, List.set_cons_zero, List.set_cons_succ]
                  refine wpAnyH_ready (rs := [4]) (by kernel_rfl) (by simp) ?_
                  refine AllReadyH.cons rfl (fun K hK => ?_) AllReadyH.nil
                  go_simp
                  refine htc.mono ?_
                  rintro e _ ⟨rfl, rfl⟩
                  simp only []
                  refine hK.out _ _ c4'' (fun hHeld => ?_)
                  clear hK K
                  try simp only [Act.put, List.setIfInBounds_toArray, List.set_cons_zero, List.set_cons_succ]
                  refine take_on 8 178 (v := ?tv8) rfl rfl (by kernel_rfl) (by kernel_rfl) (by kernel_rfl) (fun _ _ _ h => h) (by rfl) ?ty8 (by assumption) ?tr8
                  case ty8 => (intro w hSw; (try dsimp only at hSw); go_simp; (try with_reducible rfl))
                  try simp only [Act.put, List.setIfInBounds_toArray, List.set_cons_zero, List.set_cons_succ]
                  refine take_on 9 179 (v := ?tv9) rfl rfl (by kernel_rfl) (by kernel_rfl) (by kernel_rfl) (fun _ _ _ h => h) (by rfl) ?ty9 (by assumption) ?tr9
                  case ty9 => (intro w hSw; (try dsimp only at hSw); go_simp; (try with_reducible rfl))
                  try simp only [Act.put, List.setIfInBounds_toArray, List.set_cons_zero, List.set_cons_succ]
                  refine take_on 10 6 (v := ?tv10) rfl rfl (by kernel_rfl) (by kernel_rfl) (by kernel_rfl) (fun _ _ _ h => h) (by rfl) ?ty10 (by assumption) ?tr10
                  case ty10 => (intro w hSw; (try dsimp only at hSw); go_simp; (try with_reducible rfl))
                  try simp only [Act.put, List.setIfInBounds_toArray, List.set_cons_zero, List.set_cons_succ]
                  refine wpAnyH_done (by kernel_rfl) ?_ _
                  go_wp2_with fail
                  go_ret
                  exact ⟨by simp, HBW9.out.trans ((HB10.out.trans (HB11.out.drew.mono HB10.out.size)).mono HBW9.out.size)⟩
              · as_aux_lemma =>
                  have HNO2 := Lib.hid hno2
                  clear hno2 HMK3
                  go_wp2_with fail
                  refine HFO.out.mono ?_
                  rintro e w11 ⟨b, rfl, hbi, hb11⟩
                  have eb : b = false := by
                    cases b
                    · rfl
                    · exfalso
                      obtain ⟨h1, M, hM, hcl, hre⟩ := hbi.1 rfl
                      obtain ⟨L2, q1, q2⟩ := asked_tree HIM10.out.nodup (u8_small h2) HKK9.out h1 hM hcl (fun n hn => hre n (HKK9.out n hn) hn)
                      exact HNO2.out L2 q1 q2
                  subst eb
                  have HB11 := Lib.hid hb11
                  clear hb11 hbi
                  go_wp2_with fail
                  go_ret
                  exact ⟨by simp, HBW9.out.trans ((HB10.out.trans (HB11.out.mono HB10.out.size)).mono HBW9.out.size)⟩
          · as_aux_lemma =>
              have hh1 := u8_odd h1 hh
              obtain ⟨w9, hrun, him9, hk9⟩ := HIM8.out.delete (P := Tryz.prog) Tryz.underlying53 Tryz.underlying3 nb 0
              obtain ⟨D2, hD2⟩ : ∃ D2, mdel D nb = D2 := ⟨_, rfl⟩
              rw [hD2] at him9
              have HIM9 := Lib.hid him9
              have hbw9 : Below w2.heap.size w2 w9 := HB8.out.trans (hk9.toBelow HB8.out.size (fun i q => by have := HGE.out; omega))
              have HBW9 := Lib.hid (HBb.out.trans (hbw9.mono HBb.out.size))
              have HVA9 := Lib.hid (show ∀ x ∈ D2, Arg EEnt w9 x.2.1 x.2.2 from fun x hx => by
                rw [← hD2] at hx
                exact (HVA8.out x (mem_mdel_de hx)).keep hk9 (fun i z e => HVN.out x (mem_mdel_de hx) i z e))
              have HSM9 := Lib.hid (show ∀ x ∈ D2, x.2.2.length ≤ 200 ∧ ∀ e ∈ x.2.2, e.name.size ≤ maxLen from fun x hx => by
                rw [← hD2] at hx
                exact HSM.out x (mem_mdel_de hx))
              have HDL9 := Lib.hid (show D2.length ≤ 202 from by rw [← hD2]; unfold mdel; have := List.length_filter_le (fun p : Int × DE => !(p.1 == nb)) D; have := HDL.out; omega)
              have HDR9 := Lib.hid (HDR8.out.keep hk9 (fun i z e => HDRb.out i z e))
              have HKK9 := Lib.hid (show ∀ n ∈ mkeys D2, n ∈ keysK ds nb from fun n hn => by
                rw [← hD2, mem_mdel] at hn
                exact mem_keysK (Or.inl (HDK.out n hn.1)))
              have k1 : w9.cell? ⟨bB, 0, none⟩ = some (.int .i64 nb) := cell_at hbw9 HX1b.out 0
              have k4 : w9.cell? ⟨hB, 1, none⟩ = some (.int .u8 h2.toNat) := cell_at hbw9 HX2b.out 1
              clear him9 hk9 hbw9 hD2 HB8 HIM8 HVA8 HDR8
              have hw64' := u8_wrap h2
              have hw64 := u8_wrap64 h2
              have HMK2 := Lib.hid (tmake_any (cookie := (h2.toNat : Int)) HIM9.out HVA9.out (fun x hx => ⟨by have := (HSM9.out x hx).1; omega, (HSM9.out x hx).2⟩) (by have := HDL9.out; omega) (u8_small h2))
              go_wp2_with fail
              refine HMK2.out.mono ?_
              rintro e w10 hmk
              have HMK3 := Lib.hid hmk
              have hb10 : Below w9.heap.size w9 w10 := by
                rcases hmk with ⟨_, _, _, _, _, _, _, _, q⟩ | ⟨_, _, q⟩
                · exact q
                · exact q
              have HB10 := Lib.hid hb10
              have HIM10 := Lib.hid (HIM9.out.keep (Keep.below hb10) (fun q => Nat.lt_irrefl _ (Nat.lt_of_lt_of_le HIM9.out.lt q)))
              have HFO := Lib.hid (formed_walk (cookie := (h2.toNat : Int)) (other := nb) HIM10.out (fun x hx => (HVA9.out x hx).below hb10) HSM9.out (HDR9.out.below hb10) (by omega) HKK9.out)
              have c1' := cell_later hb10 k1
              have c4' := cell_later hb10 k4
              clear hmk hb10
              rcases HMK3.out with ⟨L2, gy, FY2, hti2, hsy2, rfl, hty2, -, -⟩ | ⟨hno2, rfl, -⟩
              · as_aux_lemma =>
                  have HTY2 := Lib.hid hty2
                  have HTI2' := Lib.hid hti2
                  have HSY2 := Lib.hid hsy2
                  clear hti2 hsy2 hty2 HMK3
                  go_wp2_with fail
                  refine HFO.out.mono ?_
                  rintro e w11 ⟨b, rfl, hbi, hb11⟩
                  have eb : b = true := hbi.2 ⟨tree_asked HIM10.out.nodup HKK9.out (keysK_nodup HDN.out) HTI2'.out HSY2.out, by
                    obtain ⟨M, hM, hcl⟩ := bfs_ex (itemsOf D2 (keysK ds nb))
                    obtain ⟨T, hT⟩ := hM.hd
                    exact ⟨M, hM, hcl, fun n _ hn => tree_reached HTI2'.out HSY2.out HKK9.out (by rw [hT]; exact List.mem_cons_self ..) hcl n hn⟩⟩
                  subst eb
                  have htc := (tcookie_any (HTY2.out.below hb11.drew)).mono (fun e w' q => (⟨q.1, q.2⟩ : e = .returned (.int .i64 (h2.toNat : Int)) ∧ w11.drew = w'))
                  have HB11 := Lib.hid hb11
                  have c4'' := cell_later hb11 c4'
                  clear hb11 hbi
                  go_wp2_with fail
                  refine wp_region_held_drew (S := fun w' => w'.cell? ⟨hB, 1, none⟩ = some (.int .u8 h2.toNat)) (by kernel_rfl) (show w11.drew.cell? ⟨hB, 1, none⟩ = some (.int .u8 h2.toNat) from c4'') (fun hHeld => ?_)
                  refine take_on 0 170 (v := ?tv11) rfl rfl (by kernel_rfl) (by kernel_rfl) (by kernel_rfl) (fun _ _ _ h => h) (by rfl) ?ty11 (by assumption) ?tr11
                  case ty11 => (intro w hSw; (try dsimp only at hSw); go_simp; (try with_reducible rfl))
                  try simp only [Act.put, List.setIfInBounds_toArray, List.set_cons_zero, List.set_cons_succ]
                  refine take_on 1 171 (v := ?tv12) rfl rfl (by kernel_rfl) (by kernel_rfl) (by kernel_rfl) (fun _ _ _ h => h) (by rfl) ?ty12 (by assumption) ?tr12
                  case ty12 => (intro w hSw; (try dsimp only at hSw); go_simp; (try with_reducible rfl))
                  try simp only [Act.put, List.setIfInBounds_toArray, List.set_cons_zero, List.set_cons_succ]
                  refine take_on 2 172 (v := ?tv13) rfl rfl (by kernel_rfl) (by kernel_rfl) (by kernel_rfl) (fun _ _ _ h => h) (by rfl) ?ty13 (by assumption) ?tr13
                  case ty13 => (intro w hSw; (try dsimp only at hSw); go_simp; (try with_reducible rfl))
                  try simp only [Act.put, List.setIfInBounds_toArray, List.set_cons_zero, List.set_cons_succ]
                  refine take_on 3 173 (v := ?tv14) rfl rfl (by kernel_rfl) (by kernel_rfl) (by kernel_rfl) (fun _ _ _ h => h) (by rfl) ?ty14 (by assumption) ?tr14
                  case ty14 => (intro w hSw; (try dsimp only at hSw); go_simp; (try with_reducible rfl))
                  try simp only [Act.put, List.setIfInBounds_toArray, List.set_cons_zero, List.set_cons_succ]
                  refine take_on 5 175 (v := ?tv15) rfl rfl (by kernel_rfl) (by kernel_rfl) (by kernel_rfl) (fun _ _ _ h => h) (by rfl) ?ty15 (by assumption) ?tr15
                  case ty15 => (intro w hSw; (try dsimp only at hSw); go_simp; (try with_reducible rfl))
                  try simp only [Act.put, List.setIfInBounds_toArray, List.set_cons_zero, List.set_cons_succ]
                  refine take_on 6 176 (v := ?tv16) rfl rfl (by kernel_rfl) (by kernel_rfl) (by kernel_rfl) (fun _ _ _ h => h) (by rfl) ?ty16 (by assumption) ?tr16
                  case ty16 => (intro w hSw; (try dsimp only at hSw); go_simp; (try with_reducible rfl))
                  try simp only [Act.put, List.setIfInBounds_toArray, List.set_cons_zero, List.set_cons_succ]
                  refine take_on 7 177 (v := ?tv17) rfl rfl (by kernel_rfl) (by kernel_rfl) (by kernel_rfl) (fun _ _ _ h => h) (by rfl) ?ty17 (by assumption) ?tr17
                  case ty17 => (intro w hSw; (try dsimp only at hSw); go_simp; (try with_reducible rfl))
                  try simp only [Act.put, List.setIfInBounds_toArray, List.set_cons_zero, List.set_cons_succ]
                  refine wpAnyH_ready (rs := [4]) (by kernel_rfl) (by simp) ?_
                  refine AllReadyH.cons rfl (fun K hK => ?_) AllReadyH.nil
                  go_simp
                  refine htc.mono ?_
                  rintro e _ ⟨rfl, rfl⟩
                  simp only []
                  refine hK.out _ _ c4'' (fun hHeld => ?_)
                  clear hK K
                  try simp only [Act.put, List.setIfInBounds_toArray, List.set_cons_zero, List.set_cons_succ]
                  refine take_on 8 178 (v := ?tv18) rfl rfl (by kernel_rfl) (by kernel_rfl) (by kernel_rfl) (fun _ _ _ h => h) (by rfl) ?ty18 (by assumption) ?tr18
                  case ty18 => (intro w hSw; (try dsimp only at hSw); go_simp; (try with_reducible rfl))
                  try simp only [Act.put, List.setIfInBounds_toArray, List.set_cons_zero, List.set_cons_succ]
                  refine take_on 9 179 (v := ?tv19) rfl rfl (by kernel_rfl) (by kernel_rfl) (by kernel_rfl) (fun _ _ _ h => h) (by rfl) ?ty19 (by assumption) ?tr19
                  case ty19 => (intro w hSw; (try dsimp only at hSw); go_simp; (try with_reducible rfl))
                  try simp only [Act.put, List.setIfInBounds_toArray, List.set_cons_zero, List.set_cons_succ]
                  refine take_on 10 6 (v := ?tv20) rfl rfl (by kernel_rfl) (by kernel_rfl) (by kernel_rfl) (fun _ _ _ h => h) (by rfl) ?ty20 (by assumption) ?tr20
                  case ty20 => (intro w hSw; (try dsimp only at hSw); go_simp; (try with_reducible rfl))
                  try simp only [Act.put, List.setIfInBounds_toArray, List.set_cons_zero, List.set_cons_succ]
                  refine wpAnyH_done (by kernel_rfl) ?_ _
                  go_wp2_with fail
                  go_ret
                  exact ⟨by simp, HBW9.out.trans ((HB10.out.trans (HB11.out.drew.mono HB10.out.size)).mono HBW9.out.size)⟩
              · as_aux_lemma =>
                  have HNO2 := Lib.hid hno2
                  clear hno2 HMK3
                  go_wp2_with fail
                  refine HFO.out.mono ?_
                  rintro e w11 ⟨b, rfl, hbi, hb11⟩
                  have eb : b = false := by
                    cases b
                    · rfl
                    · exfalso
                      obtain ⟨h1, M, hM, hcl, hre⟩ := hbi.1 rfl
                      obtain ⟨L2, q1, q2⟩ := asked_tree HIM10.out.nodup (u8_small h2) HKK9.out h1 hM hcl (fun n hn => hre n (HKK9.out n hn) hn)
                      exact HNO2.out L2 q1 q2
                  subst eb
                  have HB11 := Lib.hid hb11
                  clear hb11 hbi
                  go_wp2_with fail
                  go_ret
                  exact ⟨by simp, HBW9.out.trans ((HB10.out.trans (HB11.out.mono HB10.out.size)).mono HBW9.out.size)⟩
end Go.Proofs.YtolilbcpfdnkjaaGreat
