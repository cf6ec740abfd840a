/- image: Decode. -/
import Derived.Test.YtolilbcpfdnkjaaTKIM8
namespace Go.Proofs.Ytolilbcpfdnkjaa
open Go.RowKit
set_option linter.unusedSimpArgs false
set_option linter.unusedVariables false
/-- What Decode answers. -/
def DecPost (w : World) (b : ByteArray) (e : Ending) (w' : World) : Prop :=
  (∃ (L : List Itm) (next : Int) (g : Nat) (F : Nat → Prop), TInv L next ∧ next ≤ 9223372036854775807 ∧ bmk (imgB L next) = b ∧ e = .returned (.tuple #[.pointer (some ⟨g, 0, none⟩), .int .i64 0]) ∧ TreeM w' F g L next ∧ (∀ k, F k → w.heap.size ≤ k) ∧ Below w.heap.size w w') ∨
  ((∀ L next, TInv L next → next ≤ 9223372036854775807 → bmk (imgB L next) ≠ b) ∧ e = .returned (.tuple #[.pointer none, .int .i64 2]) ∧ Below w.heap.size w w')
/-- The map of directories that were read. -/
def dmap (l : List DI) : List (Int × DE) := l.foldl (fun D x => mput D x.node (x.val, x.l)) []
theorem dmap_snoc (l : List DI) (x : DI) : dmap (l ++ [x]) = mput (dmap l) x.node (x.val, x.l) := by unfold dmap; rw [List.foldl_append]; rfl
theorem snocInd {α : Type} {P : List α → Prop} (h0 : P []) (h1 : ∀ l x, P l → P (l ++ [x])) : ∀ l, P l := by
  have key : ∀ n (l : List α), l.length = n → P l := by
    intro n
    induction n with
    | zero => intro l e; rw [List.eq_nil_of_length_eq_zero e]; exact h0
    | succ n ih =>
      intro l e
      rcases List.eq_nil_or_concat l with q | ⟨l', x, q⟩
      · rw [q] at e; cases e
      · rw [List.concat_eq_append] at q
        subst q
        exact h1 l' x (ih l' (by rw [List.length_append, List.length_singleton] at e; omega))
  exact fun l => key _ l rfl
theorem mem_dmap {y : Int × DE} : ∀ {l : List DI}, y ∈ dmap l → ∃ x ∈ l, y.2 = (x.val, x.l) := by
  refine fun {l} => snocInd (P := fun l => y ∈ dmap l → ∃ x ∈ l, y.2 = (x.val, x.l)) (fun h => by cases h) (fun l x ih h => ?_) l
  rw [dmap_snoc] at h
  rcases mem_mput_de h with q | q
  · obtain ⟨x, hx, e⟩ := ih q; exact ⟨x, List.mem_append_left _ hx, e⟩
  · exact ⟨x, List.mem_append_right _ (List.mem_singleton.2 rfl), q⟩
theorem dmap_len (l : List DI) : (dmap l).length ≤ l.length := by
  refine snocInd (P := fun l => (dmap l).length ≤ l.length) (Nat.le_refl _) (fun l x ih => ?_) l
  rw [dmap_snoc, mput_length, List.length_append, List.length_singleton]; split <;> omega
/-- Of a tree's directories the map says what the tree is. -/
theorem dmap_says {L : List Itm} {next : Int} (h : TInv L next) (l : List DI) (hl : l.map DI.plain = (dirsT L).map (fun d => (d, entries L d))) : Says (dmap l) L := by
  have key : ∀ (l : List DI) (ds : List Int), l.map DI.plain = ds.map (fun d => (d, entries L d)) → ∀ d, (d ∈ ds → ∃ v, mget (dmap l) d = some (v, entries L d)) ∧ (d ∉ ds → mget (dmap l) d = none) := by
    refine snocInd ?_ ?_
    · intro ds e d
      have : ds = [] := by
        have := congrArg List.length e; simp at this; exact List.eq_nil_of_length_eq_zero this.symm
      subst this
      exact ⟨fun q => (by cases q), fun _ => rfl⟩
    · intro l x ih ds e d
      rcases List.eq_nil_or_concat ds with q | ⟨ds', z, q⟩
      · subst q; have := congrArg List.length e; simp at this
      · rw [List.concat_eq_append] at q
        subst q
        rw [List.map_append, List.map_append] at e
        have hlen : (l.map DI.plain).length = (ds'.map (fun d => (d, entries L d))).length := by
          have := congrArg List.length e
          simp only [List.length_append, List.length_map, List.length_cons, List.length_nil] at this ⊢
          omega
        obtain ⟨e1, e2⟩ := List.append_inj e hlen
        simp only [List.map_cons, List.map_nil, List.cons.injEq, and_true] at e2
        unfold DI.plain at e2
        simp only [Prod.mk.injEq] at e2
        obtain ⟨f1, f2⟩ := e2
        rw [dmap_snoc, mget_put, f1, f2]
        obtain ⟨i1, i2⟩ := ih ds' e1 d
        by_cases c : d = z
        · subst c
          rw [if_pos rfl]
          exact ⟨fun _ => ⟨_, rfl⟩, fun q => absurd (List.mem_append_right _ (List.mem_singleton.2 rfl)) q⟩
        · rw [if_neg c]
          refine ⟨fun q => i1 ((List.mem_append.1 q).resolve_right (fun z => c (List.mem_singleton.1 z))), fun q => i2 (fun z => q (List.mem_append_left _ z))⟩
  refine ⟨fun d hd => (key l _ hl d).1 ((dirsT_mem h d).2 hd), fun d hd => (key l _ hl d).2 (fun q => by rw [(dirsT_mem h d).1 q] at hd; cases hd)⟩
theorem sevP_all {α : Type} {one : IR → α × IR} {P : α → Prop} (h : ∀ r, P (one r).1) : ∀ n r, ∀ x ∈ (sevP one n r).1, P x := by
  intro n
  induction n with
  | zero => intro r x hx; exact absurd hx (List.not_mem_nil)
  | succ n ih =>
    intro r x hx
    rw [sevP] at hx
    split at hx
    · exact absurd hx (List.not_mem_nil)
    · rcases List.mem_cons.1 hx with q | q
      · rw [q]; exact h r
      · exact ih _ x q
theorem sevP_len {α : Type} (one : IR → α × IR) : ∀ n r, (sevP one n r).1.length ≤ n := by
  intro n
  induction n with
  | zero => intro r; exact Nat.le_refl _
  | succ n ih =>
    intro r
    rw [sevP]
    split
    · exact Nat.zero_le _
    · rw [List.length_cons]; have := ih (one r).2; omega
theorem decS_small (b : ByteArray) : ∀ y ∈ (decS b).1, y.2.length ≤ 100000 ∧ ∀ e ∈ y.2, e.name.size ≤ maxLen := by
  unfold decS
  refine sevP_all (P := fun y : Int × List Ent => y.2.length ≤ 100000 ∧ ∀ e ∈ y.2, e.name.size ≤ maxLen) (fun r => ?_) _ _
  unfold dirP
  dsimp only
  refine ⟨?_, sevP_all (P := fun e : Ent => e.name.size ≤ maxLen) (fun r => ?_) _ _⟩
  · have h1 := sevP_len entP ((r.num 2).2.num 2).1 ((r.num 2).2.num 2).2
    have h2 := num_lt2 (r.num 2).2
    omega
  · unfold entP
    dsimp only
    have h1 := ((r.num 1).2.take_size (r.num 1).1).1
    have h2 := r.num_lt 1
    unfold maxLen; omega
/-- The loop that fills the map. -/
def FillT (w0 : World) (bd : Nat) (acc : List DI) (iv : Value) (wr : World) : Prop :=
  ∃ j : Nat, iv = .int .i64 j ∧ j ≤ acc.length ∧ IMap encDE wr bd (dmap (acc.take j)) ∧ Keep (fun k => k = bd) w0 wr
set_option maxRecDepth 100000 in
set_option maxHeartbeats 2000000 in
theorem idecode_any {w : World} (b : ByteArray) (hb : b.size ≤ 100000) :
    Calls Try.prog 26 #[.string b] w (DecPost w b) := by
  have hx := m_alloc w (.cells #[.string b, .bool false] 92) w.heap.size rfl
  have hbw : Below w.heap.size w (w.alloc (.cells #[.string b, .bool false] 92)) := (Below.refl _ w).alloc (Nat.le_refl _) _
  have hmm := @run_makeMap Try.prog
  go_enter Try.func26, Try.ntmps26
  go_wp2_with fail
  obtain ⟨gr, hgr⟩ : ∃ gr, w.heap.size = gr := ⟨_, rfl⟩
  have HGR := Lib.hid hgr
  have hi0 : IRAt (w.alloc (.cells #[.string b, .bool false] 92)) gr ⟨b, false⟩ := by rw [← hgr]; exact hx
  rw [hgr]
  generalize (w.alloc (.cells #[.string b, .bool false] 92)) = w1 at *
  have HB1 := Lib.hid hbw
  have HC := Lib.hid (show decC b = wrap64 ((IR.mk b false).num 8).1 from rfl)
  have HS := Lib.hid (show decS b = sevP dirP (((IR.mk b false).num 8).2.num 2).1 (((IR.mk b false).num 8).2.num 2).2 from rfl)
  have hs1 := (IR.mk b false).num_size 8
  have HN := Lib.hid (inum_any 8 hi0 (show b.size ≤ maxLen by unfold maxLen; omega) (by decide))
  obtain ⟨a, ha⟩ : ∃ a, ((IR.mk b false).num 8).1 = a := ⟨_, rfl⟩
  obtain ⟨r1, hr1⟩ : ∃ r', ((IR.mk b false).num 8).2 = r' := ⟨_, rfl⟩
  rw [ha, hr1] at HN
  rw [ha] at HC
  rw [hr1] at HS hs1
  clear hx hgr hi0 ha hr1 hbw
  refine HN.out.mono ?_
  rintro e w2 ⟨rfl, hi2, hk2⟩
  have HI2 := Lib.hid hi2
  have HK2 := Lib.hid hk2
  clear hi2 hk2 HN
  go_wp2_with fail
  have him : IMap encDE (w2.alloc (.map #[] 0)) w2.heap.size [] := IMap.new w2
  have hbm : Below w2.heap.size w2 (w2.alloc (.map #[] 0)) := (Below.refl _ w2).alloc (Nat.le_refl _) _
  obtain ⟨bd, hbd⟩ : ∃ bd, w2.heap.size = bd := ⟨_, rfl⟩
  rw [hbd] at him ⊢
  have hi3 : IRAt (w2.alloc (.map #[] 0)) gr r1 := (hbm.block _ (m_lt HI2.out)).trans HI2.out
  have HGB := Lib.hid (show gr < bd ∧ w.heap.size ≤ bd from ⟨by have := m_lt HI2.out; omega, by have := HK2.out.size; have := HB1.out.size; omega⟩)
  have HB3 := Lib.hid ((HB1.out.trans (HK2.out.toBelow HB1.out.size (fun i q => by have := HGR.out; omega))).trans (hbm.mono (by have := HK2.out.size; have := HB1.out.size; omega)))
  generalize w2.alloc (.map #[] 0) = w3 at *
  have HIM := Lib.hid him
  have HSV := Lib.hid (isevd_any hi3 (show r1.b.size ≤ 100000 from Nat.le_trans hs1 hb))
  clear him hbm hi3 hbd hmm
  refine HSV.out.mono ?_
  rintro e w4 ⟨v, acc, rfl, hrow, hpl, hva, hal, hi4, hk4⟩
  obtain ⟨oa, oc, rfl⟩ := hrow.shape
  rw [← HS.out] at hpl hi4
  have HRW := Lib.hid hrow
  have HPL := Lib.hid hpl
  have HVA := Lib.hid hva
  have HI4 := Lib.hid hi4
  have HK4 := Lib.hid hk4
  have hbl3 : bd < w3.heap.size := HIM.out.lt
  have HIM4 := Lib.hid (HIM.out.keep hk4 (fun q => by have := HGB.out; omega))
  have HB4 := Lib.hid (HB3.out.trans (hk4.toBelow HB3.out.size (fun i q => by have := HGR.out; omega)))
  have HRb := Lib.hid (show ∀ k, (Value.slice oa acc.length oc).ownBlock = some k → k ≠ bd from fun k q e => by have := hrow.ge q; omega)
  have HVb := Lib.hid (show ∀ x ∈ acc, ∀ k, x.val.ownBlock = some k → k ≠ bd from fun x hx k q e => by have := (hva x hx).2 k q; omega)
  clear hrow hpl hva hi4 hk4 HSV HIM
  go_wp2_with fail
  go_loopw [23] (fun iv wr => FillT w4 bd acc iv wr) (fun iv _ => acc.length - (intOf iv).toNat)
  case atStart => exact ⟨0, rfl, Nat.zero_le _, HIM4.out, Keep.refl _ _⟩
  case round =>
    rename World => wr
    obtain ⟨j, rfl, hj, him, hk⟩ := hrel
    have HIMr := Lib.hid him
    have HKr := Lib.hid hk
    have HRr := Lib.hid (HRW.out.keep hk (fun i q => HRb.out i q))
    clear him hk
    by_cases hjt : j < acc.length
    · have j1 : (j : Int) < acc.length := by omega
      obtain ⟨x, hx⟩ : ∃ x, acc[j]? = some x := ⟨_, List.getElem?_eq_getElem hjt⟩
      obtain ⟨g1, o1, cap1, e1, hcs⟩ := HRr.out.arg.cells (by intro q; rw [q] at hx; simp at hx)
      simp only [Value.slice.injEq] at e1
      obtain ⟨rfl, -, rfl⟩ := e1
      have c0 : wr.cell? ⟨g1, o1 + j * 2, none⟩ = some (.int .i64 x.node) := hcs j x hx 0 (by decide)
      have c1 : wr.cell? ⟨g1, o1 + j * 2 + 1, none⟩ = some (.slice x.a x.l.length x.c) := hcs j x hx 1 (by decide)
      have HXX := Lib.hid (show acc.take (j + 1) = acc.take j ++ [x] from by rw [List.take_add_one, hx]; rfl)
      obtain ⟨w5, hrun, him5, hk5⟩ := (HIMr.out.keep ((Keep.refl (fun _ => False) wr).alloc (.cells #[.int .i64 x.node, .slice x.a x.l.length x.c] 98)) (fun q => q)).update (P := Try.prog) Try.underlying73 Try.underlying3 x.node (x.val, x.l)
      simp only [encDE, DI.val] at hrun
      have HIM5 := Lib.hid him5
      have HK5 := Lib.hid (HKr.out.trans (((Keep.refl (fun k => k = bd) wr).alloc _).trans hk5))
      clear hcs hx him5 hk5
      go_wp2_with fail
      exact ⟨⟨j + 1, by go_num, hjt, by rw [HXX.out, dmap_snoc]; exact HIM5.out, HK5.out⟩, by simp [intOf]; omega⟩
    · have ej : j = acc.length := by omega
      subst ej
      have j2 : ¬ ((acc.length : Int) < acc.length) := by omega
      rw [List.take_length] at HIMr
      have HBr := Lib.hid (HB4.out.trans (HKr.out.toBelow HB4.out.size (fun i q => by have := HGB.out; omega)))
      have HIr := Lib.hid (m_keep HI4.out HKr.out (fun q => by have := HGB.out; omega))
      have HMK := Lib.hid (tmake_any (cookie := wrap64 a) HIMr.out (fun y hy => by
        obtain ⟨x, hx, e⟩ := mem_dmap hy
        rw [e]; exact (HVA.out x hx).1.keep HKr.out (fun k q => HVb.out x hx k q)) (fun y hy => by
        obtain ⟨x, hx, e⟩ := mem_dmap hy
        rw [e]
        exact decS_small b (x.node, x.l) (by rw [← HPL.out]; exact List.mem_map_of_mem (f := DI.plain) hx)) (by have := dmap_len acc; omega) (by unfold wrap64; omega))
      have c2 : ∀ W, Below wr.heap.size wr W → W.cell? ⟨gr, 1, none⟩ = some (.bool (decS b).2.bad) := fun W hb => cell_later hb ((m_cells HIr.out).1 1)
      have HCR := Lib.hid c2
      clear c2
      go_wp2_with fail
      refine HMK.out.mono ?_
      rintro e w6 (⟨L, g, F, hti, hsy, rfl, htm, hF, hb6⟩ | ⟨hno, rfl, hb6⟩)
      · have HTI := Lib.hid hti
        have HSY := Lib.hid hsy
        have HTM := Lib.hid htm
        have HF := Lib.hid hF
        have HB6 := Lib.hid hb6
        have c2 := HCR.out w6 hb6
        clear hti hsy htm hF hb6 HMK
        obtain ⟨bad, hbad⟩ : ∃ x, (decS b).2.bad = x := ⟨_, rfl⟩
        rw [hbad] at c2
        have HBAD := Lib.hid hbad
        clear hbad
        have HENC := Lib.hid (fun (W : World) (hb : Below w6.heap.size w6 W) => iencode_any (HTM.out.below hb) HTI.out (show wrap64 a ≤ 9223372036854775807 by unfold wrap64; omega))
        cases bad
        · go_wp2_with fail
          refine (HENC.out w6 (Below.refl _ _)).mono ?_
          rintro r w7 ⟨rfl, hb7⟩
          have HB7 := Lib.hid (HB6.out.trans (hb7.mono HB6.out.size))
          have HTM7 := Lib.hid (HTM.out.below hb7)
          clear hb7
          by_cases e : bmk (imgB L (wrap64 a)) = b
          · have e1 : ((bmk (imgB L (wrap64 a))).toList == b.toList) = true := (bstr_eq_iff _ _).2 e
            have e2 : (imgB L (wrap64 a) == b.toList) = true := by simpa [bmk] using e1
            have HE := Lib.hid e
            clear e e1
            go_wp2_with fail
            go_ret2
            exact Or.inl ⟨L, wrap64 a, g, F, HTI.out, by unfold wrap64; omega, HE.out, rfl, HTM7.out, fun k q => Nat.le_trans HBr.out.size (HF.out k q), HBr.out.trans (HB7.out.mono HBr.out.size)⟩
          · have e1 : ((bmk (imgB L (wrap64 a))).toList == b.toList) = false := by rw [Bool.eq_false_iff]; exact fun q => e ((bstr_eq_iff _ _).1 q)
            have e2 : (imgB L (wrap64 a) == b.toList) = false := by simpa [bmk] using e1
            have HE := Lib.hid e
            clear e e1
            go_wp2_with fail
            go_ret2
            refine Or.inr ⟨fun L2 n2 h1 h2 h3 => ?_, rfl, HBr.out.trans (HB7.out.mono HBr.out.size)⟩
            obtain ⟨q1, q2, q3⟩ := dec_img h1 h2
            rw [h3] at q1 q2
            rw [HC.out] at q1
            rw [← HPL.out] at q2
            have hs2 := dmap_says h1 acc q2
            have := says_unique HIMr.out.nodup HTI.out h1 HSY.out hs2
            exact HE.out (by rw [this, q1]; exact h3)
        · go_wp2_with fail
          go_ret2
          refine Or.inr ⟨fun L2 n2 h1 h2 h3 => ?_, rfl, HBr.out.trans (HB6.out.mono HBr.out.size)⟩
          have q3 := (dec_img h1 h2).2.2
          rw [h3, HBAD.out] at q3
          cases q3
      · have HNO := Lib.hid hno
        have HB6 := Lib.hid hb6
        have c2 := HCR.out w6 hb6
        clear hno hb6 HMK
        obtain ⟨bad, hbad⟩ : ∃ x, (decS b).2.bad = x := ⟨_, rfl⟩
        rw [hbad] at c2
        clear hbad
        cases bad
        · go_wp2_with fail
          go_ret2
          refine Or.inr ⟨fun L2 n2 h1 h2 h3 => ?_, rfl, HBr.out.trans (HB6.out.mono HBr.out.size)⟩
          obtain ⟨q1, q2, q3⟩ := dec_img h1 h2
          rw [h3] at q1 q2
          rw [HC.out] at q1
          rw [← HPL.out] at q2
          exact HNO.out L2 (by rw [q1]; exact h1) (dmap_says h1 acc q2)
        · go_wp2_with fail
          go_ret2
          refine Or.inr ⟨fun L2 n2 h1 h2 h3 => ?_, rfl, HBr.out.trans (HB6.out.mono HBr.out.size)⟩
          obtain ⟨q1, q2, q3⟩ := dec_img h1 h2
          rw [h3] at q1 q2
          rw [HC.out] at q1
          rw [← HPL.out] at q2
          exact HNO.out L2 (by rw [q1]; exact h1) (dmap_says h1 acc q2)
end Go.Proofs.Ytolilbcpfdnkjaa
