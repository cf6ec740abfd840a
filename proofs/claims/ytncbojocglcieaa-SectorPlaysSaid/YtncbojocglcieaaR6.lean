/- sector's reference: Restart. -/
import Derived.Test.YtncbojocglcieaaR5
namespace Go.Proofs.Ytncbojocglcieaa
open Go.RowKit
set_option linter.unusedSimpArgs false
set_option linter.unusedVariables false
theorem mem_take_succ (kl : List Int) (x y : Int) (j : Nat) (hy : kl[j]? = some y) : decide (x ∈ kl.take (j + 1)) = (decide (x ∈ kl.take j) || (y == x)) := by
  obtain ⟨p1, p2⟩ := List.getElem?_eq_some_iff.1 hy
  rw [List.take_succ_eq_append_getElem p1, p2]
  by_cases h1 : x ∈ kl.take j
  · rw [decide_eq_true (List.mem_append_left _ h1), decide_eq_true h1]; rfl
  · rw [decide_eq_false h1, Bool.false_or]
    by_cases h2 : y = x
    · rw [h2, decide_eq_true (List.mem_append_right _ (List.mem_singleton.2 rfl))]; simp
    · rw [decide_eq_false (fun q => by rcases List.mem_append.1 q with q | q; exact h1 q; exact h2 (List.mem_singleton.1 q).symm)]
      exact (beq_eq_false_iff_ne.2 h2).symm
theorem RAt.setSafe {w : World} {g : Nat} {ev av dv : Value} {r : RefD} {gs n c : Nat} (h : RAt w g (.slice (some ⟨gs, 0, none⟩) n c) ev av dv r) (i : Nat) (b : ByteArray) : RAt (w.setCell ⟨gs, i, none⟩ (.string b)) g (.slice (some ⟨gs, 0, none⟩) n c) ev av dv { r with safe := r.safe.set i b } := by
  have hk : Keep (fun k => k = gs) w (w.setCell ⟨gs, i, none⟩ (.string b)) := (Keep.refl (fun k => k = gs) w).set gs i _ (Or.inl rfl)
  have hne : g ≠ gs := fun e => h.ngs (by rw [e]; rfl)
  exact ⟨m_set_ne h.blk gs i _ hne, h.safe.set1 rfl i b (.string b) rfl, h.seen.keep hk (fun j hj q => h.nse gs rfl (by rw [hj, q])), h.ats.keep hk (fun j hj q => h.nsa gs rfl (by rw [hj, q])), h.data.keep hk (fun j hj q => h.nsd gs rfl (by rw [hj, q])), h.ngs, h.nge, h.nga, h.ngd, h.nse, h.nsa, h.nsd, h.nea, h.ned, h.nad⟩
def keepR (kept : List Int) : Nat → List (Int × ByteArray) → List ByteArray → List ByteArray
  | _, [], s => s
  | i, p :: q, s => keepR kept (i + 1) q (if (i : Int) ∈ kept then s.set p.1.toNat p.2 else s)
theorem keepR_snoc (kept : List Int) (p : Int × ByteArray) : ∀ (q : List (Int × ByteArray)) (i : Nat) (s : List ByteArray),
    keepR kept i (q ++ [p]) s = (if ((i + q.length : Nat) : Int) ∈ kept then (keepR kept i q s).set p.1.toNat p.2 else keepR kept i q s) := by
  intro q
  induction q with
  | nil => intro i s; rfl
  | cons x q ih =>
    intro i s
    rw [List.cons_append, keepR, ih, keepR, show i + 1 + q.length = i + (x :: q).length from by simp; omega]
theorem keepR_length (kept : List Int) : ∀ (q : List (Int × ByteArray)) (i : Nat) (s : List ByteArray), (keepR kept i q s).length = s.length := by
  intro q
  induction q with
  | nil => intro i s; rfl
  | cons x q ih => intro i s; rw [keepR, ih]; split <;> simp
def RefD.kept (r : RefD) (kept : List Int) : List ByteArray := keepR kept 0 (r.at_.zip r.data) r.safe
def RefD.restart (r : RefD) (kept : List Int) : RefD := ⟨r.kept kept, r.kept kept, [], [], -1⟩
def rs (r : RefD) (kl : List Int) (i : Nat) : RefD := { r with safe := keepR kl 0 ((r.at_.zip r.data).take i) r.safe }
set_option maxRecDepth 100000 in
set_option maxHeartbeats 4000000 in
theorem do_restart {w : World} {g : Nat} {sv ev av dv : Value} {r : RefD} (o : OpD) (h : RAt w g sv ev av dv r) (kl : List Int) (hk : o.kind.toNat % 5 = 4) (hkl : ∀ w', Keep (rfoot g sv ev av dv) w w' → Arg EInt w' o.kv kl) (hkn : kl.length = o.kn) (hkm : o.kn ≤ 100) (hsl : r.safe.length ≤ 4096) (had : r.data.length = r.at_.length) (hal : r.at_.length ≤ 100000) (hat : ∀ a ∈ r.at_, 0 ≤ a ∧ a < r.safe.length) (hbs : o.b.size ≤ maxLen) :
    Calls Try.prog 29 #[.pointer (some ⟨g, 0, none⟩), .agg o.cells.toArray] w fun e w' => e = .returned (.tuple #[.string ⟨#[]⟩, .int .i64 0]) ∧ RStepped w (rfoot g sv ev av dv) g (r.restart kl) w' := by
  unfold maxLen at hbs
  unfold OpD.cells OpD.kv
  obtain ⟨q, hq⟩ : ∃ q, o.kind.toNat % 5 = q := ⟨_, rfl⟩
  have hk5 : (o.kind.toNat : Int) % 5 = q := by omega
  obtain ⟨sa, sc, rfl⟩ := h.safe.shape
  obtain ⟨ea, ec, rfl⟩ := h.seen.shape
  obtain ⟨aa, ac, rfl⟩ := h.ats.shape
  obtain ⟨da, dc, rfl⟩ := h.data.shape
  obtain ⟨c, f⟩ := m_cells h.blk
  have c1 : w.cell? ⟨g, 1, none⟩ = some (.slice ea r.seen.length ec) := c 1
  have c4 : w.cell? ⟨g, 4, none⟩ = some (.int .i64 r.left) := c 4
  have hgl := m_lt h.blk
  have hgn : ¬ (g = w.heap.size) := by omega
  have hgn2 : ¬ (w.heap.size = g) := by omega
  have hq1 : q = 4 := by omega
  subst hq1
  unfold OpD.kv at hkl
  have HKL := Lib.hid hkl
  have HAT := Lib.hid hat
  have H := Lib.hid h
  clear h c f hq hk hkl hat
  go_enter Try.func29, Try.ntmps29
  go_wp2_with fail
  go_quiet (fail)
  generalize hW1 : World.drewN _ nq = w1 at *
  have hb1 : Below w.heap.size w w1 := by rw [← hW1]; exact ((Below.refl _ w).alloc (Nat.le_refl _) _).trans ((qt_below (Qt.drewN _ nq)).mono (by simp))
  have hob : w1.heap[w.heap.size]? = some (.cells #[.int .u8 o.kind.toNat, .int .i64 o.i, .int .i64 o.n, .string o.b, .slice o.ka o.kn o.kc] 46 (0, 0)) := by rw [← hW1]; exact m_alloc w _ _ rfl
  have HB1 := Lib.hid hb1
  have HOB := Lib.hid hob
  clear hW1 hb1 hob
  have h1 := H.out.below HB1.out
  have H1 := Lib.hid h1
  clear h1 c1 c4
  have hgl1 := m_lt H1.out.blk
  obtain ⟨c', f'⟩ := m_cells H1.out.blk
  have c2' := c' 2
  clear c' f'
  go_wp2_with fail
  rw [show ((o.kind.toNat : Int) % 5) = 4 from hk5]
  clear hk5
  go_loopw [7] (fun iv wr => ∃ i : Nat, iv = .int .i64 i ∧ i ≤ r.at_.length ∧ RAt wr g (.slice sa r.safe.length sc) (.slice ea r.seen.length ec) (.slice aa r.at_.length ac) (.slice da r.data.length dc) (rs r kl i) ∧ Keep (fun k => (Value.slice sa r.safe.length sc).ownBlock = some k) w1 wr) (fun iv _ => r.at_.length - (intOf iv).toNat)
  case atStart => exact ⟨0, rfl, Nat.zero_le _, H1.out, Keep.refl _ _⟩
  case round =>
    obtain ⟨i, rfl, hi, hra, hkp⟩ := hrel
    have HRA := Lib.hid hra
    have HKP := Lib.hid hkp
    obtain ⟨c', f'⟩ := m_cells hra.blk
    have c0r : wr.cell? ⟨g, 0, none⟩ = some (.slice sa r.safe.length sc) := c' 0
    have c2r : wr.cell? ⟨g, 2, none⟩ = some (.slice aa r.at_.length ac) := c' 2
    have c3r : wr.cell? ⟨g, 3, none⟩ = some (.slice da r.data.length dc) := c' 3
    have hor := m_keep HOB.out hkp (fun e => by have := H.out.safe.lt e; omega)
    have HOR := Lib.hid hor
    have co4 : wr.cell? ⟨w.heap.size, 4, none⟩ = some (.slice o.ka o.kn o.kc) := (m_cells hor).1 4
    clear c' f' hra hkp hor c2'
    by_cases hlt : i < r.at_.length
    · have i1 : (i : Int) < r.at_.length := by omega
      have hkw : Keep (rfoot g (.slice sa r.safe.length sc) (.slice ea r.seen.length ec) (.slice aa r.at_.length ac) (.slice da r.data.length dc)) w wr := (keepBelow HB1.out).trans (HKP.out.mono (fun j q => Or.inl (Or.inr (Or.inl q))))
      have HARG := Lib.hid (HKL.out wr hkw)
      clear hkw
      go_wp2_with fail
      go_loopw [8, 9] (fun kv jv wx => ∃ j : Nat, jv = .int .i64 j ∧ j ≤ kl.length ∧ kv = .bool (decide ((i : Int) ∈ kl.take j)) ∧ wx = wr) (fun _ jv _ => kl.length - (intOf jv).toNat)
      case atStart => exact ⟨0, rfl, Nat.zero_le _, by simp, rfl⟩
      case round =>
        obtain ⟨j, rfl, hj, rfl, rfl⟩ := hrel
        by_cases hjl : j < kl.length
        · have j1 : (j : Int) < o.kn := by omega
          obtain ⟨y, hy⟩ : ∃ y, kl[j]? = some y := ⟨_, List.getElem?_eq_getElem hjl⟩
          obtain ⟨gk, ok, kk, ek, hck⟩ := HARG.out.cells (by intro q; rw [q] at hjl; simp at hjl)
          simp only [Value.slice.injEq] at ek
          obtain ⟨hka, hkn2, hkc⟩ := ek
          have cy : wr.cell? ⟨gk, ok + j, none⟩ = some (.int .i64 y) := by have := hck j y hy 0 (by decide); simpa [EInt] using this
          have hts := mem_take_succ kl (i : Int) y j hy
          have HTS := Lib.hid hts
          clear hts hck hy hkn2 hkc
          rw [hka] at co4 ⊢
          cases hb : decide ((i : Int) ∈ kl.take j)
          · rw [hb] at HTS
            have HTS := HTS
            cases hye : (y == (i : Int))
            · rw [hye] at HTS
              go_wp2_with fail
              exact ⟨⟨j + 1, by go_num, hjl, by rw [HTS.out]; rfl, trivial⟩, by simp [intOf]; omega⟩
            · rw [hye] at HTS
              go_wp2_with fail
              exact ⟨⟨j + 1, by go_num, hjl, by rw [HTS.out]; rfl, trivial⟩, by simp [intOf]; omega⟩
          · rw [hb] at HTS
            go_wp2_with fail
            exact ⟨⟨j + 1, by go_num, hjl, by rw [HTS.out]; rfl, trivial⟩, by simp [intOf]; omega⟩
        · have ej : j = kl.length := by omega
          subst ej
          have j1 : ¬ ((kl.length : Int) < o.kn) := by omega
          rw [List.take_length]
          obtain ⟨at1, ha1⟩ : ∃ x, r.at_[i]? = some x := ⟨_, List.getElem?_eq_getElem hlt⟩
          obtain ⟨dt1, hd1⟩ : ∃ x, r.data[i]? = some x := ⟨_, List.getElem?_eq_getElem (by omega)⟩
          obtain ⟨hat0, hat1⟩ := HAT.out at1 (List.mem_of_getElem? ha1)
          obtain ⟨am, rfl⟩ : ∃ m : Nat, at1 = m := ⟨at1.toNat, by omega⟩
          have hzip : (r.at_.zip r.data)[i]? = some ((am : Int), dt1) := by rw [List.getElem?_zip_eq_some]; exact ⟨ha1, hd1⟩
          have hsn : keepR kl 0 ((r.at_.zip r.data).take (i + 1)) r.safe = if (i : Int) ∈ kl then (keepR kl 0 ((r.at_.zip r.data).take i) r.safe).set am dt1 else keepR kl 0 ((r.at_.zip r.data).take i) r.safe := by
            obtain ⟨p1, p2⟩ := List.getElem?_eq_some_iff.1 hzip
            rw [List.take_succ_eq_append_getElem p1, p2, keepR_snoc, List.length_take, Nat.min_eq_left (by omega), Nat.zero_add]; rfl
          have hsl1 := keepR_length kl ((r.at_.zip r.data).take i) 0 r.safe
          have HSN := Lib.hid hsn
          clear hsn hzip
          cases hb : decide ((i : Int) ∈ kl)
          · go_wp2_with fail
            have hni : ¬ ((i : Int) ∈ kl) := of_decide_eq_false hb
            refine ⟨⟨i + 1, by go_num, hlt, ?_, HKP.out⟩, by simp [intOf]; omega⟩
            have := HRA.out
            unfold rs at this ⊢
            rw [HSN.out, if_neg hni]
            exact this
          · have hni : (i : Int) ∈ kl := of_decide_eq_true hb
            have HNI := Lib.hid hni
            clear hni
            have hsne : (rs r kl i).safe ≠ [] := by
              intro q
              have e0 : (keepR kl 0 ((r.at_.zip r.data).take i) r.safe).length = 0 := by
                have := congrArg List.length q
                exact this
              rw [hsl1] at e0
              omega
            obtain ⟨gs, sc', e1, _, _, _, _, hcs, hfs⟩ := HRA.out.safe.slice hsne
            simp only [Value.slice.injEq] at e1
            obtain ⟨rfl, -, rfl⟩ := e1
            obtain ⟨ga, ac', e2, _, _, _, _, hca, _⟩ := HRA.out.ats.slice (by intro q; have : r.at_ = [] := q; rw [this] at hlt; simp at hlt)
            simp only [Value.slice.injEq] at e2
            obtain ⟨rfl, -, rfl⟩ := e2
            obtain ⟨gd, dc', e3, _, _, _, _, hcd, _⟩ := HRA.out.data.slice (by intro q; have : r.data = [] := q; rw [this] at had; simp at had; omega)
            simp only [Value.slice.injEq] at e3
            obtain ⟨rfl, -, rfl⟩ := e3
            have ca : wr.cell? ⟨ga, i, none⟩ = some (.int .i64 am) := by have := hca i am ha1 0 (by decide); simpa [EInt] using this
            have cd : wr.cell? ⟨gd, i, none⟩ = some (.string dt1) := by have := hcd i dt1 hd1 0 (by decide); simpa [EStr] using this
            obtain ⟨os, hos⟩ : ∃ x, (rs r kl i).safe[am]? = some x := ⟨_, List.getElem?_eq_getElem (by unfold rs; simp only []; rw [hsl1]; omega)⟩
            have cs : wr.cell? ⟨gs, am, none⟩ = some (.string os) := by have := hcs am os hos 0 (by decide); simpa [EStr] using this
            have fs := hfs am
            have a1 : (0 : Int) ≤ am := by omega
            have a2 : (am : Int) < r.safe.length := by omega
            have a3 : (i : Int) < r.data.length := by omega
            have hset := (HRA.out.setSafe am dt1).below (Below.drew (Below.refl _ _))
            have hkset := ((HKP.out.set gs am (.string dt1) (Or.inl rfl)).drew)
            have HSET := Lib.hid hset
            have HKS := Lib.hid hkset
            clear hcs hfs hca hcd ha1 hd1 hos hset hkset
            go_wp2_with fail
            go_region
            generalize hW2 : World.drew _ = w2 at *
            go_wp2_with fail
            refine ⟨⟨i + 1, by go_num, hlt, ?_, HKS.out⟩, by simp [intOf]; omega⟩
            have := HSET.out
            unfold rs at this ⊢
            rw [HSN.out, if_pos HNI.out]
            exact this
    · have ei : i = r.at_.length := by omega
      subst ei
      have i1 : ¬ ((r.at_.length : Int) < r.at_.length) := by omega
      have hrs : RAt wr g (.slice sa r.safe.length sc) (.slice ea r.seen.length ec) (.slice aa r.at_.length ac) (.slice da r.data.length dc) { r with safe := r.kept kl } := by
        have := HRA.out
        unfold rs at this
        rw [List.take_of_length_le (by rw [List.length_zip]; omega)] at this
        exact this
      have hkl1 : (r.kept kl).length = r.safe.length := keepR_length kl _ 0 r.safe
      have HRS := Lib.hid hrs
      have hgl2 := m_lt hrs.blk
      have hgl3 : ¬ (g = wr.heap.size) := by omega
      have hgl4 : ¬ (wr.heap.size = g) := by omega
      obtain ⟨c', f'⟩ := m_cells hrs.blk
      have f0' := f' 0
      have f1' := f' 1
      have f2' := f' 2
      have f3' := f' 3
      have f4' := f' 4
      have c4' : wr.cell? ⟨g, 4, none⟩ = some (.int .i64 r.left) := c' 4
      have c1' : wr.cell? ⟨g, 1, none⟩ = some (.slice ea r.seen.length ec) := c' 1
      clear hrs c' f'
      go_wp2_with (first
        | (refine app_row EStr.laid rfl _ _ 49 49 Try.underlying49 Try.underlying49 rfl (.slice (some ⟨wr.heap.size, 0, none⟩) 0 0) [] rfl (Row.new (E := EStr) wr wr.heap.size #[] [] (Nat.le_refl _) rfl (by decide)) (.slice sa r.safe.length sc) (r.kept kl) rfl ((HRS.out.safe.alloc _).arg) ?e7 ?e8 (by simp) ?_
           case e7 => (show (0 + (r.kept kl).length) * 16 ≤ _; omega)
           case e8 => (show 0 + (r.kept kl).length ≤ maxLen; unfold maxLen; omega)
           intro v3 w3 hr3 hv3 k3
           rw [List.nil_append] at hr3
           obtain ⟨v3a, v3c, rfl⟩ := hr3.shape
           have hkk : Keep (fun _ => False) wr w3 := ((Keep.refl _ wr).alloc _).trans' k3 (fun i q => Or.inr (by simp [Value.ownBlock] at q; omega))
           have H3 := Lib.hid (HRS.out.keep hkk (fun _ _ q => q))
           obtain ⟨c'', f''⟩ := m_cells H3.out.blk
           have c0'' := c'' 0
           have c1'' := c'' 1
           have c2'' := c'' 2
           have c3'' := c'' 3
           have c4'' := c'' 4
           have f0'' := f'' 0
           have f1'' := f'' 1
           have f2'' := f'' 2
           have f3'' := f'' 3
           have f4'' := f'' 4
           clear c'' f''))
      go_ret2
      obtain ⟨wf, hwf⟩ : ∃ x, (((w3.setCell ⟨g, 1, none⟩ (.slice v3a r.safe.length v3c)).setCell ⟨g, 2, none⟩ (.slice none 0 0)).setCell ⟨g, 3, none⟩ (.slice none 0 0)).setCell ⟨g, 4, none⟩ (.int .i64 (-1)) = x := ⟨_, rfl⟩
      have hgf : Keep (fun k => k = g) w3 wf := by
        rw [← hwf]
        exact ((((Keep.refl (fun k => k = g) w3).set g 1 _ (Or.inl rfl)).set g 2 _ (Or.inl rfl)).set g 3 _ (Or.inl rfl)).set g 4 _ (Or.inl rfl)
      have hblk : wf.heap[g]? = some (.cells #[.slice sa r.safe.length sc, .slice v3a r.safe.length v3c, .slice none 0 0, .slice none 0 0, .int .i64 (-1)] 51 (0, 0)) := by
        rw [← hwf]
        have := m_set (m_set (m_set (m_set H3.out.blk 1 (.slice v3a r.safe.length v3c)) 2 (.slice none 0 0)) 3 (.slice none 0 0)) 4 (.int .i64 (-1))
        simpa using this
      have hr3' : Row EStr w3 0 (.slice v3a r.safe.length v3c) (r.kept kl) := by
        have := hr3.mono (Nat.zero_le _)
        rw [hkl1] at this
        exact this
      have hsg : ∀ k, (Value.slice v3a r.safe.length v3c).ownBlock = some k → wr.heap.size ≤ k := fun k q => hr3.ge (k := k) (by rw [hkl1]; exact q)
      have hsl2 : ∀ k, (Value.slice sa r.safe.length sc).ownBlock = some k → k < wr.heap.size := fun k q => HRS.out.safe.lt q
      have hfin : RAt wf g (.slice sa r.safe.length sc) (.slice v3a r.safe.length v3c) (.slice none 0 0) (.slice none 0 0) (r.restart kl) :=
        ⟨hblk, H3.out.safe.keep hgf (fun i hi q => H3.out.ngs (by rw [hi, q])), hr3'.keep hgf (fun i hi q => by have := hsg i hi; omega), Row.nil _ _ _, Row.nil _ _ _, HRS.out.ngs, fun e => by have := hsg g e; omega, own_nil _ _ _, own_nil _ _ _, fun k q e => by have := hsg k e; have := hsl2 k q; omega, fun k q => own_nil _ _ _, fun k q => own_nil _ _ _, fun k q => own_nil _ _ _, fun k q => own_nil _ _ _, fun k q => own_nil _ _ _⟩
      rw [hwf]
      have hz1 := HB1.out.size
      have hz2 := HKP.out.size
      exact ⟨rfl, RStepped.mk' hfin ((((keepBelow HB1.out).trans (HKP.out.mono (fun i q => Or.inl (Or.inr (Or.inl q))))).trans (hkk.mono (fun i q => q.elim))).trans (hgf.mono (fun i q => Or.inl (Or.inl q)))) (Or.inl (Or.inl rfl)) (fun k q => Or.inl (Or.inr (Or.inl q))) (fun k q => Or.inr (by have := hsg k q; omega)) (fun k q => absurd q (own_nil _ _ _)) (fun k q => absurd q (own_nil _ _ _))⟩
end Go.Proofs.Ytncbojocglcieaa
