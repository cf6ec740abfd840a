/- Lemmas for the laws of one seat, texts P23 RowU RowRk R1 W1 RowN RowOp RowOpV; no condition beyond those that each states. -/
import Derived.Test.YtncbojocglcieaaVV10
import Derived.ProofKit
import Derived.OpenShut
import Derived.Deep.Slices
import Derived.Lib.SmallJoins
import Derived.Deep.Fields
import Derived.ChangeSame
import Derived.ChangeArms
/- vault: Renew, Open and Format, wherever power goes; in plain Lean. -/
namespace Go.Proofs.Ytncbojocglcieaa
open Go.RowKit
set_option linter.unusedSimpArgs false
set_option linter.unusedVariables false
/-- Renew, wherever power goes. -/
structure RenOut (N : Nat) (D : DevD) (v : VaultD) (m0 : Nat) (all : List ByteArray) (r : ByteArray) (v' : VaultD) (D' : DevD) (E : Int) : Prop where
  left : D'.left ≤ D.left ∧ (D.left = -1 → D'.left = -1)
  queue : D'.queue.length ≤ D.queue.length + 6000
  out : (E = fitsErr v.s2 1 r.size ∧ E ≠ 0 ∧ v' = v ∧ D' = D) ∨
    (fitsErr v.s2 1 r.size = 0 ∧ Rok r ∧
      ((E = 0 ∧ v' = v.renewed r ∧ Vlt N D' v' 0 [] none ∧ D'.queue = []) ∨ (E = 13 ∧ D.left ≠ -1 ∧ v' = v.done 13 ∧ Vlt N D' v' m0 all (some r))))
theorem hdr0_ep {S : Int → ByteArray} {f : Int} (h : S f = hdrB 0) : epS S f = 0 := epS_hdr h (by decide)
theorem Vlt.renew {N m0 : Nat} {D : DevD} {v : VaultD} {all : List ByteArray} {fr : Option ByteArray} (h : Vlt N D v m0 all fr) (hv : v.over = false) (hep : v.ep < 9223372036854775808) (r : ByteArray) :
    RenOut N D v m0 all r (v.renew D r).1 (v.renew D r).2.1 (v.renew D r).2.2 := by
  obtain ⟨rfl, l2, l3, l4⟩ := h.live hv
  unfold VaultD.renew
  rw [if_neg (by rw [hv]; decide)]
  by_cases hF : fitsErr v.s2 1 r.size ≠ 0
  · rw [if_pos hF]
    exact ⟨⟨Int.le_refl _, id⟩, Nat.le_add_right _ _, Or.inl ⟨rfl, hF, rfl, rfl⟩⟩
  rw [if_neg hF, if_neg (by omega)]
  have hF0 : fitsErr v.s2 1 r.size = 0 := by simpa using hF
  obtain ⟨f1, f2, f3⟩ := fits_zero hF0
  have g := h.geo
  obtain ⟨g1, g2, g3, g4, g5, g6⟩ := g.apart
  rw [g.s.2] at f3
  have hsz := h.size
  have hN := g.n
  -- power is gone at once
  by_cases hl : D.left = 0
  · have hb : D.begin v.f2 v.s2 r (v.ep + 1) = (D, 13) := by
      unfold DevD.begin
      rw [seq_cons]
      rcases setE_gen D v.f2 0 g3 (by rw [hsz]; omega) with ⟨a1, a2⟩ | ⟨a1, a2⟩
      · rw [a2, if_neg (by simp)]
      · exact absurd hl a1
    rw [hb, if_pos (by simp)]
    refine ⟨⟨Int.le_refl _, id⟩, Nat.le_add_right _ _, Or.inr ⟨hF0, ⟨f1, f2⟩, Or.inr ⟨rfl, by omega, rfl, ?_⟩⟩⟩
    refine ⟨g.like rfl rfl rfl rfl rfl, hsz, h.left, h.ok, h.hm, h.fits, fun x q => ?_, fun S hS => ?_, fun q => by simp [VaultD.done] at q, fun _ => hl⟩
    · cases q; exact ⟨⟨f1, f2⟩, by omega⟩
    · rcases h.crash S hS with q | ⟨x, q, _⟩
      · exact Or.inl (q.like rfl rfl rfl rfl)
      · cases q
  have hO := l4 hl
  rw [g.s.2]
  have hB := begin_gen D v.f2 (N / 2) r (v.ep + 1) g3 (by rw [hsz]; exact g5) (by omega) (by rw [hsz]; omega) f1 f2 (by omega) h.left
  generalize D.begin v.f2 ((N / 2 : Nat) : Int) r (v.ep + 1) = P at *
  obtain ⟨D', E⟩ := P
  simp only at hB ⊢
  obtain ⟨b1, b2, b3, b4⟩ := hB
  have outside : ∀ i, v.f ≤ i → i < v.f + ((N / 2 : Nat) : Int) → i < v.f2 ∨ v.f2 + ((N / 2 : Nat) : Int) ≤ i := by intro i i1 i2; omega
  rcases b4 with ⟨rfl, q1, q2, q3, q4, q5, q6⟩ | ⟨rfl, q1, q2⟩
  · rw [if_neg (by decide)]
    refine ⟨⟨b2.2.1, fun q => (b2.2.2 q).1⟩, b3, Or.inr ⟨hF0, ⟨f1, f2⟩, Or.inl ⟨rfl, rfl, ?_, q1⟩⟩⟩
    have hfr : frs (r :: ([] : List ByteArray)) = cutL r.data.toList := frs_one r
    have hnew : SOld N (v.renewed r) 0 [] D'.sec := by
      refine ⟨fun i => ?_, epS_hdr (n := v.ep + 1) q4 (by omega), ?_, ?_⟩
      · by_cases e : i < v.f2 ∨ v.f2 + ((N / 2 : Nat) : Int) ≤ i
        · rw [q3 i e]; exact hO.good i
        · by_cases e2 : i = v.f2
          · rw [e2, q4]; exact hdrB_size _
          · exact q6 i (by omega) (by omega)
      · show epS D'.sec v.f < v.ep + 1
        have : epS D'.sec v.f = v.ep := by unfold epS; rw [q3 _ (outside v.f (Int.le_refl _) (by omega))]; exact hO.e1
        omega
      · show Std D'.sec v.f2 (N / 2) (frs (r :: [])) (frs (r :: [])).length
        rw [hfr, cut_len]; exact q5
    refine ⟨⟨hN, ⟨g.s.2, g.s.1⟩, ?_, by show 1 ≤ v.ep + 1; omega⟩, by rw [b1, hsz], b2.1, fun x hx => ?_, Nat.zero_le _, ?_, fun x q => (by cases q), fun S hS => Or.inl ?_, fun _ => ⟨rfl, rfl, ?_, fun _ => hnew⟩, fun q => ?_⟩
    · rcases g.pos with ⟨p, q⟩ | ⟨p, q⟩
      · exact Or.inr ⟨q, p⟩
      · exact Or.inl ⟨q, p⟩
    · have hx' : x ∈ r :: ([] : List ByteArray) := hx
      rw [List.mem_singleton] at hx'
      rw [hx']; exact ⟨f1, f2⟩
    · show (frs (r :: [])).length + 1 ≤ N / 2
      rw [hfr, cut_len]; omega
    · have : S = D'.sec := funext ((q2 S).1 hS)
      rw [this]; exact hnew
    · show 1 + ((nframes r.size : Nat) : Int) = ((1 + (frs (r :: [])).length : Nat) : Int)
      rw [hfr, cut_len]; omega
    · have q' : v.over = true := q
      rw [hv] at q'; cases q'
  · rw [if_pos (by decide)]
    refine ⟨⟨b2.2.1, fun q => (b2.2.2 q).1⟩, b3, Or.inr ⟨hF0, ⟨f1, f2⟩, Or.inr ⟨rfl, fun q => ?_, rfl, ?_⟩⟩⟩
    · have := (b2.2.2 q).2
      cases this
    refine ⟨g.like rfl rfl rfl rfl rfl, by rw [b1, hsz], b2.1, h.ok, h.hm, h.fits, fun x q => ?_, fun S hS => ?_, fun q => by simp [VaultD.done] at q, fun _ => q1⟩
    · cases q; exact ⟨⟨f1, f2⟩, by omega⟩
    · rcases q2 S hS with ⟨S0, h0, hout, hf, hin⟩ | ⟨hout, hf, hstd, hin⟩
      · left
        have hO0 : SOld N v m0 all S0 := by
          rcases h0 with h0 | h0
          · rcases h.crash S0 h0 with q | ⟨x, q, _⟩
            · exact q
            · cases q
          · have : S0 = D.sec := funext h0
            rw [this]; exact hO.weak h.hm
        refine SOld.like (v := v) ⟨fun i => ?_, ?_, ?_, ?_⟩ rfl rfl rfl rfl
        · by_cases e : i < v.f2 ∨ v.f2 + ((N / 2 : Nat) : Int) ≤ i
          · rw [hout i e]; exact hO0.good i
          · by_cases e2 : i = v.f2
            · rw [e2]
              rcases hf with hf | hf
              · rw [hf]; exact hO0.good _
              · rw [hf]; exact hdrB_size _
            · rcases hin i (by omega) (by omega) with q | q
              · rw [q]; exact hO0.good i
              · exact q
        · unfold epS; rw [hout _ (outside v.f (Int.le_refl _) (by omega))]; exact hO0.e1
        · rcases hf with hf | hf
          · unfold epS; rw [hf]; exact hO0.e2
          · rw [hdr0_ep hf]; exact g.ep
        · exact std_congr hO0.std fun i i1 i2 => hout i (outside i (by omega) i2)
      · have hgood : ∀ i, (S i).size = 64 := by
          intro i
          by_cases e : i < v.f2 ∨ v.f2 + ((N / 2 : Nat) : Int) ≤ i
          · rw [hout i e]; exact hO.good i
          · by_cases e2 : i = v.f2
            · rw [e2]
              rcases hf with hf | hf <;> rw [hf] <;> exact hdrB_size _
            · exact hin i (by omega) (by omega)
        have he1 : epS S v.f = v.ep := by unfold epS; rw [hout _ (outside v.f (Int.le_refl _) (by omega))]; exact hO.e1
        rcases hf with hf | hf
        · left
          refine SOld.like (v := v) ⟨hgood, he1, by rw [hdr0_ep hf]; exact g.ep, ?_⟩ rfl rfl rfl rfl
          exact std_congr (hO.weak h.hm).std fun i i1 i2 => hout i (outside i (by omega) i2)
        · right
          exact ⟨r, rfl, hgood, he1, epS_hdr (n := v.ep + 1) hf (by omega), hstd⟩
/-- Open, where power stays. -/
theorem open_gen {N : Nat} {D : DevD} {f f2 : Int} {x : ByteArray} {rs : List ByteArray} (hn : 4 ≤ N ∧ N ≤ 4096) (hs : D.size = N) (hl : D.left = -1) (h64 : ∀ i, (D.sec i).size = 64)
    (hp : (f = 0 ∧ f2 = ((N / 2 : Nat) : Int)) ∨ (f = ((N / 2 : Nat) : Int) ∧ f2 = 0)) (he : epS D.sec f2 < epS D.sec f) (hsc : (scanned ((secsF D.sec f (N / 2)).drop 1)).1 = lis (x :: rs)) :
    ∃ D' v', D.openV = (some v', D', 0) ∧ Vlt N D' v' rs.length rs none ∧ v'.img = x ∧ v'.recs = rs ∧ v'.over = false ∧ v'.ep = epS D.sec f ∧ D'.left = -1 ∧ D'.queue = [] ∧ v'.s = ((N / 2 : Nat) : Int) ∧ v'.s2 = ((N / 2 : Nat) : Int) ∧ v'.f = f ∧ v'.f2 = f2 := by
  have hh : ((D.size : Nat) : Int) / 2 = ((N / 2 : Nat) : Int) := by rw [hs]; omega
  have hfst : D.fst = ⟨f, ((N / 2 : Nat) : Int), f2, ((N / 2 : Nat) : Int), epS D.sec f, 0, ⟨#[]⟩, [], false⟩ := by
    unfold DevD.fst
    rw [hh]
    rcases hp with ⟨rfl, rfl⟩ | ⟨rfl, rfl⟩
    · have : ¬ D.epo 0 < D.epo ((N / 2 : Nat) : Int) := by unfold DevD.epo; unfold epS at he; omega
      rw [if_neg this]; rfl
    · have : D.epo 0 < D.epo ((N / 2 : Nat) : Int) := he
      rw [if_pos this]; rfl
  have hf0 : 0 ≤ f ∧ f + ((N / 2 : Nat) : Int) ≤ N ∧ 0 ≤ f2 ∧ f2 + ((N / 2 : Nat) : Int) ≤ N ∧ (f + ((N / 2 : Nat) : Int) ≤ f2 ∨ f2 + ((N / 2 : Nat) : Int) ≤ f) ∧ 2 ≤ N / 2 := by rcases hp with ⟨rfl, rfl⟩ | ⟨rfl, rfl⟩ <;> omega
  have hon : D.on f ((N / 2 : Nat) : Int) = true := by unfold DevD.on; rw [decide_eq_true_eq, hs]; omega
  have hF64 : ∀ y ∈ (secsF D.sec f (N / 2)).drop 1, y.size = 64 := by
    intro y hy
    have := List.mem_of_mem_drop hy
    unfold secsF at this
    obtain ⟨i, _, rfl⟩ := List.mem_map.1 this
    exact h64 _
  have hlen : ((secsF D.sec f (N / 2)).drop 1).length = N / 2 - 1 := by rw [List.length_drop, secsF_length]
  obtain ⟨r1, r2, r3⟩ := scanned_recs _ _ (Nat.le_refl _) hF64
  have hle := scanned_le _ _ (Nat.le_refl _) hF64
  rw [hlen] at hle
  obtain ⟨m, hm⟩ : ∃ m, (scanned ((secsF D.sec f (N / 2)).drop 1)).2 = m := ⟨_, rfl⟩
  rw [hm] at r1 hle
  rw [hsc] at r1 r2
  have hrl : (frs (x :: rs)).length = m := by show ((lis (x :: rs)).flatMap cutL).length = m; rw [r1, List.length_take, hlen]; omega
  have hscn : D.scn = (lis (x :: rs), ((1 + m : Nat) : Int), 0) := by
    unfold DevD.scn DevD.scan
    rw [hfst]
    simp only
    rw [if_neg (by rw [hl]; decide), if_neg (by rw [hon]; decide)]
    show ((scanned ((secsF D.sec f (N / 2)).drop 1)).1, ((1 + (scanned ((secsF D.sec f (N / 2)).drop 1)).2 : Nat) : Int), (0 : Int)) = _
    rw [hsc, hm]
  obtain ⟨Q, w1, w2, w3, w4⟩ := wipe_gen D f (N / 2) (1 + m) hf0.1 (by rw [hs]; exact hf0.2.1) (by omega) (by omega) (by omega)
  have hwip : D.wip = D.wipe f ((N / 2 : Nat) : Int) ((1 + m : Nat) : Int) := by unfold DevD.wip; rw [hfst, hscn]
  have hmay : D.mayErr = 0 := by unfold DevD.mayErr; rw [if_neg (by rw [hl]; decide), if_neg (by omega)]
  rcases w4 with ⟨w4, w5⟩ | ⟨_, _, q⟩
  rotate_left
  · exact absurd hl q
  rw [← hwip] at w1 w4 w5
  have hl2 : D.wip.1.left = -1 := w1.left.2.2 hl
  have hfl : D.wip.1.fl = (D.wip.1.flush, 0) := by
    rcases fl_gen D.wip.1 with ⟨q, _⟩ | ⟨_, q⟩
    · rw [hl2] at q; cases q
    · exact q
  have hok : ∀ r ∈ x :: rs, Rok r := by
    intro r hr
    have : r.data.toList ∈ lis (x :: rs) := by unfold lis; exact List.mem_map_of_mem hr
    obtain ⟨u1, u2⟩ := r2 _ this
    have hl' : r.data.toList.length = r.size := by rw [Array.length_toList]; rfl
    exact ⟨fun e => u1 (List.eq_nil_of_length_eq_zero (by omega)), by omega⟩
  have hx1 : bL x.data.toList = x := by simp [bL]
  refine ⟨D.wip.1.flush, { D.fst with at_ := ((1 + m : Nat) : Int), img := x, recs := rs }, ?_, ?_, rfl, rfl, by rw [hfst], by rw [hfst], hl2, rfl, by rw [hfst], by rw [hfst], by rw [hfst], by rw [hfst]⟩
  · unfold DevD.openV
    rw [if_neg (by rw [hmay]; decide), if_neg, if_neg (by rw [w4]; decide), hfl, hscn]
    · simp only [lis, List.map_cons, List.headD_cons, List.tail_cons]
      rw [hx1]
      have : (rs.map fun r => r.data.toList).map bL = rs := lis_bL rs
      rw [this]
    · rw [hscn, hfst]
      rintro (q | q)
      · simp only at q; omega
      · simp [lis] at q
  · rw [hfst]
    have hO : SOld N { (⟨f, ((N / 2 : Nat) : Int), f2, ((N / 2 : Nat) : Int), epS D.sec f, 0, ⟨#[]⟩, [], false⟩ : VaultD) with at_ := ((1 + m : Nat) : Int), img := x, recs := rs } rs.length rs D.wip.1.flush.sec := by
      have hsec : ∀ i, D.wip.1.flush.sec i = if f + ((1 + m : Nat) : Int) ≤ i ∧ i < f + ((N / 2 : Nat) : Int) then zsec else D.sec i := fun i => w5 i
      refine ⟨fun i => ?_, ?_, ?_, ?_⟩
      · rw [hsec]; split
        · exact zsec_size
        · exact h64 i
      · show epS D.wip.1.flush.sec f = epS D.sec f
        unfold epS; rw [hsec, if_neg (by omega)]
      · show epS D.wip.1.flush.sec f2 < epS D.sec f
        have : epS D.wip.1.flush.sec f2 = epS D.sec f2 := by unfold epS; rw [hsec, if_neg (by omega)]
        rw [this]; exact he
      · show Std D.wip.1.flush.sec f (N / 2) (frs (x :: rs)) (frs (x :: rs.take rs.length)).length
        rw [List.take_length]
        intro p hp'
        left
        rw [hsec]
        by_cases e : p < m
        · rw [if_neg (by omega)]
          have h1 : (frs (x :: rs))[p]? = some (D.sec (f + ((p + 1 : Nat) : Int))) := by
            show ((lis (x :: rs)).flatMap cutL)[p]? = _
            rw [r1, List.getElem?_take_of_lt e, List.getElem?_drop, secsF_get _ _ _ _ (by omega), show 1 + p = p + 1 from by omega]
          rw [List.getD_eq_getElem?_getD, h1]; rfl
        · rw [if_pos (by omega), List.getD_eq_getElem?_getD, List.getElem?_eq_none (by omega)]; rfl
    refine ⟨⟨hn, ⟨rfl, rfl⟩, hp, by show 1 ≤ epS D.sec f; omega⟩, by show D.wip.1.size = N; rw [w1.size, hs], by show -1 ≤ D.wip.1.left; omega, hok, Nat.le_refl _, by show (frs (x :: rs)).length + 1 ≤ N / 2; omega, fun y q => (by cases q), fun S hS => Or.inl ?_, fun _ => ⟨rfl, rfl, ?_, fun _ => hO⟩, fun q => by cases q⟩
    · have : S = D.wip.1.flush.sec := funext ((cr_flush D.wip.1 S).1 hS)
      rw [this]; exact hO
    · show ((1 + m : Nat) : Int) = ((1 + (frs (x :: rs)).length : Nat) : Int)
      rw [hrl]
theorem VaultD.eq {a b : VaultD} (h1 : a.f = b.f) (h2 : a.s = b.s) (h3 : a.f2 = b.f2) (h4 : a.s2 = b.s2) (h5 : a.ep = b.ep) (h6 : a.at_ = b.at_) (h7 : a.img = b.img) (h8 : a.recs = b.recs) (h9 : a.over = b.over) : a = b := by
  cases a; cases b; simp only at *; subst h1 h2 h3 h4 h5 h6 h7 h8 h9; rfl
/-- A vault that is opened anew, where power stayed. -/
theorem Vlt.reopen {N m0 : Nat} {D : DevD} {v : VaultD} {all : List ByteArray} {fr : Option ByteArray} (h : Vlt N D v m0 all fr) (hv : v.over = false) (hl : D.left = -1) :
    ∃ D', D.openV = (some v, D', 0) ∧ Vlt N D' v all.length all none ∧ D'.left = -1 ∧ D'.queue = [] ∧ ∀ i, (D.sec i).size = 64 := by
  obtain ⟨rfl, l2, l3, l4⟩ := h.live hv
  have hO := l4 (by omega)
  obtain ⟨j, h1, h2, h3⟩ := hO.scan (Nat.le_refl _) h.fits h.ok
  have hj : j = all.length := by omega
  subst hj
  rw [List.take_length] at h3
  obtain ⟨D', v', o1, o2, o3, o4, o5, o6, o7, o8, o9, o10, o11, o12⟩ := open_gen h.geo.n h.size hl hO.good h.geo.pos (by rw [hO.e1]; exact hO.e2) h3
  rw [hO.e1] at o6
  have hat := (o2.live o5).2.2.1
  have e : v' = v := VaultD.eq o11 (by rw [o9, h.geo.s.1]) o12 (by rw [o10, h.geo.s.2]) o6 (by rw [hat, l3, o3]) o3 (by rw [o4, l2]) (by rw [o5, hv])
  subst e
  exact ⟨D', o1, o2, o7, o8, hO.good⟩
/-- A vault that is opened behind a restart. -/
theorem Vlt.crash_open {N m0 : Nat} {D : DevD} {v : VaultD} {all : List ByteArray} {fr : Option ByteArray} (h : Vlt N D v m0 all fr) (kept : List Int) :
    ∃ D' v', (D.restart kept).openV = (some v', D', 0) ∧ D'.left = -1 ∧ D'.queue = [] ∧ v'.over = false ∧ v'.s = ((N / 2 : Nat) : Int) ∧ v'.s2 = ((N / 2 : Nat) : Int) ∧ (∀ i, ((D.restart kept).sec i).size = 64) ∧
      ((v'.img = v.img ∧ v'.ep = v.ep ∧ ∃ j, m0 ≤ j ∧ j ≤ all.length ∧ v'.recs = all.take j ∧ Vlt N D' v' j (all.take j) none) ∨
       (∃ x, fr = some x ∧ v'.img = x ∧ v'.ep = v.ep + 1 ∧ v'.recs = [] ∧ Vlt N D' v' 0 [] none)) := by
  rcases h.crash _ (cr_sec_restart D kept) with hO | ⟨x, hx, hN⟩
  · obtain ⟨j, h1, h2, h3⟩ := hO.scan h.hm h.fits h.ok
    obtain ⟨D', v', o1, o2, o3, o4, o5, o6, o7, o8, o9, o10, o11, o12⟩ := open_gen (D := D.restart kept) h.geo.n (by show D.size = N; exact h.size) rfl hO.good h.geo.pos (by rw [hO.e1]; exact hO.e2) h3
    rw [hO.e1] at o6
    have hjl : (all.take j).length = j := by rw [List.length_take]; omega
    rw [hjl] at o2
    exact ⟨D', v', o1, o7, o8, o5, o9, o10, hO.good, Or.inl ⟨o3, o6, j, h1, h2, o4, o2⟩⟩
  · obtain ⟨hxr, hxf⟩ := h.fresh x hx
    have h3 := hN.scan hxr hxf
    have hpos : (v.f2 = 0 ∧ v.f = ((N / 2 : Nat) : Int)) ∨ (v.f2 = ((N / 2 : Nat) : Int) ∧ v.f = 0) := by
      rcases h.geo.pos with ⟨p, q⟩ | ⟨p, q⟩
      · exact Or.inr ⟨q, p⟩
      · exact Or.inl ⟨q, p⟩
    obtain ⟨D', v', o1, o2, o3, o4, o5, o6, o7, o8, o9, o10, o11, o12⟩ := open_gen (D := D.restart kept) h.geo.n (by show D.size = N; exact h.size) rfl hN.good hpos (by rw [hN.e1, hN.e2]; omega) h3
    rw [hN.e2] at o6
    exact ⟨D', v', o1, o7, o8, o5, o9, o10, hN.good, Or.inr ⟨x, hx, o3, o6, o4, o2⟩⟩
/-- Format, where power stays, and what is opened behind it. -/
theorem format_gen {N : Nat} {D : DevD} (hn : 4 ≤ N ∧ N ≤ 4096) (hs : D.size = N) (hl : D.left = -1) (h64 : ∀ i, (D.sec i).size = 64) (r : ByteArray) (hr : Rok r) (hf : 1 + nframes r.size ≤ N / 2) :
    ∃ D1, D.format r = (D1, 0) ∧ D1.left = -1 ∧ D1.size = N ∧ D1.queue = [] ∧ (∀ i, (D1.sec i).size = 64) ∧ epS D1.sec ((N / 2 : Nat) : Int) < epS D1.sec 0 ∧ epS D1.sec 0 = 1 ∧ (scanned ((secsF D1.sec 0 (N / 2)).drop 1)).1 = lis [r] := by
  have hh : ((D.size : Nat) : Int) / 2 = ((N / 2 : Nat) : Int) := by rw [hs]; omega
  have hmay : D.mayErr = 0 := by unfold DevD.mayErr; rw [if_neg (by rw [hl]; decide), if_neg (by omega)]
  have hfit : fitsErr ((N / 2 : Nat) : Int) 1 r.size = 0 := by
    obtain ⟨a, b⟩ := hr
    unfold fitsErr
    rw [if_neg (by omega), if_neg (by omega)]
  unfold DevD.format
  rw [if_neg (by rw [hmay]; decide), hh, if_neg (by rw [hfit]; decide)]
  obtain ⟨D4, hD4, k1, k2, k3, k4⟩ : ∃ D4, D.seq [fun d => d.setE 0 0, fun D => D.setE ((N / 2 : Nat) : Int) 0, DevD.fl, fun D => D.wipe ((N / 2 : Nat) : Int) ((N / 2 : Nat) : Int) 1] = (D4, 0) ∧ D4.left = -1 ∧ D4.size = N ∧ (∀ i, (D4.sec i).size = 64) ∧ D4.sec ((N / 2 : Nat) : Int) = hdrB 0 := by
    rw [seq_cons]
    rcases setE_gen D 0 0 (Int.le_refl _) (by rw [hs]; omega) with ⟨q, _⟩ | ⟨_, q⟩
    · rw [hl] at q; cases q
    rw [q, if_pos rfl]
    have e1 := Ext.put D 0 (hdrB 0)
    have s1 : ∀ i, (D.put 0 (hdrB 0)).sec i = if i = 0 then hdrB 0 else D.sec i := fun i => put_sec D 0 _ i
    try simp only
    generalize D.put 0 (hdrB 0) = d1 at *
    have l1 := e1.left.2.2 hl
    rw [seq_cons]
    rcases setE_gen d1 ((N / 2 : Nat) : Int) 0 (by omega) (by rw [e1.size, hs]; omega) with ⟨q, _⟩ | ⟨_, q⟩
    · rw [l1] at q; cases q
    rw [q, if_pos rfl]
    have e2 := Ext.put d1 ((N / 2 : Nat) : Int) (hdrB 0)
    have s2 : ∀ i, (d1.put ((N / 2 : Nat) : Int) (hdrB 0)).sec i = if i = ((N / 2 : Nat) : Int) then hdrB 0 else d1.sec i := fun i => put_sec d1 _ _ i
    try simp only
    generalize d1.put ((N / 2 : Nat) : Int) (hdrB 0) = d2 at *
    have l2 := e2.left.2.2 l1
    rw [seq_cons]
    rcases fl_gen d2 with ⟨q, _⟩ | ⟨_, q⟩
    · rw [l2] at q; cases q
    rw [q, if_pos rfl]
    try simp only
    have s3 : ∀ i, d2.flush.sec i = d2.sec i := fun i => rfl
    have z3 : d2.flush.size = d2.size := rfl
    have l3 : d2.flush.left = -1 := l2
    generalize d2.flush = d3 at *
    rw [seq_cons]
    have hw := wipe_gen d3 ((N / 2 : Nat) : Int) (N / 2) 1 (by omega) (by rw [z3, e2.size, e1.size, hs]; omega) (by omega) (Nat.le_refl _) (by omega)
    rw [show ((1 : Nat) : Int) = 1 from rfl] at hw
    obtain ⟨Q, w1, w2, w3, w4⟩ := hw
    rcases w4 with ⟨w4, w5⟩ | ⟨_, _, q⟩
    rotate_left
    · exact absurd l3 q
    rw [if_pos w4]
    refine ⟨_, rfl, w1.left.2.2 l3, by rw [w1.size, z3, e2.size, e1.size, hs], fun i => ?_, ?_⟩
    · rw [w5]; split
      · exact zsec_size
      · rw [s3, s2]; split
        · exact hdrB_size _
        · rw [s1]; split
          · exact hdrB_size _
          · exact h64 i
    · rw [w5, if_neg (by omega), s3, s2, if_pos rfl]
  rw [hD4, if_neg (by simp)]
  have hB := begin_gen D4 0 (N / 2) r 1 (Int.le_refl _) (by rw [k2]; omega) (by omega) (by rw [k2]; omega) hr.1 hr.2 hf (by omega)
  try simp only
  generalize D4.begin 0 ((N / 2 : Nat) : Int) r 1 = P at *
  obtain ⟨D1, E⟩ := P
  simp only at hB
  obtain ⟨b1, b2, b3, b4⟩ := hB
  obtain ⟨hl1, rfl⟩ := b2.2.2 k1
  rcases b4 with ⟨_, q1, q2, q3, q4, q5, q6⟩ | ⟨q, _⟩
  rotate_left
  · cases q
  have hgood : ∀ i, (D1.sec i).size = 64 := by
    intro i
    by_cases e : i < 0 ∨ 0 + ((N / 2 : Nat) : Int) ≤ i
    · rw [q3 i e]; exact k3 i
    · by_cases e2 : i = 0
      · rw [e2, q4]; exact hdrB_size _
      · exact q6 i (by omega) (by omega)
  have hsN : SNew N ⟨((N / 2 : Nat) : Int), 0, 0, 0, 0, 0, ⟨#[]⟩, [], false⟩ r D1.sec := by
    refine ⟨hgood, ?_, epS_hdr (n := 1) q4 (by decide), q5⟩
    show epS D1.sec ((N / 2 : Nat) : Int) = 0
    refine hdr0_ep ?_
    rw [q3 _ (by omega)]; exact k4
  refine ⟨D1, rfl, hl1, by rw [b1, k2], q1, hgood, ?_, hsN.e2, hsN.scan hr hf⟩
  have := hsN.e1
  have h2 := hsN.e2
  simp only at this h2
  rw [this, h2]; decide
/-- Format, and Open. -/
theorem format_open {N : Nat} {D : DevD} (hn : 4 ≤ N ∧ N ≤ 4096) (hs : D.size = N) (hl : D.left = -1) (h64 : ∀ i, (D.sec i).size = 64) (r : ByteArray) (hr : Rok r) (hf : 1 + nframes r.size ≤ N / 2) :
    ∃ D1 D2 v, D.format r = (D1, 0) ∧ D1.openV = (some v, D2, 0) ∧ Vlt N D2 v 0 [] none ∧ v.img = r ∧ v.recs = [] ∧ v.over = false ∧ v.ep = 1 ∧ v.s = ((N / 2 : Nat) : Int) ∧ v.s2 = ((N / 2 : Nat) : Int) ∧ v.at_ = ((1 + nframes r.size : Nat) : Int) ∧
      D1.left = -1 ∧ D1.size = N ∧ D1.queue = [] ∧ (∀ i, (D1.sec i).size = 64) ∧ D2.left = -1 ∧ D2.queue = [] := by
  obtain ⟨D1, k1, k2, k3, k4, k5, k6, k7, k8⟩ := format_gen hn hs hl h64 r hr hf
  obtain ⟨D', v', o1, o2, o3, o4, o5, o6, o7, o8, o9, o10, o11, o12⟩ := open_gen (rs := []) hn k3 k2 k5 (Or.inl ⟨rfl, rfl⟩) k6 k8
  have hat := (o2.live o5).2.2.1
  rw [o3, frs_one, cut_len] at hat
  exact ⟨D1, D', v', k1, o1, o2, o3, o4, o5, by rw [o6, k7], o9, o10, hat, k2, k3, k4, k5, o7, o8⟩
/-- What Format answers otherwise. -/
theorem format_bad (D : DevD) (r : ByteArray) (hl : D.left = -1) : D.size < 4 → D.format r = (D, 1) := by
  intro h
  have hmay : D.mayErr = 1 := by unfold DevD.mayErr; rw [if_neg (by rw [hl]; decide), if_pos h]
  unfold DevD.format
  rw [hmay, if_pos (by decide)]
theorem format_unfit (D : DevD) (r : ByteArray) (hl : D.left = -1) (hs : 4 ≤ D.size) (hf : fitsErr ((D.size : Int) / 2) 1 r.size ≠ 0) : D.format r = (D, fitsErr ((D.size : Int) / 2) 1 r.size) := by
  have hmay : D.mayErr = 0 := by unfold DevD.mayErr; rw [if_neg (by rw [hl]; decide), if_neg (by omega)]
  unfold DevD.format
  rw [hmay, if_neg (by decide), if_pos hf]
end Go.Proofs.Ytncbojocglcieaa

/- Small numbers that are arguments. -/
namespace Go.Proofs.Ytncbojocglcieaa
open Go.RowKit
theorem u8_of {n : Int} (h : (Lit.int .u8 n).wf = true) : ∃ c : UInt8, n = c.toNat := by
  simp only [Lit.wf, Bool.and_eq_true, decide_eq_true_eq] at h
  have e1 : IntKind.u8.min = 0 := by decide
  have e2 : IntKind.u8.max = 255 := by decide
  refine ⟨UInt8.ofNat n.toNat, ?_⟩
  simp only [UInt8.toNat_ofNat']
  omega
end Go.Proofs.Ytncbojocglcieaa

/- Slices that are arguments: of numbers, of texts, of pairs. -/
namespace Go.Proofs.Ytncbojocglcieaa
open Go.ChangeShapes Go.WideShapes Go.RowKit
set_option maxRecDepth 100000
section
variable {H : Type} {enc : TypeId × Value → H} {w : World} {base : Nat} {spare : Nat → Bool} {held : Bool}
theorem open_arg {α : Type} {E : EK α} (good : α → Prop) {t : TypeId} (ht : Try.prog.underlying t = some (.slice E.t)) (hcell : Try.prog.cellsOf E.t = E.size)
    (hel : ∀ n cs x, DataW.trod enc Try.prog w base spare held n E.t cs = some x → ∃ y, cs = E.enc y ∧ good y)
    {r : Reach} {b0 : Nat} {v : Value} {d : DataW H} {p : List MemPlace} (hv : Value.okWide Try.prog w r b0 t v) (h : DataW.Trod enc Try.prog w base spare held t v d p) :
    ∃ l : List α, Arg E w v l ∧ l.length ≤ maxLen ∧ ∀ y ∈ l, good y := by
  obtain ⟨a0, len0, cap0, rfl⟩ := okWide_slice ht hv
  obtain ⟨fuel, hf⟩ := h
  rcases Go.Deep.open_slice ht hf with ⟨hcs, _⟩ | ⟨a, len, cap, m, n, D, Pl, hcs, _, hl, hm, hmm, _, hx⟩
  · simp [Value.cells] at hcs
    obtain ⟨rfl, rfl, rfl⟩ := hcs
    exact ⟨[], ⟨none, 0, rfl, Or.inl ⟨rfl, rfl, rfl⟩⟩, by simp, by simp⟩
  · simp [Value.cells] at hcs
    obtain ⟨rfl, rfl, rfl⟩ := hcs
    have hlm : len0 ≤ m := by rw [hmm]; split <;> omega
    have key : ∀ k, k ≤ len0 → ∃ l : List α, l.length = k ∧ (∀ y ∈ l, good y) ∧ ∀ i y, l[i]? = some y → ∀ j, j < E.size → w.cell? (a.add (i * E.size + j)) = (E.enc y)[j]? := by
      intro k
      induction k with
      | zero => intro _; exact ⟨[], rfl, by simp, by simp⟩
      | succ k ih =>
        intro hk
        obtain ⟨l, h1, h2, h3⟩ := ih (by omega)
        obtain ⟨cs', hc, ht'⟩ := hx k (by omega)
        obtain ⟨y, rfl, hy⟩ := hel _ _ _ ht'
        rw [hcell] at hc
        obtain ⟨_, _, hcc⟩ := World.cells?_some hc
        refine ⟨l ++ [y], by simp [h1], fun z hz => ?_, fun i z hz j hj => ?_⟩
        · rcases List.mem_append.1 hz with q | q
          · exact h2 z q
          · simp at q; subst q; exact hy
        · by_cases hi : i < l.length
          · rw [List.getElem?_append_left hi] at hz
            exact h3 i z hz j hj
          · have hi2 : i = l.length := by
              have := (List.getElem?_eq_some_iff.1 hz).1
              simp at this; omega
            subst hi2
            rw [List.getElem?_append_right (Nat.le_refl _)] at hz
            simp at hz
            subst hz
            rw [← hcc j hj, h1, Go.Deep.add_add]
    obtain ⟨l, h1, h2, h3⟩ := key len0 (Nat.le_refl _)
    refine ⟨l, ⟨some a, cap0, by rw [h1], Or.inr ⟨a, rfl, fun j u hj => ?_⟩⟩, by omega, h2⟩
    have hjl : j < l.length * E.size := by
      have := (List.getElem?_eq_some_iff.1 hj).1
      rwa [E.flat_len] at this
    have hpos := E.pos
    have hd : j / E.size < l.length := by rw [Nat.div_lt_iff_lt_mul hpos]; exact hjl
    have hmd := Nat.mod_lt j hpos
    have e1 : j = j / E.size * E.size + j % E.size := by rw [Nat.mul_comm]; exact (Nat.div_add_mod _ _).symm
    have e2 := E.flat_get l (j / E.size) (j % E.size) hmd
    rw [← e1, hj, List.getElem?_eq_getElem hd] at e2
    have := h3 (j / E.size) _ (List.getElem?_eq_getElem hd) (j % E.size) hmd
    rw [← e1] at this
    rw [this]; simpa using e2.symm
theorem open_rints {r : Reach} {b0 : Nat} {v : Value} {d : DataW H} {p : List MemPlace} (hv : Value.okWide Try.prog w r b0 23 v) (h : DataW.Trod enc Try.prog w base spare held 23 v d p) :
    ∃ l : List Int, Arg EInt w v l ∧ l.length ≤ maxLen ∧ ∀ y ∈ l, (Lit.int .i64 y).wf = true :=
  open_arg (E := EInt) (fun y => (Lit.int .i64 y).wf = true) Try.underlying23 (by kernel_rfl) (fun n cs x hx => by
    obtain ⟨k, e, _, hw⟩ := DataW.trod_int Try.underlying3 hx
    exact ⟨k, e, hw⟩) hv h
theorem open_rstrs {r : Reach} {b0 : Nat} {v : Value} {d : DataW H} {p : List MemPlace} (hv : Value.okWide Try.prog w r b0 49 v) (h : DataW.Trod enc Try.prog w base spare held 49 v d p) :
    ∃ l : List ByteArray, Arg EStr w v l ∧ l.length ≤ maxLen ∧ ∀ y ∈ l, y.size ≤ maxLen :=
  open_arg (E := EStr) (fun y => y.size ≤ maxLen) Try.underlying49 (by kernel_rfl) (fun n cs x hx => by
    obtain ⟨k, e, _, hw⟩ := DataW.trod_string Try.underlying9 hx
    exact ⟨k, e, hw⟩) hv h
end
end Go.Proofs.Ytncbojocglcieaa

/- sector's reference: a call's kind; few. -/
namespace Go.Proofs.Ytncbojocglcieaa
open Go.RowKit
set_option linter.unusedSimpArgs false
set_option linter.unusedVariables false
/-- A call, by value. -/
structure OpD where
  kind : UInt8
  i : Int
  n : Int
  b : ByteArray
  ka : Option Addr
  kn : Nat
  kc : Nat
def OpD.kv (o : OpD) : Value := .slice o.ka o.kn o.kc
def OpD.cells (o : OpD) : List Value := [.int .u8 o.kind.toNat, .int .i64 o.i, .int .i64 o.n, .string o.b, o.kv]
def EOp : EK OpD := ⟨46, 5, 64, OpD.cells, fun _ => rfl, fun _ u hu => by simp [OpD.cells, OpD.kv] at hu; rcases hu with rfl | rfl | rfl | rfl | rfl <;> rfl, by decide⟩
/-- What can be said of a call that came in. -/
def OpD.Ok (w : World) (o : OpD) : Prop := o.b.size ≤ maxLen ∧ (-9223372036854775808 ≤ o.i ∧ o.i ≤ 9223372036854775807) ∧ (-9223372036854775808 ≤ o.n ∧ o.n ≤ 9223372036854775807) ∧ o.kn ≤ maxLen ∧ ∃ kl, Arg EInt w o.kv kl ∧ kl.length = o.kn
def FewP (l : List OpD) (v : Value) : Prop := ∃ b, v = .bool b ∧ (b = true → l.length ≤ 150 ∧ ∀ o ∈ l, o.b.size ≤ 200 ∧ o.kn ≤ 100)
theorem op_cells {w : World} {a : Option Addr} {n c : Nat} {l : List OpD} (h : Arg EOp w (.slice a n c) l) (i : Nat) (o : OpD) (ho : l[i]? = some o) : ∃ g off, a = some ⟨g, off, none⟩ ∧ n = l.length ∧
    w.cell? ⟨g, off + i * 5, none⟩ = some (.int .u8 o.kind.toNat) ∧ w.cell? ⟨g, off + i * 5 + 1, none⟩ = some (.int .i64 o.i) ∧ w.cell? ⟨g, off + i * 5 + 2, none⟩ = some (.int .i64 o.n) ∧ w.cell? ⟨g, off + i * 5 + 3, none⟩ = some (.string o.b) ∧ w.cell? ⟨g, off + i * 5 + 4, none⟩ = some o.kv := by
  obtain ⟨g, off, cap, e, hc⟩ := h.cells (by intro q; rw [q] at ho; simp at ho)
  simp only [Value.slice.injEq] at e
  obtain ⟨rfl, rfl, rfl⟩ := e
  exact ⟨g, off, rfl, rfl, hc i o ho 0 (by decide), hc i o ho 1 (by decide), hc i o ho 2 (by decide), hc i o ho 3 (by decide), hc i o ho 4 (by decide)⟩
set_option maxRecDepth 100000 in
set_option maxHeartbeats 2000000 in
theorem few06_any (w : World) (v : Value) (l : List OpD) (h : Arg EOp w v l) (ml : l.length ≤ maxLen) (hok : ∀ o ∈ l, o.b.size ≤ maxLen ∧ o.kn ≤ maxLen) :
    Calls Try.prog 26 #[v] w fun e w' => ∃ b, e = .returned b ∧ FewP l b ∧ Below w.heap.size w w' := by
  obtain ⟨va, vc, rfl⟩ := h.shape
  have A := Lib.hid h
  have OK := Lib.hid hok
  unfold maxLen at ml
  clear h hok
  go_enter Try.func26, Try.ntmps26
  go_wp2_with fail
  go_loopw [3] (fun iv wr => ∃ i : Nat, iv = .int .i64 i ∧ i ≤ l.length ∧ (∀ k o, k < i → l[k]? = some o → o.b.size ≤ 200 ∧ o.kn ≤ 100) ∧ wr = w) (fun iv _ => l.length - (intOf iv).toNat)
  case atStart => exact ⟨0, rfl, Nat.zero_le _, fun k o hk => absurd hk (Nat.not_lt_zero _), rfl⟩
  case round =>
    obtain ⟨i, rfl, hi, hall, rfl⟩ := hrel
    have HALL := Lib.hid hall
    clear hall
    by_cases hlt : i < l.length
    · have i1 : (i : Int) < l.length := by omega
      by_cases h3 : i < 300
      · have i2 : (i : Int) < 300 := by omega
        obtain ⟨o, ho⟩ : ∃ o, l[i]? = some o := ⟨_, List.getElem?_eq_getElem hlt⟩
        obtain ⟨hob, hok⟩ := OK.out o (List.mem_of_getElem? ho)
        unfold maxLen at hob hok
        obtain ⟨g, off, rfl, _, _, _, _, c3, c4⟩ := op_cells A.out i o ho
        unfold OpD.kv at c4
        have HO := Lib.hid ho
        clear ho
        by_cases hb : o.b.size ≤ 200
        · have b1 : ¬ ((200 : Int) < o.b.size) := by omega
          have b2 : decide ((200 : Int) < o.b.size) = false := decide_eq_false b1
          by_cases hk : o.kn ≤ 100
          · have k1 : ¬ ((100 : Int) < o.kn) := by omega
            have k2 : decide ((100 : Int) < o.kn) = false := decide_eq_false k1
            go_wp2_with fail
            refine ⟨⟨i + 1, by go_num, hlt, fun k x hk2 hx => ?_, trivial⟩, by simp [intOf]; omega⟩
            by_cases e : k = i
            · subst e
              have := HO.out
              rw [hx] at this
              rw [Option.some.inj this]
              exact ⟨hb, hk⟩
            · exact HALL.out k x (by omega) hx
          · have k1 : (100 : Int) < o.kn := by omega
            have k2 : decide ((100 : Int) < o.kn) = true := decide_eq_true k1
            go_wp2_with fail
            go_ret
            exact ⟨_, rfl, ⟨false, rfl, fun q => by simp at q⟩, Below.refl _ _⟩
        · have b1 : (200 : Int) < o.b.size := by omega
          have b2 : decide ((200 : Int) < o.b.size) = true := decide_eq_true b1
          go_wp2_with fail
          go_ret
          exact ⟨_, rfl, ⟨false, rfl, fun q => by simp at q⟩, Below.refl _ _⟩
      · have i2 : ¬ ((i : Int) < 300) := by omega
        have i3 : decide ((i : Int) < 300) = false := decide_eq_false i2
        have l1 : decide ((l.length : Int) ≤ 150) = false := decide_eq_false (by omega)
        go_wp2_with fail
        go_ret
        exact ⟨_, rfl, ⟨false, rfl, fun q => by simp at q⟩, Below.refl _ _⟩
    · have ei : i = l.length := by omega
      subst ei
      have i2 : ¬ ((l.length : Int) < l.length) := by omega
      go_wp2_with fail
      go_ret
      refine ⟨_, rfl, ⟨_, rfl, fun q => ?_⟩, Below.refl _ _⟩
      have q2 : l.length ≤ 150 := by simp at q; omega
      refine ⟨q2, fun o ho => ?_⟩
      obtain ⟨k, hk⟩ := List.getElem?_of_mem ho
      exact HALL.out k o (List.getElem?_eq_some_iff.1 hk).1 hk
end Go.Proofs.Ytncbojocglcieaa

/- vault's laws: a call; few, awake, begun, opened. -/
namespace Go.Proofs.Ytncbojocglcieaa
open Go.RowKit
set_option linter.unusedSimpArgs false
set_option linter.unusedVariables false
/-- A call, by value. -/
structure OpV where
  kind : UInt8
  b : ByteArray
  cut : Bool
  n : Int
  crash : Bool
  ka : Option Addr
  kn : Nat
  kc : Nat
def OpV.kv (o : OpV) : Value := .slice o.ka o.kn o.kc
def OpV.cells (o : OpV) : List Value := [.int .u8 o.kind.toNat, .string o.b, .bool o.cut, .int .i64 o.n, .bool o.crash, o.kv]
def EOpV : EK OpV := ⟨91, 6, 72, OpV.cells, fun _ => rfl, fun _ u hu => by simp [OpV.cells, OpV.kv] at hu; rcases hu with rfl | rfl | rfl | rfl | rfl | rfl <;> rfl, by decide⟩
def OpV.Ok (w : World) (o : OpV) : Prop := o.b.size ≤ maxLen ∧ (-9223372036854775808 ≤ o.n ∧ o.n ≤ 9223372036854775807) ∧ o.kn ≤ maxLen ∧ ∃ kl, Arg EInt w o.kv kl ∧ kl.length = o.kn
def FewV (l : List OpV) (n : Int) (v : Value) : Prop := ∃ b, v = .bool b ∧ (b = true → (l.length : Int) ≤ n ∧ ∀ o ∈ l.take 100, o.b.size ≤ 400 ∧ o.kn ≤ 100)
theorem vop_cells {w : World} {a : Option Addr} {n c : Nat} {l : List OpV} (h : Arg EOpV w (.slice a n c) l) (i : Nat) (o : OpV) (ho : l[i]? = some o) : ∃ g off, a = some ⟨g, off, none⟩ ∧ n = l.length ∧
    w.cell? ⟨g, off + i * 6, none⟩ = some (.int .u8 o.kind.toNat) ∧ w.cell? ⟨g, off + i * 6 + 1, none⟩ = some (.string o.b) ∧ w.cell? ⟨g, off + i * 6 + 2, none⟩ = some (.bool o.cut) ∧ w.cell? ⟨g, off + i * 6 + 3, none⟩ = some (.int .i64 o.n) ∧ w.cell? ⟨g, off + i * 6 + 4, none⟩ = some (.bool o.crash) ∧ w.cell? ⟨g, off + i * 6 + 5, none⟩ = some o.kv := by
  obtain ⟨g, off, cap, e, hc⟩ := h.cells (by intro q; rw [q] at ho; simp at ho)
  simp only [Value.slice.injEq] at e
  obtain ⟨rfl, rfl, rfl⟩ := e
  exact ⟨g, off, rfl, rfl, hc i o ho 0 (by decide), hc i o ho 1 (by decide), hc i o ho 2 (by decide), hc i o ho 3 (by decide), hc i o ho 4 (by decide), hc i o ho 5 (by decide)⟩
set_option maxRecDepth 100000 in
set_option maxHeartbeats 2000000 in
theorem few08_any (w : World) (v : Value) (l : List OpV) (n : Int) (h : Arg EOpV w v l) (ml : l.length ≤ maxLen) (hok : ∀ o ∈ l, o.b.size ≤ maxLen ∧ o.kn ≤ maxLen) :
    Calls Try.prog 46 #[v, .int .i64 n] w fun e w' => ∃ b, e = .returned b ∧ FewV l n b ∧ Below w.heap.size w w' := by
  obtain ⟨va, vc, rfl⟩ := h.shape
  have A := Lib.hid h
  have OK := Lib.hid hok
  unfold maxLen at ml
  clear h hok
  go_enter Try.func46, Try.ntmps46
  go_wp2_with fail
  go_loopw [5] (fun iv wr => ∃ i : Nat, iv = .int .i64 i ∧ i ≤ l.length ∧ i ≤ 100 ∧ (∀ k o, k < i → l[k]? = some o → o.b.size ≤ 400 ∧ o.kn ≤ 100) ∧ wr = w) (fun iv _ => l.length - (intOf iv).toNat)
  case atStart => exact ⟨0, rfl, Nat.zero_le _, Nat.zero_le _, fun k o hk => absurd hk (Nat.not_lt_zero _), rfl⟩
  case round =>
    obtain ⟨i, rfl, hi, hi100, hall, rfl⟩ := hrel
    have HALL := Lib.hid hall
    clear hall
    by_cases hlt : i < l.length
    · have i1 : (i : Int) < l.length := by omega
      by_cases h3 : i < 100
      · have i2 : (i : Int) < 100 := by omega
        obtain ⟨o, ho⟩ : ∃ o, l[i]? = some o := ⟨_, List.getElem?_eq_getElem hlt⟩
        obtain ⟨hob, hok⟩ := OK.out o (List.mem_of_getElem? ho)
        unfold maxLen at hob hok
        obtain ⟨g, off, rfl, _, _, c1, _, _, _, c5⟩ := vop_cells A.out i o ho
        unfold OpV.kv at c5
        have HO := Lib.hid ho
        clear ho
        by_cases hb : o.b.size ≤ 400
        · have b1 : ¬ ((400 : Int) < o.b.size) := by omega
          have b2 : decide ((400 : Int) < o.b.size) = false := decide_eq_false b1
          by_cases hk : o.kn ≤ 100
          · have k1 : ¬ ((100 : Int) < o.kn) := by omega
            have k2 : decide ((100 : Int) < o.kn) = false := decide_eq_false k1
            go_wp2_with fail
            refine ⟨⟨i + 1, by go_num, hlt, h3, fun k x hk2 hx => ?_, trivial⟩, by simp [intOf]; omega⟩
            by_cases e : k = i
            · subst e
              have := HO.out
              rw [hx] at this
              rw [Option.some.inj this]
              exact ⟨hb, hk⟩
            · exact HALL.out k x (by omega) hx
          · have k1 : (100 : Int) < o.kn := by omega
            have k2 : decide ((100 : Int) < o.kn) = true := decide_eq_true k1
            go_wp2_with fail
            go_ret
            exact ⟨_, rfl, ⟨false, rfl, fun q => by simp at q⟩, Below.refl _ _⟩
        · have b1 : (400 : Int) < o.b.size := by omega
          have b2 : decide ((400 : Int) < o.b.size) = true := decide_eq_true b1
          go_wp2_with fail
          go_ret
          exact ⟨_, rfl, ⟨false, rfl, fun q => by simp at q⟩, Below.refl _ _⟩
      · have i2 : ¬ ((i : Int) < 100) := by omega
        have i3 : decide ((i : Int) < 100) = false := decide_eq_false i2
        go_wp2_with fail
        go_ret
        refine ⟨_, rfl, ⟨_, rfl, fun q => ?_⟩, Below.refl _ _⟩
        have q2 : (l.length : Int) ≤ n := by simpa using q
        refine ⟨q2, fun o ho => ?_⟩
        obtain ⟨k, hk⟩ := List.getElem?_of_mem ho
        have hkl : k < (l.take 100).length := (List.getElem?_eq_some_iff.1 hk).1
        rw [List.length_take] at hkl
        rw [List.getElem?_take_of_lt (by omega)] at hk
        exact HALL.out k o (by omega) hk
    · have ei : i = l.length := by omega
      subst ei
      have i2 : ¬ ((l.length : Int) < l.length) := by omega
      go_wp2_with fail
      go_ret
      refine ⟨_, rfl, ⟨_, rfl, fun q => ?_⟩, Below.refl _ _⟩
      have q2 : (l.length : Int) ≤ n := by simpa using q
      refine ⟨q2, fun o ho => ?_⟩
      obtain ⟨k, hk⟩ := List.getElem?_of_mem (List.mem_of_mem_take ho)
      exact HALL.out k o (List.getElem?_eq_some_iff.1 hk).1 hk
section
variable {w0 w w' : World} {R R' : Nat → Prop} {g vb : Nat} {d d' : DevD} {rv rv' : Value} {v v' : VaultD}
theorem OwnV.turn (h : OwnV w0 w R g d vb rv v) (hk : Keep R w w') (hR : ∀ k, R' k → (R k ∨ w.heap.size ≤ k) ∧ k < w'.heap.size) : OwnV w0 w' R' g d vb rv v := by
  refine ⟨h.own.turn (hk.mono fun i q => Or.inl (Or.inl q)) fun k q => ?_, h.vat.kept hk.size fun k q => hk.block k (h.vat.foot_lt q) (fun r => h.sep k r q), fun k q e => ?_⟩
  · rcases q with q | q
    · obtain ⟨a, b⟩ := hR k q
      exact ⟨a.imp (fun r => Or.inl r) id, b⟩
    · exact ⟨Or.inl (Or.inr q), Nat.lt_of_lt_of_le (h.vat.foot_lt q) hk.size⟩
  · rcases (hR k q).1 with r | r
    · exact h.sep k r e
    · exact absurd (h.vat.foot_lt e) (by omega)
theorem OwnV.sub (h : OwnV w0 w R g d vb rv v) (hR : ∀ k, R' k → R k) : OwnV w0 w R' g d vb rv v :=
  ⟨h.own.sub fun k q => q.imp (hR k) id, h.vat, fun k q => h.sep k (hR k q)⟩
theorem OwnV.dev' (h : OwnV w0 w R g d vb rv v) : OwnR w0 w R g d := h.own.sub fun k q => Or.inl q
theorem OwnV.bel (h : OwnV w0 w R g d vb rv v) : Below w0.heap.size w0 w := h.own.bel
/-- A vault is opened, where that goes. -/
theorem vopen_ok {D2 : DevD} {x : VaultD} {E : Int} (h : OwnR w0 w R g d) (hd : d.size ≤ 4096) (hq : d.queue.length ≤ 500000) (hleft : d.left ≤ 9223372036854775807) (h64 : ∀ i, (d.sec i).size = 64) (ho : d.openV = (some x, D2, E)) :
    Calls Try.prog 43 #[.pointer (some ⟨g, 0, none⟩)] w fun e w' => ∃ vb rv, e = .returned (.tuple #[.pointer (some ⟨vb, 0, none⟩), .int .i64 E]) ∧ OwnV w0 w' R g D2 vb rv x ∧ Held w0 R w w' := by
  have := vopen_any h hd hq hleft h64
  rw [ho] at this
  exact this
theorem vopen_no {D2 : DevD} {E : Int} (h : OwnR w0 w R g d) (hd : d.size ≤ 4096) (hq : d.queue.length ≤ 500000) (hleft : d.left ≤ 9223372036854775807) (h64 : ∀ i, (d.sec i).size = 64) (ho : d.openV = (none, D2, E)) :
    Calls Try.prog 43 #[.pointer (some ⟨g, 0, none⟩)] w fun e w' => e = .returned (.tuple #[.pointer none, .int .i64 E]) ∧ OwnR w0 w' R g D2 ∧ Held w0 R w w' := by
  have := vopen_any h hd hq hleft h64
  rw [ho] at this
  exact this
end
theorem newdev_good (N : Nat) (i : Int) : ((DevD.mk N [] [] [] (-1)).sec i).size = 64 := by show zsec.size = 64; exact zsec_size
def imageB : ByteArray := ⟨#[105, 109, 97, 103, 101]⟩
set_option maxRecDepth 100000 in
set_option maxHeartbeats 1000000 in
theorem awake08_any (w : World) : Calls Try.prog 41 #[] w fun e w' => e = .returned (.bool true) ∧ Below w.heap.size w w' := by
  obtain ⟨D1, D2, x, k1, k2, k3, k4, k5, k6, k7, k8, k9, k10, k11, k12, k13, k14, k15, k16⟩ := format_open (N := 8) (D := ⟨8, [], [], [], -1⟩) ⟨by decide, by decide⟩ rfl rfl (newdev_good 8) imageB ⟨by decide, by decide⟩ (by decide)
  have K1 := Lib.hid k1
  have K2 := Lib.hid k2
  have K14 := Lib.hid k14
  have K4 := Lib.hid k4
  have e8 : x.s = 4 := k8
  have e10 : x.at_ = 2 := k10
  have E8 := Lib.hid e8
  have E10 := Lib.hid e10
  clear k1 k2 k14 k3 k8 k10 e8 e10 k5 k6 k7 k9 k15 k16
  go_enter Try.func41, Try.ntmps41
  go_wp2_with fail
  refine (ownr_new (R := fun _ => False) w w 8 (Below.refl _ _) (fun k q => q.elim)).mono ?_
  rintro e w1 ⟨g, rfl, h1, hh1⟩
  have H1 := Lib.hid (show OwnR w w1 (fun _ => False) g ⟨8, [], [], [], -1⟩ from h1)
  clear h1 hh1
  go_wp2_with fail
  have hb : (⟨#[105, 109, 97, 103, 101]⟩ : ByteArray) = imageB := rfl
  rw [hb]
  have hf := format_any imageB H1.out (by decide) (by decide) (by decide) (by decide)
  rw [K1.out] at hf
  refine hf.mono ?_
  rintro e w2 ⟨rfl, h2, hh2⟩
  have H2 := Lib.hid (show OwnR w w2 (fun _ => False) g D1 from h2)
  clear h2 hh2 hf
  go_wp2_with fail
  refine (vopen_ok H2.out (by rw [k12]; decide) (by rw [k13]; decide) (by rw [k11]; decide) K14.out K2.out).mono ?_
  rintro e w3 ⟨vb, rv, rfl, h3, hh3⟩
  have H3 := Lib.hid h3
  clear h3 hh3
  go_wp2_with fail
  refine (vimage_any H3.out).mono ?_
  rintro e w4 ⟨rfl, rfl⟩
  rw [k4, ← hb]
  go_wp2_with fail
  refine (vroom_any H3.out (by rw [E10.out]; decide) (by rw [E8.out]; decide)).mono ?_
  rintro e w5 ⟨rfl, hb5⟩
  rw [E8.out, E10.out]
  go_wp2_with fail
  go_ret
  exact ⟨rfl, (H3.out.below hb5).bel⟩
section
variable {w0 w w' : World} {R R' : Nat → Prop} {g vb : Nat} {d d' : DevD} {rv rv' : Value} {v v' : VaultD}
set_option maxRecDepth 100000 in
/-- A vault of an image alone. -/
theorem begun08_any {D1 D2 : DevD} {x : VaultD} (r : ByteArray) (h : OwnR w0 w R g d) (hd : d.size ≤ 4096) (hq : d.queue.length ≤ 400000) (hleft : d.left ≤ 9223372036854775807) (hr : r.size ≤ 9223372036854775807)
    (k1 : d.format r = (D1, 0)) (k2 : D1.openV = (some x, D2, 0)) (s1 : D1.size ≤ 4096) (q1 : D1.queue.length ≤ 500000) (l1 : D1.left ≤ 9223372036854775807) (g1 : ∀ i, (D1.sec i).size = 64) :
    Calls Try.prog 53 #[.pointer (some ⟨g, 0, none⟩), .string r] w fun e w' => ∃ vb rv, e = .returned (.pointer (some ⟨vb, 0, none⟩)) ∧ OwnV w0 w' R g D2 vb rv x ∧ Held w0 R w w' := by
  have H := Lib.hid h
  have hf := format_any r h hd hq hleft hr
  rw [k1] at hf
  have HF := Lib.hid hf
  have K2 := Lib.hid k2
  have G1 := Lib.hid g1
  clear h hf k1 k2 g1
  go_enter Try.func53, Try.ntmps53
  go_wp2_with fail
  refine HF.out.mono ?_
  rintro e w1 ⟨rfl, h1, hh1⟩
  have H1 := Lib.hid (show OwnR w0 w1 R g D1 from h1)
  have HH1 := Lib.hid hh1
  clear h1 hh1
  go_wp2_with fail
  refine (vopen_ok H1.out s1 q1 l1 G1.out K2.out).mono ?_
  rintro e w2 ⟨vb, rv, rfl, h2, hh2⟩
  have H2 := Lib.hid h2
  have HH2 := Lib.hid (HH1.out.trans hh2)
  clear h2 hh2
  go_wp2_with fail
  go_ret
  exact ⟨_, _, rfl, H2.out, HH2.out⟩
set_option maxRecDepth 100000 in
set_option maxHeartbeats 1000000 in
/-- A vault behind a restart. -/
theorem opened08_any {D2 D3 : DevD} {x : VaultD} (kv : Value) (kept : List Int) (h : OwnR w0 w R g d) (harg : Arg EInt w0 kv kept) (hk : kept.length ≤ maxLen) (hd : d.size ≤ 4096) (hq : d.queue.length ≤ 400000) (hrl : x.recs.length ≤ 100000)
    (k1 : (d.restart kept).openV = (some x, D2, 0)) (k2 : D2.openV = (some x, D3, 0)) (g1 : ∀ i, ((d.restart kept).sec i).size = 64) (g2 : ∀ i, (D2.sec i).size = 64) (s2 : D2.size ≤ 4096) (q2 : D2.queue.length ≤ 500000) (l2 : D2.left = -1) :
    Calls Try.prog 54 #[.pointer (some ⟨g, 0, none⟩), kv] w fun e w' => ∃ vb rv, e = .returned (.pointer (some ⟨vb, 0, none⟩)) ∧ OwnV w0 w' R g D3 vb rv x ∧ Held w0 R w w' := by
  have hrs := ownr_restart h kv kept harg hk (by omega)
  obtain ⟨ka, kc, rfl⟩ := harg.shape
  have H := Lib.hid h
  have HRS := Lib.hid hrs
  have K1 := Lib.hid k1
  have K2 := Lib.hid k2
  have G1 := Lib.hid g1
  have G2 := Lib.hid g2
  clear h k1 k2 g1 g2 hrs harg
  go_enter Try.func54, Try.ntmps54
  go_wp2_with fail
  refine HRS.out.mono ?_
  rintro e w1 ⟨rfl, h1, hh1⟩
  have H1 := Lib.hid h1
  have HH1 := Lib.hid hh1
  clear h1 hh1
  go_wp2_with fail
  refine (vopen_ok H1.out hd (by show (0 : Nat) ≤ _; omega) (by show (-1 : Int) ≤ _; decide) G1.out K1.out).mono ?_
  rintro e w2 ⟨vb, rv, rfl, h2, hh2⟩
  have H2 := Lib.hid h2
  have HH2 := Lib.hid (HH1.out.trans hh2)
  clear h2 hh2
  go_wp2_with fail
  refine (vopen_ok H2.out.own s2 q2 (by rw [l2]; decide) G2.out K2.out).mono ?_
  rintro e w3 ⟨vb2, rv2, rfl, h3, hh3⟩
  have H3 := Lib.hid h3
  have H3a := Lib.hid (H2.out.dev h3.dev' hh3)
  have HH3 := Lib.hid (HH2.out.trans hh3.left)
  clear h3 hh3
  go_wp2_with fail
  refine (vimage_any H3a.out).mono ?_
  rintro e w4 ⟨rfl, rfl⟩
  go_wp2_with fail
  refine (vimage_any H3.out).mono ?_
  rintro e w5 ⟨rfl, rfl⟩
  go_wp2_with fail
  refine (vrecords_any H3a.out (by omega)).mono ?_
  rintro e w6 ⟨v1, rfl, hr1, hb1⟩
  have HR1 := Lib.hid hr1
  have H6 := Lib.hid (H3.out.below hb1)
  have HB1 := Lib.hid hb1
  obtain ⟨a1, c1, rfl⟩ := hr1.shape
  clear hr1 hb1
  go_wp2_with fail
  refine (vrecords_any H6.out (by omega)).mono ?_
  rintro e w7 ⟨v2, rfl, hr2, hb2⟩
  have HR2 := Lib.hid hr2
  have HB2 := Lib.hid hb2
  obtain ⟨a2, c2, rfl⟩ := hr2.shape
  clear hr2 hb2
  go_wp2_with fail
  refine (same_any w7 _ _ x.recs x.recs (HR1.out.arg.below HB2.out) HR2.out.arg (by unfold maxLen; omega) (by unfold maxLen; omega)).mono ?_
  rintro e w8 ⟨rfl, hb3⟩
  rw [decide_eq_true (rfl : x.recs = x.recs)]
  have HB3 := Lib.hid (HB1.out.trans ((HB2.out.trans (hb3.mono HB2.out.size)).mono HB1.out.size))
  clear hb3
  go_wp2_with fail
  go_ret
  exact ⟨_, _, rfl, H3a.out.below HB3.out, HH3.out.trans (Held.below (w0 := w0) (fun k q => H3a.out.own.lt q) HB3.out).left⟩
end
end Go.Proofs.Ytncbojocglcieaa

/- Numbers that are arguments. -/
namespace Go.Proofs.Ytncbojocglcieaa
open Go.RowKit
theorem u64_of {n : Int} (h : (Lit.int .u64 n).wf = true) : ∃ c : Nat, n = c ∧ c < 18446744073709551616 := by
  simp only [Lit.wf, Bool.and_eq_true, decide_eq_true_eq] at h
  have e1 : IntKind.u64.min = 0 := by decide
  have e2 : IntKind.u64.max = 18446744073709551615 := by decide
  exact ⟨n.toNat, by omega, by omega⟩
theorem u16_of {n : Int} (h : (Lit.int .u16 n).wf = true) : ∃ c : Nat, n = c ∧ c < 65536 := by
  simp only [Lit.wf, Bool.and_eq_true, decide_eq_true_eq] at h
  have e1 : IntKind.u16.min = 0 := by decide
  have e2 : IntKind.u16.max = 65535 := by decide
  exact ⟨n.toNat, by omega, by omega⟩
theorem i64_of {n : Int} (h : (Lit.int .i64 n).wf = true) : -9223372036854775808 ≤ n ∧ n ≤ 9223372036854775807 := by
  simp only [Lit.wf, Bool.and_eq_true, decide_eq_true_eq] at h
  have e1 : IntKind.i64.min = -9223372036854775808 := by decide
  have e2 : IntKind.i64.max = 9223372036854775807 := by decide
  omega
theorem i8_of {n : Int} (h : (Lit.int .i8 n).wf = true) : -128 ≤ n ∧ n ≤ 127 := by
  simp only [Lit.wf, Bool.and_eq_true, decide_eq_true_eq] at h
  have e1 : IntKind.i8.min = -128 := by decide
  have e2 : IntKind.i8.max = 127 := by decide
  omega
end Go.Proofs.Ytncbojocglcieaa

/- Slices of calls that are arguments. -/
namespace Go.Proofs.Ytncbojocglcieaa
open Go.Joins Go.ChangeShapes Go.WideShapes Go.RowKit Go.Deep
set_option maxRecDepth 100000
variable {H : Type} {enc : TypeId × Value → H} {w : World} {base : Nat} {spare : Nat → Bool} {held : Bool}
/-- A slice that lies in a cell. -/
theorem open_cells {α : Type} {E : EK α} (good : α → Prop) {t : TypeId} (ht : Try.prog.underlying t = some (.slice E.t)) (hcell : Try.prog.cellsOf E.t = E.size)
    (hel : ∀ n cs x, DataW.trod enc Try.prog w base spare held n E.t cs = some x → ∃ y, cs = E.enc y ∧ good y)
    {fuel : Nat} {cs : List Value} {z : DataW H × List MemPlace} (hf : DataW.trod enc Try.prog w base spare held fuel t cs = some z) :
    ∃ a n c, cs = [.slice a n c] ∧ n ≤ maxLen ∧ ∃ l : List α, l.length = n ∧ Arg E w (.slice a n c) l ∧ ∀ y ∈ l, good y := by
  rcases Go.Deep.open_slice ht hf with ⟨hcs, _⟩ | ⟨a, len, cap, m, n, D, Pl, hcs, _, hl, hm, hmm, _, hx⟩
  · exact ⟨none, 0, 0, hcs, by unfold maxLen; omega, [], rfl, ⟨none, 0, rfl, Or.inl ⟨rfl, rfl, rfl⟩⟩, by simp⟩
  · have hlm : len ≤ m := by rw [hmm]; split <;> omega
    have key : ∀ k, k ≤ len → ∃ l : List α, l.length = k ∧ (∀ y ∈ l, good y) ∧ ∀ i y, l[i]? = some y → ∀ j, j < E.size → w.cell? (a.add (i * E.size + j)) = (E.enc y)[j]? := by
      intro k
      induction k with
      | zero => intro _; exact ⟨[], rfl, by simp, by simp⟩
      | succ k ih =>
        intro hk
        obtain ⟨l, h1, h2, h3⟩ := ih (by omega)
        obtain ⟨cs', hc, ht'⟩ := hx k (by omega)
        obtain ⟨y, rfl, hy⟩ := hel _ _ _ ht'
        rw [hcell] at hc
        obtain ⟨_, _, hcc⟩ := World.cells?_some hc
        refine ⟨l ++ [y], by simp [h1], fun z hz => ?_, fun i z hz j hj => ?_⟩
        · rcases List.mem_append.1 hz with q | q
          · exact h2 z q
          · simp at q; subst q; exact hy
        · by_cases hi : i < l.length
          · rw [List.getElem?_append_left hi] at hz
            exact h3 i z hz j hj
          · have hi2 : i = l.length := by
              have := (List.getElem?_eq_some_iff.1 hz).1
              simp at this; omega
            subst hi2
            rw [List.getElem?_append_right (Nat.le_refl _)] at hz
            simp at hz
            subst hz
            rw [← hcc j hj, h1, Go.Deep.add_add]
    obtain ⟨l, h1, h2, h3⟩ := key len (Nat.le_refl _)
    refine ⟨some a, len, cap, hcs, by omega, l, h1, ⟨some a, cap, by rw [h1], Or.inr ⟨a, rfl, fun j u hj => ?_⟩⟩, h2⟩
    have hjl : j < l.length * E.size := by
      have := (List.getElem?_eq_some_iff.1 hj).1
      rwa [E.flat_len] at this
    have hpos := E.pos
    have hd : j / E.size < l.length := by rw [Nat.div_lt_iff_lt_mul hpos]; exact hjl
    have hmd := Nat.mod_lt j hpos
    have e1 : j = j / E.size * E.size + j % E.size := by rw [Nat.mul_comm]; exact (Nat.div_add_mod _ _).symm
    have e2 := E.flat_get l (j / E.size) (j % E.size) hmd
    rw [← e1, hj, List.getElem?_eq_getElem hd] at e2
    have := h3 (j / E.size) _ (List.getElem?_eq_getElem hd) (j % E.size) hmd
    rw [← e1] at this
    rw [this]; simpa using e2.symm
theorem op_fields : ∃ f0 f1 f2 f3 f4 : Field, Try.prog.underlying 46 = some (.struct #[f0, f1, f2, f3, f4]) ∧ oneCellFields Try.prog #[f0, f1, f2, f3, f4] = true ∧
    f0.type = 5 ∧ f1.type = 3 ∧ f2.type = 3 ∧ f3.type = 9 ∧ f4.type = 23 :=
  ⟨_, _, _, _, _, Try.underlying46, by kernel_rfl, rfl, rfl, rfl, rfl, rfl⟩
theorem open_ops {r : Reach} {b0 : Nat} {v : Value} {d : DataW H} {p : List MemPlace} (hv : Value.okWide Try.prog w r b0 41 v) (h : DataW.Trod enc Try.prog w base spare held 41 v d p) :
    ∃ l : List OpD, Arg EOp w v l ∧ l.length ≤ maxLen ∧ ∀ o ∈ l, o.Ok w :=
  open_arg (E := EOp) (fun o => o.Ok w) Try.underlying41 (by kernel_rfl) (fun fuel cs x hf => by
    obtain ⟨f0, f1, f2, f3, f4, hs, hone, t0, t1, t2, t3, t4⟩ := op_fields
    have hC : Try.prog.cellsOf 46 = 5 := by kernel_rfl
    obtain ⟨xs, n, _, hx, hcl, hlen, hg⟩ := DataW.trod_struct hs hf
    obtain ⟨o0, k0⟩ := hone_of hone 0 f0 rfl
    obtain ⟨o1, k1⟩ := hone_of hone 1 f1 rfl
    obtain ⟨o2, k2⟩ := hone_of hone 2 f2 rfl
    obtain ⟨o3, k3⟩ := hone_of hone 3 f3 rfl
    obtain ⟨o4, k4⟩ := hone_of hone 4 f4 rfl
    rw [hC] at hcl
    match cs, hcl, xs, hlen with
    | [c0, c1, c2, c3, c4], _, [y0, y1, y2, y3, y4], _ =>
      have g0 : DataW.trod enc Try.prog w base spare held n f0.type [c0] = some y0 := by simpa [o0, k0] using hg 0 f0 rfl
      have g1 : DataW.trod enc Try.prog w base spare held n f1.type [c1] = some y1 := by simpa [o1, k1] using hg 1 f1 rfl
      have g2 : DataW.trod enc Try.prog w base spare held n f2.type [c2] = some y2 := by simpa [o2, k2] using hg 2 f2 rfl
      have g3 : DataW.trod enc Try.prog w base spare held n f3.type [c3] = some y3 := by simpa [o3, k3] using hg 3 f3 rfl
      have g4 : DataW.trod enc Try.prog w base spare held n f4.type [c4] = some y4 := by simpa [o4, k4] using hg 4 f4 rfl
      rw [t0] at g0; rw [t1] at g1; rw [t2] at g2; rw [t3] at g3; rw [t4] at g4
      obtain ⟨a0, e0, _, w0⟩ := DataW.trod_int Try.underlying5 g0
      obtain ⟨a1, e1, _, w1⟩ := DataW.trod_int Try.underlying3 g1
      obtain ⟨a2, e2, _, w2⟩ := DataW.trod_int Try.underlying3 g2
      obtain ⟨s, e3, _, s3⟩ := DataW.trod_string Try.underlying9 g3
      obtain ⟨ka, kn, kc, e4, hkn, kl, hkl, harg, _⟩ := open_cells (E := EInt) (fun _ => True) Try.underlying23 (by kernel_rfl) (fun n cs x hx => by
        obtain ⟨k, e, _, hw⟩ := DataW.trod_int Try.underlying3 hx
        exact ⟨k, e, trivial⟩) g4
      simp only [List.cons.injEq, and_true] at e0 e1 e2 e3 e4
      subst e0; subst e1; subst e2; subst e3; subst e4
      obtain ⟨kd, rfl⟩ := u8_of w0
      exact ⟨⟨kd, a1, a2, s, ka, kn, kc⟩, rfl, s3, i64_of w1, i64_of w2, hkn, kl, harg, hkl⟩) hv h
end Go.Proofs.Ytncbojocglcieaa

/- Slices of a vault's calls that are arguments. -/
namespace Go.Proofs.Ytncbojocglcieaa
open Go.Joins Go.ChangeShapes Go.WideShapes Go.RowKit Go.Deep
set_option maxRecDepth 100000
variable {H : Type} {enc : TypeId × Value → H} {w : World} {base : Nat} {spare : Nat → Bool} {held : Bool}
theorem vop_fields : ∃ f0 f1 f2 f3 f4 f5 : Field, Try.prog.underlying 91 = some (.struct #[f0, f1, f2, f3, f4, f5]) ∧ oneCellFields Try.prog #[f0, f1, f2, f3, f4, f5] = true ∧
    f0.type = 5 ∧ f1.type = 9 ∧ f2.type = 4 ∧ f3.type = 3 ∧ f4.type = 4 ∧ f5.type = 23 :=
  ⟨_, _, _, _, _, _, Try.underlying91, by kernel_rfl, rfl, rfl, rfl, rfl, rfl, rfl⟩
theorem open_vops {r : Reach} {b0 : Nat} {v : Value} {d : DataW H} {p : List MemPlace} (hv : Value.okWide Try.prog w r b0 87 v) (h : DataW.Trod enc Try.prog w base spare held 87 v d p) :
    ∃ l : List OpV, Arg EOpV w v l ∧ l.length ≤ maxLen ∧ ∀ o ∈ l, o.Ok w :=
  open_arg (E := EOpV) (fun o => o.Ok w) Try.underlying87 (by kernel_rfl) (fun fuel cs x hf => by
    obtain ⟨f0, f1, f2, f3, f4, f5, hs, hone, t0, t1, t2, t3, t4, t5⟩ := vop_fields
    have hC : Try.prog.cellsOf 91 = 6 := by kernel_rfl
    obtain ⟨xs, n, _, hx, hcl, hlen, hg⟩ := DataW.trod_struct hs hf
    obtain ⟨o0, k0⟩ := hone_of hone 0 f0 rfl
    obtain ⟨o1, k1⟩ := hone_of hone 1 f1 rfl
    obtain ⟨o2, k2⟩ := hone_of hone 2 f2 rfl
    obtain ⟨o3, k3⟩ := hone_of hone 3 f3 rfl
    obtain ⟨o4, k4⟩ := hone_of hone 4 f4 rfl
    obtain ⟨o5, k5⟩ := hone_of hone 5 f5 rfl
    rw [hC] at hcl
    match cs, hcl, xs, hlen with
    | [c0, c1, c2, c3, c4, c5], _, [y0, y1, y2, y3, y4, y5], _ =>
      have g0 : DataW.trod enc Try.prog w base spare held n f0.type [c0] = some y0 := by simpa [o0, k0] using hg 0 f0 rfl
      have g1 : DataW.trod enc Try.prog w base spare held n f1.type [c1] = some y1 := by simpa [o1, k1] using hg 1 f1 rfl
      have g2 : DataW.trod enc Try.prog w base spare held n f2.type [c2] = some y2 := by simpa [o2, k2] using hg 2 f2 rfl
      have g3 : DataW.trod enc Try.prog w base spare held n f3.type [c3] = some y3 := by simpa [o3, k3] using hg 3 f3 rfl
      have g4 : DataW.trod enc Try.prog w base spare held n f4.type [c4] = some y4 := by simpa [o4, k4] using hg 4 f4 rfl
      have g5 : DataW.trod enc Try.prog w base spare held n f5.type [c5] = some y5 := by simpa [o5, k5] using hg 5 f5 rfl
      rw [t0] at g0; rw [t1] at g1; rw [t2] at g2; rw [t3] at g3; rw [t4] at g4; rw [t5] at g5
      obtain ⟨a0, e0, _, w0⟩ := DataW.trod_int Try.underlying5 g0
      obtain ⟨s, e1, _, s1⟩ := DataW.trod_string Try.underlying9 g1
      obtain ⟨b2, e2, _⟩ := DataW.trod_bool Try.underlying4 g2
      obtain ⟨a3, e3, _, w3⟩ := DataW.trod_int Try.underlying3 g3
      obtain ⟨b4, e4, _⟩ := DataW.trod_bool Try.underlying4 g4
      obtain ⟨ka, kn, kc, e5, hkn, kl, hkl, harg, _⟩ := open_cells (E := EInt) (fun _ => True) Try.underlying23 (by kernel_rfl) (fun n cs x hx => by
        obtain ⟨k, e, _, hw⟩ := DataW.trod_int Try.underlying3 hx
        exact ⟨k, e, trivial⟩) g5
      simp only [List.cons.injEq, and_true] at e0 e1 e2 e3 e4 e5
      subst e0; subst e1; subst e2; subst e3; subst e4; subst e5
      obtain ⟨kd, rfl⟩ := u8_of w0
      exact ⟨⟨kd, s, b2, a3, b4, ka, kn, kc⟩, rfl, s1, i64_of w3, hkn, kl, harg, hkl⟩) hv h
end Go.Proofs.Ytncbojocglcieaa
