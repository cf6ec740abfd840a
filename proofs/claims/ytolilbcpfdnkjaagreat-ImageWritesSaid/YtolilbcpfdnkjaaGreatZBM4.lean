/- tree.Make. -/
import Derived.Test.YtolilbcpfdnkjaaGreatZBM3
namespace Go.Proofs.YtolilbcpfdnkjaaGreat
open Go.RowKit
set_option linter.unusedSimpArgs false
set_option linter.unusedVariables false
/-- What the maker has met in the end. -/
noncomputable def mkAll (cookie : Int) (D : List (Int × DE)) : MkS :=
  if ((mget D 0).isSome && decide (1 ≤ cookie)) = true then mkDir cookie D 201 ⟨[], [], false⟩ 0 else ⟨[], [], true⟩
def seenE (D : List (Int × DE)) (left : Int → Bool) : List Ent := (D.filter (fun x => !left x.1)).flatMap (·.2.2)
def dcnt (l : List Ent) : Nat := (l.filter (·.dir)).length
def fileIn (l : List Ent) (n : Int) : Prop := ∃ e ∈ l, e.dir = false ∧ e.node = n
theorem seen_step {D : List (Int × DE)} {left : Int → Bool} {k : Int} {v : Value} {l : List Ent} (hn : (mkeys D).Nodup) (hk : mget D k = some (v, l)) (hl : left k = true) :
    (seenE D (fun j => left j && !decide (j = k))).Perm (seenE D left ++ l) := by
  induction D with
  | nil => cases hk
  | cons x D ih =>
    have hn' : x.1 ∉ mkeys D ∧ (mkeys D).Nodup := List.nodup_cons.1 (show (x.1 :: mkeys D).Nodup from hn)
    rw [mget_cons] at hk
    by_cases e : x.1 = k
    · rw [if_pos e] at hk
      have hx2 : x.2.2 = l := by have := Option.some.inj hk; rw [this]
      have hsame : seenE D (fun j => left j && !decide (j = k)) = seenE D left := by
        unfold seenE
        congr 1
        refine List.filter_congr (fun y hy => ?_)
        have : y.1 ≠ k := fun q => hn'.1 (by rw [e, ← q]; exact List.mem_map_of_mem (f := Prod.fst) hy)
        simp [this]
      have h1 : seenE (x :: D) (fun j => left j && !decide (j = k)) = l ++ seenE D left := by
        rw [← hsame, ← hx2]
        unfold seenE
        rw [List.filter_cons_of_pos (by simp [e]), List.flatMap_cons]
      have h2 : seenE (x :: D) left = seenE D left := by
        unfold seenE
        rw [List.filter_cons_of_neg (by simp [e, hl])]
      rw [h1, h2]
      exact List.perm_append_comm
    · rw [if_neg e] at hk
      have := ih hn'.2 hk
      unfold seenE at this ⊢
      by_cases q : left x.1 = true
      · rw [List.filter_cons_of_neg (by simp [q, e]), List.filter_cons_of_neg (by simp [q])]
        exact this
      · rw [List.filter_cons_of_pos (by simp [q]), List.filter_cons_of_pos (by simp [q]), List.flatMap_cons, List.flatMap_cons, List.append_assoc]
        exact List.Perm.append_left _ this
theorem seen_none (D : List (Int × DE)) : seenE D (fun k => decide (k ∈ mkeys D)) = [] := by
  unfold seenE
  rw [List.filter_eq_nil_iff.2 (fun x hx => by simp only [Bool.not_eq_true, Bool.not_eq_false', decide_eq_true_eq]; exact List.mem_map_of_mem (f := Prod.fst) hx)]
  rfl
theorem dcnt_perm {a b : List Ent} (h : a.Perm b) : dcnt a = dcnt b := (h.filter _).length_eq
theorem dcnt_app (a b : List Ent) : dcnt (a ++ b) = dcnt a + dcnt b := by unfold dcnt; rw [List.filter_append, List.length_append]
theorem fileIn_perm {a b : List Ent} (h : a.Perm b) (n : Int) : fileIn a n ↔ fileIn b n := by unfold fileIn; simp [h.mem_iff]
theorem fileIn_app (a b : List Ent) (n : Int) : fileIn (a ++ b) n ↔ fileIn a n ∨ fileIn b n := by
  unfold fileIn
  constructor
  · rintro ⟨e, he, h⟩
    exact (List.mem_append.1 he).imp (fun q => ⟨e, q, h⟩) (fun q => ⟨e, q, h⟩)
  · rintro (⟨e, he, h⟩ | ⟨e, he, h⟩)
    · exact ⟨e, List.mem_append_left _ he, h⟩
    · exact ⟨e, List.mem_append_right _ he, h⟩
theorem dcnt_le (l : List Ent) : dcnt l ≤ l.length := List.length_filter_le _ _
theorem seen_le {D : List (Int × DE)} (hl : ∀ x ∈ D, x.2.2.length ≤ 100000) (left : Int → Bool) : (seenE D left).length ≤ D.length * 100000 := by
  unfold seenE
  induction D with
  | nil => simp
  | cons x D ih =>
    have h1 := ih (fun y hy => hl y (List.mem_cons_of_mem _ hy))
    have h2 := hl x (List.mem_cons_self ..)
    by_cases q : left x.1 = true
    · rw [List.filter_cons_of_neg (by simp [q]), List.length_cons, Nat.add_mul, Nat.one_mul]
      exact Nat.le_trans h1 (Nat.le_add_right _ _)
    · rw [List.filter_cons_of_pos (by simp [q]), List.flatMap_cons, List.length_append, List.length_cons, Nat.add_mul, Nat.one_mul, Nat.add_comm]
      exact Nat.add_le_add h1 h2
/-- What the files' map says. -/
def FilesOf (Fm : List (Int × Int)) (l : List Ent) : Prop := ∀ n, (fileIn l n → mget Fm n = some 1) ∧ (¬ fileIn l n → mget Fm n = none)
def MkLoop (w : World) (gm bd bc : Nat) (nv nm : Value) (cookie : Int) (sA : MkS) (D : List (Int × DE)) (r base gt bdn bfn gpn bpn : Nat) (vpn : Value) (p0 : PD) (mv : Value) (wr : World) : Prop :=
  ∃ (left : Int → Bool) (D' : List (Int × DE)) (Fm : List (Int × Int)), mv = .int .i64 (1 + (dcnt (seenE D left) : Int)) ∧ IRange encDE wr bd r D left ∧ MAt wr gt bdn bfn gpn bpn vpn D' Fm p0 cookie ∧ (∀ k, tfoot gt bdn bfn gpn bpn vpn D' k → base ≤ k ∧ k ≠ r) ∧
    MkC w wr gm bd bc nv nm cookie sA ∧ (∀ d v l, mget D d = some (v, l) → left d = false → ∃ v', mget D' d = some (v', l)) ∧ (∀ d, d ≠ 0 → mget D d = none → mget D' d = none) ∧ FilesOf Fm (seenE D left)
def MkIn (w : World) (gm bd bc : Nat) (nv nm : Value) (cookie : Int) (sA : MkS) (D : List (Int × DE)) (left : Int → Bool) (r base gt bdn bfn gpn bpn : Nat) (vpn : Value) (p0 : PD) (D' : List (Int × DE)) (Fm : List (Int × Int)) (l : List Ent) (m0 C : Nat) (mv iv : Value) (wr : World) : Prop :=
  ∃ (i : Nat) (Fm' : List (Int × Int)), iv = .int .i64 i ∧ mv = .int .i64 ((m0 : Int) + (dcnt (l.take i) : Int)) ∧ i ≤ l.length ∧ IRange encDE wr bd r D left ∧ wr.rangeLeft bd r = C ∧ MAt wr gt bdn bfn gpn bpn vpn D' Fm' p0 cookie ∧ MkC w wr gm bd bc nv nm cookie sA ∧
    (∀ n, (fileIn (l.take i) n → mget Fm' n = some 1) ∧ (¬ fileIn (l.take i) n → mget Fm' n = mget Fm n))
/-- All entries. -/
def allE (D : List (Int × DE)) : List Ent := D.flatMap (·.2.2)
theorem seen_all {D : List (Int × DE)} {left : Int → Bool} (h : ∀ k, left k = false) : seenE D left = allE D := by
  unfold seenE allE
  rw [List.filter_eq_self.2 (fun x _ => by rw [h]; rfl)]
def MadeT (w : World) (cookie : Int) (D : List (Int × DE)) (ns : List Int) (Fm : List (Int × Int)) (e : Ending) (w' : World) : Prop :=
  ∃ (g bdn bfn gp bp : Nat) (vp : Value) (D' : List (Int × DE)) (p : PD), e = .returned (.tuple #[.pointer (some ⟨g, 0, none⟩), .int .i64 0]) ∧ MAt w' g bdn bfn gp bp vp D' Fm p cookie ∧
    (∀ d v l, mget D d = some (v, l) → ∃ v', mget D' d = some (v', l)) ∧ (∀ d, mget D d = none → mget D' d = none) ∧ (∀ n, n ∈ mkeys p.out ↔ n ∈ ns) ∧ (∀ k, tfoot g bdn bfn gp bp vp D' k → w.heap.size ≤ k) ∧ Below w.heap.size w w'
/-- What Make answers. -/
def MakePost (w : World) (cookie : Int) (D : List (Int × DE)) (e : Ending) (w' : World) : Prop :=
  ∃ Fm : List (Int × Int), (mkeys Fm).Nodup ∧ FilesOf Fm (allE D) ∧
    (((mkAll cookie D).bad = false ∧ 1 + dcnt (allE D) = D.length ∧ (mkAll cookie D).nodes.length = Fm.length + dcnt (allE D)) ∧ MadeT w cookie D (mkAll cookie D).nodes Fm e w' ∨
     ¬ ((mkAll cookie D).bad = false ∧ 1 + dcnt (allE D) = D.length ∧ (mkAll cookie D).nodes.length = Fm.length + dcnt (allE D)) ∧ e = .returned (.tuple #[.pointer none, .int .i64 2]) ∧ Below w.heap.size w w')
theorem nodup_sub_len : ∀ (l m : List Int), l.Nodup → (∀ x ∈ l, x ∈ m) → l.length ≤ m.length := by
  intro l
  induction l with
  | nil => intro m _ _; exact Nat.zero_le _
  | cons a l ih =>
    intro m hn hs
    have hn' := List.nodup_cons.1 hn
    have ha := hs a (List.mem_cons_self ..)
    have h1 := ih (m.erase a) hn'.2 (fun x hx => (List.mem_erase_of_ne (fun e => hn'.1 (by rw [← e]; exact hx))).2 (hs x (List.mem_cons_of_mem _ hx)))
    rw [List.length_erase_of_mem ha] at h1
    have h2 : 0 < m.length := List.length_pos_of_mem ha
    simp only [List.length_cons]; omega
theorem files_len {Fm : List (Int × Int)} {l : List Ent} (hn : (mkeys Fm).Nodup) (h : FilesOf Fm l) : Fm.length ≤ l.length := by
  have := nodup_sub_len (mkeys Fm) (l.map (·.node)) hn (fun n hn => by
    by_cases q : fileIn l n
    · obtain ⟨e, he, _, h2⟩ := q
      exact List.mem_map.2 ⟨e, he, h2⟩
    · exact absurd hn ((mget_none_iff Fm n).1 ((h n).2 q)))
  simpa [mkeys] using this
theorem MAt.repooled {w w7 : World} {g bd bf gp bp gq bq : Nat} {vp vq : Value} {D : List (Int × DE)} {Fm : List (Int × Int)} {p q : PD} {next : Int} (h : MAt w g bd bf gp bp vp D Fm p next) (hb : Below w.heap.size w w7) (hp : PAt w7 gq vq bq q) (hi : PInv q) (hm : q.most = 200)
    (hf : ∀ k, pfoot gq vq bq k → w.heap.size ≤ k) : MAt (w7.setCell ⟨g, 2, none⟩ (.pointer (some ⟨gq, 0, none⟩))) g bd bf gq bq vq D Fm q next := by
  have h7 := h.below hb
  have hk : Keep (fun k => k = g) w7 (w7.setCell ⟨g, 2, none⟩ (.pointer (some ⟨gq, 0, none⟩))) := (Keep.refl _ w7).set g 2 _ (Or.inl rfl)
  have lg := m_lt h.blk
  have lbd := h.dm.lt
  have lbf := h.fm.lt
  have hn : ∀ k, pfoot gq vq bq k → ¬ k = g := fun k q => by have := hf k q; omega
  refine ⟨m_set h7.blk 2 _, h7.dm.keep hk h.s1.1, h7.fm.keep hk h.s1.2.1,
    ⟨m_keep hp.blk hk (hn _ (Or.inl rfl)), hp.row.kept (fun j hj => hk.block j (World.ownsRow.lt hp.row j hj).2 (hn _ (Or.inr (Or.inr hj.symm)))), hp.mp.keep hk (hn _ (Or.inr (Or.inl rfl))), hp.ne1, hp.ne2, hp.ne3⟩, hi, hm,
    fun x hx => (h7.rows x hx).keep hk (fun i q r => (h.s3 x hx i q).1 r), h.s1, fun k q => by have := hf k q; exact ⟨by omega, by omega, by omega⟩, fun x hx k q => ?_⟩
  obtain ⟨a, b, c, _⟩ := h.s3 x hx k q
  refine ⟨a, b, c, fun r => ?_⟩
  have := hf k r
  have := (h.rows x hx).lt q
  omega
theorem eint_flat (l : List Int) : l.flatMap EInt.enc = l.map (fun x => Value.int .i64 x) := by
  induction l with
  | nil => rfl
  | cons y l ih => rw [List.flatMap_cons, ih]; rfl
theorem argI_of {w : World} {v : Value} {l : List Int} (h : Arg EInt w v l) : ArgI w v l := by
  obtain ⟨a, cap, rfl, h⟩ := h
  refine ⟨a, cap, rfl, h.imp id (fun ⟨x, e, hc⟩ => ⟨x, e, fun i hi => hc i _ ?_⟩)⟩
  rw [eint_flat, List.getElem?_map, List.getElem?_eq_getElem hi]
  simp [List.getD_eq_getElem?_getD, List.getElem?_eq_getElem hi]
theorem mkAll_good (cookie : Int) (D : List (Int × DE)) : (mkAll cookie D).Good := by
  unfold mkAll
  split
  · exact MkS.Good.dir 201 0 (fun _ => ⟨List.nodup_nil, fun n hn => by cases hn⟩)
  · intro h; cases h
theorem mk_start (w : World) (bd : Nat) (cookie : Int) (h : bd < w.heap.size) : MkC w ((w.alloc (.map #[] 0)).alloc (.cells #[.int .i64 cookie, .map (some bd), .slice none 0 0, .map (some w.heap.size), .map none, .bool false] 107)) (w.heap.size + 1) bd w.heap.size (.slice none 0 0) (.map none) cookie ⟨[], [], false⟩ := by
  refine ⟨m_alloc _ _ _ (by simp), Row.nil _ _ _, ⟨[], ?_, fun k => by simp [mget_nil]⟩, ((Below.refl _ w).alloc (Nat.le_refl _) _).alloc (by simp) _, Nat.le_succ _, Nat.le_refl _, fun k e => (by cases e), by omega⟩
  exact (IMap.new (enc := Value.int .i64) w).keep (F := fun _ => False) ((Keep.refl _ _).alloc _) (fun q => q)
theorem MAt.nexted {w : World} {g bd bf gp bp : Nat} {vp : Value} {D : List (Int × DE)} {Fm : List (Int × Int)} {p : PD} {next : Int} (h : MAt w g bd bf gp bp vp D Fm p next) (c : Int) : MAt (w.setCell ⟨g, 3, none⟩ (.int .i64 c)) g bd bf gp bp vp D Fm p c := by
  have hk : Keep (fun k => k = g) w (w.setCell ⟨g, 3, none⟩ (.int .i64 c)) := (Keep.refl _ w).set g 3 _ (Or.inl rfl)
  have hf : ∀ k, pfoot gp vp bp k → ¬ k = g := fun k q => (h.s2 k q).1
  exact ⟨m_set h.blk 3 _, h.dm.keep hk h.s1.1, h.fm.keep hk h.s1.2.1,
    ⟨m_keep h.pl.blk hk (hf _ (Or.inl rfl)), h.pl.row.kept (fun j hj => hk.block j (World.ownsRow.lt h.pl.row j hj).2 (hf _ (Or.inr (Or.inr hj.symm)))), h.pl.mp.keep hk (hf _ (Or.inr (Or.inl rfl))), h.pl.ne1, h.pl.ne2, h.pl.ne3⟩, h.inv, h.most,
    fun x hx => (h.rows x hx).keep hk (fun i q r => (h.s3 x hx i q).1 r), h.s1, h.s2, h.s3⟩
set_option maxRecDepth 100000 in
set_option maxHeartbeats 4000000 in
theorem make_any {w : World} {bd : Nat} {cookie : Int} {D : List (Int × DE)} (hD : IMap encDE w bd D) (hr : ∀ x ∈ D, Arg EEnt w x.2.1 x.2.2) (hl : ∀ x ∈ D, x.2.2.length ≤ 100000 ∧ ∀ e ∈ x.2.2, e.name.size ≤ maxLen) (hdl : D.length ≤ 100000) :
    Calls Tryz.prog 24 #[.int .i64 cookie, .map (some bd)] w (MakePost w cookie D) := by
  obtain ⟨ik, hik⟩ : ∃ ik, (mget D 0).isSome = ik := ⟨_, rfl⟩
  have hlk : ∃ v, ∀ W', Below w.heap.size w W' → (Instr.lookup 53 (.map (some bd)) (.int .i64 0) true).run Tryz.prog W' = .ok (.tuple #[v, .bool ik]) W' := by
    cases hm : mget D 0 with
    | none =>
      rw [hm] at hik
      exact ⟨.slice none 0 0, fun W' hb => by
        have := (hD.keep (Keep.below hb) (fun q => by have := hD.lt; omega)).lookup (P := Tryz.prog) Tryz.underlying53 Tryz.underlying3 zero_ents 0 true
        rw [hm] at this; rw [this, ← hik]; rfl⟩
    | some v =>
      rw [hm] at hik
      exact ⟨encDE v, fun W' hb => by
        have := (hD.keep (Keep.below hb) (fun q => by have := hD.lt; omega)).lookup (P := Tryz.prog) Tryz.underlying53 Tryz.underlying3 zero_ents 0 true
        rw [hm] at this; rw [this, ← hik]; rfl⟩
  obtain ⟨lv, hlk⟩ := hlk
  have hst := mk_start w bd cookie hD.lt
  have hlkW := hlk _ hst.bel
  have HLK := Lib.hid hlk
  have HIK := Lib.hid hik
  have HC := Lib.hid hst
  clear hlk hik hst
  have hmm := @run_makeMap Tryz.prog
  go_enter Tryz.func24, Tryz.ntmps24
  (iterate 61 (first | go_values | go_skip | go_guarded | go_step | go_upon | go_back | go_simp))
  obtain ⟨bc, hbc⟩ : ∃ bc, w.heap.size = bc := ⟨_, rfl⟩
  obtain ⟨gm, hgm⟩ : ∃ gm, bc + 1 = gm := ⟨_, rfl⟩
  rw [hbc] at HC ⊢
  rw [hgm] at HC ⊢
  generalize ((w.alloc (.map #[] 0)).alloc (.cells #[.int .i64 cookie, .map (some bd), .slice none 0 0, .map (some bc), .map none, .bool false] 107)) = W1 at *
  clear hmm hbc hgm
  go_cut [6] from 1000 (fun s6 wx => s6 = .pointer (some ⟨gm, 0, none⟩) ∧ MkC w wx gm bd bc (.slice none 0 0) (.map none) cookie ⟨[], [], !(ik && decide (1 ≤ cookie))⟩)
  case first =>
    have HMU := Lib.hid (fun b => must_any b HC.out)
    cases d : decide (1 ≤ cookie) <;> cases ik
    all_goals
      go_wp2_with fail
      refine (HMU.out _).mono ?_
      rintro e w2 ⟨rfl, hm2, hk2⟩
      have HM2 := Lib.hid hm2
      clear hm2 hk2
      go_wp2_with fail
      go_meet
      case rel => exact ⟨rfl, by rw [d]; exact HM2.out⟩
  case rest =>
    rename World => W2
    obtain ⟨rfl, hm2⟩ := hcut
    have HM2 := Lib.hid hm2
    have c5 : W2.cell? ⟨gm, 5, none⟩ = some (.bool (!(ik && decide (1 ≤ cookie)))) := (m_cells hm2.blk).1 5
    clear hm2 HC
    go_step
    go_step
    go_cut [6] from 1000 (fun s6 wx => s6 = .pointer (some ⟨gm, 0, none⟩) ∧ ∃ nv nm, MkC w wx gm bd bc nv nm cookie (mkAll cookie D))
    case first =>
      cases hq : (ik && decide (1 ≤ cookie))
      · rw [hq] at c5 HM2
        have HMA := Lib.hid (show mkAll cookie D = ⟨[], [], true⟩ from by unfold mkAll; rw [HIK.out, hq]; rfl)
        clear hq
        go_wp2_with fail
        go_meet
        case rel => exact ⟨rfl, _, _, by rw [HMA.out]; exact HM2.out⟩
      · rw [hq] at c5 HM2
        have HMA := Lib.hid (show mkAll cookie D = mkDir cookie D 201 ⟨[], [], false⟩ 0 from by unfold mkAll; rw [HIK.out, hq]; rfl)
        have HDI := Lib.hid (mdir_any hD hr hl 201 W2 _ _ _ 0 HM2.out rfl (fun _ => ⟨List.nodup_nil, fun n hn => by cases hn⟩) (by simp))
        clear hq
        go_wp2_with fail
        refine HDI.out.mono ?_
        rintro e w3 ⟨rfl, nv, nm, hc3⟩
        have HC3 := Lib.hid hc3
        clear hc3 HDI
        go_wp2_with fail
        go_meet
        case rel => exact ⟨rfl, nv, nm, by rw [HMA.out]; exact HC3.out⟩
    case rest =>
      rename World => W3
      obtain ⟨rfl, nv, nm, hm3⟩ := hcut
      have HM3 := Lib.hid hm3
      clear hm3 HM2 c5
      obtain ⟨sA, hsA⟩ : ∃ sA, mkAll cookie D = sA := ⟨_, rfl⟩
      rw [hsA] at HM3
      have HSA := Lib.hid hsA
      clear hsA
      go_wp2_with fail
      refine (tnew_any W3).mono ?_
      rintro e W4 ⟨gt, Ft, rfl, htm, hft, hb4⟩
      obtain ⟨bdn, bfn, gpn, bpn, vpn, D0, F0, p0, rfl, hmat, htr⟩ := htm
      have HM4 := Lib.hid (HM3.out.below hb4)
      have HMT := Lib.hid (hmat.nexted cookie)
      have HTR := Lib.hid htr
      have HFT := Lib.hid hft
      have HB4 := Lib.hid (HM3.out.bel.trans (hb4.mono HM3.out.bel.size))
      have HL3 := Lib.hid (show gm < W3.heap.size ∧ bc < W3.heap.size ∧ ∀ k, nv.ownBlock = some k → k < W3.heap.size from ⟨m_lt HM3.out.blk, by obtain ⟨C, z, _⟩ := HM3.out.cm; exact z.lt, fun k e => HM3.out.row.lt e⟩)
      have c3 : W4.cell? ⟨gt, 3, none⟩ = some (.int .i64 1) := (m_cells hmat.blk).1 3
      have f3 : W4.frozen? ⟨gt, 3, none⟩ = false := (m_cells hmat.blk).2 3
      have hgt : W3.heap.size ≤ gt := hft gt (Or.inl rfl)
      have hwt : w.heap.size ≤ gt := Nat.le_trans HM3.out.bel.size hgt
      have HB5 := Lib.hid (show Below w.heap.size w (W4.setCell ⟨gt, 3, none⟩ (.int .i64 cookie)) from HB4.out.setCell hwt _)
      have HM5 := Lib.hid (show MkC w (W4.setCell ⟨gt, 3, none⟩ (.int .i64 cookie)) gm bd bc nv nm cookie sA from by
        have k : Keep (fun i => i = gt) W4 (W4.setCell ⟨gt, 3, none⟩ (.int .i64 cookie)) := (Keep.refl _ W4).set gt 3 _ (Or.inl rfl)
        exact HM4.out.keep k (fun q => by have := HL3.out.1; omega) (fun q => by have := HL3.out.2.1; omega) (fun i e q => by have := HL3.out.2.2 i e; omega) (fun i q => by subst q; exact hwt))
      have HD5 := Lib.hid (hD.keep (Keep.below HB5.out) (fun q => by have := hD.lt; omega))
      have hw3 : w.heap.size ≤ W3.heap.size := HM3.out.bel.size
      have hb4s : W3.heap.size ≤ W4.heap.size := hb4.size
      clear hmat htr hft hb4 HM3 HM4
      go_wp2_with (at_range; refine map_range (enc := encDE) rfl _ 53 rfl _ _ Tryz.underlying53 rfl HD5.out ?_; intro w5 hir hb5 hs5)
      go_frame
      obtain ⟨r, hrr⟩ : ∃ r, (W4.setCell ⟨gt, 3, none⟩ (.int .i64 cookie)).heap.size = r := ⟨_, rfl⟩
      have hr4 : W4.heap.size = r := by rw [← hrr]; simp [World.setCell]
      have hst : MkLoop w gm bd bc nv nm cookie sA D r W3.heap.size gt bdn bfn gpn bpn vpn p0 (.int .i64 1) w5 := by
        rw [hrr] at hir
        refine ⟨_, D0, F0, ?_, hir, HMT.out.below hb5, fun k q => ⟨HFT.out k q, by have := HMT.out.foot_lt q; omega⟩, HM5.out.below hb5, fun d v l e q => ?_, fun d h0 e => ?_, fun n => ⟨?_, fun _ => ?_⟩⟩
        · rw [seen_none]; rfl
        · simp only [decide_eq_false_iff_not] at q
          exact absurd (List.mem_map_of_mem (f := Prod.fst) (mget_mem e)) q
        · refine HTR.out.r2 d ?_
          cases hq : isDirB [] d with
          | false => rfl
          | true => rcases (isDirB_iff [] d).1 hq with q | ⟨i, hi, _⟩
                    · exact absurd q h0
                    · cases hi
        · rw [seen_none]; rintro ⟨e, he, _⟩; cases he
        · have := HTR.out.r3 n
          rw [this]; rfl
      have HST := Lib.hid hst
      have HD0 := Lib.hid hD.nodup
      have HRB := Lib.hid (show W3.heap.size ≤ r from by rw [← hr4]; exact hb4s)
      have HRW := Lib.hid (show w.heap.size ≤ r from by rw [← hr4]; exact Nat.le_trans hw3 hb4s)
      have HW3 := Lib.hid hw3
      rw [hrr]
      rw [hrr] at hs5
      clear hir hb5 hst hrr hr4 HMT HTR HFT HM5 HB5 HD5 hs5 c3 f3 HB4
      go_loopw [10] (fun mv wr => MkLoop w gm bd bc nv nm cookie sA D r W3.heap.size gt bdn bfn gpn bpn vpn p0 mv wr) (fun _ wr => wr.rangeLeft bd r)
      case atStart => exact HST.out
      case round =>
        obtain ⟨left, D', Fm, rfl, hir, hmt, hft, hmc, hj1, hj2, hfm⟩ := hrel
        clear HST
        have HIR := Lib.hid hir
        have HMT := Lib.hid hmt
        have HFT := Lib.hid hft
        have HMC := Lib.hid hmc
        have HJ1 := Lib.hid hj1
        have HJ2 := Lib.hid hj2
        have HFM := Lib.hid hfm
        clear hir hmt hft hmc hj1 hj2 hfm
        go_wp2_with (first
          | (at_next; refine map_next (enc := encDE) rfl _ rfl rfl HIR.out ?_ ?_)
          | go_in)
        · intro hl0
          have hse : seenE D left = allE D := seen_all hl0
          rw [hse] at HFM ⊢
          obtain ⟨na, nc, rfl⟩ : ∃ a c, nv = .slice a sA.nodes.length c := HMC.out.row.shape
          have hfl : Fm.length = Fm.length := rfl
          have HS0 := Lib.hid (show ∀ w', Below wr.heap.size wr w' → (w'.cell? ⟨gm, 5, none⟩ = some (.bool sA.bad) ∧ w'.cell? ⟨gm, 2, none⟩ = some (.slice na sA.nodes.length nc) ∧ w'.cell? ⟨gt, 1, none⟩ = some (.map (some bfn)) ∧ (∀ ty, (Builtin.len_ #[53] ty #[.map (some bd)]).run Tryz.prog w' = .ok (.int .i64 D.length) w') ∧ (∀ ty, (Builtin.len_ #[75] ty #[.map (some bfn)]).run Tryz.prog w' = .ok (.int .i64 Fm.length) w')) from fun w' k =>
            ⟨cell_later k ((m_cells HMC.out.blk).1 5), cell_later k ((m_cells HMC.out.blk).1 2), cell_later k ((m_cells HMT.out.blk).1 1), fun ty => (hD.keep (Keep.below (HMC.out.bel.trans (k.mono HMC.out.bel.size))) (fun q => by have := hD.lt; omega)).len (P := Tryz.prog) Tryz.underlying53 ty,
              fun ty => (HMT.out.below k).fm.len (P := Tryz.prog) Tryz.underlying75 ty⟩)
          have hsl : (allE D).length ≤ D.length * 100000 := by rw [← hse]; exact seen_le (fun x hx => (hl x hx).1) left
          have hdc := dcnt_le (allE D)
          have hdm : D.length * 100000 ≤ 10000000000 := Nat.mul_le_mul hdl (Nat.le_refl 100000)
          have HEND := Lib.hid (show ∀ w', Below wr.heap.size wr w' → ¬ (sA.bad = false ∧ 1 + dcnt (allE D) = D.length ∧ sA.nodes.length = Fm.length + dcnt (allE D)) → MakePost w cookie D (.returned (.tuple #[.pointer none, .int .i64 2])) w' from fun w' k q =>
            ⟨Fm, HMT.out.fm.nodup, HFM.out, Or.inr ⟨by rw [HSA.out]; exact q, rfl, HMC.out.bel.trans (k.mono HMC.out.bel.size)⟩⟩)
          have HL0 := Lib.hid hl0
          have HGD := Lib.hid (show sA.Good from by rw [← HSA.out]; exact mkAll_good _ _)
          clear hl0 hse
          go_wp2_with fail
          have hfb : Fm.length ≤ 10000000000 := by
            have := files_len HMT.out.fm.nodup HFM.out
            omega
          cases hbad : sA.bad
          · have HBAD := Lib.hid hbad
            have HS := Lib.hid (show ∀ w', Below wr.heap.size wr w' → (w'.cell? ⟨gm, 5, none⟩ = some (.bool false) ∧ w'.cell? ⟨gm, 2, none⟩ = some (.slice na sA.nodes.length nc) ∧ w'.cell? ⟨gt, 1, none⟩ = some (.map (some bfn)) ∧ (∀ ty, (Builtin.len_ #[53] ty #[.map (some bd)]).run Tryz.prog w' = .ok (.int .i64 D.length) w') ∧ (∀ ty, (Builtin.len_ #[75] ty #[.map (some bfn)]).run Tryz.prog w' = .ok (.int .i64 Fm.length) w')) from fun w' k => by have := HS0.out w' k; rw [hbad] at this; exact this)
            clear hbad
            by_cases hmet : 1 + dcnt (allE D) = D.length
            · have e1 : ((1 : Int) + (dcnt (allE D) : Int) == (D.length : Int)) = true := by rw [beq_iff_eq]; omega
              have e2 : ((1 : Int) + (dcnt (allE D) : Int) != (D.length : Int)) = false := by rw [bne_eq_false_iff_eq]; omega
              have hw1 : IntKind.i64.wrap ((Fm.length : Int) + (1 + (dcnt (allE D) : Int))) = (Fm.length : Int) + (1 + (dcnt (allE D) : Int)) := by rw [IntKind.wrap_i64]; omega
              have hw2 : IntKind.i64.wrap ((Fm.length : Int) + (1 + (dcnt (allE D) : Int)) - 1) = (Fm.length : Int) + (1 + (dcnt (allE D) : Int)) - 1 := by rw [IntKind.wrap_i64]; omega
              by_cases hnod : sA.nodes.length = Fm.length + dcnt (allE D)
              · have e3 : ((sA.nodes.length : Int) == (Fm.length : Int) + (1 + (dcnt (allE D) : Int)) - 1) = true := by rw [beq_iff_eq]; omega
                have e4 : ((sA.nodes.length : Int) != (Fm.length : Int) + (1 + (dcnt (allE D) : Int)) - 1) = false := by rw [bne_eq_false_iff_eq]; omega
                have HOK := Lib.hid (show sA.bad = false ∧ 1 + dcnt (allE D) = D.length ∧ sA.nodes.length = Fm.length + dcnt (allE D) from ⟨HBAD.out, hmet, hnod⟩)
                clear hmet hnod
                go_region_held3 (fun w' => w'.cell? ⟨gm, 5, none⟩ = some (.bool false) ∧ w'.cell? ⟨gm, 2, none⟩ = some (.slice na sA.nodes.length nc) ∧ w'.cell? ⟨gt, 1, none⟩ = some (.map (some bfn)) ∧ (∀ ty, (Builtin.len_ #[53] ty #[.map (some bd)]).run Tryz.prog w' = .ok (.int .i64 D.length) w') ∧ (∀ ty, (Builtin.len_ #[75] ty #[.map (some bfn)]).run Tryz.prog w' = .ok (.int .i64 Fm.length) w'))
                  (first | exact HS.out _ (show Below wr.heap.size wr _ from (by repeat (first | exact Below.refl _ _ | assumption | (refine Below.drew ?_) | (refine below_drewN ?_ _) | (refine Below.alloc ?_ (by simp; done) _) | (refine Below.alloc ?_ (by simp; omega) _)))))
                  (fail)
                all_goals
                  go_wp2_with fail
                  have hgd := HGD.out HOK.out.1
                  have hlen : sA.nodes.length ≤ 200 := nodup_bound 200 _ hgd.1 hgd.2
                  have HNW := Lib.hid (new_any 200 _ sA.nodes wr.drew (argI_of (HMC.out.row.arg.below (Below.refl _ wr).drew)) (by omega))
                  refine HNW.out.mono ?_
                  rintro e w7 ⟨gq, bq, pq, rfl, hpq, hiq, hmq, hkq, hgq, hbq, hb7⟩
                  have hbw7 : Below wr.heap.size wr w7 := (Below.refl _ wr).drew.trans hb7
                  have hfq : ∀ k, pfoot gq (.slice none 0 0) bq k → wr.heap.size ≤ k := fun k z => by
                    rcases z with z | z | z
                    · subst z; exact hgq
                    · subst z; exact hbq
                    · cases z
                  have hmt7 := HMT.out.repooled hbw7 hpq hiq hmq hfq
                  have HMT7 := Lib.hid hmt7
                  have HFQ := Lib.hid hfq
                  have HKQ := Lib.hid hkq
                  have HB7 := Lib.hid hbw7
                  have c2 : w7.cell? ⟨gt, 2, none⟩ = some (.pointer (some ⟨gpn, 0, none⟩)) := cell_later hbw7 ((m_cells HMT.out.blk).1 2)
                  have f2 : w7.frozen? ⟨gt, 2, none⟩ = false := by
                    have := (hbw7.block gt (m_lt HMT.out.blk)).trans HMT.out.blk
                    exact (m_cells this).2 2
                  clear hmt7 hfq hkq hbw7 hpq hiq hmq hgq hbq hb7 HNW
                  go_wp2_with fail
                  go_ret2
                  have hgtw : w.heap.size ≤ gt := Nat.le_trans HW3.out (HFT.out gt (Or.inl rfl)).1
                  refine ⟨Fm, HMT.out.fm.nodup, HFM.out, Or.inl ⟨by rw [HSA.out]; exact HOK.out, ⟨gt, bdn, bfn, gq, bq, .slice none 0 0, D', pq, rfl, HMT7.out, fun d v l' e => HJ1.out d v l' e (HL0.out d), fun d e => ?_, fun n => ?_, fun k z => ?_, ?_⟩⟩⟩
                  · by_cases h0 : d = 0
                    · subst h0
                      have hmk := HOK.out.1
                      rw [← HSA.out] at hmk
                      unfold mkAll at hmk
                      rw [e] at hmk
                      cases hmk
                    · exact HJ2.out d h0 e
                  · rw [HKQ.out n, HSA.out]
                    exact ⟨fun z => z.1, fun z => ⟨z, hgd.2 n z⟩⟩
                  · rcases z with z | z | z | z | ⟨y, hy, z⟩
                    · subst z; exact hgtw
                    · exact Nat.le_trans HW3.out (HFT.out k (Or.inr (Or.inl z))).1
                    · exact Nat.le_trans HW3.out (HFT.out k (Or.inr (Or.inr (Or.inl z)))).1
                    · exact Nat.le_trans HMC.out.bel.size (HFQ.out k z)
                    · exact Nat.le_trans HW3.out (HFT.out k (Or.inr (Or.inr (Or.inr (Or.inr ⟨y, hy, z⟩))))).1
                  · exact (HMC.out.bel.trans (HB7.out.mono HMC.out.bel.size)).setCell hgtw _
              · have e3 : ((sA.nodes.length : Int) == (Fm.length : Int) + (1 + (dcnt (allE D) : Int)) - 1) = false := by rw [beq_eq_false_iff_ne]; omega
                have e4 : ((sA.nodes.length : Int) != (Fm.length : Int) + (1 + (dcnt (allE D) : Int)) - 1) = true := by rw [bne_iff_ne]; omega
                have HNO := Lib.hid (show ¬ (sA.bad = false ∧ 1 + dcnt (allE D) = D.length ∧ sA.nodes.length = Fm.length + dcnt (allE D)) from fun q => hnod q.2.2)
                clear hmet hnod
                go_region_held3 (fun w' => w'.cell? ⟨gm, 5, none⟩ = some (.bool false) ∧ w'.cell? ⟨gm, 2, none⟩ = some (.slice na sA.nodes.length nc) ∧ w'.cell? ⟨gt, 1, none⟩ = some (.map (some bfn)) ∧ (∀ ty, (Builtin.len_ #[53] ty #[.map (some bd)]).run Tryz.prog w' = .ok (.int .i64 D.length) w') ∧ (∀ ty, (Builtin.len_ #[75] ty #[.map (some bfn)]).run Tryz.prog w' = .ok (.int .i64 Fm.length) w'))
                  (first | exact HS.out _ (show Below wr.heap.size wr _ from (by repeat (first | exact Below.refl _ _ | assumption | (refine Below.drew ?_) | (refine below_drewN ?_ _) | (refine Below.alloc ?_ (by simp; done) _) | (refine Below.alloc ?_ (by simp; omega) _)))))
                  (fail)
                all_goals
                  go_wp2_with fail
                  go_ret2
                  exact HEND.out _ (Below.refl _ wr).drew HNO.out
            · have e1 : ((1 : Int) + (dcnt (allE D) : Int) == (D.length : Int)) = false := by rw [beq_eq_false_iff_ne]; omega
              have e2 : ((1 : Int) + (dcnt (allE D) : Int) != (D.length : Int)) = true := by rw [bne_iff_ne]; omega
              have HNO := Lib.hid (show ¬ (sA.bad = false ∧ 1 + dcnt (allE D) = D.length ∧ sA.nodes.length = Fm.length + dcnt (allE D)) from fun q => hmet q.2.1)
              clear hmet
              refine wp_region_held_drew (S := fun w' => w'.cell? ⟨gm, 5, none⟩ = some (.bool false) ∧ w'.cell? ⟨gm, 2, none⟩ = some (.slice na sA.nodes.length nc) ∧ w'.cell? ⟨gt, 1, none⟩ = some (.map (some bfn)) ∧ (∀ ty, (Builtin.len_ #[53] ty #[.map (some bd)]).run Tryz.prog w' = .ok (.int .i64 D.length) w') ∧ (∀ ty, (Builtin.len_ #[75] ty #[.map (some bfn)]).run Tryz.prog w' = .ok (.int .i64 Fm.length) w')) (by kernel_rfl) (HS.out _ (Below.refl _ wr).drew) (fun hHeld => ?_)
              refine take_on 0 75 (v := ?vb0) rfl rfl (by kernel_rfl) (by kernel_rfl) (by kernel_rfl) (fun _ _ _ h => h) (by rfl) ?hyb0 (by assumption) ?restb0
              case hyb0 =>
                intro w hSw
                (try dsimp only at hSw)
                go_simp
                try with_reducible rfl
              try simp only [Act.put, List.setIfInBounds_toArray, List.set_cons_zero, List.set_cons_succ]
              refine take_on 1 76 (v := ?vb1) rfl rfl (by kernel_rfl) (by kernel_rfl) (by kernel_rfl) (fun _ _ _ h => h) (by rfl) ?hyb1 (by assumption) ?restb1
              case hyb1 =>
                intro w hSw
                (try dsimp only at hSw)
                go_simp
                try with_reducible rfl
              try simp only [Act.put, List.setIfInBounds_toArray, List.set_cons_zero, List.set_cons_succ]
              refine take_on 2 77 (v := ?vb2) rfl rfl (by kernel_rfl) (by kernel_rfl) (by kernel_rfl) (fun _ _ _ h => h) (by rfl) ?hyb2 (by assumption) ?restb2
              case hyb2 =>
                intro w hSw
                (try dsimp only at hSw)
                go_simp
                try with_reducible rfl
              try simp only [Act.put, List.setIfInBounds_toArray, List.set_cons_zero, List.set_cons_succ]
              refine take_on 3 78 (v := ?vb3) rfl rfl (by kernel_rfl) (by kernel_rfl) (by kernel_rfl) (fun _ _ _ h => h) (by rfl) ?hyb3 (by assumption) ?restb3
              case hyb3 =>
                intro w hSw
                (try dsimp only at hSw)
                go_simp
                try with_reducible rfl
              try simp only [Act.put, List.setIfInBounds_toArray, List.set_cons_zero, List.set_cons_succ]
              refine take_on 4 79 (v := ?vb4) rfl rfl (by kernel_rfl) (by kernel_rfl) (by kernel_rfl) (fun _ _ _ h => h) (by rfl) ?hyb4 (by assumption) ?restb4
              case hyb4 =>
                intro w hSw
                (try dsimp only at hSw)
                go_simp
                try with_reducible rfl
              try simp only [Act.put, List.setIfInBounds_toArray, List.set_cons_zero, List.set_cons_succ]
              refine take_on 5 80 (v := ?vb5) rfl rfl (by kernel_rfl) (by kernel_rfl) (by kernel_rfl) (fun _ _ _ h => h) (by rfl) ?hyb5 (by assumption) ?restb5
              case hyb5 =>
                intro w hSw
                (try dsimp only at hSw)
                go_simp
                try with_reducible rfl
              try simp only [Act.put, List.setIfInBounds_toArray, List.set_cons_zero, List.set_cons_succ]
              refine take_on 6 81 (v := ?vb6) rfl rfl (by kernel_rfl) (by kernel_rfl) (by kernel_rfl) (fun _ _ _ h => h) (by rfl) ?hyb6 (by assumption) ?restb6
              case hyb6 =>
                intro w hSw
                (try dsimp only at hSw)
                go_simp
                try with_reducible rfl
              try simp only [Act.put, List.setIfInBounds_toArray, List.set_cons_zero, List.set_cons_succ]
              refine take_on 7 82 (v := ?vb7) rfl rfl (by kernel_rfl) (by kernel_rfl) (by kernel_rfl) (fun _ _ _ h => h) (by rfl) ?hyb7 (by assumption) ?restb7
              case hyb7 =>
                intro w hSw
                (try dsimp only at hSw)
                go_simp
                try with_reducible rfl
              try simp only [Act.put, List.setIfInBounds_toArray, List.set_cons_zero, List.set_cons_succ]
              refine take_on 8 83 (v := ?vb8) rfl rfl (by kernel_rfl) (by kernel_rfl) (by kernel_rfl) (fun _ _ _ h => h) (by rfl) ?hyb8 (by assumption) ?restb8
              case hyb8 =>
                intro w hSw
                (try dsimp only at hSw)
                go_simp
                try with_reducible rfl
              try simp only [Act.put, List.setIfInBounds_toArray, List.set_cons_zero, List.set_cons_succ]
              refine take_on 9 84 (v := ?vb9) rfl rfl (by kernel_rfl) (by kernel_rfl) (by kernel_rfl) (fun _ _ _ h => h) (by rfl) ?hyb9 (by assumption) ?restb9
              case hyb9 =>
                intro w hSw
                (try dsimp only at hSw)
                go_simp
                try with_reducible rfl
              try simp only [Act.put, List.setIfInBounds_toArray, List.set_cons_zero, List.set_cons_succ]
              refine take_on 10 85 (v := ?vb10) rfl rfl (by kernel_rfl) (by kernel_rfl) (by kernel_rfl) (fun _ _ _ h => h) (by rfl) ?hyb10 (by assumption) ?restb10
              case hyb10 =>
                intro w hSw
                (try dsimp only at hSw)
                go_simp
                try with_reducible rfl
              try simp only [Act.put, List.setIfInBounds_toArray, List.set_cons_zero, List.set_cons_succ]
              refine take_off 11 86 rfl rfl (by kernel_rfl) (by kernel_rfl) (by kernel_rfl) (fun _ _ _ h => h) (by rfl) (by assumption) ?_
              try simp only [Act.put, List.setIfInBounds_toArray, List.set_cons_zero, List.set_cons_succ]
              refine take_off 12 87 rfl rfl (by kernel_rfl) (by kernel_rfl) (by kernel_rfl) (fun _ _ _ h => h) (by rfl) (by assumption) ?_
              try simp only [Act.put, List.setIfInBounds_toArray, List.set_cons_zero, List.set_cons_succ]
              refine take_off 13 88 rfl rfl (by kernel_rfl) (by kernel_rfl) (by kernel_rfl) (fun _ _ _ h => h) (by rfl) (by assumption) ?_
              try simp only [Act.put, List.setIfInBounds_toArray, List.set_cons_zero, List.set_cons_succ]
              refine take_off 14 89 rfl rfl (by kernel_rfl) (by kernel_rfl) (by kernel_rfl) (fun _ _ _ h => h) (by rfl) (by assumption) ?_
              try simp only [Act.put, List.setIfInBounds_toArray, List.set_cons_zero, List.set_cons_succ]
              refine take_off 15 90 rfl rfl (by kernel_rfl) (by kernel_rfl) (by kernel_rfl) (fun _ _ _ h => h) (by rfl) (by assumption) ?_
              try simp only [Act.put, List.setIfInBounds_toArray, List.set_cons_zero, List.set_cons_succ]
              refine take_off 16 91 rfl rfl (by kernel_rfl) (by kernel_rfl) (by kernel_rfl) (fun _ _ _ h => h) (by rfl) (by assumption) ?_
              try simp only [Act.put, List.setIfInBounds_toArray, List.set_cons_zero, List.set_cons_succ]
              refine take_off 17 92 rfl rfl (by kernel_rfl) (by kernel_rfl) (by kernel_rfl) (fun _ _ _ h => h) (by rfl) (by assumption) ?_
              try simp only [Act.put, List.setIfInBounds_toArray, List.set_cons_zero, List.set_cons_succ]
              refine take_off 18 93 rfl rfl (by kernel_rfl) (by kernel_rfl) (by kernel_rfl) (fun _ _ _ h => h) (by rfl) (by assumption) ?_
              try simp only [Act.put, List.setIfInBounds_toArray, List.set_cons_zero, List.set_cons_succ]
              refine take_off 19 94 rfl rfl (by kernel_rfl) (by kernel_rfl) (by kernel_rfl) (fun _ _ _ h => h) (by rfl) (by assumption) ?_
              try simp only [Act.put, List.setIfInBounds_toArray, List.set_cons_zero, List.set_cons_succ]
              refine take_off 20 95 rfl rfl (by kernel_rfl) (by kernel_rfl) (by kernel_rfl) (fun _ _ _ h => h) (by rfl) (by assumption) ?_
              try simp only [Act.put, List.setIfInBounds_toArray, List.set_cons_zero, List.set_cons_succ]
              refine take_off 21 96 rfl rfl (by kernel_rfl) (by kernel_rfl) (by kernel_rfl) (fun _ _ _ h => h) (by rfl) (by assumption) ?_
              try simp only [Act.put, List.setIfInBounds_toArray, List.set_cons_zero, List.set_cons_succ]
              refine take_off 22 97 rfl rfl (by kernel_rfl) (by kernel_rfl) (by kernel_rfl) (fun _ _ _ h => h) (by rfl) (by assumption) ?_
              try simp only [Act.put, List.setIfInBounds_toArray, List.set_cons_zero, List.set_cons_succ]
              refine take_off 23 98 rfl rfl (by kernel_rfl) (by kernel_rfl) (by kernel_rfl) (fun _ _ _ h => h) (by rfl) (by assumption) ?_
              try simp only [Act.put, List.setIfInBounds_toArray, List.set_cons_zero, List.set_cons_succ]
              refine take_off 24 99 rfl rfl (by kernel_rfl) (by kernel_rfl) (by kernel_rfl) (fun _ _ _ h => h) (by rfl) (by assumption) ?_
              try simp only [Act.put, List.setIfInBounds_toArray, List.set_cons_zero, List.set_cons_succ]
              refine take_on 25 100 (v := ?vb25) rfl rfl (by kernel_rfl) (by kernel_rfl) (by kernel_rfl) (fun _ _ _ h => h) (by rfl) ?hyb25 (by assumption) ?restb25
              case hyb25 =>
                intro w hSw
                (try dsimp only at hSw)
                go_simp
                try with_reducible rfl
              try simp only [Act.put, List.setIfInBounds_toArray, List.set_cons_zero, List.set_cons_succ]
              refine wpAnyH_done (by kernel_rfl) ?_ _
              go_wp2_with fail
              go_ret2
              exact HEND.out _ (Below.refl _ wr).drew HNO.out
          · have HBAD := Lib.hid hbad
            have HS := Lib.hid (show ∀ w', Below wr.heap.size wr w' → (w'.cell? ⟨gm, 5, none⟩ = some (.bool true) ∧ w'.cell? ⟨gm, 2, none⟩ = some (.slice na sA.nodes.length nc) ∧ w'.cell? ⟨gt, 1, none⟩ = some (.map (some bfn)) ∧ (∀ ty, (Builtin.len_ #[53] ty #[.map (some bd)]).run Tryz.prog w' = .ok (.int .i64 D.length) w') ∧ (∀ ty, (Builtin.len_ #[75] ty #[.map (some bfn)]).run Tryz.prog w' = .ok (.int .i64 Fm.length) w')) from fun w' k => by have := HS0.out w' k; rw [hbad] at this; exact this)
            clear hbad
            refine wp_region_held_drew (S := fun w' => w'.cell? ⟨gm, 5, none⟩ = some (.bool true) ∧ w'.cell? ⟨gm, 2, none⟩ = some (.slice na sA.nodes.length nc) ∧ w'.cell? ⟨gt, 1, none⟩ = some (.map (some bfn)) ∧ (∀ ty, (Builtin.len_ #[53] ty #[.map (some bd)]).run Tryz.prog w' = .ok (.int .i64 D.length) w') ∧ (∀ ty, (Builtin.len_ #[75] ty #[.map (some bfn)]).run Tryz.prog w' = .ok (.int .i64 Fm.length) w')) (by kernel_rfl) (HS.out _ (Below.refl _ wr).drew) (fun hHeld => ?_)
            refine take_on 0 75 (v := ?va0) rfl rfl (by kernel_rfl) (by kernel_rfl) (by kernel_rfl) (fun _ _ _ h => h) (by rfl) ?hya0 (by assumption) ?resta0
            case hya0 =>
              intro w hSw
              (try dsimp only at hSw)
              go_simp
              try with_reducible rfl
            try simp only [Act.put, List.setIfInBounds_toArray, List.set_cons_zero, List.set_cons_succ]
            refine take_on 1 76 (v := ?va1) rfl rfl (by kernel_rfl) (by kernel_rfl) (by kernel_rfl) (fun _ _ _ h => h) (by rfl) ?hya1 (by assumption) ?resta1
            case hya1 =>
              intro w hSw
              (try dsimp only at hSw)
              go_simp
              try with_reducible rfl
            try simp only [Act.put, List.setIfInBounds_toArray, List.set_cons_zero, List.set_cons_succ]
            refine take_on 2 77 (v := ?va2) rfl rfl (by kernel_rfl) (by kernel_rfl) (by kernel_rfl) (fun _ _ _ h => h) (by rfl) ?hya2 (by assumption) ?resta2
            case hya2 =>
              intro w hSw
              (try dsimp only at hSw)
              go_simp
              try with_reducible rfl
            try simp only [Act.put, List.setIfInBounds_toArray, List.set_cons_zero, List.set_cons_succ]
            refine take_on 3 78 (v := ?va3) rfl rfl (by kernel_rfl) (by kernel_rfl) (by kernel_rfl) (fun _ _ _ h => h) (by rfl) ?hya3 (by assumption) ?resta3
            case hya3 =>
              intro w hSw
              (try dsimp only at hSw)
              go_simp
              try with_reducible rfl
            try simp only [Act.put, List.setIfInBounds_toArray, List.set_cons_zero, List.set_cons_succ]
            refine take_on 4 79 (v := ?va4) rfl rfl (by kernel_rfl) (by kernel_rfl) (by kernel_rfl) (fun _ _ _ h => h) (by rfl) ?hya4 (by assumption) ?resta4
            case hya4 =>
              intro w hSw
              (try dsimp only at hSw)
              go_simp
              try with_reducible rfl
            try simp only [Act.put, List.setIfInBounds_toArray, List.set_cons_zero, List.set_cons_succ]
            refine take_off 5 80 rfl rfl (by kernel_rfl) (by kernel_rfl) (by kernel_rfl) (fun _ _ _ h => h) (by rfl) (by assumption) ?_
            try simp only [Act.put, List.setIfInBounds_toArray, List.set_cons_zero, List.set_cons_succ]
            refine take_off 6 81 rfl rfl (by kernel_rfl) (by kernel_rfl) (by kernel_rfl) (fun _ _ _ h => h) (by rfl) (by assumption) ?_
            try simp only [Act.put, List.setIfInBounds_toArray, List.set_cons_zero, List.set_cons_succ]
            refine take_off 7 82 rfl rfl (by kernel_rfl) (by kernel_rfl) (by kernel_rfl) (fun _ _ _ h => h) (by rfl) (by assumption) ?_
            try simp only [Act.put, List.setIfInBounds_toArray, List.set_cons_zero, List.set_cons_succ]
            refine take_off 8 83 rfl rfl (by kernel_rfl) (by kernel_rfl) (by kernel_rfl) (fun _ _ _ h => h) (by rfl) (by assumption) ?_
            try simp only [Act.put, List.setIfInBounds_toArray, List.set_cons_zero, List.set_cons_succ]
            refine take_on 9 84 (v := ?va9) rfl rfl (by kernel_rfl) (by kernel_rfl) (by kernel_rfl) (fun _ _ _ h => h) (by rfl) ?hya9 (by assumption) ?resta9
            case hya9 =>
              intro w hSw
              (try dsimp only at hSw)
              go_simp
              try with_reducible rfl
            try simp only [Act.put, List.setIfInBounds_toArray, List.set_cons_zero, List.set_cons_succ]
            refine take_on 10 85 (v := ?va10) rfl rfl (by kernel_rfl) (by kernel_rfl) (by kernel_rfl) (fun _ _ _ h => h) (by rfl) ?hya10 (by assumption) ?resta10
            case hya10 =>
              intro w hSw
              (try dsimp only at hSw)
              go_simp
              try with_reducible rfl
            try simp only [Act.put, List.setIfInBounds_toArray, List.set_cons_zero, List.set_cons_succ]
            refine take_off 11 86 rfl rfl (by kernel_rfl) (by kernel_rfl) (by kernel_rfl) (fun _ _ _ h => h) (by rfl) (by assumption) ?_
            try simp only [Act.put, List.setIfInBounds_toArray, List.set_cons_zero, List.set_cons_succ]
            refine take_off 12 87 rfl rfl (by kernel_rfl) (by kernel_rfl) (by kernel_rfl) (fun _ _ _ h => h) (by rfl) (by assumption) ?_
            try simp only [Act.put, List.setIfInBounds_toArray, List.set_cons_zero, List.set_cons_succ]
            refine take_off 13 88 rfl rfl (by kernel_rfl) (by kernel_rfl) (by kernel_rfl) (fun _ _ _ h => h) (by rfl) (by assumption) ?_
            try simp only [Act.put, List.setIfInBounds_toArray, List.set_cons_zero, List.set_cons_succ]
            refine take_off 14 89 rfl rfl (by kernel_rfl) (by kernel_rfl) (by kernel_rfl) (fun _ _ _ h => h) (by rfl) (by assumption) ?_
            try simp only [Act.put, List.setIfInBounds_toArray, List.set_cons_zero, List.set_cons_succ]
            refine take_off 15 90 rfl rfl (by kernel_rfl) (by kernel_rfl) (by kernel_rfl) (fun _ _ _ h => h) (by rfl) (by assumption) ?_
            try simp only [Act.put, List.setIfInBounds_toArray, List.set_cons_zero, List.set_cons_succ]
            refine take_off 16 91 rfl rfl (by kernel_rfl) (by kernel_rfl) (by kernel_rfl) (fun _ _ _ h => h) (by rfl) (by assumption) ?_
            try simp only [Act.put, List.setIfInBounds_toArray, List.set_cons_zero, List.set_cons_succ]
            refine take_off 17 92 rfl rfl (by kernel_rfl) (by kernel_rfl) (by kernel_rfl) (fun _ _ _ h => h) (by rfl) (by assumption) ?_
            try simp only [Act.put, List.setIfInBounds_toArray, List.set_cons_zero, List.set_cons_succ]
            refine take_off 18 93 rfl rfl (by kernel_rfl) (by kernel_rfl) (by kernel_rfl) (fun _ _ _ h => h) (by rfl) (by assumption) ?_
            try simp only [Act.put, List.setIfInBounds_toArray, List.set_cons_zero, List.set_cons_succ]
            refine take_off 19 94 rfl rfl (by kernel_rfl) (by kernel_rfl) (by kernel_rfl) (fun _ _ _ h => h) (by rfl) (by assumption) ?_
            try simp only [Act.put, List.setIfInBounds_toArray, List.set_cons_zero, List.set_cons_succ]
            refine take_off 20 95 rfl rfl (by kernel_rfl) (by kernel_rfl) (by kernel_rfl) (fun _ _ _ h => h) (by rfl) (by assumption) ?_
            try simp only [Act.put, List.setIfInBounds_toArray, List.set_cons_zero, List.set_cons_succ]
            refine take_off 21 96 rfl rfl (by kernel_rfl) (by kernel_rfl) (by kernel_rfl) (fun _ _ _ h => h) (by rfl) (by assumption) ?_
            try simp only [Act.put, List.setIfInBounds_toArray, List.set_cons_zero, List.set_cons_succ]
            refine take_off 22 97 rfl rfl (by kernel_rfl) (by kernel_rfl) (by kernel_rfl) (fun _ _ _ h => h) (by rfl) (by assumption) ?_
            try simp only [Act.put, List.setIfInBounds_toArray, List.set_cons_zero, List.set_cons_succ]
            refine take_off 23 98 rfl rfl (by kernel_rfl) (by kernel_rfl) (by kernel_rfl) (fun _ _ _ h => h) (by rfl) (by assumption) ?_
            try simp only [Act.put, List.setIfInBounds_toArray, List.set_cons_zero, List.set_cons_succ]
            refine take_off 24 99 rfl rfl (by kernel_rfl) (by kernel_rfl) (by kernel_rfl) (fun _ _ _ h => h) (by rfl) (by assumption) ?_
            try simp only [Act.put, List.setIfInBounds_toArray, List.set_cons_zero, List.set_cons_succ]
            refine take_on 25 100 (v := ?va25) rfl rfl (by kernel_rfl) (by kernel_rfl) (by kernel_rfl) (fun _ _ _ h => h) (by rfl) ?hya25 (by assumption) ?resta25
            case hya25 =>
              intro w hSw
              (try dsimp only at hSw)
              go_simp
              try with_reducible rfl
            try simp only [Act.put, List.setIfInBounds_toArray, List.set_cons_zero, List.set_cons_succ]
            refine wpAnyH_done (by kernel_rfl) ?_ _
            go_wp2_with fail
            go_ret2
            exact HEND.out _ (Below.refl _ wr).drew (fun q => by rw [HBAD.out] at q; cases q.1)
        · intro k xv xl w6 hgk hlk hir6 hlt6 hk6 hen
          have hmem := mget_mem hgk
          have hfr : ∀ i, tfoot gt bdn bfn gpn bpn vpn D' i → ¬ i = r := fun i q => (HFT.out i q).2
          have hmt6 := HMT.out.keep hk6 hfr
          have hgmr : gm ≠ r ∧ bc ≠ r ∧ (∀ i, nv.ownBlock = some i → i ≠ r) := by
            have h3 := HRB.out
            have := HL3.out
            exact ⟨by omega, by omega, fun i e => by have := HL3.out.2.2 i e; omega⟩
          have hmc6 := HMC.out.keep hk6 hgmr.1 hgmr.2.1 (fun i e q => hgmr.2.2 i e q) (fun i q => by subst q; exact HRW.out)
          have hrow : Arg EEnt w6 xv xl := (hr _ hmem).below hmc6.bel
          have hln : xl.length ≤ 100000 := (hl _ hmem).1
          have g0 : w6.cell? ⟨gt, 0, none⟩ = some (.map (some bdn)) := (m_cells hmt6.blk).1 0
          have HS6 := Lib.hid (show ∀ w', Keep (fun i => i = bdn) w6 w' → w'.cell? ⟨gt, 0, none⟩ = some (.map (some bdn)) from fun w' k => (m_cells (m_keep hmt6.blk k (fun e => hmt6.s1.1 e.symm))).1 0)
          have HCL := Lib.hid (show ∀ W, Below w6.heap.size w6 W → Calls Tryz.prog 37 #[xv] W (fun e w' => ∃ v', e = .returned v' ∧ Row EEnt w' W.heap.size v' xl ∧ Below W.heap.size W w') from fun W hb => eclone_any (l := xl) W (hrow.below hb) (by omega))
          have HMT6 := Lib.hid hmt6
          have HMC6 := Lib.hid hmc6
          have HIR6 := Lib.hid hir6
          have HGK := Lib.hid hgk
          have HLK := Lib.hid hlk
          have HLT6 := Lib.hid hlt6
          have HROW := Lib.hid hrow
          have hrow0 : Arg EEnt w xv xl := hr _ hmem
          have HROW0 := Lib.hid hrow0
          obtain ⟨xa, xc, rfl⟩ := hrow.shape
          clear hmem hfr hmt6 hmc6 hrow hrow0 hir6 hk6 hgk hlk hlt6
          simp only [encDE] at hen ⊢
          go_wp2_with fail
          go_cut [10] from 1000 (fun s10 wx => s10 = .int .i64 (1 + (dcnt (seenE D left) : Int)) ∧ ∃ v6, MAt wx gt bdn bfn gpn bpn vpn (mput D' k (v6, xl)) Fm p0 cookie ∧ (∀ i, v6.ownBlock = some i → w6.heap.size ≤ i) ∧ Keep (fun i => i = bdn) w6 wx)
          case first =>
            go_region_held3 (fun w' => w'.cell? ⟨gt, 0, none⟩ = some (.map (some bdn)))
              (first | exact HS6.out _ hk8 | exact HS6.out _ hk7 | exact HS6.out _ ((Keep.refl _ _).drew))
              (first
               | (go_at_call 37
                  refine (HCL.out w6.drew (Below.refl _ w6).drew).mono ?_
                  rintro e w7 ⟨v7, rfl, hr7, hb7⟩
                  have hb7 : Below w6.heap.size w6 w7 := (Below.refl _ w6).drew.trans hb7
                  have hr7 : Row EEnt w7 w6.heap.size v7 xl := hr7
                  have hk7 : Keep (fun i => i = bdn) w6 w7 := (Keep.below hb7).mono (fun i q => Or.inr q)
                  obtain ⟨w8, hrun, hm8, hk8'⟩ := (HMT6.out.below hb7).dm.update (P := Tryz.prog) Tryz.underlying53 Tryz.underlying3 k (v7, xl)
                  simp only [encDE] at hrun
                  have hk8 : Keep (fun i => i = bdn) w6 w8 := hk7.trans hk8'
                  have HM8 := Lib.hid hm8
                  have HR7 := Lib.hid hr7
                  have HKK := Lib.hid hk8'
                  have hb7s := hb7.size
                  clear hm8 hr7 hk8' hb7))
            all_goals
              go_wp2
              go_meet
              case rel =>
                exact ⟨rfl, v7, HMT6.out.turned (hk8.mono (fun i q => Or.inl (Or.inr q))) (m_keep HMT6.out.blk hk8 (fun e => HMT6.out.s1.1 e.symm)) HM8.out (RowO.of_row ((HR7.out.keep HKK.out (fun i hi e => by have := HR7.out.ge hi; have := HMT6.out.dm.lt; omega)).mono (Nat.zero_le _))) (fun i hi => HR7.out.ge hi), fun i hi => HR7.out.ge hi, hk8⟩
          case rest =>
            rename World => w9
            obtain ⟨rfl, v9, hmt9, hv9, hk9⟩ := hcut
            have hbdn : W3.heap.size ≤ bdn ∧ bdn ≠ r := HFT.out bdn (Or.inr (Or.inl rfl))
            obtain ⟨hir9, hrl9⟩ := HIR6.out.keep hk9 (fun e => by have := hD.lt; have := HRB.out; have := HW3.out; omega) (fun e => hbdn.2 e.symm)
            have hmc9 := HMC6.out.keep hk9 (fun e => by have := HL3.out.1; omega) (fun e => by have := HL3.out.2.1; omega) (fun i e q => by have := HL3.out.2.2 i e; omega) (fun i q => by have := HW3.out; omega)
            have hft9 : ∀ k', tfoot gt bdn bfn gpn bpn vpn (mput D' k (v9, xl)) k' → W3.heap.size ≤ k' ∧ k' ≠ r := fun k' q => by
              rcases q with q | q | q | q | ⟨y, hy, q⟩
              · exact HFT.out k' (Or.inl q)
              · exact HFT.out k' (Or.inr (Or.inl q))
              · exact HFT.out k' (Or.inr (Or.inr (Or.inl q)))
              · exact HFT.out k' (Or.inr (Or.inr (Or.inr (Or.inl q))))
              · rcases mem_mput_de hy with z | z
                · exact HFT.out k' (Or.inr (Or.inr (Or.inr (Or.inr ⟨y, z, q⟩))))
                · rw [z] at q
                  have h1 := hv9 k' q
                  have h2 := HMT6.out.dm.lt
                  have h3 := HIR6.out.lt
                  omega
            have HMT9 := Lib.hid hmt9
            have HFT9 := Lib.hid hft9
            have HIR9 := Lib.hid hir9
            have HMC9 := Lib.hid hmc9
            have HRL9 := Lib.hid hrl9
            clear hmt9 hft9 hir9 hmc9 hrl9 hv9 hk9
            have hsl := seen_le (fun x hx => (hl x hx).1) left
            have hdc := dcnt_le (seenE D left)
            have hdm : D.length * 100000 ≤ 10000000000 := Nat.mul_le_mul hdl (Nat.le_refl 100000)
            obtain ⟨m0, hm0⟩ : ∃ m0 : Nat, 1 + dcnt (seenE D left) = m0 := ⟨_, rfl⟩
            have hm0b : m0 ≤ 10000000001 := by omega
            have hm0i : (1 : Int) + (dcnt (seenE D left) : Int) = (m0 : Int) := by omega
            rw [hm0i]
            obtain ⟨CC, hCC⟩ : ∃ CC, w9.rangeLeft bd r = CC := ⟨_, rfl⟩
            have HCC := Lib.hid hCC
            have HM0 := Lib.hid hm0
            have hsti : MkIn w gm bd bc nv nm cookie sA D (fun j => left j && !decide (j = k)) r W3.heap.size gt bdn bfn gpn bpn vpn p0 (mput D' k (v9, xl)) Fm xl m0 CC (.int .i64 m0) (.int .i64 0) w9 :=
              ⟨0, Fm, rfl, by simp [dcnt], Nat.zero_le _, HIR9.out, hCC, HMT9.out, HMC9.out, fun n => ⟨fun q => by obtain ⟨e, he, _⟩ := q; simp at he, fun _ => rfl⟩⟩
            have HSTI := Lib.hid hsti
            clear hsti hCC hm0 hm0i hsl hdc hdm HMT9 HIR9 HMC9
            go_wp2_with fail
            go_loopw [10, 60] (fun mv iv wr => MkIn w gm bd bc nv nm cookie sA D (fun j => left j && !decide (j = k)) r W3.heap.size gt bdn bfn gpn bpn vpn p0 (mput D' k (v9, xl)) Fm xl m0 CC mv iv wr) (fun _ iv _ => xl.length - (intOf iv).toNat)
            case atStart => exact HSTI.out
            case round =>
              rename World => wq
              obtain ⟨i, Fm', rfl, rfl, hi, hirq, hrlq, hmtq, hmcq, hfmq⟩ := hrel
              clear HSTI
              have HIQ := Lib.hid hirq
              have HRQ := Lib.hid hrlq
              have HTQ := Lib.hid hmtq
              have HCQ := Lib.hid hmcq
              have HFQ := Lib.hid hfmq
              clear hirq hrlq hmtq hmcq hfmq
              have hdt := dcnt_le (xl.take i)
              have htl : (xl.take i).length ≤ 100000 := by rw [List.length_take]; omega
              by_cases hlt : i < xl.length
              · have i1 : (i : Int) < xl.length := by omega
                obtain ⟨x, hx⟩ : ∃ x, xl[i]? = some x := ⟨_, List.getElem?_eq_getElem hlt⟩
                obtain ⟨g1, o1, rfl, -, y0, y1, y2, y3, y4⟩ := ent_cells (HROW0.out.below HCQ.out.bel) i x hx
                have HX := Lib.hid (show xl.take (i + 1) = xl.take i ++ [x] from by rw [List.take_add_one, hx]; rfl)
                clear hx
                have hb1 : Below wq.heap.size wq (wq.alloc (.cells #[.string x.name, .int .i64 x.node, .bool x.dir, .int .i64 x.cookie, .int .i64 x.short] 84)) := (Below.refl _ wq).alloc (Nat.le_refl _) _
                obtain ⟨BB, hBB⟩ : ∃ BB, wq.heap.size = BB := ⟨_, rfl⟩
                have hbx := m_alloc wq (.cells #[.string x.name, .int .i64 x.node, .bool x.dir, .int .i64 x.cookie, .int .i64 x.short] 84) BB hBB
                obtain ⟨W1', hW1⟩ : ∃ W1', wq.alloc (.cells #[.string x.name, .int .i64 x.node, .bool x.dir, .int .i64 x.cookie, .int .i64 x.short] 84) = W1' := ⟨_, rfl⟩
                rw [hW1] at hb1 hbx
                obtain ⟨d, hd⟩ : ∃ d, x.dir = d := ⟨_, rfl⟩
                have hz2 : W1'.cell? ⟨BB, 2, none⟩ = some (.bool d) := by rw [← hd]; exact (m_cells hbx).1 2
                have hz1 : W1'.cell? ⟨BB, 1, none⟩ = some (.int .i64 x.node) := (m_cells hbx).1 1
                have HTQ1 := Lib.hid (HTQ.out.below hb1)
                have HCQ1 := Lib.hid (HCQ.out.below hb1)
                obtain ⟨hirq1, hrlq1⟩ := HIQ.out.keep (Keep.below hb1) (fun q => by have := HIQ.out.imap.lt; omega) (fun q => by have := HIQ.out.lt; omega)
                have HIQ1 := Lib.hid hirq1
                have HRQ1 := Lib.hid (hrlq1.trans HRQ.out)
                have HDD := Lib.hid hd
                have HBX := Lib.hid hbx
                have hgBB : ¬ gt = BB := by have := m_lt HTQ.out.blk; omega
                have hbfB : ¬ BB = bfn := by have := HTQ.out.fm.lt; omega
                clear hirq1 hrlq1 hb1 hbx HTQ HCQ HIQ HRQ hd
                cases d
                · have hg1' : W1'.cell? ⟨gt, 1, none⟩ = some (.map (some bfn)) := (m_cells HTQ1.out.blk).1 1
                  have HS1 := Lib.hid (show ∀ w', Keep (fun i => i = bfn) W1' w' → (w'.cell? ⟨gt, 1, none⟩ = some (.map (some bfn)) ∧ w'.cell? ⟨BB, 1, none⟩ = some (.int .i64 x.node)) from fun w' k => ⟨(m_cells (m_keep HTQ1.out.blk k (fun e => HTQ1.out.s1.2.1 e.symm))).1 1, (m_cells (m_keep HBX.out k hbfB)).1 1⟩)
                  have HDC := Lib.hid (show dcnt (xl.take (i + 1)) = dcnt (xl.take i) from by rw [HX.out, dcnt_app]; simp [dcnt, HDD.out])
                  have HFI := Lib.hid (show ∀ n, fileIn (xl.take (i + 1)) n ↔ fileIn (xl.take i) n ∨ n = x.node from fun n => by
                    rw [HX.out, fileIn_app]
                    refine ⟨fun q => q.imp id (fun q => ?_), fun q => q.imp id (fun q => ⟨x, by simp, HDD.out, q.symm⟩)⟩
                    obtain ⟨e, he, _, h2⟩ := q
                    simp at he; subst he; exact h2.symm)
                  obtain ⟨w8, hrun, hm8, hk8⟩ := (HTQ1.out.fm.keep (F := fun _ => False) (Keep.refl _ W1').drew (fun q => q)).update (P := Tryz.prog) Tryz.underlying75 Tryz.underlying3 x.node (1 : Int)
                  have hk8' : Keep (fun i => i = bfn) W1' w8 := (Keep.refl _ W1').drew.trans hk8
                  have HM8 := Lib.hid hm8
                  obtain ⟨hirq8, hrlq8⟩ := HIQ1.out.keep hk8' (fun e => by have := HIQ1.out.imap.lt; have := hD.lt; have := HW3.out; have := (HFT9.out bfn (Or.inr (Or.inr (Or.inl rfl)))).1; omega) (fun e => (HFT9.out bfn (Or.inr (Or.inr (Or.inl rfl)))).2 e.symm)
                  have HIQ8 := Lib.hid hirq8
                  have HRQ8 := Lib.hid (hrlq8.trans HRQ1.out)
                  have HCQ8 := Lib.hid (HCQ1.out.keep hk8' (fun e => by have := HL3.out.1; have := (HFT9.out bfn (Or.inr (Or.inr (Or.inl rfl)))).1; omega) (fun e => by have := HL3.out.2.1; have := (HFT9.out bfn (Or.inr (Or.inr (Or.inl rfl)))).1; omega) (fun i e q => by have := HL3.out.2.2 i e; have := (HFT9.out bfn (Or.inr (Or.inr (Or.inl rfl)))).1; omega) (fun i q => by have := HW3.out; have := (HFT9.out bfn (Or.inr (Or.inr (Or.inl rfl)))).1; omega))
                  clear hm8 hk8 hirq8 hrlq8
                  go_wp2_with fail
                  go_region_held3 (fun w' => w'.cell? ⟨gt, 1, none⟩ = some (.map (some bfn)) ∧ w'.cell? ⟨BB, 1, none⟩ = some (.int .i64 x.node))
                    (first | exact HS1.out _ (Keep.refl _ W1').drew | exact HS1.out _ hk8')
                    (fail)
                  all_goals
                    go_wp2_with fail
                    refine ⟨⟨i + 1, mput Fm' x.node 1, by go_num, by rw [HDC.out], hlt, HIQ8.out, HRQ8.out, HTQ1.out.filed HM8.out hk8', HCQ8.out, fun n => ?_⟩, by simp [intOf]; omega⟩
                    rw [HFI.out n, mget_put]
                    obtain ⟨q1, q2⟩ := HFQ.out n
                    by_cases en : n = x.node
                    · exact ⟨fun _ => by rw [if_pos en], fun q => absurd (Or.inr en) q⟩
                    · exact ⟨fun q => by rw [if_neg en]; exact q1 (q.resolve_right en), fun q => by rw [if_neg en]; exact q2 (fun y => q (Or.inl y))⟩
                · have HDC := Lib.hid (show dcnt (xl.take (i + 1)) = dcnt (xl.take i) + 1 from by rw [HX.out, dcnt_app]; simp [dcnt, HDD.out])
                  have HFI := Lib.hid (show ∀ n, fileIn (xl.take (i + 1)) n ↔ fileIn (xl.take i) n from fun n => by
                    rw [HX.out, fileIn_app]
                    refine ⟨fun q => q.elim id (fun q => ?_), Or.inl⟩
                    obtain ⟨e, he, h1, _⟩ := q
                    simp at he; subst he; rw [HDD.out] at h1; cases h1)
                  go_wp2_with fail
                  refine ⟨⟨i + 1, Fm', by go_num, ?_, hlt, HIQ1.out, HRQ1.out, HTQ1.out, HCQ1.out, fun n => by rw [HFI.out n]; exact HFQ.out n⟩, by simp [intOf]; omega⟩
                  rw [HDC.out]
                  first
                  | (congr 1; done)
                  | (congr 1; push_cast; omega)
              · have ei : i = xl.length := by omega
                subst ei
                have i2 : ¬ ((xl.length : Int) < xl.length) := by omega
                rw [List.take_length] at HFQ ⊢
                go_wp2_with fail
                have HPM := Lib.hid (seen_step HD0.out HGK.out HLK.out)
                refine ⟨⟨_, _, Fm', ?_, HIQ.out, HTQ.out, HFT9.out, HCQ.out, fun d v l' e q => ?_, fun d h0 e => ?_, fun n => ?_⟩, ?_⟩
                · rw [dcnt_perm HPM.out, dcnt_app]
                  have := HM0.out
                  congr 1; push_cast; omega
                · rw [mget_put]
                  by_cases ed : d = k
                  · subst ed
                    have := HGK.out
                    rw [this] at e
                    simp only [Option.some.injEq, Prod.mk.injEq] at e
                    exact ⟨_, by rw [if_pos rfl, e.2]⟩
                  · rw [if_neg ed]
                    exact HJ1.out d v l' e (by simpa [ed] using q)
                · rw [mget_put]
                  have ed : d ≠ k := fun q => by rw [q, HGK.out] at e; cases e
                  rw [if_neg ed]
                  exact HJ2.out d h0 e
                · rw [fileIn_perm HPM.out, fileIn_app]
                  obtain ⟨q1, q2⟩ := HFQ.out n
                  obtain ⟨z1, z2⟩ := HFM.out n
                  constructor
                  · rintro (q | q)
                    · by_cases qq : fileIn xl n
                      · exact q1 qq
                      · rw [q2 qq]; exact z1 q
                    · exact q1 q
                  · intro q
                    rw [q2 (fun y => q (Or.inr y))]
                    exact z2 (fun y => q (Or.inl y))
                · rw [HRQ.out, ← HCC.out, HRL9.out]; exact HLT6.out
end Go.Proofs.YtolilbcpfdnkjaaGreat
