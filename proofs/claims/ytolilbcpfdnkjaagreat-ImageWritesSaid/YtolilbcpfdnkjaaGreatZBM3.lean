/- tree.Make: dir: a directory, and all below it. -/
import Derived.Test.YtolilbcpfdnkjaaGreatZBM2
namespace Go.Proofs.YtolilbcpfdnkjaaGreat
open Go.RowKit
set_option linter.unusedSimpArgs false
set_option linter.unusedVariables false
def dget (D : List (Int × DE)) (n : Int) : List Ent := ((mget D n).map (·.2)).getD []
def mkEnts (cookie : Int) (D : List (Int × DE)) : MkS → List ByteArray → List Ent → MkS
  | s, _, [] => s
  | s, ns, x :: l => mkEnts cookie D (s.entry cookie D ns x) (ns ++ [x.name]) l
noncomputable def sortedB (l : List Ent) : Bool := by classical exact decide (SortedE l)
theorem sortedB_iff (l : List Ent) : sortedB l = true ↔ SortedE l := by unfold sortedB; simp
/-- What a maker has met behind a directory; fuel: how deep it may go. -/
noncomputable def mkDir (cookie : Int) (D : List (Int × DE)) : Nat → MkS → Int → MkS
  | 0, s, _ => s
  | f + 1, s, n => (dget D n).foldl (fun s e => if (e.dir && !s.bad) = true then mkDir cookie D f s e.node else s) (mkEnts cookie D { s with bad := s.bad || !sortedB (dget D n) } [] (dget D n))
/-- While nothing is wrong: numbers of nodes, no one twice. -/
def MkS.Good (s : MkS) : Prop := s.bad = false → s.nodes.Nodup ∧ ∀ n ∈ s.nodes, 1 ≤ n ∧ n ≤ 200
theorem MkS.Good.len {s : MkS} (h : s.Good) (hb : s.bad = false) : s.nodes.length ≤ 200 := by
  obtain ⟨h1, h2⟩ := h hb
  exact nodup_bound 200 s.nodes h1 h2
theorem MkS.Good.entry {s : MkS} (h : s.Good) (cookie : Int) (D : List (Int × DE)) (ns : List ByteArray) (x : Ent) : (s.entry cookie D ns x).Good := by
  intro hb
  unfold MkS.entry at hb ⊢
  simp only [Bool.or_eq_false_iff, Bool.not_eq_false'] at hb
  obtain ⟨⟨h1, h2⟩, h3⟩ := hb
  obtain ⟨n1, n2⟩ := h h1
  unfold entOk1 at h2
  unfold entOk2 at h3
  simp only [Bool.and_eq_true, decide_eq_true_eq] at h2 h3
  refine ⟨?_, fun n hn => ?_⟩
  · rw [List.nodup_append]
    exact ⟨n1, by simp, fun a ha b hb e => by simp at hb; subst hb; subst e; exact h3.2.2.2.1 ha⟩
  · rcases List.mem_append.1 hn with q | q
    · exact n2 n q
    · simp at q; subst q; exact ⟨h2.2.1, h2.2.2.1⟩
theorem MkS.Good.ents {cookie : Int} {D : List (Int × DE)} (l : List Ent) : ∀ {s : MkS} {ns : List ByteArray}, s.Good → (mkEnts cookie D s ns l).Good := by
  induction l with
  | nil => intro s ns h; exact h
  | cons x l ih => intro s ns h; exact ih (h.entry _ _ _ _)
theorem mkEnts_nodes {cookie : Int} {D : List (Int × DE)} (l : List Ent) : ∀ {s : MkS} {ns : List ByteArray}, (mkEnts cookie D s ns l).nodes = s.nodes ++ l.map (·.node) := by
  induction l with
  | nil => intro s ns; simp [mkEnts]
  | cons x l ih => intro s ns; rw [mkEnts, ih]; simp [MkS.entry]
theorem mkEnts_snoc {cookie : Int} {D : List (Int × DE)} (l : List Ent) (x : Ent) : ∀ {s : MkS} {ns : List ByteArray}, mkEnts cookie D s ns (l ++ [x]) = (mkEnts cookie D s ns l).entry cookie D (ns ++ l.map (·.name)) x := by
  induction l with
  | nil => intro s ns; simp [mkEnts]
  | cons y l ih => intro s ns; rw [List.cons_append, mkEnts, ih, mkEnts]; simp
theorem MkS.Good.dir {cookie : Int} {D : List (Int × DE)} : ∀ (f : Nat) {s : MkS} (n : Int), s.Good → (mkDir cookie D f s n).Good := by
  intro f
  induction f with
  | zero => intro s n h; exact h
  | succ f ih =>
    intro s n h
    unfold mkDir
    have h1 : (mkEnts cookie D { s with bad := s.bad || !sortedB (dget D n) } [] (dget D n)).Good := MkS.Good.ents _ (fun hb => h (by simp at hb; exact hb.1))
    revert h1
    generalize mkEnts cookie D { s with bad := s.bad || !sortedB (dget D n) } [] (dget D n) = s2
    generalize dget D n = l
    induction l generalizing s2 with
    | nil => intro h; exact h
    | cons x l il =>
      intro h
      rw [List.foldl_cons]
      refine il _ ?_
      split
      · exact ih _ h
      · exact h
theorem mkDir_nodes {cookie : Int} {D : List (Int × DE)} : ∀ (f : Nat) {s : MkS} (n : Int), s.nodes.length ≤ (mkDir cookie D f s n).nodes.length := by
  intro f
  induction f with
  | zero => intro s n; exact Nat.le_refl _
  | succ f ih =>
    intro s n
    unfold mkDir
    have h1 : s.nodes.length ≤ (mkEnts cookie D { s with bad := s.bad || !sortedB (dget D n) } [] (dget D n)).nodes.length := by rw [mkEnts_nodes]; simp
    revert h1
    generalize mkEnts cookie D { s with bad := s.bad || !sortedB (dget D n) } [] (dget D n) = s2
    generalize dget D n = l
    induction l generalizing s2 with
    | nil => intro h; exact h
    | cons x l il =>
      intro h
      rw [List.foldl_cons]
      refine il _ ?_
      split
      · exact Nat.le_trans h (ih _)
      · exact h
theorem MkC.setNm {w0 w : World} {gm bd bc : Nat} {nv nm : Value} {cookie : Int} {s : MkS} (h : MkC w0 w gm bd bc nv nm cookie s) (v : Value) : MkC w0 (w.setCell ⟨gm, 4, none⟩ v) gm bd bc nv v cookie s := by
  have k : Keep (fun i => i = gm) w (w.setCell ⟨gm, 4, none⟩ v) := (Keep.refl _ w).set gm 4 _ (Or.inl rfl)
  exact ⟨m_set h.blk 4 _, h.row.keep k (fun i e q => (h.g3 i e).1 q), h.cm.keep k (fun q => h.g4 q.symm), h.bel.trans (k.toBelow h.bel.size (fun i q => by subst q; exact h.g1)), h.g1, h.g2, h.g3, h.g4⟩
theorem dlook {w0 : World} {bd : Nat} {D : List (Int × DE)} (hD : IMap encDE w0 bd D) (hr : ∀ x ∈ D, Arg EEnt w0 x.2.1 x.2.2) (n : Int) :
    ∃ v, Arg EEnt w0 v (dget D n) ∧ ∀ W, Below w0.heap.size w0 W → (Instr.lookup 53 (.map (some bd)) (.int .i64 n) false).run Tryz.prog W = .ok v W := by
  have key : ∀ W, Below w0.heap.size w0 W → _ := fun W hb => (hD.keep (Keep.below hb) (fun q => by have := hD.lt; omega)).lookup (P := Tryz.prog) Tryz.underlying53 Tryz.underlying3 zero_ents n false
  cases hm : mget D n with
  | none =>
    refine ⟨.slice none 0 0, ?_, fun W hb => ?_⟩
    · unfold dget; rw [hm]; exact Arg.nil _ _
    · have := key W hb
      rw [hm] at this; exact this
  | some x =>
    refine ⟨x.1, ?_, fun W hb => ?_⟩
    · unfold dget; rw [hm]; exact hr _ (mget_mem hm)
    · have := key W hb
      rw [hm] at this; exact this
theorem dget_ok {D : List (Int × DE)} (hl : ∀ x ∈ D, x.2.2.length ≤ 100000 ∧ ∀ e ∈ x.2.2, e.name.size ≤ maxLen) (n : Int) : (dget D n).length ≤ 100000 ∧ ∀ e ∈ dget D n, e.name.size ≤ maxLen := by
  unfold dget
  cases hm : mget D n with
  | none => exact ⟨Nat.zero_le _, fun e he => by cases he⟩
  | some x => exact hl _ (mget_mem hm)
def DirT (w0 : World) (gm bd bc bn : Nat) (cookie : Int) (D : List (Int × DE)) (s1 : MkS) (l : List Ent) (iv : Value) (wr : World) : Prop :=
  ∃ (i : Nat) (nv : Value), iv = .int .i64 i ∧ i ≤ l.length ∧ MkC w0 wr gm bd bc nv (.map (some bn)) cookie (mkEnts cookie D s1 [] (l.take i)) ∧ NmMap wr bn ((l.take i).map (·.name)) ∧ nv.ownBlock ≠ some bn
def DirU (w0 : World) (gm bd bc : Nat) (cookie : Int) (D : List (Int × DE)) (f : Nat) (s2 : MkS) (l : List Ent) (iv : Value) (wr : World) : Prop :=
  ∃ (i : Nat) (nv nm : Value), iv = .int .i64 i ∧ i ≤ l.length ∧ MkC w0 wr gm bd bc nv nm cookie ((l.take i).foldl (fun s e => if (e.dir && !s.bad) = true then mkDir cookie D f s e.node else s) s2) ∧
    ((l.take i).foldl (fun s e => if (e.dir && !s.bad) = true then mkDir cookie D f s e.node else s) s2).Good ∧ s2.nodes.length ≤ ((l.take i).foldl (fun s e => if (e.dir && !s.bad) = true then mkDir cookie D f s e.node else s) s2).nodes.length
set_option maxRecDepth 100000 in
set_option maxHeartbeats 4000000 in
theorem mdir_any {w0 : World} {gm bd bc : Nat} {cookie : Int} {D : List (Int × DE)} (hD : IMap encDE w0 bd D) (hr : ∀ x ∈ D, Arg EEnt w0 x.2.1 x.2.2) (hl : ∀ x ∈ D, x.2.2.length ≤ 100000 ∧ ∀ e ∈ x.2.2, e.name.size ≤ maxLen) :
    ∀ (f : Nat) (w : World) (nv nm : Value) (s : MkS) (n : Int), MkC w0 w gm bd bc nv nm cookie s → s.bad = false → s.Good → 201 ≤ s.nodes.length + f →
    Calls Tryz.prog 53 #[.pointer (some ⟨gm, 0, none⟩), .int .i64 n] w fun e w' => e = .returned (.tuple #[]) ∧ ∃ nv' nm', MkC w0 w' gm bd bc nv' nm' cookie (mkDir cookie D f s n) := by
  intro f
  induction f with
  | zero =>
    intro w nv nm s n h hb hg hf
    have := hg.len hb
    omega
  | succ f ih =>
    intro w nv nm s n h hb hg hf
    have IH := Lib.hid ih
    have HC := Lib.hid h
    clear ih
    obtain ⟨lv, hla, hlk⟩ := dlook hD hr n
    have hll : (dget D n).length ≤ 100000 ∧ ∀ e ∈ dget D n, e.name.size ≤ maxLen := dget_ok hl n
    obtain ⟨l, hdl⟩ : ∃ l, dget D n = l := ⟨_, rfl⟩
    rw [hdl] at hla hll
    have hmd : mkDir cookie D (f + 1) s n = l.foldl (fun s e => if (e.dir && !s.bad) = true then mkDir cookie D f s e.node else s) (mkEnts cookie D { s with bad := s.bad || !sortedB l } [] l) := by rw [mkDir, hdl]
    have HMD := Lib.hid hmd
    obtain ⟨la, lc, rfl⟩ := hla.shape
    have HLA := Lib.hid hla
    have HLL := Lib.hid hll
    have hl5 : l.length ≤ 100000 := hll.1
    have HG := Lib.hid hg
    have HBF := Lib.hid hb
    have hnl := hg.len hb
    have c1 : w.cell? ⟨gm, 1, none⟩ = some (.map (some bd)) := (m_cells h.blk).1 1
    have c4 : w.cell? ⟨gm, 4, none⟩ = some nm := (m_cells h.blk).1 4
    have f4 : w.frozen? ⟨gm, 4, none⟩ = false := (m_cells h.blk).2 4
    have hg1 : gm < w.heap.size := m_lt h.blk
    have h1 := h.setNm (.map (some w.heap.size))
    have h2 := h1.below ((Below.refl _ _).alloc (Nat.le_refl _) (.map #[] 0))
    have hn2 : NmMap ((w.setCell ⟨gm, 4, none⟩ (.map (some w.heap.size))).alloc (.map #[] 0)) w.heap.size [] := by
      refine ⟨[], ?_, fun k => rfl⟩
      have := SMap.new (enc := Value.int .i64) (w.setCell ⟨gm, 4, none⟩ (.map (some w.heap.size)))
      simpa [World.setCell] using this
    have hbn : w.heap.size ≠ gm ∧ w.heap.size ≠ bc ∧ nv.ownBlock ≠ some w.heap.size ∧ w0.heap.size ≤ w.heap.size := by
      refine ⟨by omega, ?_, fun e => ?_, h.bel.size⟩
      · obtain ⟨C, z, _⟩ := h.cm
        have := z.lt; omega
      · have := h.row.lt e; omega
    have hlkw := hlk _ h2.bel
    have HC := Lib.hid h2
    have HN := Lib.hid hn2
    clear h h1 h2 hn2 hla hll hg hb hlk hmd hdl
    have hmm := @run_makeMap Tryz.prog
    go_enter Tryz.func53, Tryz.ntmps53
    go_wp2_with fail
    obtain ⟨bn, hbe⟩ : ∃ bn, w.heap.size = bn := ⟨_, rfl⟩
    rw [hbe] at HC HN hbn hlkw ⊢
    generalize ((w.setCell ⟨gm, 4, none⟩ (.map (some bn))).alloc (.map #[] 0)) = W1 at *
    clear hmm c1 c4 f4 hg1 hbe hlkw
    refine (sortedE_any W1 (HLA.out.below HC.out.bel) (by have := HLL.out.1; omega)).mono ?_
    rintro e w2 ⟨b, rfl, hbs, hb2⟩
    have hsb : b = sortedB l := by
      cases b
      · cases hq : sortedB l
        · rfl
        · exact absurd (hbs.2 ((sortedB_iff l).1 hq)) (by simp)
      · exact ((sortedB_iff l).2 (hbs.1 rfl)).symm
    have HSB := Lib.hid hsb
    have HC2 := Lib.hid (HC.out.below hb2)
    have HN2 := Lib.hid (HN.out.keep (Keep.below hb2) (fun q => by obtain ⟨C, z, _⟩ := HN.out; have := z.lt; omega))
    clear hbs hsb hb2 HC HN
    go_wp2_with fail
    refine (must_any b HC2.out).mono ?_
    rintro e w3 ⟨rfl, hm3, hk3⟩
    have HC3 := Lib.hid hm3
    have HN3 := Lib.hid (HN2.out.keep hk3 hbn.1)
    clear hm3 hk3 HC2 HN2
    go_wp2_with fail
    obtain ⟨s1, hs1⟩ : ∃ s1 : MkS, ({ s with bad := s.bad || !b } : MkS) = s1 := ⟨_, rfl⟩
    have HS1 := Lib.hid (show ({ s with bad := s.bad || !sortedB l } : MkS) = s1 from by rw [← hs1, HSB.out])
    rw [hs1] at HC3
    have hs1n : s1.nodes = s.nodes := by rw [← hs1]
    have HG1 := Lib.hid (show s1.Good from by rw [← hs1]; exact fun q => HG.out (by simp at q; exact q.1))
    have HN1 := Lib.hid hs1n
    clear hs1 hs1n
    go_loopw [25] (fun iv wr => DirT w0 gm bd bc bn cookie D s1 l iv wr) (fun iv _ => l.length - (intOf iv).toNat)
    case atStart => exact ⟨0, _, rfl, Nat.zero_le _, HC3.out, HN3.out, hbn.2.2.1⟩
    case round =>
      obtain ⟨i, nv2, rfl, hi, hc, hn, hne⟩ := hrel
      clear HC3 HN3
      have HC := Lib.hid hc
      have HN := Lib.hid hn
      clear hc hn
      by_cases hlt : i < l.length
      · have i1 : (i : Int) < l.length := by omega
        obtain ⟨x, hx⟩ : ∃ x, l[i]? = some x := ⟨_, List.getElem?_eq_getElem hlt⟩
        obtain ⟨g1, o1, rfl, -, p0, p1, p2, p3, p4⟩ := ent_cells (HLA.out.below HC.out.bel) i x hx
        have hxs := HLL.out.2 x (List.mem_of_getElem? hx)
        have HX := Lib.hid (show l.take (i + 1) = l.take i ++ [x] from by rw [List.take_add_one, hx]; rfl)
        have hnl2 : (mkEnts cookie D s1 [] (l.take i)).nodes.length ≤ 1000000 := by
          rw [mkEnts_nodes, HN1.out, List.length_append, List.length_map, List.length_take]
          have := HLL.out.1
          omega
        have HEN := Lib.hid (fun (W : World) (hb : Below wr.heap.size wr W) => mentry_any x (HC.out.below hb) hD (HN.out.keep (Keep.below hb) (fun q => by obtain ⟨C, z, _⟩ := HN.out; have := z.lt; omega)) ⟨hbn.1, hbn.2.1, hne, hbn.2.2.2⟩ hnl2 hxs)
        clear hx hxs hnl2
        go_wp2_with fail
        refine (HEN.out _ ((Below.refl _ wr).alloc (Nat.le_refl _) _)).mono ?_
        rintro e w5 ⟨nv5, rfl, hc5, hn5, hne5, hk5⟩
        have HC5 := Lib.hid hc5
        have HN5 := Lib.hid hn5
        clear hc5 hn5 hk5 HEN
        go_wp2_with fail
        refine ⟨⟨i + 1, nv5, by go_num, hlt, ?_, ?_, hne5⟩, by simp [intOf]; omega⟩
        · rw [HX.out, mkEnts_snoc]
          exact HC5.out
        · rw [HX.out, List.map_append]
          exact HN5.out
      · have ei : i = l.length := by omega
        subst ei
        have i2 : ¬ ((l.length : Int) < l.length) := by omega
        have HC6 := Lib.hid (show MkC w0 wr gm bd bc nv2 (.map (some bn)) cookie (mkEnts cookie D s1 [] l) from by have := HC.out; rw [List.take_length] at this; exact this)
        obtain ⟨s2, hs2⟩ : ∃ s2, mkEnts cookie D s1 [] l = s2 := ⟨_, rfl⟩
        have HG2 := Lib.hid (show s2.Good from by rw [← hs2]; exact MkS.Good.ents l HG1.out)
        have HN2 := Lib.hid (show s2.nodes = s.nodes ++ l.map (·.node) from by rw [← hs2, mkEnts_nodes, HN1.out])
        rw [hs2] at HC6
        have HS2 := Lib.hid (show mkDir cookie D (f + 1) s n = l.foldl (fun s e => if (e.dir && !s.bad) = true then mkDir cookie D f s e.node else s) s2 from by rw [HMD.out, HS1.out, hs2])
        clear HC HN hs2 HG1 HN1 HS1
        go_wp2_with fail
        go_loopw [35] (fun iv wr => DirU w0 gm bd bc cookie D f s2 l iv wr) (fun iv _ => l.length - (intOf iv).toNat)
        case atStart => exact ⟨0, _, _, rfl, Nat.zero_le _, HC6.out, HG2.out, Nat.le_refl _⟩
        case round =>
          obtain ⟨i, nv3, nm3, rfl, hi, hc, hg3, hnn⟩ := hrel
          clear HC6
          have HC := Lib.hid hc
          have HG3 := Lib.hid hg3
          clear hc hg3
          by_cases hlt : i < l.length
          · have i1 : (i : Int) < l.length := by omega
            obtain ⟨x, hx⟩ : ∃ x, l[i]? = some x := ⟨_, List.getElem?_eq_getElem hlt⟩
            obtain ⟨g1, o1, rfl, -, p0, p1, p2, p3, p4⟩ := ent_cells (HLA.out.below HC.out.bel) i x hx
            have HX := Lib.hid (show l.take (i + 1) = l.take i ++ [x] from by rw [List.take_add_one, hx]; rfl)
            obtain ⟨s3, hs3⟩ : ∃ s3, (l.take i).foldl (fun s e => if (e.dir && !s.bad) = true then mkDir cookie D f s e.node else s) s2 = s3 := ⟨_, rfl⟩
            rw [hs3] at HC HG3 hnn
            have c5 : wr.cell? ⟨gm, 5, none⟩ = some (.bool s3.bad) := (m_cells HC.out.blk).1 5
            have hgw : gm < wr.heap.size := m_lt HC.out.blk
            have hgw2 : ¬ (gm = wr.heap.size) := by omega
            have HST := Lib.hid (show (l.take (i + 1)).foldl (fun s e => if (e.dir && !s.bad) = true then mkDir cookie D f s e.node else s) s2 = (if (x.dir && !s3.bad) = true then mkDir cookie D f s3 x.node else s3) from by rw [HX.out, List.foldl_append, hs3]; rfl)
            have h201 : 201 ≤ s3.nodes.length + f := by
              have h1 : s2.nodes.length = s.nodes.length + l.length := by rw [HN2.out]; simp
              omega
            clear hx hs3
            obtain ⟨d, hd⟩ : ∃ d, x.dir = d := ⟨_, rfl⟩
            rw [hd] at p2 HST
            obtain ⟨bb, hbb⟩ : ∃ bb, s3.bad = bb := ⟨_, rfl⟩
            rw [hbb] at c5 HST
            have HBB := Lib.hid hbb
            have HDD := Lib.hid hd
            clear hbb hd
            cases d
            · go_wp2_with fail
              refine ⟨⟨i + 1, nv3, nm3, by go_num, hlt, ?_, ?_, ?_⟩, by simp [intOf]; omega⟩
              · rw [HST.out]; exact HC.out.below ((Below.refl _ wr).alloc (Nat.le_refl _) _)
              · rw [HST.out]; exact HG3.out
              · rw [HST.out]; exact hnn
            · cases bb
              · have HDI := Lib.hid (fun (W : World) (hb : Below wr.heap.size wr W) => IH.out W nv3 nm3 s3 x.node (HC.out.below hb) HBB.out HG3.out h201)
                go_wp2_with fail
                refine (HDI.out _ ((Below.refl _ wr).alloc (Nat.le_refl _) _)).mono ?_
                rintro e w5 ⟨rfl, nv5, nm5, hc5⟩
                have HC5 := Lib.hid hc5
                clear hc5 HDI
                go_wp2_with fail
                refine ⟨⟨i + 1, nv5, nm5, by go_num, hlt, ?_, ?_, ?_⟩, by simp [intOf]; omega⟩
                · rw [HST.out]; exact HC5.out
                · rw [HST.out]; exact MkS.Good.dir f _ HG3.out
                · rw [HST.out]; exact Nat.le_trans hnn (mkDir_nodes f _)
              · go_wp2_with fail
                refine ⟨⟨i + 1, nv3, nm3, by go_num, hlt, ?_, ?_, ?_⟩, by simp [intOf]; omega⟩
                · rw [HST.out]; exact HC.out.below ((Below.refl _ wr).alloc (Nat.le_refl _) _)
                · rw [HST.out]; exact HG3.out
                · rw [HST.out]; exact hnn
          · have ei : i = l.length := by omega
            subst ei
            have i2 : ¬ ((l.length : Int) < l.length) := by omega
            go_wp2_with fail
            refine bodyPost_end (results_none rfl _ _ _) rfl ⟨rfl, nv3, nm3, ?_⟩
            rw [HS2.out]
            have := HC.out
            rw [List.take_length] at this
            exact this
end Go.Proofs.YtolilbcpfdnkjaaGreat
