/- Lemmas, texts PM1 PM2 PM3 PM4 PM5 PM6 DT; no condition beyond those that each states. -/
import Derived.Test.YtolilbcpfdnkjaaGreatZBM4
import Derived.Test.YtolilbcpfdnkjaaGreatZBY3
/- tree.Make, in plain Lean: what has been visited when nothing is wrong. -/
namespace Go.Proofs.YtolilbcpfdnkjaaGreat
open Go.RowKit
set_option linter.unusedSimpArgs false
set_option linter.unusedVariables false
section
variable {cookie : Int} {D : List (Int × DE)}
/-- The nodes of a directory's entries; those that are directories. -/
def ndsOf (D : List (Int × DE)) (d : Int) : List Int := (dget D d).map (·.node)
def cksOf (D : List (Int × DE)) (d : Int) : List Int := (dget D d).map (·.cookie)
def dirsIn (l : List Ent) : List Int := (l.filter (·.dir)).map (·.node)
/-- A directory that passes. -/
structure DirOk (cookie : Int) (D : List (Int × DE)) (d : Int) : Prop where
  so : SortedE (dget D d)
  un : ((dget D d).map (·.name)).Nodup
  ok : ∀ e ∈ dget D d, entOk1 (mget D e.node).isSome e = true ∧ 1 ≤ e.cookie ∧ e.cookie < cookie
theorem entry_bad {s : MkS} {ns : List ByteArray} {x : Ent} (h : (s.entry cookie D ns x).bad = false) :
    s.bad = false ∧ entOk1 (mget D x.node).isSome x = true ∧ 1 ≤ x.cookie ∧ x.cookie < cookie ∧ x.cookie ∉ s.cks ∧ x.name ∉ ns := by
  unfold MkS.entry at h
  simp only [Bool.or_eq_false_iff, Bool.not_eq_false'] at h
  obtain ⟨⟨h1, h2⟩, h3⟩ := h
  unfold entOk2 at h3
  simp only [Bool.and_eq_true, decide_eq_true_eq] at h3
  exact ⟨h1, h2, h3.1, h3.2.1, h3.2.2.1, h3.2.2.2.2⟩
theorem ents_bad (l : List Ent) : ∀ {s : MkS} {ns : List ByteArray}, (mkEnts cookie D s ns l).bad = false → s.bad = false ∧ (∀ e ∈ l, entOk1 (mget D e.node).isSome e = true ∧ 1 ≤ e.cookie ∧ e.cookie < cookie) ∧
    (mkEnts cookie D s ns l).cks = s.cks ++ l.map (·.cookie) ∧ (s.cks.Nodup → (s.cks ++ l.map (·.cookie)).Nodup) ∧ (ns.Nodup → (ns ++ l.map (·.name)).Nodup) := by
  induction l with
  | nil => intro s ns h; exact ⟨h, fun e he => (by cases he), by simp [mkEnts], fun q => by simpa using q, fun q => by simpa using q⟩
  | cons x l ih =>
    intro s ns h
    rw [mkEnts] at h
    obtain ⟨h1, h2, h3, h4, h5⟩ := ih h
    obtain ⟨b1, b2, b3, b4, b5, b6⟩ := entry_bad h1
    refine ⟨b1, fun e he => ?_, ?_, fun q => ?_, fun q => ?_⟩
    · rcases List.mem_cons.1 he with e1 | he
      · subst e1; exact ⟨b2, b3, b4⟩
      · exact h2 e he
    · rw [mkEnts, h3]; simp [MkS.entry]
    · have := h4 (show (s.cks ++ [x.cookie]).Nodup from by
        rw [List.nodup_append]
        exact ⟨q, by simp, fun a ha b hb e => by simp at hb; subst hb; subst e; exact b5 ha⟩)
      simpa [MkS.entry] using this
    · have := h5 (by
        rw [List.nodup_append]
        exact ⟨q, by simp, fun a ha b hb e => by simp at hb; subst hb; subst e; exact b6 ha⟩)
      simpa using this
/-- What has been visited, one behind another; `from_`: nodes that are known ahead. -/
structure Visit (cookie : Int) (D : List (Int × DE)) (V : List Int) (known : List Int) : Prop where
  ok : ∀ d ∈ V, DirOk cookie D d
  cl : ∀ d ∈ V, ∀ e ∈ dget D d, e.dir = true → e.node ∈ V
  ch : ∀ P d Q, V = P ++ d :: Q → d ∈ known ∨ d ∈ P.flatMap (ndsOf D)
theorem Visit.nil (known : List Int) : Visit cookie D [] known := ⟨fun d h => (by cases h), fun d h => (by cases h), fun P d Q h => by cases P <;> cases h⟩
theorem Visit.app {V W k : List Int} (h : Visit cookie D V k) (g : Visit cookie D W k) : Visit cookie D (V ++ W) k := by
  refine ⟨fun d hd => (List.mem_append.1 hd).elim (h.ok d) (g.ok d), fun d hd e he hx => ?_, fun P d Q e => ?_⟩
  · rcases List.mem_append.1 hd with q | q
    · exact List.mem_append_left _ (h.cl d q e he hx)
    · exact List.mem_append_right _ (g.cl d q e he hx)
  · rcases List.append_eq_append_iff.1 e with ⟨a, h1, h2⟩ | ⟨a, h1, h2⟩
    · rcases g.ch a d Q h2 with q | q
      · exact Or.inl q
      · refine Or.inr ?_
        rw [h1, List.flatMap_append]
        exact List.mem_append_right _ q
    · cases a with
      | nil =>
        simp only [List.nil_append] at h2
        simp only [List.append_nil] at h1
        rcases g.ch [] d Q h2.symm with q | q
        · exact Or.inl q
        · cases q
      | cons y a =>
        simp only [List.cons_append, List.cons.injEq] at h2
        obtain ⟨rfl, h2⟩ := h2
        exact h.ch P d a h1
theorem dirsIn_app (a b : List Ent) : dirsIn (a ++ b) = dirsIn a ++ dirsIn b := by unfold dirsIn; rw [List.filter_append, List.map_append]
/-- The claim: behind a call that ends with nothing wrong. -/
def Seen (cookie : Int) (D : List (Int × DE)) (s s' : MkS) (n : Int) : Prop :=
  ∃ T : List Int, s'.nodes = s.nodes ++ (n :: T).flatMap (ndsOf D) ∧ s'.cks = s.cks ++ (n :: T).flatMap (cksOf D) ∧ (s.cks.Nodup → s'.cks.Nodup) ∧ Visit cookie D (n :: T) [n] ∧ T.Perm (dirsIn ((n :: T).flatMap (dget D)))
theorem fold_seen (f : Nat) (ih : ∀ (s : MkS) (n : Int), (mkDir cookie D f s n).bad = false → s.Good → s.bad = false → 201 ≤ s.nodes.length + f → Seen cookie D s (mkDir cookie D f s n) n) : ∀ (l : List Ent) (s : MkS), s.Good → 201 ≤ s.nodes.length + f →
    (l.foldl (fun s e => if (e.dir && !s.bad) = true then mkDir cookie D f s e.node else s) s).bad = false →
    s.bad = false ∧ ∃ V : List Int, (l.foldl (fun s e => if (e.dir && !s.bad) = true then mkDir cookie D f s e.node else s) s).nodes = s.nodes ++ V.flatMap (ndsOf D) ∧
      (l.foldl (fun s e => if (e.dir && !s.bad) = true then mkDir cookie D f s e.node else s) s).cks = s.cks ++ V.flatMap (cksOf D) ∧
      (s.cks.Nodup → (l.foldl (fun s e => if (e.dir && !s.bad) = true then mkDir cookie D f s e.node else s) s).cks.Nodup) ∧ Visit cookie D V (dirsIn l) ∧ (∀ e ∈ l, e.dir = true → e.node ∈ V) ∧
      V.Perm (dirsIn l ++ dirsIn (V.flatMap (dget D))) := by
  intro l
  induction l with
  | nil => intro s hg hf hb; exact ⟨hb, [], by simp, by simp, id, Visit.nil _, fun e he => (by cases he), by simp [dirsIn]⟩
  | cons x l il =>
    intro s hg hf hb
    rw [List.foldl_cons] at hb
    by_cases hx : x.dir = true
    · by_cases hsb : s.bad = true
      · -- it was wrong ahead: then it stays so
        have hc : (x.dir && !s.bad) = false := by rw [hsb]; simp
        rw [hc] at hb
        simp only [Bool.false_eq_true, if_false] at hb
        obtain ⟨q, _⟩ := il s hg hf hb
        rw [hsb] at q; cases q
      · have hsb' : s.bad = false := by simpa using hsb
        have hc : (x.dir && !s.bad) = true := by rw [hsb', hx]; rfl
        rw [hc] at hb
        simp only [if_true] at hb
        obtain ⟨b1, V, v1, v2, v3, v4, v5, v6⟩ := il _ (MkS.Good.dir f _ hg) (Nat.le_trans hf (Nat.add_le_add_right (mkDir_nodes f _) _)) hb
        obtain ⟨T, t1, t2, t3, t4, t5⟩ := ih s x.node b1 hg hsb' hf
        refine ⟨hsb', (x.node :: T) ++ V, ?_, ?_, ?_, ?_, ?_, ?_⟩
        · rw [List.foldl_cons, hc]
          simp only [if_true]
          rw [v1, t1, List.flatMap_append, List.append_assoc]
        · rw [List.foldl_cons, hc]
          simp only [if_true]
          rw [v2, t2, List.flatMap_append, List.append_assoc]
        · rw [List.foldl_cons, hc]
          simp only [if_true]
          exact fun q => v3 (t3 q)
        · have k1 : ∀ y, y ∈ [x.node] → y ∈ dirsIn (x :: l) := fun y hy => by simp at hy; subst hy; unfold dirsIn; rw [List.filter_cons_of_pos hx]; simp
          have k2 : ∀ y, y ∈ dirsIn l → y ∈ dirsIn (x :: l) := fun y hy => by unfold dirsIn at hy ⊢; rw [List.filter_cons_of_pos hx]; exact List.mem_cons_of_mem _ hy
          exact Visit.app ⟨t4.ok, t4.cl, fun P d Q e => (t4.ch P d Q e).imp (k1 d) id⟩ ⟨v4.ok, v4.cl, fun P d Q e => (v4.ch P d Q e).imp (k2 d) id⟩
        · intro e he hd
          rcases List.mem_cons.1 he with q | q
          · subst q; exact List.mem_append_left _ (List.mem_cons_self ..)
          · exact List.mem_append_right _ (v5 e q hd)
        · have e1 : dirsIn (x :: l) = x.node :: dirsIn l := by unfold dirsIn; rw [List.filter_cons_of_pos hx]; rfl
          rw [e1, List.flatMap_append, dirsIn_app, List.cons_append, List.cons_append]
          refine List.Perm.cons _ ?_
          have h1 : (T ++ V).Perm (dirsIn ((x.node :: T).flatMap (dget D)) ++ (dirsIn l ++ dirsIn (V.flatMap (dget D)))) := t5.append v6
          refine h1.trans ?_
          rw [← List.append_assoc, ← List.append_assoc]
          exact List.Perm.append_right _ List.perm_append_comm
    · have hx' : x.dir = false := by simpa using hx
      have hc : (x.dir && !s.bad) = false := by rw [hx']; rfl
      rw [hc] at hb
      simp only [Bool.false_eq_true, if_false] at hb
      obtain ⟨b1, V, v1, v2, v3, v4, v5, v6⟩ := il s hg hf hb
      have e1 : dirsIn (x :: l) = dirsIn l := by unfold dirsIn; rw [List.filter_cons_of_neg hx]
      rw [List.foldl_cons, hc]
      simp only [Bool.false_eq_true, if_false]
      refine ⟨b1, V, v1, v2, v3, by rw [e1]; exact v4, fun e he hd => ?_, by rw [e1]; exact v6⟩
      rcases List.mem_cons.1 he with q | q
      · subst q; rw [hx'] at hd; cases hd
      · exact v5 e q hd
theorem dir_seen : ∀ (f : Nat) (s : MkS) (n : Int), (mkDir cookie D f s n).bad = false → s.Good → s.bad = false → 201 ≤ s.nodes.length + f → Seen cookie D s (mkDir cookie D f s n) n := by
  intro f
  induction f with
  | zero =>
    intro s n h hg hb hf
    have := hg.len hb
    omega
  | succ f ih =>
    intro s n h hg hb hf
    have hmd : mkDir cookie D (f + 1) s n = (dget D n).foldl (fun s e => if (e.dir && !s.bad) = true then mkDir cookie D f s e.node else s) (mkEnts cookie D { s with bad := s.bad || !sortedB (dget D n) } [] (dget D n)) := rfl
    rw [hmd] at h ⊢
    have hg2 : (mkEnts cookie D { s with bad := s.bad || !sortedB (dget D n) } [] (dget D n)).Good := MkS.Good.ents _ (fun q => hg (by simp at q; exact q.1))
    have hn2 : (mkEnts cookie D { s with bad := s.bad || !sortedB (dget D n) } [] (dget D n)).nodes = s.nodes ++ ndsOf D n := mkEnts_nodes _
    have key : (mkEnts cookie D { s with bad := s.bad || !sortedB (dget D n) } [] (dget D n)).bad = false → DirOk cookie D n ∧ (mkEnts cookie D { s with bad := s.bad || !sortedB (dget D n) } [] (dget D n)).cks = s.cks ++ cksOf D n ∧ (s.cks.Nodup → (s.cks ++ cksOf D n).Nodup) := fun q => by
      obtain ⟨a1, a2, a3, a4, a5⟩ := ents_bad _ q
      have hsb : sortedB (dget D n) = true := by
        simp only [Bool.or_eq_false_iff, Bool.not_eq_false'] at a1
        exact a1.2
      exact ⟨⟨(sortedB_iff _).1 hsb, by simpa using a5 List.nodup_nil, a2⟩, a3, a4⟩
    by_cases hl : dget D n = []
    · rw [hl] at h hn2 hg2 key ⊢
      obtain ⟨k1, k2, k3⟩ := key h
      refine ⟨[], ?_, ?_, ?_, ⟨fun d hd => ?_, fun d hd e he => ?_, fun P d Q e => ?_⟩, ?_⟩
      · rw [List.foldl_nil, hn2]; simp
      · rw [List.foldl_nil, k2]; simp
      · rw [List.foldl_nil, k2]; exact k3
      · simp at hd; subst hd; exact k1
      · simp at hd; subst hd; rw [hl] at he; cases he
      · cases P with
        | nil => simp at e; exact Or.inl (by simp [e.1])
        | cons y P => simp at e
      · simp [hl, dirsIn]
    · have hlen : 1 ≤ (ndsOf D n).length := by
        unfold ndsOf; rw [List.length_map]
        exact List.length_pos_iff.2 hl
      obtain ⟨b1, V, v1, v2, v3, v4, v5, v6⟩ := fold_seen f ih (dget D n) _ hg2 (by rw [hn2, List.length_append]; omega) h
      obtain ⟨k1, k2, k3⟩ := key b1
      refine ⟨V, ?_, ?_, ?_, ⟨fun d hd => ?_, fun d hd e he hx => ?_, fun P d Q e => ?_⟩, ?_⟩
      · rw [v1, hn2, List.flatMap_cons, List.append_assoc]
      · rw [v2, k2, List.flatMap_cons, List.append_assoc]
      · exact fun q => v3 (by rw [k2]; exact k3 q)
      · rcases List.mem_cons.1 hd with q | q
        · subst q; exact k1
        · exact v4.ok d q
      · rcases List.mem_cons.1 hd with q | q
        · subst q; exact List.mem_cons_of_mem _ (v5 e he hx)
        · exact List.mem_cons_of_mem _ (v4.cl d q e he hx)
      · cases P with
        | nil => simp at e; exact Or.inl (by simp [e.1])
        | cons y P =>
          simp only [List.cons_append, List.cons.injEq] at e
          obtain ⟨rfl, e⟩ := e
          refine Or.inr ?_
          rw [List.flatMap_cons]
          rcases v4.ch P d Q e with q | q
          · refine List.mem_append_left _ ?_
            obtain ⟨x, hx, rfl⟩ := List.mem_map.1 q
            exact List.mem_map_of_mem (f := fun e : Ent => e.node) (List.mem_filter.1 hx).1
          · exact List.mem_append_right _ q
      · rw [List.flatMap_cons, dirsIn_app]; exact v6
end
end Go.Proofs.YtolilbcpfdnkjaaGreat

/- tree.Make, in plain Lean: when it answers a tree, every key has been visited. -/
namespace Go.Proofs.YtolilbcpfdnkjaaGreat
open Go.RowKit
set_option linter.unusedSimpArgs false
set_option linter.unusedVariables false
section
variable {cookie : Int} {D : List (Int × DE)} {Fm : List (Int × Int)}
theorem dget_mem (hn : (mkeys D).Nodup) {x : Int × DE} (hx : x ∈ D) : dget D x.1 = x.2.2 := by unfold dget; rw [mget_of_mem hn hx]; rfl
theorem allE_keys (hn : (mkeys D).Nodup) : allE D = (mkeys D).flatMap (dget D) := by
  unfold allE mkeys
  rw [List.flatMap_map]
  have : ∀ l : List (Int × DE), (∀ x ∈ l, dget D x.1 = x.2.2) → l.flatMap (·.2.2) = l.flatMap (fun a => dget D a.1) := by
    intro l
    induction l with
    | nil => intro _; rfl
    | cons y l ih => intro h; rw [List.flatMap_cons, List.flatMap_cons, h y (List.mem_cons_self ..), ih (fun x hx => h x (List.mem_cons_of_mem _ hx))]
  exact this D (fun x hx => dget_mem hn hx)
theorem flat_map_node {V : List Int} (f : Ent → Int) : (V.flatMap (dget D)).map f = V.flatMap (fun d => (dget D d).map f) := List.map_flatMap
theorem dcnt_dirs (l : List Ent) : dcnt l = (dirsIn l).length := by unfold dcnt dirsIn; rw [List.length_map]
theorem len_split (l : List Ent) : l.length = dcnt l + (l.filter (fun e => !e.dir)).length := by
  have := (List.filter_append_perm (·.dir) l).length_eq
  rw [List.length_append] at this
  exact this.symm
/-- The directories that are reached, and what holds of them. -/
structure Whole (cookie : Int) (D : List (Int × DE)) (V : List Int) : Prop where
  perm : V.Perm (mkeys D)
  vis : Visit cookie D V [0]
  nn : (V.flatMap (ndsOf D)).Nodup
  nr : ∀ n ∈ V.flatMap (ndsOf D), 1 ≤ n ∧ n ≤ 200
  cn : (V.flatMap (cksOf D)).Nodup
  root : 0 ∈ V
  nx : 1 ≤ cookie
  tl : ∀ d ∈ V, d = 0 ∨ d ∈ dirsIn (V.flatMap (dget D))
theorem whole_of (hn : (mkeys D).Nodup) (hF : (mkeys Fm).Nodup) (hFo : FilesOf Fm (allE D)) (hb : (mkAll cookie D).bad = false) (h2 : 1 + dcnt (allE D) = D.length) (h3 : (mkAll cookie D).nodes.length = Fm.length + dcnt (allE D)) :
    ∃ V, Whole cookie D V ∧ (mkAll cookie D).nodes = V.flatMap (ndsOf D) := by
  have hgood := mkAll_good cookie D hb
  have hroot : ((mget D 0).isSome && decide (1 ≤ cookie)) = true := by
    by_cases c : ((mget D 0).isSome && decide (1 ≤ cookie)) = true
    · exact c
    · unfold mkAll at hb
      rw [if_neg c] at hb
      cases hb
  have hmk : mkAll cookie D = mkDir cookie D 201 ⟨[], [], false⟩ 0 := by unfold mkAll; rw [if_pos hroot]
  rw [hmk] at hb h3 hgood ⊢
  obtain ⟨T, t1, t2, t3, t4, t5⟩ := dir_seen 201 ⟨[], [], false⟩ 0 hb (fun _ => ⟨List.nodup_nil, fun n hn => by cases hn⟩) rfl (by simp)
  have t1 : (mkDir cookie D 201 ⟨[], [], false⟩ 0).nodes = (0 :: T).flatMap (ndsOf D) := t1
  have t2 : (mkDir cookie D 201 ⟨[], [], false⟩ 0).cks = (0 :: T).flatMap (cksOf D) := t2
  obtain ⟨hnd, hrg⟩ := hgood
  rw [t1] at hnd hrg h3
  have hVE : ((0 :: T).flatMap (dget D)).map (·.node) = (0 :: T).flatMap (ndsOf D) := flat_map_node _
  obtain ⟨VE, hVEd⟩ : ∃ VE, (0 :: T).flatMap (dget D) = VE := ⟨_, rfl⟩
  rw [hVEd] at hVE t5
  have hTn : T.Nodup := by
    rw [t5.nodup_iff]
    unfold dirsIn
    rw [← hVE] at hnd
    exact (List.filter_sublist.map _).nodup hnd
  have hT1 : ∀ d ∈ T, 1 ≤ d ∧ ∃ e ∈ VE, e.dir = true ∧ e.node = d := fun d hd => by
    have := t5.mem_iff.1 hd
    obtain ⟨e, he, rfl⟩ := List.mem_map.1 this
    obtain ⟨he1, he2⟩ := List.mem_filter.1 he
    refine ⟨(hrg e.node ?_).1, e, he1, he2, rfl⟩
    rw [← hVE]
    exact List.mem_map_of_mem (f := fun e : Ent => e.node) he1
  have hVn : (0 :: T).Nodup := List.nodup_cons.2 ⟨fun q => by have := (hT1 0 q).1; omega, hTn⟩
  have hsub : ∀ d ∈ (0 :: T), d ∈ mkeys D := fun d hd => by
    by_cases c : d ∈ mkeys D
    · exact c
    · have hnone := (mget_none_iff D d).2 c
      rcases List.mem_cons.1 hd with q | q
      · subst q; rw [hnone] at hroot; simp at hroot
      · obtain ⟨_, e, he, hd2, hd3⟩ := hT1 d q
        rw [← hVEd] at he
        obtain ⟨v, hv, hev⟩ := List.mem_flatMap.1 he
        have := ((t4.ok v hv).ok e hev).1
        unfold entOk1 at this
        simp only [Bool.and_eq_true] at this
        rw [hd3, hnone, hd2] at this
        exact absurd this.2.2.2 (by decide)
  obtain ⟨U, hU⟩ : ∃ U, (mkeys D).filter (fun d => !decide (d ∈ (0 :: T))) = U := ⟨_, rfl⟩
  have hperm : (mkeys D).Perm ((0 :: T) ++ U) := by
    have h1 : ((mkeys D).filter (fun d => decide (d ∈ (0 :: T)))).Perm (0 :: T) := by
      refine (List.perm_ext_iff_of_nodup (List.filter_sublist.nodup hn) hVn).2 (fun d => ?_)
      rw [List.mem_filter]
      exact ⟨fun q => by simpa using q.2, fun q => ⟨hsub d q, by simpa using q⟩⟩
    rw [← hU]
    exact ((List.filter_append_perm (fun d => decide (d ∈ (0 :: T))) (mkeys D)).symm).trans (h1.append_right _)
  have hallp : (allE D).Perm (VE ++ U.flatMap (dget D)) := by
    rw [allE_keys hn, ← hVEd, ← List.flatMap_append]
    exact hperm.flatMap_right _
  have hc1 : dcnt (allE D) = dcnt VE + dcnt (U.flatMap (dget D)) := by rw [dcnt_perm hallp, dcnt_app]
  have hT2 : T.length = dcnt VE := by rw [dcnt_dirs]; exact t5.length_eq
  have hDl : D.length = 1 + T.length + U.length := by
    have := hperm.length_eq
    simp [mkeys] at this
    omega
  have hnl : ((0 :: T).flatMap (ndsOf D)).length = dcnt VE + (VE.filter (fun e => !e.dir)).length := by rw [← hVE, List.length_map]; exact len_split VE
  have hfl : (VE.filter (fun e => !e.dir)).length ≤ Fm.length := by
    have := nodup_sub_len ((VE.filter (fun e => !e.dir)).map (·.node)) (mkeys Fm) (by rw [← hVE] at hnd; exact (List.filter_sublist.map _).nodup hnd) (fun n hn => by
      obtain ⟨e, he, rfl⟩ := List.mem_map.1 hn
      obtain ⟨he1, he2⟩ := List.mem_filter.1 he
      have hfi : fileIn (allE D) e.node := ⟨e, hallp.mem_iff.2 (List.mem_append_left _ he1), by simpa using he2, rfl⟩
      have := (hFo e.node).1 hfi
      by_cases c : e.node ∈ mkeys Fm
      · exact c
      · rw [(mget_none_iff Fm _).2 c] at this; cases this)
    simpa [mkeys] using this
  have hU0 : U = [] := by
    have : U.length = 0 := by omega
    exact List.eq_nil_of_length_eq_zero this
  rw [hU0, List.append_nil] at hperm
  refine ⟨0 :: T, ⟨hperm.symm, t4, hnd, hrg, ?_, List.mem_cons_self .., ?_, fun d hd => ?_⟩, t1⟩
  · have := t3 List.nodup_nil
    rw [t2] at this; exact this
  · simp only [Bool.and_eq_true, decide_eq_true_eq] at hroot
    exact hroot.2
  · rcases List.mem_cons.1 hd with q | q
    · exact Or.inl q
    · exact Or.inr (by rw [hVEd]; exact t5.mem_iff.1 q)
end
end Go.Proofs.YtolilbcpfdnkjaaGreat

/- tree.Make, in plain Lean: what has been visited is a tree. -/
namespace Go.Proofs.YtolilbcpfdnkjaaGreat
open Go.RowKit
set_option linter.unusedSimpArgs false
set_option linter.unusedVariables false
section
variable {cookie : Int} {D : List (Int × DE)} {V : List Int}
theorem nd_split {P Q : List Int} {d : Int} (h : ((P ++ d :: Q).flatMap (ndsOf D)).Nodup) : (∀ n ∈ P.flatMap (ndsOf D), n ∉ ndsOf D d) := by
  rw [List.flatMap_append, List.flatMap_cons, List.nodup_append] at h
  intro n hn hd
  exact h.2.2 n hn n (List.mem_append_left _ hd) rfl
theorem rank_of (hv : Visit cookie D V [0]) (hn : (V.flatMap (ndsOf D)).Nodup) (hr : ∀ n ∈ V.flatMap (ndsOf D), 1 ≤ n) : ∃ r : Int → Nat, r 0 = 0 ∧ ∀ d ∈ V, ∀ e ∈ dget D d, r e.node = r d + 1 := by
  have key : ∀ k, k ≤ V.length → ∃ r : Int → Nat, r 0 = 0 ∧ ∀ d ∈ V.take k, ∀ e ∈ dget D d, r e.node = r d + 1 := by
    intro k
    induction k with
    | zero => intro _; exact ⟨fun _ => 0, rfl, fun d hd => by simp at hd⟩
    | succ k ih =>
      intro hk
      obtain ⟨r, r0, ri⟩ := ih (by omega)
      obtain ⟨d, hd⟩ : ∃ d, V[k]? = some d := ⟨_, List.getElem?_eq_getElem (by omega)⟩
      have htk : V.take (k + 1) = V.take k ++ [d] := by rw [List.take_add_one, hd]; rfl
      have hV : V = V.take k ++ d :: V.drop (k + 1) := by
        have h1 := List.take_append_drop (k + 1) V
        rw [htk, List.append_assoc] at h1
        exact h1.symm
      have hsp := nd_split (D := D) (P := V.take k) (d := d) (Q := V.drop (k + 1)) (by rw [← hV]; exact hn)
      have h1 : ∀ n ∈ ndsOf D d, 1 ≤ n := fun n q => hr n (List.mem_flatMap.2 ⟨d, List.mem_of_getElem? hd, q⟩)
      have hout : ∀ P' d' Q', V.take k ++ [d] = P' ++ d' :: Q' → d' ∉ ndsOf D d := fun P' d' Q' e q => by
        have e2 : V = P' ++ d' :: (Q' ++ V.drop (k + 1)) := by
          have h1 := List.take_append_drop (k + 1) V
          rw [htk, e, List.append_assoc] at h1
          exact h1.symm
        rcases hv.ch P' d' _ e2 with z | z
        · simp at z; subst z; have := h1 0 q; omega
        · -- P' is ahead of d
          have hpre : ∀ n ∈ P'.flatMap (ndsOf D), n ∈ (V.take k).flatMap (ndsOf D) := fun n hn' => by
            obtain ⟨y, hy, hyn⟩ := List.mem_flatMap.1 hn'
            refine List.mem_flatMap.2 ⟨y, ?_, hyn⟩
            rcases List.append_eq_append_iff.1 e with ⟨a, h1, h2⟩ | ⟨a, h1, h2⟩
            · cases a with
              | nil => simp at h1; rw [h1] at hy; exact hy
              | cons b a =>
                simp only [List.cons_append, List.cons.injEq] at h2
                have := h2.2
                simp at this
            · rw [h1]; exact List.mem_append_left _ hy
          exact hsp d' (hpre d' z) q
      refine ⟨fun v => if v ∈ ndsOf D d then r d + 1 else r v, ?_, fun d' hd' e he => ?_⟩
      · show (if (0 : Int) ∈ ndsOf D d then r d + 1 else r 0) = 0
        rw [if_neg (fun q => by have := h1 0 q; omega)]; exact r0
      · show (if e.node ∈ ndsOf D d then r d + 1 else r e.node) = (if d' ∈ ndsOf D d then r d + 1 else r d') + 1
        rw [htk] at hd'
        obtain ⟨P', Q', hpq⟩ := List.append_of_mem hd'
        rw [if_neg (hout P' d' Q' hpq)]
        rcases List.mem_append.1 hd' with q | q
        · rw [if_neg (hsp e.node (List.mem_flatMap.2 ⟨d', q, List.mem_map_of_mem (f := fun e : Ent => e.node) he⟩))]
          exact ri d' q e he
        · simp at q; subst q
          rw [if_pos (show e.node ∈ ndsOf D d' from List.mem_map_of_mem (f := fun e : Ent => e.node) he)]
  obtain ⟨r, r0, ri⟩ := key V.length (Nat.le_refl _)
  rw [List.take_length] at ri
  exact ⟨r, r0, ri⟩
theorem sorted_pair {l : List Ent} (h : SortedE l) (hr : ∀ e ∈ l, 1 ≤ e.cookie ∧ e.cookie ≤ 9223372036854775807) (hn : (l.map (·.cookie)).Nodup) : l.Pairwise (fun a b => a.cookie < b.cookie) := by
  have hstep : ∀ i x y, l[i]? = some x → l[i + 1]? = some y → x.cookie ≤ y.cookie := fun i x y hx hy => by
    have h1 := h i x y hx hy
    have h2 := hr x (List.mem_of_getElem? hx)
    have h3 := hr y (List.mem_of_getElem? hy)
    unfold ckDiff wrap64 at h1
    omega
  have hle : l.Pairwise (fun a b => a.cookie ≤ b.cookie) := by
    clear h hr hn
    induction l with
    | nil => exact List.Pairwise.nil
    | cons a l ih =>
      have ih' := ih (fun i x y hx hy => hstep (i + 1) x y (by simpa using hx) (by simpa using hy))
      refine List.pairwise_cons.2 ⟨fun b hb => ?_, ih'⟩
      cases l with
      | nil => cases hb
      | cons c l =>
        have h1 := hstep 0 a c rfl rfl
        rcases List.mem_cons.1 hb with q | q
        · subst q; exact h1
        · exact Int.le_trans h1 ((List.pairwise_cons.1 ih').1 b q)
  have hne : l.Pairwise (fun a b => a.cookie ≠ b.cookie) := List.pairwise_map.1 hn
  exact hle.imp₂ (fun a b h1 h2 => by omega) hne
def itemsOf (D : List (Int × DE)) (V : List Int) : List Itm := V.flatMap (fun d => (dget D d).map (fun e => (⟨d, e⟩ : Itm)))
theorem mem_itemsOf {i : Itm} : i ∈ itemsOf D V ↔ i.d ∈ V ∧ i.e ∈ dget D i.d := by
  unfold itemsOf
  rw [List.mem_flatMap]
  constructor
  · rintro ⟨d, hd, h⟩
    obtain ⟨e, he, rfl⟩ := List.mem_map.1 h
    exact ⟨hd, he⟩
  · rintro ⟨h1, h2⟩
    exact ⟨i.d, h1, List.mem_map.2 ⟨i.e, h2, rfl⟩⟩
theorem items_map {β : Type} (f : Ent → β) : (itemsOf D V).map (fun i => f i.e) = V.flatMap (fun d => (dget D d).map f) := by
  unfold itemsOf
  rw [List.map_flatMap]
  congr 1
  funext d
  rw [List.map_map]; rfl
theorem items_dir (hV : V.Nodup) (d : Int) : ((itemsOf D V).filter (fun i => decide (i.d = d))).map (·.e) = if d ∈ V then dget D d else [] := by
  induction V with
  | nil => rfl
  | cons v V ih =>
    have hV' := List.nodup_cons.1 hV
    have e1 : itemsOf D (v :: V) = (dget D v).map (fun e => (⟨v, e⟩ : Itm)) ++ itemsOf D V := by unfold itemsOf; rw [List.flatMap_cons]
    rw [e1, List.filter_append, List.map_append, ih hV'.2]
    by_cases c : v = d
    · subst c
      rw [if_neg hV'.1, if_pos (List.mem_cons_self ..), List.append_nil, List.filter_eq_self.2 (fun i hi => by obtain ⟨e, _, rfl⟩ := List.mem_map.1 hi; simp), List.map_map]
      exact List.map_id'' (fun _ => rfl) _
    · rw [List.filter_eq_nil_iff.2 (fun i hi => by obtain ⟨e, _, rfl⟩ := List.mem_map.1 hi; simpa using c), List.map_nil, List.nil_append]
      by_cases q : d ∈ V
      · rw [if_pos q, if_pos (List.mem_cons_of_mem _ q)]
      · rw [if_neg q, if_neg (fun z => (List.mem_cons.1 z).elim (fun e => c e.symm) q)]
/-- What has been visited is a tree. -/
theorem tree_of (hW : Whole cookie D V) (hn : (mkeys D).Nodup) (hc : cookie ≤ 9223372036854775807) :
    ∃ L, TInv L cookie ∧ (∀ d, isDirB L d = true ↔ d ∈ V) ∧ (∀ d, entries L d = if d ∈ V then dget D d else []) ∧ (∀ i, i ∈ L ↔ i.d ∈ V ∧ i.e ∈ dget D i.d) := by
  have hVn : V.Nodup := hW.perm.nodup_iff.2 hn
  obtain ⟨L, hL⟩ : ∃ L, (itemsOf D V).mergeSort (fun a b => decide (a.e.cookie ≤ b.e.cookie)) = L := ⟨_, rfl⟩
  have hp : L.Perm (itemsOf D V) := by rw [← hL]; exact List.mergeSort_perm _ _
  have hmem : ∀ i, i ∈ L ↔ i.d ∈ V ∧ i.e ∈ dget D i.d := fun i => by rw [hp.mem_iff, mem_itemsOf]
  have hso : L.Pairwise (fun a b => a.e.cookie ≤ b.e.cookie) := by
    have := List.pairwise_mergeSort (le := fun a b : Itm => decide (a.e.cookie ≤ b.e.cookie)) (fun a b c h1 h2 => by simp at h1 h2 ⊢; omega) (fun a b => by simp; omega) (itemsOf D V)
    rw [hL] at this
    exact this.imp (fun h => by simpa using h)
  have hcn : (L.map (fun i => i.e.cookie)).Nodup := by
    rw [(hp.map _).nodup_iff, items_map (fun e => e.cookie)]
    exact hW.cn
  have hck : L.Pairwise (fun a b => a.e.cookie < b.e.cookie) := by
    have hne : L.Pairwise (fun a b => a.e.cookie ≠ b.e.cookie) := List.pairwise_map.1 hcn
    exact hso.imp₂ (fun a b h1 h2 => by omega) hne
  have hok : ∀ i ∈ L, entOk1 (mget D i.e.node).isSome i.e = true ∧ 1 ≤ i.e.cookie ∧ i.e.cookie < cookie := fun i hi => by
    obtain ⟨h1, h2⟩ := (hmem i).1 hi
    exact (hW.vis.ok i.d h1).ok i.e h2
  have hnode : ∀ i ∈ L, i.e.node ∈ V.flatMap (ndsOf D) := fun i hi => by
    obtain ⟨h1, h2⟩ := (hmem i).1 hi
    exact List.mem_flatMap.2 ⟨i.d, h1, List.mem_map_of_mem (f := fun e : Ent => e.node) h2⟩
  have hdir : ∀ d, isDirB L d = true ↔ d ∈ V := fun d => by
    rw [isDirB_iff]
    constructor
    · rintro (q | ⟨i, hi, h1, h2⟩)
      · subst q; exact hW.root
      · obtain ⟨a, b⟩ := (hmem i).1 hi
        rw [← h1]; exact hW.vis.cl i.d a i.e b h2
    · intro hd
      rcases hW.tl d hd with q | q
      · exact Or.inl q
      · obtain ⟨e, he, h3⟩ := List.mem_map.1 q
        obtain ⟨he1, he2⟩ := List.mem_filter.1 he
        obtain ⟨v, hv, hev⟩ := List.mem_flatMap.1 he1
        exact Or.inr ⟨⟨v, e⟩, (hmem _).2 ⟨hv, hev⟩, h3, he2⟩
  have hent : ∀ d, entries L d = if d ∈ V then dget D d else [] := fun d => by
    have hpe : (entries L d).Perm (if d ∈ V then dget D d else []) := by
      rw [← items_dir hVn d]
      exact (hp.filter _).map _
    have h1 : (entries L d).Pairwise (fun a b => a.cookie < b.cookie) := by
      unfold entries
      exact List.pairwise_map.2 (hck.sublist List.filter_sublist)
    have h2 : (if d ∈ V then dget D d else []).Pairwise (fun a b : Ent => a.cookie < b.cookie) := by
      by_cases q : d ∈ V
      · rw [if_pos q]
        have hdo := hW.vis.ok d q
        refine sorted_pair hdo.so (fun e he => by have := hdo.ok e he; omega) ?_
        have := hW.cn
        obtain ⟨P, Q, hpq⟩ := List.append_of_mem q
        rw [hpq, List.flatMap_append, List.flatMap_cons, List.nodup_append, List.nodup_append] at this
        exact this.2.1.1
      · rw [if_neg q]; exact List.Pairwise.nil
    exact List.Perm.eq_of_pairwise (fun a b _ _ h1 h2 => by omega) h1 h2 hpe
  obtain ⟨r, r0, ri⟩ := rank_of hW.vis hW.nn (fun n q => (hW.nr n q).1)
  refine ⟨L, ⟨?_, fun i hi => hW.nr _ (hnode i hi), fun i hi => (hdir i.d).2 ((hmem i).1 hi).1, fun d => ?_, List.pairwise_map.2 hck, fun i hi => (hok i hi).2, hW.nx, ⟨r, r0, fun i hi => ri i.d ((hmem i).1 hi).1 i.e ((hmem i).1 hi).2⟩, fun i hi => ?_⟩, hdir, hent, hmem⟩
  · unfold nodes
    rw [(hp.map _).nodup_iff, items_map (fun e => e.node)]
    exact hW.nn
  · rw [hent d]
    by_cases q : d ∈ V
    · rw [if_pos q]; exact (hW.vis.ok d q).un
    · rw [if_neg q]; exact List.nodup_nil
  · have := (hok i hi).1
    unfold entOk1 at this
    simp only [Bool.and_eq_true, beq_iff_eq] at this
    exact this.1
end
end Go.Proofs.YtolilbcpfdnkjaaGreat

/- tree.Make, in plain Lean: a tree's own entries pass. -/
namespace Go.Proofs.YtolilbcpfdnkjaaGreat
open Go.RowKit
set_option linter.unusedSimpArgs false
set_option linter.unusedVariables false
section
variable {cookie : Int} {D : List (Int × DE)} {L : List Itm}
/-- D says what the items are. -/
structure Says (D : List (Int × DE)) (L : List Itm) : Prop where
  d1 : ∀ d, isDirB L d = true → ∃ v, mget D d = some (v, entries L d)
  d2 : ∀ d, isDirB L d = false → mget D d = none
theorem Says.get (h : Says D L) {d : Int} (hd : isDirB L d = true) : dget D d = entries L d := by
  obtain ⟨v, hv⟩ := h.d1 d hd
  unfold dget; rw [hv]; rfl
theorem item_node (hi : TInv L cookie) {i j : Itm} (h1 : i ∈ L) (h2 : j ∈ L) (e : i.e.node = j.e.node) : i = j := by
  obtain ⟨a, ha⟩ := List.mem_iff_getElem?.1 h1
  obtain ⟨b, hb⟩ := List.mem_iff_getElem?.1 h2
  have h3 : (nodes L)[a]? = some i.e.node := by unfold nodes; rw [List.getElem?_map, ha]; rfl
  have h4 : (nodes L)[b]? = some i.e.node := by unfold nodes; rw [List.getElem?_map, hb, e]; rfl
  have := (List.getElem?_inj (List.getElem?_eq_some_iff.1 h3).1 hi.nd).1 (h3.trans h4.symm)
  subst this
  rw [ha] at hb
  exact Option.some.inj hb
theorem item_cookie (hi : TInv L cookie) {i j : Itm} (h1 : i ∈ L) (h2 : j ∈ L) (e : i.e.cookie = j.e.cookie) : i = j := by
  have hn : (L.map (·.e.cookie)).Nodup := hi.ck.imp (fun h => by omega)
  obtain ⟨a, ha⟩ := List.mem_iff_getElem?.1 h1
  obtain ⟨b, hb⟩ := List.mem_iff_getElem?.1 h2
  have h3 : (L.map (·.e.cookie))[a]? = some i.e.cookie := by rw [List.getElem?_map, ha]; rfl
  have h4 : (L.map (·.e.cookie))[b]? = some i.e.cookie := by rw [List.getElem?_map, hb, e]; rfl
  have := (List.getElem?_inj (List.getElem?_eq_some_iff.1 h3).1 hn).1 (h3.trans h4.symm)
  subst this
  rw [ha] at hb
  exact Option.some.inj hb
theorem under_rank {r : Int → Nat} (hr : ∀ i ∈ L, r i.e.node = r i.d + 1) {a b : Int} (h : Under L a b) : r a ≤ r b := by
  induction h with
  | refl => exact Nat.le_refl _
  | step i hi _ ih => rw [hr i hi]; omega
theorem under_same (hi : TInv L cookie) {r : Int → Nat} (hr : ∀ i ∈ L, r i.e.node = r i.d + 1) {a b x : Int} (h : Under L a x) : Under L b x → r a = r b → a = b := by
  induction h with
  | refl =>
    intro g e
    cases g with
    | refl => rfl
    | step j hj g =>
      have := under_rank hr g
      have := hr j hj
      omega
  | step i hii h ih =>
    intro g e
    generalize hx : i.e.node = x at g
    cases g with
    | refl =>
      have := under_rank hr h
      have := hr i hii
      rw [hx] at this
      omega
    | step j hj g =>
      have := item_node hi hii hj hx
      subst this
      exact ih g e
theorem dir_item (hi : TInv L cookie) {j : Itm} (hj : j ∈ L) (h : isDirB L j.e.node = true) : j.e.dir = true := by
  rcases (isDirB_iff L _).1 h with q | ⟨i, hii, h1, h2⟩
  · have := hi.rg j hj; omega
  · have := item_node hi hii hj h1
    subst this; exact h2
theorem under_dir (hi : TInv L cookie) {i j : Itm} (hii : i ∈ L) (hj : j ∈ L) (h : Under L j.e.node i.d) : j.e.dir = true := by
  rcases h.down with q | ⟨k, hk, h1, _⟩
  · exact dir_item hi hj (by rw [q]; exact hi.pa i hii)
  · exact dir_item hi hj (by rw [← h1]; exact hi.pa k hk)
theorem mem_entries' {d : Int} {e : Ent} : e ∈ entries L d ↔ (⟨d, e⟩ : Itm) ∈ L := by
  rw [mem_entries]
  constructor
  · rintro ⟨i, hi, rfl, rfl⟩; exact hi
  · intro h; exact ⟨_, h, rfl, rfl⟩
theorem ents_ok (l : List Ent) : ∀ {s : MkS} {ns : List ByteArray}, s.bad = false → (∀ e ∈ l, entOk1 (mget D e.node).isSome e = true ∧ 1 ≤ e.cookie ∧ e.cookie < cookie) → (s.cks ++ l.map (·.cookie)).Nodup → (s.nodes ++ l.map (·.node)).Nodup → (ns ++ l.map (·.name)).Nodup →
    (mkEnts cookie D s ns l).bad = false ∧ (mkEnts cookie D s ns l).cks = s.cks ++ l.map (·.cookie) := by
  induction l with
  | nil => intro s ns h _ _ _ _; exact ⟨h, by simp [mkEnts]⟩
  | cons x l ih =>
    intro s ns h h1 h2 h3 h4
    rw [mkEnts]
    obtain ⟨a1, a2, a3⟩ := h1 x (List.mem_cons_self ..)
    have hc : x.cookie ∉ s.cks := fun q => (List.nodup_append.1 h2).2.2 _ q x.cookie (by simp) rfl
    have hd : x.node ∉ s.nodes := fun q => (List.nodup_append.1 h3).2.2 _ q x.node (by simp) rfl
    have hm : x.name ∉ ns := fun q => (List.nodup_append.1 h4).2.2 _ q x.name (by simp) rfl
    have hb : (s.entry cookie D ns x).bad = false := by
      unfold MkS.entry
      have : entOk2 cookie s ns x = true := by
        unfold entOk2
        rw [decide_eq_true a2, decide_eq_true a3, decide_eq_true hc, decide_eq_true hd, decide_eq_true hm]; rfl
      simp only [h, a1, this]; rfl
    obtain ⟨b1, b2⟩ := ih (ns := ns ++ [x.name]) hb (fun e he => h1 e (List.mem_cons_of_mem _ he)) (by simpa [MkS.entry] using h2) (by simpa [MkS.entry] using h3) (by simpa using h4)
    exact ⟨b1, by rw [b2]; simp [MkS.entry]⟩
theorem entries_sorted (hi : TInv L cookie) (hc : cookie ≤ 9223372036854775807) (d : Int) : SortedE (entries L d) := by
  intro i x y hx hy
  have hp : (entries L d).Pairwise (fun a b => a.cookie < b.cookie) := by
    unfold entries
    exact List.pairwise_map.2 ((List.pairwise_map.1 hi.ck).sublist List.filter_sublist)
  have h1 : x.cookie < y.cookie := by
    obtain ⟨hxl, hx⟩ := List.getElem?_eq_some_iff.1 hx
    obtain ⟨hyl, hy⟩ := List.getElem?_eq_some_iff.1 hy
    have := List.pairwise_iff_getElem.1 hp i (i + 1) hxl hyl (by omega)
    rw [hx, hy] at this; exact this
  have h2 := hi.cb _ (mem_entries'.1 (List.mem_of_getElem? hx))
  have h3 := hi.cb _ (mem_entries'.1 (List.mem_of_getElem? hy))
  dsimp only at h2 h3
  unfold ckDiff wrap64
  omega
end
end Go.Proofs.YtolilbcpfdnkjaaGreat

/- tree.Make, in plain Lean: a tree's own entries pass: the walk over them. -/
namespace Go.Proofs.YtolilbcpfdnkjaaGreat
open Go.RowKit
set_option linter.unusedSimpArgs false
set_option linter.unusedVariables false
section
variable {cookie : Int} {D : List (Int × DE)} {L : List Itm}
/-- Behind a directory all below it has been met, and nothing else. -/
def Met (L : List Itm) (s s' : MkS) (p : Itm → Prop) : Prop :=
  s'.bad = false ∧ s'.cks.Nodup ∧ (∀ k, k ∈ s'.nodes ↔ k ∈ s.nodes ∨ ∃ i ∈ L, p i ∧ i.e.node = k) ∧ (∀ k, k ∈ s'.cks ↔ k ∈ s.cks ∨ ∃ i ∈ L, p i ∧ i.e.cookie = k)
theorem fold_met (hi : TInv L cookie) (f : Nat) (n : Int)
    (ih : ∀ (s : MkS) (n : Int), isDirB L n = true → s.bad = false → s.Good → s.cks.Nodup → 201 ≤ s.nodes.length + f → (∀ i ∈ L, Under L n i.d → i.e.node ∉ s.nodes ∧ i.e.cookie ∉ s.cks) → Met L s (mkDir cookie D f s n) (fun i => Under L n i.d)) :
    ∀ (l : List Ent) (s : MkS), (∀ e ∈ l, (⟨n, e⟩ : Itm) ∈ L) → (l.map (·.node)).Nodup → s.bad = false → s.Good → s.cks.Nodup → 201 ≤ s.nodes.length + f → (∀ e ∈ l, e.dir = true → ∀ i ∈ L, Under L e.node i.d → i.e.node ∉ s.nodes ∧ i.e.cookie ∉ s.cks) →
    Met L s (l.foldl (fun s e => if (e.dir && !s.bad) = true then mkDir cookie D f s e.node else s) s) (fun i => ∃ e ∈ l, e.dir = true ∧ Under L e.node i.d) := by
  obtain ⟨r, r0, hr⟩ := hi.ac
  intro l
  induction l with
  | nil => intro s _ _ hb hg hc hf _; exact ⟨hb, hc, fun k => by simp, fun k => by simp⟩
  | cons x l il =>
    intro s hm hn hb hg hc hf hd
    rw [List.foldl_cons]
    have hn' := List.nodup_cons.1 (show (x.node :: l.map (·.node)).Nodup from hn)
    have hxm := hm x (List.mem_cons_self ..)
    by_cases hx : x.dir = true
    · have hc1 : (x.dir && !s.bad) = true := by rw [hb, hx]; rfl
      rw [hc1]
      simp only [if_true]
      have hdx : isDirB L x.node = true := (isDirB_iff L _).2 (Or.inr ⟨_, hxm, rfl, hx⟩)
      obtain ⟨a1, a2, a3, a4⟩ := ih s x.node hdx hb hg hc hf (hd x (List.mem_cons_self ..) hx)
      have hdis : ∀ e ∈ l, e.dir = true → ∀ i ∈ L, Under L e.node i.d → i.e.node ∉ (mkDir cookie D f s x.node).nodes ∧ i.e.cookie ∉ (mkDir cookie D f s x.node).cks := fun e he hed i hii hu => by
        have hem := hm e (List.mem_cons_of_mem _ he)
        have hne : ¬ Under L x.node i.d := fun q => by
          have h1 := hr _ hem
          have h2 := hr _ hxm
          dsimp only at h1 h2
          have := under_same hi hr q hu (by omega)
          exact hn'.1 (by rw [this]; exact List.mem_map_of_mem (f := fun e : Ent => e.node) he)
        obtain ⟨b1, b2⟩ := hd e (List.mem_cons_of_mem _ he) hed i hii hu
        refine ⟨fun q => ?_, fun q => ?_⟩
        · rcases (a3 _).1 q with z | ⟨j, hj, h1, h2⟩
          · exact b1 z
          · have := item_node hi hj hii h2
            subst this; exact hne h1
        · rcases (a4 _).1 q with z | ⟨j, hj, h1, h2⟩
          · exact b2 z
          · have := item_cookie hi hj hii h2
            subst this; exact hne h1
      obtain ⟨c1, c2, c3, c4⟩ := il (mkDir cookie D f s x.node) (fun e he => hm e (List.mem_cons_of_mem _ he)) hn'.2 a1 (MkS.Good.dir f _ hg) a2 (Nat.le_trans hf (Nat.add_le_add_right (mkDir_nodes f _) _)) hdis
      refine ⟨c1, c2, fun k => ?_, fun k => ?_⟩
      · rw [c3, a3]
        constructor
        · rintro ((q | ⟨i, hi, h1, h2⟩) | ⟨i, hi, ⟨e, he, h0, h1⟩, h2⟩)
          · exact Or.inl q
          · exact Or.inr ⟨i, hi, ⟨x, List.mem_cons_self .., hx, h1⟩, h2⟩
          · exact Or.inr ⟨i, hi, ⟨e, List.mem_cons_of_mem _ he, h0, h1⟩, h2⟩
        · rintro (q | ⟨i, hi, ⟨e, he, h0, h1⟩, h2⟩)
          · exact Or.inl (Or.inl q)
          · rcases List.mem_cons.1 he with z | z
            · subst z; exact Or.inl (Or.inr ⟨i, hi, h1, h2⟩)
            · exact Or.inr ⟨i, hi, ⟨e, z, h0, h1⟩, h2⟩
      · rw [c4, a4]
        constructor
        · rintro ((q | ⟨i, hi, h1, h2⟩) | ⟨i, hi, ⟨e, he, h0, h1⟩, h2⟩)
          · exact Or.inl q
          · exact Or.inr ⟨i, hi, ⟨x, List.mem_cons_self .., hx, h1⟩, h2⟩
          · exact Or.inr ⟨i, hi, ⟨e, List.mem_cons_of_mem _ he, h0, h1⟩, h2⟩
        · rintro (q | ⟨i, hi, ⟨e, he, h0, h1⟩, h2⟩)
          · exact Or.inl (Or.inl q)
          · rcases List.mem_cons.1 he with z | z
            · subst z; exact Or.inl (Or.inr ⟨i, hi, h1, h2⟩)
            · exact Or.inr ⟨i, hi, ⟨e, z, h0, h1⟩, h2⟩
    · have hx' : x.dir = false := by simpa using hx
      have hc1 : (x.dir && !s.bad) = false := by rw [hx']; rfl
      rw [hc1]
      simp only [Bool.false_eq_true, if_false]
      obtain ⟨c1, c2, c3, c4⟩ := il s (fun e he => hm e (List.mem_cons_of_mem _ he)) hn'.2 hb hg hc hf (fun e he => hd e (List.mem_cons_of_mem _ he))
      have hiff : ∀ i : Itm, (∃ e ∈ x :: l, e.dir = true ∧ Under L e.node i.d) ↔ ∃ e ∈ l, e.dir = true ∧ Under L e.node i.d := fun i => by
        constructor
        · rintro ⟨e, he, h0, h1⟩
          rcases List.mem_cons.1 he with z | z
          · subst z; rw [hx'] at h0; cases h0
          · exact ⟨e, z, h0, h1⟩
        · rintro ⟨e, he, h0, h1⟩; exact ⟨e, List.mem_cons_of_mem _ he, h0, h1⟩
      refine ⟨c1, c2, fun k => ?_, fun k => ?_⟩
      · rw [c3]; simp only [hiff]
      · rw [c4]; simp only [hiff]
theorem dir_met (hi : TInv L cookie) (hs : Says D L) (hck : cookie ≤ 9223372036854775807) : ∀ (f : Nat) (s : MkS) (n : Int), isDirB L n = true → s.bad = false → s.Good → s.cks.Nodup → 201 ≤ s.nodes.length + f → (∀ i ∈ L, Under L n i.d → i.e.node ∉ s.nodes ∧ i.e.cookie ∉ s.cks) →
    Met L s (mkDir cookie D f s n) (fun i => Under L n i.d) := by
  intro f
  induction f with
  | zero => intro s n _ hb hg _ hf _; have := hg.len hb; omega
  | succ f ih =>
    intro s n hd hb hg hc hf hdis
    obtain ⟨r, r0, hr⟩ := hi.ac
    have hmd : mkDir cookie D (f + 1) s n = (dget D n).foldl (fun s e => if (e.dir && !s.bad) = true then mkDir cookie D f s e.node else s) (mkEnts cookie D { s with bad := s.bad || !sortedB (dget D n) } [] (dget D n)) := rfl
    have hl : dget D n = entries L n := hs.get hd
    rw [hmd, hl]
    have hsb : sortedB (entries L n) = true := (sortedB_iff _).2 (entries_sorted hi hck n)
    have hs1 : ({ s with bad := s.bad || !sortedB (entries L n) } : MkS) = s := by rw [hsb, hb]; cases s; simp at hb; subst hb; rfl
    rw [hs1]
    have hsubn : ((entries L n).map (·.node)).Nodup := by
      unfold entries; rw [List.map_map]
      exact (List.filter_sublist.map _).nodup (show (L.map (·.e.node)).Nodup from hi.nd)
    have hsubc : ((entries L n).map (·.cookie)).Nodup := by
      unfold entries; rw [List.map_map]
      exact (List.filter_sublist.map _).nodup (show (L.map (·.e.cookie)).Nodup from hi.ck.imp (fun h => by omega))
    obtain ⟨e1, e2⟩ := ents_ok (cookie := cookie) (D := D) (entries L n) (s := s) (ns := []) hb (fun e he => by
        have him := mem_entries'.1 he
        have hgd := hi.gd _ him
        have hrg := hi.rg _ him
        have hcb := hi.cb _ him
        dsimp only at hgd hrg hcb
        refine ⟨?_, hcb⟩
        unfold entOk1
        rw [hgd]
        have hk : (mget D e.node).isSome = e.dir := by
          cases hq : isDirB L e.node with
          | true =>
            obtain ⟨v, hv⟩ := hs.d1 _ hq
            rw [hv]
            exact (dir_item hi him hq).symm
          | false =>
            rw [hs.d2 _ hq]
            cases hed : e.dir with
            | false => rfl
            | true =>
              have := (isDirB_iff L e.node).2 (Or.inr ⟨_, him, rfl, hed⟩)
              rw [hq] at this; cases this
        rw [hk, decide_eq_true hrg.1, decide_eq_true hrg.2]
        simp) (by
        rw [List.nodup_append]
        refine ⟨hc, hsubc, fun a ha b hb' e => ?_⟩
        obtain ⟨x, hx, rfl⟩ := List.mem_map.1 hb'
        rw [e] at ha
        exact (hdis _ (mem_entries'.1 hx) .refl).2 ha) (by
        rw [List.nodup_append]
        refine ⟨(hg hb).1, hsubn, fun a ha b hb' e => ?_⟩
        obtain ⟨x, hx, rfl⟩ := List.mem_map.1 hb'
        rw [e] at ha
        exact (hdis _ (mem_entries'.1 hx) .refl).1 ha) (by simpa using hi.un n)
    have e3 : (mkEnts cookie D s [] (entries L n)).nodes = s.nodes ++ (entries L n).map (·.node) := mkEnts_nodes _
    have hg2 : (mkEnts cookie D s [] (entries L n)).Good := MkS.Good.ents _ hg
    have hc2 : (mkEnts cookie D s [] (entries L n)).cks.Nodup := by
      rw [e2, List.nodup_append]
      refine ⟨hc, hsubc, fun a ha b hb' e => ?_⟩
      obtain ⟨x, hx, rfl⟩ := List.mem_map.1 hb'
      rw [e] at ha
      exact (hdis _ (mem_entries'.1 hx) .refl).2 ha
    have hdir : ∀ i ∈ L, (Under L n i.d ↔ i.d = n ∨ ∃ e ∈ entries L n, e.dir = true ∧ Under L e.node i.d) := fun i hii => by
      constructor
      · intro h
        rcases h.down with q | ⟨j, hj, h1, h2⟩
        · exact Or.inl q.symm
        · exact Or.inr ⟨j.e, mem_entries.2 ⟨j, hj, h1, rfl⟩, under_dir hi hii hj h2, h2⟩
      · rintro (q | ⟨e, he, _, h2⟩)
        · rw [q]; exact .refl
        · exact (Under.step ⟨n, e⟩ (mem_entries'.1 he) .refl).trans h2
    have hfin : ∀ (s' : MkS), Met L (mkEnts cookie D s [] (entries L n)) s' (fun i => ∃ e ∈ entries L n, e.dir = true ∧ Under L e.node i.d) → Met L s s' (fun i => Under L n i.d) := fun s' ⟨c1, c2, c3, c4⟩ => by
      refine ⟨c1, c2, fun k => ?_, fun k => ?_⟩
      · rw [c3, e3, List.mem_append]
        constructor
        · rintro ((q | q) | ⟨i, hii, h1, h2⟩)
          · exact Or.inl q
          · obtain ⟨x, hx, rfl⟩ := List.mem_map.1 q
            exact Or.inr ⟨_, mem_entries'.1 hx, .refl, rfl⟩
          · exact Or.inr ⟨i, hii, (hdir i hii).2 (Or.inr h1), h2⟩
        · rintro (q | ⟨i, hii, h1, h2⟩)
          · exact Or.inl (Or.inl q)
          · rcases (hdir i hii).1 h1 with z | z
            · refine Or.inl (Or.inr (List.mem_map.2 ⟨i.e, mem_entries.2 ⟨i, hii, z, rfl⟩, h2⟩))
            · exact Or.inr ⟨i, hii, z, h2⟩
      · rw [c4, e2, List.mem_append]
        constructor
        · rintro ((q | q) | ⟨i, hii, h1, h2⟩)
          · exact Or.inl q
          · obtain ⟨x, hx, rfl⟩ := List.mem_map.1 q
            exact Or.inr ⟨_, mem_entries'.1 hx, .refl, rfl⟩
          · exact Or.inr ⟨i, hii, (hdir i hii).2 (Or.inr h1), h2⟩
        · rintro (q | ⟨i, hii, h1, h2⟩)
          · exact Or.inl (Or.inl q)
          · rcases (hdir i hii).1 h1 with z | z
            · refine Or.inl (Or.inr (List.mem_map.2 ⟨i.e, mem_entries.2 ⟨i, hii, z, rfl⟩, h2⟩))
            · exact Or.inr ⟨i, hii, z, h2⟩
    by_cases hne : entries L n = []
    · apply hfin
      rw [hne] at e1 hc2 ⊢
      exact ⟨e1, hc2, fun k => by simp, fun k => by simp⟩
    · have hlen : 1 ≤ ((entries L n).map (·.node)).length := by rw [List.length_map]; exact List.length_pos_iff.2 hne
      apply hfin
      refine fold_met hi f n ih (entries L n) _ (fun e he => mem_entries'.1 he) hsubn e1 hg2 hc2 (by rw [e3, List.length_append]; omega) (fun e he hed i hii hu => ?_)
      have hem := mem_entries'.1 he
      have hun : Under L n i.d := (hdir i hii).2 (Or.inr ⟨e, he, hed, hu⟩)
      obtain ⟨b1, b2⟩ := hdis i hii hun
      have hnd : i.d ≠ n := fun q => by
        have h1 := under_rank hr hu
        have h2 := hr _ hem
        dsimp only at h2
        rw [q] at h1; omega
      rw [e3, e2]
      refine ⟨fun q => ?_, fun q => ?_⟩
      · rcases List.mem_append.1 q with z | z
        · exact b1 z
        · obtain ⟨x, hx, h3⟩ := List.mem_map.1 z
          have := item_node hi (mem_entries'.1 hx) hii h3
          rw [← this] at hnd; exact hnd rfl
      · rcases List.mem_append.1 q with z | z
        · exact b2 z
        · obtain ⟨x, hx, h3⟩ := List.mem_map.1 z
          have := item_cookie hi (mem_entries'.1 hx) hii h3
          rw [← this] at hnd; exact hnd rfl
end
end Go.Proofs.YtolilbcpfdnkjaaGreat

/- tree.Make: the contract: a tree comes just if the entries make one. -/
namespace Go.Proofs.YtolilbcpfdnkjaaGreat
open Go.RowKit
set_option linter.unusedSimpArgs false
set_option linter.unusedVariables false
section
variable {cookie : Int} {D : List (Int × DE)} {L : List Itm} {Fm : List (Int × Int)}
theorem under_root (hi : TInv L cookie) : ∀ i ∈ L, Under L 0 i.d := by
  obtain ⟨r, r0, hr⟩ := hi.ac
  have key : ∀ k, ∀ i ∈ L, r i.d ≤ k → Under L 0 i.d := by
    intro k
    induction k with
    | zero =>
      intro i hii h
      rcases (isDirB_iff L _).1 (hi.pa i hii) with q | ⟨j, hj, h1, h2⟩
      · rw [q]; exact .refl
      · have := hr j hj; rw [h1] at this; omega
    | succ k ih =>
      intro i hii h
      rcases (isDirB_iff L _).1 (hi.pa i hii) with q | ⟨j, hj, h1, h2⟩
      · rw [q]; exact .refl
      · have h3 := hr j hj
        rw [h1] at h3
        rw [← h1]
        exact .step j hj (ih j hj (by omega))
  exact fun i hii => key _ i hii (Nat.le_refl _)
theorem items_nodup {K : List Int} (hK : K.Nodup) (hd : ∀ d ∈ K, (dget D d).Nodup) : (itemsOf D K).Nodup := by
  induction K with
  | nil => exact List.nodup_nil
  | cons d K ih =>
    have hK' := List.nodup_cons.1 hK
    have e1 : itemsOf D (d :: K) = (dget D d).map (fun e => (⟨d, e⟩ : Itm)) ++ itemsOf D K := by unfold itemsOf; rw [List.flatMap_cons]
    rw [e1, List.nodup_append]
    refine ⟨List.pairwise_map.2 ((hd d (List.mem_cons_self ..)).imp (fun h e => h (by cases e; rfl))), ih hK'.2 (fun x hx => hd x (List.mem_cons_of_mem _ hx)), fun a ha b hb e => ?_⟩
    obtain ⟨x, hx, rfl⟩ := List.mem_map.1 ha
    subst e
    exact hK'.1 (mem_itemsOf.1 hb).1
theorem keys_says (hs : Says D L) (d : Int) : d ∈ mkeys D ↔ isDirB L d = true := by
  constructor
  · intro q
    cases c : isDirB L d with
    | true => rfl
    | false => exact absurd q ((mget_none_iff D d).1 (hs.d2 d c))
  · intro q
    obtain ⟨v, hv⟩ := hs.d1 d q
    by_cases c : d ∈ mkeys D
    · exact c
    · rw [(mget_none_iff D d).2 c] at hv; cases hv
theorem allE_perm (hi : TInv L cookie) (hs : Says D L) (hn : (mkeys D).Nodup) : (allE D).Perm (L.map (·.e)) := by
  have hnd : ∀ d ∈ mkeys D, (dget D d).Nodup := fun d hd => by
    rw [hs.get ((keys_says hs d).1 hd)]
    have := hi.un d
    exact (List.pairwise_map.1 this).imp (fun h e => h (by rw [e]))
  have hLn : L.Nodup := (List.pairwise_map.1 (show (L.map (·.e.node)).Nodup from hi.nd)).imp (fun h e => h (by rw [e]))
  have hp : (itemsOf D (mkeys D)).Perm L := by
    refine (List.perm_ext_iff_of_nodup (items_nodup hn hnd) hLn).2 (fun i => ?_)
    rw [mem_itemsOf]
    constructor
    · rintro ⟨h1, h2⟩
      rw [hs.get ((keys_says hs _).1 h1)] at h2
      exact mem_entries'.1 h2
    · intro h
      have hd := hi.pa i h
      exact ⟨(keys_says hs _).2 hd, by rw [hs.get hd]; exact mem_entries'.2 h⟩
  have h1 : (itemsOf D (mkeys D)).map (·.e) = allE D := by
    rw [allE_keys hn, items_map (fun e => e)]
    congr 1
    funext d
    exact List.map_id'' (fun _ => rfl) _
  rw [← h1]
  exact hp.map _
theorem files_says (hi : TInv L cookie) (hs : Says D L) (hn : (mkeys D).Nodup) (n : Int) : fileIn (allE D) n ↔ isFileB L n = true := by
  rw [isFileB_iff]
  unfold fileIn
  constructor
  · rintro ⟨e, he, h1, h2⟩
    obtain ⟨i, hii, rfl⟩ := List.mem_map.1 ((allE_perm hi hs hn).mem_iff.1 he)
    exact ⟨i, hii, h2, h1⟩
  · rintro ⟨i, hii, h1, h2⟩
    exact ⟨i.e, (allE_perm hi hs hn).mem_iff.2 (List.mem_map_of_mem hii), h2, h1⟩
theorem make_ok (hi : TInv L cookie) (hs : Says D L) (hn : (mkeys D).Nodup) (hck : cookie ≤ 9223372036854775807) (hF : (mkeys Fm).Nodup) (hFo : FilesOf Fm (allE D)) :
    (mkAll cookie D).bad = false ∧ 1 + dcnt (allE D) = D.length ∧ (mkAll cookie D).nodes.length = Fm.length + dcnt (allE D) := by
  have hd0 : isDirB L 0 = true := by unfold isDirB; simp
  have hroot : ((mget D 0).isSome && decide (1 ≤ cookie)) = true := by
    obtain ⟨v, hv⟩ := hs.d1 0 hd0
    rw [hv, decide_eq_true hi.nx]; rfl
  have hmk : mkAll cookie D = mkDir cookie D 201 ⟨[], [], false⟩ 0 := by unfold mkAll; rw [if_pos hroot]
  obtain ⟨c1, c2, c3, c4⟩ := dir_met hi hs hck 201 ⟨[], [], false⟩ 0 hd0 rfl (fun _ => ⟨List.nodup_nil, fun n hn => by cases hn⟩) List.nodup_nil (by simp) (fun i _ _ => ⟨fun q => (by cases q), fun q => (by cases q)⟩)
  have hgood := mkAll_good cookie D
  rw [hmk] at hgood ⊢
  have hnn := (hgood c1).1
  have hlen : (mkDir cookie D 201 ⟨[], [], false⟩ 0).nodes.length = L.length := by
    have := ((List.perm_ext_iff_of_nodup hnn hi.nd).2 (fun k => by
      rw [c3, mem_nodes]
      constructor
      · rintro (q | ⟨i, h1, _, h2⟩)
        · cases q
        · exact ⟨i, h1, h2⟩
      · rintro ⟨i, h1, h2⟩; exact Or.inr ⟨i, h1, under_root hi i h1, h2⟩)).length_eq
    rw [this]; unfold nodes; rw [List.length_map]
  have hp := allE_perm hi hs hn
  have hsub : ∀ (p : Ent → Bool), ((L.map (·.e)).filter p |>.map (·.node)).Nodup := fun p => by
    have : ((L.map (·.e)).map (·.node)).Nodup := by rw [List.map_map]; exact hi.nd
    exact (List.filter_sublist.map _).nodup this
  have hdl : D.length = 1 + dcnt (allE D) := by
    rw [dcnt_perm hp]
    have h1 : (mkeys D).Perm (0 :: dirsIn (L.map (·.e))) := by
      refine (List.perm_ext_iff_of_nodup hn (List.nodup_cons.2 ⟨fun q => ?_, hsub _⟩)).2 (fun d => ?_)
      · obtain ⟨e, he, h0⟩ := List.mem_map.1 q
        obtain ⟨i, hii, rfl⟩ := List.mem_map.1 (List.mem_filter.1 he).1
        have := hi.rg i hii; omega
      · rw [keys_says hs, isDirB_iff, List.mem_cons]
        constructor
        · rintro (q | ⟨i, h1, h2, h3⟩)
          · exact Or.inl q
          · exact Or.inr (List.mem_map.2 ⟨i.e, List.mem_filter.2 ⟨List.mem_map_of_mem h1, h3⟩, h2⟩)
        · rintro (q | q)
          · exact Or.inl q
          · obtain ⟨e, he, h0⟩ := List.mem_map.1 q
            obtain ⟨h1, h3⟩ := List.mem_filter.1 he
            obtain ⟨i, hii, rfl⟩ := List.mem_map.1 h1
            exact Or.inr ⟨i, hii, h0, h3⟩
    have := h1.length_eq
    rw [List.length_cons, ← dcnt_dirs] at this
    simp [mkeys] at this
    omega
  have hfl : Fm.length = ((L.map (·.e)).filter (fun e => !e.dir)).length := by
    have h1 : (mkeys Fm).Perm (((L.map (·.e)).filter (fun e => !e.dir)).map (·.node)) := by
      refine (List.perm_ext_iff_of_nodup hF (hsub _)).2 (fun n => ?_)
      have h2 : n ∈ mkeys Fm ↔ fileIn (allE D) n := by
        constructor
        · intro q
          by_cases c : fileIn (allE D) n
          · exact c
          · exact absurd q ((mget_none_iff Fm n).1 ((hFo n).2 c))
        · intro q
          by_cases c : n ∈ mkeys Fm
          · exact c
          · have := (hFo n).1 q
            rw [(mget_none_iff Fm n).2 c] at this; cases this
      rw [h2, fileIn_perm hp]
      unfold fileIn
      constructor
      · rintro ⟨e, he, h3, h4⟩; exact List.mem_map.2 ⟨e, List.mem_filter.2 ⟨he, by rw [h3]; rfl⟩, h4⟩
      · intro q
        obtain ⟨e, he, h4⟩ := List.mem_map.1 q
        obtain ⟨he1, he2⟩ := List.mem_filter.1 he
        exact ⟨e, he1, by simpa using he2, h4⟩
    have := h1.length_eq
    simpa [mkeys] using this
  refine ⟨c1, hdl.symm, ?_⟩
  rw [hlen, hfl, dcnt_perm hp]
  have := len_split (L.map (·.e))
  rw [List.length_map] at this
  omega
/-- What Make answers: a tree, just if the entries make one. -/
def MakeT (w : World) (cookie : Int) (D : List (Int × DE)) (e : Ending) (w' : World) : Prop :=
  (∃ (L : List Itm) (g : Nat) (F : Nat → Prop), TInv L cookie ∧ Says D L ∧ e = .returned (.tuple #[.pointer (some ⟨g, 0, none⟩), .int .i64 0]) ∧ TreeM w' F g L cookie ∧ (∀ k, F k → w.heap.size ≤ k) ∧ Below w.heap.size w w') ∨
  ((∀ L, TInv L cookie → ¬ Says D L) ∧ e = .returned (.tuple #[.pointer none, .int .i64 2]) ∧ Below w.heap.size w w')
theorem make_post {w w' : World} {e : Ending} (hn : (mkeys D).Nodup) (hck : cookie ≤ 9223372036854775807) (h : MakePost w cookie D e w') : MakeT w cookie D e w' := by
  obtain ⟨Fm, hF, hFo, h⟩ := h
  rcases h with ⟨⟨h1, h2, h3⟩, g, bdn, bfn, gp, bp, vp, D', p, rfl, hm, j1, j2, hp, hf, hb⟩ | ⟨h1, h2, h3⟩
  · obtain ⟨V, hW, hnodes⟩ := whole_of hn hF hFo h1 h2 h3
    obtain ⟨L, hi, hdir, hent, hmem⟩ := tree_of hW hn hck
    have hs : Says D L := by
      refine ⟨fun d hd => ?_, fun d hd => ?_⟩
      · have hv := (hdir d).1 hd
        have hk := hW.perm.mem_iff.1 hv
        obtain ⟨x, hx, rfl⟩ := List.mem_map.1 hk
        refine ⟨x.2.1, ?_⟩
        rw [mget_of_mem hn hx, hent, if_pos hv, dget_mem hn hx]
      · refine (mget_none_iff D d).2 (fun q => ?_)
        have := (hdir d).2 (hW.perm.mem_iff.2 q)
        rw [hd] at this; cases this
    refine Or.inl ⟨L, g, _, hi, hs, rfl, ⟨_, _, _, _, _, _, _, _, rfl, hm, ?_⟩, hf, hb⟩
    refine ⟨fun d hd => ?_, fun d hd => j2 d (hs.d2 d hd), fun n => ?_, fun n => ?_⟩
    · obtain ⟨v, hv⟩ := hs.d1 d hd
      exact j1 d v _ hv
    · by_cases c : isFileB L n = true
      · rw [if_pos c]; exact (hFo n).1 ((files_says hi hs hn n).2 c)
      · rw [if_neg c]; exact (hFo n).2 (fun q => c ((files_says hi hs hn n).1 q))
    · rw [hp n, hnodes, List.mem_flatMap]
      constructor
      · rintro ⟨d, hd, h4⟩
        obtain ⟨x, hx, rfl⟩ := List.mem_map.1 h4
        exact ⟨⟨d, x⟩, (hmem _).2 ⟨hd, hx⟩, rfl⟩
      · rintro ⟨i, hii, rfl⟩
        obtain ⟨h5, h6⟩ := (hmem i).1 hii
        exact ⟨i.d, h5, List.mem_map_of_mem (f := fun e : Ent => e.node) h6⟩
  · exact Or.inr ⟨fun L hi hs => h1 (make_ok hi hs hn hck hF hFo), h2, h3⟩
end
/-- tree.Make. -/
theorem tmake_any {w : World} {bd : Nat} {cookie : Int} {D : List (Int × DE)} (hD : IMap encDE w bd D) (hr : ∀ x ∈ D, Arg EEnt w x.2.1 x.2.2) (hl : ∀ x ∈ D, x.2.2.length ≤ 100000 ∧ ∀ e ∈ x.2.2, e.name.size ≤ maxLen) (hdl : D.length ≤ 100000) (hck : cookie ≤ 9223372036854775807) :
    Calls Tryz.prog 24 #[.int .i64 cookie, .map (some bd)] w (MakeT w cookie D) :=
  (make_any hD hr hl hdl).mono fun e w' h => make_post hD.nodup hck h
end Go.Proofs.YtolilbcpfdnkjaaGreat

/- A tree's directories, and its entries' sizes. -/
namespace Go.Proofs.YtolilbcpfdnkjaaGreat
open Go.RowKit
set_option linter.unusedSimpArgs false
set_option linter.unusedVariables false
theorem dirsT_mem {L : List Itm} {next : Int} (h : TInv L next) (x : Int) : x ∈ dirsT L ↔ isDirB L x = true := by
  unfold dirsT
  rw [List.mem_filter]
  constructor
  · exact fun q => q.2
  · intro q
    refine ⟨?_, q⟩
    have hr : 0 ≤ x ∧ x ≤ 200 := by
      rcases (isDirB_iff L x).1 q with e | ⟨i, hi, e, _⟩
      · subst e; exact ⟨by decide, by decide⟩
      · have := h.rg i hi; omega
    exact List.mem_map.2 ⟨x.toNat, List.mem_range.2 (by omega), by omega⟩
theorem dirsT_nodup (L : List Itm) : (dirsT L).Nodup := by
  unfold dirsT
  refine List.Pairwise.filter _ ?_
  rw [List.pairwise_map]
  exact List.nodup_range.imp (fun q e => q (by omega))
theorem dirsT_len (L : List Itm) : (dirsT L).length ≤ 201 := by
  unfold dirsT
  refine Nat.le_trans (List.length_filter_le _ _) ?_
  rw [List.length_map, List.length_range]; exact Nat.le_refl _
theorem ent_small {L : List Itm} {next : Int} (h : TInv L next) (d : Int) : ∀ e ∈ entries L d, e.name.size ≤ maxLen := fun e he => by
  have hm := h.gd _ (mem_entries'.1 he)
  have : e.name.size ≤ 255 := by
    unfold mayErr at hm
    split at hm
    · cases hm
    · rename_i q
      have q' : goodB e.name = true := by simpa using q
      unfold goodB at q'
      simp at q'
      exact q'.2.1
  unfold maxLen; omega
theorem says_unique {D : List (Int × DE)} {L M : List Itm} {n m : Int} (hn : (mkeys D).Nodup) (h1 : TInv L n) (h2 : TInv M m) (s1 : Says D L) (s2 : Says D M) : L = M := by
  have n1 : L.Nodup := (List.pairwise_map.1 (show (L.map (·.e.node)).Nodup from h1.nd)).imp (fun h e => h (by rw [e]))
  have n2 : M.Nodup := (List.pairwise_map.1 (show (M.map (·.e.node)).Nodup from h2.nd)).imp (fun h e => h (by rw [e]))
  have hd : ∀ d, isDirB L d = isDirB M d := fun d => by
    rw [Bool.eq_iff_iff, ← keys_says s1, ← keys_says s2]
  have hp : L.Perm M := (List.perm_ext_iff_of_nodup n1 n2).2 (fun i => by
    constructor
    · intro h
      have hdi := h1.pa i h
      have e1 := mem_entries'.2 h
      rw [← s1.get hdi, s2.get (by rw [← hd]; exact hdi)] at e1
      exact mem_entries'.1 e1
    · intro h
      have hdi := h2.pa i h
      have e1 := mem_entries'.2 h
      rw [← s2.get hdi, s1.get (by rw [hd]; exact hdi)] at e1
      exact mem_entries'.1 e1)
  exact List.Perm.eq_of_pairwise (le := fun a b : Itm => a.e.cookie < b.e.cookie) (fun a b _ _ q1 q2 => by omega) (List.pairwise_map.1 h1.ck) (List.pairwise_map.1 h2.ck) hp
end Go.Proofs.YtolilbcpfdnkjaaGreat
