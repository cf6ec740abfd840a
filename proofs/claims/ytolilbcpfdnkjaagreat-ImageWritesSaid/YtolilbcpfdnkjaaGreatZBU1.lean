/- Lemmas, texts U1 U2 U3 U4 U5; no condition beyond those that each states. -/
import Derived.Test.YtolilbcpfdnkjaaGreatZBT9
import Derived.Outline
import Derived.Deep.RegionHeld3
/- tree, in plain Lean: the items of a tree, what holds of them; an item more. -/
namespace Go.Proofs.YtolilbcpfdnkjaaGreat
open Go.RowKit
set_option linter.unusedSimpArgs false
set_option linter.unusedVariables false
def nodes (L : List Itm) : List Int := L.map (·.e.node)
/-- What holds of each tree. -/
structure TInv (L : List Itm) (next : Int) : Prop where
  nd : (nodes L).Nodup
  rg : ∀ i ∈ L, 1 ≤ i.e.node ∧ i.e.node ≤ 200
  pa : ∀ i ∈ L, isDirB L i.d = true
  un : ∀ d, ((entries L d).map (·.name)).Nodup
  ck : (L.map (·.e.cookie)).Pairwise (· < ·)
  cb : ∀ i ∈ L, 1 ≤ i.e.cookie ∧ i.e.cookie < next
  nx : 1 ≤ next
  ac : ∃ r : Int → Nat, r 0 = 0 ∧ ∀ i ∈ L, r i.e.node = r i.d + 1
  gd : ∀ i ∈ L, mayErr i.e.name i.e.short = 0
theorem isDirB_iff (L : List Itm) (d : Int) : isDirB L d = true ↔ d = 0 ∨ ∃ i ∈ L, i.e.node = d ∧ i.e.dir = true := by
  unfold isDirB; simp
theorem isFileB_iff (L : List Itm) (d : Int) : isFileB L d = true ↔ ∃ i ∈ L, i.e.node = d ∧ i.e.dir = false := by
  unfold isFileB; simp
theorem isDirB_snoc (L : List Itm) (x : Itm) (d : Int) : isDirB (L ++ [x]) d = (isDirB L d || (decide (x.e.node = d) && x.e.dir)) := by
  unfold isDirB; simp [Bool.or_assoc]
theorem isFileB_snoc (L : List Itm) (x : Itm) (d : Int) : isFileB (L ++ [x]) d = (isFileB L d || (decide (x.e.node = d) && !x.e.dir)) := by
  unfold isFileB; simp
theorem entries_snoc (L : List Itm) (x : Itm) (d : Int) : entries (L ++ [x]) d = entries L d ++ if x.d = d then [x.e] else [] := by
  unfold entries
  rw [List.filter_append, List.map_append]
  by_cases h : x.d = d <;> simp [h]
theorem nodes_snoc (L : List Itm) (x : Itm) : nodes (L ++ [x]) = nodes L ++ [x.e.node] := by unfold nodes; simp
theorem mem_nodes {L : List Itm} {n : Int} : n ∈ nodes L ↔ ∃ i ∈ L, i.e.node = n := by unfold nodes; simp
theorem mem_entries {L : List Itm} {d : Int} {x : Ent} : x ∈ entries L d ↔ ∃ i ∈ L, i.d = d ∧ i.e = x := by
  unfold entries; simp
  constructor
  · rintro ⟨a, ⟨h1, h2⟩, h3⟩; exact ⟨a, h1, h2, h3⟩
  · rintro ⟨a, h1, h2, h3⟩; exact ⟨a, ⟨h1, h2⟩, h3⟩
theorem dir_of_free {L : List Itm} {n : Int} (hn : n ∉ nodes L) (h1 : 1 ≤ n) : isDirB L n = false ∧ isFileB L n = false := by
  constructor
  · cases h : isDirB L n with
    | false => rfl
    | true =>
      rcases (isDirB_iff L n).1 h with h | ⟨i, hi, h, _⟩
      · omega
      · exact absurd (mem_nodes.2 ⟨i, hi, h⟩) hn
  · cases h : isFileB L n with
    | false => rfl
    | true =>
      obtain ⟨i, hi, h, _⟩ := (isFileB_iff L n).1 h
      exact absurd (mem_nodes.2 ⟨i, hi, h⟩) hn
theorem TInv.len {L : List Itm} {next : Int} (h : TInv L next) : L.length ≤ 200 := by
  have := nodup_bound 200 (nodes L) h.nd (fun x hx => by obtain ⟨i, hi, e⟩ := mem_nodes.1 hx; subst e; exact h.rg i hi)
  simpa [nodes] using this
theorem entries_none {L : List Itm} {next : Int} (h : TInv L next) {n : Int} (hd : isDirB L n = false) : entries L n = [] := by
  rw [List.eq_nil_iff_forall_not_mem]
  intro x hx
  obtain ⟨i, hi, e, _⟩ := mem_entries.1 hx
  have := h.pa i hi
  rw [e, hd] at this
  cases this
section
variable {D : List (Int × DE)} {F : List (Int × Int)} {p p' : PD} {L : List Itm} {next : Int}
theorem TRep.linkedD (h : TRep D F p L) (hi : TInv L next) {x : Itm} (hn : x.e.node ∉ nodes L) (h1 : 1 ≤ x.e.node) (hx : x.e.dir = true) (hd : isDirB L x.d = true)
    (hk : ∀ k, k ∈ mkeys p'.out ↔ k ∈ mkeys p.out ∨ k = x.e.node) (vn v' : Value) : TRep (mput (mput D x.e.node (vn, [])) x.d (v', entries L x.d ++ [x.e])) F p' (L ++ [x]) := by
  obtain ⟨q1, q2⟩ := dir_of_free hn h1
  have hne : x.d ≠ x.e.node := fun e => by rw [e, q1] at hd; cases hd
  refine ⟨fun d hd' => ?_, fun d hd' => ?_, fun d => ?_, fun k => ?_⟩
  · rw [mget_put, mget_put, entries_snoc]
    by_cases e : d = x.d
    · rw [if_pos e, if_pos e.symm, e]; exact ⟨v', rfl⟩
    · rw [if_neg e, if_neg (show ¬ x.d = d from fun q => e q.symm), List.append_nil]
      by_cases e2 : d = x.e.node
      · rw [if_pos e2, e2, entries_none hi q1]; exact ⟨vn, rfl⟩
      · rw [if_neg e2]
        rw [isDirB_snoc] at hd'
        refine h.r1 d ?_
        rcases Bool.or_eq_true _ _ |>.mp hd' with q | q
        · exact q
        · simp at q; exact absurd q.1.symm e2
  · rw [isDirB_snoc] at hd'
    obtain ⟨a, b⟩ := Bool.or_eq_false_iff.1 hd'
    rw [mget_put, mget_put, if_neg (fun q => by rw [q, hd] at a; cases a), if_neg (fun q => by rw [q, hx] at b; simp at b)]
    exact h.r2 d a
  · rw [isFileB_snoc, hx]; simp; exact h.r3 d
  · rw [hk k, h.r4 k]
    constructor
    · rintro (⟨i, hi, e⟩ | e)
      · exact ⟨i, List.mem_append_left _ hi, e⟩
      · exact ⟨x, by simp, e.symm⟩
    · rintro ⟨i, hi, e⟩
      rcases List.mem_append.1 hi with q | q
      · exact Or.inl ⟨i, q, e⟩
      · simp at q; subst q; exact Or.inr e.symm
theorem TRep.linkedF (h : TRep D F p L) (hi : TInv L next) {x : Itm} (hn : x.e.node ∉ nodes L) (h1 : 1 ≤ x.e.node) (hx : x.e.dir = false) (hd : isDirB L x.d = true)
    (hk : ∀ k, k ∈ mkeys p'.out ↔ k ∈ mkeys p.out ∨ k = x.e.node) (v' : Value) : TRep (mput D x.d (v', entries L x.d ++ [x.e])) (mput F x.e.node 1) p' (L ++ [x]) := by
  obtain ⟨q1, q2⟩ := dir_of_free hn h1
  refine ⟨fun d hd' => ?_, fun d hd' => ?_, fun d => ?_, fun k => ?_⟩
  · rw [mget_put, entries_snoc]
    by_cases e : d = x.d
    · rw [if_pos e, if_pos e.symm, e]; exact ⟨v', rfl⟩
    · rw [if_neg e, if_neg (show ¬ x.d = d from fun q => e q.symm), List.append_nil]
      rw [isDirB_snoc, hx] at hd'
      exact h.r1 d (by simpa using hd')
  · rw [isDirB_snoc, hx] at hd'
    have a : isDirB L d = false := by simpa using hd'
    rw [mget_put, if_neg (fun q => by rw [q, hd] at a; cases a)]
    exact h.r2 d a
  · rw [isFileB_snoc, hx, mget_put]
    by_cases e : d = x.e.node
    · rw [if_pos e]; simp [e]
    · rw [if_neg e, h.r3 d]; simp [show ¬ x.e.node = d from fun q => e q.symm]
  · rw [hk k, h.r4 k]
    constructor
    · rintro (⟨i, hi, e⟩ | e)
      · exact ⟨i, List.mem_append_left _ hi, e⟩
      · exact ⟨x, by simp, e.symm⟩
    · rintro ⟨i, hi, e⟩
      rcases List.mem_append.1 hi with q | q
      · exact Or.inl ⟨i, q, e⟩
      · simp at q; subst q; exact Or.inr e.symm
end
theorem TInv.linked {L : List Itm} {next : Int} (h : TInv L next) {x : Itm} (hn : x.e.node ∉ nodes L) (h1 : 1 ≤ x.e.node) (h2 : x.e.node ≤ 200) (hd : isDirB L x.d = true) (hu : x.e.name ∉ (entries L x.d).map (·.name))
    (hc : x.e.cookie = next) (hg : mayErr x.e.name x.e.short = 0) : TInv (L ++ [x]) (next + 1) := by
  obtain ⟨q1, q2⟩ := dir_of_free hn h1
  have hnx := h.nx
  refine ⟨?_, ?_, ?_, ?_, ?_, ?_, by omega, ?_, ?_⟩
  · rw [nodes_snoc, List.nodup_append]
    exact ⟨h.nd, by simp, fun a ha b hb e => by simp at hb; subst hb; subst e; exact hn ha⟩
  · intro i hi
    rcases List.mem_append.1 hi with q | q
    · exact h.rg i q
    · simp at q; subst q; exact ⟨h1, h2⟩
  · intro i hi
    rw [isDirB_snoc]
    rcases List.mem_append.1 hi with q | q
    · rw [h.pa i q]; rfl
    · simp at q; subst q; rw [hd]; rfl
  · intro d
    rw [entries_snoc, List.map_append]
    by_cases e : x.d = d
    · subst e
      rw [if_pos rfl, List.nodup_append]
      exact ⟨h.un _, by simp, fun a ha b hb e => by simp at hb; subst hb; subst e; exact hu ha⟩
    · rw [if_neg e]; simpa using h.un d
  · rw [List.map_append, List.pairwise_append]
    refine ⟨h.ck, by simp, fun a ha b hb => ?_⟩
    obtain ⟨i, hi, rfl⟩ := List.mem_map.1 ha
    simp at hb
    rw [hb, hc]
    exact (h.cb i hi).2
  · intro i hi
    rcases List.mem_append.1 hi with q | q
    · have := h.cb i q; omega
    · simp at q; subst q; omega
  · obtain ⟨r, r0, ri⟩ := h.ac
    refine ⟨fun d => if d = x.e.node then r x.d + 1 else r d, ?_, fun i hi => ?_⟩
    · show (if (0 : Int) = x.e.node then r x.d + 1 else r 0) = 0
      rw [if_neg (by omega)]; exact r0
    · show (if i.e.node = x.e.node then r x.d + 1 else r i.e.node) = (if i.d = x.e.node then r x.d + 1 else r i.d) + 1
      rcases List.mem_append.1 hi with q | q
      · rw [if_neg (fun e => hn (mem_nodes.2 ⟨i, q, e⟩)), if_neg (fun e => by have := h.pa i q; rw [e, q1] at this; cases this)]
        exact ri i q
      · simp at q; subst q
        rw [if_pos rfl, if_neg (fun e => by rw [e, q1] at hd; cases hd)]
  · intro i hi
    rcases List.mem_append.1 hi with q | q
    · exact h.gd i q
    · simp at q; subst q; exact hg
noncomputable def freeN (S : List Int) : Nat := by classical exact if h : ∃ n, LeastFree S n then h.choose else 0
theorem freeN_eq {S : List Int} {n : Nat} (h : LeastFree S n) : freeN S = n := by
  have hs : ∃ n, LeastFree S n := ⟨n, h⟩
  have h2 : LeastFree S (freeN S) := by unfold freeN; rw [dif_pos hs]; exact hs.choose_spec
  obtain ⟨a1, a2, a3⟩ := h
  obtain ⟨b1, b2, b3⟩ := h2
  rcases Nat.lt_trichotomy (freeN S) n with q | q | q
  · exact absurd (a3 _ b1 q) b2
  · exact q
  · exact absurd (b3 _ a1 q) a2
theorem LeastFree.congr {S T : List Int} {n : Nat} (h : LeastFree S n) (e : ∀ k, k ∈ S ↔ k ∈ T) : LeastFree T n :=
  ⟨h.1, fun q => h.2.1 ((e _).2 q), fun m q1 q2 => (e _).1 (h.2.2 m q1 q2)⟩
/-- What a call leaves, and answers. -/
structure LR where
  L : List Itm
  next : Int
  node : Int
  err : Int
def linkErr (L : List Itm) (dir : Int) (name : ByteArray) (short : Int) : Int :=
  if listErr L dir ≠ 0 then listErr L dir else if mayErr name short ≠ 0 then mayErr name short else if (findE L dir name).isSome = true then 6 else 0
noncomputable def linkT (L : List Itm) (next : Int) (dir : Int) (name : ByteArray) (isDir : Bool) (short : Int) : LR :=
  if linkErr L dir name short ≠ 0 then ⟨L, next, 0, linkErr L dir name short⟩
  else if freeN (nodes L) ≤ 200 then ⟨L ++ [⟨dir, ⟨name, freeN (nodes L), isDir, next, short⟩⟩], next + 1, freeN (nodes L), 0⟩
  else ⟨L, next, 0, 12⟩
theorem find_none {L : List Itm} {d : Int} {name : ByteArray} (h : (findE L d name).isSome = false) : name ∉ (entries L d).map (·.name) := by
  intro hm
  obtain ⟨x, hx, rfl⟩ := List.mem_map.1 hm
  have : findE L d x.name = none := by simpa using h
  unfold findE at this
  rw [List.find?_eq_none] at this
  exact this x hx (by simp [hasName])
end Go.Proofs.YtolilbcpfdnkjaaGreat

/- tree: Link. -/
namespace Go.Proofs.YtolilbcpfdnkjaaGreat
open Go.RowKit
set_option linter.unusedSimpArgs false
set_option linter.unusedVariables false
/-- A tree has turned. -/
def TStep (w : World) (F : Nat → Prop) (g : Nat) (L : List Itm) (next : Int) (w' : World) : Prop := ∃ F', TreeM w' F' g L next ∧ (∀ k, F' k → F k ∨ w.heap.size ≤ k) ∧ Keep F w w'
section
variable {w w' w1 w2 : World} {g bd bf gp bp : Nat} {vp vp' : Value} {D D' : List (Int × DE)} {Fm Fm' : List (Int × Int)} {p p' : PD} {L : List Itm} {next next' : Int} {F G : Nat → Prop}
theorem TStep.same (h : TreeM w F g L next) (hb : Below w.heap.size w w') : TStep w F g L next w' := ⟨F, h.below hb, fun _ q => Or.inl q, (Keep.refl F w).trans' (Keep.below hb) (fun i q => Or.inr q)⟩
theorem TStep.before (hb : Below w.heap.size w w1) (h : TStep w1 F g L next w') : TStep w F g L next w' := by
  obtain ⟨F', h1, h2, h3⟩ := h
  exact ⟨F', h1, fun k q => (h2 k q).imp id (fun q => Nat.le_trans hb.size q), ((Keep.refl F w).trans' (Keep.below hb) (fun i q => Or.inr q)).trans h3⟩
/-- The pool has turned. -/
theorem MAt.pooled (h : MAt w g bd bf gp bp vp D Fm p next) (hp : PAt w' gp vp' bp p') (hi : PInv p') (hm : p'.most = p.most) (hv : ∀ k, vp'.ownBlock = some k → vp.ownBlock = some k ∨ w.heap.size ≤ k) (hk : Keep (pfoot gp vp bp) w w') :
    MAt w' g bd bf gp bp vp' D Fm p' next := by
  have hf : ∀ k, pfoot gp vp' bp k → pfoot gp vp bp k ∨ w.heap.size ≤ k := fun k q => by
    rcases q with q | q | q
    · exact Or.inl (Or.inl q)
    · exact Or.inl (Or.inr (Or.inl q))
    · exact (hv k q.symm).imp (fun e => Or.inr (Or.inr e.symm)) id
  have hlt : ∀ j, tfoot g bd bf gp bp vp D j → j < w.heap.size := fun j hj => h.foot_lt hj
  refine ⟨m_keep h.blk hk (fun q => (h.s2 _ q).1 rfl), h.dm.keep hk (fun q => (h.s2 _ q).2.1 rfl), h.fm.keep hk (fun q => (h.s2 _ q).2.2 rfl), hp, hi, by rw [hm]; exact h.most,
    fun x hx => (h.rows x hx).keep hk (fun i q r => (h.s3 x hx i q).2.2.2 r), h.s1, fun k q => ?_, fun x hx k q => ?_⟩
  · rcases hf k q with q | q
    · exact h.s2 k q
    · have a := hlt g (Or.inl rfl); have b := hlt bd (Or.inr (Or.inl rfl)); have c := hlt bf (Or.inr (Or.inr (Or.inl rfl)))
      exact ⟨by omega, by omega, by omega⟩
  · obtain ⟨a, b, c, d⟩ := h.s3 x hx k q
    refine ⟨a, b, c, fun r => ?_⟩
    rcases hf k r with r | r
    · exact d r
    · have := hlt k (Or.inr (Or.inr (Or.inr (Or.inr ⟨x, hx, q⟩)))); omega
/-- The files' map has turned. -/
theorem MAt.filed (h : MAt w g bd bf gp bp vp D Fm p next) (hf : IMap (Value.int .i64) w' bf Fm') (hk : Keep (fun k => k = bf) w w') : MAt w' g bd bf gp bp vp D Fm' p next := by
  have hn : ∀ k, pfoot gp vp bp k → ¬ k = bf := fun k q => (h.s2 k q).2.2
  exact ⟨m_keep h.blk hk (fun e => h.s1.2.1 e.symm), h.dm.keep hk (fun e => h.s1.2.2 e.symm), hf,
    ⟨m_keep h.pl.blk hk (hn _ (Or.inl rfl)), h.pl.row.kept (fun j hj => hk.block j (World.ownsRow.lt h.pl.row j hj).2 (hn _ (Or.inr (Or.inr hj.symm)))), h.pl.mp.keep hk (hn _ (Or.inr (Or.inl rfl))), h.pl.ne1, h.pl.ne2, h.pl.ne3⟩, h.inv, h.most,
    fun x hx => (h.rows x hx).keep hk (fun i q r => (h.s3 x hx i q).2.2.1 r), h.s1, h.s2, h.s3⟩
/-- The directories' map has lost, or has been given, something that stood. -/
theorem MAt.dired (h : MAt w g bd bf gp bp vp D Fm p next) (hd : IMap encDE w' bd D') (hk : Keep (fun k => k = bd) w w') (hr : ∀ x ∈ D', x ∈ D ∨ x.2 = (.slice none 0 0, [])) : MAt w' g bd bf gp bp vp D' Fm p next := by
  have hn : ∀ k, pfoot gp vp bp k → ¬ k = bd := fun k q => (h.s2 k q).2.1
  refine ⟨m_keep h.blk hk (fun e => h.s1.1 e.symm), hd, h.fm.keep hk (fun e => h.s1.2.2 e),
    ⟨m_keep h.pl.blk hk (hn _ (Or.inl rfl)), h.pl.row.kept (fun j hj => hk.block j (World.ownsRow.lt h.pl.row j hj).2 (hn _ (Or.inr (Or.inr hj.symm)))), h.pl.mp.keep hk (hn _ (Or.inr (Or.inl rfl))), h.pl.ne1, h.pl.ne2, h.pl.ne3⟩, h.inv, h.most,
    fun x hx => ?_, h.s1, h.s2, fun x hx k q => ?_⟩
  · rcases hr x hx with r | r
    · exact (h.rows x r).keep hk (fun i q s => (h.s3 x r i q).2.1 s)
    · rw [r]; exact RowO.nil _ _ _
  · rcases hr x hx with r | r
    · exact h.s3 x r k q
    · rw [r] at q; cases q
theorem mem_mdel_de {D : List (Int × DE)} {d : Int} {x : Int × DE} (h : x ∈ mdel D d) : x ∈ D := (List.mem_filter.1 h).1
theorem idx_find (L : List Itm) (d : Int) (name : ByteArray) : (idxP (entries L d) (hasName name) = -1 ∧ (findE L d name).isSome = false) ∨ (∃ i : Nat, idxP (entries L d) (hasName name) = i ∧ (findE L d name).isSome = true) := by
  unfold findE
  rcases idxP_spec (entries L d) (hasName name) with ⟨i, x, h1, h2, h3⟩ | ⟨h1, h2⟩
  · exact Or.inr ⟨i, h1, by rw [h3]; rfl⟩
  · exact Or.inl ⟨h1, by rw [h2]; rfl⟩
end
theorem tstep_mk {w w' : World} {g bd bf gp bp : Nat} {vp vp' : Value} {D D' : List (Int × DE)} {Fm' : List (Int × Int)} {p' : PD} {L' : List Itm} {next' : Int}
    (hm' : MAt w' g bd bf gp bp vp' D' Fm' p' next') (hr' : TRep D' Fm' p' L') (hv : ∀ k, vp'.ownBlock = some k → vp.ownBlock = some k ∨ w.heap.size ≤ k)
    (hD : ∀ x ∈ D', ∀ k, x.2.1.ownBlock = some k → (∃ y ∈ D, y.2.1.ownBlock = some k) ∨ w.heap.size ≤ k) (hk : Keep (tfoot g bd bf gp bp vp D) w w') : TStep w (tfoot g bd bf gp bp vp D) g L' next' w' := by
  refine ⟨tfoot g bd bf gp bp vp' D', ⟨bd, bf, gp, bp, vp', D', Fm', p', rfl, hm', hr'⟩, fun k q => ?_, hk⟩
  rcases q with q | q | q | q | ⟨x, hx, q⟩
  · exact Or.inl (Or.inl q)
  · exact Or.inl (Or.inr (Or.inl q))
  · exact Or.inl (Or.inr (Or.inr (Or.inl q)))
  · rcases q with q | q | q
    · exact Or.inl (Or.inr (Or.inr (Or.inr (Or.inl (Or.inl q)))))
    · exact Or.inl (Or.inr (Or.inr (Or.inr (Or.inl (Or.inr (Or.inl q))))))
    · exact (hv k q.symm).imp (fun e => Or.inr (Or.inr (Or.inr (Or.inl (Or.inr (Or.inr e.symm)))))) id
  · exact (hD x hx k q).imp (fun e => Or.inr (Or.inr (Or.inr (Or.inr e)))) id
theorem mem_mput2 {D : List (Int × DE)} {d : Int} {y : DE} {x : Int × DE} (h : x ∈ mput D d y) : x ∈ D ∨ x.2 = y := mem_mput_de h
def LinkPost (w : World) (F : Nat → Prop) (g : Nat) (R : LR) (e : Ending) (w' : World) : Prop := e = .returned (.tuple #[.int .i64 R.node, .int .i64 R.err]) ∧ TStep w F g R.L R.next w'
set_option maxRecDepth 100000 in
set_option maxHeartbeats 4000000 in
theorem tlink_any {w : World} {F : Nat → Prop} {g : Nat} {L : List Itm} {next : Int} (dir : Int) (name : ByteArray) (isDir : Bool) (short : Int) (h : TreeM w F g L next) (hi : TInv L next) (hn : next ≤ 1000000000) (hs : name.size ≤ maxLen) :
    Calls Tryz.prog 27 #[.pointer (some ⟨g, 0, none⟩), .int .i64 dir, .string name, .bool isDir, .int .i64 short] w (LinkPost w F g (linkT L next dir name isDir short)) := by
  have hlen := hi.len
  have HLI := Lib.hid (tlist_any dir h (by omega))
  have HT := Lib.hid h
  have HI := Lib.hid hi
  obtain ⟨E, hE⟩ : ∃ E, listErr L dir = E := ⟨_, rfl⟩
  by_cases h0 : E = 0
  · subst h0
    obtain ⟨M, hM⟩ : ∃ M, mayErr name short = M := ⟨_, rfl⟩
    have HMAY := fun w => Lib.hid (tmay_any name short w hs)
    by_cases m0 : M = 0
    · subst m0
      have HLEN := Lib.hid (show (entries L dir).length ≤ 1000000 from by
        unfold entries; rw [List.length_map]
        exact Nat.le_trans (List.length_filter_le _ _) (by omega))
      have HE := Lib.hid hE
      have HMM := Lib.hid hM
      rcases idx_find L dir name with ⟨hx, hf⟩ | ⟨i, hx, hf⟩
      · have hlk : linkErr L dir name short = 0 := by unfold linkErr; rw [hE, if_neg (by decide), hM, if_neg (by decide), hf]; rfl
        have HLK := Lib.hid hlk
        have HFN := Lib.hid (find_none hf)
        have HD := Lib.hid (show isDirB L dir = true from by
          cases hd : isDirB L dir with
          | true => rfl
          | false => unfold listErr at hE; rw [hd] at hE; simp at hE; split at hE <;> cases hE)
        have HX := Lib.hid hx
        clear h hi hE hM hx hf hlk
        go_enter Tryz.func27, Tryz.ntmps27
        go_wp2_with fail
        refine HLI.out.mono ?_
        rintro e w1 ⟨v, l, rfl, hr, hle, hb⟩
        rw [HE.out] at hle ⊢
        have hle := hle rfl
        subst hle
        obtain ⟨a1, k1, rfl⟩ := hr.shape
        have HB := Lib.hid hb
        have HRW := Lib.hid hr
        clear hr hb
        go_wp2_with fail
        refine (HMAY w1).out.mono ?_
        rintro e w2 ⟨rfl, hb2⟩
        rw [HMM.out]
        have HB2 := Lib.hid (HB.out.trans (hb2.mono HB.out.size))
        have HRW2 := Lib.hid (HRW.out.below hb2)
        clear hb2 HRW HB HLI
        go_wp2_with fail
        refine (index_any name w2 HRW2.out.arg HLEN.out).mono ?_
        rintro e w3 ⟨rfl, hb3⟩
        rw [HX.out]
        have HB3 := Lib.hid (HB2.out.trans (hb3.mono HB2.out.size))
        clear hb3 HB2 HRW2
        obtain ⟨bd, bf, gp, bp, vp, D, Fm, p, rfl, hm, hrep⟩ := HT.out
        have HM3 := Lib.hid (hm.below HB3.out)
        have HREP := Lib.hid hrep
        have q2 : w3.cell? ⟨g, 2, none⟩ = some (.pointer (some ⟨gp, 0, none⟩)) := (m_cells HM3.out.blk).1 2
        have HSZ := Lib.hid (HB3.out.size)
        clear hm hrep
        go_wp2_with fail
        refine (take_any w3 gp bp vp p HM3.out.pl HM3.out.inv).mono ?_
        rintro e w4 ⟨p', vp', n, hlf, rfl, hp, hinv, hmost, hk4, hv4, hkeep⟩
        rw [HM3.out.most] at hk4 ⊢
        have HM4 := Lib.hid (HM3.out.pooled hp hinv hmost hv4 hkeep)
        have HFR : freeN (nodes L) = n := freeN_eq (hlf.congr (fun k => (HREP.out.r4 k).trans mem_nodes.symm))
        have HLF := Lib.hid (hlf.congr (fun k => (HREP.out.r4 k).trans (mem_nodes (L := L)).symm))
        have HK4 := Lib.hid hk4
        have HV4 := Lib.hid hv4
        have HKP := Lib.hid (show Keep (tfoot g bd bf gp bp vp D) w w4 from ((Keep.refl _ w).trans' (Keep.below HB3.out) (fun i q => Or.inr q)).trans (hkeep.mono (fun i q => Or.inl (Or.inr (Or.inr (Or.inr (Or.inl q)))))))
        clear hp hinv hmost hk4 hv4 hkeep hlf q2
        by_cases hn200 : n ≤ 200
        · rw [if_pos hn200, decide_eq_true hn200]
          have HR : linkT L next dir name isDir short = ⟨L ++ [⟨dir, ⟨name, n, isDir, next, short⟩⟩], next + 1, n, 0⟩ := by
            unfold linkT; rw [HLK.out, if_neg (by decide), HFR, if_pos hn200]
          have HRH := Lib.hid HR
          have hn1 : (1 : Int) ≤ n := by have := HLF.out.1; omega
          have hnn : (n : Int) ∉ nodes L := HLF.out.2.1
          have HKY := Lib.hid (show ∀ k, k ∈ mkeys p'.out ↔ k ∈ mkeys p.out ∨ k = (n : Int) from fun k => by rw [HK4.out k]; exact ⟨fun q => q.imp id (fun q => q.2), fun q => q.imp id (fun q => ⟨hn200, q⟩)⟩)
          obtain ⟨hfd, hff⟩ := dir_of_free hnn hn1
          have hne : dir ≠ n := fun e => by have := HD.out; rw [e, hfd] at this; cases this
          obtain ⟨v0, hv0⟩ := HREP.out.r1 dir HD.out
          have HN1 := Lib.hid hn1
          have HNN := Lib.hid hnn
          have HNE := Lib.hid hne
          have HV0 := Lib.hid hv0
          have HN2 := Lib.hid hn200
          have q0 : w4.cell? ⟨g, 0, none⟩ = some (.map (some bd)) := (m_cells HM4.out.blk).1 0
          have q1 : w4.cell? ⟨g, 1, none⟩ = some (.map (some bf)) := (m_cells HM4.out.blk).1 1
          have HL5 := Lib.hid (show (entries L dir).length ≤ 100000 from by
            unfold entries; rw [List.length_map]
            exact Nat.le_trans (List.length_filter_le _ _) (by omega))
          have HNX := Lib.hid (show 0 ≤ next ∧ next ≤ 1000000000 from ⟨by have := HI.out.nx; omega, hn⟩)
          clear HR HFR hn1 hnn hfd hff hne hv0 HLF HK4 hn200
          cases isDir
          · go_wp2_with (first
              | (refine map_put rfl _ _ _ rfl Tryz.underlying75 Tryz.underlying3 (n : Int) (1 : Int) rfl rfl rfl HM4.out.fm ?_
                 intro w5 hm5 hk5
                 have HM5 := Lib.hid (HM4.out.filed hm5 hk5)
                 have HK5 := Lib.hid (show Keep (tfoot g bd bf gp bp vp D) w w5 from HKP.out.trans (hk5.mono (fun i q => Or.inl (Or.inr (Or.inr (Or.inl q))))))
                 clear hm5 hk5))
            refine (tput_any dir ⟨name, n, false, 0, short⟩ HM5.out HV0.out HL5.out HNX.out).mono ?_
            rintro e w6 ⟨v', rfl, hm6, hv6, hk6⟩
            have HM6 := Lib.hid hm6
            have HV6 := Lib.hid hv6
            have HK6 := Lib.hid hk6
            clear hm6 hv6 hk6
            go_wp2_with fail
            go_ret2
            refine ⟨by rw [HRH.out]; rfl, ?_⟩
            rw [HRH.out]
            refine tstep_mk HM6.out (HREP.out.linkedF (x := ⟨dir, ⟨name, n, false, next, short⟩⟩) HI.out HNN.out HN1.out rfl HD.out HKY.out v') (fun k q => (HV4.out k q).imp id (fun q => Nat.le_trans HSZ.out q)) (fun x hx k q => ?_) (HK5.out.trans (HK6.out.mono (fun i q => q.elim (fun q => Or.inl (Or.inl q)) (fun q => Or.inl (Or.inr (Or.inl q))))))
            rcases mem_mput_de hx with r | r
            · exact Or.inl ⟨x, r, q⟩
            · rw [r] at q; exact Or.inr (Nat.le_trans HK5.out.size (HV6.out k q))
          · go_wp2_with (first
              | (refine map_put rfl _ _ _ rfl Tryz.underlying53 Tryz.underlying3 (n : Int) ((.slice none 0 0, []) : DE) rfl rfl rfl HM4.out.dm ?_
                 intro w5 hm5 hk5
                 have HM5 := Lib.hid (HM4.out.dired hm5 hk5 (fun x hx => mem_mput_de hx))
                 have HK5 := Lib.hid (show Keep (tfoot g bd bf gp bp vp D) w w5 from HKP.out.trans (hk5.mono (fun i q => Or.inl (Or.inr (Or.inl q)))))
                 clear hm5 hk5))
            refine (tput_any dir ⟨name, n, true, 0, short⟩ (v := v0) (E := entries L dir) HM5.out (by rw [mget_put, if_neg HNE.out]; exact HV0.out) HL5.out HNX.out).mono ?_
            rintro e w6 ⟨v', rfl, hm6, hv6, hk6⟩
            have HM6 := Lib.hid hm6
            have HV6 := Lib.hid hv6
            have HK6 := Lib.hid hk6
            clear hm6 hv6 hk6
            go_wp2_with fail
            go_ret2
            refine ⟨by rw [HRH.out]; rfl, ?_⟩
            rw [HRH.out]
            refine tstep_mk HM6.out (HREP.out.linkedD (x := ⟨dir, ⟨name, n, true, next, short⟩⟩) HI.out HNN.out HN1.out rfl HD.out HKY.out (.slice none 0 0) v') (fun k q => (HV4.out k q).imp id (fun q => Nat.le_trans HSZ.out q)) (fun x hx k q => ?_) (HK5.out.trans (HK6.out.mono (fun i q => q.elim (fun q => Or.inl (Or.inl q)) (fun q => Or.inl (Or.inr (Or.inl q))))))
            rcases mem_mput_de hx with r | r
            · rcases mem_mput_de r with r | r
              · exact Or.inl ⟨x, r, q⟩
              · rw [r] at q; cases q
            · rw [r] at q; exact Or.inr (Nat.le_trans HK5.out.size (HV6.out k q))
        · rw [if_neg hn200, decide_eq_false hn200]
          have HR : linkT L next dir name isDir short = ⟨L, next, 0, 12⟩ := by
            unfold linkT; rw [HLK.out, if_neg (by decide), HFR, if_neg hn200]
          have HRH := Lib.hid HR
          have HN := Lib.hid hn200
          clear HR hn200 HFR
          go_wp2_with fail
          go_ret2
          refine ⟨by rw [HRH.out]; rfl, ?_⟩
          rw [HRH.out]
          exact tstep_mk HM4.out ⟨HREP.out.r1, HREP.out.r2, HREP.out.r3, fun k => by rw [HK4.out k, ← HREP.out.r4 k]; exact ⟨fun q => q.elim id (fun q => absurd q.1 HN.out), Or.inl⟩⟩
            (fun k q => (HV4.out k q).imp id (fun q => Nat.le_trans HSZ.out q)) (fun x hx k q => Or.inl ⟨x, hx, q⟩) HKP.out
      · have HR : linkT L next dir name isDir short = ⟨L, next, 0, 6⟩ := by
          have : linkErr L dir name short = 6 := by unfold linkErr; rw [hE, if_neg (by decide), hM, if_neg (by decide), hf]; rfl
          unfold linkT; rw [this, if_pos (by decide)]
        have HRH := Lib.hid HR
        have HX := Lib.hid hx
        have hi0 : (0 : Int) ≤ i := by omega
        have hi1 : decide ((0 : Int) ≤ i) = true := by simp
        have hi2 : decide ((i : Int) ≥ 0) = true := by simp
        clear h hi hE hM hx hf HR
        go_enter Tryz.func27, Tryz.ntmps27
        go_wp2_with fail
        refine HLI.out.mono ?_
        rintro e w1 ⟨v, l, rfl, hr, hle, hb⟩
        rw [HE.out] at hle ⊢
        have hle := hle rfl
        subst hle
        obtain ⟨a1, k1, rfl⟩ := hr.shape
        have HB := Lib.hid hb
        have HRW := Lib.hid hr
        clear hr hb
        go_wp2_with fail
        refine (HMAY w1).out.mono ?_
        rintro e w2 ⟨rfl, hb2⟩
        rw [HMM.out]
        have HB2 := Lib.hid (HB.out.trans (hb2.mono HB.out.size))
        have HRW2 := Lib.hid (HRW.out.below hb2)
        clear hb2 HRW HB HLI
        go_wp2_with fail
        refine (index_any name w2 HRW2.out.arg HLEN.out).mono ?_
        rintro e w3 ⟨rfl, hb3⟩
        rw [HX.out]
        have HB3 := Lib.hid (HB2.out.trans (hb3.mono HB2.out.size))
        clear hb3 HB2 HRW2
        go_wp2_with fail
        go_ret2
        exact ⟨by rw [HRH.out]; rfl, by rw [HRH.out]; exact TStep.same HT.out HB3.out⟩
    · have e1 : (M == 0) = false := by simpa using m0
      have e2 : (M != 0) = true := by simpa using m0
      have HR : linkT L next dir name isDir short = ⟨L, next, 0, M⟩ := by
        have : linkErr L dir name short = M := by unfold linkErr; rw [hE, if_neg (by decide), hM, if_pos m0]
        unfold linkT; rw [this, if_pos m0]
      have HRH := Lib.hid HR
      have HE := Lib.hid hE
      have HMM := Lib.hid hM
      clear h hi hE hM HR
      go_enter Tryz.func27, Tryz.ntmps27
      go_wp2_with fail
      refine HLI.out.mono ?_
      rintro e w1 ⟨v, l, rfl, hr, -, hb⟩
      rw [HE.out]
      obtain ⟨a1, k1, rfl⟩ := hr.shape
      have HB := Lib.hid hb
      clear hr hb
      go_wp2_with fail
      refine (HMAY w1).out.mono ?_
      rintro e w2 ⟨rfl, hb2⟩
      rw [HMM.out]
      have HB2 := Lib.hid (HB.out.trans (hb2.mono HB.out.size))
      clear hb2
      go_wp2_with fail
      go_ret2
      exact ⟨by rw [HRH.out]; rfl, by rw [HRH.out]; exact TStep.same HT.out HB2.out⟩
  · have e1 : (E == 0) = false := by simpa using h0
    have e2 : (E != 0) = true := by simpa using h0
    have HR : linkT L next dir name isDir short = ⟨L, next, 0, E⟩ := by
      have : linkErr L dir name short = E := by unfold linkErr; rw [hE, if_pos h0]
      unfold linkT; rw [this, if_pos h0]
    have HRH := Lib.hid HR
    have HE := Lib.hid hE
    clear h hi hE HR
    go_enter Tryz.func27, Tryz.ntmps27
    go_wp2_with fail
    refine HLI.out.mono ?_
    rintro e w1 ⟨v, l, rfl, hr, -, hb⟩
    rw [HE.out]
    obtain ⟨a1, k1, rfl⟩ := hr.shape
    have HB := Lib.hid hb
    clear hr hb
    go_wp2_with fail
    go_ret2
    exact ⟨by rw [HRH.out]; rfl, by rw [HRH.out]; exact TStep.same HT.out HB.out⟩
end Go.Proofs.YtolilbcpfdnkjaaGreat

/- tree, in plain Lean: an item less. -/
namespace Go.Proofs.YtolilbcpfdnkjaaGreat
open Go.RowKit
set_option linter.unusedSimpArgs false
set_option linter.unusedVariables false
def isAt (d : Int) (name : ByteArray) (i : Itm) : Bool := decide (i.d = d) && decide (i.e.name = name)
def dropT (L : List Itm) (d : Int) (name : ByteArray) : List Itm := L.filter (fun i => !isAt d name i)
theorem mem_dropT {L : List Itm} {d : Int} {name : ByteArray} {i : Itm} : i ∈ dropT L d name ↔ i ∈ L ∧ ¬ (i.d = d ∧ i.e.name = name) := by
  unfold dropT isAt
  rw [List.mem_filter]
  by_cases h : i.d = d <;> simp [h]
theorem inj_of_nodup {α β : Type} {f : α → β} : ∀ {l : List α}, (l.map f).Nodup → ∀ {a b : α}, a ∈ l → b ∈ l → f a = f b → a = b
  | [], _, _, _, h, _, _ => by cases h
  | x :: t, hn, a, b, ha, hb, e => by
    rw [List.map_cons, List.nodup_cons] at hn
    rcases List.mem_cons.1 ha with h1 | h1 <;> rcases List.mem_cons.1 hb with h2 | h2
    · rw [h1, h2]
    · exact absurd (List.mem_map.2 ⟨b, h2, by rw [← e, h1]⟩) hn.1
    · exact absurd (List.mem_map.2 ⟨a, h1, by rw [e, h2]⟩) hn.1
    · exact inj_of_nodup hn.2 h1 h2 e
theorem erase_filter (name : ByteArray) : ∀ (l : List Ent) (i : Nat), (l.map (·.name)).Nodup → l.findIdx? (hasName name) = some i → l.eraseIdx i = l.filter (fun y => !hasName name y)
  | [], i, _, h => by simp at h
  | a :: t, i, hn, h => by
    rw [List.map_cons, List.nodup_cons] at hn
    rw [List.findIdx?_cons] at h
    by_cases ha : hasName name a = true
    · rw [ha] at h
      simp at h
      subst h
      have : t.filter (fun y => !hasName name y) = t := by
        rw [List.filter_eq_self]
        intro y hy
        have hy2 : hasName name y = false := by
          cases e : hasName name y with
          | false => rfl
          | true =>
            have e1 : y.name = name := by simpa [hasName] using e
            have e2 : a.name = name := by simpa [hasName] using ha
            exact absurd (List.mem_map.2 ⟨y, hy, by rw [e1, e2]⟩) hn.1
        rw [hy2]; rfl
      simp [ha, this]
    · have ha' : hasName name a = false := by simpa using ha
      rw [ha'] at h
      simp at h
      obtain ⟨j, hj, rfl⟩ := h
      rw [List.eraseIdx_cons_succ, erase_filter name t j hn.2 hj]
      simp [ha']
theorem entries_dropT (L : List Itm) (d : Int) (name : ByteArray) (d' : Int) : entries (dropT L d name) d' = if d' = d then (entries L d).filter (fun y => !hasName name y) else entries L d' := by
  unfold dropT entries isAt hasName
  induction L with
  | nil => simp
  | cons a t ih =>
    by_cases e : d' = d
    · subst e
      rw [if_pos rfl] at ih ⊢
      by_cases h1 : a.d = d' <;> by_cases h2 : a.e.name = name <;> simp_all [List.filter_cons]
    · rw [if_neg e] at ih ⊢
      by_cases h1 : a.d = d'
      · have h3 : ¬ a.d = d := fun q => e (h1.symm.trans q)
        simp_all [List.filter_cons]
      · by_cases h3 : a.d = d <;> by_cases h2 : a.e.name = name <;> simp_all [List.filter_cons]
section
variable {L : List Itm} {next : Int}
/-- The item of a name. -/
theorem item_of {d : Int} {name : ByteArray} {x : Ent} (h : findE L d name = some x) : (⟨d, x⟩ : Itm) ∈ L ∧ x.name = name := by
  unfold findE at h
  have h1 := List.find?_some h
  have h2 := List.mem_of_find?_eq_some h
  obtain ⟨i, hi, e1, e2⟩ := mem_entries.1 h2
  refine ⟨?_, by simpa [hasName] using h1⟩
  rw [← e1, ← e2]; exact hi
theorem node_inj (h : TInv L next) {i j : Itm} (hi : i ∈ L) (hj : j ∈ L) (e : i.e.node = j.e.node) : i = j := by
  have := h.nd
  unfold nodes at this
  exact inj_of_nodup this hi hj e
theorem name_inj (h : TInv L next) {i j : Itm} (hi : i ∈ L) (hj : j ∈ L) (e : i.d = j.d) (e2 : i.e.name = j.e.name) : i.e = j.e := by
  have := h.un i.d
  exact inj_of_nodup this (mem_entries.2 ⟨i, hi, rfl, rfl⟩) (mem_entries.2 ⟨j, hj, e.symm, rfl⟩) e2
/-- What stays are the items of the other nodes. -/
theorem mem_dropT' (h : TInv L next) {d : Int} {x : Ent} (hx : (⟨d, x⟩ : Itm) ∈ L) {i : Itm} : i ∈ dropT L d x.name ↔ i ∈ L ∧ i.e.node ≠ x.node := by
  rw [mem_dropT]
  refine ⟨fun ⟨a, b⟩ => ⟨a, fun e => b ?_⟩, fun ⟨a, b⟩ => ⟨a, fun ⟨e1, e2⟩ => b ?_⟩⟩
  · have := node_inj h a hx e
    rw [this]; exact ⟨rfl, rfl⟩
  · rw [name_inj h a hx e1 e2]
theorem isDirB_dropT (h : TInv L next) {d : Int} {x : Ent} (hx : (⟨d, x⟩ : Itm) ∈ L) (k : Int) : isDirB (dropT L d x.name) k = (isDirB L k && !decide (k = x.node)) := by
  have hx0 := h.rg _ hx
  rw [Bool.eq_iff_iff, Bool.and_eq_true, isDirB_iff, isDirB_iff]
  constructor
  · rintro (e | ⟨i, hi, e1, e2⟩)
    · exact ⟨Or.inl e, by simp; intro q; have : 1 ≤ x.node := hx0.1; omega⟩
    · obtain ⟨a, b⟩ := (mem_dropT' h hx).1 hi
      exact ⟨Or.inr ⟨i, a, e1, e2⟩, by simp; intro q; exact b (e1.trans q)⟩
  · rintro ⟨e | ⟨i, hi, e1, e2⟩, q⟩
    · exact Or.inl e
    · exact Or.inr ⟨i, (mem_dropT' h hx).2 ⟨hi, fun e => by simp at q; exact q (e1.symm.trans e)⟩, e1, e2⟩
theorem isFileB_dropT (h : TInv L next) {d : Int} {x : Ent} (hx : (⟨d, x⟩ : Itm) ∈ L) (k : Int) : isFileB (dropT L d x.name) k = (isFileB L k && !decide (k = x.node)) := by
  rw [Bool.eq_iff_iff, Bool.and_eq_true, isFileB_iff, isFileB_iff]
  constructor
  · rintro ⟨i, hi, e1, e2⟩
    obtain ⟨a, b⟩ := (mem_dropT' h hx).1 hi
    exact ⟨⟨i, a, e1, e2⟩, by simp; intro q; exact b (e1.trans q)⟩
  · rintro ⟨⟨i, hi, e1, e2⟩, q⟩
    exact ⟨i, (mem_dropT' h hx).2 ⟨hi, fun e => by simp at q; exact q (e1.symm.trans e)⟩, e1, e2⟩
theorem TInv.dropped (h : TInv L next) {d : Int} {x : Ent} (hx : (⟨d, x⟩ : Itm) ∈ L) (he : entries L x.node = []) : TInv (dropT L d x.name) next := by
  have hs : (dropT L d x.name).Sublist L := List.filter_sublist ..
  refine ⟨h.nd.sublist (hs.map _), fun i hi => h.rg i (hs.subset hi), fun i hi => ?_, fun k => ?_, h.ck.sublist (hs.map _), fun i hi => h.cb i (hs.subset hi), h.nx, ?_, fun i hi => h.gd i (hs.subset hi)⟩
  · rw [isDirB_dropT h hx, h.pa i (hs.subset hi)]
    simp
    intro e
    have : i.e ∈ entries L x.node := mem_entries.2 ⟨i, hs.subset hi, e, rfl⟩
    rw [he] at this; cases this
  · rw [entries_dropT]
    split
    · exact (h.un d).sublist ((List.filter_sublist ..).map _)
    · exact h.un k
  · obtain ⟨r, r0, ri⟩ := h.ac
    exact ⟨r, r0, fun i hi => ri i (hs.subset hi)⟩
theorem TInv.not_self (h : TInv L next) {i : Itm} (hi : i ∈ L) : i.d ≠ i.e.node := by
  obtain ⟨r, r0, ri⟩ := h.ac
  intro e
  have := ri i hi
  rw [e] at this; omega
/-- A node that is a file has no entries. -/
theorem entries_file (h : TInv L next) {i : Itm} (hi : i ∈ L) (hf : i.e.dir = false) : entries L i.e.node = [] := by
  refine entries_none h ?_
  cases e : isDirB L i.e.node with
  | false => rfl
  | true =>
    rcases (isDirB_iff L _).1 e with q | ⟨j, hj, e1, e2⟩
    · have := (h.rg i hi).1; omega
    · rw [node_inj h hj hi e1, hf] at e2; cases e2
end
def unlinkErr (L : List Itm) (dir : Int) (name : ByteArray) (isDir : Bool) : Int :=
  if (findRes L dir name).2 ≠ 0 then (findRes L dir name).2 else if isDir = true ∧ (findRes L dir name).1.dir = false then 8 else if isDir = false ∧ (findRes L dir name).1.dir = true then 7
  else if entries L (findRes L dir name).1.node ≠ [] then 9 else 0
def unlinkT (L : List Itm) (dir : Int) (name : ByteArray) (isDir : Bool) : List Itm × Int :=
  if unlinkErr L dir name isDir ≠ 0 then (L, unlinkErr L dir name isDir) else (dropT L dir name, 0)
end Go.Proofs.YtolilbcpfdnkjaaGreat

/- tree: delete in a region that draws. -/
namespace Go.Proofs.YtolilbcpfdnkjaaGreat
open Go.RowKit
set_option linter.unusedSimpArgs false
section
variable {V : Type} {enc : V → Value} {b : Nat} {L : List (Int × V)} {t tk te : TypeId} {ops : Array Oper} {rest : List Oper} {o : Oper} {a : Act} {w : World} {Q : Exit → Act → World → Prop}
theorem step_del {K : Act → World → Prop} {E1 : Prop} (hgd : o.guard = none) (m x : Operand) (ho : o.op = .call { callee := .builtin .delete, args := #[m, x], argTypes := #[t, tk] }) (ht : Tryz.prog.underlying t = some (.map tk te)) (hk : Tryz.prog.underlying tk = some (.int .i64))
    (k : Int) (hm : a.eval m = .map (some b)) (hx : a.eval x = .int .i64 k) (hmap : IMap enc w b L)
    (h : ∀ w', IMap enc w' b (mdel L k) → Keep (fun i => i = b) w w' → K (a.put o.dst (.tuple #[])) w') :
    if Region.wanted o (yielded ops a.tmps) = true then Oper.wp Tryz.prog o a w K Q else E1 := by
  have hw : Region.wanted o (yielded ops a.tmps) = true := by simp [Region.wanted, hgd]
  rw [if_pos hw]
  obtain ⟨w', hr, h1, h2⟩ := hmap.delete (P := Tryz.prog) ht hk k o.type
  unfold Oper.wp execOp
  simp only [ho, resolve, invoke, builtin, Sem.run_bind, Sem.run_pure, Result.andThen_ok, List.map_toArray, List.map_cons, List.map_nil, hm, hx, hr]
  exact h w' h1 h2
end
end Go.Proofs.YtolilbcpfdnkjaaGreat

/- tree: Unlink. -/
namespace Go.Proofs.YtolilbcpfdnkjaaGreat
open Go.RowKit
set_option linter.unusedSimpArgs false
set_option linter.unusedVariables false
theorem TRep.dropped {D : List (Int × DE)} {F : List (Int × Int)} {p p' : PD} {L : List Itm} {next : Int} (h : TRep D F p L) (hi : TInv L next) {d : Int} {x : Ent} (hx : (⟨d, x⟩ : Itm) ∈ L)
    (hk : ∀ k, k ∈ mkeys p'.out ↔ k ∈ mkeys p.out ∧ k ≠ x.node) (v' : Value) {l : List Ent} (hl : l = (entries L d).filter (fun y => !hasName x.name y)) : TRep (mdel (mput D d (v', l)) x.node) (mdel F x.node) p' (dropT L d x.name) := by
  have hne : d ≠ x.node := hi.not_self hx
  have hd := hi.pa _ hx
  refine ⟨fun k hk' => ?_, fun k hk' => ?_, fun k => ?_, fun k => ?_⟩
  · rw [isDirB_dropT hi hx, Bool.and_eq_true] at hk'
    obtain ⟨q1, q2⟩ := hk'
    simp at q2
    rw [mget_del, if_neg q2, mget_put, entries_dropT]
    by_cases e : k = d
    · rw [if_pos e, if_pos e, hl]; exact ⟨v', rfl⟩
    · rw [if_neg e, if_neg e]; exact h.r1 k q1
  · rw [isDirB_dropT hi hx] at hk'
    rw [mget_del]
    by_cases e : k = x.node
    · rw [if_pos e]
    · rw [if_neg e]
      have q : isDirB L k = false := by simpa [e] using hk'
      rw [mget_put, if_neg (fun e => by rw [e] at q; rw [q] at hd; cases hd)]
      exact h.r2 k q
  · rw [mget_del, isFileB_dropT hi hx]
    by_cases e : k = x.node
    · simp [e]
    · rw [if_neg e, h.r3 k]; simp [e]
  · rw [hk k, h.r4 k]
    constructor
    · rintro ⟨⟨i, hi', e⟩, q⟩
      exact ⟨i, (mem_dropT' hi hx).2 ⟨hi', fun r => q (e.symm.trans r)⟩, e⟩
    · rintro ⟨i, hi', e⟩
      obtain ⟨a, b⟩ := (mem_dropT' hi hx).1 hi'
      exact ⟨⟨i, a, e⟩, fun r => b (e.trans r)⟩
theorem find_spec {L : List Itm} {d : Int} {name : ByteArray} (h : (findRes L d name).2 = 0) : ∃ (x : Ent) (i : Nat), findRes L d name = (x, 0) ∧ (⟨d, x⟩ : Itm) ∈ L ∧ x.name = name ∧ idxP (entries L d) (hasName name) = i ∧ (entries L d)[i]? = some x ∧ (entries L d).findIdx? (hasName name) = some i ∧ isDirB L d = true := by
  unfold findRes at h
  split at h
  · rename_i q; exact absurd h q
  · rename_i q
    have q' : listErr L d = 0 := by simpa using q
    cases hf : findE L d name with
    | none => rw [hf] at h; simp at h
    | some x =>
      obtain ⟨h1, h2⟩ := item_of hf
      rcases idxP_spec (entries L d) (hasName name) with ⟨i, y, e1, e2, e3⟩ | ⟨e1, e2⟩
      · have : y = x := by unfold findE at hf; rw [hf] at e3; exact (Option.some.inj e3).symm
        subst this
        refine ⟨y, i, ?_, h1, h2, e1, e2, ?_, ?_⟩
        · unfold findRes; rw [q', if_neg (by decide), hf]
        · unfold idxP at e1
          split at e1
          · rename_i j hj; rw [hj]; congr 1; omega
          · omega
        · cases hd : isDirB L d with
          | true => rfl
          | false => unfold listErr at q'; rw [hd] at q'; simp at q'; split at q' <;> cases q'
      · unfold findE at hf; rw [hf] at e2; cases e2
def UnlinkPost (w : World) (F : Nat → Prop) (g : Nat) (R : List Itm × Int) (next : Int) (e : Ending) (w' : World) : Prop := e = .returned (.int .i64 R.2) ∧ TStep w F g R.1 next w'
set_option maxRecDepth 100000 in
set_option maxHeartbeats 4000000 in
theorem tunlink_any {w : World} {F : Nat → Prop} {g : Nat} {L : List Itm} {next : Int} (dir : Int) (name : ByteArray) (isDir : Bool) (h : TreeM w F g L next) (hi : TInv L next) (hn : next ≤ 1000000000) :
    Calls Tryz.prog 38 #[.pointer (some ⟨g, 0, none⟩), .int .i64 dir, .string name, .bool isDir] w (UnlinkPost w F g (unlinkT L dir name isDir) next) := by
  have hlen := hi.len
  have HFI := Lib.hid (tfind_any dir name h (by omega))
  have HT := Lib.hid h
  have HI := Lib.hid hi
  obtain ⟨⟨nm, nd, dr, ck, sh⟩, hx⟩ : ∃ x, (findRes L dir name).1 = x := ⟨_, rfl⟩
  obtain ⟨E, hE⟩ : ∃ E, (findRes L dir name).2 = E := ⟨_, rfl⟩
  rw [hx, hE] at HFI
  have HX := Lib.hid hx
  have HE := Lib.hid hE
  have early : ∀ (c : Int) (w1 : World), unlinkErr L dir name isDir = c → c ≠ 0 → Below w.heap.size w w1 → UnlinkPost w F g (unlinkT L dir name isDir) next (.returned (.int .i64 c)) w1 := by
    intro c w1 h1 h2 hb
    unfold UnlinkPost unlinkT
    rw [h1, if_pos h2]
    exact ⟨rfl, TStep.same HT.out hb⟩
  have HEA := Lib.hid early
  clear h hi hx hE early
  go_enter Tryz.func38, Tryz.ntmps38
  go_wp2_with fail
  refine HFI.out.mono ?_
  rintro e w1 ⟨rfl, hb1⟩
  by_cases h0 : E = 0
  · cases isDir <;> cases dr
    · have hle : E = 0 := h0
      subst hle
      obtain ⟨x, i, e1, hit, enm, eix, eget, efi, hdd⟩ := find_spec HE.out
      have ex : x = ⟨nm, nd, false, ck, sh⟩ := by have := HX.out; rw [e1] at this; exact this
      subst ex
      obtain ⟨bd, bf, gp, bp, vp, D, Fm, p, rfl, hm, hrep⟩ := HT.out
      have HIT := Lib.hid hit
      have HIX := Lib.hid eix
      have HGET := Lib.hid eget
      have HDD := Lib.hid hdd
      have HREP := Lib.hid hrep
      have HENM := Lib.hid (show nm = name from enm)
      have HERA := Lib.hid (show (entries L dir).eraseIdx i = (entries L dir).filter (fun y => !hasName nm y) from by
        have e2 : nm = name := enm
        rw [e2]; exact erase_filter name _ i (HI.out.un dir) efi)
      have hb2 : Below w.heap.size w (w1.alloc (.cells #[.string nm, .int .i64 nd, .bool false, .int .i64 ck, .int .i64 sh] 84)) := hb1.alloc hb1.size _
      have HB2 := Lib.hid hb2
      have HM2 := Lib.hid (hm.below hb2)
      have hblk := m_alloc w1 (.cells #[.string nm, .int .i64 nd, .bool false, .int .i64 ck, .int .i64 sh] 84) w1.heap.size rfl
      have hBw : w.heap.size ≤ w1.heap.size := hb1.size
      have HFB := Lib.hid (show ¬ tfoot g bd bf gp bp vp D w1.heap.size from fun q => by have := hm.foot_lt q; omega)
      generalize hBB : w1.heap.size = B at *
      generalize hW : w1.alloc (.cells #[.string nm, .int .i64 nd, .bool false, .int .i64 ck, .int .i64 sh] 84) = W at *
      have HBLK := Lib.hid hblk
      have HW := Lib.hid hW
      have HBB := Lib.hid hBB
      have q0 : W.cell? ⟨g, 0, none⟩ = some (.map (some bd)) := (m_cells HM2.out.blk).1 0
      have n1 : W.cell? ⟨B, 1, none⟩ = some (.int .i64 nd) := (m_cells hblk).1 1
      obtain ⟨K, hK⟩ : ∃ K, (entries L nd).length = K := ⟨_, rfl⟩
      have hlk : ∃ a c, ∀ q, (Instr.lookup 53 (.map (some bd)) (.int .i64 nd) false).run Tryz.prog (W.drewN q) = .ok (.slice a K c) (W.drewN q) := by
        have hl := fun q => (HM2.out.dm.qt (Qt.drewN W q)).lookup (P := Tryz.prog) Tryz.underlying53 Tryz.underlying3 zero_ents nd false
        cases hd : isDirB L nd with
        | true =>
          obtain ⟨v, hv⟩ := HREP.out.r1 nd hd
          obtain ⟨a, c, rfl⟩ : ∃ a c, v = .slice a (entries L nd).length c := RowO.shape (HM2.out.rows _ (mget_mem hv))
          rw [hv] at hl
          simp only [Bool.false_eq_true, if_false, encDE, hK] at hl
          exact ⟨a, c, hl⟩
        | false =>
          rw [HREP.out.r2 nd hd] at hl
          simp only [Bool.false_eq_true, if_false] at hl
          rw [entries_none HI.out hd] at hK
          subst hK
          exact ⟨_, _, hl⟩
      obtain ⟨la, lc, hlk⟩ := hlk
      have HK := Lib.hid hK
      have HV0 := Lib.hid (HREP.out.r1 dir HDD.out)
      have HL5 := Lib.hid (show (entries L dir).length ≤ 100000 from by
        unfold entries; rw [List.length_map]
        exact Nat.le_trans (List.length_filter_le _ _) (by omega))
      clear hm hrep hit eix eget hdd efi hb2 hblk hb1 hW hK hBB hBw e1 enm
      go_wp2_with fail
      rw [HBB.out, HW.out]
      go_quiet (fail)
      have HBQ := Lib.hid (show Below W.heap.size W (W.drewN nq) from ⟨rfl, rfl, rfl, Nat.le_refl _, fun _ _ => rfl⟩)
      by_cases hK0 : K = 0
      · subst hK0
        have HNIL := Lib.hid (List.eq_nil_of_length_eq_zero HK.out)
        have HR := Lib.hid (show unlinkT L dir name false = (dropT L dir name, 0) from by
          have : unlinkErr L dir name false = 0 := by unfold unlinkErr; rw [HE.out, HX.out]; simp [HNIL.out]
          unfold unlinkT; rw [this]; rfl)
        obtain ⟨v0, hv0⟩ := HV0.out
        have HV1 := Lib.hid hv0
        have HSZ := Lib.hid HB2.out.size
        have hNB : ∀ k, tfoot g bd bf gp bp vp D k → B ≠ k := fun k q e => HFB.out (e ▸ q)
        have HNB := Lib.hid hNB
        clear hlk q0 n1 hv0 hNB
        go_wp2_with fail
        refine (tdrop_any dir name i ⟨nm, nd, false, ck, sh⟩ (v := v0) (E := entries L dir) (HM2.out.below HBQ.out) HV1.out HL5.out HIX.out HGET.out).mono ?_
        rintro e w3 ⟨v', rfl, hm3, hv3, hk3⟩
        have HM3 := Lib.hid hm3
        have HV3 := Lib.hid hv3
        have HK3 := Lib.hid (show Keep (tfoot g bd bf gp bp vp D) w w3 from ((Keep.refl _ w).trans' (Keep.below HB2.out) (fun i q => Or.inr q)).trans (((Keep.refl _ W).drewN nq).trans (hk3.mono (fun i q => q.elim (fun q => Or.inl (Or.inl q)) (fun q => Or.inl (Or.inr (Or.inl q)))))))
        have hB3 := m_keep (show (W.drewN nq).heap[B]? = _ from HBLK.out) hk3 (fun e => e.elim (HNB.out g (Or.inl rfl)) (HNB.out bd (Or.inr (Or.inl rfl))))
        have HS := Lib.hid (show ∀ w', Keep (fun k => k = bd ∨ k = bf ∨ pfoot gp vp bp k) w3 w' → w'.cell? ⟨g, 0, none⟩ = some (.map (some bd)) ∧ w'.cell? ⟨g, 1, none⟩ = some (.map (some bf)) ∧ w'.cell? ⟨g, 2, none⟩ = some (.pointer (some ⟨gp, 0, none⟩)) ∧ w'.cell? ⟨B, 1, none⟩ = some (.int .i64 nd) from fun w' k => by
          have c := (m_cells (m_keep HM3.out.blk k (fun e => e.elim (fun e => HM3.out.s1.1 e.symm) (fun e => e.elim (fun e => HM3.out.s1.2.1 e.symm) (fun e => (HM3.out.s2 _ e).1 rfl))))).1
          have c2 := (m_cells (m_keep hB3 k (fun e => e.elim (HNB.out bd (Or.inr (Or.inl rfl))) (fun e => e.elim (HNB.out bf (Or.inr (Or.inr (Or.inl rfl)))) (fun e => HNB.out B (Or.inr (Or.inr (Or.inr (Or.inl e)))) rfl))))).1
          exact ⟨c 0, c 1, c 2, c2 1⟩)
        clear hm3 hv3 hk3 hB3
        go_wp2_with fail
        go_region_held3 (fun w' => w'.cell? ⟨g, 0, none⟩ = some (.map (some bd)) ∧ w'.cell? ⟨B, 1, none⟩ = some (.int .i64 nd))
          (first | exact ⟨(HS.out _ HK4.out).1, (HS.out _ HK4.out).2.2.2⟩ | exact ⟨(HS.out _ ((Keep.refl _ _).drew)).1, (HS.out _ ((Keep.refl _ _).drew)).2.2.2⟩)
          (first
           | (refine step_del rfl _ _ rfl Tryz.underlying53 Tryz.underlying3 nd rfl rfl (HM3.out.below ((Below.refl _ _).drew)).dm ?_
              intro w4 hm4 hk4
              have HM4 := Lib.hid ((HM3.out.below ((Below.refl _ _).drew)).dired hm4 hk4 (fun x hx => Or.inl (mem_mdel_de hx)))
              have HK4 := Lib.hid (show Keep (fun k => k = bd ∨ k = bf ∨ pfoot gp vp bp k) w3 w4 from ((Keep.refl _ w3).drew).trans (hk4.mono (fun i q => Or.inl (Or.inl q))))
              clear hm4 hk4))
        go_wp2_with fail
        go_region_held3 (fun w' => w'.cell? ⟨g, 1, none⟩ = some (.map (some bf)) ∧ w'.cell? ⟨B, 1, none⟩ = some (.int .i64 nd))
          (first | exact ⟨(HS.out _ HK5.out).2.1, (HS.out _ HK5.out).2.2.2⟩ | exact ⟨(HS.out _ (HK4.out.drew)).2.1, (HS.out _ (HK4.out.drew)).2.2.2⟩)
          (first
           | (refine step_del rfl _ _ rfl Tryz.underlying75 Tryz.underlying3 nd rfl rfl (HM4.out.below ((Below.refl _ _).drew)).fm ?_
              intro w5 hm5 hk5
              have HM5 := Lib.hid ((HM4.out.below ((Below.refl _ _).drew)).filed hm5 hk5)
              have HK5 := Lib.hid (show Keep (fun k => k = bd ∨ k = bf ∨ pfoot gp vp bp k) w3 w5 from (HK4.out.drew).trans (hk5.mono (fun i q => Or.inl (Or.inr (Or.inl q)))))
              clear hm5 hk5))
        go_wp2_with fail
        go_region_held3 (fun w' => w'.cell? ⟨g, 2, none⟩ = some (.pointer (some ⟨gp, 0, none⟩)) ∧ w'.cell? ⟨B, 1, none⟩ = some (.int .i64 nd))
          (first | exact (HS.out _ HK6.out).2.2 | exact (HS.out _ (HK5.out.drew)).2.2)
          (first
           | (go_at_call 72
              refine (give_any w5.drew gp bp vp p nd (HM5.out.below ((Below.refl _ _).drew)).pl HM5.out.inv).mono ?_
              rintro e w6 ⟨p', vp', rfl, hp, hinv, hmost, hkeys, hv6, hk6⟩
              have HM6 := Lib.hid ((HM5.out.below ((Below.refl _ _).drew)).pooled hp hinv hmost hv6 hk6)
              have HK6 := Lib.hid (show Keep (fun k => k = bd ∨ k = bf ∨ pfoot gp vp bp k) w3 w6 from (HK5.out.drew).trans (hk6.mono (fun i q => Or.inl (Or.inr (Or.inr q)))))
              have HKEYS := Lib.hid hkeys
              have HV6 := Lib.hid hv6
              clear hp hinv hmost hk6 hkeys hv6))
        go_wp2_with fail
        go_ret
        have hitm : (⟨dir, ⟨nm, nd, false, ck, sh⟩⟩ : Itm) ∈ L := HIT.out
        have hfin := tstep_mk (w := w) (vp := vp) (D := D) HM6.out (HREP.out.dropped HI.out hitm HKEYS.out v' HERA.out) (fun k q => (HV6.out k q).imp id (fun q => by have h3 := HK3.out.size; have h5 := HK5.out.size; exact Nat.le_trans (Nat.le_trans h3 h5) q))
          (fun x hx k q => by
            rcases mem_mput_de (mem_mdel_de hx) with r | r
            · exact Or.inl ⟨x, r, q⟩
            · rw [r] at q; exact Or.inr (Nat.le_trans HSZ.out (HV3.out k q)))
          (HK3.out.trans (HK6.out.mono (fun i q => Or.inl (q.elim (fun q => Or.inr (Or.inl q)) (fun q => q.elim (fun q => Or.inr (Or.inr (Or.inl q))) (fun q => Or.inr (Or.inr (Or.inr (Or.inl q)))))))))
        unfold UnlinkPost
        rw [HR.out, ← HENM.out]
        exact ⟨rfl, hfin⟩
      · have hK1 : decide ((K : Int) > 0) = true := by simp; omega
        have hK2 : decide ((0 : Int) < K) = true := by simp; omega
        have hK3 : (0 : Int) < K := by omega
        have hK4 : 0 < K := by omega
        go_wp2_with fail
        go_ret
        exact HEA.out 9 _ (by
          unfold unlinkErr; rw [HE.out, HX.out]
          have : entries L nd ≠ [] := fun e => hK0 (by rw [← HK.out, e]; rfl)
          simp [this]) (by decide) (HB2.out.trans (HBQ.out.mono HB2.out.size))
    · subst h0
      go_wp2_with fail
      go_ret
      exact HEA.out 7 _ (by unfold unlinkErr; rw [HE.out, HX.out]; rfl) (by decide) (hb1.alloc hb1.size _)
    · subst h0
      go_wp2_with fail
      go_ret
      exact HEA.out 8 _ (by unfold unlinkErr; rw [HE.out, HX.out]; rfl) (by decide) (hb1.alloc hb1.size _)
    · have hle : E = 0 := h0
      subst hle
      obtain ⟨x, i, e1, hit, enm, eix, eget, efi, hdd⟩ := find_spec HE.out
      have ex : x = ⟨nm, nd, true, ck, sh⟩ := by have := HX.out; rw [e1] at this; exact this
      subst ex
      obtain ⟨bd, bf, gp, bp, vp, D, Fm, p, rfl, hm, hrep⟩ := HT.out
      have HIT := Lib.hid hit
      have HIX := Lib.hid eix
      have HGET := Lib.hid eget
      have HDD := Lib.hid hdd
      have HREP := Lib.hid hrep
      have HENM := Lib.hid (show nm = name from enm)
      have HERA := Lib.hid (show (entries L dir).eraseIdx i = (entries L dir).filter (fun y => !hasName nm y) from by
        have e2 : nm = name := enm
        rw [e2]; exact erase_filter name _ i (HI.out.un dir) efi)
      have hb2 : Below w.heap.size w (w1.alloc (.cells #[.string nm, .int .i64 nd, .bool true, .int .i64 ck, .int .i64 sh] 84)) := hb1.alloc hb1.size _
      have HB2 := Lib.hid hb2
      have HM2 := Lib.hid (hm.below hb2)
      have hblk := m_alloc w1 (.cells #[.string nm, .int .i64 nd, .bool true, .int .i64 ck, .int .i64 sh] 84) w1.heap.size rfl
      have hBw : w.heap.size ≤ w1.heap.size := hb1.size
      have HFB := Lib.hid (show ¬ tfoot g bd bf gp bp vp D w1.heap.size from fun q => by have := hm.foot_lt q; omega)
      generalize hBB : w1.heap.size = B at *
      generalize hW : w1.alloc (.cells #[.string nm, .int .i64 nd, .bool true, .int .i64 ck, .int .i64 sh] 84) = W at *
      have HBLK := Lib.hid hblk
      have HW := Lib.hid hW
      have HBB := Lib.hid hBB
      have q0 : W.cell? ⟨g, 0, none⟩ = some (.map (some bd)) := (m_cells HM2.out.blk).1 0
      have n1 : W.cell? ⟨B, 1, none⟩ = some (.int .i64 nd) := (m_cells hblk).1 1
      obtain ⟨K, hK⟩ : ∃ K, (entries L nd).length = K := ⟨_, rfl⟩
      have hlk : ∃ a c, ∀ q, (Instr.lookup 53 (.map (some bd)) (.int .i64 nd) false).run Tryz.prog (W.drewN q) = .ok (.slice a K c) (W.drewN q) := by
        have hl := fun q => (HM2.out.dm.qt (Qt.drewN W q)).lookup (P := Tryz.prog) Tryz.underlying53 Tryz.underlying3 zero_ents nd false
        cases hd : isDirB L nd with
        | true =>
          obtain ⟨v, hv⟩ := HREP.out.r1 nd hd
          obtain ⟨a, c, rfl⟩ : ∃ a c, v = .slice a (entries L nd).length c := RowO.shape (HM2.out.rows _ (mget_mem hv))
          rw [hv] at hl
          simp only [Bool.false_eq_true, if_false, encDE, hK] at hl
          exact ⟨a, c, hl⟩
        | false =>
          rw [HREP.out.r2 nd hd] at hl
          simp only [Bool.false_eq_true, if_false] at hl
          rw [entries_none HI.out hd] at hK
          subst hK
          exact ⟨_, _, hl⟩
      obtain ⟨la, lc, hlk⟩ := hlk
      have HK := Lib.hid hK
      have HV0 := Lib.hid (HREP.out.r1 dir HDD.out)
      have HL5 := Lib.hid (show (entries L dir).length ≤ 100000 from by
        unfold entries; rw [List.length_map]
        exact Nat.le_trans (List.length_filter_le _ _) (by omega))
      clear hm hrep hit eix eget hdd efi hb2 hblk hb1 hW hK hBB hBw e1 enm
      go_wp2_with fail
      rw [HBB.out, HW.out]
      go_quiet (fail)
      have HBQ := Lib.hid (show Below W.heap.size W (W.drewN nq) from ⟨rfl, rfl, rfl, Nat.le_refl _, fun _ _ => rfl⟩)
      by_cases hK0 : K = 0
      · subst hK0
        have HNIL := Lib.hid (List.eq_nil_of_length_eq_zero HK.out)
        have HR := Lib.hid (show unlinkT L dir name true = (dropT L dir name, 0) from by
          have : unlinkErr L dir name true = 0 := by unfold unlinkErr; rw [HE.out, HX.out]; simp [HNIL.out]
          unfold unlinkT; rw [this]; rfl)
        obtain ⟨v0, hv0⟩ := HV0.out
        have HV1 := Lib.hid hv0
        have HSZ := Lib.hid HB2.out.size
        have hNB : ∀ k, tfoot g bd bf gp bp vp D k → B ≠ k := fun k q e => HFB.out (e ▸ q)
        have HNB := Lib.hid hNB
        clear hlk q0 n1 hv0 hNB
        go_wp2_with fail
        refine (tdrop_any dir name i ⟨nm, nd, true, ck, sh⟩ (v := v0) (E := entries L dir) (HM2.out.below HBQ.out) HV1.out HL5.out HIX.out HGET.out).mono ?_
        rintro e w3 ⟨v', rfl, hm3, hv3, hk3⟩
        have HM3 := Lib.hid hm3
        have HV3 := Lib.hid hv3
        have HK3 := Lib.hid (show Keep (tfoot g bd bf gp bp vp D) w w3 from ((Keep.refl _ w).trans' (Keep.below HB2.out) (fun i q => Or.inr q)).trans (((Keep.refl _ W).drewN nq).trans (hk3.mono (fun i q => q.elim (fun q => Or.inl (Or.inl q)) (fun q => Or.inl (Or.inr (Or.inl q)))))))
        have hB3 := m_keep (show (W.drewN nq).heap[B]? = _ from HBLK.out) hk3 (fun e => e.elim (HNB.out g (Or.inl rfl)) (HNB.out bd (Or.inr (Or.inl rfl))))
        have HS := Lib.hid (show ∀ w', Keep (fun k => k = bd ∨ k = bf ∨ pfoot gp vp bp k) w3 w' → w'.cell? ⟨g, 0, none⟩ = some (.map (some bd)) ∧ w'.cell? ⟨g, 1, none⟩ = some (.map (some bf)) ∧ w'.cell? ⟨g, 2, none⟩ = some (.pointer (some ⟨gp, 0, none⟩)) ∧ w'.cell? ⟨B, 1, none⟩ = some (.int .i64 nd) from fun w' k => by
          have c := (m_cells (m_keep HM3.out.blk k (fun e => e.elim (fun e => HM3.out.s1.1 e.symm) (fun e => e.elim (fun e => HM3.out.s1.2.1 e.symm) (fun e => (HM3.out.s2 _ e).1 rfl))))).1
          have c2 := (m_cells (m_keep hB3 k (fun e => e.elim (HNB.out bd (Or.inr (Or.inl rfl))) (fun e => e.elim (HNB.out bf (Or.inr (Or.inr (Or.inl rfl)))) (fun e => HNB.out B (Or.inr (Or.inr (Or.inr (Or.inl e)))) rfl))))).1
          exact ⟨c 0, c 1, c 2, c2 1⟩)
        clear hm3 hv3 hk3 hB3
        go_wp2_with fail
        go_region_held3 (fun w' => w'.cell? ⟨g, 0, none⟩ = some (.map (some bd)) ∧ w'.cell? ⟨B, 1, none⟩ = some (.int .i64 nd))
          (first | exact ⟨(HS.out _ HK4.out).1, (HS.out _ HK4.out).2.2.2⟩ | exact ⟨(HS.out _ ((Keep.refl _ _).drew)).1, (HS.out _ ((Keep.refl _ _).drew)).2.2.2⟩)
          (first
           | (refine step_del rfl _ _ rfl Tryz.underlying53 Tryz.underlying3 nd rfl rfl (HM3.out.below ((Below.refl _ _).drew)).dm ?_
              intro w4 hm4 hk4
              have HM4 := Lib.hid ((HM3.out.below ((Below.refl _ _).drew)).dired hm4 hk4 (fun x hx => Or.inl (mem_mdel_de hx)))
              have HK4 := Lib.hid (show Keep (fun k => k = bd ∨ k = bf ∨ pfoot gp vp bp k) w3 w4 from ((Keep.refl _ w3).drew).trans (hk4.mono (fun i q => Or.inl (Or.inl q))))
              clear hm4 hk4))
        go_wp2_with fail
        go_region_held3 (fun w' => w'.cell? ⟨g, 1, none⟩ = some (.map (some bf)) ∧ w'.cell? ⟨B, 1, none⟩ = some (.int .i64 nd))
          (first | exact ⟨(HS.out _ HK5.out).2.1, (HS.out _ HK5.out).2.2.2⟩ | exact ⟨(HS.out _ (HK4.out.drew)).2.1, (HS.out _ (HK4.out.drew)).2.2.2⟩)
          (first
           | (refine step_del rfl _ _ rfl Tryz.underlying75 Tryz.underlying3 nd rfl rfl (HM4.out.below ((Below.refl _ _).drew)).fm ?_
              intro w5 hm5 hk5
              have HM5 := Lib.hid ((HM4.out.below ((Below.refl _ _).drew)).filed hm5 hk5)
              have HK5 := Lib.hid (show Keep (fun k => k = bd ∨ k = bf ∨ pfoot gp vp bp k) w3 w5 from (HK4.out.drew).trans (hk5.mono (fun i q => Or.inl (Or.inr (Or.inl q)))))
              clear hm5 hk5))
        go_wp2_with fail
        go_region_held3 (fun w' => w'.cell? ⟨g, 2, none⟩ = some (.pointer (some ⟨gp, 0, none⟩)) ∧ w'.cell? ⟨B, 1, none⟩ = some (.int .i64 nd))
          (first | exact (HS.out _ HK6.out).2.2 | exact (HS.out _ (HK5.out.drew)).2.2)
          (first
           | (go_at_call 72
              refine (give_any w5.drew gp bp vp p nd (HM5.out.below ((Below.refl _ _).drew)).pl HM5.out.inv).mono ?_
              rintro e w6 ⟨p', vp', rfl, hp, hinv, hmost, hkeys, hv6, hk6⟩
              have HM6 := Lib.hid ((HM5.out.below ((Below.refl _ _).drew)).pooled hp hinv hmost hv6 hk6)
              have HK6 := Lib.hid (show Keep (fun k => k = bd ∨ k = bf ∨ pfoot gp vp bp k) w3 w6 from (HK5.out.drew).trans (hk6.mono (fun i q => Or.inl (Or.inr (Or.inr q)))))
              have HKEYS := Lib.hid hkeys
              have HV6 := Lib.hid hv6
              clear hp hinv hmost hk6 hkeys hv6))
        go_wp2_with fail
        go_ret
        have hitm : (⟨dir, ⟨nm, nd, true, ck, sh⟩⟩ : Itm) ∈ L := HIT.out
        have hfin := tstep_mk (w := w) (vp := vp) (D := D) HM6.out (HREP.out.dropped HI.out hitm HKEYS.out v' HERA.out) (fun k q => (HV6.out k q).imp id (fun q => by have h3 := HK3.out.size; have h5 := HK5.out.size; exact Nat.le_trans (Nat.le_trans h3 h5) q))
          (fun x hx k q => by
            rcases mem_mput_de (mem_mdel_de hx) with r | r
            · exact Or.inl ⟨x, r, q⟩
            · rw [r] at q; exact Or.inr (Nat.le_trans HSZ.out (HV3.out k q)))
          (HK3.out.trans (HK6.out.mono (fun i q => Or.inl (q.elim (fun q => Or.inr (Or.inl q)) (fun q => q.elim (fun q => Or.inr (Or.inr (Or.inl q))) (fun q => Or.inr (Or.inr (Or.inr (Or.inl q)))))))))
        unfold UnlinkPost
        rw [HR.out, ← HENM.out]
        exact ⟨rfl, hfin⟩
      · have hK1 : decide ((K : Int) > 0) = true := by simp; omega
        have hK2 : decide ((0 : Int) < K) = true := by simp; omega
        have hK3 : (0 : Int) < K := by omega
        have hK4 : 0 < K := by omega
        go_wp2_with fail
        go_ret
        exact HEA.out 9 _ (by
          unfold unlinkErr; rw [HE.out, HX.out]
          have : entries L nd ≠ [] := fun e => hK0 (by rw [← HK.out, e]; rfl)
          simp [this]) (by decide) (HB2.out.trans (HBQ.out.mono HB2.out.size))
  · have e1 : (E == 0) = false := by simpa using h0
    have e2 : (E != 0) = true := by simpa using h0
    go_wp2_with fail
    go_ret
    exact HEA.out E _ (by unfold unlinkErr; rw [HE.out, if_pos h0]) h0 (hb1.alloc hb1.size _)
end Go.Proofs.YtolilbcpfdnkjaaGreat
