/- tree: Dirs: the keys of a map, sorted. -/
import Derived.Test.YtolilbcpfdnkjaaGreatZBSHC
import Derived.Test.YtolilbcpfdnkjaaGreatZBU6
import Derived.Test.YtolilbcpfdnkjaaGreatZBMapsA
import Derived.Test.YtolilbcpfdnkjaaGreatZBRk
namespace Go.Proofs.YtolilbcpfdnkjaaGreat
open Go.RowKit Go.Maps Go.Sort Go.Shelf Go.WideElems
set_option linter.unusedSimpArgs false
set_option linter.unusedVariables false
abbrev noRd : Value → Option (DataW Unit × List MemPlace) := fun _ => some (.nil, [])
theorem IMap.owns {V : Type} {enc : V → Value} {w : World} {b : Nat} {L : List (Int × V)} (h : IMap enc w b L) (hk : ∀ x ∈ mkeys L, (Lit.int .i64 x).wf = true) (hl : L.length ≤ maxLen) :
    ∃ D0 : DataW Unit, w.ownsMap Tryz.prog 3 noRd b L.length D0 ∧ (intKeys D0).Perm (mkeys L) ∧ Maps.size D0 = L.length := by
  obtain ⟨E, clock, hb, hE, hn, hst⟩ := h
  have hsz : E.size = L.length := by have := congrArg List.length hE; simpa using this
  have hkey : ∀ x ∈ E.toList, ∃ k ∈ mkeys L, x.key = .int .i64 k := fun x hx => by
    have hm := List.mem_map_of_mem (f := fun e : MapEntry => (e.key, e.val)) hx
    rw [hE] at hm
    obtain ⟨p, hp, hpe⟩ := List.mem_map.1 hm
    simp only [Prod.mk.injEq] at hpe
    exact ⟨p.1, List.mem_map_of_mem (f := Prod.fst) hp, hpe.1.symm⟩
  have hrd : ∀ x ∈ E.toList, ∀ k, x.key = .int .i64 k → rd Tryz.prog 3 noRd x = some (.int .i64 k, .nil) := fun x hx k e => by
    obtain ⟨k', hk', e'⟩ := hkey x hx
    rw [e] at e'
    have : k = k' := by simpa using e'
    subst this
    have hw := hk k hk'
    simp [WideElems.rd, keyOf, mapKey, e, Tryz.underlying3, hw]
  have hfit : Fit Tryz.prog 3 noRd E clock := ⟨by rw [hsz]; exact hl, hst, fun x hx => by
    obtain ⟨k, _, e⟩ := hkey x hx
    exact ⟨_, hrd x hx k e⟩⟩
  refine ⟨_, ⟨E, clock, hb, hfit, by rw [hsz]; exact Nat.le_refl _, rfl⟩, ?_, ?_⟩
  · show (((E.toList.map (rg Tryz.prog 3 noRd)).foldr DataW.insert []).map fun p => Go.intOf p.1).Perm (mkeys L)
    refine ((WideShapes.sorted_perm _).map _).trans ?_
    rw [List.map_map]
    have : (E.toList.map ((fun p : Lit × DataW Unit => Go.intOf p.1) ∘ rg Tryz.prog 3 noRd)) = mkeys L := by
      have h2 : E.toList.map (fun e => e.key) = (mkeys L).map (Value.int .i64) := by
        have := congrArg (List.map Prod.fst) hE
        simpa [mkeys, Function.comp_def] using this
      have h3 : E.toList.map ((fun p : Lit × DataW Unit => Go.intOf p.1) ∘ rg Tryz.prog 3 noRd) = (E.toList.map (fun e => e.key)).map (fun v => match v with | .int _ k => k | _ => 0) := by
        rw [List.map_map]
        refine List.map_congr_left fun x hx => ?_
        obtain ⟨k, _, e⟩ := hkey x hx
        simp only [Function.comp_apply, rg_of (hrd x hx k e), e]
        rfl
      rw [h3, h2, List.map_map]
      exact List.map_id'' (fun _ => rfl) _
    rw [this]
  · show ((E.toList.map (rg Tryz.prog 3 noRd)).foldr DataW.insert []).length = _
    rw [DataW.length_sorted]
    simp [hsz]
/-- A tree's directories, rising. -/
def dirsT (L : List Itm) : List Int := ((List.range 201).map (fun n : Nat => (n : Int))).filter (fun n => isDirB L n)
theorem dirs_sorted {L : List Itm} {next : Int} (h : TInv L next) {D : List (Int × DE)} {F : List (Int × Int)} {p : PD} (hr : TRep D F p L) (hn : (mkeys D).Nodup) {ss : List Int} (hp : ss.Perm (mkeys D)) : ss.mergeSort (fun x y => decide (x ≤ y)) = dirsT L := by
  have hmem : ∀ x, x ∈ mkeys D ↔ isDirB L x = true := fun x => by
    constructor
    · intro q
      cases c : isDirB L x with
      | true => rfl
      | false => exact absurd q ((mget_none_iff D x).1 (hr.r2 x c))
    · intro q
      obtain ⟨v, hv⟩ := hr.r1 x q
      by_cases c : x ∈ mkeys D
      · exact c
      · rw [(mget_none_iff D x).2 c] at hv; cases hv
  have hrange : ∀ x, isDirB L x = true → 0 ≤ x ∧ x ≤ 200 := fun x q => by
    rcases (isDirB_iff L x).1 q with q | ⟨i, hi, e, _⟩
    · subst q; exact ⟨by decide, by decide⟩
    · have := h.rg i hi; omega
  have hnd : (dirsT L).Nodup := by
    unfold dirsT
    refine List.Pairwise.filter _ ?_
    rw [List.pairwise_map]
    exact List.nodup_range.imp (fun q e => q (by omega))
  have hdm : ∀ x, x ∈ dirsT L ↔ isDirB L x = true := fun x => by
    unfold dirsT
    rw [List.mem_filter]
    constructor
    · exact fun q => q.2
    · intro q
      obtain ⟨a, b⟩ := hrange x q
      exact ⟨List.mem_map.2 ⟨x.toNat, List.mem_range.2 (by omega), by omega⟩, q⟩
  have hperm : ss.Perm (dirsT L) := hp.trans ((List.perm_ext_iff_of_nodup hn hnd).2 (fun x => by rw [hmem, hdm]))
  have hms := mergeSort_of_perm_i hperm
  show ss.mergeSort leI = _
  rw [hms]
  refine List.mergeSort_of_pairwise ?_
  unfold dirsT
  refine List.Pairwise.filter _ ?_
  rw [List.pairwise_map]
  exact List.pairwise_lt_range.imp (fun q => by simp only [leI, decide_eq_true_eq]; omega)
theorem sortsC (m : Nat) : AnyZI.SortsIn Tryz.prog Tryz.sortedA_ren Fence.wide m :=
  ⟨fun blk off cap ss W hH hblk hsz => callsIn_wide.2 (AnyM.slices_Sort_int Tryz.sortA blk off cap ss W hH hblk hsz),
   fun p cap W => callsIn_wide.2 (AnyM.slices_Sort_int_none Tryz.sortA p cap W)⟩
theorem EInt.flat (l : List Int) : l.flatMap EInt.enc = l.map encZ := by
  induction l with
  | nil => rfl
  | cons x l ih => rw [List.flatMap_cons, ih]; rfl
set_option maxRecDepth 100000 in
set_option maxHeartbeats 2000000 in
theorem tdirs_any {w : World} {F : Nat → Prop} {g : Nat} {L : List Itm} {next : Int} (h : TreeM w F g L next) (hi : TInv L next) :
    Calls Tryz.prog 22 #[.pointer (some ⟨g, 0, none⟩)] w fun e w' => ∃ v, e = .returned v ∧ Row EInt w' w.heap.size v (dirsT L) ∧ Below w.heap.size w w' := by
  obtain ⟨bd, bf, gp, bp, vp, D, Fm, p, rfl, h, hr⟩ := h
  have c0 : w.cell? ⟨g, 0, none⟩ = some (.map (some bd)) := (m_cells h.blk).1 0
  have hkeys : ∀ x ∈ mkeys D, 0 ≤ x ∧ x ≤ 200 := fun x q => by
    have : isDirB L x = true := by
      cases c : isDirB L x with
      | true => rfl
      | false => exact absurd q ((mget_none_iff D x).1 (hr.r2 x c))
    rcases (isDirB_iff L x).1 this with q | ⟨i, hi2, e, _⟩
    · subst q; exact ⟨by decide, by decide⟩
    · have := hi.rg i hi2; omega
  have hdl : D.length ≤ 201 := by
    have := nodup_bound 201 ((mkeys D).map (· + 1)) (by
      rw [List.Nodup, List.pairwise_map]
      exact h.dm.nodup.imp (fun q e => q (by omega))) (fun x hx => by
      obtain ⟨y, hy, rfl⟩ := List.mem_map.1 hx
      have := hkeys y hy; omega)
    simpa [mkeys] using this
  obtain ⟨D0, hown, hperm, hsize⟩ := h.dm.owns (fun x q => by
    have := hkeys x q
    simp only [Lit.wf, Bool.and_eq_true, decide_eq_true_eq]
    have e1 : IntKind.i64.min = -9223372036854775808 := by decide
    have e2 : IntKind.i64.max = 9223372036854775807 := by decide
    omega) (by unfold maxLen; omega)
  have hds := fun {ss : List Int} (q : ss.Perm (mkeys D)) => dirs_sorted hi hr h.dm.nodup q
  have HDS := Lib.hid (fun (ss : List Int) (q : ss.Perm (intKeys D0)) => hds (q.trans hperm))
  clear hds hr hi hkeys
  refine (callsIn_wide (n := 6)).1 ?_
  have hbl := h.dm.lt
  have hseq : SeqGives Fence.wide 2 Tryz.prog 83 #[.pointer (some ⟨w.heap.size, 0, none⟩)] encZ (fun ss => ss.Perm (intKeys D0)) (Maps.size D0) (w.alloc (.cells #[.map (some bd)] 53)) :=
    AnyZI.keys_gives (ρ := Tryz.keysA_ren) { Tryz.keysA with } Fence.wide _ trivial rfl (by omega) w.heap.size bd _ D0 _ (by simp) (by simp) (by
      obtain ⟨es, clock, hb, Ft, hs, hD⟩ := hown
      exact ⟨es, clock, (Below.heap_alloc _ _ bd hbl).trans hb, Ft, hs, hD⟩)
  have cK : ∀ mb W, CallsIn Fence.wide 5 Tryz.prog 51 #[.map mb] W fun e w' => e = .returned (.func (.func 83) #[] #[.pointer (some ⟨W.heap.size, 0, none⟩)]) ∧ w' = W.alloc (.cells #[.map mb] 53) := fun mb W => AnyZI.keys_in Tryz.keysA Fence.wide 5 trivial rfl mb W
  have cS := AnyZI.sorted_in Tryz.sortedA Fence.wide 5 trivial trivial trivial trivial rfl (by omega) (sortsC _) (enters_of Tryz.func82 (by kernel_rfl) rfl) 83 #[.pointer (some ⟨w.heap.size, 0, none⟩)] trivial (enters_of Tryz.func83 (by kernel_rfl) rfl) _ _ (by unfold maxLen; omega) (by omega) _ hseq
  change CallsIn _ _ Tryz.prog 50 _ _ _ at cS
  have HBW := Lib.hid ((Below.refl _ w).alloc (Nat.le_refl _) (.cells #[.map (some bd)] 53))
  have hfK : Fence.wide.fn 51 := trivial
  have hfS : Fence.wide.fn 50 := trivial
  clear h hown hseq
  refine callsIn_of_wp Tryz.func22 rfl trivial ?_ rfl
  simp only [Tryz.ntmps22, List.size_toArray, List.length_cons, List.length_nil, Nat.reduceAdd, Nat.reduceSub, Array.replicate_succ, Array.replicate_zero, List.push_toArray, List.append_toArray, List.nil_append, List.cons_append]
  gi_wp2_with (first
    | (gi_at_call 51; refine (cK _ _).mono ?_; rintro e w' ⟨rfl, rfl⟩)
    | (gi_at_call 50; refine cS.mono ?_; rintro e w' ⟨v, ss, rfl, hS, hrow, hnil, hb⟩))
  go_ret
  have hls : ss.length = (dirsT L).length := by rw [← HDS.out ss hS, List.length_mergeSort]
  rw [HDS.out ss hS] at hrow
  refine ⟨v, rfl, ?_, HBW.out.trans (hb.mono HBW.out.size)⟩
  unfold Row
  rw [EInt.flat, ← hls]
  exact ownsRow_base_a hrow (by simp)
end Go.Proofs.YtolilbcpfdnkjaaGreat
