/- TreeBack, in plain Lean. -/
import Derived.Test.YtolilbcpfdnkjaaUF
namespace Go.Proofs.Ytolilbcpfdnkjaa
open Go.RowKit
set_option linter.unusedSimpArgs false
set_option linter.unusedVariables false
section
variable {L : List Itm} {next : Int}
theorem listErr_dir {d : Int} (h : isDirB L d = true) : listErr L d = 0 := by unfold listErr; rw [if_pos h]
theorem findRes_some {d : Int} {name : ByteArray} {x : Ent} (h : isDirB L d = true) (hf : findE L d name = some x) : findRes L d name = (x, 0) := by
  unfold findRes; rw [listErr_dir h, if_neg (by decide), hf]
theorem findRes_none {d : Int} {name : ByteArray} (h : isDirB L d = true) (hf : findE L d name = none) : findRes L d name = (Ent.zero, 5) := by
  unfold findRes; rw [listErr_dir h, if_neg (by decide), hf]
/-- What is linked. -/
theorem link_ok {dir : Int} {name : ByteArray} {isDir : Bool} {short : Int} (h : (linkT L next dir name isDir short).err = 0) :
    linkT L next dir name isDir short = ⟨L ++ [⟨dir, ⟨name, freeN (nodes L), isDir, next, short⟩⟩], next + 1, freeN (nodes L), 0⟩ ∧ isDirB L dir = true ∧ findE L dir name = none := by
  by_cases hz : linkErr L dir name short = 0
  · unfold linkT at h ⊢
    rw [hz, if_neg (by decide)] at h ⊢
    split at h
    · rename_i hf
      rw [if_pos hf]
      unfold linkErr at hz
      split at hz
      · rename_i q; exact absurd hz q
      · rename_i q1
        split at hz
        · rename_i q; exact absurd hz q
        · split at hz
          · cases hz
          · rename_i q3
            exact ⟨rfl, dir_of_list (by simpa using q1), by simpa using q3⟩
    · cases h
  · unfold linkT at h
    rw [if_pos hz] at h
    exact absurd h hz
theorem find_append {d : Int} {name : ByteArray} {x : Itm} (hx : x.d = d) (hn : x.e.name = name) (hf : findE L d name = none) : findE (L ++ [x]) d name = some x.e := by
  unfold findE at hf ⊢
  rw [entries_snoc, if_pos hx, List.find?_append, hf]
  simp [hasName, hn]
theorem back1 (h : TInv L next) {dir : Int} {name : ByteArray} (he : (linkT L next dir name true 0).err = 0) :
    unlinkT (linkT L next dir name true 0).L dir name true = (L, 0) ∧ listErr L dir = 0 := by
  obtain ⟨e, hd, hf⟩ := link_ok he
  rw [e]
  have hs := freeN_spec (nodes L)
  obtain ⟨q1, q2⟩ := dir_of_free hs.2.1 (by have := hs.1; omega)
  generalize hn : ((freeN (nodes L) : Nat) : Int) = n at *
  have hne : dir ≠ n := fun e => by rw [e, q1] at hd; cases hd
  have hd2 : isDirB (L ++ [⟨dir, ⟨name, n, true, next, 0⟩⟩]) dir = true := by rw [isDirB_snoc, hd]; rfl
  have hfr := findRes_some hd2 (find_append (x := ⟨dir, ⟨name, n, true, next, 0⟩⟩) rfl rfl hf)
  have hen : entries (L ++ [⟨dir, ⟨name, n, true, next, 0⟩⟩]) n = [] := by rw [entries_snoc, if_neg hne, entries_none h q1]; rfl
  have hu : unlinkErr (L ++ [⟨dir, ⟨name, n, true, next, 0⟩⟩]) dir name true = 0 := by
    unfold unlinkErr; rw [hfr]; simp [hen]
  have hdr : dropT (L ++ [⟨dir, ⟨name, n, true, next, 0⟩⟩]) dir name = L := by
    unfold dropT
    rw [List.filter_append]
    have a : L.filter (fun i => !isAt dir name i) = L := by
      rw [List.filter_eq_self]
      intro i hi
      cases c : isAt dir name i with
      | false => rfl
      | true =>
        unfold isAt at c
        simp at c
        have hm := find_none (L := L) (d := dir) (name := name) (by rw [hf]; rfl)
        exact absurd (List.mem_map.2 ⟨i.e, mem_entries.2 ⟨i, hi, c.1, rfl⟩, c.2⟩) hm
    rw [a]; simp [isAt]
  refine ⟨?_, listErr_dir hd⟩
  show unlinkT (L ++ [⟨dir, ⟨name, n, true, next, 0⟩⟩]) dir name true = (L, 0)
  unfold unlinkT
  rw [hu, hdr]; rfl
theorem move_ok {dir : Int} {name : ByteArray} {to : Int} {as_ : ByteArray} {short : Int} (h : (moveT L next dir name to as_ short).err = 0) :
    ∃ x, findRes L dir name = (x, 0) ∧ (⟨dir, x⟩ : Itm) ∈ L ∧ x.name = name ∧ isDirB L dir = true ∧ isDirB L to = true ∧ mayErr as_ short = 0 ∧ ¬ Under L x.node to ∧ findE L to as_ = none ∧
      moveT L next dir name to as_ short = ⟨movedT L dir x to ⟨as_, x.node, x.dir, next, short⟩, next + 1, 0, 0⟩ := by
  by_cases hz : moveErr L dir name to as_ short = 0
  · have hz' := hz
    unfold moveErr at hz'
    split at hz'
    · rename_i q; exact absurd hz' q
    · rename_i q1
      obtain ⟨x, i, e1, hit, enm, -, -, -, hdd⟩ := find_spec (by simpa using q1)
      split at hz'
      · rename_i q; exact absurd hz' q
      · rename_i q2
        split at hz'
        · rename_i q; exact absurd hz' q
        · rename_i q3
          split at hz'
          · cases hz'
          · rename_i q4
            split at hz'
            · cases hz'
            · rename_i q5
              rw [e1] at q4
              refine ⟨x, e1, hit, enm, hdd, dir_of_list (by simpa using q2), by simpa using q3, fun u => q4 (underB_iff.2 u), by simpa using q5, ?_⟩
              unfold moveT movedT
              rw [hz, if_neg (by decide), e1, enm]
  · unfold moveT at h
    rw [if_pos hz] at h
    exact absurd h hz
theorem not_under (h : TInv L next) {i : Itm} (hi : i ∈ L) : ¬ Under L i.e.node i.d := by
  obtain ⟨r, r0, ri⟩ := h.ac
  intro u
  have := u.rank ri
  have := ri i hi
  omega
theorem back2 (h : TInv L next) {dir : Int} {name as_ : ByteArray} (hm : (moveT L next dir name dir as_ 0).err = 0) :
    ∃ x y, findRes L dir name = (x, 0) ∧ findRes (moveT L next dir name dir as_ 0).L dir as_ = (y, 0) ∧ findRes (moveT L next dir name dir as_ 0).L dir name = (Ent.zero, 5) ∧ x.node = y.node ∧ x.dir = y.dir ∧
      y.cookie = next ∧ (moveT L next dir name dir as_ 0).next = next + 1 ∧ (moveT (moveT L next dir name dir as_ 0).L (next + 1) dir as_ dir name x.short).err = 0 := by
  obtain ⟨x, hx, hit, enm, hdd, -, hma, hnu, hfa, e⟩ := move_ok hm
  rw [e]
  have h2 : TInv (movedT L dir x dir ⟨as_, x.node, x.dir, next, 0⟩) (next + 1) := h.moved hit rfl rfl rfl hdd hnu (find_none (by rw [hfa]; rfl)) hma
  have hd2 : isDirB (movedT L dir x dir ⟨as_, x.node, x.dir, next, 0⟩) dir = true := (isDirB_moved h hit (y := ⟨as_, x.node, x.dir, next, 0⟩) rfl rfl dir dir).trans hdd
  have hen : entries (movedT L dir x dir ⟨as_, x.node, x.dir, next, 0⟩) dir = (entries L dir).filter (fun y => !hasName name y) ++ [⟨as_, x.node, x.dir, next, 0⟩] := by
    unfold movedT; rw [entries_snoc, if_pos rfl, entries_dropT, if_pos rfl, enm]
  have hne : as_ ≠ name := fun q => by
    have := find_none (L := L) (d := dir) (name := as_) (by rw [hfa]; rfl)
    exact this (List.mem_map.2 ⟨x, mem_entries.2 ⟨_, hit, rfl, rfl⟩, by rw [enm, q]⟩)
  have hfy : findE (movedT L dir x dir ⟨as_, x.node, x.dir, next, 0⟩) dir as_ = some ⟨as_, x.node, x.dir, next, 0⟩ := by
    unfold findE
    rw [hen, List.find?_append]
    have a : ((entries L dir).filter (fun y => !hasName name y)).find? (hasName as_) = none := by
      rw [List.find?_eq_none]
      intro z hz
      unfold findE at hfa
      exact List.find?_eq_none.1 hfa z (List.mem_filter.1 hz).1
    rw [a]; simp [hasName]
  have hfn : findE (movedT L dir x dir ⟨as_, x.node, x.dir, next, 0⟩) dir name = none := by
    unfold findE
    rw [hen, List.find?_eq_none]
    intro z hz
    rcases List.mem_append.1 hz with q | q
    · have := (List.mem_filter.1 q).2; simpa using this
    · simp at q; subst q; simp [hasName, hne]
  refine ⟨x, ⟨as_, x.node, x.dir, next, 0⟩, hx, findRes_some hd2 hfy, findRes_none hd2 hfn, rfl, rfl, rfl, rfl, ?_⟩
  have hme : moveErr (movedT L dir x dir ⟨as_, x.node, x.dir, next, 0⟩) dir as_ dir name x.short = 0 := by
    have hgd := h.gd _ hit
    have hu : underB (movedT L dir x dir ⟨as_, x.node, x.dir, next, 0⟩) x.node dir = false := by
      cases c : underB (movedT L dir x dir ⟨as_, x.node, x.dir, next, 0⟩) x.node dir with
      | false => rfl
      | true =>
        have := underB_iff.1 c
        exact absurd this (not_under h2 (i := ⟨dir, ⟨as_, x.node, x.dir, next, 0⟩⟩) (by unfold movedT; simp))
    have hgd' : mayErr name x.short = 0 := by rw [← enm]; exact hgd
    unfold moveErr
    rw [findRes_some hd2 hfy, listErr_dir hd2, hgd', hfn]
    simp [hu]
  unfold moveT
  rw [hme]; rfl
end
end Go.Proofs.Ytolilbcpfdnkjaa
