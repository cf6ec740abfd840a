/- tree: a tree in memory, over the list of its items; List, Find, Cookie, Nodes. -/
import Derived.Test.YtolilbcpfdnkjaaGreatZBT2
import Derived.Test.YtolilbcpfdnkjaaGreatZBI3x
namespace Go.Proofs.YtolilbcpfdnkjaaGreat
open Go.RowKit
set_option linter.unusedSimpArgs false
set_option linter.unusedVariables false
/-- An entry, and the directory in which it stands. -/
structure Itm where
  d : Int
  e : Ent
/-- A directory's entries. -/
def entries (L : List Itm) (d : Int) : List Ent := (L.filter (fun i => decide (i.d = d))).map (·.e)
def isDirB (L : List Itm) (d : Int) : Bool := decide (d = 0) || L.any (fun i => decide (i.e.node = d) && i.e.dir)
def isFileB (L : List Itm) (d : Int) : Bool := L.any (fun i => decide (i.e.node = d) && !i.e.dir)
def listErr (L : List Itm) (d : Int) : Int := if isDirB L d = true then 0 else if isFileB L d = true then 8 else 5
/-- The entry of a name. -/
def findE (L : List Itm) (d : Int) (name : ByteArray) : Option Ent := (entries L d).find? (hasName name)
abbrev DE := Value × List Ent
def encDE (x : DE) : Value := x.1
/-- A tree's memory: entries by directory, files, a pool, the next cookie. -/
structure MAt (w : World) (g bd bf gp bp : Nat) (vp : Value) (D : List (Int × DE)) (F : List (Int × Int)) (p : PD) (next : Int) : Prop where
  blk : w.heap[g]? = some (.cells #[.map (some bd), .map (some bf), .pointer (some ⟨gp, 0, none⟩), .int .i64 next] 79 (0, 0))
  dm : IMap encDE w bd D
  fm : IMap (Value.int .i64) w bf F
  pl : PAt w gp vp bp p
  inv : PInv p
  most : p.most = 200
  rows : ∀ x ∈ D, RowO EEnt w 0 x.2.1 x.2.2
  s1 : bd ≠ g ∧ bf ≠ g ∧ bf ≠ bd
  s2 : ∀ k, pfoot gp vp bp k → k ≠ g ∧ k ≠ bd ∧ k ≠ bf
  s3 : ∀ x ∈ D, ∀ k, x.2.1.ownBlock = some k → k ≠ g ∧ k ≠ bd ∧ k ≠ bf ∧ ¬ pfoot gp vp bp k
/-- They say what the items are. -/
structure TRep (D : List (Int × DE)) (F : List (Int × Int)) (p : PD) (L : List Itm) : Prop where
  r1 : ∀ d, isDirB L d = true → ∃ v, mget D d = some (v, entries L d)
  r2 : ∀ d, isDirB L d = false → mget D d = none
  r3 : ∀ d, mget F d = if isFileB L d = true then some 1 else none
  r4 : ∀ n, n ∈ mkeys p.out ↔ ∃ i ∈ L, i.e.node = n
def tfoot (g bd bf gp bp : Nat) (vp : Value) (D : List (Int × DE)) (k : Nat) : Prop := k = g ∨ k = bd ∨ k = bf ∨ pfoot gp vp bp k ∨ ∃ x ∈ D, x.2.1.ownBlock = some k
/-- A tree in memory, its blocks F. -/
def TreeM (w : World) (F : Nat → Prop) (g : Nat) (L : List Itm) (next : Int) : Prop :=
  ∃ bd bf gp bp vp D Fm p, F = tfoot g bd bf gp bp vp D ∧ MAt w g bd bf gp bp vp D Fm p next ∧ TRep D Fm p L
section
variable {w w' : World} {g bd bf gp bp : Nat} {vp : Value} {D : List (Int × DE)} {Fm : List (Int × Int)} {p : PD} {L : List Itm} {next : Int} {F G : Nat → Prop}
theorem MAt.foot_lt (h : MAt w g bd bf gp bp vp D Fm p next) {k : Nat} (hk : tfoot g bd bf gp bp vp D k) : k < w.heap.size := by
  rcases hk with rfl | rfl | rfl | hk | ⟨x, hx, hk⟩
  · exact m_lt h.blk
  · exact h.dm.lt
  · exact h.fm.lt
  · rcases hk with rfl | rfl | hk
    · exact m_lt h.pl.blk
    · exact h.pl.mp.lt
    · exact World.ownsRow.lt h.pl.row k hk.symm |>.2
  · exact (h.rows x hx).lt hk
theorem MAt.keep (h : MAt w g bd bf gp bp vp D Fm p next) (k : Keep G w w') (hd : ∀ i, tfoot g bd bf gp bp vp D i → ¬ G i) : MAt w' g bd bf gp bp vp D Fm p next :=
  ⟨m_keep h.blk k (hd _ (Or.inl rfl)), h.dm.keep k (hd _ (Or.inr (Or.inl rfl))), h.fm.keep k (hd _ (Or.inr (Or.inr (Or.inl rfl)))),
    ⟨m_keep h.pl.blk k (hd _ (Or.inr (Or.inr (Or.inr (Or.inl (Or.inl rfl)))))), h.pl.row.kept (fun j hj => k.block j (World.ownsRow.lt h.pl.row j hj).2 (hd _ (Or.inr (Or.inr (Or.inr (Or.inl (Or.inr (Or.inr hj.symm)))))))),
      h.pl.mp.keep k (hd _ (Or.inr (Or.inr (Or.inr (Or.inl (Or.inr (Or.inl rfl))))))), h.pl.ne1, h.pl.ne2, h.pl.ne3⟩, h.inv, h.most,
    fun x hx => (h.rows x hx).keep k (fun i hi => hd i (Or.inr (Or.inr (Or.inr (Or.inr ⟨x, hx, hi⟩))))), h.s1, h.s2, h.s3⟩
theorem MAt.below (h : MAt w g bd bf gp bp vp D Fm p next) (hb : Below w.heap.size w w') : MAt w' g bd bf gp bp vp D Fm p next := h.keep (Keep.below hb) (fun _ hi q => absurd (h.foot_lt hi) (Nat.not_lt.2 q))
theorem TreeM.lt (h : TreeM w F g L next) {k : Nat} (hk : F k) : k < w.heap.size := by obtain ⟨bd, bf, gp, bp, vp, D, Fm, p, rfl, h, _⟩ := h; exact h.foot_lt hk
theorem TreeM.keep (h : TreeM w F g L next) (k : Keep G w w') (hd : ∀ i, F i → ¬ G i) : TreeM w' F g L next := by
  obtain ⟨bd, bf, gp, bp, vp, D, Fm, p, rfl, h, hr⟩ := h
  exact ⟨bd, bf, gp, bp, vp, D, Fm, p, rfl, h.keep k hd, hr⟩
theorem TreeM.below (h : TreeM w F g L next) (hb : Below w.heap.size w w') : TreeM w' F g L next := h.keep (Keep.below hb) (fun _ hi q => absurd (h.lt hi) (Nat.not_lt.2 q))
end
theorem mget_mem {V : Type} {D : List (Int × V)} {k : Int} {x : V} (h : mget D k = some x) : (k, x) ∈ D := by
  unfold mget at h
  obtain ⟨q, h1, h2⟩ := Option.map_eq_some_iff.1 h
  have h3 := List.find?_some h1
  have h4 := List.mem_of_find?_eq_some h1
  have : q.1 = k := by simpa using h3
  rw [← this, ← h2]; exact h4
theorem zero_ents (w : World) : (zeroValue 49).run Tryz.prog w = .ok (.slice none 0 0) w := by kernel_rfl
/-- What List answers. -/
def ListPost (w : World) (L : List Itm) (d : Int) (e : Ending) (w' : World) : Prop :=
  ∃ v l, e = .returned (.tuple #[v, .int .i64 (listErr L d)]) ∧ Row EEnt w' w.heap.size v l ∧ (listErr L d = 0 → l = entries L d) ∧ Below w.heap.size w w'
theorem listpost_mk {w w' : World} {L : List Itm} {d E : Int} {v : Value} {l : List Ent} (h : listErr L d = E) (hr : Row EEnt w' w.heap.size v l) (hl : E = 0 → l = entries L d) (hb : Below w.heap.size w w') : ListPost w L d (.returned (.tuple #[v, .int .i64 E])) w' :=
  ⟨v, l, by rw [h], hr, fun q => hl (h ▸ q), hb⟩
set_option maxRecDepth 100000 in
set_option maxHeartbeats 2000000 in
theorem tlist_any {w : World} {F : Nat → Prop} {g : Nat} {L : List Itm} {next : Int} (d : Int) (h : TreeM w F g L next) (hl : L.length ≤ 100000) :
    Calls Tryz.prog 23 #[.pointer (some ⟨g, 0, none⟩), .int .i64 d] w (ListPost w L d) := by
  obtain ⟨bd, bf, gp, bp, vp, D, Fm, p, rfl, h, hr⟩ := h
  have c0 : w.cell? ⟨g, 0, none⟩ = some (.map (some bd)) := (m_cells h.blk).1 0
  have c1 : w.cell? ⟨g, 1, none⟩ = some (.map (some bf)) := (m_cells h.blk).1 1
  have hld := h.dm.lookup (P := Tryz.prog) Tryz.underlying53 Tryz.underlying3 zero_ents d true
  have hlf := h.fm.lookup (P := Tryz.prog) Tryz.underlying75 Tryz.underlying3 zero_int d false
  rw [hr.r3 d] at hlf
  cases hD : isDirB L d
  · rw [hr.r2 d hD] at hld
    simp only [if_true] at hld
    cases hF : isFileB L d
    · rw [hF] at hlf
      simp only [Bool.false_eq_true, if_false] at hlf
      have HE := Lib.hid (show listErr L d = 5 by unfold listErr; rw [hD, hF]; rfl)
      clear h hr hD hF
      go_enter Tryz.func23, Tryz.ntmps23
      go_wp2_with fail
      go_ret2
      exact listpost_mk HE.out (Row.nil _ _ _) (fun q => by cases q) (Below.refl _ _)
    · rw [hF] at hlf
      simp only [if_true, Bool.false_eq_true, if_false] at hlf
      have HE := Lib.hid (show listErr L d = 8 by unfold listErr; rw [hD, hF]; rfl)
      clear h hr hD hF
      go_enter Tryz.func23, Tryz.ntmps23
      go_wp2_with fail
      go_ret2
      exact listpost_mk HE.out (Row.nil _ _ _) (fun q => by cases q) (Below.refl _ _)
  · obtain ⟨v, hv⟩ := hr.r1 d hD
    rw [hv] at hld
    simp only [if_true] at hld
    have hmem : (d, (v, entries L d)) ∈ D := mget_mem hv
    have hrow := h.rows _ hmem
    have hlen : (entries L d).length ≤ 100000 := by
      unfold entries; rw [List.length_map]
      exact Nat.le_trans (List.length_filter_le _ _) hl
    have hrow' : RowO EEnt w 0 v (entries L d) := hrow
    have HC := Lib.hid (eclone_any (l := entries L d) w hrow'.arg (by omega))
    have HE := Lib.hid (show listErr L d = 0 by unfold listErr; rw [hD]; rfl)
    simp only [encDE] at hld
    obtain ⟨va, vc, rfl⟩ := hrow'.shape
    clear h hr hD hv hmem hrow hrow' hlen hlf
    obtain ⟨E, hEE⟩ : ∃ E, entries L d = E := ⟨_, rfl⟩
    rw [hEE] at HC hld
    replace hEE := hEE.symm
    have HEE := Lib.hid hEE
    clear hEE
    go_enter Tryz.func23, Tryz.ntmps23
    go_wp2_with fail
    refine HC.out.mono ?_
    rintro e w1 ⟨v1, rfl, hr1, hb1⟩
    have HR := Lib.hid hr1
    have HB := Lib.hid hb1
    clear hr1 hb1
    obtain ⟨a1, c1', rfl⟩ := HR.out.shape
    go_wp2_with fail
    go_ret2
    exact listpost_mk HE.out HR.out (fun _ => HEE.out) HB.out
theorem idxP_spec (l : List Ent) (p : Ent → Bool) : (∃ (i : Nat) (x : Ent), idxP l p = i ∧ l[i]? = some x ∧ l.find? p = some x) ∨ (idxP l p = -1 ∧ l.find? p = none) := by
  cases h : l.findIdx? p with
  | none =>
    refine Or.inr ⟨by unfold idxP; rw [h], ?_⟩
    rw [List.find?_eq_none]
    intro x hx
    have := List.findIdx?_eq_none_iff.1 h x hx
    simp [this]
  | some i =>
    obtain ⟨hi, h1, h2⟩ := List.findIdx?_eq_some_iff_getElem.1 h
    refine Or.inl ⟨i, l[i], by unfold idxP; rw [h], List.getElem?_eq_getElem hi, ?_⟩
    rw [List.find?_eq_some_iff_getElem]
    exact ⟨h1, i, hi, rfl, fun j hj => by have := h2 j hj; simpa using this⟩
def findRes (L : List Itm) (d : Int) (name : ByteArray) : Ent × Int :=
  if listErr L d ≠ 0 then (Ent.zero, listErr L d) else match findE L d name with | some x => (x, 0) | none => (Ent.zero, 5)
set_option maxRecDepth 100000 in
set_option maxHeartbeats 2000000 in
theorem tfind_any {w : World} {F : Nat → Prop} {g : Nat} {L : List Itm} {next : Int} (d : Int) (name : ByteArray) (h : TreeM w F g L next) (hl : L.length ≤ 100000) :
    Calls Tryz.prog 70 #[.pointer (some ⟨g, 0, none⟩), .int .i64 d, .string name] w fun e w' => e = .returned (.tuple #[(findRes L d name).1.val, .int .i64 (findRes L d name).2]) ∧ Below w.heap.size w w' := by
  have hzb : Below w.heap.size w (w.alloc (.cells #[.string ⟨#[]⟩, .int .i64 0, .bool false, .int .i64 0, .int .i64 0] 84)) := (Below.refl _ _).alloc (Nat.le_refl _) _
  have HLI := Lib.hid (tlist_any d (h.below hzb) hl)
  have HZB := Lib.hid hzb
  obtain ⟨B, hB⟩ : ∃ B, w.heap.size = B := ⟨_, rfl⟩
  have HAL := Lib.hid (m_alloc w (.cells #[.string ⟨#[]⟩, .int .i64 0, .bool false, .int .i64 0, .int .i64 0] 84) B hB)
  have HBB := Lib.hid hB
  clear hzb h hB
  go_enter Tryz.func70, Tryz.ntmps70
  go_wp2_with fail
  rw [HBB.out]
  refine HLI.out.mono ?_
  rintro e w1 ⟨v, l, rfl, hr, hle, hb⟩
  have hlB : B < w1.heap.size := Nat.lt_of_lt_of_le (m_lt HAL.out) hb.size
  have HW1 := Lib.hid (HZB.out.trans (hb.mono (by simp)))
  have HK := Lib.hid ((hb.block B (m_lt HAL.out)).trans HAL.out)
  obtain ⟨a1, k1, rfl⟩ := hr.shape
  have HR := Lib.hid hr
  obtain ⟨E, hE⟩ : ∃ E, listErr L d = E := ⟨_, rfl⟩
  rw [hE] at hle
  have HLE := Lib.hid hle
  have HE := Lib.hid hE
  rw [hE]
  clear hr hle hb hE HLI HZB HAL
  have hinf : (Tryz.prog.info? 84).map (·.size) = some 5 := by kernel_rfl
  have HINF := Lib.hid hinf
  clear hinf
  -- the end: the result's cell has been written
  have hend : ∀ (w2 : World) (x : Ent) (tm : Array Value) (E2 : Int), Below w.heap.size w w2 → w2.heap[B]? = some (.cells #[.string ⟨#[]⟩, .int .i64 0, .bool false, .int .i64 0, .int .i64 0] 84 (0, 0)) → findRes L d name = (x, E2) →
      tm.getD 6 undef = .pointer (some ⟨B, 0, none⟩) → tm.getD 7 undef = .int .i64 E2 →
      bodyPost Tryz.prog Tryz.f70 (fun e w' => e = .returned (.tuple #[(findRes L d name).1.val, .int .i64 (findRes L d name).2]) ∧ Below w.heap.size w w') Exit.ret ⟨tm, []⟩ (w2.setRow B #[.string x.name, .int .i64 x.node, .bool x.dir, .int .i64 x.cookie, .int .i64 x.short]) := by
    intro w2 x tm E2 hb2 hk hf h6 h7
    refine bodyPost_ret (v := .tuple #[x.val, .int .i64 E2]) ?_ rfl ⟨by rw [hf], ?_⟩
    · have := results2_row (P := Tryz.prog) (fn := Tryz.f70) (p := 6) (q := 7) (ty := 84) rfl tm _ B 84 _ (0, 0) _ h6 (setRow_heap w2 B _ #[.string x.name, .int .i64 x.node, .bool x.dir, .int .i64 x.cookie, .int .i64 x.short] _ _ hk) Tryz.underlying84 rfl (by rw [HINF.out]; rfl)
      rw [h7] at this
      exact this
    · exact ⟨hb2.os, hb2.tape, hb2.output, by have := hb2.size; simp [World.setRow]; exact this, fun k hk2 => by rw [setRow_other _ _ _ _ (by have := HBB.out; omega)]; exact hb2.block k hk2⟩
  have HEND := Lib.hid hend
  clear hend
  by_cases h0 : E = 0
  · subst h0
    have hle := HLE.out rfl
    subst hle
    have hlen : (entries L d).length ≤ 100000 := by
      unfold entries; rw [List.length_map]
      exact Nat.le_trans (List.length_filter_le _ _) hl
    have HIX := Lib.hid (index_any name w1 HR.out.arg (by omega))
    have HIS := Lib.hid (idxP_spec (entries L d) (hasName name))
    obtain ⟨X, hX⟩ : ∃ X, idxP (entries L d) (hasName name) = X := ⟨_, rfl⟩
    rw [hX] at HIS HIX
    clear hX
    go_wp2_with fail
    refine HIX.out.mono ?_
    rintro e w2 ⟨rfl, hb2⟩
    have HW2 := Lib.hid (HW1.out.trans (hb2.mono HW1.out.size))
    have HK2 := Lib.hid ((hb2.block B hlB).trans HK.out)
    have HR2 := Lib.hid (HR.out.below hb2)
    clear hb2 HIX HR HK
    rcases HIS.out with ⟨i, x, rfl, hx, hf⟩ | ⟨rfl, hf⟩
    · obtain ⟨gl, off, rfl, -, c0, c1, c2, c3, c4⟩ := ent_cells HR2.out.arg i x hx
      have i1 : i < (entries L d).length := (List.getElem?_eq_some_iff.1 hx).1
      have i2 : (i : Int) < (entries L d).length := by omega
      have HF := Lib.hid (show findRes L d name = (x, 0) by unfold findRes findE; rw [HE.out, if_neg (by decide), hf])
      clear hx hf
      go_wp2_with (first
        | (refine wpList_store_row rfl 84 _ _ rfl B _ rfl rfl 84 _ HK2.out ?d2 rfl ?d4 ?_; (case d2 => rw [HINF.out]; rfl); (case d4 => simp [Value.oneCell'])))
      refine HEND.out w2 x _ 0 HW2.out HK2.out HF.out ?_ ?_
      · rfl
      · rfl
    · have HF := Lib.hid (show findRes L d name = (Ent.zero, 5) by unfold findRes findE; rw [HE.out, if_neg (by decide), hf])
      clear hf
      go_wp2_with (first
        | (refine wpList_store_row rfl 84 _ _ rfl B _ rfl rfl 84 _ HK2.out ?d2 rfl ?d4 ?_; (case d2 => rw [HINF.out]; rfl); (case d4 => simp [Value.oneCell'])))
      refine HEND.out w2 Ent.zero _ 5 HW2.out HK2.out HF.out ?_ ?_
      · rfl
      · rfl
  · have HF := Lib.hid (show findRes L d name = (Ent.zero, E) by unfold findRes; rw [HE.out, if_pos h0])
    have e1 : (E == 0) = false := by simpa using h0
    have e2 : (E != 0) = true := by simpa using h0
    go_wp2_with (first
      | (refine wpList_store_row rfl 84 _ _ rfl B _ rfl rfl 84 _ HK.out ?d2 rfl ?d4 ?_; (case d2 => rw [HINF.out]; rfl); (case d4 => simp [Value.oneCell'])))
    refine HEND.out w1 Ent.zero _ E HW1.out HK.out HF.out ?_ ?_
    · rfl
    · rfl
end Go.Proofs.YtolilbcpfdnkjaaGreat
