/- Lemmas, texts TM1 TM2 TM3; no condition beyond those that each states. -/
import Derived.Test.YtolilbcpfdnkjaaGreatZBPM1
import Derived.Test.YtolilbcpfdnkjaaGreatZBY1
/- TreeMakes: what the items are is told by the directories; the reference's has. -/
namespace Go.Proofs.YtolilbcpfdnkjaaGreat
open Go.RowKit
set_option linter.unusedSimpArgs false
set_option linter.unusedVariables false
theorem says_unique {D : List (Int × DE)} {L M : List Itm} {n m : Int} (hn : (mkeys D).Nodup) (h1 : TInv L n) (h2 : TInv M m) (s1 : Says D L) (s2 : Says D M) : L = M := by
  have n1 : L.Nodup := (List.pairwise_map.1 (show (L.map (·.e.node)).Nodup from h1.nd)).imp (fun h e => h (by rw [e]))
  have n2 : M.Nodup := (List.pairwise_map.1 (show (M.map (·.e.node)).Nodup from h2.nd)).imp (fun h e => h (by rw [e]))
  have hd : ∀ d, isDirB L d = isDirB M d := fun d => by
    rw [Bool.eq_iff_iff, ← keys_says s1, ← keys_says s2]
  have hp : L.Perm M := (List.perm_ext_iff_of_nodup n1 n2).2 (fun i => by
    constructor
    · intro h
      have hdi := h1.pa i h
      have e1 := mem_entries'.2 h
      rw [← s1.get hdi, s2.get (by rw [← hd]; exact hdi)] at e1
      exact mem_entries'.1 e1
    · intro h
      have hdi := h2.pa i h
      have e1 := mem_entries'.2 h
      rw [← s2.get hdi, s1.get (by rw [hd]; exact hdi)] at e1
      exact mem_entries'.1 e1)
  exact List.Perm.eq_of_pairwise (le := fun a b : Itm => a.e.cookie < b.e.cookie) (fun a b _ _ q1 q2 => by omega) (List.pairwise_map.1 h1.ck) (List.pairwise_map.1 h2.ck) hp
set_option maxRecDepth 100000 in
set_option maxHeartbeats 2000000 in
theorem has10_any {v : Value} {l : List Int} (w : World) (x : Int) (h : Arg EInt w v l) (hl : l.length ≤ maxLen) :
    Calls Tryz.prog 59 #[v, .int .i64 x] w fun e w' => e = .returned (.bool (decide (x ∈ l))) ∧ Below w.heap.size w w' := by
  obtain ⟨a, c, rfl⟩ := h.shape
  have H := Lib.hid h
  unfold maxLen at hl
  clear h
  go_enter Tryz.func59, Tryz.ntmps59
  go_wp2_with fail
  go_loopw [5] (fun iv wr => ∃ i : Nat, iv = .int .i64 i ∧ i ≤ l.length ∧ (∀ k y, k < i → l[k]? = some y → y ≠ x) ∧ wr = w) (fun iv _ => l.length - (intOf iv).toNat)
  case atStart => exact ⟨0, rfl, Nat.zero_le _, fun k y hk => absurd hk (Nat.not_lt_zero _), rfl⟩
  case round =>
    obtain ⟨i, rfl, hi, hall, rfl⟩ := hrel
    have HALL := Lib.hid hall
    clear hall
    by_cases hlt : i < l.length
    · have i1 : (i : Int) < l.length := by omega
      obtain ⟨y, hy⟩ : ∃ y, l[i]? = some y := ⟨_, List.getElem?_eq_getElem hlt⟩
      obtain ⟨g1, o1, rfl, c0⟩ := int_cell H.out i y hy
      have HY := Lib.hid hy
      clear hy
      by_cases e : y = x
      · have e1 : (y == x) = true := by simpa using e
        go_wp2_with fail
        go_ret
        exact ⟨ret_bool (decide_eq_true (e ▸ List.mem_of_getElem? HY.out)).symm, Below.refl _ _⟩
      · have e1 : (y == x) = false := by simpa using e
        go_wp2_with fail
        refine ⟨⟨i + 1, by go_num, hlt, fun k z hk hz => ?_, trivial⟩, by simp [intOf]; omega⟩
        by_cases ek : k = i
        · subst ek
          rw [HY.out] at hz
          cases hz; exact e
        · exact HALL.out k z (by omega) hz
    · have ei : i = l.length := by omega
      subst ei
      have i2 : ¬ ((l.length : Int) < l.length) := by omega
      go_wp2_with fail
      go_ret
      refine ⟨ret_bool (decide_eq_false (fun q => ?_)).symm, Below.refl _ _⟩
      obtain ⟨k, hk⟩ := List.getElem?_of_mem q
      exact HALL.out k x (List.getElem?_eq_some_iff.1 hk).1 hk rfl
end Go.Proofs.YtolilbcpfdnkjaaGreat

/- TreeMakes: the reference's reached. -/
namespace Go.Proofs.YtolilbcpfdnkjaaGreat
open Go.RowKit
set_option linter.unusedSimpArgs false
set_option linter.unusedVariables false
/-- Numbers that are reached, in their order. -/
structure Bfs (all : List Itm) (M : List Int) : Prop where
  nd : M.Nodup
  hd : ∃ T, M = 0 :: T
  ch : ∀ P d Q, M = P ++ d :: Q → d = 0 ∨ ∃ x ∈ all, x.d ∈ P ∧ x.e.dir = true ∧ x.e.node = d
theorem Bfs.len {all : List Itm} {M : List Int} (h : Bfs all M) : M.length ≤ all.length + 1 := by
  have := nodup_sub_len M (0 :: all.map (·.e.node)) h.nd (fun d hd => by
    obtain ⟨P, Q, e⟩ := List.append_of_mem hd
    rcases h.ch P d Q e with q | ⟨x, hx, _, _, q⟩
    · rw [q]; exact List.mem_cons_self ..
    · rw [← q]; exact List.mem_cons_of_mem _ (List.mem_map_of_mem hx))
  simpa using this
theorem Bfs.snoc {all : List Itm} {M : List Int} {x : Itm} {dd : Int} (h : Bfs all M) (hx : x ∈ all) (hd : x.d = dd) (hdd : dd ∈ M) (hb : x.e.dir = true) (hn : x.e.node ∉ M) : Bfs all (M ++ [x.e.node]) := by
  obtain ⟨T, hT⟩ := h.hd
  refine ⟨?_, ⟨T ++ [x.e.node], by rw [hT]; rfl⟩, fun P d Q e => ?_⟩
  · rw [List.nodup_append]
    exact ⟨h.nd, by simp, fun a ha b hb e => by simp at hb; subst hb; subst e; exact hn ha⟩
  · rcases List.append_eq_append_iff.1 e with ⟨a, h1, h2⟩ | ⟨a, h1, h2⟩
    · cases a with
      | nil =>
        simp at h1 h2
        exact Or.inr ⟨x, hx, by rw [h1, hd]; exact hdd, hb, h2.1⟩
      | cons b a => simp at h2
    · cases a with
      | nil =>
        simp at h1 h2
        exact Or.inr ⟨x, hx, by rw [← h1, hd]; exact hdd, hb, h2.1.symm⟩
      | cons b a =>
        simp only [List.cons_append, List.cons.injEq] at h2
        obtain ⟨rfl, h2⟩ := h2
        exact h.ch P d a h1
def ReachPost (w : World) (all : List Itm) (there : List Int) (e : Ending) (w' : World) : Prop :=
  ∃ M : List Int, e = .returned (.bool (decide (∀ n ∈ there, n ∈ M))) ∧ Bfs all M ∧ (∀ d ∈ M, ∀ x ∈ all, x.d = d → x.e.dir = true → x.e.node ∈ M) ∧ Below w.heap.size w w'
def ReachO (w : World) (all : List Itm) (mv iv : Value) (wr : World) : Prop :=
  ∃ (i : Nat) (M : List Int), iv = .int .i64 i ∧ Row EInt wr w.heap.size mv M ∧ i ≤ M.length ∧ Bfs all M ∧ (∀ j d, j < i → M[j]? = some d → ∀ x ∈ all, x.d = d → x.e.dir = true → x.e.node ∈ M) ∧ Below w.heap.size w wr
def ReachI (w : World) (all : List Itm) (i : Nat) (dd : Int) (mv kv : Value) (wr : World) : Prop :=
  ∃ (k : Nat) (M : List Int), kv = .int .i64 k ∧ Row EInt wr w.heap.size mv M ∧ M[i]? = some dd ∧ k ≤ all.length ∧ Bfs all M ∧ (∀ j d, j < i → M[j]? = some d → ∀ x ∈ all, x.d = d → x.e.dir = true → x.e.node ∈ M) ∧
    (∀ x ∈ all.take k, x.d = dd → x.e.dir = true → x.e.node ∈ M) ∧ Below w.heap.size w wr
set_option maxRecDepth 100000 in
set_option maxHeartbeats 2000000 in
theorem reached_any {va vt : Value} {all : List Itm} {there : List Int} (w : World) (ha : Arg EItm w va all) (ht : Arg EInt w vt there) (hl : all.length ≤ 100000) (hl2 : there.length ≤ 100000) :
    Calls Tryz.prog 60 #[va, vt] w (ReachPost w all there) := by
  obtain ⟨a1, c1, rfl⟩ := ha.shape
  obtain ⟨a2, c2, rfl⟩ := ht.shape
  have HA := Lib.hid ha
  have HT := Lib.hid ht
  clear ha ht
  go_enter Tryz.func60, Tryz.ntmps60
  go_wp2_with fail
  have hst : ReachO w all (.slice (some ⟨w.heap.size, 0, none⟩) 1 1) (.int .i64 (0 : Nat)) (w.alloc (.cells #[.int .i64 0] 3)) := by
    refine ⟨0, [0], rfl, ?_, Nat.zero_le _, ⟨by simp, ⟨[], rfl⟩, fun P d Q e => ?_⟩, fun j d h => absurd h (Nat.not_lt_zero _), (Below.refl _ w).alloc (Nat.le_refl _) _⟩
    · exact Row.new (E := EInt) w w.heap.size #[.int .i64 0] [0] (Nat.le_refl _) rfl (by decide)
    · cases P with
      | nil => simp at e; exact Or.inl e.1.symm
      | cons y P => simp at e
  have HST := Lib.hid hst
  clear hst
  go_loopw [5, 6] (fun mv iv wr => ReachO w all mv iv wr) (fun _ iv _ => all.length + 1 - (intOf iv).toNat)
  case atStart => exact HST.out
  case round =>
    obtain ⟨i, M, rfl, hr, hi, hok, hcl, hb⟩ := hrel
    clear HST
    have hml := hok.len
    obtain ⟨av, cv, rfl⟩ := hr.shape
    by_cases hlt : i < M.length
    · have i1 : (i : Int) < M.length := by omega
      obtain ⟨dd, hdd⟩ : ∃ dd, M[i]? = some dd := ⟨_, List.getElem?_eq_getElem hlt⟩
      have hsti : ReachI w all i dd (.slice av M.length cv) (.int .i64 (0 : Nat)) wr := ⟨0, M, rfl, hr, hdd, Nat.zero_le _, hok, hcl, fun x hx => by simp at hx, hb⟩
      have HSTI := Lib.hid hsti
      clear hr hok hcl hb hsti hdd
      go_wp2_with fail
      go_loopw [5, 7] (fun mv kv wr => ReachI w all i dd mv kv wr) (fun _ kv _ => all.length - (intOf kv).toNat)
      case atStart => exact HSTI.out
      case round =>
        rename World => wq
        obtain ⟨k, M2, rfl, hr, hdd, hk, hok, hcl, hpt, hb⟩ := hrel
        clear HSTI
        have hml2 := hok.len
        obtain ⟨av2, cv2, rfl⟩ := hr.shape
        by_cases hkl : k < all.length
        · have k1 : (k : Int) < all.length := by omega
          obtain ⟨x, hx⟩ : ∃ x, all[k]? = some x := ⟨_, List.getElem?_eq_getElem hkl⟩
          obtain ⟨ga, oa, rfl, -, c0, -, c2, c3, -, -⟩ := itm_cells (HA.out.below hb) k x hx
          obtain ⟨gv, ov, rfl, cm⟩ := int_cell hr.arg i dd hdd
          have hib : i < M2.length := (List.getElem?_eq_some_iff.1 hdd).1
          have i1' : (i : Int) < M2.length := by omega
          have HX := Lib.hid (show all.take (k + 1) = all.take k ++ [x] from by rw [List.take_add_one, hx]; rfl)
          have HXM := Lib.hid (List.mem_of_getElem? hx)
          have HR := Lib.hid hr
          have HB := Lib.hid hb
          have HDD := Lib.hid hdd
          have HOK := Lib.hid hok
          have HCL := Lib.hid hcl
          have HPT := Lib.hid hpt
          have hbq : Below wq.heap.size wq wq.drew := (Below.refl _ wq).drew
          clear hr hb hdd hok hcl hpt hx
          obtain ⟨bb, hbb⟩ : ∃ bb, x.e.dir = bb := ⟨_, rfl⟩
          rw [hbb] at c3
          have HBB := Lib.hid hbb
          clear hbb
          by_cases hxd : x.d = dd
          · have e1 : (x.d == dd) = true := by simpa using hxd
            have HXD := Lib.hid hxd
            clear hxd
            cases bb
            · have HS := Lib.hid (show ∀ w', Below wq.heap.size wq w' → (w'.cell? ⟨ga, oa + k * 6, none⟩ = some (.int .i64 x.d) ∧ w'.cell? ⟨ga, oa + k * 6 + 2, none⟩ = some (.int .i64 x.e.node) ∧ w'.cell? ⟨ga, oa + k * 6 + 3, none⟩ = some (.bool false) ∧ w'.cell? ⟨gv, ov + i, none⟩ = some (.int .i64 dd)) from fun w' q => ⟨cell_later q c0, cell_later q c2, cell_later q c3, cell_later q cm⟩)
              go_wp2_with fail
              refine wp_region_held_drew (S := fun w' => w'.cell? ⟨ga, oa + k * 6, none⟩ = some (.int .i64 x.d) ∧ w'.cell? ⟨ga, oa + k * 6 + 2, none⟩ = some (.int .i64 x.e.node) ∧ w'.cell? ⟨ga, oa + k * 6 + 3, none⟩ = some (.bool false) ∧ w'.cell? ⟨gv, ov + i, none⟩ = some (.int .i64 dd)) (by kernel_rfl) (HS.out _ (Below.refl _ wq).drew) (fun hHeld => ?_)
              refine take_on 0 22 (v := ?vb0) rfl rfl (by kernel_rfl) (by kernel_rfl) (by kernel_rfl) (fun _ _ _ h => h) (by rfl) ?hyb0 (by assumption) ?restb0
              case hyb0 =>
                intro w hSw
                (try dsimp only at hSw)
                go_simp
                try with_reducible rfl
              try simp only [Act.put, List.setIfInBounds_toArray, List.set_cons_zero, List.set_cons_succ]
              refine take_on 1 23 (v := ?vb1) rfl rfl (by kernel_rfl) (by kernel_rfl) (by kernel_rfl) (fun _ _ _ h => h) (by rfl) ?hyb1 (by assumption) ?restb1
              case hyb1 =>
                intro w hSw
                (try dsimp only at hSw)
                go_simp
                try with_reducible rfl
              try simp only [Act.put, List.setIfInBounds_toArray, List.set_cons_zero, List.set_cons_succ]
              refine take_on 2 24 (v := ?vb2) rfl rfl (by kernel_rfl) (by kernel_rfl) (by kernel_rfl) (fun _ _ _ h => h) (by rfl) ?hyb2 (by assumption) ?restb2
              case hyb2 =>
                intro w hSw
                (try dsimp only at hSw)
                go_simp
                try with_reducible rfl
              try simp only [Act.put, List.setIfInBounds_toArray, List.set_cons_zero, List.set_cons_succ]
              refine take_on 3 25 (v := ?vb3) rfl rfl (by kernel_rfl) (by kernel_rfl) (by kernel_rfl) (fun _ _ _ h => h) (by rfl) ?hyb3 (by assumption) ?restb3
              case hyb3 =>
                intro w hSw
                (try dsimp only at hSw)
                go_simp
                try with_reducible rfl
              try simp only [Act.put, List.setIfInBounds_toArray, List.set_cons_zero, List.set_cons_succ]
              refine take_on 4 26 (v := ?vb4) rfl rfl (by kernel_rfl) (by kernel_rfl) (by kernel_rfl) (fun _ _ _ h => h) (by rfl) ?hyb4 (by assumption) ?restb4
              case hyb4 =>
                intro w hSw
                (try dsimp only at hSw)
                go_simp
                try with_reducible rfl
              try simp only [Act.put, List.setIfInBounds_toArray, List.set_cons_zero, List.set_cons_succ]
              refine take_on 5 27 (v := ?vb5) rfl rfl (by kernel_rfl) (by kernel_rfl) (by kernel_rfl) (fun _ _ _ h => h) (by rfl) ?hyb5 (by assumption) ?restb5
              case hyb5 =>
                intro w hSw
                (try dsimp only at hSw)
                go_simp
                try with_reducible rfl
              try simp only [Act.put, List.setIfInBounds_toArray, List.set_cons_zero, List.set_cons_succ]
              refine take_on 6 28 (v := ?vb6) rfl rfl (by kernel_rfl) (by kernel_rfl) (by kernel_rfl) (fun _ _ _ h => h) (by rfl) ?hyb6 (by assumption) ?restb6
              case hyb6 =>
                intro w hSw
                (try dsimp only at hSw)
                go_simp
                try with_reducible rfl
              try simp only [Act.put, List.setIfInBounds_toArray, List.set_cons_zero, List.set_cons_succ]
              refine take_on 7 29 (v := ?vb7) rfl rfl (by kernel_rfl) (by kernel_rfl) (by kernel_rfl) (fun _ _ _ h => h) (by rfl) ?hyb7 (by assumption) ?restb7
              case hyb7 =>
                intro w hSw
                (try dsimp only at hSw)
                go_simp
                try with_reducible rfl
              try simp only [Act.put, List.setIfInBounds_toArray, List.set_cons_zero, List.set_cons_succ]
              refine take_on 8 30 (v := ?vb8) rfl rfl (by kernel_rfl) (by kernel_rfl) (by kernel_rfl) (fun _ _ _ h => h) (by rfl) ?hyb8 (by assumption) ?restb8
              case hyb8 =>
                intro w hSw
                (try dsimp only at hSw)
                go_simp
                try with_reducible rfl
              try simp only [Act.put, List.setIfInBounds_toArray, List.set_cons_zero, List.set_cons_succ]
              refine take_on 9 31 (v := ?vb9) rfl rfl (by kernel_rfl) (by kernel_rfl) (by kernel_rfl) (fun _ _ _ h => h) (by rfl) ?hyb9 (by assumption) ?restb9
              case hyb9 =>
                intro w hSw
                (try dsimp only at hSw)
                go_simp
                try with_reducible rfl
              try simp only [Act.put, List.setIfInBounds_toArray, List.set_cons_zero, List.set_cons_succ]
              refine take_on 10 32 (v := ?vb10) rfl rfl (by kernel_rfl) (by kernel_rfl) (by kernel_rfl) (fun _ _ _ h => h) (by rfl) ?hyb10 (by assumption) ?restb10
              case hyb10 =>
                intro w hSw
                (try dsimp only at hSw)
                go_simp
                try with_reducible rfl
              try simp only [Act.put, List.setIfInBounds_toArray, List.set_cons_zero, List.set_cons_succ]
              refine take_on 11 33 (v := ?vb11) rfl rfl (by kernel_rfl) (by kernel_rfl) (by kernel_rfl) (fun _ _ _ h => h) (by rfl) ?hyb11 (by assumption) ?restb11
              case hyb11 =>
                intro w hSw
                (try dsimp only at hSw)
                go_simp
                try with_reducible rfl
              try simp only [Act.put, List.setIfInBounds_toArray, List.set_cons_zero, List.set_cons_succ]
              refine take_on 12 34 (v := ?vb12) rfl rfl (by kernel_rfl) (by kernel_rfl) (by kernel_rfl) (fun _ _ _ h => h) (by rfl) ?hyb12 (by assumption) ?restb12
              case hyb12 =>
                intro w hSw
                (try dsimp only at hSw)
                go_simp
                try with_reducible rfl
              try simp only [Act.put, List.setIfInBounds_toArray, List.set_cons_zero, List.set_cons_succ]
              refine take_on 13 35 (v := ?vb13) rfl rfl (by kernel_rfl) (by kernel_rfl) (by kernel_rfl) (fun _ _ _ h => h) (by rfl) ?hyb13 (by assumption) ?restb13
              case hyb13 =>
                intro w hSw
                (try dsimp only at hSw)
                go_simp
                try with_reducible rfl
              try simp only [Act.put, List.setIfInBounds_toArray, List.set_cons_zero, List.set_cons_succ]
              refine take_on 14 36 (v := ?vb14) rfl rfl (by kernel_rfl) (by kernel_rfl) (by kernel_rfl) (fun _ _ _ h => h) (by rfl) ?hyb14 (by assumption) ?restb14
              case hyb14 =>
                intro w hSw
                (try dsimp only at hSw)
                go_simp
                try with_reducible rfl
              try simp only [Act.put, List.setIfInBounds_toArray, List.set_cons_zero, List.set_cons_succ]
              refine take_on 15 37 (v := ?vb15) rfl rfl (by kernel_rfl) (by kernel_rfl) (by kernel_rfl) (fun _ _ _ h => h) (by rfl) ?hyb15 (by assumption) ?restb15
              case hyb15 =>
                intro w hSw
                (try dsimp only at hSw)
                go_simp
                try with_reducible rfl
              try simp only [Act.put, List.setIfInBounds_toArray, List.set_cons_zero, List.set_cons_succ]
              refine take_on 16 38 (v := ?vb16) rfl rfl (by kernel_rfl) (by kernel_rfl) (by kernel_rfl) (fun _ _ _ h => h) (by rfl) ?hyb16 (by assumption) ?restb16
              case hyb16 =>
                intro w hSw
                (try dsimp only at hSw)
                go_simp
                try with_reducible rfl
              try simp only [Act.put, List.setIfInBounds_toArray, List.set_cons_zero, List.set_cons_succ]
              refine take_on 17 39 (v := ?vb17) rfl rfl (by kernel_rfl) (by kernel_rfl) (by kernel_rfl) (fun _ _ _ h => h) (by rfl) ?hyb17 (by assumption) ?restb17
              case hyb17 =>
                intro w hSw
                (try dsimp only at hSw)
                go_simp
                try with_reducible rfl
              try simp only [Act.put, List.setIfInBounds_toArray, List.set_cons_zero, List.set_cons_succ]
              refine take_on 18 40 (v := ?vb18) rfl rfl (by kernel_rfl) (by kernel_rfl) (by kernel_rfl) (fun _ _ _ h => h) (by rfl) ?hyb18 (by assumption) ?restb18
              case hyb18 =>
                intro w hSw
                (try dsimp only at hSw)
                go_simp
                try with_reducible rfl
              try simp only [Act.put, List.setIfInBounds_toArray, List.set_cons_zero, List.set_cons_succ]
              refine take_off 19 41 rfl rfl (by kernel_rfl) (by kernel_rfl) (by kernel_rfl) (fun _ _ _ h => h) (by rfl) (by assumption) ?_
              try simp only [Act.put, List.setIfInBounds_toArray, List.set_cons_zero, List.set_cons_succ]
              refine take_off 20 42 rfl rfl (by kernel_rfl) (by kernel_rfl) (by kernel_rfl) (fun _ _ _ h => h) (by rfl) (by assumption) ?_
              try simp only [Act.put, List.setIfInBounds_toArray, List.set_cons_zero, List.set_cons_succ]
              refine take_off 21 43 rfl rfl (by kernel_rfl) (by kernel_rfl) (by kernel_rfl) (fun _ _ _ h => h) (by rfl) (by assumption) ?_
              try simp only [Act.put, List.setIfInBounds_toArray, List.set_cons_zero, List.set_cons_succ]
              refine take_off 22 44 rfl rfl (by kernel_rfl) (by kernel_rfl) (by kernel_rfl) (fun _ _ _ h => h) (by rfl) (by assumption) ?_
              try simp only [Act.put, List.setIfInBounds_toArray, List.set_cons_zero, List.set_cons_succ]
              refine take_off 23 45 rfl rfl (by kernel_rfl) (by kernel_rfl) (by kernel_rfl) (fun _ _ _ h => h) (by rfl) (by assumption) ?_
              try simp only [Act.put, List.setIfInBounds_toArray, List.set_cons_zero, List.set_cons_succ]
              refine take_off 24 46 rfl rfl (by kernel_rfl) (by kernel_rfl) (by kernel_rfl) (fun _ _ _ h => h) (by rfl) (by assumption) ?_
              try simp only [Act.put, List.setIfInBounds_toArray, List.set_cons_zero, List.set_cons_succ]
              refine take_off 25 47 rfl rfl (by kernel_rfl) (by kernel_rfl) (by kernel_rfl) (fun _ _ _ h => h) (by rfl) (by assumption) ?_
              try simp only [Act.put, List.setIfInBounds_toArray, List.set_cons_zero, List.set_cons_succ]
              refine take_off 26 48 rfl rfl (by kernel_rfl) (by kernel_rfl) (by kernel_rfl) (fun _ _ _ h => h) (by rfl) (by assumption) ?_
              try simp only [Act.put, List.setIfInBounds_toArray, List.set_cons_zero, List.set_cons_succ]
              refine take_off 27 49 rfl rfl (by kernel_rfl) (by kernel_rfl) (by kernel_rfl) (fun _ _ _ h => h) (by rfl) (by assumption) ?_
              try simp only [Act.put, List.setIfInBounds_toArray, List.set_cons_zero, List.set_cons_succ]
              refine take_on 28 50 (v := ?vb28) rfl rfl (by kernel_rfl) (by kernel_rfl) (by kernel_rfl) (fun _ _ _ h => h) (by rfl) ?hyb28 (by assumption) ?restb28
              case hyb28 =>
                intro w hSw
                (try dsimp only at hSw)
                go_simp
                try with_reducible rfl
              try simp only [Act.put, List.setIfInBounds_toArray, List.set_cons_zero, List.set_cons_succ]
              refine wpAnyH_done (by kernel_rfl) ?_ _
              go_wp2_with fail
              refine ⟨⟨k + 1, M2, by go_num, HR.out.below hbq, HDD.out, hkl, HOK.out, HCL.out, fun y hy h1 h2 => ?_, HB.out.trans (hbq.mono HB.out.size)⟩, by simp [intOf]; omega⟩
              rw [HX.out] at hy
              rcases List.mem_append.1 hy with q | q
              · exact HPT.out y q h1 h2
              · simp at q; subst q
                exact absurd h2 (by rw [HBB.out]; decide)
            · have HS := Lib.hid (show ∀ w', Below wq.heap.size wq w' → (w'.cell? ⟨ga, oa + k * 6, none⟩ = some (.int .i64 x.d) ∧ w'.cell? ⟨ga, oa + k * 6 + 2, none⟩ = some (.int .i64 x.e.node) ∧ w'.cell? ⟨ga, oa + k * 6 + 3, none⟩ = some (.bool true) ∧ w'.cell? ⟨gv, ov + i, none⟩ = some (.int .i64 dd)) from fun w' q => ⟨cell_later q c0, cell_later q c2, cell_later q c3, cell_later q cm⟩)
              go_wp2_with fail
              by_cases hin : x.e.node ∈ M2
              · have HIN := Lib.hid (decide_eq_true hin)
                have HINM := Lib.hid hin
                clear hin
                go_region_held3 (fun w' => w'.cell? ⟨ga, oa + k * 6, none⟩ = some (.int .i64 x.d) ∧ w'.cell? ⟨ga, oa + k * 6 + 2, none⟩ = some (.int .i64 x.e.node) ∧ w'.cell? ⟨ga, oa + k * 6 + 3, none⟩ = some (.bool true) ∧ w'.cell? ⟨gv, ov + i, none⟩ = some (.int .i64 dd))
                  (first | exact HS.out _ HB5.out | exact HS.out _ (show Below wq.heap.size wq _ from (by repeat (first | exact Below.refl _ _ | assumption | (refine Below.drew ?_) | (refine below_drewN ?_ _) | (refine Below.alloc ?_ (by simp; done) _) | (refine Below.alloc ?_ (by simp; omega) _)))))
                  (first
                   | (go_at_call 59
                      refine (has10_any wq.drew x.e.node (HR.out.arg.below (Below.refl _ wq).drew) (by unfold maxLen; omega)).mono ?_
                      rintro e w5 ⟨rfl, hb5⟩
                      rw [HIN.out]
                      have HB5 := Lib.hid ((Below.refl _ wq).drew.trans hb5)
                      clear hb5))
                all_goals
                  have hbq := HB5.out
                  go_wp2_with fail
                  refine ⟨⟨k + 1, M2, by go_num, HR.out.below hbq, HDD.out, hkl, HOK.out, HCL.out, fun y hy h1 h2 => ?_, HB.out.trans (hbq.mono HB.out.size)⟩, by simp [intOf]; omega⟩
                  rw [HX.out] at hy
                  rcases List.mem_append.1 hy with q | q
                  · exact HPT.out y q h1 h2
                  · simp at q; subst q
                    exact HINM.out
              · have HIN := Lib.hid (decide_eq_false hin)
                have HINM := Lib.hid hin
                clear hin
                go_region_held3 (fun w' => w'.cell? ⟨ga, oa + k * 6, none⟩ = some (.int .i64 x.d) ∧ w'.cell? ⟨ga, oa + k * 6 + 2, none⟩ = some (.int .i64 x.e.node) ∧ w'.cell? ⟨ga, oa + k * 6 + 3, none⟩ = some (.bool true) ∧ w'.cell? ⟨gv, ov + i, none⟩ = some (.int .i64 dd))
                  (first | exact HS.out _ HB5.out | exact HS.out _ (show Below wq.heap.size wq _ from (by repeat (first | exact Below.refl _ _ | assumption | (refine Below.drew ?_) | (refine below_drewN ?_ _) | (refine Below.alloc ?_ (by simp; done) _) | (refine Below.alloc ?_ (by simp; omega) _)))))
                  (first
                   | (go_at_call 59
                      refine (has10_any wq.drew x.e.node (HR.out.arg.below (Below.refl _ wq).drew) (by unfold maxLen; omega)).mono ?_
                      rintro e w5 ⟨rfl, hb5⟩
                      rw [HIN.out]
                      have HB5 := Lib.hid ((Below.refl _ wq).drew.trans hb5)
                      clear hb5))
                all_goals
                  have HR5 := Lib.hid (HR.out.below HB5.out)
                  have HBW5 := Lib.hid (HB.out.trans (HB5.out.mono HB.out.size))
                  have c2 := cell_later HB5.out c2
                  go_wp2_with (first
                    | (refine app_on EInt.laid rfl _ _ 54 54 Tryz.underlying54 Tryz.underlying54 rfl _ M2 rfl ((HR5.out).alloc _) ((HBW5.out).alloc (HBW5.out).size _) (Nat.le_refl _) _ [x.e.node] rfl ?e1 ?e2 ?e3 ?_
                       case e1 => exact Arg.blk (m_alloc _ _ _ rfl) [x.e.node] rfl 1
                       case e2 => (show (M2.length + 1) * 8 ≤ _; omega)
                       case e3 => (show M2.length + 1 ≤ maxLen; unfold maxLen; omega)
                       intro v6 w6 hr6 hb6
                       have HR6 := Lib.hid hr6
                       have HB6 := Lib.hid hb6
                       obtain ⟨a6, c6', rfl⟩ := hr6.shape
                       clear hr6 hb6))
                  refine ⟨⟨k + 1, M2 ++ [x.e.node], by go_num, ?_, ?_, hkl, HOK.out.snoc HXM.out HXD.out (List.mem_of_getElem? HDD.out) HBB.out HINM.out, fun j d hj hjd y hy h1 h2 => ?_, fun y hy h1 h2 => ?_, HB6.out⟩, by simp [intOf]; omega⟩
                  · have z := HR6.out
                    rw [show (M2 ++ [x.e.node]).length = M2.length + 1 from by simp] at z
                    exact z
                  · rw [List.getElem?_append_left (List.getElem?_eq_some_iff.1 HDD.out).1]; exact HDD.out
                  · have hjl : j < M2.length := by have := (List.getElem?_eq_some_iff.1 HDD.out).1; omega
                    rw [List.getElem?_append_left hjl] at hjd
                    exact List.mem_append_left _ (HCL.out j d hj hjd y hy h1 h2)
                  · rw [HX.out] at hy
                    rcases List.mem_append.1 hy with q | q
                    · exact List.mem_append_left _ (HPT.out y q h1 h2)
                    · simp at q; subst q
                      simp
          · have e1 : (x.d == dd) = false := by simpa using hxd
            have HS := Lib.hid (show ∀ w', Below wq.heap.size wq w' → (w'.cell? ⟨ga, oa + k * 6, none⟩ = some (.int .i64 x.d) ∧ w'.cell? ⟨ga, oa + k * 6 + 2, none⟩ = some (.int .i64 x.e.node) ∧ w'.cell? ⟨ga, oa + k * 6 + 3, none⟩ = some (.bool bb) ∧ w'.cell? ⟨gv, ov + i, none⟩ = some (.int .i64 dd)) from fun w' q => ⟨cell_later q c0, cell_later q c2, cell_later q c3, cell_later q cm⟩)
            go_wp2_with fail
            refine wp_region_held_drew (S := fun w' => w'.cell? ⟨ga, oa + k * 6, none⟩ = some (.int .i64 x.d) ∧ w'.cell? ⟨ga, oa + k * 6 + 2, none⟩ = some (.int .i64 x.e.node) ∧ w'.cell? ⟨ga, oa + k * 6 + 3, none⟩ = some (.bool bb) ∧ w'.cell? ⟨gv, ov + i, none⟩ = some (.int .i64 dd)) (by kernel_rfl) (HS.out _ (Below.refl _ wq).drew) (fun hHeld => ?_)
            refine take_on 0 22 (v := ?va0) rfl rfl (by kernel_rfl) (by kernel_rfl) (by kernel_rfl) (fun _ _ _ h => h) (by rfl) ?hya0 (by assumption) ?resta0
            case hya0 =>
              intro w hSw
              (try dsimp only at hSw)
              go_simp
              try with_reducible rfl
            try simp only [Act.put, List.setIfInBounds_toArray, List.set_cons_zero, List.set_cons_succ]
            refine take_on 1 23 (v := ?va1) rfl rfl (by kernel_rfl) (by kernel_rfl) (by kernel_rfl) (fun _ _ _ h => h) (by rfl) ?hya1 (by assumption) ?resta1
            case hya1 =>
              intro w hSw
              (try dsimp only at hSw)
              go_simp
              try with_reducible rfl
            try simp only [Act.put, List.setIfInBounds_toArray, List.set_cons_zero, List.set_cons_succ]
            refine take_on 2 24 (v := ?va2) rfl rfl (by kernel_rfl) (by kernel_rfl) (by kernel_rfl) (fun _ _ _ h => h) (by rfl) ?hya2 (by assumption) ?resta2
            case hya2 =>
              intro w hSw
              (try dsimp only at hSw)
              go_simp
              try with_reducible rfl
            try simp only [Act.put, List.setIfInBounds_toArray, List.set_cons_zero, List.set_cons_succ]
            refine take_on 3 25 (v := ?va3) rfl rfl (by kernel_rfl) (by kernel_rfl) (by kernel_rfl) (fun _ _ _ h => h) (by rfl) ?hya3 (by assumption) ?resta3
            case hya3 =>
              intro w hSw
              (try dsimp only at hSw)
              go_simp
              try with_reducible rfl
            try simp only [Act.put, List.setIfInBounds_toArray, List.set_cons_zero, List.set_cons_succ]
            refine take_on 4 26 (v := ?va4) rfl rfl (by kernel_rfl) (by kernel_rfl) (by kernel_rfl) (fun _ _ _ h => h) (by rfl) ?hya4 (by assumption) ?resta4
            case hya4 =>
              intro w hSw
              (try dsimp only at hSw)
              go_simp
              try with_reducible rfl
            try simp only [Act.put, List.setIfInBounds_toArray, List.set_cons_zero, List.set_cons_succ]
            refine take_on 5 27 (v := ?va5) rfl rfl (by kernel_rfl) (by kernel_rfl) (by kernel_rfl) (fun _ _ _ h => h) (by rfl) ?hya5 (by assumption) ?resta5
            case hya5 =>
              intro w hSw
              (try dsimp only at hSw)
              go_simp
              try with_reducible rfl
            try simp only [Act.put, List.setIfInBounds_toArray, List.set_cons_zero, List.set_cons_succ]
            refine take_on 6 28 (v := ?va6) rfl rfl (by kernel_rfl) (by kernel_rfl) (by kernel_rfl) (fun _ _ _ h => h) (by rfl) ?hya6 (by assumption) ?resta6
            case hya6 =>
              intro w hSw
              (try dsimp only at hSw)
              go_simp
              try with_reducible rfl
            try simp only [Act.put, List.setIfInBounds_toArray, List.set_cons_zero, List.set_cons_succ]
            refine take_on 7 29 (v := ?va7) rfl rfl (by kernel_rfl) (by kernel_rfl) (by kernel_rfl) (fun _ _ _ h => h) (by rfl) ?hya7 (by assumption) ?resta7
            case hya7 =>
              intro w hSw
              (try dsimp only at hSw)
              go_simp
              try with_reducible rfl
            try simp only [Act.put, List.setIfInBounds_toArray, List.set_cons_zero, List.set_cons_succ]
            refine take_on 8 30 (v := ?va8) rfl rfl (by kernel_rfl) (by kernel_rfl) (by kernel_rfl) (fun _ _ _ h => h) (by rfl) ?hya8 (by assumption) ?resta8
            case hya8 =>
              intro w hSw
              (try dsimp only at hSw)
              go_simp
              try with_reducible rfl
            try simp only [Act.put, List.setIfInBounds_toArray, List.set_cons_zero, List.set_cons_succ]
            refine take_on 9 31 (v := ?va9) rfl rfl (by kernel_rfl) (by kernel_rfl) (by kernel_rfl) (fun _ _ _ h => h) (by rfl) ?hya9 (by assumption) ?resta9
            case hya9 =>
              intro w hSw
              (try dsimp only at hSw)
              go_simp
              try with_reducible rfl
            try simp only [Act.put, List.setIfInBounds_toArray, List.set_cons_zero, List.set_cons_succ]
            refine take_on 10 32 (v := ?va10) rfl rfl (by kernel_rfl) (by kernel_rfl) (by kernel_rfl) (fun _ _ _ h => h) (by rfl) ?hya10 (by assumption) ?resta10
            case hya10 =>
              intro w hSw
              (try dsimp only at hSw)
              go_simp
              try with_reducible rfl
            try simp only [Act.put, List.setIfInBounds_toArray, List.set_cons_zero, List.set_cons_succ]
            refine take_off 11 33 rfl rfl (by kernel_rfl) (by kernel_rfl) (by kernel_rfl) (fun _ _ _ h => h) (by rfl) (by assumption) ?_
            try simp only [Act.put, List.setIfInBounds_toArray, List.set_cons_zero, List.set_cons_succ]
            refine take_off 12 34 rfl rfl (by kernel_rfl) (by kernel_rfl) (by kernel_rfl) (fun _ _ _ h => h) (by rfl) (by assumption) ?_
            try simp only [Act.put, List.setIfInBounds_toArray, List.set_cons_zero, List.set_cons_succ]
            refine take_off 13 35 rfl rfl (by kernel_rfl) (by kernel_rfl) (by kernel_rfl) (fun _ _ _ h => h) (by rfl) (by assumption) ?_
            try simp only [Act.put, List.setIfInBounds_toArray, List.set_cons_zero, List.set_cons_succ]
            refine take_off 14 36 rfl rfl (by kernel_rfl) (by kernel_rfl) (by kernel_rfl) (fun _ _ _ h => h) (by rfl) (by assumption) ?_
            try simp only [Act.put, List.setIfInBounds_toArray, List.set_cons_zero, List.set_cons_succ]
            refine take_off 15 37 rfl rfl (by kernel_rfl) (by kernel_rfl) (by kernel_rfl) (fun _ _ _ h => h) (by rfl) (by assumption) ?_
            try simp only [Act.put, List.setIfInBounds_toArray, List.set_cons_zero, List.set_cons_succ]
            refine take_off 16 38 rfl rfl (by kernel_rfl) (by kernel_rfl) (by kernel_rfl) (fun _ _ _ h => h) (by rfl) (by assumption) ?_
            try simp only [Act.put, List.setIfInBounds_toArray, List.set_cons_zero, List.set_cons_succ]
            refine take_on 17 39 (v := ?va17) rfl rfl (by kernel_rfl) (by kernel_rfl) (by kernel_rfl) (fun _ _ _ h => h) (by rfl) ?hya17 (by assumption) ?resta17
            case hya17 =>
              intro w hSw
              (try dsimp only at hSw)
              go_simp
              try with_reducible rfl
            try simp only [Act.put, List.setIfInBounds_toArray, List.set_cons_zero, List.set_cons_succ]
            refine take_on 18 40 (v := ?va18) rfl rfl (by kernel_rfl) (by kernel_rfl) (by kernel_rfl) (fun _ _ _ h => h) (by rfl) ?hya18 (by assumption) ?resta18
            case hya18 =>
              intro w hSw
              (try dsimp only at hSw)
              go_simp
              try with_reducible rfl
            try simp only [Act.put, List.setIfInBounds_toArray, List.set_cons_zero, List.set_cons_succ]
            refine take_off 19 41 rfl rfl (by kernel_rfl) (by kernel_rfl) (by kernel_rfl) (fun _ _ _ h => h) (by rfl) (by assumption) ?_
            try simp only [Act.put, List.setIfInBounds_toArray, List.set_cons_zero, List.set_cons_succ]
            refine take_off 20 42 rfl rfl (by kernel_rfl) (by kernel_rfl) (by kernel_rfl) (fun _ _ _ h => h) (by rfl) (by assumption) ?_
            try simp only [Act.put, List.setIfInBounds_toArray, List.set_cons_zero, List.set_cons_succ]
            refine take_off 21 43 rfl rfl (by kernel_rfl) (by kernel_rfl) (by kernel_rfl) (fun _ _ _ h => h) (by rfl) (by assumption) ?_
            try simp only [Act.put, List.setIfInBounds_toArray, List.set_cons_zero, List.set_cons_succ]
            refine take_off 22 44 rfl rfl (by kernel_rfl) (by kernel_rfl) (by kernel_rfl) (fun _ _ _ h => h) (by rfl) (by assumption) ?_
            try simp only [Act.put, List.setIfInBounds_toArray, List.set_cons_zero, List.set_cons_succ]
            refine take_off 23 45 rfl rfl (by kernel_rfl) (by kernel_rfl) (by kernel_rfl) (fun _ _ _ h => h) (by rfl) (by assumption) ?_
            try simp only [Act.put, List.setIfInBounds_toArray, List.set_cons_zero, List.set_cons_succ]
            refine take_off 24 46 rfl rfl (by kernel_rfl) (by kernel_rfl) (by kernel_rfl) (fun _ _ _ h => h) (by rfl) (by assumption) ?_
            try simp only [Act.put, List.setIfInBounds_toArray, List.set_cons_zero, List.set_cons_succ]
            refine take_off 25 47 rfl rfl (by kernel_rfl) (by kernel_rfl) (by kernel_rfl) (fun _ _ _ h => h) (by rfl) (by assumption) ?_
            try simp only [Act.put, List.setIfInBounds_toArray, List.set_cons_zero, List.set_cons_succ]
            refine take_off 26 48 rfl rfl (by kernel_rfl) (by kernel_rfl) (by kernel_rfl) (fun _ _ _ h => h) (by rfl) (by assumption) ?_
            try simp only [Act.put, List.setIfInBounds_toArray, List.set_cons_zero, List.set_cons_succ]
            refine take_off 27 49 rfl rfl (by kernel_rfl) (by kernel_rfl) (by kernel_rfl) (fun _ _ _ h => h) (by rfl) (by assumption) ?_
            try simp only [Act.put, List.setIfInBounds_toArray, List.set_cons_zero, List.set_cons_succ]
            refine take_on 28 50 (v := ?va28) rfl rfl (by kernel_rfl) (by kernel_rfl) (by kernel_rfl) (fun _ _ _ h => h) (by rfl) ?hya28 (by assumption) ?resta28
            case hya28 =>
              intro w hSw
              (try dsimp only at hSw)
              go_simp
              try with_reducible rfl
            try simp only [Act.put, List.setIfInBounds_toArray, List.set_cons_zero, List.set_cons_succ]
            refine wpAnyH_done (by kernel_rfl) ?_ _
            go_wp2_with fail
            refine ⟨⟨k + 1, M2, by go_num, HR.out.below hbq, HDD.out, hkl, HOK.out, HCL.out, fun y hy h1 h2 => ?_, HB.out.trans (hbq.mono HB.out.size)⟩, by simp [intOf]; omega⟩
            rw [HX.out] at hy
            rcases List.mem_append.1 hy with q | q
            · exact HPT.out y q h1 h2
            · simp at q; subst q
              exact absurd h1 hxd
        · have ek : k = all.length := by omega
          subst ek
          have i2 : ¬ ((all.length : Int) < all.length) := by omega
          rw [List.take_length] at hpt
          have hil := (List.getElem?_eq_some_iff.1 hdd).1
          have hsto : ReachO w all (.slice av2 M2.length cv2) (.int .i64 ((i + 1 : Nat) : Int)) wq := by
            refine ⟨i + 1, M2, rfl, hr, hil, hok, fun j d hj hjd => ?_, hb⟩
            by_cases e : j = i
            · subst e
              rw [hdd] at hjd; cases hjd
              exact hpt
            · exact hcl j d (by omega) hjd
          have HSTO := Lib.hid hsto
          clear hr hok hcl hpt hb hsto hdd
          go_wp2_with fail
          exact ⟨by have := HSTO.out; push_cast at this; exact this, by simp [intOf]; omega⟩
    · have ei : i = M.length := by omega
      subst ei
      have i2 : ¬ ((M.length : Int) < M.length) := by omega
      have HR := Lib.hid hr
      have HBB := Lib.hid hb
      have HOK := Lib.hid hok
      have HCL := Lib.hid hcl
      clear hr hok hcl hb
      have hclos : ∀ d ∈ M, ∀ x ∈ all, x.d = d → x.e.dir = true → x.e.node ∈ M := fun d hd x hx h1 h2 => by
        obtain ⟨j, hj⟩ := List.getElem?_of_mem hd
        exact HCL.out j d (List.getElem?_eq_some_iff.1 hj).1 hj x hx h1 h2
      have HCLO := Lib.hid hclos
      clear hclos
      go_wp2_with fail
      go_loopw [8] (fun iv wq => ∃ i : Nat, iv = .int .i64 i ∧ i ≤ there.length ∧ (∀ k n, k < i → there[k]? = some n → n ∈ M) ∧ Below wr.heap.size wr wq) (fun iv _ => there.length - (intOf iv).toNat)
      case atStart => exact ⟨0, rfl, Nat.zero_le _, fun k n h => absurd h (Nat.not_lt_zero _), Below.refl _ _⟩
      case round =>
        rename World => wq
        obtain ⟨i, rfl, hi, hall, hb⟩ := hrel
        have HALL := Lib.hid hall
        have HB := Lib.hid hb
        have HRQ := Lib.hid (HR.out.below hb)
        clear hall hb
        by_cases hil : i < there.length
        · have i1 : (i : Int) < there.length := by omega
          obtain ⟨n, hn⟩ : ∃ n, there[i]? = some n := ⟨_, List.getElem?_eq_getElem hil⟩
          obtain ⟨gt, ot, rfl, ct⟩ := int_cell (HT.out.below (HBB.out.trans (HB.out.mono HBB.out.size))) i n hn
          have HN := Lib.hid hn
          clear hn
          have HHAS := Lib.hid (fun (W : World) (hb : Below wq.heap.size wq W) => has10_any W n (HRQ.out.arg.below hb) (by unfold maxLen; omega))
          go_wp2_with fail
          refine (HHAS.out _ (Below.refl _ _)).mono ?_
          rintro e w5 ⟨rfl, hb5⟩
          have HB5 := Lib.hid (HB.out.trans (hb5.mono HB.out.size))
          clear hb5
          by_cases hin : n ∈ M
          · have hdc : decide (n ∈ M) = true := decide_eq_true hin
            rw [hdc]
            have HIN := Lib.hid hin
            clear hin hdc
            go_wp2_with fail
            refine ⟨⟨i + 1, by go_num, hil, fun k m hk hm => ?_, HB5.out⟩, by simp [intOf]; omega⟩
            by_cases ek : k = i
            · subst ek
              rw [HN.out] at hm; cases hm; exact HIN.out
            · exact HALL.out k m (by omega) hm
          · have hdc : decide (n ∈ M) = false := decide_eq_false hin
            rw [hdc]
            have HIN := Lib.hid hin
            clear hin hdc
            go_wp2_with fail
            go_ret
            exact ⟨M, ret_bool (decide_eq_false (fun q => HIN.out (q n (List.mem_of_getElem? HN.out)))).symm, HOK.out, HCLO.out, HBB.out.trans (HB5.out.mono HBB.out.size)⟩
        · have ei : i = there.length := by omega
          subst ei
          have i2 : ¬ ((there.length : Int) < there.length) := by omega
          go_wp2_with fail
          go_ret
          refine ⟨M, ret_bool (decide_eq_true (fun n q => ?_)).symm, HOK.out, HCLO.out, HBB.out.trans (HB.out.mono HBB.out.size)⟩
          obtain ⟨k, hk⟩ := List.getElem?_of_mem q
          exact HALL.out k n (List.getElem?_eq_some_iff.1 hk).1 hk
end Go.Proofs.YtolilbcpfdnkjaaGreat

/- TreeMakes, in plain Lean: what the reference asks of entries holds just if they make a tree. -/
namespace Go.Proofs.YtolilbcpfdnkjaaGreat
open Go.RowKit
set_option linter.unusedSimpArgs false
set_option linter.unusedVariables false
/-- Two items that do not meet. -/
def Apart (a b : Itm) : Prop := a.e.node ≠ b.e.node ∧ a.e.cookie ≠ b.e.cookie ∧ ¬ (a.d = b.d ∧ a.e.name = b.e.name)
/-- An item that passes. -/
def ItmOk (cookie : Int) (there : List Int) (i : Itm) : Prop := mayErr i.e.name i.e.short = 0 ∧ 1 ≤ i.e.node ∧ i.e.node ≤ 200 ∧ 1 ≤ i.e.cookie ∧ i.e.cookie < cookie ∧ decide (i.e.node ∈ there) = i.e.dir
def Rising (l : List Ent) : Prop := ∀ i x y, l[i]? = some x → l[i + 1]? = some y → x.cookie < y.cookie
/-- What the reference asks: K are the keys that are looked at. -/
structure Asked (cookie : Int) (D : List (Int × DE)) (K : List Int) : Prop where
  a : ∀ n ∈ K, Rising (dget D n)
  b : 1 ≤ cookie ∧ 0 ∈ mkeys D
  c : ∀ i ∈ itemsOf D K, ItmOk cookie (mkeys D) i
  d : (itemsOf D K).Pairwise Apart
section
variable {cookie : Int} {D : List (Int × DE)} {L : List Itm} {K M : List Int}
theorem asked_tree (hn : (mkeys D).Nodup) (hck : cookie ≤ 9223372036854775807) (hK : ∀ n ∈ mkeys D, n ∈ K) (h : Asked cookie D K) (hB : Bfs (itemsOf D K) M) (hcl : ∀ d ∈ M, ∀ x ∈ itemsOf D K, x.d = d → x.e.dir = true → x.e.node ∈ M)
    (hre : ∀ n ∈ mkeys D, n ∈ M) : ∃ L, TInv L cookie ∧ Says D L := by
  have hMk : ∀ d ∈ M, d ∈ mkeys D := fun d hd => by
    obtain ⟨P, Q, e⟩ := List.append_of_mem hd
    rcases hB.ch P d Q e with q | ⟨x, hx, _, h2, h3⟩
    · rw [q]; exact h.b.2
    · have := (h.c x hx).2.2.2.2.2
      rw [h2, h3] at this
      exact of_decide_eq_true this
  have hitem : ∀ d ∈ mkeys D, ∀ e ∈ dget D d, (⟨d, e⟩ : Itm) ∈ itemsOf D K := fun d hd e he => mem_itemsOf.2 ⟨hK d hd, he⟩
  have hperm : M.Perm (mkeys D) := (List.perm_ext_iff_of_nodup hB.nd hn).2 (fun d => ⟨hMk d, hre d⟩)
  have hIn : (itemsOf D K).Nodup := h.d.imp (fun q e => q.1 (by rw [e]))
  have hpart : ∀ d ∈ mkeys D, ((dget D d).map (fun e => (⟨d, e⟩ : Itm))).Pairwise Apart := fun d hd => by
    obtain ⟨P, Q, e⟩ := List.append_of_mem (hK d hd)
    have := h.d
    rw [e] at this
    unfold itemsOf at this
    rw [List.flatMap_append, List.flatMap_cons, List.pairwise_append, List.pairwise_append] at this
    exact this.2.1.1
  have hdn : ∀ d ∈ M, (dget D d).Nodup := fun d hd => (List.pairwise_map.1 (hpart d (hMk d hd))).imp (fun q e => q.1 (by rw [e]))
  have hIp : (itemsOf D M).Perm (itemsOf D K) := by
    refine (List.perm_ext_iff_of_nodup (items_nodup hB.nd hdn) hIn).2 (fun i => ?_)
    rw [mem_itemsOf, mem_itemsOf]
    constructor
    · rintro ⟨h1, h2⟩; exact ⟨hK _ (hMk _ h1), h2⟩
    · rintro ⟨h1, h2⟩
      refine ⟨hre _ ?_, h2⟩
      by_cases c : i.d ∈ mkeys D
      · exact c
      · unfold dget at h2
        rw [(mget_none_iff D _).2 c] at h2
        cases h2
  have hap : (itemsOf D M).Pairwise Apart := (hIp.pairwise_iff (fun {x y} q => ⟨q.1.symm, q.2.1.symm, fun z => q.2.2 ⟨z.1.symm, z.2.symm⟩⟩)).2 h.d
  have hok : ∀ d ∈ M, ∀ e ∈ dget D d, ItmOk cookie (mkeys D) ⟨d, e⟩ := fun d hd e he => h.c _ (hitem d (hMk d hd) e he)
  have hW : Whole cookie D M := by
    refine ⟨hperm, ⟨fun d hd => ⟨?_, ?_, fun e he => ?_⟩, fun d hd e he hx => hcl d hd _ (hitem d (hMk d hd) e he) rfl hx, fun P d Q e => ?_⟩, ?_, ?_, ?_, ?_, h.b.1, fun d hd => ?_⟩
    · intro i x y hx hy
      have h1 := h.a d (hK d (hMk d hd)) i x y hx hy
      have h2 := hok d hd x (List.mem_of_getElem? hx)
      have h3 := hok d hd y (List.mem_of_getElem? hy)
      obtain ⟨_, _, _, p1, p2, _⟩ := h2
      obtain ⟨_, _, _, p3, p4, _⟩ := h3
      dsimp only at p1 p2 p3 p4
      unfold ckDiff wrap64; omega
    · exact List.pairwise_map.2 ((List.pairwise_map.1 (hpart d (hMk d hd))).imp (fun q e => q.2.2 ⟨rfl, e⟩))
    · obtain ⟨q1, q2, q3, q4, q5, q6⟩ := hok d hd e he
      dsimp only at q1 q2 q3 q4 q5 q6
      refine ⟨?_, q4, q5⟩
      unfold entOk1
      rw [q1, decide_eq_true q2, decide_eq_true q3]
      have : (mget D e.node).isSome = e.dir := by
        rw [← q6]
        by_cases c : e.node ∈ mkeys D
        · rw [decide_eq_true c]
          cases hm : mget D e.node with
          | none => exact absurd c ((mget_none_iff D _).1 hm)
          | some v => rfl
        · rw [decide_eq_false c, (mget_none_iff D _).2 c]; rfl
      rw [this]; simp
    · rcases hB.ch P d Q e with q | ⟨x, hx, h1, h2, h3⟩
      · exact Or.inl (by simp [q])
      · refine Or.inr (List.mem_flatMap.2 ⟨x.d, h1, ?_⟩)
        rw [← h3]
        exact List.mem_map_of_mem (f := fun e : Ent => e.node) (mem_itemsOf.1 hx).2
    · have h1 : ((itemsOf D M).map (fun i => i.e.node)).Nodup := List.pairwise_map.2 (hap.imp (fun q => q.1))
      rw [items_map (fun e => e.node)] at h1
      exact h1
    · intro n hn'
      obtain ⟨d, hd, h1⟩ := List.mem_flatMap.1 hn'
      obtain ⟨e, he, rfl⟩ := List.mem_map.1 h1
      have := hok d hd e he
      exact ⟨this.2.1, this.2.2.1⟩
    · have h1 : ((itemsOf D M).map (fun i => i.e.cookie)).Nodup := List.pairwise_map.2 (hap.imp (fun q => q.2.1))
      rw [items_map (fun e => e.cookie)] at h1
      exact h1
    · obtain ⟨T, hT⟩ := hB.hd
      rw [hT]; exact List.mem_cons_self ..
    · obtain ⟨P, Q, e⟩ := List.append_of_mem hd
      rcases hB.ch P d Q e with q | ⟨x, hx, h1, h2, h3⟩
      · exact Or.inl q
      · have hxd : x.d ∈ M := by rw [e]; exact List.mem_append_left _ h1
        refine Or.inr (List.mem_map.2 ⟨x.e, List.mem_filter.2 ⟨List.mem_flatMap.2 ⟨x.d, hxd, (mem_itemsOf.1 hx).2⟩, h2⟩, h3⟩)
  obtain ⟨L, hi, hdir, hent, hmem⟩ := tree_of hW hn hck
  refine ⟨L, hi, fun d hd => ?_, fun d hd => ?_⟩
  · have hv := (hdir d).1 hd
    obtain ⟨x, hx, rfl⟩ := List.mem_map.1 (hMk d hv)
    refine ⟨x.2.1, ?_⟩
    rw [mget_of_mem hn hx, hent, if_pos hv, dget_mem hn hx]
  · refine (mget_none_iff D d).2 (fun q => ?_)
    have := (hdir d).2 (hre d q)
    rw [hd] at this; cases this
theorem tree_asked (hn : (mkeys D).Nodup) (hK : ∀ n ∈ mkeys D, n ∈ K) (hKn : K.Nodup) (hi : TInv L cookie) (hs : Says D L) : Asked cookie D K := by
  have hdg : ∀ d, dget D d = entries L d := fun d => by
    cases c : isDirB L d with
    | true => exact hs.get c
    | false =>
      unfold dget
      rw [hs.d2 d c, entries_none hi c]; rfl
  have hmem : ∀ i, i ∈ itemsOf D K → i ∈ L := fun i h => by
    obtain ⟨_, h2⟩ := mem_itemsOf.1 h
    rw [hdg] at h2
    exact mem_entries'.1 h2
  have hp : ∀ d, (entries L d).Pairwise (fun a b => a.cookie < b.cookie) := fun d => by
    unfold entries
    exact List.pairwise_map.2 ((List.pairwise_map.1 hi.ck).sublist List.filter_sublist)
  refine ⟨fun n _ => ?_, ⟨hi.nx, (keys_says hs 0).2 (by unfold isDirB; simp)⟩, fun i h => ?_, ?_⟩
  · rw [hdg]
    intro i x y hx hy
    obtain ⟨hxl, hx⟩ := List.getElem?_eq_some_iff.1 hx
    obtain ⟨hyl, hy⟩ := List.getElem?_eq_some_iff.1 hy
    have := List.pairwise_iff_getElem.1 (hp n) i (i + 1) hxl hyl (by omega)
    rw [hx, hy] at this; exact this
  · have hL := hmem i h
    refine ⟨hi.gd i hL, (hi.rg i hL).1, (hi.rg i hL).2, (hi.cb i hL).1, (hi.cb i hL).2, ?_⟩
    cases hd : i.e.dir with
    | true =>
      exact decide_eq_true ((keys_says hs _).2 ((isDirB_iff L _).2 (Or.inr ⟨i, hL, rfl, hd⟩)))
    | false =>
      refine decide_eq_false (fun q => ?_)
      have := dir_item hi hL ((keys_says hs _).1 q)
      rw [hd] at this; cases this
  · have hnd : (itemsOf D K).Nodup := items_nodup hKn (fun d _ => by
      rw [hdg]
      exact (List.pairwise_map.1 (hi.un d)).imp (fun h e => h (by rw [e])))
    refine List.Pairwise.imp_of_mem (fun {a b} ha hb hne => ?_) hnd
    have h1 := hmem a ha
    have h2 := hmem b hb
    refine ⟨fun e => hne (item_node hi h1 h2 e), fun e => hne (item_cookie hi h1 h2 e), fun ⟨e1, e2⟩ => ?_⟩
    have ha' := mem_entries'.2 (show (⟨a.d, a.e⟩ : Itm) ∈ L from h1)
    have hb' := mem_entries'.2 (show (⟨b.d, b.e⟩ : Itm) ∈ L from h2)
    rw [← e1] at hb'
    have hun := List.pairwise_map.1 (hi.un a.d)
    obtain ⟨p, hp⟩ := List.mem_iff_getElem?.1 ha'
    obtain ⟨q, hq⟩ := List.mem_iff_getElem?.1 hb'
    have hx : ((entries L a.d).map (·.name))[p]? = some a.e.name := by rw [List.getElem?_map, hp]; rfl
    have hy : ((entries L a.d).map (·.name))[q]? = some a.e.name := by rw [List.getElem?_map, hq, e2]; rfl
    have := (List.getElem?_inj (List.getElem?_eq_some_iff.1 hx).1 (hi.un a.d)).1 (hx.trans hy.symm)
    subst this
    rw [hp] at hq
    have he := Option.some.inj hq
    refine hne ?_
    cases a; cases b
    dsimp only at e1 he
    rw [e1, he]
/-- Whatever is closed and holds the root holds each directory. -/
theorem tree_reached (hi : TInv L cookie) (hs : Says D L) (hK : ∀ n ∈ mkeys D, n ∈ K) (h0 : 0 ∈ M) (hcl : ∀ d ∈ M, ∀ x ∈ itemsOf D K, x.d = d → x.e.dir = true → x.e.node ∈ M) : ∀ n ∈ mkeys D, n ∈ M := by
  have key : ∀ a, Under L 0 a → isDirB L a = true → a ∈ M := by
    intro a h
    induction h with
    | refl => intro _; exact h0
    | step i hii hu ih =>
      intro hd
      have hpd := hi.pa i hii
      have := ih hpd
      refine hcl i.d this i ?_ rfl (dir_item hi hii hd)
      refine mem_itemsOf.2 ⟨hK _ ((keys_says hs _).2 hpd), ?_⟩
      rw [hs.get hpd]; exact mem_entries'.2 hii
  intro n hn
  have hd := (keys_says hs n).1 hn
  rcases (isDirB_iff L n).1 hd with q | ⟨i, hii, h1, h2⟩
  · rw [q]; exact h0
  · rw [← h1] at hd ⊢
    exact key _ (.step i hii (under_root hi i hii)) hd
end
end Go.Proofs.YtolilbcpfdnkjaaGreat
