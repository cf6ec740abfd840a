/- deeds as a law's argument; Few, Op, Do of a deed (seat Z; not yet built). -/
import Derived.Test.YtolilbcpfdnkjaaGreatZADZ
import Derived.Test.YtolilbcpfdnkjaaGreatZAUB
namespace Go.Proofs.YtolilbcpfdnkjaaGreat
open Go.RowKit
set_option linter.unusedSimpArgs false
set_option linter.unusedVariables false
def EDd : EK DD := ⟨45, 7, 72, fun x => [.int .i64 x.k, .int .i64 x.d, .int .i64 x.t, .string x.n, .string x.a, .bool x.is, .int .i64 x.s], fun _ => rfl, fun _ u hu => by simp at hu; rcases hu with rfl | rfl | rfl | rfl | rfl | rfl | rfl <;> rfl, by decide⟩
theorem EDd.laid : EDd.Laid := EK.laid (z := .agg #[.int .i64 0, .int .i64 0, .int .i64 0, .string ⟨#[]⟩, .string ⟨#[]⟩, .bool false, .int .i64 0]) (by kernel_rfl) (by decide)
def DD.Small (o : DD) : Prop := o.n.size ≤ 300 ∧ o.a.size ≤ 300
def FewD (l : List DD) (n : Int) (v : Value) : Prop := ∃ b, v = .bool b ∧ (b = true → (l.length : Int) ≤ n ∧ ∀ o ∈ l.take 500, o.Small)
theorem dd_cells {w : World} {a : Option Addr} {n c : Nat} {l : List DD} (h : Arg EDd w (.slice a n c) l) (i : Nat) (o : DD) (ho : l[i]? = some o) : ∃ g off, a = some ⟨g, off, none⟩ ∧ n = l.length ∧
    w.cell? ⟨g, off + i * 7, none⟩ = some (.int .i64 o.k) ∧ w.cell? ⟨g, off + i * 7 + 1, none⟩ = some (.int .i64 o.d) ∧ w.cell? ⟨g, off + i * 7 + 2, none⟩ = some (.int .i64 o.t) ∧ w.cell? ⟨g, off + i * 7 + 3, none⟩ = some (.string o.n) ∧
    w.cell? ⟨g, off + i * 7 + 4, none⟩ = some (.string o.a) ∧ w.cell? ⟨g, off + i * 7 + 5, none⟩ = some (.bool o.is) ∧ w.cell? ⟨g, off + i * 7 + 6, none⟩ = some (.int .i64 o.s) := by
  obtain ⟨g, off, cap, e, hc⟩ := h.cells (by intro q; rw [q] at ho; simp at ho)
  simp only [Value.slice.injEq] at e
  obtain ⟨rfl, rfl, rfl⟩ := e
  exact ⟨g, off, rfl, rfl, hc i o ho 0 (by decide), hc i o ho 1 (by decide), hc i o ho 2 (by decide), hc i o ho 3 (by decide), hc i o ho 4 (by decide), hc i o ho 5 (by decide), hc i o ho 6 (by decide)⟩
set_option maxRecDepth 100000 in
set_option maxHeartbeats 2000000 in
theorem few11_any (w : World) (v : Value) (l : List DD) (n : Int) (h : Arg EDd w v l) (ml : l.length ≤ maxLen) (hok : ∀ o ∈ l, o.n.size ≤ maxLen ∧ o.a.size ≤ maxLen) :
    Calls Tryz.prog 18 #[v, .int .i64 n] w fun e w' => ∃ b, e = .returned b ∧ FewD l n b ∧ Below w.heap.size w w' := by
  obtain ⟨va, vc, rfl⟩ := h.shape
  have A := Lib.hid h
  have OK := Lib.hid hok
  unfold maxLen at ml
  clear h hok
  go_enter Tryz.func18, Tryz.ntmps18
  go_wp2_with fail
  go_loopw [5] (fun iv wr => ∃ i : Nat, iv = .int .i64 i ∧ i ≤ l.length ∧ i ≤ 500 ∧ (∀ k o, k < i → l[k]? = some o → o.Small) ∧ wr = w) (fun iv _ => l.length - (intOf iv).toNat)
  case atStart => exact ⟨0, rfl, Nat.zero_le _, Nat.zero_le _, fun k o hk => absurd hk (Nat.not_lt_zero _), rfl⟩
  case round =>
    obtain ⟨i, rfl, hi, hi100, hall, rfl⟩ := hrel
    have HALL := Lib.hid hall
    clear hall
    by_cases hlt : i < l.length
    · have i1 : (i : Int) < l.length := by omega
      by_cases h3 : i < 500
      · have i2 : (i : Int) < 500 := by omega
        obtain ⟨o, ho⟩ : ∃ o, l[i]? = some o := ⟨_, List.getElem?_eq_getElem hlt⟩
        obtain ⟨hob, hok⟩ := OK.out o (List.mem_of_getElem? ho)
        unfold maxLen at hob hok
        obtain ⟨g, off, rfl, _, _, _, _, c3, c4, _, _⟩ := dd_cells A.out i o ho
        have HO := Lib.hid ho
        clear ho
        by_cases hb : o.n.size ≤ 300
        · have b1 : ¬ ((300 : Int) < o.n.size) := by omega
          have b2 : decide ((300 : Int) < o.n.size) = false := decide_eq_false b1
          by_cases hk : o.a.size ≤ 300
          · have k1 : ¬ ((300 : Int) < o.a.size) := by omega
            have k2 : decide ((300 : Int) < o.a.size) = false := decide_eq_false k1
            go_wp2_with fail
            refine ⟨⟨i + 1, by go_num, hlt, h3, fun k x hk2 hx => ?_, trivial⟩, by simp [intOf]; omega⟩
            by_cases e : k = i
            · subst e
              have := HO.out
              rw [hx] at this
              rw [Option.some.inj this]
              exact ⟨hb, hk⟩
            · exact HALL.out k x (by omega) hx
          · have k1 : (300 : Int) < o.a.size := by omega
            have k2 : decide ((300 : Int) < o.a.size) = true := decide_eq_true k1
            go_wp2_with fail
            go_ret
            exact ⟨_, rfl, ⟨false, rfl, fun q => by simp at q⟩, Below.refl _ _⟩
        · have b1 : (300 : Int) < o.n.size := by omega
          have b2 : decide ((300 : Int) < o.n.size) = true := decide_eq_true b1
          go_wp2_with fail
          go_ret
          exact ⟨_, rfl, ⟨false, rfl, fun q => by simp at q⟩, Below.refl _ _⟩
      · have i2 : ¬ ((i : Int) < 500) := by omega
        have i3 : decide ((i : Int) < 500) = false := decide_eq_false i2
        go_wp2_with fail
        go_ret
        refine ⟨_, rfl, ⟨_, rfl, fun q => ?_⟩, Below.refl _ _⟩
        have q2 : (l.length : Int) ≤ n := by simpa using q
        refine ⟨q2, fun o ho => ?_⟩
        obtain ⟨k, hk⟩ := List.getElem?_of_mem ho
        have hkl : k < (l.take 500).length := (List.getElem?_eq_some_iff.1 hk).1
        rw [List.length_take] at hkl
        rw [List.getElem?_take_of_lt (by omega)] at hk
        exact HALL.out k o (by omega) hk
    · have ei : i = l.length := by omega
      subst ei
      have i2 : ¬ ((l.length : Int) < l.length) := by omega
      go_wp2_with fail
      go_ret
      refine ⟨_, rfl, ⟨_, rfl, fun q => ?_⟩, Below.refl _ _⟩
      have q2 : (l.length : Int) ≤ n := by simpa using q
      refine ⟨q2, fun o ho => ?_⟩
      obtain ⟨k, hk⟩ := List.getElem?_of_mem (List.mem_of_mem_take ho)
      exact HALL.out k o (List.getElem?_eq_some_iff.1 hk).1 hk
/-- The tree's call of a formed deed. -/
def DD.op (x : DD) : Op1 := ⟨(x.k - 1).toNat, x.d, x.t, x.n, x.a, x.is, x.s⟩
theorem DD.may_k {x : DD} (h : x.may) : x.k = 1 ∨ x.k = 2 ∨ x.k = 3 := by
  obtain ⟨_, _, _, _, _, _, _, _, hk⟩ := h
  rcases hk with ⟨e, _⟩ | ⟨e, _⟩ | ⟨e, _⟩ <;> omega
set_option maxRecDepth 100000 in
set_option maxHeartbeats 2000000 in
theorem op11_any (x : DD) (w : World) (h : x.may) : Calls Tryz.prog 21 #[.agg x.cells] w fun e w' => e = .returned x.op.val ∧ Below w.heap.size w w' := by
  have hk := DD.may_k h
  obtain ⟨k, d, t, n, a, is, s⟩ := x
  dsimp only at hk
  clear h
  go_enter Tryz.func21, Tryz.ntmps21
  rcases hk with rfl | rfl | rfl
  · go_wp2_with fail
    exact bodyPost_ret (v := .agg #[.int .u8 0, .int .i64 d, .int .i64 t, .string n, .string a, .bool is, .int .i64 s]) (results_cell_row (p := 2) (ty := 35) rfl _ _ (w.heap.size + 1) 35 _ (0, 0) _ rfl (m_alloc _ (.cells #[.int .u8 0, .int .i64 d, .int .i64 t, .string n, .string a, .bool is, .int .i64 s] 35) (w.heap.size + 1) (by simp)) Tryz.underlying35 rfl (by kernel_rfl)) rfl ⟨rfl, ((Below.refl _ w).alloc (Nat.le_refl _) _).alloc (by simp) _⟩
  · go_wp2_with fail
    exact bodyPost_ret (v := .agg #[.int .u8 1, .int .i64 d, .int .i64 t, .string n, .string a, .bool is, .int .i64 s]) (results_cell_row (p := 2) (ty := 35) rfl _ _ (w.heap.size + 1) 35 _ (0, 0) _ rfl (m_alloc _ (.cells #[.int .u8 1, .int .i64 d, .int .i64 t, .string n, .string a, .bool is, .int .i64 s] 35) (w.heap.size + 1) (by simp)) Tryz.underlying35 rfl (by kernel_rfl)) rfl ⟨rfl, ((Below.refl _ w).alloc (Nat.le_refl _) _).alloc (by simp) _⟩
  · go_wp2_with fail
    exact bodyPost_ret (v := .agg #[.int .u8 2, .int .i64 d, .int .i64 t, .string n, .string a, .bool is, .int .i64 s]) (results_cell_row (p := 2) (ty := 35) rfl _ _ (w.heap.size + 1) 35 _ (0, 0) _ rfl (m_alloc _ (.cells #[.int .u8 2, .int .i64 d, .int .i64 t, .string n, .string a, .bool is, .int .i64 s] 35) (w.heap.size + 1) (by simp)) Tryz.underlying35 rfl (by kernel_rfl)) rfl ⟨rfl, ((Below.refl _ w).alloc (Nat.le_refl _) _).alloc (by simp) _⟩
/-- What a deed does: its answer, and the tree's change. -/
noncomputable def deedT (L : List Itm) (next : Int) (x : DD) : LR := if x.may then doT L next x.op else ⟨L, next, 0, 1⟩
set_option maxRecDepth 100000 in
set_option maxHeartbeats 4000000 in
theorem ddo_any {w : World} {F : Nat → Prop} {g : Nat} {L : List Itm} {next : Int} (x : DD) (h : TreeM w F g L next) (hi : TInv L next) (hn : next ≤ 1000000000) (h1 : x.n.size ≤ maxLen) (h2 : x.a.size ≤ maxLen) :
    Calls Tryz.prog 19 #[.pointer (some ⟨g, 0, none⟩), .agg x.cells] w (LinkPost w F g (deedT L next x)) := by
  by_cases hm : x.may
  · have hk := DD.may_k hm
    have HD := Lib.hid (show deedT L next x = doT L next x.op from if_pos hm)
    obtain ⟨k, d, t, n, a, is, s⟩ := x
    dsimp only at hk h1 h2
    have hf : ∀ w, Calls Tryz.prog 49 #[.agg #[.int .i64 k, .int .i64 d, .int .i64 t, .string n, .string a, .bool is, .int .i64 s]] w fun e w' => e = .returned (.bool true) ∧ Below w.heap.size w w' := fun w => (formed_any k d t s n a is w).mono fun e w' ⟨h1, h2⟩ => ⟨by rw [h1, decide_eq_true hm], h2⟩
    have Hf := Lib.hid hf
    have HL := fun {W : World} (hb : Below w.heap.size w W) => Lib.hid (tlink_any d n is s (h.below hb) hi hn h1)
    have HU := fun {W : World} (hb : Below w.heap.size w W) => Lib.hid (tunlink_any d n is (h.below hb) hi hn)
    have HM := fun {W : World} (hb : Below w.heap.size w W) => Lib.hid (tmove_any d n t a s (h.below hb) hi hn h2)
    clear hf hm h hi
    show Calls _ _ #[_, .agg #[.int .i64 k, .int .i64 d, .int .i64 t, .string n, .string a, .bool is, .int .i64 s]] w _
    go_enter Tryz.func19, Tryz.ntmps19
    rcases hk with rfl | rfl | rfl
    · go_wp2_with (go_at_call 49; refine (Hf.out _).mono ?_; rintro e w1 ⟨rfl, hb1⟩; obtain ⟨hc, hfz⟩ := bcell hb1)
      have hbb := ((Below.refl _ w).alloc (Nat.le_refl _) (.cells #[.int .i64 1, .int .i64 d, .int .i64 t, .string n, .string a, .bool is, .int .i64 s] 45)).trans (hb1.mono (by simp))
      refine (HL hbb).out.mono ?_
      rintro e w2 ⟨rfl, hs⟩
      have HS := Lib.hid (hs.before hbb)
      clear hs hbb
      go_wp2_with fail
      go_ret2
      have HE := HD.out.trans (show _ = linkT L next d n is s from rfl)
      exact ⟨by rw [HE]; rfl, by rw [HE]; exact HS.out⟩
    · go_wp2_with (go_at_call 49; refine (Hf.out _).mono ?_; rintro e w1 ⟨rfl, hb1⟩; obtain ⟨hc, hfz⟩ := bcell hb1)
      have hbb := ((Below.refl _ w).alloc (Nat.le_refl _) (.cells #[.int .i64 2, .int .i64 d, .int .i64 t, .string n, .string a, .bool is, .int .i64 s] 45)).trans (hb1.mono (by simp))
      refine (HU hbb).out.mono ?_
      rintro e w2 ⟨rfl, hs⟩
      have HS := Lib.hid (hs.before hbb)
      clear hs hbb
      go_wp2_with fail
      go_ret2
      have HE := HD.out.trans (show _ = ⟨(unlinkT L d n is).1, next, 0, (unlinkT L d n is).2⟩ from rfl)
      exact ⟨by rw [HE]; rfl, by rw [HE]; exact HS.out⟩
    · go_wp2_with (go_at_call 49; refine (Hf.out _).mono ?_; rintro e w1 ⟨rfl, hb1⟩; obtain ⟨hc, hfz⟩ := bcell hb1)
      have hbb := ((Below.refl _ w).alloc (Nat.le_refl _) (.cells #[.int .i64 3, .int .i64 d, .int .i64 t, .string n, .string a, .bool is, .int .i64 s] 45)).trans (hb1.mono (by simp))
      refine (HM hbb).out.mono ?_
      rintro e w2 ⟨rfl, hs⟩
      have HS := Lib.hid (hs.before hbb)
      clear hs hbb
      go_wp2_with fail
      go_ret2
      have HE := HD.out.trans (show _ = moveT L next d n t a s from rfl)
      exact ⟨by rw [HE]; rw [moveT_node]; rfl, by rw [HE]; exact HS.out⟩
  · have HD := Lib.hid (show deedT L next x = ⟨L, next, 0, 1⟩ from if_neg hm)
    obtain ⟨k, d, t, n, a, is, s⟩ := x
    have hf : ∀ w, Calls Tryz.prog 49 #[.agg #[.int .i64 k, .int .i64 d, .int .i64 t, .string n, .string a, .bool is, .int .i64 s]] w fun e w' => e = .returned (.bool false) ∧ Below w.heap.size w w' := fun w => (formed_any k d t s n a is w).mono fun e w' ⟨h1, h2⟩ => ⟨by rw [h1, decide_eq_false hm], h2⟩
    have Hf := Lib.hid hf
    have HT := Lib.hid h
    clear hf hm h hi
    show Calls _ _ #[_, .agg #[.int .i64 k, .int .i64 d, .int .i64 t, .string n, .string a, .bool is, .int .i64 s]] w _
    go_enter Tryz.func19, Tryz.ntmps19
    go_wp2_with (go_at_call 49; refine (Hf.out _).mono ?_; rintro e w1 ⟨rfl, hb1⟩)
    go_ret2
    have hbb := ((Below.refl _ w).alloc (Nat.le_refl _) (.cells #[.int .i64 k, .int .i64 d, .int .i64 t, .string n, .string a, .bool is, .int .i64 s] 45)).trans (hb1.mono (by simp))
    exact ⟨by rw [HD.out]; rfl, by rw [HD.out]; exact TStep.same HT.out hbb⟩
end Go.Proofs.YtolilbcpfdnkjaaGreat
