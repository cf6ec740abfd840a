/- Lemmas, texts X1 X2 X3; no condition beyond those that each states. -/
import Derived.Test.YtolilbcpfdnkjaaTIUB
import Derived.Deep.Slices
/- cursor: sort.Search with a closure; Read. -/
namespace Go.Proofs.Ytolilbcpfdnkjaa
open Go.RowKit
set_option linter.unusedSimpArgs false
set_option linter.unusedVariables false
/-- Where a search stops. -/
def FromAt (n : Nat) (p : Nat → Bool) (k : Nat) : Prop := k ≤ n ∧ (∀ t, t < k → p t = false) ∧ (∀ t, k ≤ t → t < n → p t = true)
def SeaRel (w : World) (n : Nat) (p : Nat → Bool) (iv jv : Value) (wr : World) : Prop :=
  ∃ lo hi : Nat, iv = .int .i64 lo ∧ jv = .int .i64 hi ∧ lo ≤ hi ∧ hi ≤ n ∧ ((∀ t, t < lo → p t = false) ∧ (∀ t, hi ≤ t → t < n → p t = true)) ∧ Below w.heap.size w wr
set_option maxRecDepth 100000 in
set_option maxHeartbeats 1000000 in
theorem search_any (w : World) (n : Nat) (p : Nat → Bool) (f : Nat) (cap : Array Value) (hn : n ≤ 1000000)
    (heg : ∀ args w, (callFunc f args).run Try.prog w = .ok (.enter f args) w)
    (hf : ∀ i, i < n → ∀ w', Below w.heap.size w w' → Calls Try.prog f (#[.int .i64 i] ++ cap) w' fun e w2 => e = .returned (.bool (p i)) ∧ Below w'.heap.size w' w2)
    (hmono : ∀ a b, a ≤ b → b < n → p a = true → p b = true) :
    Calls Try.prog 47 #[.int .i64 n, .func (.func f) #[] cap] w fun e w' => ∃ k : Nat, e = .returned (.int .i64 k) ∧ FromAt n p k ∧ Below w.heap.size w w' := by
  have HF := Lib.hid hf
  have HM := Lib.hid hmono
  clear hf hmono
  go_enter Try.func47, Try.ntmps47
  go_wp2_with fail
  go_loopw [5, 6] (fun iv jv wr => SeaRel w n p iv jv wr) (fun iv jv _ => (intOf jv - intOf iv).toNat)
  case atStart => exact ⟨0, n, rfl, rfl, Nat.zero_le _, Nat.le_refl _, ⟨fun t ht => absurd ht (Nat.not_lt_zero _), fun t h1 h2 => by omega⟩, Below.refl _ _⟩
  case round =>
    obtain ⟨lo, hi, rfl, rfl, hlh, hin, hI, hbl⟩ := hrel
    have HI := Lib.hid hI
    have HB := Lib.hid hbl
    clear hI hbl
    by_cases hlt : lo < hi
    · have hlt1 : (lo : Int) < hi := by omega
      have hc := HF.out ((lo + hi) / 2) (by omega) wr HB.out
      rw [show (((lo + hi) / 2 : Nat) : Int) = ((lo : Int) + (hi : Int)) / 2 by omega] at hc
      cases hp : p ((lo + hi) / 2) <;> rw [hp] at hc
      · have HP := Lib.hid hp
        have HC := Lib.hid hc
        clear hp hc
        go_wp2_with fail
        refine HC.out.mono ?_
        rintro e w2 ⟨rfl, hb2⟩
        have HB2 := Lib.hid (HB.out.trans (hb2.mono HB.out.size))
        clear hb2
        go_wp2_with fail
        refine ⟨⟨(lo + hi) / 2 + 1, hi, by rw [show (((lo + hi) / 2 + 1 : Nat) : Int) = ((lo : Int) + (hi : Int)) / 2 + 1 by omega], rfl, by omega, hin, ⟨fun t ht => ?_, HI.out.2⟩, HB2.out⟩, by simp [intOf]; omega⟩
        cases h : p t with
        | false => rfl
        | true => have := HM.out t ((lo + hi) / 2) (by omega) (by omega) h; rw [HP.out] at this; cases this
      · have HP := Lib.hid hp
        have HC := Lib.hid hc
        clear hp hc
        go_wp2_with fail
        refine HC.out.mono ?_
        rintro e w2 ⟨rfl, hb2⟩
        have HB2 := Lib.hid (HB.out.trans (hb2.mono HB.out.size))
        clear hb2
        go_wp2_with fail
        exact ⟨⟨lo, (lo + hi) / 2, rfl, by rw [show (((lo + hi) / 2 : Nat) : Int) = ((lo : Int) + (hi : Int)) / 2 by omega], by omega, by omega, ⟨HI.out.1, fun t ht htn => HM.out ((lo + hi) / 2) t ht htn HP.out⟩, HB2.out⟩, by simp [intOf]; omega⟩
    · obtain rfl : hi = lo := by omega
      have hlt1 : ¬ (hi : Int) < hi := by omega
      go_wp2_with fail
      go_ret
      exact ⟨hi, rfl, ⟨hin, HI.out⟩, HB.out⟩
/-- The last entry's cookie. -/
def lastC (l : List Ent) (c : Int) : Int := match l.getLast? with | some x => x.cookie | none => c
def behind (l : List Ent) (c n : Int) : List Ent := (l.filter (fun x => decide (c < x.cookie))).take n.toNat
/-- What Read answers. -/
def readT (l : List Ent) (c n : Int) : List Ent × Int × Int :=
  if n < 1 ∨ 64 < n then ([], 0, 1) else if c < 0 then ([], 0, 14) else (behind l c n, lastC (behind l c n) c, 0)
theorem filter_from {l : List Ent} {c : Int} {k : Nat} (h : FromAt l.length (fun i => decide (c < (l.getD i Ent.zero).cookie)) k) : l.filter (fun x => decide (c < x.cookie)) = l.drop k := by
  obtain ⟨h1, h2, h3⟩ := h
  have e := List.take_append_drop k l
  conv => lhs; rw [← e]
  rw [List.filter_append]
  have a : (l.take k).filter (fun x => decide (c < x.cookie)) = [] := by
    rw [List.filter_eq_nil_iff]
    intro x hx
    obtain ⟨i, hi⟩ := List.getElem?_of_mem hx
    have hil := (List.getElem?_eq_some_iff.1 hi).1
    rw [List.length_take] at hil
    rw [List.getElem?_take_of_lt (by omega)] at hi
    have := h2 i (by omega)
    dsimp only at this
    rw [List.getD_eq_getElem?_getD, hi] at this
    simpa using this
  have b : (l.drop k).filter (fun x => decide (c < x.cookie)) = l.drop k := by
    rw [List.filter_eq_self]
    intro x hx
    obtain ⟨i, hi⟩ := List.getElem?_of_mem hx
    rw [List.getElem?_drop] at hi
    have := h3 (k + i) (by omega) (List.getElem?_eq_some_iff.1 hi).1
    dsimp only at this
    rw [List.getD_eq_getElem?_getD, hi] at this
    simpa using this
  rw [a, b]; rfl
end Go.Proofs.Ytolilbcpfdnkjaa

/- cursor: Read. -/
namespace Go.Proofs.Ytolilbcpfdnkjaa
open Go.RowKit
set_option linter.unusedSimpArgs false
set_option linter.unusedVariables false
theorem Row.caps {α : Type} {E : EK α} {w : World} {B n c : Nat} {a : Option Addr} {l : List α} (h : Row E w B (.slice a n c) l) : l.length ≤ c ∧ c ≤ maxLen ∧ n = l.length ∧ (a = none → c = 0) := by
  rcases h.2 with ⟨e, q⟩ | ⟨_, _, _, e, _, _, r1, r2, _⟩
  · simp only [Value.slice.injEq] at e
    exact ⟨by rw [q]; exact Nat.zero_le _, by rw [e.2.2]; exact Nat.zero_le _, by rw [q]; exact e.2.1, fun _ => e.2.2⟩
  · simp only [Value.slice.injEq] at e
    exact ⟨by rw [e.2.2]; exact r1, by rw [e.2.2]; exact r2, e.2.1, fun q => by rw [q] at e; cases e.1⟩
/-- A part of what can be read. -/
theorem Arg.cut {α : Type} {E : EK α} {w : World} {a : Option Addr} {n c c' : Nat} {l : List α} (h : Arg E w (.slice a n c) l) (k m : Nat) (hm : m = (l.drop k).length) (hn : a ≠ none) (s : Nat) (hs : E.size = s) : Arg E w (.slice (Option.map (fun x => x.add (k * s)) a) m c') (l.drop k) := by
  subst hs
  obtain ⟨a', c2, e, h⟩ := h
  simp only [Value.slice.injEq] at e
  obtain ⟨rfl, -, rfl⟩ := e
  rcases h with ⟨q, _⟩ | ⟨x, rfl, hc⟩
  · exact absurd q hn
  · refine ⟨some (x.add (k * E.size)), c', by rw [hm]; rfl, Or.inr ⟨_, rfl, fun j u hj => ?_⟩⟩
    have hjl : j < (l.drop k).length * E.size := by
      have := (List.getElem?_eq_some_iff.1 hj).1
      rwa [E.flat_len] at this
    have hpos := E.pos
    have e1 : j = j / E.size * E.size + j % E.size := by rw [Nat.mul_comm]; exact (Nat.div_add_mod _ _).symm
    have e2 := E.flat_get (l.drop k) (j / E.size) (j % E.size) (Nat.mod_lt j hpos)
    have e3 := E.flat_get l (k + j / E.size) (j % E.size) (Nat.mod_lt j hpos)
    rw [← e1, hj] at e2
    rw [List.getElem?_drop] at e2
    rw [← e2] at e3
    have := hc _ u e3
    rw [show (k + j / E.size) * E.size + j % E.size = k * E.size + j from by rw [Nat.add_mul]; omega] at this
    rw [← this, Go.Deep.add_add]
theorem Arg.pre {α : Type} {E : EK α} {w : World} {a : Option Addr} {n c : Nat} {l : List α} (h : Arg E w (.slice a n c) l) (hn : a ≠ none) (t m : Nat) (hm : m = (l.take t).length) : Arg E w (.slice a m c) (l.take t) := by
  obtain ⟨a', c2, e, h⟩ := h
  simp only [Value.slice.injEq] at e
  obtain ⟨rfl, -, rfl⟩ := e
  rcases h with ⟨q, _⟩ | ⟨x, rfl, hc⟩
  · exact absurd q hn
  · refine ⟨_, c, by rw [hm], Or.inr ⟨x, rfl, fun j u hj => hc j u ?_⟩⟩
    have : l.flatMap E.enc = (l.take t).flatMap E.enc ++ (l.drop t).flatMap E.enc := by rw [← List.flatMap_append, List.take_append_drop]
    rw [this, List.getElem?_append_left (List.getElem?_eq_some_iff.1 hj).1]; exact hj
theorem Arg.none_left {α : Type} {E : EK α} {w : World} {a : Option Addr} : Arg E w (.slice a 0 0) ([] : List α) := by
  cases a with
  | none => exact Arg.nil E w
  | some x => exact ⟨some x, 0, rfl, Or.inr ⟨x, rfl, fun j u hj => by simp at hj⟩⟩
theorem valid_any (w : World) (c : Int) : Calls Try.prog 37 #[.int .i64 c] w fun e w' => e = .returned (.bool (decide (0 ≤ c))) ∧ w' = w := by
  go_enter Try.func37, Try.ntmps37
  go_wp2_with fail
  go_ret
  exact ⟨by first | rfl | simp, rfl⟩
theorem read1_any (w : World) (bl bc g off cap : Nat) (l : List Ent) (c : Int) (i : Nat) (x : Ent) (hx : l[i]? = some x) (h : Arg EEnt w (.slice (some ⟨g, off, none⟩) l.length cap) l)
    (hb : w.heap[bl]? = some (.cells #[.slice (some ⟨g, off, none⟩) l.length cap] 33 (0, 0))) (hc : w.heap[bc]? = some (.cells #[.int .i64 c] 2 (0, 0))) :
    Calls Try.prog 48 #[.int .i64 i, .pointer (some ⟨bl, 0, none⟩), .pointer (some ⟨bc, 0, none⟩)] w fun e w' => e = .returned (.bool (decide (c < x.cookie))) ∧ Below w.heap.size w w' := by
  have c0 : w.cell? ⟨bl, 0, none⟩ = some (.slice (some ⟨g, off, none⟩) l.length cap) := (m_cells hb).1 0
  have c1 : w.cell? ⟨bc, 0, none⟩ = some (.int .i64 c) := (m_cells hc).1 0
  obtain ⟨g', off', hg, -, k0, k1, k2, k3, k4⟩ := ent_cells h i x hx
  simp only [Option.some.injEq, Addr.mk.injEq] at hg
  obtain ⟨rfl, rfl, -⟩ := hg
  have i1 : (i : Int) < l.length := by have := (List.getElem?_eq_some_iff.1 hx).1; omega
  clear h hb hc hx
  go_enter Try.func48, Try.ntmps48
  go_wp2_with fail
  go_quiet (fail)
  go_wp2_with fail
  go_ret
  exact ⟨rfl, rfl, rfl, rfl, Nat.le_refl _, fun _ _ => rfl⟩
set_option maxRecDepth 100000 in
set_option maxHeartbeats 2000000 in
theorem cread_any {v : Value} {l : List Ent} (w : World) (B : Nat) (c n : Int) (h : Row EEnt w B v l) (hl : l.length ≤ 1000000) (hs : (l.map (·.cookie)).Pairwise (· < ·)) :
    Calls Try.prog 22 #[v, .int .i64 c, .int .i64 n] w fun e w' => ∃ v', e = .returned (.tuple #[v', .int .i64 (readT l c n).2.1, .int .i64 (readT l c n).2.2]) ∧ Row EEnt w' w.heap.size v' (readT l c n).1 ∧ Below w.heap.size w w' := by
  obtain ⟨a, cap, rfl⟩ := h.shape
  have H := Lib.hid h
  clear h
  go_enter Try.func22, Try.ntmps22
  by_cases n1 : n < 1
  · have d1 : decide (n < 1) = true := decide_eq_true n1
    have HR := Lib.hid (show readT l c n = ([], 0, 1) from by unfold readT; rw [if_pos (Or.inl n1)])
    go_wp2_with fail
    go_ret3
    rw [HR.out]
    exact ⟨_, rfl, Row.nil _ _ _, ((Below.refl _ w).alloc (Nat.le_refl _) _).alloc (by simp) _⟩
  · have d1 : decide (n < 1) = false := decide_eq_false n1
    by_cases n2 : 64 < n
    · have d2 : decide (64 < n) = true := decide_eq_true n2
      have HR := Lib.hid (show readT l c n = ([], 0, 1) from by unfold readT; rw [if_pos (Or.inr n2)])
      go_wp2_with fail
      go_ret3
      rw [HR.out]
      exact ⟨_, rfl, Row.nil _ _ _, ((Below.refl _ w).alloc (Nat.le_refl _) _).alloc (by simp) _⟩
    · have d2 : decide (64 < n) = false := decide_eq_false n2
      have b1 := m_old (.cells #[.int .i64 c] 2) (m_alloc w (.cells #[.slice a l.length cap] 33) w.heap.size rfl)
      have b2 := m_alloc (w.alloc (.cells #[.slice a l.length cap] 33)) (.cells #[.int .i64 c] 2) (w.heap.size + 1) (by simp)
      by_cases hc : c < 0
      · have hv : ∀ w', Calls Try.prog 37 #[.int .i64 c] w' fun e w2 => e = .returned (.bool false) ∧ w2 = w' := fun w' => by
          have := valid_any w' c
          rwa [decide_eq_false (show ¬ 0 ≤ c by omega)] at this
        have HV := Lib.hid hv
        have HR := Lib.hid (show readT l c n = ([], 0, 14) from by unfold readT; rw [if_neg (by omega), if_pos hc])
        clear hv
        go_wp2_with fail
        refine (HV.out _).mono ?_
        rintro e w1 ⟨rfl, rfl⟩
        go_wp2_with fail
        go_ret3
        rw [HR.out]
        exact ⟨_, rfl, Row.nil _ _ _, ((Below.refl _ w).alloc (Nat.le_refl _) _).alloc (by simp) _⟩
      · have hv : ∀ w', Calls Try.prog 37 #[.int .i64 c] w' fun e w2 => e = .returned (.bool true) ∧ w2 = w' := fun w' => by
          have := valid_any w' c
          rwa [decide_eq_true (show 0 ≤ c by omega)] at this
        have HV := Lib.hid hv
        have HR := Lib.hid (show readT l c n = (behind l c n, lastC (behind l c n) c, 0) from by unfold readT; rw [if_neg (by omega), if_neg hc])
        have hbw : Below w.heap.size w ((w.alloc (.cells #[.slice a l.length cap] 33)).alloc (.cells #[.int .i64 c] 2)) := ((Below.refl _ w).alloc (Nat.le_refl _) _).alloc (by simp) _
        have HB := Lib.hid hbw
        have hse : Calls Try.prog 47 #[.int .i64 l.length, .func (.func 48) #[] #[.pointer (some ⟨w.heap.size, 0, none⟩), .pointer (some ⟨w.heap.size + 1, 0, none⟩)]] ((w.alloc (.cells #[.slice a l.length cap] 33)).alloc (.cells #[.int .i64 c] 2))
            fun e w' => ∃ k : Nat, e = .returned (.int .i64 k) ∧ FromAt l.length (fun i => decide (c < (l.getD i Ent.zero).cookie)) k ∧ Below ((w.alloc (.cells #[.slice a l.length cap] 33)).alloc (.cells #[.int .i64 c] 2)).heap.size ((w.alloc (.cells #[.slice a l.length cap] 33)).alloc (.cells #[.int .i64 c] 2)) w' := by
          refine search_any _ l.length (fun i => decide (c < (l.getD i Ent.zero).cookie)) _ _ hl (fun args w => by kernel_rfl) (fun i hi w' hb => ?_) (fun x y hxy hy hp => ?_)
          · obtain ⟨x, hx⟩ : ∃ x, l[i]? = some x := ⟨_, List.getElem?_eq_getElem hi⟩
            have ha := (H.out.arg.below hbw).below hb
            obtain ⟨g, off, rfl, -⟩ := ent_cells ha i x hx
            have := read1_any w' w.heap.size (w.heap.size + 1) g off cap l c i x hx ha (by rw [hb.block _ (m_lt b1)]; exact b1) (by rw [hb.block _ (m_lt b2)]; exact b2)
            rw [show l.getD i Ent.zero = x from by rw [List.getD_eq_getElem?_getD, hx]; rfl]
            exact this
          · have hx : x < l.length := by omega
            rw [List.getD_eq_getElem?_getD, List.getElem?_eq_getElem hx] at hp
            rw [List.getD_eq_getElem?_getD, List.getElem?_eq_getElem hy]
            simp only [Option.getD_some, decide_eq_true_eq] at hp ⊢
            rcases Nat.lt_or_ge x y with q | q
            · have := List.pairwise_iff_getElem.1 hs x y (by simpa using hx) (by simpa using hy) q
              simp only [List.getElem_map] at this
              omega
            · have : x = y := by omega
              subst this; exact hp
        have HSE := Lib.hid hse
        clear hv hse hbw
        go_wp2_with fail
        refine (HV.out _).mono ?_
        rintro e w1 ⟨rfl, rfl⟩
        go_wp2_with fail
        refine HSE.out.mono ?_
        rintro e w1 ⟨k, rfl, hk, hb1⟩
        have HF := Lib.hid (filter_from hk)
        have hkl := hk.1
        have c1 : w1.cell? ⟨w.heap.size, 0, none⟩ = some (.slice a l.length cap) := by
          have := (m_cells (b1)).1 0
          rw [hb1.cell (m_lt b1)]; exact this
        have c2 : w1.cell? ⟨w.heap.size + 1, 0, none⟩ = some (.int .i64 c) := by
          have := (m_cells (b2)).1 0
          rw [hb1.cell (m_lt b2)]; exact this
        have HB1 := Lib.hid (HB.out.trans (hb1.mono HB.out.size))
        have HBK := Lib.hid (show w1.heap[w.heap.size + 1]? = some (.cells #[.int .i64 c] 2 (0, 0)) from by rw [hb1.block _ (m_lt b2)]; exact b2)
        obtain ⟨hcap, hcm, -, hnone⟩ := H.out.caps
        have hbe : behind l c n = (l.drop k).take n.toNat := by unfold behind; rw [HF.out]
        have hm : (min ((k : Int) + n) (l.length : Int)).toNat - k = (behind l c n).length := by rw [hbe, List.length_take, List.length_drop]; omega
        have ha1 := (H.out.arg.below HB1.out)
        have HX := Lib.hid (fun (k1 : k < cap) => show Arg EEnt w1 (.slice (Option.map (fun x => x.add (k * 5)) a) (behind l c n).length (cap - k)) (behind l c n) from by
          rw [hbe]
          have hn : a ≠ none := fun q => by have := hnone q; omega
          exact (ha1.cut (c' := cap - k) k (l.drop k).length rfl hn 5 rfl).pre (by cases a <;> simp at hn ⊢) n.toNat _ rfl)
        have HY := Lib.hid (fun (k1 : ¬ k < cap) => show behind l c n = [] ∧ cap = k from by
          refine ⟨?_, by omega⟩
          rw [hbe, List.drop_eq_nil_of_le (by omega), List.take_nil])
        generalize hE : behind l c n = E at hm HX HY HR
        have HE := Lib.hid hE
        have hel : E.length ≤ l.length := by rw [← hE, hbe, List.length_take, List.length_drop]; omega
        clear b1 b2 hk hb1 HSE hbe ha1 hE HF hs
        -- behind the clone
        have hend : ∀ v, Arg EEnt w1 v E → Calls Try.prog 39 #[v] w1 fun e w' => ∃ v', e = .returned v' ∧ Row EEnt w' w1.heap.size v' E ∧ Below w1.heap.size w1 w' := fun v q => eclone_any w1 q (by omega)
        have HEND := Lib.hid hend
        clear hend
        have hlast : ∀ x, E.getLast? = some x → lastC E c = x.cookie := fun x q => by unfold lastC; rw [q]
        have HLAST := Lib.hid hlast
        have h1lt : w.heap.size + 1 < w1.heap.size := World.block_lt_of_cell? _ _ c2
        clear hlast
        by_cases k1 : k < cap
        · have k2 : (k : Int) < cap := by omega
          have HX1 := Lib.hid (HX.out k1)
          clear HX HY
          go_wp2_with fail
          refine (HEND.out _ HX1.out).mono ?_
          rintro e w2 ⟨v2, rfl, hr2, hb2⟩
          have HR2 := Lib.hid hr2
          have c3 := cell_later hb2 c2
          have HBK2 := Lib.hid (show w2.heap[w.heap.size + 1]? = some (.cells #[.int .i64 c] 2 (0, 0)) from by rw [hb2.block _ h1lt]; exact HBK.out)
          have HB2 := Lib.hid (HB1.out.trans (hb2.mono HB1.out.size))
          obtain ⟨a2, q2, rfl⟩ := hr2.shape
          clear hr2 hb2 c1
          by_cases h0 : E = []
          · subst h0
            have HL0 := Lib.hid (show lastC [] c = c from rfl)
            go_wp2_with fail
            go_quiet (fail)
            go_wp2_with fail
            go_ret3
            rw [HR.out]
            refine ⟨_, rfl, ?_, ?_⟩
            · exact ((HR2.out.raise (B' := w.heap.size) (fun k q => by have := HR2.out.ge q; omega)).qt (Qt.drewN _ _))
            · exact ⟨HB2.out.os, HB2.out.tape, HB2.out.output, HB2.out.size, HB2.out.block⟩
          · have hpos0 : 0 < E.length := List.length_pos_iff.2 h0
            have hpos : (0 : Int) < E.length := by omega
            have hdp : decide (0 < E.length) = true := decide_eq_true hpos0
            obtain ⟨x, hx⟩ : ∃ x, E.getLast? = some x := ⟨_, List.getLast?_eq_some_getLast h0⟩
            have HLC := Lib.hid (HLAST.out x hx)
            rw [List.getLast?_eq_getElem?] at hx
            obtain ⟨g, off, rfl, -, -, -, -, k3, -⟩ := ent_cells HR2.out.arg _ x hx
            have hfz : w2.frozen? ⟨w.heap.size + 1, 0, none⟩ = false := (m_cells HBK2.out).2 0
            have HGE := Lib.hid (show w1.heap.size ≤ g from HR2.out.ge rfl)
            clear hx
            go_wp2_with fail
            have HB3 := Lib.hid (show Below w.heap.size w (w2.setCell ⟨w.heap.size + 1, 0, none⟩ (.int .i64 x.cookie)) from HB2.out.setCell (by simp) _)
            have c4 : (w2.setCell ⟨w.heap.size + 1, 0, none⟩ (.int .i64 x.cookie)).cell? ⟨w.heap.size + 1, 0, none⟩ = some (.int .i64 x.cookie) := (m_cells (m_set HBK2.out 0 _)).1 0
            have HR3 := Lib.hid (show Row EEnt (w2.setCell ⟨w.heap.size + 1, 0, none⟩ (.int .i64 x.cookie)) w.heap.size (.slice (some ⟨g, off, none⟩) E.length q2) E from
              (HR2.out.kept (fun k q => Below.heap_setCell _ _ _ _ (by have := HR2.out.ge q; show k ≠ w.heap.size + 1; omega))).raise (fun k q => by have := HR2.out.ge q; omega))
            generalize hW3 : w2.setCell ⟨w.heap.size + 1, 0, none⟩ (.int .i64 x.cookie) = w3 at *
            clear hW3
            go_quiet (fail)
            go_wp2_with fail
            go_ret3
            rw [HR.out, HLC.out]
            refine ⟨_, rfl, ?_, ?_⟩
            · exact HR3.out.qt (Qt.drewN _ _)
            · exact ⟨HB3.out.os, HB3.out.tape, HB3.out.output, HB3.out.size, HB3.out.block⟩
        · obtain ⟨e0, ek⟩ := HY.out k1
          subst e0
          subst ek
          have HL0 := Lib.hid (show lastC [] c = c from rfl)
          have k2 : ¬ (cap : Int) < cap := by omega
          clear HX HY
          go_wp2_with fail
          refine (HEND.out _ Arg.none_left).mono ?_
          rintro e w2 ⟨v2, rfl, hr2, hb2⟩
          have HR2 := Lib.hid hr2
          have c3 := cell_later hb2 c2
          have HB2 := Lib.hid (HB1.out.trans (hb2.mono HB1.out.size))
          obtain ⟨a2, q2, rfl⟩ := hr2.shape
          clear hr2 hb2 c1
          go_wp2_with fail
          go_quiet (fail)
          go_wp2_with fail
          go_ret3
          rw [HR.out]
          refine ⟨_, rfl, ?_, ?_⟩
          · exact ((HR2.out.raise (B' := w.heap.size) (fun k q => by have := HR2.out.ge q; omega)).qt (Qt.drewN _ _))
          · exact ⟨HB2.out.os, HB2.out.tape, HB2.out.output, HB2.out.size, HB2.out.block⟩
end Go.Proofs.Ytolilbcpfdnkjaa

/- cursor: a tree of a law's own beside other blocks; awake; reading on, in plain Lean. -/
namespace Go.Proofs.Ytolilbcpfdnkjaa
open Go.RowKit
set_option linter.unusedSimpArgs false
set_option linter.unusedVariables false
set_option maxRecDepth 100000 in
set_option maxHeartbeats 1000000 in
theorem awake16_any (w : World) : Calls Try.prog 21 #[] w fun e w' => e = .returned (.bool true) ∧ Below w.heap.size w w' := by
  have HR := Lib.hid (fun (W : World) => show Row EEnt (W.alloc (.cells #[.string ⟨#[]⟩, .int .i64 0, .bool false, .int .i64 2, .int .i64 0, .string ⟨#[]⟩, .int .i64 0, .bool false, .int .i64 5, .int .i64 0] 40)) W.heap.size (.slice (some ⟨W.heap.size, 0, none⟩) 2 2) [⟨⟨#[]⟩, 0, false, 2, 0⟩, ⟨⟨#[]⟩, 0, false, 5, 0⟩] from
    Row.new (E := EEnt) W W.heap.size _ [(⟨⟨#[]⟩, 0, false, 2, 0⟩ : Ent), (⟨⟨#[]⟩, 0, false, 5, 0⟩ : Ent)] (Nat.le_refl _) rfl (by decide))
  have HT := Lib.hid (show readT [(⟨⟨#[]⟩, 0, false, 2, 0⟩ : Ent), ⟨⟨#[]⟩, 0, false, 5, 0⟩] 2 1 = ([(⟨⟨#[]⟩, 0, false, 5, 0⟩ : Ent)], 5, 0) from rfl)
  go_enter Try.func21, Try.ntmps21
  go_wp2_with fail
  refine (cread_any _ _ 2 1 (HR.out w) (by decide) (by decide)).mono ?_
  rw [HT.out]
  rintro e w1 ⟨v, rfl, hr, hb⟩
  obtain ⟨a1, k1, rfl⟩ := hr.shape
  have HB := Lib.hid (((Below.refl _ w).alloc (Nat.le_refl _) _).trans (hb.mono (by simp)))
  clear hr hb
  go_wp2_with fail
  refine (valid_any _ 0).mono ?_
  rintro e w2 ⟨rfl, rfl⟩
  go_wp2_with fail
  go_ret
  exact ⟨rfl, HB.out⟩
theorem lastC_append (a b : List Ent) (c : Int) : lastC (a ++ b) c = lastC b (lastC a c) := by
  unfold lastC
  rw [List.getLast?_append]
  cases b.getLast? <;> simp
theorem lastC_some {l : List Ent} {c : Int} {x : Ent} (h : l.getLast? = some x) : lastC l c = x.cookie := by unfold lastC; rw [h]
/-- Reading on from where one stands. -/
theorem read_from {l : List Ent} (hs : (l.map (·.cookie)).Pairwise (· < ·)) (hp : ∀ x ∈ l, 1 ≤ x.cookie) (k : Nat) (hk : k ≤ l.length) (n : Nat) (h1 : 1 ≤ n) (h2 : n ≤ 64) :
    readT l (lastC (l.take k) 0) n = ((l.drop k).take n, lastC (l.take (k + n)) 0, 0) := by
  have hlt : ∀ (i j : Nat) (x y : Ent), l[i]? = some x → l[j]? = some y → i < j → x.cookie < y.cookie := fun i j x y hx hy hij => by
    obtain ⟨a1, a2⟩ := List.getElem?_eq_some_iff.1 hx
    obtain ⟨b1, b2⟩ := List.getElem?_eq_some_iff.1 hy
    have := List.pairwise_iff_getElem.1 hs i j (by simpa using a1) (by simpa using b1) hij
    simp only [List.getElem_map] at this
    rw [← a2, ← b2]; exact this
  have hc0 : 0 ≤ lastC (l.take k) 0 := by
    cases h : (l.take k).getLast? with
    | none => unfold lastC; rw [h]; exact Int.le_refl _
    | some x =>
      rw [lastC_some h]
      have := hp x (List.mem_of_mem_take (List.mem_of_getLast? h)); omega
  have hf : FromAt l.length (fun i => decide (lastC (l.take k) 0 < (l.getD i Ent.zero).cookie)) k := by
    refine ⟨hk, fun t ht => ?_, fun t h3 h4 => ?_⟩
    · obtain ⟨x, hx⟩ : ∃ x, l[t]? = some x := ⟨_, List.getElem?_eq_getElem (by omega)⟩
      obtain ⟨y, hy⟩ : ∃ y, l[k - 1]? = some y := ⟨_, List.getElem?_eq_getElem (by omega)⟩
      have hl : (l.take k).getLast? = some y := by
        rw [List.getLast?_eq_getElem?, List.length_take, List.getElem?_take_of_lt (by omega), show min k l.length - 1 = k - 1 by omega]; exact hy
      rw [lastC_some hl]
      show decide (_ < (l.getD t Ent.zero).cookie) = false
      rw [List.getD_eq_getElem?_getD, hx]
      simp only [Option.getD_some, decide_eq_false_iff_not]
      rcases Nat.lt_or_ge t (k - 1) with q | q
      · have := hlt _ _ _ _ hx hy q; omega
      · have : t = k - 1 := by omega
        subst this
        rw [hx] at hy; cases hy; omega
    · obtain ⟨x, hx⟩ : ∃ x, l[t]? = some x := ⟨_, List.getElem?_eq_getElem h4⟩
      show decide (_ < (l.getD t Ent.zero).cookie) = true
      rw [List.getD_eq_getElem?_getD, hx]
      simp only [Option.getD_some, decide_eq_true_eq]
      cases h : (l.take k).getLast? with
      | none =>
        have : lastC (l.take k) 0 = 0 := by unfold lastC; rw [h]
        rw [this]
        have := hp x (List.mem_of_getElem? hx); omega
      | some y =>
        rw [lastC_some h]
        rw [List.getLast?_eq_getElem?, List.length_take] at h
        have hk0 : 0 < k := by
          rcases Nat.eq_zero_or_pos k with q | q
          · subst q; simp at h
          · exact q
        rw [List.getElem?_take_of_lt (by omega)] at h
        exact hlt _ _ _ _ h hx (by omega)
  have hb : behind l (lastC (l.take k) 0) n = (l.drop k).take n := by unfold behind; rw [filter_from hf]; rfl
  unfold readT
  rw [if_neg (by omega), if_neg (by omega), hb, List.take_add, lastC_append]
theorem entries_sorted {L : List Itm} {next : Int} (h : TInv L next) (d : Int) : ((entries L d).map (·.cookie)).Pairwise (· < ·) := by
  unfold entries
  rw [List.map_map]
  exact h.ck.sublist (List.Sublist.map _ List.filter_sublist)
theorem entries_cookie {L : List Itm} {next : Int} (h : TInv L next) (d : Int) : ∀ x ∈ entries L d, 1 ≤ x.cookie ∧ x.cookie < next := by
  intro x hx
  obtain ⟨i, hi, -, rfl⟩ := mem_entries.1 hx
  exact h.cb i hi
theorem entries_len {L : List Itm} {next : Int} (h : TInv L next) (d : Int) : (entries L d).length ≤ 200 := by
  unfold entries
  rw [List.length_map]
  exact Nat.le_trans (List.length_filter_le _ _) h.len
end Go.Proofs.Ytolilbcpfdnkjaa
