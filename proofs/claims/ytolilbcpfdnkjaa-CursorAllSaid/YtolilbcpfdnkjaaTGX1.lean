/- Lemmas, texts X1 X2 X3 X4; no condition beyond those that each states. -/
import Derived.Test.YtolilbcpfdnkjaaTGUB
import Derived.Deep.Slices
import Derived.Deep.RegionHeld3
import Derived.Outline
/- cursor: sort.Search with a closure; Read. -/
namespace Go.Proofs.Ytolilbcpfdnkjaa
open Go.RowKit
set_option linter.unusedSimpArgs false
set_option linter.unusedVariables false
/-- Where a search stops. -/
def FromAt (n : Nat) (p : Nat → Bool) (k : Nat) : Prop := k ≤ n ∧ (∀ t, t < k → p t = false) ∧ (∀ t, k ≤ t → t < n → p t = true)
def SeaRel (w : World) (n : Nat) (p : Nat → Bool) (iv jv : Value) (wr : World) : Prop :=
  ∃ lo hi : Nat, iv = .int .i64 lo ∧ jv = .int .i64 hi ∧ lo ≤ hi ∧ hi ≤ n ∧ ((∀ t, t < lo → p t = false) ∧ (∀ t, hi ≤ t → t < n → p t = true)) ∧ Below w.heap.size w wr
set_option maxRecDepth 100000 in
set_option maxHeartbeats 1000000 in
theorem search_any (w : World) (n : Nat) (p : Nat → Bool) (f : Nat) (cap : Array Value) (hn : n ≤ 1000000)
    (heg : ∀ args w, (callFunc f args).run Try.prog w = .ok (.enter f args) w)
    (hf : ∀ i, i < n → ∀ w', Below w.heap.size w w' → Calls Try.prog f (#[.int .i64 i] ++ cap) w' fun e w2 => e = .returned (.bool (p i)) ∧ Below w'.heap.size w' w2)
    (hmono : ∀ a b, a ≤ b → b < n → p a = true → p b = true) :
    Calls Try.prog 47 #[.int .i64 n, .func (.func f) #[] cap] w fun e w' => ∃ k : Nat, e = .returned (.int .i64 k) ∧ FromAt n p k ∧ Below w.heap.size w w' := by
  have HF := Lib.hid hf
  have HM := Lib.hid hmono
  clear hf hmono
  go_enter Try.func47, Try.ntmps47
  go_wp2_with fail
  go_loopw [5, 6] (fun iv jv wr => SeaRel w n p iv jv wr) (fun iv jv _ => (intOf jv - intOf iv).toNat)
  case atStart => exact ⟨0, n, rfl, rfl, Nat.zero_le _, Nat.le_refl _, ⟨fun t ht => absurd ht (Nat.not_lt_zero _), fun t h1 h2 => by omega⟩, Below.refl _ _⟩
  case round =>
    obtain ⟨lo, hi, rfl, rfl, hlh, hin, hI, hbl⟩ := hrel
    have HI := Lib.hid hI
    have HB := Lib.hid hbl
    clear hI hbl
    by_cases hlt : lo < hi
    · have hlt1 : (lo : Int) < hi := by omega
      have hc := HF.out ((lo + hi) / 2) (by omega) wr HB.out
      rw [show (((lo + hi) / 2 : Nat) : Int) = ((lo : Int) + (hi : Int)) / 2 by omega] at hc
      cases hp : p ((lo + hi) / 2) <;> rw [hp] at hc
      · have HP := Lib.hid hp
        have HC := Lib.hid hc
        clear hp hc
        go_wp2_with fail
        refine HC.out.mono ?_
        rintro e w2 ⟨rfl, hb2⟩
        have HB2 := Lib.hid (HB.out.trans (hb2.mono HB.out.size))
        clear hb2
        go_wp2_with fail
        refine ⟨⟨(lo + hi) / 2 + 1, hi, by rw [show (((lo + hi) / 2 + 1 : Nat) : Int) = ((lo : Int) + (hi : Int)) / 2 + 1 by omega], rfl, by omega, hin, ⟨fun t ht => ?_, HI.out.2⟩, HB2.out⟩, by simp [intOf]; omega⟩
        cases h : p t with
        | false => rfl
        | true => have := HM.out t ((lo + hi) / 2) (by omega) (by omega) h; rw [HP.out] at this; cases this
      · have HP := Lib.hid hp
        have HC := Lib.hid hc
        clear hp hc
        go_wp2_with fail
        refine HC.out.mono ?_
        rintro e w2 ⟨rfl, hb2⟩
        have HB2 := Lib.hid (HB.out.trans (hb2.mono HB.out.size))
        clear hb2
        go_wp2_with fail
        exact ⟨⟨lo, (lo + hi) / 2, rfl, by rw [show (((lo + hi) / 2 : Nat) : Int) = ((lo : Int) + (hi : Int)) / 2 by omega], by omega, by omega, ⟨HI.out.1, fun t ht htn => HM.out ((lo + hi) / 2) t ht htn HP.out⟩, HB2.out⟩, by simp [intOf]; omega⟩
    · obtain rfl : hi = lo := by omega
      have hlt1 : ¬ (hi : Int) < hi := by omega
      go_wp2_with fail
      go_ret
      exact ⟨hi, rfl, ⟨hin, HI.out⟩, HB.out⟩
/-- The last entry's cookie. -/
def lastC (l : List Ent) (c : Int) : Int := match l.getLast? with | some x => x.cookie | none => c
def behind (l : List Ent) (c n : Int) : List Ent := (l.filter (fun x => decide (c < x.cookie))).take n.toNat
/-- What Read answers. -/
def readT (l : List Ent) (c n : Int) : List Ent × Int × Int :=
  if n < 1 ∨ 64 < n then ([], 0, 1) else if c < 0 then ([], 0, 14) else (behind l c n, lastC (behind l c n) c, 0)
theorem filter_from {l : List Ent} {c : Int} {k : Nat} (h : FromAt l.length (fun i => decide (c < (l.getD i Ent.zero).cookie)) k) : l.filter (fun x => decide (c < x.cookie)) = l.drop k := by
  obtain ⟨h1, h2, h3⟩ := h
  have e := List.take_append_drop k l
  conv => lhs; rw [← e]
  rw [List.filter_append]
  have a : (l.take k).filter (fun x => decide (c < x.cookie)) = [] := by
    rw [List.filter_eq_nil_iff]
    intro x hx
    obtain ⟨i, hi⟩ := List.getElem?_of_mem hx
    have hil := (List.getElem?_eq_some_iff.1 hi).1
    rw [List.length_take] at hil
    rw [List.getElem?_take_of_lt (by omega)] at hi
    have := h2 i (by omega)
    dsimp only at this
    rw [List.getD_eq_getElem?_getD, hi] at this
    simpa using this
  have b : (l.drop k).filter (fun x => decide (c < x.cookie)) = l.drop k := by
    rw [List.filter_eq_self]
    intro x hx
    obtain ⟨i, hi⟩ := List.getElem?_of_mem hx
    rw [List.getElem?_drop] at hi
    have := h3 (k + i) (by omega) (List.getElem?_eq_some_iff.1 hi).1
    dsimp only at this
    rw [List.getD_eq_getElem?_getD, hi] at this
    simpa using this
  rw [a, b]; rfl
end Go.Proofs.Ytolilbcpfdnkjaa

/- cursor: Read. -/
namespace Go.Proofs.Ytolilbcpfdnkjaa
open Go.RowKit
set_option linter.unusedSimpArgs false
set_option linter.unusedVariables false
theorem Row.caps {α : Type} {E : EK α} {w : World} {B n c : Nat} {a : Option Addr} {l : List α} (h : Row E w B (.slice a n c) l) : l.length ≤ c ∧ c ≤ maxLen ∧ n = l.length ∧ (a = none → c = 0) := by
  rcases h.2 with ⟨e, q⟩ | ⟨_, _, _, e, _, _, r1, r2, _⟩
  · simp only [Value.slice.injEq] at e
    exact ⟨by rw [q]; exact Nat.zero_le _, by rw [e.2.2]; exact Nat.zero_le _, by rw [q]; exact e.2.1, fun _ => e.2.2⟩
  · simp only [Value.slice.injEq] at e
    exact ⟨by rw [e.2.2]; exact r1, by rw [e.2.2]; exact r2, e.2.1, fun q => by rw [q] at e; cases e.1⟩
/-- A part of what can be read. -/
theorem Arg.cut {α : Type} {E : EK α} {w : World} {a : Option Addr} {n c c' : Nat} {l : List α} (h : Arg E w (.slice a n c) l) (k m : Nat) (hm : m = (l.drop k).length) (hn : a ≠ none) (s : Nat) (hs : E.size = s) : Arg E w (.slice (Option.map (fun x => x.add (k * s)) a) m c') (l.drop k) := by
  subst hs
  obtain ⟨a', c2, e, h⟩ := h
  simp only [Value.slice.injEq] at e
  obtain ⟨rfl, -, rfl⟩ := e
  rcases h with ⟨q, _⟩ | ⟨x, rfl, hc⟩
  · exact absurd q hn
  · refine ⟨some (x.add (k * E.size)), c', by rw [hm]; rfl, Or.inr ⟨_, rfl, fun j u hj => ?_⟩⟩
    have hjl : j < (l.drop k).length * E.size := by
      have := (List.getElem?_eq_some_iff.1 hj).1
      rwa [E.flat_len] at this
    have hpos := E.pos
    have e1 : j = j / E.size * E.size + j % E.size := by rw [Nat.mul_comm]; exact (Nat.div_add_mod _ _).symm
    have e2 := E.flat_get (l.drop k) (j / E.size) (j % E.size) (Nat.mod_lt j hpos)
    have e3 := E.flat_get l (k + j / E.size) (j % E.size) (Nat.mod_lt j hpos)
    rw [← e1, hj] at e2
    rw [List.getElem?_drop] at e2
    rw [← e2] at e3
    have := hc _ u e3
    rw [show (k + j / E.size) * E.size + j % E.size = k * E.size + j from by rw [Nat.add_mul]; omega] at this
    rw [← this, Go.Deep.add_add]
theorem Arg.pre {α : Type} {E : EK α} {w : World} {a : Option Addr} {n c : Nat} {l : List α} (h : Arg E w (.slice a n c) l) (hn : a ≠ none) (t m : Nat) (hm : m = (l.take t).length) : Arg E w (.slice a m c) (l.take t) := by
  obtain ⟨a', c2, e, h⟩ := h
  simp only [Value.slice.injEq] at e
  obtain ⟨rfl, -, rfl⟩ := e
  rcases h with ⟨q, _⟩ | ⟨x, rfl, hc⟩
  · exact absurd q hn
  · refine ⟨_, c, by rw [hm], Or.inr ⟨x, rfl, fun j u hj => hc j u ?_⟩⟩
    have : l.flatMap E.enc = (l.take t).flatMap E.enc ++ (l.drop t).flatMap E.enc := by rw [← List.flatMap_append, List.take_append_drop]
    rw [this, List.getElem?_append_left (List.getElem?_eq_some_iff.1 hj).1]; exact hj
theorem Arg.none_left {α : Type} {E : EK α} {w : World} {a : Option Addr} : Arg E w (.slice a 0 0) ([] : List α) := by
  cases a with
  | none => exact Arg.nil E w
  | some x => exact ⟨some x, 0, rfl, Or.inr ⟨x, rfl, fun j u hj => by simp at hj⟩⟩
theorem valid_any (w : World) (c : Int) : Calls Try.prog 37 #[.int .i64 c] w fun e w' => e = .returned (.bool (decide (0 ≤ c))) ∧ w' = w := by
  go_enter Try.func37, Try.ntmps37
  go_wp2_with fail
  go_ret
  exact ⟨by first | rfl | simp, rfl⟩
theorem read1_any (w : World) (bl bc g off cap : Nat) (l : List Ent) (c : Int) (i : Nat) (x : Ent) (hx : l[i]? = some x) (h : Arg EEnt w (.slice (some ⟨g, off, none⟩) l.length cap) l)
    (hb : w.heap[bl]? = some (.cells #[.slice (some ⟨g, off, none⟩) l.length cap] 33 (0, 0))) (hc : w.heap[bc]? = some (.cells #[.int .i64 c] 2 (0, 0))) :
    Calls Try.prog 48 #[.int .i64 i, .pointer (some ⟨bl, 0, none⟩), .pointer (some ⟨bc, 0, none⟩)] w fun e w' => e = .returned (.bool (decide (c < x.cookie))) ∧ Below w.heap.size w w' := by
  have c0 : w.cell? ⟨bl, 0, none⟩ = some (.slice (some ⟨g, off, none⟩) l.length cap) := (m_cells hb).1 0
  have c1 : w.cell? ⟨bc, 0, none⟩ = some (.int .i64 c) := (m_cells hc).1 0
  obtain ⟨g', off', hg, -, k0, k1, k2, k3, k4⟩ := ent_cells h i x hx
  simp only [Option.some.injEq, Addr.mk.injEq] at hg
  obtain ⟨rfl, rfl, -⟩ := hg
  have i1 : (i : Int) < l.length := by have := (List.getElem?_eq_some_iff.1 hx).1; omega
  clear h hb hc hx
  go_enter Try.func48, Try.ntmps48
  go_wp2_with fail
  go_quiet (fail)
  go_wp2_with fail
  go_ret
  exact ⟨rfl, rfl, rfl, rfl, Nat.le_refl _, fun _ _ => rfl⟩
set_option maxRecDepth 100000 in
set_option maxHeartbeats 2000000 in
theorem cread_any {v : Value} {l : List Ent} (w : World) (B : Nat) (c n : Int) (h : Row EEnt w B v l) (hl : l.length ≤ 1000000) (hs : (l.map (·.cookie)).Pairwise (· < ·)) :
    Calls Try.prog 22 #[v, .int .i64 c, .int .i64 n] w fun e w' => ∃ v', e = .returned (.tuple #[v', .int .i64 (readT l c n).2.1, .int .i64 (readT l c n).2.2]) ∧ Row EEnt w' w.heap.size v' (readT l c n).1 ∧ Below w.heap.size w w' := by
  obtain ⟨a, cap, rfl⟩ := h.shape
  have H := Lib.hid h
  clear h
  go_enter Try.func22, Try.ntmps22
  by_cases n1 : n < 1
  · have d1 : decide (n < 1) = true := decide_eq_true n1
    have HR := Lib.hid (show readT l c n = ([], 0, 1) from by unfold readT; rw [if_pos (Or.inl n1)])
    go_wp2_with fail
    go_ret3
    rw [HR.out]
    exact ⟨_, rfl, Row.nil _ _ _, ((Below.refl _ w).alloc (Nat.le_refl _) _).alloc (by simp) _⟩
  · have d1 : decide (n < 1) = false := decide_eq_false n1
    by_cases n2 : 64 < n
    · have d2 : decide (64 < n) = true := decide_eq_true n2
      have HR := Lib.hid (show readT l c n = ([], 0, 1) from by unfold readT; rw [if_pos (Or.inr n2)])
      go_wp2_with fail
      go_ret3
      rw [HR.out]
      exact ⟨_, rfl, Row.nil _ _ _, ((Below.refl _ w).alloc (Nat.le_refl _) _).alloc (by simp) _⟩
    · have d2 : decide (64 < n) = false := decide_eq_false n2
      have b1 := m_old (.cells #[.int .i64 c] 2) (m_alloc w (.cells #[.slice a l.length cap] 33) w.heap.size rfl)
      have b2 := m_alloc (w.alloc (.cells #[.slice a l.length cap] 33)) (.cells #[.int .i64 c] 2) (w.heap.size + 1) (by simp)
      by_cases hc : c < 0
      · have hv : ∀ w', Calls Try.prog 37 #[.int .i64 c] w' fun e w2 => e = .returned (.bool false) ∧ w2 = w' := fun w' => by
          have := valid_any w' c
          rwa [decide_eq_false (show ¬ 0 ≤ c by omega)] at this
        have HV := Lib.hid hv
        have HR := Lib.hid (show readT l c n = ([], 0, 14) from by unfold readT; rw [if_neg (by omega), if_pos hc])
        clear hv
        go_wp2_with fail
        refine (HV.out _).mono ?_
        rintro e w1 ⟨rfl, rfl⟩
        go_wp2_with fail
        go_ret3
        rw [HR.out]
        exact ⟨_, rfl, Row.nil _ _ _, ((Below.refl _ w).alloc (Nat.le_refl _) _).alloc (by simp) _⟩
      · have hv : ∀ w', Calls Try.prog 37 #[.int .i64 c] w' fun e w2 => e = .returned (.bool true) ∧ w2 = w' := fun w' => by
          have := valid_any w' c
          rwa [decide_eq_true (show 0 ≤ c by omega)] at this
        have HV := Lib.hid hv
        have HR := Lib.hid (show readT l c n = (behind l c n, lastC (behind l c n) c, 0) from by unfold readT; rw [if_neg (by omega), if_neg hc])
        have hbw : Below w.heap.size w ((w.alloc (.cells #[.slice a l.length cap] 33)).alloc (.cells #[.int .i64 c] 2)) := ((Below.refl _ w).alloc (Nat.le_refl _) _).alloc (by simp) _
        have HB := Lib.hid hbw
        have hse : Calls Try.prog 47 #[.int .i64 l.length, .func (.func 48) #[] #[.pointer (some ⟨w.heap.size, 0, none⟩), .pointer (some ⟨w.heap.size + 1, 0, none⟩)]] ((w.alloc (.cells #[.slice a l.length cap] 33)).alloc (.cells #[.int .i64 c] 2))
            fun e w' => ∃ k : Nat, e = .returned (.int .i64 k) ∧ FromAt l.length (fun i => decide (c < (l.getD i Ent.zero).cookie)) k ∧ Below ((w.alloc (.cells #[.slice a l.length cap] 33)).alloc (.cells #[.int .i64 c] 2)).heap.size ((w.alloc (.cells #[.slice a l.length cap] 33)).alloc (.cells #[.int .i64 c] 2)) w' := by
          refine search_any _ l.length (fun i => decide (c < (l.getD i Ent.zero).cookie)) _ _ hl (fun args w => by kernel_rfl) (fun i hi w' hb => ?_) (fun x y hxy hy hp => ?_)
          · obtain ⟨x, hx⟩ : ∃ x, l[i]? = some x := ⟨_, List.getElem?_eq_getElem hi⟩
            have ha := (H.out.arg.below hbw).below hb
            obtain ⟨g, off, rfl, -⟩ := ent_cells ha i x hx
            have := read1_any w' w.heap.size (w.heap.size + 1) g off cap l c i x hx ha (by rw [hb.block _ (m_lt b1)]; exact b1) (by rw [hb.block _ (m_lt b2)]; exact b2)
            rw [show l.getD i Ent.zero = x from by rw [List.getD_eq_getElem?_getD, hx]; rfl]
            exact this
          · have hx : x < l.length := by omega
            rw [List.getD_eq_getElem?_getD, List.getElem?_eq_getElem hx] at hp
            rw [List.getD_eq_getElem?_getD, List.getElem?_eq_getElem hy]
            simp only [Option.getD_some, decide_eq_true_eq] at hp ⊢
            rcases Nat.lt_or_ge x y with q | q
            · have := List.pairwise_iff_getElem.1 hs x y (by simpa using hx) (by simpa using hy) q
              simp only [List.getElem_map] at this
              omega
            · have : x = y := by omega
              subst this; exact hp
        have HSE := Lib.hid hse
        clear hv hse hbw
        go_wp2_with fail
        refine (HV.out _).mono ?_
        rintro e w1 ⟨rfl, rfl⟩
        go_wp2_with fail
        refine HSE.out.mono ?_
        rintro e w1 ⟨k, rfl, hk, hb1⟩
        have HF := Lib.hid (filter_from hk)
        have hkl := hk.1
        have c1 : w1.cell? ⟨w.heap.size, 0, none⟩ = some (.slice a l.length cap) := by
          have := (m_cells (b1)).1 0
          rw [hb1.cell (m_lt b1)]; exact this
        have c2 : w1.cell? ⟨w.heap.size + 1, 0, none⟩ = some (.int .i64 c) := by
          have := (m_cells (b2)).1 0
          rw [hb1.cell (m_lt b2)]; exact this
        have HB1 := Lib.hid (HB.out.trans (hb1.mono HB.out.size))
        have HBK := Lib.hid (show w1.heap[w.heap.size + 1]? = some (.cells #[.int .i64 c] 2 (0, 0)) from by rw [hb1.block _ (m_lt b2)]; exact b2)
        obtain ⟨hcap, hcm, -, hnone⟩ := H.out.caps
        have hbe : behind l c n = (l.drop k).take n.toNat := by unfold behind; rw [HF.out]
        have hm : (min ((k : Int) + n) (l.length : Int)).toNat - k = (behind l c n).length := by rw [hbe, List.length_take, List.length_drop]; omega
        have ha1 := (H.out.arg.below HB1.out)
        have HX := Lib.hid (fun (k1 : k < cap) => show Arg EEnt w1 (.slice (Option.map (fun x => x.add (k * 5)) a) (behind l c n).length (cap - k)) (behind l c n) from by
          rw [hbe]
          have hn : a ≠ none := fun q => by have := hnone q; omega
          exact (ha1.cut (c' := cap - k) k (l.drop k).length rfl hn 5 rfl).pre (by cases a <;> simp at hn ⊢) n.toNat _ rfl)
        have HY := Lib.hid (fun (k1 : ¬ k < cap) => show behind l c n = [] ∧ cap = k from by
          refine ⟨?_, by omega⟩
          rw [hbe, List.drop_eq_nil_of_le (by omega), List.take_nil])
        generalize hE : behind l c n = E at hm HX HY HR
        have HE := Lib.hid hE
        have hel : E.length ≤ l.length := by rw [← hE, hbe, List.length_take, List.length_drop]; omega
        clear b1 b2 hk hb1 HSE hbe ha1 hE HF hs
        -- behind the clone
        have hend : ∀ v, Arg EEnt w1 v E → Calls Try.prog 39 #[v] w1 fun e w' => ∃ v', e = .returned v' ∧ Row EEnt w' w1.heap.size v' E ∧ Below w1.heap.size w1 w' := fun v q => eclone_any w1 q (by omega)
        have HEND := Lib.hid hend
        clear hend
        have hlast : ∀ x, E.getLast? = some x → lastC E c = x.cookie := fun x q => by unfold lastC; rw [q]
        have HLAST := Lib.hid hlast
        have h1lt : w.heap.size + 1 < w1.heap.size := World.block_lt_of_cell? _ _ c2
        clear hlast
        by_cases k1 : k < cap
        · have k2 : (k : Int) < cap := by omega
          have HX1 := Lib.hid (HX.out k1)
          clear HX HY
          go_wp2_with fail
          refine (HEND.out _ HX1.out).mono ?_
          rintro e w2 ⟨v2, rfl, hr2, hb2⟩
          have HR2 := Lib.hid hr2
          have c3 := cell_later hb2 c2
          have HBK2 := Lib.hid (show w2.heap[w.heap.size + 1]? = some (.cells #[.int .i64 c] 2 (0, 0)) from by rw [hb2.block _ h1lt]; exact HBK.out)
          have HB2 := Lib.hid (HB1.out.trans (hb2.mono HB1.out.size))
          obtain ⟨a2, q2, rfl⟩ := hr2.shape
          clear hr2 hb2 c1
          by_cases h0 : E = []
          · subst h0
            have HL0 := Lib.hid (show lastC [] c = c from rfl)
            go_wp2_with fail
            go_quiet (fail)
            go_wp2_with fail
            go_ret3
            rw [HR.out]
            refine ⟨_, rfl, ?_, ?_⟩
            · exact ((HR2.out.raise (B' := w.heap.size) (fun k q => by have := HR2.out.ge q; omega)).qt (Qt.drewN _ _))
            · exact ⟨HB2.out.os, HB2.out.tape, HB2.out.output, HB2.out.size, HB2.out.block⟩
          · have hpos0 : 0 < E.length := List.length_pos_iff.2 h0
            have hpos : (0 : Int) < E.length := by omega
            have hdp : decide (0 < E.length) = true := decide_eq_true hpos0
            obtain ⟨x, hx⟩ : ∃ x, E.getLast? = some x := ⟨_, List.getLast?_eq_some_getLast h0⟩
            have HLC := Lib.hid (HLAST.out x hx)
            rw [List.getLast?_eq_getElem?] at hx
            obtain ⟨g, off, rfl, -, -, -, -, k3, -⟩ := ent_cells HR2.out.arg _ x hx
            have hfz : w2.frozen? ⟨w.heap.size + 1, 0, none⟩ = false := (m_cells HBK2.out).2 0
            have HGE := Lib.hid (show w1.heap.size ≤ g from HR2.out.ge rfl)
            clear hx
            go_wp2_with fail
            have HB3 := Lib.hid (show Below w.heap.size w (w2.setCell ⟨w.heap.size + 1, 0, none⟩ (.int .i64 x.cookie)) from HB2.out.setCell (by simp) _)
            have c4 : (w2.setCell ⟨w.heap.size + 1, 0, none⟩ (.int .i64 x.cookie)).cell? ⟨w.heap.size + 1, 0, none⟩ = some (.int .i64 x.cookie) := (m_cells (m_set HBK2.out 0 _)).1 0
            have HR3 := Lib.hid (show Row EEnt (w2.setCell ⟨w.heap.size + 1, 0, none⟩ (.int .i64 x.cookie)) w.heap.size (.slice (some ⟨g, off, none⟩) E.length q2) E from
              (HR2.out.kept (fun k q => Below.heap_setCell _ _ _ _ (by have := HR2.out.ge q; show k ≠ w.heap.size + 1; omega))).raise (fun k q => by have := HR2.out.ge q; omega))
            generalize hW3 : w2.setCell ⟨w.heap.size + 1, 0, none⟩ (.int .i64 x.cookie) = w3 at *
            clear hW3
            go_quiet (fail)
            go_wp2_with fail
            go_ret3
            rw [HR.out, HLC.out]
            refine ⟨_, rfl, ?_, ?_⟩
            · exact HR3.out.qt (Qt.drewN _ _)
            · exact ⟨HB3.out.os, HB3.out.tape, HB3.out.output, HB3.out.size, HB3.out.block⟩
        · obtain ⟨e0, ek⟩ := HY.out k1
          subst e0
          subst ek
          have HL0 := Lib.hid (show lastC [] c = c from rfl)
          have k2 : ¬ (cap : Int) < cap := by omega
          clear HX HY
          go_wp2_with fail
          refine (HEND.out _ Arg.none_left).mono ?_
          rintro e w2 ⟨v2, rfl, hr2, hb2⟩
          have HR2 := Lib.hid hr2
          have c3 := cell_later hb2 c2
          have HB2 := Lib.hid (HB1.out.trans (hb2.mono HB1.out.size))
          obtain ⟨a2, q2, rfl⟩ := hr2.shape
          clear hr2 hb2 c1
          go_wp2_with fail
          go_quiet (fail)
          go_wp2_with fail
          go_ret3
          rw [HR.out]
          refine ⟨_, rfl, ?_, ?_⟩
          · exact ((HR2.out.raise (B' := w.heap.size) (fun k q => by have := HR2.out.ge q; omega)).qt (Qt.drewN _ _))
          · exact ⟨HB2.out.os, HB2.out.tape, HB2.out.output, HB2.out.size, HB2.out.block⟩
end Go.Proofs.Ytolilbcpfdnkjaa

/- cursor: a tree of a law's own beside other blocks; awake; reading on, in plain Lean. -/
namespace Go.Proofs.Ytolilbcpfdnkjaa
open Go.RowKit
set_option linter.unusedSimpArgs false
set_option linter.unusedVariables false
set_option maxRecDepth 100000 in
set_option maxHeartbeats 1000000 in
theorem awake16_any (w : World) : Calls Try.prog 21 #[] w fun e w' => e = .returned (.bool true) ∧ Below w.heap.size w w' := by
  have HR := Lib.hid (fun (W : World) => show Row EEnt (W.alloc (.cells #[.string ⟨#[]⟩, .int .i64 0, .bool false, .int .i64 2, .int .i64 0, .string ⟨#[]⟩, .int .i64 0, .bool false, .int .i64 5, .int .i64 0] 40)) W.heap.size (.slice (some ⟨W.heap.size, 0, none⟩) 2 2) [⟨⟨#[]⟩, 0, false, 2, 0⟩, ⟨⟨#[]⟩, 0, false, 5, 0⟩] from
    Row.new (E := EEnt) W W.heap.size _ [(⟨⟨#[]⟩, 0, false, 2, 0⟩ : Ent), (⟨⟨#[]⟩, 0, false, 5, 0⟩ : Ent)] (Nat.le_refl _) rfl (by decide))
  have HT := Lib.hid (show readT [(⟨⟨#[]⟩, 0, false, 2, 0⟩ : Ent), ⟨⟨#[]⟩, 0, false, 5, 0⟩] 2 1 = ([(⟨⟨#[]⟩, 0, false, 5, 0⟩ : Ent)], 5, 0) from rfl)
  go_enter Try.func21, Try.ntmps21
  go_wp2_with fail
  refine (cread_any _ _ 2 1 (HR.out w) (by decide) (by decide)).mono ?_
  rw [HT.out]
  rintro e w1 ⟨v, rfl, hr, hb⟩
  obtain ⟨a1, k1, rfl⟩ := hr.shape
  have HB := Lib.hid (((Below.refl _ w).alloc (Nat.le_refl _) _).trans (hb.mono (by simp)))
  clear hr hb
  go_wp2_with fail
  refine (valid_any _ 0).mono ?_
  rintro e w2 ⟨rfl, rfl⟩
  go_wp2_with fail
  go_ret
  exact ⟨rfl, HB.out⟩
theorem lastC_append (a b : List Ent) (c : Int) : lastC (a ++ b) c = lastC b (lastC a c) := by
  unfold lastC
  rw [List.getLast?_append]
  cases b.getLast? <;> simp
theorem lastC_some {l : List Ent} {c : Int} {x : Ent} (h : l.getLast? = some x) : lastC l c = x.cookie := by unfold lastC; rw [h]
/-- Reading on from where one stands. -/
theorem read_from {l : List Ent} (hs : (l.map (·.cookie)).Pairwise (· < ·)) (hp : ∀ x ∈ l, 1 ≤ x.cookie) (k : Nat) (hk : k ≤ l.length) (n : Nat) (h1 : 1 ≤ n) (h2 : n ≤ 64) :
    readT l (lastC (l.take k) 0) n = ((l.drop k).take n, lastC (l.take (k + n)) 0, 0) := by
  have hlt : ∀ (i j : Nat) (x y : Ent), l[i]? = some x → l[j]? = some y → i < j → x.cookie < y.cookie := fun i j x y hx hy hij => by
    obtain ⟨a1, a2⟩ := List.getElem?_eq_some_iff.1 hx
    obtain ⟨b1, b2⟩ := List.getElem?_eq_some_iff.1 hy
    have := List.pairwise_iff_getElem.1 hs i j (by simpa using a1) (by simpa using b1) hij
    simp only [List.getElem_map] at this
    rw [← a2, ← b2]; exact this
  have hc0 : 0 ≤ lastC (l.take k) 0 := by
    cases h : (l.take k).getLast? with
    | none => unfold lastC; rw [h]; exact Int.le_refl _
    | some x =>
      rw [lastC_some h]
      have := hp x (List.mem_of_mem_take (List.mem_of_getLast? h)); omega
  have hf : FromAt l.length (fun i => decide (lastC (l.take k) 0 < (l.getD i Ent.zero).cookie)) k := by
    refine ⟨hk, fun t ht => ?_, fun t h3 h4 => ?_⟩
    · obtain ⟨x, hx⟩ : ∃ x, l[t]? = some x := ⟨_, List.getElem?_eq_getElem (by omega)⟩
      obtain ⟨y, hy⟩ : ∃ y, l[k - 1]? = some y := ⟨_, List.getElem?_eq_getElem (by omega)⟩
      have hl : (l.take k).getLast? = some y := by
        rw [List.getLast?_eq_getElem?, List.length_take, List.getElem?_take_of_lt (by omega), show min k l.length - 1 = k - 1 by omega]; exact hy
      rw [lastC_some hl]
      show decide (_ < (l.getD t Ent.zero).cookie) = false
      rw [List.getD_eq_getElem?_getD, hx]
      simp only [Option.getD_some, decide_eq_false_iff_not]
      rcases Nat.lt_or_ge t (k - 1) with q | q
      · have := hlt _ _ _ _ hx hy q; omega
      · have : t = k - 1 := by omega
        subst this
        rw [hx] at hy; cases hy; omega
    · obtain ⟨x, hx⟩ : ∃ x, l[t]? = some x := ⟨_, List.getElem?_eq_getElem h4⟩
      show decide (_ < (l.getD t Ent.zero).cookie) = true
      rw [List.getD_eq_getElem?_getD, hx]
      simp only [Option.getD_some, decide_eq_true_eq]
      cases h : (l.take k).getLast? with
      | none =>
        have : lastC (l.take k) 0 = 0 := by unfold lastC; rw [h]
        rw [this]
        have := hp x (List.mem_of_getElem? hx); omega
      | some y =>
        rw [lastC_some h]
        rw [List.getLast?_eq_getElem?, List.length_take] at h
        have hk0 : 0 < k := by
          rcases Nat.eq_zero_or_pos k with q | q
          · subst q; simp at h
          · exact q
        rw [List.getElem?_take_of_lt (by omega)] at h
        exact hlt _ _ _ _ h hx (by omega)
  have hb : behind l (lastC (l.take k) 0) n = (l.drop k).take n := by unfold behind; rw [filter_from hf]; rfl
  unfold readT
  rw [if_neg (by omega), if_neg (by omega), hb, List.take_add, lastC_append]
theorem entries_sorted {L : List Itm} {next : Int} (h : TInv L next) (d : Int) : ((entries L d).map (·.cookie)).Pairwise (· < ·) := by
  unfold entries
  rw [List.map_map]
  exact h.ck.sublist (List.Sublist.map _ List.filter_sublist)
theorem entries_cookie {L : List Itm} {next : Int} (h : TInv L next) (d : Int) : ∀ x ∈ entries L d, 1 ≤ x.cookie ∧ x.cookie < next := by
  intro x hx
  obtain ⟨i, hi, -, rfl⟩ := mem_entries.1 hx
  exact h.cb i hi
theorem entries_len {L : List Itm} {next : Int} (h : TInv L next) (d : Int) : (entries L d).length ≤ 200 := by
  unfold entries
  rw [List.length_map]
  exact Nat.le_trans (List.length_filter_le _ _) h.len
end Go.Proofs.Ytolilbcpfdnkjaa

/- CursorAll: the walk. -/
namespace Go.Proofs.Ytolilbcpfdnkjaa
open Go.RowKit
set_option linter.unusedSimpArgs false
set_option linter.unusedVariables false
def DoRel16 (w0 w : World) (g : Nat) (i : Nat) : Prop := ∃ L next, OwnT w0 w g L next ∧ TInv L next ∧ next ≤ i + 1
/-- How far one has read. -/
def AllRel (w0 : World) (E : List Ent) (av cv iv : Value) (lv : Value) (wr : World) : Prop :=
  ∃ i k : Nat, iv = .int .i64 i ∧ i ≤ E.length + 1 ∧ min i E.length ≤ k ∧ k ≤ E.length ∧ cv = .int .i64 (lastC (E.take k) 0) ∧ Row EEnt wr w0.heap.size av (E.take k) ∧ Row EEnt wr w0.heap.size lv E ∧ Below w0.heap.size w0 wr
set_option maxRecDepth 100000 in
set_option maxHeartbeats 4000000 in
theorem cursorall_walk (w : World) (v : Value) (l : List Op1) (n : Nat) (h : Arg EOp w v l) (ml : l.length ≤ maxLen) (hok : ∀ o ∈ l, (o.name.size ≤ maxLen ∧ o.as_.size ≤ maxLen) ∧ o.kind < 256) (hn : n < 256) :
    Calls Try.prog 4 #[v, .int .u8 n] w fun e w' => e = .returned (.bool true) ∧ Below w.heap.size w w' := by
  obtain ⟨va, vc, rfl⟩ := h.shape
  have H := Lib.hid h
  have HOK := Lib.hid hok
  clear h hok
  go_enter Try.func4, Try.ntmps4
  go_wp2_with fail
  refine (awake16_any w).mono ?_
  rintro e w1 ⟨rfl, hb1⟩
  have HB1 := Lib.hid hb1
  clear hb1
  go_wp2_with fail
  refine (few10_any w1 _ l 60 (H.out.below HB1.out) ml (fun o ho => (HOK.out o ho).1)).mono ?_
  rintro e w2 ⟨b, rfl, ⟨fw, rfl, hfew⟩, hb2⟩
  have HB2 := Lib.hid (HB1.out.trans (hb2.mono HB1.out.size))
  have HFEW := Lib.hid hfew
  clear hb2 HB1 hfew
  cases fw
  · go_wp2_with fail
    refine (awake16_any _).mono ?_
    rintro e w3 ⟨rfl, hb3⟩
    go_wp2_with fail
    go_ret
    exact ⟨rfl, HB2.out.trans (hb3.mono HB2.out.size)⟩
  · obtain ⟨hl60, hsm⟩ := HFEW.out rfl
    have hl60' : l.length ≤ 60 := by omega
    have HOW := Lib.hid (own_new w HB2.out)
    clear hl60 hsm HFEW
    go_wp2_with fail
    refine HOW.out.mono ?_
    rintro e w3 ⟨g, rfl, hown⟩
    have HOWN := Lib.hid hown
    clear hown HOW
    go_wp2_with fail
    go_loopw [6] (fun iv wr => ∃ i : Nat, iv = .int .i64 i ∧ i ≤ l.length ∧ DoRel16 w wr g i) (fun iv _ => l.length - (intOf iv).toNat)
    case atStart => exact ⟨0, rfl, Nat.zero_le _, [], 1, HOWN.out, TInv.new, by decide⟩
    case round =>
      obtain ⟨i, rfl, hi, L, next, ho, hti, hnx⟩ := hrel
      have HO := Lib.hid ho
      have HTI := Lib.hid hti
      have HNX := Lib.hid hnx
      clear ho hti hnx
      by_cases hlt : i < l.length
      · have i1 : (i : Int) < l.length := by omega
        obtain ⟨o, ho⟩ : ∃ o, l[i]? = some o := ⟨_, List.getElem?_eq_getElem hlt⟩
        have HBW := Lib.hid (show Below w.heap.size w wr from by obtain ⟨F, _, _, q⟩ := HO.out; exact q)
        obtain ⟨gb, off, rfl, -, k0, k1, k2, k3, k4, k5, k6⟩ := op1_cells H.out i o ho
        have k0 := cell_later HBW.out k0
        have k1 := cell_later HBW.out k1
        have k2 := cell_later HBW.out k2
        have k3 := cell_later HBW.out k3
        have k4 := cell_later HBW.out k4
        have k5 := cell_later HBW.out k5
        have k6 := cell_later HBW.out k6
        have HOO := Lib.hid (HOK.out o (List.mem_of_getElem? ho))
        have HDO := Lib.hid (own_do HO.out HTI.out (by have := HNX.out; omega) o HOO.out.2 HOO.out.1.1 HOO.out.1.2)
        clear ho
        go_wp2_with fail
        refine HDO.out.mono ?_
        rintro e w4 ⟨rfl, ho4⟩
        have HO4 := Lib.hid ho4
        clear ho4
        go_wp2_with fail
        refine ⟨⟨i + 1, by go_num, hlt, _, _, HO4.out, HTI.out.do_ o, ?_⟩, by simp [intOf]; omega⟩
        have h1 := (doT_next L next o).2
        have h2 := HNX.out
        push_cast; omega
      · have ei : i = l.length := by omega
        subst ei
        have i2 : ¬ ((l.length : Int) < l.length) := by omega
        have HL := Lib.hid (own_list HO.out HTI.out 0)
        have HBW := Lib.hid (show Below w.heap.size w wr from by obtain ⟨F, _, _, q⟩ := HO.out; exact q)
        have HE0 := Lib.hid (show listErr L 0 = 0 from by unfold listErr isDirB; simp)
        have HES := Lib.hid (entries_sorted HTI.out 0)
        have HEP := Lib.hid (fun x q => (entries_cookie HTI.out 0 x q).1)
        have hel := entries_len HTI.out 0
        go_wp2_with fail
        refine HL.out.mono ?_
        rw [HE0.out]
        rintro e w4 ⟨lv, l4, rfl, hr4, hle, -, hb4⟩
        have hle := hle rfl
        subst hle
        have HR4 := Lib.hid (hr4.raise (B' := w.heap.size) (fun k q => Nat.le_trans HBW.out.size (hr4.ge q)))
        have HB4 := Lib.hid (HBW.out.trans (hb4.mono HBW.out.size))
        obtain ⟨a4, c4, rfl⟩ := hr4.shape
        generalize hE : entries L 0 = E at *
        clear hr4 hb4 HL HTI HNX HO hE HE0
        go_wp2_with fail
        go_loopw [9, 10, 11] (fun av cv iv wr => AllRel w E av cv iv (.slice a4 E.length c4) wr) (fun _ _ iv _ => E.length + 1 - (intOf iv).toNat)
        case atStart => exact ⟨0, 0, rfl, Nat.zero_le _, Nat.zero_le _, Nat.zero_le _, rfl, Row.nil _ _ _, HR4.out, HB4.out⟩
        case round =>
          obtain ⟨i, k, rfl, hi, hik, hk, rfl, hra, hrl, hb⟩ := hrel
          obtain ⟨aa, ca, rfl⟩ := hra.shape
          have HRA := Lib.hid hra
          have HRL := Lib.hid hrl
          have HB := Lib.hid hb
          clear hra hrl hb
          by_cases hlt : i < E.length + 1
          · have i1 : (i : Int) ≤ E.length := by omega
            have HC := Lib.hid (cread_any wr w.heap.size (lastC (E.take k) 0) ((n % 64 + 1 : Nat) : Int) HRL.out (by omega) HES.out)
            have HT := Lib.hid (read_from HES.out HEP.out k hk (n % 64 + 1) (by omega) (by omega))
            have hal : (E.take k).length = k := by rw [List.length_take]; omega
            rw [HT.out, show ((n % 64 + 1 : Nat) : Int) = 1 + (n : Int) % 64 from by omega] at HC
            obtain ⟨C2, hC2⟩ : ∃ C2, lastC (E.take (k + (n % 64 + 1))) 0 = C2 := ⟨_, rfl⟩
            obtain ⟨C1, hC1⟩ : ∃ C1, lastC (E.take k) 0 = C1 := ⟨_, rfl⟩
            rw [hC1] at HC
            rw [hC1]
            rw [hC2] at HC
            obtain ⟨A, hA⟩ : ∃ A, E.take k = A := ⟨_, rfl⟩
            rw [hA] at HRA hal
            rw [hA]
            have HA := Lib.hid hA
            have HC2 := Lib.hid hC2
            have HAL := Lib.hid hal
            clear hA hC1 hC2 hal
            go_wp2_with fail
            refine HC.out.mono ?_
            rintro e w5 ⟨xv, rfl, hrx, hb5⟩
            have HRX := Lib.hid hrx
            have HB5 := Lib.hid (HB.out.trans (hb5.mono HB.out.size))
            have HRL5 := Lib.hid (HRL.out.below hb5)
            have HRA5 := Lib.hid (HRA.out.below hb5)
            obtain ⟨ax, cx, rfl⟩ := hrx.shape
            have hxl : ((E.drop k).take (n % 64 + 1)).length ≤ E.length := by rw [List.length_take, List.length_drop]; omega
            obtain ⟨X, hX⟩ : ∃ X, (E.drop k).take (n % 64 + 1) = X := ⟨_, rfl⟩
            rw [hX] at hxl HRX ⊢
            have HX := Lib.hid hX
            have HAX := Lib.hid (show A ++ X = E.take (k + (n % 64 + 1)) from by rw [List.take_add, HA.out, hX])
            clear hrx hb5 HC HT hX HRL HRA
            go_wp2_with (first
              | (have _hh := MARK2
                 refine app_row EEnt.laid rfl _ _ 33 33 Try.underlying33 Try.underlying33 rfl _ A rfl HR6.out _ X rfl ?e1 ?e2 ?e3 (Nat.le_trans HB5.out.size HB6.out.size) ?_
                 case e1 => exact HRX.out.arg.below HB6.out
                 case e2 => (show (A.length + X.length) * 48 ≤ _; have := HAL.out; omega)
                 case e3 => (show A.length + X.length ≤ maxLen; unfold maxLen; have := HAL.out; omega)
                 intro v7 w7 hr7 hv7 k7
                 have hb7 : Below w5.heap.size w5 w7 := HB6.out.trans (k7.toBelow HB6.out.size (fun i q => HG6.out i q.symm))
                 obtain ⟨a7, c7, rfl⟩ := hr7.shape
                 have HR7 := Lib.hid hr7
                 have HB7 := Lib.hid hb7
                 clear hr7 hv7 k7 hb7 MARK2 _hh)
              | (refine app_row EEnt.laid rfl _ _ 33 33 Try.underlying33 Try.underlying33 rfl _ [] rfl (Row.new w5 w.heap.size #[] [] HB5.out.size rfl (by decide)) _ A rfl ?e1 ?e2 ?e3 (Nat.le_trans HB5.out.size (by simp)) ?_
                 case e1 => exact HRA5.out.arg.below ((Below.refl _ _).alloc (Nat.le_refl _) _)
                 case e2 => (show (0 + A.length) * 48 ≤ _; have := HAL.out; omega)
                 case e3 => (show 0 + A.length ≤ maxLen; unfold maxLen; have := HAL.out; omega)
                 intro v6 w6 hr6 hv6 k6
                 have hb6 : Below w5.heap.size w5 w6 := ((Below.refl w5.heap.size w5).alloc (Nat.le_refl _) _).trans (k6.toBelow (B := w5.heap.size) (by simp) (fun i q => Nat.le_of_eq (Option.some.inj q).symm))
                 have HG6 := Lib.hid (show ∀ k, v6.ownBlock = some k → w5.heap.size ≤ k from fun k q => (hv6 k q).elim (fun e => Nat.le_of_eq (Option.some.inj e)) (fun e => Nat.le_trans (by simp) (Nat.le_of_eq e)))
                 obtain ⟨a6, c6, rfl⟩ := hr6.shape
                 rw [List.nil_append] at hr6 ⊢
                 have HR6 := Lib.hid hr6
                 have HB6 := Lib.hid hb6
                 have MARK2 : True := trivial
                 clear hr6 hv6 k6 hb6))
            have htm : E.take (k + (n % 64 + 1)) = E.take (min (k + (n % 64 + 1)) E.length) := by
              rcases Nat.le_total (k + (n % 64 + 1)) E.length with q | q
              · rw [Nat.min_eq_left q]
              · rw [Nat.min_eq_right q, List.take_length, List.take_of_length_le q]
            have HR8 := HR7.out
            rw [List.length_append, HAX.out, htm] at HR8
            refine ⟨⟨i + 1, min (k + (n % 64 + 1)) E.length, by go_num, by omega, by omega, Nat.min_le_right _ _, by rw [← htm, HC2.out], HR8, HRL5.out.below HB7.out, HB5.out.trans (HB7.out.mono HB5.out.size)⟩, by simp [intOf]; omega⟩
          · have ei : i = E.length + 1 := by omega
            subst ei
            have i2 : ¬ (((E.length + 1 : Nat) : Int) ≤ E.length) := by omega
            have ek : k = E.length := by omega
            subst ek
            rw [List.take_length] at HRA
            go_wp2_with fail
            refine (same_any _ _ _ HRA.out.arg HRL.out.arg (by unfold maxLen; omega) (by unfold maxLen; omega)).mono ?_
            rintro e w7 ⟨rfl, hb7⟩
            rw [decide_eq_true (rfl : E = E)]
            go_wp2_with fail
            go_ret
            exact ⟨rfl, HB.out.trans (hb7.mono HB.out.size)⟩
end Go.Proofs.Ytolilbcpfdnkjaa
