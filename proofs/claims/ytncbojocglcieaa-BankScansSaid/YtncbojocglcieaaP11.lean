/- bank: a bank that is wiped from its end on. -/
import Derived.Test.YtncbojocglcieaaP9
namespace Go.Proofs.Ytncbojocglcieaa
open Go.RowKit
set_option linter.unusedSimpArgs false
set_option linter.unusedVariables false
/-- Sectors that are wiped: no error, and noughts. -/
theorem wipes_ok : ∀ (n : Nat) (d : DevD) (pos : Int), d.left = -1 → (d.wipes pos n).2 = 0 ∧ (d.wipes pos n).1.left = -1 ∧ (d.wipes pos n).1.size = d.size ∧ (d.wipes pos n).1.queue.length ≤ d.queue.length + n ∧
    ∀ i, (d.wipes pos n).1.sec i = if pos ≤ i ∧ i < pos + n then zsec else d.sec i := by
  intro n
  induction n with
  | zero => intro d pos h; exact ⟨rfl, h, rfl, Nat.le_add_right _ _, fun i => by rw [if_neg (by omega)]; rfl⟩
  | succ n ih =>
    intro d pos h
    rw [DevD.wipes, if_neg (by rw [h]; decide)]
    by_cases e : d.sec pos = zsec
    · rw [if_pos e]
      obtain ⟨i1, i2, i3, i4, i5⟩ := ih d (pos + 1) h
      refine ⟨i1, i2, i3, by omega, fun i => ?_⟩
      rw [i5]
      by_cases q : i = pos
      · subst q; rw [if_neg (by omega), if_pos (by omega), e]
      · by_cases q2 : pos + 1 ≤ i ∧ i < pos + 1 + n
        · rw [if_pos q2, if_pos (by omega)]
        · rw [if_neg q2, if_neg (by omega)]
    · rw [if_neg e]
      have hl : (d.put pos zsec).left = -1 := by unfold DevD.put; simp [h]
      obtain ⟨p1, p2, p3⟩ := put_parts d pos zsec
      obtain ⟨i1, i2, i3, i4, i5⟩ := ih (d.put pos zsec) (pos + 1) hl
      refine ⟨i1, i2, by rw [i3, p1], by omega, fun i => ?_⟩
      rw [i5, put_sec]
      by_cases q : i = pos
      · subst q; rw [if_neg (by omega), if_pos rfl, if_pos (by omega)]
      · rw [if_neg q]
        by_cases q2 : pos + 1 ≤ i ∧ i < pos + 1 + n
        · rw [if_pos q2, if_pos (by omega)]
        · rw [if_neg q2, if_neg (by omega)]
/-- Scanned, wiped from the end on, and scanned anew. -/
theorem scan_wipe {d : DevD} (n : Nat) (h : d.left = -1) (hn : 1 ≤ n) (hs : n ≤ d.size) (h64 : ∀ i, (d.sec i).size = 64) :
    ∃ (rs : List (List UInt8)) (a : Nat) (D : DevD), d.scan 0 n = (rs, (a : Int), 0) ∧ (scanned ((d.secs 0 n).drop 1)).1 = rs ∧ 1 + (scanned ((d.secs 0 n).drop 1)).2 = a ∧ 1 ≤ a ∧ a ≤ n ∧ d.wipe 0 n a = (D, 0) ∧ D.left = -1 ∧ D.size = d.size ∧ D.queue.length ≤ d.queue.length + n ∧
      (∀ i, (D.sec i).size = 64) ∧ D.scan 0 n = (rs, (a : Int), 0) ∧ ∀ i : Nat, a ≤ i → i < n → D.sec i = zsec := by
  have hon : ∀ e : DevD, e.size = d.size → e.on 0 n = true := by
    intro e he
    unfold DevD.on; rw [decide_eq_true_eq, he]; omega
  have hsc : ∀ e : DevD, e.left = -1 → e.size = d.size → e.scan 0 n = ((scanned ((e.secs 0 n).drop 1)).1, ((1 + (scanned ((e.secs 0 n).drop 1)).2 : Nat) : Int), 0) := by
    intro e h1 h2
    unfold DevD.scan
    rw [if_neg (by rw [h1]; decide), if_neg (by rw [hon e h2]; decide)]; rfl
  have hF64 : ∀ x ∈ (d.secs 0 n).drop 1, x.size = 64 := by
    intro x hx
    have := List.mem_of_mem_drop hx
    unfold DevD.secs at this
    obtain ⟨i, _, rfl⟩ := List.mem_map.1 this
    exact h64 _
  have hFl : ((d.secs 0 n).drop 1).length = n - 1 := by rw [List.length_drop, secs_length]
  have hle := scanned_le _ _ (Nat.le_refl _) hF64
  obtain ⟨r1, r2, r3⟩ := scanned_recs _ _ (Nat.le_refl _) hF64
  rw [hFl] at hle
  obtain ⟨m, hm⟩ : ∃ m, (scanned ((d.secs 0 n).drop 1)).2 = m := ⟨_, rfl⟩
  rw [hm] at hle r1 r3
  have hwe : d.wipe 0 n ((1 + m : Nat) : Int) = d.wipes ((1 + m : Nat) : Int) (n - (1 + m)) := by
    unfold DevD.wipe
    rw [if_neg (by rw [h]; decide), if_neg (by rw [hon d rfl]; decide), show max (((1 + m : Nat) : Int)) 1 = ((1 + m : Nat) : Int) from by omega, Int.zero_add]
    congr 1; omega
  obtain ⟨w1, w2, w3, w4, w5⟩ := wipes_ok (n - (1 + m)) d ((1 + m : Nat) : Int) h
  obtain ⟨D, hD⟩ : ∃ D, (d.wipes ((1 + m : Nat) : Int) (n - (1 + m))).1 = D := ⟨_, rfl⟩
  rw [hD] at w2 w3 w4 w5
  have hsec : (D.secs 0 n).drop 1 = (scanned ((d.secs 0 n).drop 1)).1.flatMap cutL ++ List.replicate (n - (1 + m)) zsec := by
    rw [r1]
    apply List.ext_getElem?
    intro p
    by_cases hp : 1 + p < n
    · rw [List.getElem?_drop, secs_get _ _ _ _ hp, w5]
      by_cases h1 : p < m
      · rw [if_neg (by omega), List.getElem?_append_left (by rw [List.length_take, hFl]; omega), List.getElem?_take_of_lt h1, List.getElem?_drop, secs_get _ _ _ _ hp]
      · rw [if_pos (by omega), List.getElem?_append_right (by rw [List.length_take, hFl]; omega), List.getElem?_replicate, if_pos (by rw [List.length_take, hFl]; omega)]
    · rw [List.getElem?_eq_none (by rw [List.length_drop, secs_length]; omega), List.getElem?_eq_none (by rw [List.length_append, List.length_take, hFl, List.length_replicate]; omega)]
  have hlen : ((scanned ((d.secs 0 n).drop 1)).1.flatMap cutL).length = m := by rw [r1, List.length_take, hFl]; omega
  have hag := scanned_cuts (scanned ((d.secs 0 n).drop 1)).1 (List.replicate (n - (1 + m)) zsec) r2 (by
    cases hr : n - (1 + m) with
    | zero => exact Or.inl rfl
    | succ k => exact Or.inr (by rw [List.replicate_succ]; exact stands_zero _))
  refine ⟨(scanned ((d.secs 0 n).drop 1)).1, 1 + m, D, by rw [hsc d h rfl, hm], rfl, by rw [hm], by omega, by omega, ?_, w2, w3, by omega, fun i => ?_, ?_, fun i h1 h2 => ?_⟩
  · rw [hwe, ← hD, ← w1]
  · rw [w5]; split
    · exact zsec_size
    · exact h64 i
  · rw [hsc D w2 w3, hsec, hag, hlen]
  · rw [w5, if_pos (by omega)]
end Go.Proofs.Ytncbojocglcieaa
