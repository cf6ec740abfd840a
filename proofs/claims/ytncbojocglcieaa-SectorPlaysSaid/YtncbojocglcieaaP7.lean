/- bank: what stands at a frame, what stands in a bank, in plain Lean. -/
import Derived.Test.YtncbojocglcieaaB3
namespace Go.Proofs.Ytncbojocglcieaa
open Go.RowKit
set_option linter.unusedSimpArgs false
set_option linter.unusedVariables false
/-- What frames hold, behind their heads. -/
def frCat (l : List ByteArray) : List UInt8 := l.flatMap fun f => f.data.toList.drop 2
/-- What a frame's head says. -/
def hdB (f : ByteArray) : Nat := (f.data.toList.getD 0 0).toNat * 256 + (f.data.toList.getD 1 0).toNat
def hdN : List ByteArray → Nat
  | [] => 0
  | f :: _ => hdB f
/-- Its record, if it stands. -/
def recL (l : List ByteArray) : List UInt8 := (frCat (l.take (nframes (hdN l)))).take (hdN l)
def stands (l : List ByteArray) : Prop := 1 ≤ hdN l ∧ hdN l ≤ 60000 ∧ nframes (hdN l) ≤ l.length ∧ cutL (recL l) = l.take (nframes (hdN l))
instance (l : List ByteArray) : Decidable (stands l) := by unfold stands; infer_instance
def standL (l : List ByteArray) : List UInt8 := if stands l then recL l else []
theorem cutL_nil : cutL [] = [] := rfl
theorem cutL_cons (r : List UInt8) (h : r ≠ []) : cutL r = frB r :: cutL (r.drop 62) := by
  have hl : 0 < r.length := List.length_pos_iff.2 h
  unfold cutL
  have e : nframes r.length = nframes (r.drop 62).length + 1 := by unfold nframes; rw [List.length_drop]; omega
  rw [e, List.range_succ_eq_map, List.map_cons, List.map_map]
  congr 1
  apply List.map_congr_left
  intro i _
  simp only [Function.comp, List.drop_drop]
  congr 2
  omega
theorem frB_drop (l : List UInt8) : (frB l).data.toList.drop 2 = l.take 62 ++ List.replicate (62 - min l.length 62) 0 := rfl
theorem frB_head (l : List UInt8) (h : l.length < 65536) : hdB (frB l) = l.length := by
  show (UInt8.ofNat (l.length / 256 % 256)).toNat * 256 + (UInt8.ofNat (l.length % 256)).toNat = _
  simp; omega
theorem frCat_cut : ∀ (n : Nat) (r : List UInt8), r.length ≤ n → (frCat (cutL r)).take r.length = r := by
  intro n
  induction n with
  | zero => intro r h; have : r = [] := List.eq_nil_of_length_eq_zero (by omega); subst this; rfl
  | succ n ih =>
    intro r h
    by_cases h0 : r = []
    · subst h0; rfl
    have hl : 0 < r.length := List.length_pos_iff.2 h0
    have i := ih (r.drop 62) (by rw [List.length_drop]; omega)
    rw [cutL_cons r h0]
    unfold frCat at i ⊢
    rw [List.flatMap_cons, frB_drop]
    by_cases h1 : r.length ≤ 62
    · rw [List.append_assoc, List.take_append_of_le_length (by rw [List.length_take]; omega), List.take_take, Nat.min_eq_left h1, List.take_length]
    · have e : 62 - min r.length 62 = 0 := by omega
      rw [e, List.replicate_zero, List.append_nil]
      have e2 : r.length = (r.take 62).length + (r.drop 62).length := by rw [List.length_take, List.length_drop]; omega
      rw [e2, List.take_length_add_append, i, List.take_append_drop]
theorem cut_hd (r : List UInt8) (h : r ≠ []) (h2 : r.length ≤ 60000) (l : List ByteArray) : hdN (cutL r ++ l) = r.length := by
  rw [cutL_cons r h]; exact frB_head r (by omega)
/-- A record's frames stand. -/
theorem stands_cut (r : List UInt8) (h : r ≠ []) (h2 : r.length ≤ 60000) (l : List ByteArray) : standL (cutL r ++ l) = r := by
  have hl : 0 < r.length := List.length_pos_iff.2 h
  have e1 := cut_hd r h h2 l
  have e2 : (cutL r ++ l).take (nframes r.length) = cutL r := by rw [← cutL_length r]; exact List.take_left' rfl
  have e3 : recL (cutL r ++ l) = r := by unfold recL; rw [e1, e2]; exact frCat_cut _ r (Nat.le_refl _)
  have : stands (cutL r ++ l) := by
    unfold stands
    rw [e3, e1, e2]
    exact ⟨hl, h2, by rw [List.length_append, cutL_length]; omega, rfl⟩
  unfold standL
  rw [if_pos this, e3]
theorem stands_zero (l : List ByteArray) : standL (zsec :: l) = [] := by
  have h : ¬ stands (zsec :: l) := fun h => absurd h.1 (by show ¬ 1 ≤ hdB zsec; decide)
  unfold standL
  rw [if_neg h]
theorem frCat_length (l : List ByteArray) (h : ∀ f ∈ l, f.size = 64) : (frCat l).length = 62 * l.length := by
  induction l with
  | nil => rfl
  | cons f l ih =>
    have hf := h f List.mem_cons_self
    have := ih fun g hg => h g (List.mem_cons_of_mem _ hg)
    unfold frCat at this ⊢
    rw [List.flatMap_cons, List.length_append, this, List.length_drop, Array.length_toList, List.length_cons]
    have : f.data.size = 64 := hf
    omega
theorem recL_length (l : List ByteArray) (h : ∀ f ∈ l, f.size = 64) (hk : nframes (hdN l) ≤ l.length) : (recL l).length = hdN l := by
  unfold recL
  rw [List.length_take, frCat_length _ (fun f hf => h f (List.mem_of_mem_take hf)), List.length_take]
  unfold nframes at hk ⊢; omega
/-- What stands in frames, and how many have it. -/
def scanL : Nat → List ByteArray → List (List UInt8) × Nat
  | 0, _ => ([], 0)
  | f + 1, l => if l = [] ∨ standL l = [] then ([], 0) else (standL l :: (scanL f (l.drop (nframes (standL l).length))).1, nframes (standL l).length + (scanL f (l.drop (nframes (standL l).length))).2)
theorem nframes_pos {n : Nat} (h : 0 < n) : 0 < nframes n := by unfold nframes; omega
theorem scanL_more : ∀ (n f : Nat) (l : List ByteArray), l.length ≤ n → l.length ≤ f → scanL f l = scanL l.length l := by
  intro n
  induction n with
  | zero =>
    intro f l h1 h2
    have : l = [] := List.eq_nil_of_length_eq_zero (by omega)
    subst this
    cases f <;> simp [scanL]
  | succ n ih =>
    intro f l h1 h2
    by_cases h0 : l = []
    · subst h0; cases f <;> simp [scanL]
    have hl : 0 < l.length := List.length_pos_iff.2 h0
    obtain ⟨f, rfl⟩ : ∃ g, f = g + 1 := ⟨f - 1, by omega⟩
    obtain ⟨m, hm⟩ : ∃ g, l.length = g + 1 := ⟨l.length - 1, by omega⟩
    rw [hm]
    unfold scanL
    by_cases hs : standL l = []
    · rw [if_pos (Or.inr hs), if_pos (Or.inr hs)]
    · have hp := nframes_pos (List.length_pos_iff.2 hs)
      have hd : (l.drop (nframes (standL l).length)).length ≤ m := by rw [List.length_drop]; omega
      rw [if_neg (by simp [h0, hs]), if_neg (by simp [h0, hs]), ih f _ (by omega) (by omega), ih m _ (by omega) hd]
/-- What stands in frames. -/
def scanned (l : List ByteArray) : List (List UInt8) × Nat := scanL l.length l
theorem scanned_nil : scanned [] = ([], 0) := rfl
theorem scanned_stop (l : List ByteArray) (h : standL l = []) : scanned l = ([], 0) := by
  unfold scanned
  cases hl : l.length with
  | zero => rfl
  | succ m => unfold scanL; rw [if_pos (Or.inr h)]
theorem scanned_go (l : List ByteArray) (h0 : l ≠ []) (h : standL l ≠ []) : scanned l = (standL l :: (scanned (l.drop (nframes (standL l).length))).1, nframes (standL l).length + (scanned (l.drop (nframes (standL l).length))).2) := by
  have hl : 0 < l.length := List.length_pos_iff.2 h0
  have hp := nframes_pos (List.length_pos_iff.2 h)
  unfold scanned
  obtain ⟨m, hm⟩ : ∃ g, l.length = g + 1 := ⟨l.length - 1, by omega⟩
  rw [hm]
  conv => lhs; unfold scanL
  rw [if_neg (by simp [h0, h]), scanL_more m m _ (by rw [List.length_drop]; omega) (by rw [List.length_drop]; omega)]
theorem scanned_le : ∀ (n : Nat) (l : List ByteArray), l.length ≤ n → (∀ f ∈ l, f.size = 64) → (scanned l).2 ≤ l.length := by
  intro n
  induction n with
  | zero => intro l h _; have : l = [] := List.eq_nil_of_length_eq_zero (by omega); subst this; exact Nat.le_refl _
  | succ n ih =>
    intro l h h64
    by_cases h0 : l = []
    · subst h0; exact Nat.le_refl _
    by_cases hs : standL l = []
    · rw [scanned_stop l hs]; exact Nat.zero_le _
    · have hst : stands l := by
        by_cases q : stands l
        · exact q
        · exact absurd (by unfold standL; rw [if_neg q]) hs
      have e : standL l = recL l := by unfold standL; rw [if_pos hst]
      have hk : nframes (standL l).length ≤ l.length := by rw [e, recL_length l h64 hst.2.2.1]; exact hst.2.2.1
      have hp := nframes_pos (List.length_pos_iff.2 hs)
      rw [scanned_go l h0 hs]
      have := ih (l.drop (nframes (standL l).length)) (by rw [List.length_drop]; omega) (fun f hf => h64 f (List.mem_of_mem_drop hf))
      rw [List.length_drop] at this
      show nframes (standL l).length + _ ≤ _
      omega
/-- Records behind one another, and then nothing. -/
theorem scanned_cuts (rs : List (List UInt8)) (tl : List ByteArray) (h : ∀ r ∈ rs, r ≠ [] ∧ r.length ≤ 60000) (ht : tl = [] ∨ standL tl = []) : scanned (rs.flatMap cutL ++ tl) = (rs, (rs.flatMap cutL).length) := by
  induction rs with
  | nil =>
    rcases ht with rfl | ht
    · rfl
    · exact scanned_stop _ ht
  | cons r rs ih =>
    obtain ⟨h1, h2⟩ := h r List.mem_cons_self
    have i := ih fun x hx => h x (List.mem_cons_of_mem _ hx)
    have hs := stands_cut r h1 h2 (rs.flatMap cutL ++ tl)
    rw [List.flatMap_cons, List.append_assoc]
    have hne : cutL r ++ (rs.flatMap cutL ++ tl) ≠ [] := by rw [cutL_cons r h1]; simp
    rw [scanned_go _ hne (by rw [hs]; exact h1), hs]
    have e : (cutL r ++ (rs.flatMap cutL ++ tl)).drop (nframes r.length) = rs.flatMap cutL ++ tl := by rw [← cutL_length r]; exact List.drop_left' rfl
    rw [e, i, List.length_append, cutL_length]
/-- Each record's frames, whatever stands behind. -/
theorem scanned_recs : ∀ (n : Nat) (l : List ByteArray), l.length ≤ n → (∀ f ∈ l, f.size = 64) → (scanned l).1.flatMap cutL = l.take (scanned l).2 ∧ (∀ r ∈ (scanned l).1, r ≠ [] ∧ r.length ≤ 60000) ∧ (l.drop (scanned l).2 = [] ∨ standL (l.drop (scanned l).2) = []) := by
  intro n
  induction n with
  | zero => intro l h _; have : l = [] := List.eq_nil_of_length_eq_zero (by omega); subst this; exact ⟨rfl, fun r hr => by simp [scanned_nil] at hr, Or.inl rfl⟩
  | succ n ih =>
    intro l h h64
    by_cases h0 : l = []
    · subst h0; exact ⟨rfl, fun r hr => by simp [scanned_nil] at hr, Or.inl rfl⟩
    by_cases hs : standL l = []
    · rw [scanned_stop l hs]; exact ⟨rfl, fun r hr => by simp at hr, Or.inr hs⟩
    · have hst : stands l := by
        by_cases q : stands l
        · exact q
        · exact absurd (by unfold standL; rw [if_neg q]) hs
      have e : standL l = recL l := by unfold standL; rw [if_pos hst]
      have hlen : (standL l).length = hdN l := by rw [e]; exact recL_length l h64 hst.2.2.1
      have hp := nframes_pos (List.length_pos_iff.2 hs)
      have hcut : cutL (standL l) = l.take (nframes (standL l).length) := by rw [hlen, e]; exact hst.2.2.2
      obtain ⟨i1, i2, i3⟩ := ih (l.drop (nframes (standL l).length)) (by rw [List.length_drop]; have := List.length_pos_iff.2 h0; omega) (fun f hf => h64 f (List.mem_of_mem_drop hf))
      rw [scanned_go l h0 hs]
      refine ⟨?_, ?_, ?_⟩
      · rw [List.flatMap_cons, i1, hcut, List.take_add]
      · intro r hr
        rcases List.mem_cons.1 hr with rfl | hr
        · exact ⟨hs, by rw [hlen]; exact hst.2.1⟩
        · exact i2 r hr
      · rw [← List.drop_drop]; exact i3
end Go.Proofs.Ytncbojocglcieaa
