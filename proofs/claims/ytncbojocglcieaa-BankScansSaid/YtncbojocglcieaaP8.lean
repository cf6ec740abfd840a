/- bank: records that are written behind one another, in plain Lean. -/
import Derived.Test.YtncbojocglcieaaC8
namespace Go.Proofs.Ytncbojocglcieaa
open Go.RowKit
set_option linter.unusedSimpArgs false
set_option linter.unusedVariables false
def enumPos : Int → List ByteArray → List (Int × ByteArray)
  | _, [] => []
  | p, f :: fs => (p, f) :: enumPos (p + 1) fs
theorem enumPos_length (fs : List ByteArray) : ∀ p, (enumPos p fs).length = fs.length := by
  induction fs with
  | nil => intro p; rfl
  | cons f fs ih => intro p; simp [enumPos, ih]
theorem put_sec (d : DevD) (i : Int) (x : ByteArray) (j : Int) : (d.put i x).sec j = if j = i then x else d.sec j := by
  unfold DevD.sec DevD.put
  simp only []
  rw [mget_put]
  by_cases e : j = i
  · rw [if_pos e, if_pos e]; rfl
  · rw [if_neg e, if_neg e]
theorem puts_ok (fs : List ByteArray) : ∀ (d : DevD) (pos : Int), d.left = -1 → 0 ≤ pos → pos + fs.length ≤ d.size → (∀ f ∈ fs, f.size = 64) →
    (d.puts pos fs).2 = 0 ∧ (d.puts pos fs).1.left = -1 ∧ (d.puts pos fs).1.size = d.size ∧ (d.puts pos fs).1.safe = d.safe ∧ (d.puts pos fs).1.queue = d.queue ++ enumPos pos fs ∧
      ∀ i, (d.puts pos fs).1.sec i = if pos ≤ i ∧ i < pos + fs.length then fs.getD (i - pos).toNat zsec else d.sec i := by
  induction fs with
  | nil => intro d pos h1 _ _ _; exact ⟨rfl, h1, rfl, rfl, (List.append_nil _).symm, fun i => by rw [if_neg (by simp)]; rfl⟩
  | cons f fs ih =>
    intro d pos h1 h2 h3 h4
    have hf := h4 f List.mem_cons_self
    have he : d.putErr pos f = 0 := by
      have hask : d.ask pos = 0 := by
        unfold DevD.ask
        simp only [List.length_cons] at h3
        rw [h1, if_neg (by decide), if_neg (by omega)]
      unfold DevD.putErr
      rw [hask, hf]; rfl
    have hl : (d.put pos f).left = -1 := by unfold DevD.put; simp [h1]
    obtain ⟨i1, i2, i3, i4, i5, i6⟩ := ih (d.put pos f) (pos + 1) hl (by omega) (by simp only [List.length_cons] at h3; show _ ≤ (d.size : Int); omega) (fun x hx => h4 x (List.mem_cons_of_mem _ hx))
    unfold DevD.puts
    rw [if_pos he]
    refine ⟨i1, i2, i3, i4, ?_, fun i => ?_⟩
    · rw [i5, enumPos]; show d.queue ++ [(pos, f)] ++ _ = _; simp
    · rw [i6, put_sec]
      by_cases e : i = pos
      · subst e
        rw [if_neg (by omega), if_pos rfl, if_pos (by simp only [List.length_cons]; omega), Int.sub_self]
        rfl
      · rw [if_neg e]
        by_cases e2 : pos + 1 ≤ i ∧ i < pos + 1 + fs.length
        · rw [if_pos e2, if_pos (by simp only [List.length_cons]; omega)]
          obtain ⟨k, hk⟩ : ∃ k : Nat, (i - pos).toNat = k + 1 := ⟨(i - pos).toNat - 1, by omega⟩
          rw [hk, show (i - (pos + 1)).toNat = k from by omega]; rfl
        · rw [if_neg e2, if_neg (by simp only [List.length_cons]; omega)]
theorem secs_get (d : DevD) (f : Int) (n i : Nat) (h : i < n) : (d.secs f n)[i]? = some (d.sec (f + i)) := by simp [DevD.secs, h]
theorem secs_puts (d : DevD) (f : Int) (n a : Nat) (fs : List ByteArray) (h1 : d.left = -1) (h2 : 0 ≤ f) (h3 : f + n ≤ d.size) (h4 : ∀ x ∈ fs, x.size = 64) (h5 : a + fs.length ≤ n) :
    (d.puts (f + a) fs).1.secs f n = (d.secs f n).take a ++ fs ++ (d.secs f n).drop (a + fs.length) := by
  obtain ⟨_, _, _, _, _, i6⟩ := puts_ok fs d (f + a) h1 (by omega) (by omega) h4
  apply List.ext_getElem?
  intro j
  by_cases hj : j < n
  · rw [secs_get _ _ _ _ hj, i6]
    by_cases e1 : j < a
    · rw [if_neg (by omega), List.append_assoc, List.getElem?_append_left (by rw [List.length_take, secs_length]; omega), List.getElem?_take_of_lt e1, secs_get _ _ _ _ hj]
    · rw [List.append_assoc, List.getElem?_append_right (by rw [List.length_take, secs_length]; omega), List.length_take, secs_length, Nat.min_eq_left (by omega)]
      by_cases e2 : j < a + fs.length
      · rw [if_pos (by omega), List.getElem?_append_left (by omega), show (f + (j : Int) - (f + a)).toNat = j - a from by omega]
        have : j - a < fs.length := by omega
        simp [List.getD, this]
      · rw [if_neg (by omega), List.getElem?_append_right (by omega), List.getElem?_drop, secs_get _ _ _ _ (by omega)]
        congr 3
        omega
  · rw [List.getElem?_eq_none (by rw [secs_length]; omega), List.getElem?_eq_none (by simp [secs_length]; omega)]
/-- A bank in which the records rs stand, and nothing behind them. -/
structure Bank (d : DevD) (f : Int) (n a : Nat) (rs : List (List UInt8)) : Prop where
  left : d.left = -1
  pos : 0 ≤ f
  on : f + n ≤ d.size
  good : ∀ i, (d.sec i).size = 64
  len : a = 1 + (rs.flatMap cutL).length
  fits : a ≤ n
  ok : ∀ r ∈ rs, r ≠ [] ∧ r.length ≤ 60000
  secs : (d.secs f n).drop 1 = rs.flatMap cutL ++ List.replicate (n - a) zsec
theorem cutL_64 (r : List UInt8) : ∀ x ∈ cutL r, x.size = 64 := by
  intro x hx
  unfold cutL at hx
  obtain ⟨i, _, rfl⟩ := List.mem_map.1 hx
  exact frB_size _
theorem Bank.scan {d : DevD} {f : Int} {n a : Nat} {rs : List (List UInt8)} (h : Bank d f n a rs) (hn : 1 ≤ n) : d.scan f n = (rs, (a : Int), 0) := by
  have ho : d.on f n = true := by unfold DevD.on; rw [decide_eq_true_eq]; exact ⟨by omega, h.pos, h.on⟩
  have e := scanned_cuts rs (List.replicate (n - a) zsec) h.ok (by
    cases hr : n - a with
    | zero => exact Or.inl rfl
    | succ m => exact Or.inr (by rw [List.replicate_succ]; exact stands_zero _))
  unfold DevD.scan
  rw [if_neg (by rw [h.left]; decide), if_neg (by rw [ho]; decide), show ((n : Int).toNat) = n from rfl, h.secs, e, h.len]
/-- One record more. -/
theorem Bank.more {d : DevD} {f : Int} {n a : Nat} {rs : List (List UInt8)} (h : Bank d f n a rs) (r : List UInt8) (h0 : r ≠ []) (h1 : r.length ≤ 60000) (hf : a + nframes r.length ≤ n) :
    Bank (d.puts (f + a) (cutL r)).1 f n (a + nframes r.length) (rs ++ [r]) := by
  have hfl : (cutL r).length = nframes r.length := cutL_length r
  have hs := secs_puts d f n a (cutL r) h.left h.pos h.on (cutL_64 r) (by omega)
  have hlo := h.pos
  have hon := h.on
  obtain ⟨i1, i2, i3, i4, i5, i6⟩ := puts_ok (cutL r) d (f + a) h.left (by omega) (by rw [hfl]; omega) (cutL_64 r)
  have ha := h.len
  refine ⟨i2, h.pos, by rw [i3]; exact h.on, fun i => ?_, ?_, hf, fun x hx => ?_, ?_⟩
  · rw [i6]
    split
    · rename_i q
      have hlt : (i - (f + a)).toNat < (cutL r).length := by omega
      simp only [List.getD, List.getElem?_eq_getElem hlt, Option.getD_some]
      exact cutL_64 r _ (List.getElem_mem hlt)
    · exact h.good i
  · rw [List.flatMap_append, List.flatMap_singleton, List.length_append, hfl]; omega
  · rcases List.mem_append.1 hx with q | q
    · exact h.ok x q
    · rw [List.mem_singleton.1 q]; exact ⟨h0, h1⟩
  · have hsl := secs_length d f n
    have e2 : ((d.secs f n).take a).drop 1 = rs.flatMap cutL := by
      rw [List.drop_take, h.secs, List.take_left' (by omega)]
    have e3 : (d.secs f n).drop (a + (cutL r).length) = List.replicate (n - (a + nframes r.length)) zsec := by
      have : (d.secs f n).drop (a + (cutL r).length) = ((d.secs f n).drop 1).drop ((rs.flatMap cutL).length + nframes r.length) := by rw [List.drop_drop, hfl]; congr 1; omega
      rw [this, h.secs, ← List.drop_drop, List.drop_left' rfl, List.drop_replicate]
      congr 1; omega
    rw [hs, e3, List.append_assoc, List.drop_append_of_le_length (by rw [List.length_take, hsl]; have := h.fits; omega), e2, List.flatMap_append, List.flatMap_singleton, List.append_assoc]
theorem newdev_secs (n : Nat) (f : Int) (m : Nat) : (DevD.mk n [] [] [] (-1)).secs f m = List.replicate m zsec := by
  apply List.ext_getElem?
  intro j
  by_cases hj : j < m
  · rw [secs_get _ _ _ _ hj, List.getElem?_replicate, if_pos hj]; rfl
  · rw [List.getElem?_eq_none (by rw [secs_length]; omega), List.getElem?_eq_none (by simp; omega)]
theorem Bank.new (N : Nat) (f n : Nat) (h : f + n ≤ N) (hn : 1 ≤ n) : Bank ⟨N, [], [], [], -1⟩ f n 1 [] :=
  ⟨rfl, by omega, by show ((f : Int) + n) ≤ (N : Int); omega, fun i => by show zsec.size = 64; exact zsec_size, rfl, hn, fun r hr => by simp at hr, by rw [newdev_secs, List.drop_replicate]; rfl⟩
/-- What Write answers in such a bank. -/
theorem Bank.wErr {d : DevD} {f : Int} {n a : Nat} {rs : List (List UInt8)} (h : Bank d f n a rs) (hn : 1 ≤ n) (m : Nat) (hm : m ≤ 60000) : d.wErr f n a m = if m = 0 then 4 else if n < a + nframes m then 11 else 0 := by
  have ho : d.on f n = true := by unfold DevD.on; rw [decide_eq_true_eq]; exact ⟨by omega, h.pos, h.on⟩
  have ha := h.len
  unfold DevD.wErr
  rw [if_neg (by rw [h.left]; decide), if_neg (by rw [ho]; simp; omega)]
  by_cases e : m = 0
  · rw [if_pos (Or.inl e), if_pos e]
  · rw [if_neg (by omega), if_neg e]
    by_cases e2 : n < a + nframes m
    · rw [if_pos (by omega), if_pos e2]
    · rw [if_neg (by omega), if_neg e2]
theorem Bank.write_bad {d : DevD} {f : Int} {n a : Nat} {rs : List (List UInt8)} (h : Bank d f n a rs) (hn : 1 ≤ n) (r : ByteArray) (hm : r.size ≤ 60000) (hb : r.size = 0 ∨ n < a + nframes r.size) :
    d.write f n a r = (d, 0, if r.size = 0 then 4 else 11) := by
  unfold DevD.write
  rw [h.wErr hn r.size hm]
  by_cases e : r.size = 0
  · rw [if_pos e]; rw [if_pos e]; rfl
  · rw [if_neg e, if_neg e, if_pos (hb.resolve_left e)]; rfl
theorem Bank.write_ok {d : DevD} {f : Int} {n a : Nat} {rs : List (List UInt8)} (h : Bank d f n a rs) (hn : 1 ≤ n) (r : ByteArray) (hm : r.size ≤ 60000) (h0 : r.size ≠ 0) (hf : a + nframes r.size ≤ n) :
    d.write f n a r = ((d.puts (f + a) (cutL r.data.toList)).1, ((a + nframes r.size : Nat) : Int), 0) := by
  have hrl : r.data.toList.length = r.size := by rw [Array.length_toList]; rfl
  have hlo := h.pos
  have hon := h.on
  obtain ⟨i1, _⟩ := puts_ok (cutL r.data.toList) d (f + a) h.left (by omega) (by rw [cutL_length, hrl]; omega) (cutL_64 _)
  unfold DevD.write
  have e : d.wErr f n a r.size = 0 := by rw [h.wErr hn r.size hm, if_neg h0, if_neg (by omega)]
  rw [e, if_neg (show ¬ ((0 : Int) ≠ 0) by decide), if_pos i1]
  simp
end Go.Proofs.Ytncbojocglcieaa
