/- bank: what is lost of what wasn't flushed, in plain Lean. -/
import Derived.Test.YtncbojocglcieaaP8
namespace Go.Proofs.Ytncbojocglcieaa
open Go.RowKit
set_option linter.unusedSimpArgs false
set_option linter.unusedVariables false
theorem scanned_append (rs : List (List UInt8)) (X : List ByteArray) (h : ∀ r ∈ rs, r ≠ [] ∧ r.length ≤ 60000) : (scanned (rs.flatMap cutL ++ X)).1 = rs ++ (scanned X).1 := by
  induction rs with
  | nil => rfl
  | cons r rs ih =>
    obtain ⟨h1, h2⟩ := h r List.mem_cons_self
    have i := ih fun x hx => h x (List.mem_cons_of_mem _ hx)
    have hs := stands_cut r h1 h2 (rs.flatMap cutL ++ X)
    rw [List.flatMap_cons, List.append_assoc]
    have hne : cutL r ++ (rs.flatMap cutL ++ X) ≠ [] := by rw [cutL_cons r h1]; simp
    rw [scanned_go _ hne (by rw [hs]; exact h1), hs]
    have e : (cutL r ++ (rs.flatMap cutL ++ X)).drop (nframes r.length) = rs.flatMap cutL ++ X := by rw [← cutL_length r]; exact List.drop_left' rfl
    rw [e]
    show r :: (scanned _).1 = _
    rw [i]; rfl
/-- Each frame is as it was, or noughts. -/
def Masked (fs gs : List ByteArray) : Prop := gs.length = fs.length ∧ ∀ (t : Nat) (g : ByteArray), gs[t]? = some g → fs[t]? = some g ∨ g = zsec
theorem Masked.nil : Masked [] [] := ⟨rfl, fun t g h => by simp at h⟩
theorem Masked.split {a b gs : List ByteArray} (h : Masked (a ++ b) gs) : ∃ x y, gs = x ++ y ∧ Masked a x ∧ Masked b y := by
  obtain ⟨h1, h2⟩ := h
  rw [List.length_append] at h1
  refine ⟨gs.take a.length, gs.drop a.length, (List.take_append_drop _ _).symm, ⟨by rw [List.length_take]; omega, fun t g hg => ?_⟩, ⟨by rw [List.length_drop]; omega, fun t g hg => ?_⟩⟩
  · have ht : t < (gs.take a.length).length := (List.getElem?_eq_some_iff.1 hg).1
    rw [List.length_take] at ht
    rw [List.getElem?_take_of_lt (by omega)] at hg
    rcases h2 t g hg with q | q
    · rw [List.getElem?_append_left (by omega)] at q; exact Or.inl q
    · exact Or.inr q
  · rw [List.getElem?_drop] at hg
    rcases h2 _ g hg with q | q
    · rw [List.getElem?_append_right (by omega), Nat.add_sub_cancel_left] at q; exact Or.inl q
    · exact Or.inr q
theorem frB_get (R : List UInt8) (t : Nat) (h : t < nframes R.length) : (cutL R)[t]? = some (frB (R.drop (t * 62))) := by
  unfold cutL
  rw [List.getElem?_map, List.getElem?_range h]; rfl
/-- A record of which something is lost doesn't stand. -/
theorem stand_masked (r : List UInt8) (h0 : r ≠ []) (h1 : r.length ≤ 60000) (gs X : List ByteArray) (hm : Masked (cutL r) gs) (hne : gs ≠ cutL r) (h64 : ∀ g ∈ gs, g.size = 64) : standL (gs ++ X) = [] := by
  have hl : 0 < r.length := List.length_pos_iff.2 h0
  obtain ⟨hm1, hm2⟩ := hm
  rw [cutL_length] at hm1
  have hp := nframes_pos hl
  have hn : ¬ stands (gs ++ X) := by
    intro hs
    obtain ⟨g0, gs', rfl⟩ : ∃ g l, gs = g :: l := List.exists_cons_of_ne_nil (by intro q; rw [q] at hm1; simp at hm1; omega)
    have hd0 : hdN (g0 :: gs' ++ X) = hdB g0 := rfl
    have hg0 : g0 = frB r := by
      rcases hm2 0 g0 rfl with q | q
      · rw [frB_get r 0 hp] at q
        have := Option.some.inj q
        rw [Nat.zero_mul, List.drop_zero] at this
        exact this.symm
      · have := hs.1
        rw [hd0, q] at this
        exact absurd this (by decide)
    have hdn : hdN (g0 :: gs' ++ X) = r.length := by rw [hd0, hg0]; exact frB_head r (by omega)
    have htk : (g0 :: gs' ++ X).take (nframes r.length) = g0 :: gs' := List.take_left' hm1
    have hcut := hs.2.2.2
    have hrl : (recL (g0 :: gs' ++ X)).length = r.length := by
      unfold recL
      rw [hdn, htk, List.length_take, frCat_length _ h64, hm1]
      unfold nframes; omega
    rw [hdn, htk] at hcut
    apply hne
    apply List.ext_getElem?
    intro t
    by_cases ht : t < nframes r.length
    · obtain ⟨g, hg⟩ : ∃ g, (g0 :: gs')[t]? = some g := ⟨_, List.getElem?_eq_getElem (by omega)⟩
      rcases hm2 t g hg with q | q
      · rw [hg, q]
      · have e1 := frB_get (recL (g0 :: gs' ++ X)) t (by rw [hrl]; exact ht)
        rw [hcut, hg] at e1
        have e2 := Option.some.inj e1
        have e3 := frB_head ((recL (g0 :: gs' ++ X)).drop (t * 62)) (by rw [List.length_drop, hrl]; omega)
        rw [← e2, q, List.length_drop, hrl] at e3
        have e4 : hdB zsec = 0 := by decide
        rw [e4] at e3
        unfold nframes at ht
        omega
    · rw [List.getElem?_eq_none (by omega), List.getElem?_eq_none (by rw [cutL_length]; omega)]
  unfold standL
  rw [if_neg hn]
theorem scanned_masked (tl : List ByteArray) (ht : tl = [] ∨ standL tl = []) : ∀ (rs : List (List UInt8)) (gs : List ByteArray), Masked (rs.flatMap cutL) gs → (∀ r ∈ rs, r ≠ [] ∧ r.length ≤ 60000) → (∀ g ∈ gs, g.size = 64) → ∃ j, j ≤ rs.length ∧ (scanned (gs ++ tl)).1 = rs.take j := by
  intro rs
  induction rs with
  | nil =>
    intro gs h _ _
    have : gs = [] := List.eq_nil_of_length_eq_zero h.1
    subst this
    refine ⟨0, Nat.le_refl _, ?_⟩
    rcases ht with rfl | ht
    · rfl
    · rw [List.nil_append, scanned_stop _ ht]; rfl
  | cons r rs ih =>
    intro gs h hok h64
    rw [List.flatMap_cons] at h
    obtain ⟨x, y, rfl, hx, hy⟩ := h.split
    obtain ⟨h0, h1⟩ := hok r List.mem_cons_self
    by_cases e : x = cutL r
    · subst e
      obtain ⟨j, hj, e2⟩ := ih y hy (fun z hz => hok z (List.mem_cons_of_mem _ hz)) (fun g hg => h64 g (List.mem_append_right _ hg))
      have hs := stands_cut r h0 h1 (y ++ tl)
      have hne : cutL r ++ (y ++ tl) ≠ [] := by rw [cutL_cons r h0]; simp
      refine ⟨j + 1, Nat.succ_le_succ hj, ?_⟩
      rw [List.append_assoc, scanned_go _ hne (by rw [hs]; exact h0), hs]
      have e3 : (cutL r ++ (y ++ tl)).drop (nframes r.length) = y ++ tl := by rw [← cutL_length r]; exact List.drop_left' rfl
      rw [e3, e2]; rfl
    · refine ⟨0, Nat.zero_le _, ?_⟩
      rw [List.append_assoc, scanned_stop _ (stand_masked r h0 h1 x (y ++ tl) hx e (fun g hg => h64 g (List.mem_append_left _ hg)))]; rfl
/-- What is kept of frames that were written behind one another. -/
theorem keepers_enum (kept : List Int) (fs : List ByteArray) : ∀ (i : Nat) (p : Int) (s : List (Int × ByteArray)) (q : Int),
    mget (keepers kept i (enumPos p fs) s) q = mget s q ∨ ∃ t : Nat, t < fs.length ∧ q = p + t ∧ mget (keepers kept i (enumPos p fs) s) q = fs[t]? := by
  induction fs with
  | nil => intro i p s q; exact Or.inl rfl
  | cons f fs ih =>
    intro i p s q
    unfold enumPos keepers
    rcases ih (i + 1) (p + 1) (if (i : Int) ∈ kept then mput s p f else s) q with h | ⟨t, h1, h2, h3⟩
    · rw [h]
      by_cases hk : (i : Int) ∈ kept
      · rw [if_pos hk, mget_put]
        by_cases e : q = p
        · rw [if_pos e]; exact Or.inr ⟨0, by simp, by omega, rfl⟩
        · rw [if_neg e]; exact Or.inl rfl
      · rw [if_neg hk]; exact Or.inl rfl
    · refine Or.inr ⟨t + 1, by simp; omega, by omega, ?_⟩
      rw [h3]; rfl
/-- A restart behind a flush: a beginning of the records that came since stands. -/
theorem restart_scan {d0 d : DevD} {n a0 : Nat} {rs0 rs1 : List (List UInt8)} (hb : Bank d0 0 n a0 rs0) (hn : 1 ≤ n) (hs : d.safe = d0.seen) (hq : d.queue = enumPos a0 (rs1.flatMap cutL)) (hz : d.size = d0.size) (hok : ∀ r ∈ rs1, r ≠ [] ∧ r.length ≤ 60000) (hf : a0 + (rs1.flatMap cutL).length ≤ n) (kept : List Int) :
    ∃ j e, j ≤ rs1.length ∧ (d.restart kept).scan 0 n = (rs0 ++ rs1.take j, e, 0) ∧ ∀ i, ((d.restart kept).sec i).size = 64 := by
  have h64f : ∀ x ∈ rs1.flatMap cutL, x.size = 64 := by
    intro x hx
    obtain ⟨r, _, h⟩ := List.mem_flatMap.1 hx
    exact cutL_64 r x h
  have hsec : ∀ q, (d.restart kept).sec q = d0.sec q ∨ ∃ t : Nat, t < (rs1.flatMap cutL).length ∧ q = (a0 : Int) + t ∧ (rs1.flatMap cutL)[t]? = some ((d.restart kept).sec q) := by
    intro q
    unfold DevD.sec DevD.restart DevD.kept
    simp only []
    rw [hq, hs]
    rcases keepers_enum kept (rs1.flatMap cutL) 0 a0 d0.seen q with h | ⟨t, h1, h2, h3⟩
    · left; rw [h]
    · right
      refine ⟨t, h1, h2, ?_⟩
      rw [h3, List.getElem?_eq_getElem h1]; rfl
  have hgood : ∀ i, ((d.restart kept).sec i).size = 64 := by
    intro i
    rcases hsec i with h | ⟨t, h1, _, h3⟩
    · rw [h]; exact hb.good i
    · exact h64f _ (List.mem_of_getElem? h3)
  have ho : (d.restart kept).on 0 n = true := by
    have := hb.on
    unfold DevD.on; rw [decide_eq_true_eq]
    exact ⟨by omega, Int.le_refl _, by show (0 : Int) + n ≤ (d.size : Int); rw [hz]; exact this⟩
  have ha := hb.len
  have hlen0 : ((d0.secs 0 n).drop 1).length = n - 1 := by rw [List.length_drop, secs_length]
  -- the sectors
  let gs := ((d.restart kept).secs 0 n).drop a0 |>.take (rs1.flatMap cutL).length
  have hgsl : gs.length = (rs1.flatMap cutL).length := by
    show (List.take _ _).length = _
    rw [List.length_take, List.length_drop, secs_length]; omega
  have hzero : ∀ p : Nat, a0 ≤ p → p < n → d0.sec (0 + (p : Int)) = zsec := by
    intro p h1 h2
    have e1 : ((d0.secs 0 n).drop 1)[p - 1]? = (rs0.flatMap cutL ++ List.replicate (n - a0) zsec)[p - 1]? := by rw [hb.secs]
    rw [List.getElem?_drop, show 1 + (p - 1) = p from by omega, secs_get _ _ _ _ h2, List.getElem?_append_right (by omega), List.getElem?_replicate, if_pos (by omega)] at e1
    exact Option.some.inj e1
  have hmask : Masked (rs1.flatMap cutL) gs := by
    refine ⟨hgsl, fun t g hg => ?_⟩
    have ht : t < (rs1.flatMap cutL).length := by rw [← hgsl]; exact (List.getElem?_eq_some_iff.1 hg).1
    have e1 : g = (d.restart kept).sec (0 + ((a0 + t : Nat) : Int)) := by
      have : gs[t]? = some ((d.restart kept).sec (0 + ((a0 + t : Nat) : Int))) := by
        show (List.take _ _)[t]? = _
        rw [List.getElem?_take_of_lt ht, List.getElem?_drop, secs_get _ _ _ _ (by omega)]
      rw [hg] at this
      exact Option.some.inj this
    rcases hsec (0 + ((a0 + t : Nat) : Int)) with h | ⟨t', h1, h2, h3⟩
    · right; rw [e1, h]; exact hzero _ (by omega) (by omega)
    · left
      have : t' = t := by omega
      subst this
      rw [e1]; exact h3
  have hsecs : ((d.restart kept).secs 0 n).drop 1 = rs0.flatMap cutL ++ (gs ++ List.replicate (n - a0 - (rs1.flatMap cutL).length) zsec) := by
    apply List.ext_getElem?
    intro p
    by_cases hp : p + 1 < n
    · rw [List.getElem?_drop, secs_get _ _ _ _ (by omega)]
      by_cases h1 : p < (rs0.flatMap cutL).length
      · rw [List.getElem?_append_left h1]
        have e1 : ((d0.secs 0 n).drop 1)[p]? = (rs0.flatMap cutL ++ List.replicate (n - a0) zsec)[p]? := by rw [hb.secs]
        rw [List.getElem?_drop, secs_get _ _ _ _ (by omega), List.getElem?_append_left h1] at e1
        rw [← e1]
        congr 1
        rcases hsec (0 + ((1 + p : Nat) : Int)) with h | ⟨t', h1', h2, h3⟩
        · exact h
        · exfalso; omega
      · rw [List.getElem?_append_right (by omega)]
        by_cases h2 : p - (rs0.flatMap cutL).length < gs.length
        · rw [List.getElem?_append_left h2]
          show _ = (List.take _ _)[_]?
          rw [List.getElem?_take_of_lt (by omega), List.getElem?_drop, secs_get _ _ _ _ (by omega)]
          congr 3; omega
        · rw [List.getElem?_append_right (by omega), List.getElem?_replicate, if_pos (by omega)]
          congr 1
          rcases hsec (0 + ((1 + p : Nat) : Int)) with h | ⟨t', h1', h2', h3⟩
          · rw [h]; exact hzero _ (by omega) (by omega)
          · exfalso; omega
    · rw [List.getElem?_eq_none (by rw [List.length_drop, secs_length]; omega), List.getElem?_eq_none (by
        rw [List.length_append, List.length_append, List.length_replicate, hgsl]; omega)]
  obtain ⟨j, hj, hjs⟩ := scanned_masked (List.replicate (n - a0 - (rs1.flatMap cutL).length) zsec) (by
    cases hr : n - a0 - (rs1.flatMap cutL).length with
    | zero => exact Or.inl rfl
    | succ m => exact Or.inr (by rw [List.replicate_succ]; exact stands_zero _)) rs1 gs hmask hok (by
      intro g hg
      obtain ⟨t, ht⟩ := List.getElem?_of_mem hg
      rcases hmask.2 t g ht with q | q
      · exact h64f _ (List.mem_of_getElem? q)
      · rw [q]; exact zsec_size)
  have hsc : (d.restart kept).scan 0 n = ((scanned (((d.restart kept).secs 0 n).drop 1)).1, ((1 + (scanned (((d.restart kept).secs 0 n).drop 1)).2 : Nat) : Int), 0) := by
    unfold DevD.scan
    rw [if_neg (show ¬ (d.restart kept).left = 0 by show ¬ ((-1 : Int) = 0); decide), if_neg (by rw [ho]; decide), show ((n : Int).toNat) = n from rfl]
  have e1 : (scanned (((d.restart kept).secs 0 n).drop 1)).1 = rs0 ++ rs1.take j := by rw [hsecs, scanned_append _ _ hb.ok, hjs]
  exact ⟨j, ((1 + (scanned (((d.restart kept).secs 0 n).drop 1)).2 : Nat) : Int), hj, by rw [hsc, e1], hgood⟩
end Go.Proofs.Ytncbojocglcieaa
