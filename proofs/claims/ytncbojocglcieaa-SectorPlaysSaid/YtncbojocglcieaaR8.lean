/- sector: a device and the reference's, side by side, in plain Lean. -/
import Derived.Test.YtncbojocglcieaaR7
namespace Go.Proofs.Ytncbojocglcieaa
open Go.RowKit
set_option linter.unusedSimpArgs false
set_option linter.unusedVariables false
def RefD.step (r : RefD) (o : OpD) (kl : List Int) : RefD × ByteArray × Int :=
  if r.bad o ≠ 0 then (r, ⟨#[]⟩, r.bad o) else if o.kind.toNat % 5 = 0 then (r.put o.i.toNat o.b, ⟨#[]⟩, 0) else if o.kind.toNat % 5 = 1 then (r, r.seen.getD o.i.toNat ⟨#[]⟩, 0) else
    if o.kind.toNat % 5 = 2 then (r.flush, ⟨#[]⟩, 0) else if o.kind.toNat % 5 = 3 then (r.cut o.n, ⟨#[]⟩, 0) else (r.restart kl, ⟨#[]⟩, 0)
def DevD.step (d : DevD) (o : OpD) (kl : List Int) : DevD × ByteArray × Int :=
  if o.kind.toNat % 5 = 0 then (if d.putErr o.i o.b = 0 then d.put o.i o.b else d, ⟨#[]⟩, d.putErr o.i o.b) else if o.kind.toNat % 5 = 1 then (d, d.get o.i, d.ask o.i) else
    if o.kind.toNat % 5 = 2 then (if d.left = 0 then d else d.flush, ⟨#[]⟩, if d.left = 0 then 13 else 0) else if o.kind.toNat % 5 = 3 then (d.cut o.n, ⟨#[]⟩, 0) else (d.restart kl, ⟨#[]⟩, 0)
def msec (s : List (Int × ByteArray)) (i : Int) : ByteArray := (mget s i).getD zsec
structure Sim (d : DevD) (r : RefD) (n : Nat) : Prop where
  size : d.size = n
  seen : r.seen.length = n
  safe : r.safe.length = n
  sec : ∀ i, i < n → r.seen[i]? = some (msec d.seen i)
  sat : ∀ i, i < n → r.safe[i]? = some (msec d.safe i)
  len : r.data.length = r.at_.length
  queue : d.queue = r.at_.zip r.data
  ats : ∀ a ∈ r.at_, 0 ≤ a ∧ a < n
  left : d.left = r.left
  low : -1 ≤ r.left
  high : r.left ≤ 9223372036854775807
theorem msec_put (s : List (Int × ByteArray)) (i : Int) (x : ByteArray) (j : Int) : msec (mput s i x) j = if j = i then x else msec s j := by
  unfold msec
  rw [mget_put]
  by_cases e : j = i
  · rw [if_pos e, if_pos e]; rfl
  · rw [if_neg e, if_neg e]
theorem list_set_get (l : List ByteArray) (n : Nat) (s : List (Int × ByteArray)) (hl : l.length = n) (h : ∀ i, i < n → l[i]? = some (msec s i)) (a : Nat) (ha : a < n) (x : ByteArray) : ∀ i, i < n → (l.set a x)[i]? = some (msec (mput s a x) i) := by
  intro i hi
  rw [List.getElem?_set, msec_put, hl]
  by_cases e : a = i
  · subst e; rw [if_pos rfl, if_pos ha, if_pos rfl]
  · rw [if_neg e, if_neg (by omega), h i hi]
theorem keep_same (kept : List Int) (n : Nat) : ∀ (q : List (Int × ByteArray)) (k : Nat) (s : List (Int × ByteArray)) (l : List ByteArray), (∀ p ∈ q, 0 ≤ p.1 ∧ p.1 < n) → l.length = n → (∀ i, i < n → l[i]? = some (msec s i)) → ∀ i, i < n → (keepR kept k q l)[i]? = some (msec (keepers kept k q s) i) := by
  intro q
  induction q with
  | nil => intro k s l _ _ h; exact h
  | cons p q ih =>
    intro k s l hp hl h
    unfold keepR keepers
    obtain ⟨p1, p2⟩ := hp p List.mem_cons_self
    by_cases hk : (k : Int) ∈ kept
    · rw [if_pos hk, if_pos hk]
      obtain ⟨a, ha⟩ : ∃ a : Nat, p.1 = a := ⟨p.1.toNat, by omega⟩
      rw [ha]
      exact ih (k + 1) _ _ (fun x hx => hp x (List.mem_cons_of_mem _ hx)) (by rw [List.length_set]; exact hl) (list_set_get l n s hl h a (by omega) p.2)
    · rw [if_neg hk, if_neg hk]
      exact ih (k + 1) _ _ (fun x hx => hp x (List.mem_cons_of_mem _ hx)) hl h
theorem sim_new (n : Nat) : Sim ⟨n, [], [], [], -1⟩ ⟨zeros n, zeros n, [], [], -1⟩ n :=
  ⟨rfl, by simp [zeros], by simp [zeros], fun i hi => by simp [zeros, hi]; rfl, fun i hi => by simp [zeros, hi]; rfl, rfl, rfl, fun a ha => by simp at ha, rfl, by show (-1 : Int) ≤ -1; decide, by show (-1 : Int) ≤ _; decide⟩
theorem sim_restart {d : DevD} {r : RefD} {n : Nat} (h : Sim d r n) (kl : List Int) : Sim (d.restart kl) (r.restart kl) n := by
  have hk : ∀ i, i < n → (r.kept kl)[i]? = some (msec (d.kept kl) i) := by
    unfold RefD.kept DevD.kept
    rw [h.queue]
    exact keep_same kl n _ 0 d.safe r.safe (fun p hp => h.ats p.1 (List.of_mem_zip hp).1) h.safe h.sat
  have hl : (r.kept kl).length = n := by unfold RefD.kept; rw [keepR_length]; exact h.safe
  exact ⟨h.size, hl, hl, hk, hk, rfl, rfl, fun a ha => by simp [RefD.restart] at ha, rfl, by show (-1 : Int) ≤ -1; decide, by show (-1 : Int) ≤ _; decide⟩
theorem sim_step {d : DevD} {r : RefD} {n : Nat} (h : Sim d r n) (o : OpD) (kl : List Int) (hn : o.n ≤ 9223372036854775807) : Sim (d.step o kl).1 (r.step o kl).1 n ∧ (d.step o kl).2 = (r.step o kl).2 := by
  have hq5 : o.kind.toNat % 5 < 5 := Nat.mod_lt _ (by decide)
  have hask : d.ask o.i = if r.left = 0 then 13 else if o.i < 0 ∨ (r.seen.length : Int) ≤ o.i then 1 else 0 := by unfold DevD.ask; rw [h.left, h.size, h.seen]
  unfold DevD.step RefD.step
  by_cases q0 : o.kind.toNat % 5 = 0
  · rw [if_pos q0]
    have hbad : r.bad o = d.putErr o.i o.b := by
      unfold RefD.bad DevD.putErr
      rw [hask]
      by_cases e1 : r.left = 0
      · rw [if_pos ⟨by omega, e1⟩, if_pos e1, if_pos (by decide)]
      · rw [if_neg (by omega), if_neg e1]
        by_cases e2 : o.i < 0 ∨ (r.seen.length : Int) ≤ o.i
        · rw [if_pos ⟨by omega, e2⟩, if_pos e2, if_pos (by decide)]
        · rw [if_neg (by omega), if_neg e2, if_neg (show ¬ ((0 : Int) ≠ 0) by decide)]
          by_cases e3 : o.b.size ≠ 64
          · rw [if_pos ⟨q0, e3⟩, if_pos e3]
          · rw [if_neg (by omega), if_neg e3]
    rw [hbad]
    by_cases e : d.putErr o.i o.b = 0
    · rw [if_pos e, if_neg (by rw [e]; decide), if_pos q0]
      have hlf : r.left ≠ 0 ∧ 0 ≤ o.i ∧ o.i < n := by
        unfold DevD.putErr at e
        rw [hask, h.seen] at e
        by_cases e1 : r.left = 0
        · rw [if_pos e1, if_pos (by decide)] at e; exact absurd e (by decide)
        · rw [if_neg e1] at e
          by_cases e2 : o.i < 0 ∨ (n : Int) ≤ o.i
          · rw [if_pos e2, if_pos (by decide)] at e; exact absurd e (by decide)
          · omega
      obtain ⟨l1, l2, l3⟩ := hlf
      obtain ⟨a, ha⟩ : ∃ a : Nat, o.i = a := ⟨o.i.toNat, by omega⟩
      have la : a < n := by omega
      have he2 : d.putErr a o.b = 0 := by rw [← ha]; exact e
      rw [ha, Int.toNat_natCast]
      have hleft : (d.put a o.b).left = if 0 < r.left then r.left - 1 else r.left := by unfold DevD.put; rw [h.left]
      refine ⟨⟨h.size, by show (r.seen.set a o.b).length = n; rw [List.length_set]; exact h.seen, h.safe, list_set_get r.seen n d.seen h.seen h.sec a la o.b, h.sat, by show (r.data ++ [o.b]).length = (r.at_ ++ [(a : Int)]).length; rw [List.length_append, List.length_append, h.len]; rfl, ?_, ?_, hleft, ?_, ?_⟩, by rw [he2]⟩
      · show d.queue ++ [((a : Int), o.b)] = (r.at_ ++ [(a : Int)]).zip (r.data ++ [o.b])
        rw [h.queue, List.zip_append h.len.symm]; rfl
      · intro x hx
        rcases List.mem_append.1 hx with q | q
        · exact h.ats x q
        · rw [List.mem_singleton.1 q]; omega
      · show -1 ≤ if 0 < r.left then r.left - 1 else r.left
        have := h.low; split <;> omega
      · show (if 0 < r.left then r.left - 1 else r.left) ≤ _
        have := h.high; split <;> omega
    · rw [if_neg e, if_pos e]
      exact ⟨h, rfl⟩
  · rw [if_neg q0]
    by_cases q1 : o.kind.toNat % 5 = 1
    · rw [if_pos q1]
      have hbad : r.bad o = d.ask o.i := by
        unfold RefD.bad
        rw [hask]
        by_cases e1 : r.left = 0
        · rw [if_pos ⟨by omega, e1⟩, if_pos e1]
        · rw [if_neg (by omega), if_neg e1]
          by_cases e2 : o.i < 0 ∨ (r.seen.length : Int) ≤ o.i
          · rw [if_pos ⟨by omega, e2⟩, if_pos e2]
          · rw [if_neg (by omega), if_neg e2, if_neg (by omega)]
      rw [hbad]
      by_cases e : d.ask o.i = 0
      · rw [if_neg (by rw [e]; decide), if_neg q0, if_pos q1]
        refine ⟨h, ?_⟩
        have hi : 0 ≤ o.i ∧ o.i < n := by
          rw [hask, h.seen] at e
          by_cases e1 : r.left = 0
          · rw [if_pos e1] at e; exact absurd e (by decide)
          · rw [if_neg e1] at e
            by_cases e2 : o.i < 0 ∨ (n : Int) ≤ o.i
            · rw [if_pos e2] at e; exact absurd e (by decide)
            · omega
        obtain ⟨a, ha⟩ : ∃ a : Nat, o.i = a := ⟨o.i.toNat, by omega⟩
        have hs := h.sec a (by omega)
        show (d.get o.i, d.ask o.i) = (r.seen.getD o.i.toNat ⟨#[]⟩, 0)
        rw [e]
        congr 1
        unfold DevD.get
        rw [if_pos e, ha, Int.toNat_natCast, List.getD, hs]; rfl
      · rw [if_pos e]
        refine ⟨h, ?_⟩
        show (d.get o.i, d.ask o.i) = (⟨#[]⟩, d.ask o.i)
        unfold DevD.get
        rw [if_neg e]
    · rw [if_neg q1]
      by_cases q2 : o.kind.toNat % 5 = 2
      · rw [if_pos q2]
        have hbad : r.bad o = if r.left = 0 then 13 else 0 := by
          unfold RefD.bad
          by_cases e1 : r.left = 0
          · rw [if_pos ⟨by omega, e1⟩, if_pos e1]
          · rw [if_neg (by omega), if_neg e1, if_neg (by omega), if_neg (by omega)]
        rw [hbad, h.left]
        by_cases e1 : r.left = 0
        · rw [if_pos e1, if_pos e1, if_pos (by decide)]
          exact ⟨h, rfl⟩
        · rw [if_neg e1, if_neg e1, if_neg (by decide), if_neg q0, if_neg q1, if_pos q2]
          exact ⟨⟨h.size, h.seen, h.seen, h.sec, h.sec, rfl, rfl, fun a ha => by simp [RefD.flush] at ha, h.left, h.low, h.high⟩, rfl⟩
      · rw [if_neg q2]
        have hbad : r.bad o = 0 := by
          unfold RefD.bad
          rw [if_neg (by omega), if_neg (by omega), if_neg (by omega)]
        rw [if_neg (show ¬ (r.bad o ≠ 0) by rw [hbad]; decide), if_neg q0, if_neg q1, if_neg q2]
        by_cases q3 : o.kind.toNat % 5 = 3
        · rw [if_pos q3, if_pos q3]
          refine ⟨?_, rfl⟩
          show Sim (d.cut o.n) (r.cut o.n) n
          unfold DevD.cut RefD.cut
          rw [h.left]
          by_cases e1 : r.left = 0
          · rw [if_pos e1, if_pos e1]; exact h
          · rw [if_neg e1, if_neg e1]
            refine ⟨h.size, h.seen, h.safe, h.sec, h.sat, h.len, h.queue, h.ats, ?_, ?_, ?_⟩
            · show max o.n (-1) = if o.n < 0 then -1 else o.n
              split <;> omega
            · show -1 ≤ if o.n < 0 then -1 else o.n
              split <;> omega
            · show (if o.n < 0 then -1 else o.n) ≤ _
              split <;> omega
        · rw [if_neg q3, if_neg q3]
          exact ⟨sim_restart h kl, rfl⟩
end Go.Proofs.Ytncbojocglcieaa
