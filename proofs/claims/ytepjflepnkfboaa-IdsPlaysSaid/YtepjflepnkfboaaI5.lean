/- ids: lemmas for the laws; awake. -/
import Derived.Test.YtepjflepnkfboaaI4
namespace Go.Proofs.Ytepjflepnkfboaa
open Go.RowKit
set_option linter.unusedSimpArgs false
theorem nodup_sub : ∀ (l m : List Int), l.Nodup → (∀ x ∈ l, x ∈ m) → l.length ≤ m.length := by
  intro l
  induction l with
  | nil => intro m _ _; simp
  | cons x l ih =>
    intro m hn h
    have hx := h x (List.mem_cons_self ..)
    have hn' := List.nodup_cons.1 hn
    have := ih (m.erase x) hn'.2 (fun y hy => (List.mem_erase_of_ne (fun e => hn'.1 (by rw [← e]; exact hy))).2 (h y (List.mem_cons_of_mem _ hy)))
    rw [List.length_erase_of_mem hx] at this
    have := List.length_pos_of_mem hx
    simp; omega
theorem same_len {p q : PD} (hp : PInv p) (hq : PInv q) (h : ∀ k, k ∈ mkeys p.out ↔ k ∈ mkeys q.out) : p.out.length = q.out.length := by
  have h1 := nodup_sub _ _ hp.nodup (fun x hx => (h x).1 hx)
  have h2 := nodup_sub _ _ hq.nodup (fun x hx => (h x).2 hx)
  simp [mkeys] at h1 h2; omega
theorem LeastFree.congr {l m : List Int} {n : Nat} (h : LeastFree l n) (e : ∀ k, k ∈ l ↔ k ∈ m) : LeastFree m n :=
  ⟨h.1, fun q => h.2.1 ((e _).2 q), fun j q1 q2 => (e _).1 (h.2.2 j q1 q2)⟩
theorem PAt.keep {w w' : World} {g b : Nat} {v : Value} {p : PD} {F : Nat → Prop} (h : PAt w g v b p) (k : Keep F w w') (hd : ∀ i, pfoot g v b i → ¬ F i) : PAt w' g v b p :=
  ⟨m_keep h.blk k (hd _ (Or.inl rfl)), h.row.kept (fun j hj => k.block j (World.ownsRow.lt h.row j hj).2 (hd _ (Or.inr (Or.inr hj.symm)))), h.mp.keep k (hd _ (Or.inr (Or.inl rfl))), h.ne1, h.ne2, h.ne3⟩
theorem PAt.foot_lt {w : World} {g b : Nat} {v : Value} {p : PD} (h : PAt w g v b p) {i : Nat} (hi : pfoot g v b i) : i < w.heap.size := by
  rcases hi with rfl | rfl | hi
  · exact h.lt
  · exact h.mp.lt
  · exact (World.ownsRow.lt h.row i hi.symm).2
theorem PAt.below {w w' : World} {g b : Nat} {v : Value} {p : PD} (h : PAt w g v b p) (hb : Below w.heap.size w w') : PAt w' g v b p :=
  h.keep (Keep.below hb) (fun i hi q => absurd (h.foot_lt hi) (Nat.not_lt.2 q))
theorem keep_of_below {w w' : World} {F : Nat → Prop} (hb : Below w.heap.size w w') : Keep F w w' := (Keep.below hb).mono (fun _ h => Or.inr h)
theorem pfoot_new {g b : Nat} {v v' : Value} {n : Nat} (h : ∀ k, v'.ownBlock = some k → v.ownBlock = some k ∨ n ≤ k) : ∀ i, pfoot g v' b i → pfoot g v b i ∨ n ≤ i := by
  intro i hi
  rcases hi with q | q | q
  · exact Or.inl (Or.inl q)
  · exact Or.inl (Or.inr (Or.inl q))
  · exact (h i q.symm).imp (fun e => Or.inr (Or.inr e.symm)) id
theorem Ints.keep {w w' : World} {B : Nat} {v : Value} {l : List Int} {F : Nat → Prop} (h : Ints w B v l) (k : Keep F w w') (hd : ∀ i, v.ownBlock = some i → ¬ F i) : Ints w' B v l :=
  h.kept (fun j hj => k.block j (World.ownsRow.lt h j hj).2 (hd j hj))
theorem Ints.lt {w : World} {B : Nat} {v : Value} {l : List Int} (h : Ints w B v l) {k : Nat} (hk : v.ownBlock = some k) : k < w.heap.size := (World.ownsRow.lt h k hk).2
theorem Ints.ge {w : World} {B : Nat} {v : Value} {l : List Int} (h : Ints w B v l) {k : Nat} (hk : v.ownBlock = some k) : B ≤ k := (World.ownsRow.lt h k hk).1
theorem Ints.arg {w : World} {B : Nat} {v : Value} {l : List Int} (h : Ints w B v l) : ArgI w v l := by
  rcases h.2 with ⟨rfl, h0⟩ | ⟨g, cap, cur, rfl, _⟩
  · have : l = [] := List.eq_nil_of_length_eq_zero h0
    subst this
    exact ⟨none, 0, rfl, Or.inl ⟨rfl, rfl, rfl⟩⟩
  · by_cases hl0 : l = []
    · exact ⟨_, _, rfl, Or.inr ⟨_, rfl, fun i hi => by rw [hl0] at hi; simp at hi⟩⟩
    · obtain ⟨g2, cap2, e, _, _, _, _, hc, _⟩ := h.slice hl0
      simp only [Value.slice.injEq, Option.some.injEq, Addr.mk.injEq] at e
      obtain ⟨⟨rfl, _, _⟩, _, rfl⟩ := e
      exact ⟨_, _, rfl, Or.inr ⟨_, rfl, fun i hi => by rw [Addr.add_lit, Nat.zero_add]; exact hc i hi⟩⟩
theorem two_of {n : Nat} (h : LeastFree [1] n) : n = 2 := by
  refine h.unique ⟨by decide, by decide, fun m q1 q2 => ?_⟩
  have : m = 1 := by omega
  subst this; decide
set_option linter.unusedVariables false
set_option maxHeartbeats 1000000 in
theorem awake09_any (w : World) : Calls Try.prog 17 #[] w fun e w' => e = .returned (.bool true) ∧ Below w.heap.size w w' := by
  have harg : ArgI (w.alloc (.cells #[.int .i64 1] 3)) (.slice (some ⟨w.heap.size, 0, none⟩) 1 1) [1] := by
    refine ⟨_, _, rfl, Or.inr ⟨_, rfl, fun i hi => ?_⟩⟩
    have : i = 0 := by simp at hi; omega
    subst this; simp [Addr.add]
  have N := new_any 3 _ [1] _ harg (by simp)
  have HN := Lib.hid N
  clear N
  go_enter Try.func17, Try.ntmps17
  go_wp2_with fail
  refine HN.out.mono ?_
  rintro e w1 ⟨g, b, p, rfl, hat, hinv, hm, hk, hg, hb, hB1⟩
  have hm3 : p.most = 3 := hm
  have Hk := Lib.hid hk
  have hB : Below w.heap.size w w1 := ((Below.refl _ _).alloc (Nat.le_refl _) _).trans (hB1.mono (by simp))
  have Hm3 := Lib.hid hm3
  simp only [World.size_alloc] at hg hb
  clear hm hm3 hk hB1 harg
  go_wp2_with fail
  refine (take_any w1 g b _ p hat hinv).mono ?_
  rintro e w2 ⟨p2, v2, n, hn, rfl, hat2, hinv2, hm2, hk2, hv2, hkeep⟩
  have hkeys : ∀ k, k ∈ mkeys p.out ↔ k = 1 := fun k => by
    rw [Hk.out k]
    have hc : ((min (max (3 : Int) 0) 200).toNat : Int) = 3 := by decide
    rw [hc]; simp; omega
  have e2 : n = 2 := two_of (hn.congr (m := [1]) (fun k => by rw [hkeys k]; simp))
  subst e2
  have hle : 2 ≤ p.most := by rw [Hm3.out]; decide
  have hlen : p2.out.length = 2 := by
    have a1 := nodup_sub (mkeys p2.out) [1, 2] hinv2.nodup (fun k hk => by rw [hk2 k, hkeys k] at hk; simp; omega)
    have a2 := nodup_sub [1, 2] (mkeys p2.out) (by decide) (fun k hk => by
      rw [hk2 k, hkeys k]
      simp at hk
      exact hk.imp id (fun q => ⟨hle, q⟩))
    simp [mkeys] at a1 a2; omega
  have Hlen := Lib.hid hlen
  have Hn := Lib.hid hkeep
  simp only [hle, if_true, decide_true]
  clear hn hk2 hkeys hlen hkeep hv2 hm2 hle
  go_wp2_with fail
  refine (out_any _ _ _ _ _ hat2).mono ?_
  rintro e w3 ⟨rfl, rfl⟩
  rw [Hlen.out]
  go_wp2_with fail
  go_ret
  exact ⟨rfl, hB.trans (Hn.out.toBelow hB.size (fun i hi => by
    rcases hi with q | q | q
    · omega
    · omega
    · simp [Value.ownBlock] at q))⟩
end Go.Proofs.Ytepjflepnkfboaa
