/- sector: Get, Put, Cut, Flush, New. -/
import Derived.Test.YtncbojocglcieaaS1
import Derived.Shelf.SlMaps.Clone
namespace Go.Proofs.Ytncbojocglcieaa
open Go.RowKit
set_option linter.unusedSimpArgs false
set_option linter.unusedVariables false
theorem zero_str (w : World) : (zeroValue 9).run Try.prog w = .ok (.string ⟨#[]⟩) w := by kernel_rfl
set_option maxHeartbeats 1000000 in
theorem get_any (w : World) (F : Nat → Prop) (g : Nat) (d : DevD) (i : Int) (h : Dev w F g d) :
    Calls Try.prog 23 #[.pointer (some ⟨g, 0, none⟩), .int .i64 i] w fun e w' => e = .returned (.tuple #[.string (d.get i), .int .i64 (d.ask i)]) ∧ Below w.heap.size w w' := by
  have H := Lib.hid h
  obtain ⟨a, b, qv, rfl, h⟩ := h
  have c2 : w.cell? ⟨g, 2, none⟩ = some (.map (some b)) := (m_cells h.blk).1 2
  have hlk := h.seen.lookup (P := Try.prog) Try.underlying98 Try.underlying3 zero_str i true
  clear h
  obtain ⟨r, hr⟩ : ∃ r, d.ask i = r := ⟨_, rfl⟩
  have Hr := Lib.hid hr
  by_cases h0 : r = 0
  · subst h0
    have hg : d.get i = d.sec i := by unfold DevD.get; rw [if_pos hr]
    rw [hg]
    rw [hr]
    cases hm : mget d.seen i with
    | none =>
      rw [hm] at hlk
      have hs : d.sec i = zsec := by unfold DevD.sec; rw [hm]; rfl
      rw [hs]
      simp only [if_true] at hlk
      clear hr hg hm hs
      go_enter Try.func23, Try.ntmps23
      go_wp2_with fail
      refine (ask_any _ _ _ _ _ H.out).mono ?_
      rintro e w1 ⟨rfl, rfl⟩
      rw [Hr.out]
      go_wp2_with fail
      refine (Try.strings_Repeat ⟨#[0]⟩ 64 _ (by decide) (by decide)).mono ?_
      rintro e w2 ⟨rfl, hb2⟩
      go_wp2_with fail
      go_ret2
      exact ⟨by rw [← rep_zero]; rfl, hb2⟩
    | some x =>
      rw [hm] at hlk
      have hs : d.sec i = x := by unfold DevD.sec; rw [hm]; rfl
      rw [hs]
      simp only [if_true] at hlk
      clear hr hg hm hs
      go_enter Try.func23, Try.ntmps23
      go_wp2_with fail
      refine (ask_any _ _ _ _ _ H.out).mono ?_
      rintro e w1 ⟨rfl, rfl⟩
      rw [Hr.out]
      go_wp2_with fail
      go_ret2
      exact ⟨rfl, Below.refl _ _⟩
  · have hg : d.get i = ⟨#[]⟩ := by unfold DevD.get; rw [if_neg (by rw [hr]; exact h0)]
    rw [hg, hr]
    have n1 : (r == 0) = false := by simpa using h0
    have n2 : (r != 0) = true := by simpa using h0
    clear hr hg h0 hlk
    go_enter Try.func23, Try.ntmps23
    go_wp2_with fail
    refine (ask_any _ _ _ _ _ H.out).mono ?_
    rintro e w1 ⟨rfl, rfl⟩
    rw [Hr.out]
    go_wp2_with fail
    go_ret2
    exact ⟨rfl, Below.refl _ _⟩
/-- A map's value has turned, or its queue; the head's cells as told. -/
theorem Stepped.of {w w' : World} {g a b a' b' : Nat} {qv qv' : Value} {d' : DevD} (h : DAt w' g a' b' qv' d') (hk : Keep (dfoot g a b qv) w w') (h1 : a' = a ∨ w.heap.size ≤ a') (h2 : b' = b ∨ w.heap.size ≤ b') (h3 : ∀ k, qv'.ownBlock = some k → qv.ownBlock = some k ∨ w.heap.size ≤ k) : Stepped w (dfoot g a b qv) g d' w' := by
  refine ⟨_, ⟨a', b', qv', rfl, h⟩, fun k q => ?_, hk⟩
  rcases q with q | q | q | q
  · exact Or.inl (Or.inl q)
  · subst q; exact h1.imp (fun e => Or.inr (Or.inl e)) id
  · subst q; exact h2.imp (fun e => Or.inr (Or.inr (Or.inl e))) id
  · exact (h3 k q.symm).imp (fun e => Or.inr (Or.inr (Or.inr e.symm))) id
set_option maxHeartbeats 1000000 in
theorem cut_any (w : World) (F : Nat → Prop) (g : Nat) (d : DevD) (n : Int) (h : Dev w F g d) :
    Calls Try.prog 28 #[.pointer (some ⟨g, 0, none⟩), .int .i64 n] w fun e w' => e = .returned (.tuple #[]) ∧ Stepped w F g (d.cut n) w' := by
  obtain ⟨a, b, qv, rfl, h⟩ := h
  have H := Lib.hid h
  obtain ⟨c, f⟩ := m_cells h.blk
  have c4 : w.cell? ⟨g, 4, none⟩ = some (.int .i64 d.left) := c 4
  have f4 := f 4
  clear h c f
  by_cases h0 : d.left = 0
  · have e : d.cut n = d := by unfold DevD.cut; rw [if_pos h0]
    rw [e]
    clear e
    go_enter Try.func28, Try.ntmps28
    go_wp2
    go_end0
    exact ⟨rfl, Stepped.of H.out (Keep.refl _ _) (Or.inl rfl) (Or.inl rfl) (fun _ q => Or.inl q)⟩
  · have e : d.cut n = { d with left := max n (-1) } := by unfold DevD.cut; rw [if_neg h0]
    have n2 : (d.left != 0) = true := by simpa using h0
    rw [e]
    have k4 : ∀ v, Keep (fun k => k = g) w (w.setCell ⟨g, 4, none⟩ v) := fun v => (Keep.refl _ w).set g 4 v (Or.inl rfl)
    clear e
    go_enter Try.func28, Try.ntmps28
    go_wp2
    go_end0
    exact ⟨rfl, Stepped.of ⟨m_set H.out.blk 4 _, H.out.safe.keep (k4 _) H.out.nag, H.out.seen.keep (k4 _) H.out.nbg, H.out.row.keep (k4 _) (fun i hi q => H.out.nqg (by rw [hi, q])), H.out.nab, H.out.nag, H.out.nbg, H.out.nqa, H.out.nqb, H.out.nqg⟩ ((k4 _).mono (fun i q => Or.inl (Or.inl q))) (Or.inl rfl) (Or.inl rfl) (fun _ q => Or.inl q)⟩
theorem DAt.head {w : World} {g a b : Nat} {qv : Value} {d : DevD} (h : DAt w g a b qv d) (v : Int) : DAt (w.setCell ⟨g, 4, none⟩ (.int .i64 v)) g a b qv { d with left := v } := by
  have k4 : Keep (fun k => k = g) w (w.setCell ⟨g, 4, none⟩ (.int .i64 v)) := (Keep.refl _ w).set g 4 _ (Or.inl rfl)
  exact ⟨m_set h.blk 4 _, h.safe.keep k4 h.nag, h.seen.keep k4 h.nbg, h.row.keep k4 (fun i hi q => h.nqg (by rw [hi, q])), h.nab, h.nag, h.nbg, h.nqa, h.nqb, h.nqg⟩
theorem DAt.seen_turned {w w' : World} {g a b : Nat} {qv : Value} {d : DevD} {s : List (Int × ByteArray)} (h : DAt w g a b qv d) (hm : IMap Value.string w' b s) (k : Keep (fun i => i = b) w w') : DAt w' g a b qv { d with seen := s } :=
  ⟨m_keep h.blk k h.nbg.symm, h.safe.keep k h.nab, hm, h.row.keep k (fun i hi q => h.nqb (by rw [hi, q])), h.nab, h.nag, h.nbg, h.nqa, h.nqb, h.nqg⟩
theorem Stepped.refl {w : World} {F : Nat → Prop} {g : Nat} {d : DevD} (h : Dev w F g d) : Stepped w F g d w := ⟨F, h, fun _ q => Or.inl q, Keep.refl _ _⟩
/-- The queue is another. -/
theorem DAt.queued {w w1 : World} {g a b : Nat} {qv qv' : Value} {d : DevD} {q : List (Int × ByteArray)} {G : Nat → Prop} (h : DAt w g a b qv d) (hr : Row EPen w1 0 qv' q) (hk : Keep G w w1) (hg : ¬ G g) (ha : ¬ G a) (hb : ¬ G b) (hn : ∀ k, qv'.ownBlock = some k → qv.ownBlock = some k ∨ w.heap.size ≤ k) :
    DAt (w1.setCell ⟨g, 3, none⟩ qv') g a b qv' { d with queue := q } := by
  have hgl := m_lt h.blk
  have hal := h.safe.lt
  have hbl := h.seen.lt
  have k3 : Keep (fun k => k = g) w1 (w1.setCell ⟨g, 3, none⟩ qv') := (Keep.refl _ w1).set g 3 _ (Or.inl rfl)
  have nqg : qv'.ownBlock ≠ some g := fun e => (hn g e).elim h.nqg (fun q => absurd hgl (Nat.not_lt.2 q))
  refine ⟨?_, (h.safe.keep hk ha).keep k3 h.nag, (h.seen.keep hk hb).keep k3 h.nbg, hr.keep k3 (fun i hi e => nqg (by rw [hi, e])), h.nab, h.nag, h.nbg, fun e => (hn a e).elim h.nqa (fun q => absurd hal (Nat.not_lt.2 q)), fun e => (hn b e).elim h.nqb (fun q => absurd hbl (Nat.not_lt.2 q)), nqg⟩
  have := m_set (m_keep h.blk hk hg) 3 qv'
  exact this
set_option maxRecDepth 100000 in
set_option maxHeartbeats 1000000 in
theorem put_any (w : World) (F : Nat → Prop) (g : Nat) (d : DevD) (i : Int) (x : ByteArray) (h : Dev w F g d) (hq : d.queue.length ≤ 1000000) (hleft : d.left ≤ 9223372036854775807) :
    Calls Try.prog 18 #[.pointer (some ⟨g, 0, none⟩), .int .i64 i, .string x] w fun e w' => e = .returned (.int .i64 (d.putErr i x)) ∧ Stepped w F g (if d.putErr i x = 0 then d.put i x else d) w' := by
  have HD := Lib.hid h
  obtain ⟨r, hr⟩ : ∃ r, d.putErr i x = r := ⟨_, rfl⟩
  rw [hr]
  obtain ⟨r1, hr1⟩ : ∃ r, d.ask i = r := ⟨_, rfl⟩
  have Hr1 := Lib.hid hr1
  unfold DevD.putErr at hr
  rw [hr1] at hr
  clear hr1
  by_cases h0 : r1 = 0
  · subst h0
    by_cases h1 : x.size = 64
    · rw [if_neg (by simp), if_neg (by simp [h1])] at hr
      subst hr
      rw [if_pos rfl]
      obtain ⟨a, b, qv, rfl, h⟩ := h
      obtain ⟨c, f⟩ := m_cells h.blk
      have c2 : w.cell? ⟨g, 2, none⟩ = some (.map (some b)) := c 2
      have c3 : w.cell? ⟨g, 3, none⟩ = some qv := c 3
      have c4 : w.cell? ⟨g, 4, none⟩ = some (.int .i64 d.left) := c 4
      have f4 := f 4
      have H := Lib.hid h
      have n1 : ((x.size : Int) != 64) = false := by rw [h1]; rfl
      clear h c f
      by_cases h2 : 0 < d.left
      · skip
        go_enter Try.func18, Try.ntmps18
        go_wp2_with fail
        refine (ask_any _ _ _ _ _ HD.out).mono ?_
        rintro e w1 ⟨rfl, rfl⟩
        rw [Hr1.out]
        go_wp2_with (first
          | (refine map_put (enc := Value.string) (tk := 3) (te := 9) rfl _ _ _ rfl Try.underlying98 Try.underlying3 i x rfl rfl rfl (H.out.head (d.left - 1)).seen ?_; intro w2 hm2 k2; have h2d := (H.out.head (d.left - 1)).seen_turned hm2 k2; have c3 : w2.cell? ⟨g, 3, none⟩ = some qv := (m_cells h2d.blk).1 3)
          | (refine app_row EPen.laid rfl _ _ 99 99 Try.underlying99 Try.underlying99 rfl qv d.queue rfl (h2d.row.alloc _) _ [(i, x)] rfl ?c1 ?c2 ?c3 (Nat.zero_le _) ?_
             case c1 => exact Arg.blk (m_alloc _ _ _ rfl) [(i, x)] rfl 1
             case c2 => show (d.queue.length + 1) * 24 ≤ _; omega
             case c3 => show d.queue.length + 1 ≤ maxLen; unfold maxLen; omega
             intro v3 w3 hr3 hv3 k3
             obtain ⟨va, vc, rfl⟩ := hr3.shape
             have hb3 := m_cells (m_keep (m_old (.cells #[.int .i64 i, .string x] 104) h2d.blk) k3 (fun e => h2d.nqg e.symm))
             have c33 : w3.cell? ⟨g, 3, none⟩ = some qv := hb3.1 3
             have f33 := hb3.2 3
             clear hb3))
        go_ret
        have ka : Keep (fun k => some k = qv.ownBlock) w2 w3 := ((Keep.refl _ w2).alloc _).trans k3
        have hq2 := h2d.queued hr3 ka (fun e => h2d.nqg e.symm) (fun e => h2d.nqa e.symm) (fun e => h2d.nqb e.symm) (fun k q => (hv3 k q).imp id (fun e => by simp at e; omega))
        have hk2 : Keep (dfoot g a b qv) (w1.setCell ⟨g, 4, none⟩ (.int .i64 (d.left - 1))) w2 := k2.mono (fun i hi => Or.inl (Or.inr (Or.inr (Or.inl hi))))
        have hk3 : Keep (dfoot g a b qv) w2 w3 := ka.mono (fun i hi => Or.inl (Or.inr (Or.inr (Or.inr hi))))
        have hp : d.put i x = { d with left := d.left - 1, seen := mput d.seen i x, queue := d.queue ++ [(i, x)] } := by unfold DevD.put; rw [if_pos h2]
        rw [List.length_append, List.length_singleton] at hq2
        simp only [List.length_append, List.length_singleton] at hv3
        refine ⟨rfl, ?_⟩
        rw [hp]
        refine Stepped.of hq2 ?_ (Or.inl rfl) (Or.inl rfl) (fun k q => (hv3 k q).imp id (fun e => by have := k2.size; simp at e this; omega))
        exact ((((Keep.refl (dfoot g a b qv) w1).set g 4 _ (Or.inl (Or.inl rfl))).trans hk2).trans (hk3)).set g 3 _ (Or.inl (Or.inl rfl))
      · skip
        go_enter Try.func18, Try.ntmps18
        go_wp2_with fail
        refine (ask_any _ _ _ _ _ HD.out).mono ?_
        rintro e w1 ⟨rfl, rfl⟩
        rw [Hr1.out]
        go_wp2_with (first
          | (refine map_put (enc := Value.string) (tk := 3) (te := 9) rfl _ _ _ rfl Try.underlying98 Try.underlying3 i x rfl rfl rfl H.out.seen ?_; intro w2 hm2 k2; have h2d := H.out.seen_turned hm2 k2; have c3 : w2.cell? ⟨g, 3, none⟩ = some qv := (m_cells h2d.blk).1 3)
          | (refine app_row EPen.laid rfl _ _ 99 99 Try.underlying99 Try.underlying99 rfl qv d.queue rfl (h2d.row.alloc _) _ [(i, x)] rfl ?c1 ?c2 ?c3 (Nat.zero_le _) ?_
             case c1 => exact Arg.blk (m_alloc _ _ _ rfl) [(i, x)] rfl 1
             case c2 => show (d.queue.length + 1) * 24 ≤ _; omega
             case c3 => show d.queue.length + 1 ≤ maxLen; unfold maxLen; omega
             intro v3 w3 hr3 hv3 k3
             obtain ⟨va, vc, rfl⟩ := hr3.shape
             have hb3 := m_cells (m_keep (m_old (.cells #[.int .i64 i, .string x] 104) h2d.blk) k3 (fun e => h2d.nqg e.symm))
             have c33 : w3.cell? ⟨g, 3, none⟩ = some qv := hb3.1 3
             have f33 := hb3.2 3
             clear hb3))
        go_ret
        have ka : Keep (fun k => some k = qv.ownBlock) w2 w3 := ((Keep.refl _ w2).alloc _).trans k3
        have hq2 := h2d.queued hr3 ka (fun e => h2d.nqg e.symm) (fun e => h2d.nqa e.symm) (fun e => h2d.nqb e.symm) (fun k q => (hv3 k q).imp id (fun e => by simp at e; omega))
        have hk2 : Keep (dfoot g a b qv) w1 w2 := k2.mono (fun i hi => Or.inl (Or.inr (Or.inr (Or.inl hi))))
        have hk3 : Keep (dfoot g a b qv) w2 w3 := ka.mono (fun i hi => Or.inl (Or.inr (Or.inr (Or.inr hi))))
        have hp : d.put i x = { d with left := d.left, seen := mput d.seen i x, queue := d.queue ++ [(i, x)] } := by unfold DevD.put; rw [if_neg (by omega)]
        rw [List.length_append, List.length_singleton] at hq2
        simp only [List.length_append, List.length_singleton] at hv3
        refine ⟨rfl, ?_⟩
        rw [hp]
        refine Stepped.of hq2 ?_ (Or.inl rfl) (Or.inl rfl) (fun k q => (hv3 k q).imp id (fun e => by have := k2.size; simp at e this; omega))
        exact (hk2.trans (hk3)).set g 3 _ (Or.inl (Or.inl rfl))
    · rw [if_neg (by simp), if_pos (by simpa using h1)] at hr
      subst hr
      rw [if_neg (by decide)]
      have n1 : ((x.size : Int) != 64) = true := by simp; omega
      clear h
      go_enter Try.func18, Try.ntmps18
      go_wp2_with fail
      refine (ask_any _ _ _ _ _ HD.out).mono ?_
      rintro e w1 ⟨rfl, rfl⟩
      rw [Hr1.out]
      go_wp2_with fail
      go_ret
      exact ⟨rfl, Stepped.refl HD.out⟩
  · rw [if_pos h0] at hr
    subst hr
    rw [if_neg h0]
    have n1 : (r1 == 0) = false := by simpa using h0
    have n2 : (r1 != 0) = true := by simpa using h0
    clear h h0
    go_enter Try.func18, Try.ntmps18
    go_wp2_with fail
    refine (ask_any _ _ _ _ _ HD.out).mono ?_
    rintro e w1 ⟨rfl, rfl⟩
    rw [Hr1.out]
    go_wp2_with fail
    go_ret
    exact ⟨rfl, Stepped.refl HD.out⟩
end Go.Proofs.Ytncbojocglcieaa
