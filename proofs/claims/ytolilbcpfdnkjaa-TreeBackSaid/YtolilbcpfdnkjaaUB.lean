/- tree: New. -/
import Derived.Test.YtolilbcpfdnkjaaUA
namespace Go.Proofs.Ytolilbcpfdnkjaa
open Go.RowKit
set_option linter.unusedSimpArgs false
set_option linter.unusedVariables false
section
variable {V : Type} {enc : V → Value} {b : Nat} {L : List (Int × V)} {t tk te : TypeId} {ops : Array Oper} {rest : List Oper} {o : Oper} {a : Act} {w : World} {Q : Exit → Act → World → Prop}
theorem map_ins (hgd : o.guard = none) (m x v : Operand) (ho : o.op = .insert t m x v) (ht : Try.prog.underlying t = some (.map tk te)) (hk : Try.prog.underlying tk = some (.int .i64))
    (k : Int) (y : V) (hm : a.eval m = .map (some b)) (hx : a.eval x = .int .i64 k) (hv : a.eval v = enc y) (hmap : IMap enc w b L)
    (h : ∀ w', IMap enc w' b (mput L k y) → Keep (fun i => i = b) w w' → wpList Try.prog ops Q rest (a.put o.dst undef) w') : wpList Try.prog ops Q (o :: rest) a w := by
  refine wpList_plain hgd fun K hK => ?_
  obtain ⟨w', hr, h1, h2⟩ := hmap.update (P := Try.prog) ht hk k y
  unfold Oper.wp execOp
  simp only [ho, Sem.run_bind, Sem.run_pure, Result.andThen_ok, hm, hx, hv, hr]
  exact hK _ _ (h w' h1 h2)
end
def TNewPost (w : World) (e : Ending) (w' : World) : Prop := ∃ (g : Nat) (F : Nat → Prop), e = .returned (.pointer (some ⟨g, 0, none⟩)) ∧ TreeM w' F g [] 1 ∧ (∀ k, F k → w.heap.size ≤ k) ∧ Below w.heap.size w w'
set_option maxHeartbeats 2000000 in
theorem tnew_any (w : World) : Calls Try.prog 12 #[] w (TNewPost w) := by
  have hm0 := IMap.new (enc := encDE) w
  have HM0 := Lib.hid hm0
  clear hm0
  have hmm := @run_makeMap Try.prog
  go_enter Try.func12, Try.ntmps12
  go_wp2_with (first
    | (refine map_ins (enc := encDE) rfl _ _ _ rfl Try.underlying73 Try.underlying3 (0 : Int) ((.slice none 0 0, []) : DE) rfl rfl rfl HM0.out ?_
       intro w1 hm1 hk1
       have HM1 := Lib.hid hm1
       have HB1 := Lib.hid (show Below w.heap.size w w1 from (((Keep.refl (fun k => k = w.heap.size) w).alloc _).trans hk1).toBelow (Nat.le_refl _) (fun i hi => by omega))
       have HLT := Lib.hid (show w.heap.size < w1.heap.size from hm1.lt)
       clear hm1 hk1))
  have HM2 := Lib.hid (m_alloc w1 (.map #[] 0) w1.heap.size rfl)
  have HF2 := Lib.hid (IMap.new (enc := Value.int .i64) w1)
  refine (new_any 200 (.slice none 0 0) [] _ ⟨none, 0, rfl, Or.inl ⟨rfl, rfl, rfl⟩⟩ (by decide)).mono ?_
  rintro e w2 ⟨gp, bp, p, rfl, hp, hinv, hmost, hkeys, hgp, hbp, hb2⟩
  have HP := Lib.hid hp
  have HI := Lib.hid hinv
  have HMO := Lib.hid hmost
  have HKE := Lib.hid hkeys
  have HGP := Lib.hid hgp
  have HBP := Lib.hid hbp
  have HB2 := Lib.hid hb2
  clear hp hinv hmost hkeys hgp hbp hb2
  clear hmm
  go_wp2_with fail
  go_ret
  have hs1 := HLT.out
  have hsa : (w1.alloc (.map #[] 0)).heap.size = w1.heap.size + 1 := by simp
  have hs2 : w1.heap.size + 1 ≤ w2.heap.size := by rw [← hsa]; exact HB2.out.size
  have hgp : w1.heap.size + 1 ≤ gp := by rw [← hsa]; exact HGP.out
  have hbp : w1.heap.size + 1 ≤ bp := by rw [← hsa]; exact HBP.out
  have hgl : gp < w2.heap.size := m_lt HP.out.blk
  have hbl : bp < w2.heap.size := HP.out.mp.lt
  have k12 : Keep (fun _ => False) w1 (w2.alloc (.cells #[.map (some w.heap.size), .map (some w1.heap.size), .pointer (some ⟨gp, 0, none⟩), .int .i64 1] 78)) :=
    (((Keep.refl _ w1).alloc _).trans' (Keep.below HB2.out) (fun i hi => Or.inr (by omega))).alloc _
  have k22 : Below w2.heap.size w2 (w2.alloc (.cells #[.map (some w.heap.size), .map (some w1.heap.size), .pointer (some ⟨gp, 0, none⟩), .int .i64 1] 78)) := (Below.refl _ _).alloc (Nat.le_refl _) _
  have hfm : IMap (Value.int .i64) w2 w1.heap.size [] := HF2.out.keep (Keep.below HB2.out) (fun q => by omega)
  have hs2' : ∀ k, pfoot gp (.slice none 0 0) bp k → k ≠ w2.heap.size ∧ k ≠ w.heap.size ∧ k ≠ w1.heap.size := by
    intro k q
    rcases q with q | q | q
    · exact ⟨by omega, by omega, by omega⟩
    · exact ⟨by omega, by omega, by omega⟩
    · cases q
  have hm : MAt (w2.alloc (.cells #[.map (some w.heap.size), .map (some w1.heap.size), .pointer (some ⟨gp, 0, none⟩), .int .i64 1] 78)) w2.heap.size w.heap.size w1.heap.size gp bp (.slice none 0 0) [(0, (.slice none 0 0, []))] [] p 1 :=
    ⟨m_alloc _ _ _ rfl, HM1.out.keep k12 (fun q => q), hfm.keep (Keep.below k22) (fun q => by omega),
      ⟨m_keep HP.out.blk (Keep.below k22) (fun q => by omega), HP.out.row.kept (fun j hj => by cases hj), HP.out.mp.keep (Keep.below k22) (fun q => by omega), HP.out.ne1, HP.out.ne2, HP.out.ne3⟩, HI.out, HMO.out,
      fun x hx => by simp at hx; subst hx; exact RowO.nil _ _ _, ⟨by omega, by omega, by omega⟩, hs2', fun x hx k q => by simp at hx; subst hx; cases q⟩
  refine ⟨w2.heap.size, tfoot w2.heap.size w.heap.size w1.heap.size gp bp (.slice none 0 0) [(0, (.slice none 0 0, []))], rfl, ⟨_, _, _, _, _, _, _, _, rfl, hm, ?_⟩, fun k q => ?_, HB1.out.trans ((k12.toBelow HB1.out.size (fun i q => q.elim)))⟩
  · refine ⟨fun d hd => ?_, fun d hd => ?_, fun d => ?_, fun k => ?_⟩
    · have : d = 0 := by simpa [isDirB] using hd
      subst this; exact ⟨_, rfl⟩
    · have : ¬ d = 0 := by simpa [isDirB] using hd
      simp [mget_cons, mget_nil, show ¬ (0 : Int) = d from fun q => this q.symm]
    · rfl
    · rw [HKE.out k]; simp
  · rcases q with q | q | q | q | ⟨x, hx, q⟩
    · omega
    · omega
    · omega
    · rcases q with q | q | q
      · omega
      · omega
      · cases q
    · simp at hx; subst hx; cases q
end Go.Proofs.Ytolilbcpfdnkjaa
