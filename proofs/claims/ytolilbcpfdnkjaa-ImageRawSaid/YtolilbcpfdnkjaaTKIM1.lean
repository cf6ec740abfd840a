/- image: the writer's bytes (a strings.Builder within a struct). -/
import Derived.Test.YtolilbcpfdnkjaaTKByK
import Derived.Test.YtolilbcpfdnkjaaTKRkA
import Derived.Lib.Builder
import Derived.Lib.UnsafeStr
import Derived.Lib.AppendStr
import Derived.Lib.FrozenHead
import Derived.Laws.Externs
namespace Go.Proofs.Ytolilbcpfdnkjaa
open Go.RowKit
set_option linter.unusedSimpArgs false
set_option linter.unusedVariables false
theorem info_b8 : (Try.prog.info? 5).map (fun i => (i.zero, i.size, i.bytes)) = some (some (.int .u8 0), 1, 1) := by kernel_rfl
theorem builder_info : (Try.prog.info? 103).map (·.size) = some 2 := by kernel_rfl
/-- The writer in memory: its buffer v, with the bytes l. -/
def WrAt (w : World) (g : Nat) (v : Value) (l : List UInt8) : Prop :=
  ∃ p, (p = .pointer none ∨ p = .pointer (some ⟨g, 0, none⟩)) ∧ w.heap[g]? = some (.cells #[p, v] 105 (0, 0)) ∧ Row EByt w (g + 1) v l
/-- What a call on the writer turns. -/
def WStep (g : Nat) (w : World) (v : Value) (w' : World) (v' : Value) : Prop :=
  Keep (fun k => k = g ∨ v.ownBlock = some k) w w' ∧ ∀ k, v'.ownBlock = some k → v.ownBlock = some k ∨ w.heap.size ≤ k
theorem WStep.refl (g : Nat) (w : World) (v : Value) : WStep g w v w v := ⟨Keep.refl _ _, fun _ q => Or.inl q⟩
theorem WStep.trans {g : Nat} {w w1 w2 : World} {v v1 v2 : Value} (h1 : WStep g w v w1 v1) (h2 : WStep g w1 v1 w2 v2) : WStep g w v w2 v2 :=
  ⟨h1.1.trans' h2.1 (fun i q => q.elim (fun e => Or.inl (Or.inl e)) (fun e => (h1.2 i e).imp Or.inr id)), fun k q => (h2.2 k q).elim (h1.2 k) (fun e => Or.inr (Nat.le_trans h1.1.size e))⟩
theorem WStep.below {g : Nat} {w w1 w2 : World} {v v1 : Value} (h1 : WStep g w v w1 v1) (hb : Below w1.heap.size w1 w2) : WStep g w v w2 v1 :=
  ⟨h1.1.trans' (Keep.below hb) (fun i q => Or.inr (Nat.le_trans h1.1.size q)), h1.2⟩
theorem WStep.behind {g : Nat} {w w1 w2 : World} {v v2 : Value} (hb : Below w.heap.size w w1) (h2 : WStep g w1 v w2 v2) : WStep g w v w2 v2 :=
  ⟨((Keep.below hb).mono (fun i q => Or.inr q)).trans h2.1, fun k q => (h2.2 k q).imp id (Nat.le_trans hb.size)⟩
theorem WrAt.below {g : Nat} {w w1 : World} {v : Value} {l : List UInt8} (h : WrAt w g v l) (hb : Below w.heap.size w w1) : WrAt w1 g v l := by
  obtain ⟨p, hp, hh, hr⟩ := h
  exact ⟨p, hp, (hb.block _ (m_lt hh)).trans hh, hr.below hb⟩
theorem WrAt.lt {g : Nat} {w : World} {v : Value} {l : List UInt8} (h : WrAt w g v l) : g < w.heap.size := by obtain ⟨p, hp, hh, hr⟩ := h; exact m_lt hh
theorem WrAt.vlt {g : Nat} {w : World} {v : Value} {l : List UInt8} (h : WrAt w g v l) {k : Nat} (q : v.ownBlock = some k) : g < k ∧ k < w.heap.size := by obtain ⟨p, hp, hh, hr⟩ := h; exact ⟨hr.ge q, hr.lt q⟩
set_option maxRecDepth 100000 in
set_option maxHeartbeats 2000000 in
theorem bcheck_any {w : World} {g : Nat} {v : Value} {l : List UInt8} (h : WrAt w g v l) :
    Calls Try.prog 94 #[.pointer (some ⟨g, 0, none⟩)] w fun e w' => e = .returned (.tuple #[]) ∧ WrAt w' g v l ∧ Keep (fun k => k = g) w w' := by
  obtain ⟨p, hp, hb, hr⟩ := h
  have hn : v.ownBlock ≠ some g := fun q => Nat.not_succ_le_self g (hr.ge q)
  have c0 : w.cell? ⟨g, 0, none⟩ = some p := (m_cells hb).1 0
  have f0 : w.frozen? ⟨g, 0, none⟩ = false := (m_cells hb).2 0
  have hsh : w.shape? g = some (105, 2) := by simp [World.shape?, hb]
  obtain ⟨j, hj, hjs⟩ : ∃ j, Try.prog.info? 103 = some j ∧ j.size = 2 := by
    have h := builder_info
    cases hi : Try.prog.info? 103 with
    | none => rw [hi] at h; cases h
    | some j => rw [hi] at h; exact ⟨j, rfl, by simpa using h⟩
  have g1 := Lib.run_to_unsafe (P := Try.prog) (src := 101) (dst := 166) w ⟨g, 0, none⟩ Try.underlying101 Try.underlying166 hj (by rw [hjs]; decide) hsh (Nat.zero_lt_succ 1)
  have g0 : (callFunc 100 #[.pointer (some ⟨g, 0, none⟩)]).run Try.prog w = .ok (.value (.pointer (some ⟨g, 0, none⟩))) w := by
    rw [run_callFunc_extern Try.func100 (by kernel_rfl) (by kernel_rfl) (by kernel_rfl) (e := Extern.AbiNoEscape.same) (by kernel_rfl)]; rfl
  have g2 := Lib.run_from_unsafe (P := Try.prog) (src := 166) (dst := 101) w ⟨g, 0, none⟩ Try.underlying166 Try.underlying101 hj hsh (by kernel_rfl)
  have g3 := Lib.run_neq_ptr_same (P := Try.prog) (tp := 101) w ⟨g, 0, none⟩ Try.underlying101 hj
  have g4 := Lib.run_neq_ptr_same (P := Try.prog) (tp := 101) (w.setCell ⟨g, 0, none⟩ (.pointer (some ⟨g, 0, none⟩))) ⟨g, 0, none⟩ Try.underlying101 hj
  have hset := m_set hb 0 (.pointer (some ⟨g, 0, none⟩))
  have c0' : (w.setCell ⟨g, 0, none⟩ (.pointer (some ⟨g, 0, none⟩))).cell? ⟨g, 0, none⟩ = some (.pointer (some ⟨g, 0, none⟩)) := (m_cells hset).1 0
  have HR := Lib.hid hr
  have HSET := Lib.hid hset
  have HB := Lib.hid hb
  clear hr hset hb hj hjs
  rcases hp with rfl | rfl
  · go_enter Try.func94, Try.ntmps94
    go_wp2
    go_end0
    exact ⟨rfl, ⟨_, Or.inr rfl, HSET.out, HR.out.kept (fun k q => Below.heap_setCell _ _ _ _ (fun e => hn (by rw [q, e])))⟩, (Keep.refl (fun k => k = g) w).set g 0 _ (Or.inl rfl)⟩
  · go_enter Try.func94, Try.ntmps94
    go_wp2
    go_end0
    exact ⟨rfl, ⟨_, Or.inr rfl, HB.out, HR.out⟩, Keep.refl _ _⟩
theorem wr_put {w w1 w2 : World} {g : Nat} {l l' : List UInt8} {p v v2 : Value} (hp : p = .pointer none ∨ p = .pointer (some ⟨g, 0, none⟩)) (hb : w1.heap[g]? = some (.cells #[p, v] 105 (0, 0))) (hr : Row EByt w1 (g + 1) v l) (hk : Keep (fun k => k = g) w w1)
    (hk2 : Keep (fun k => some k = v.ownBlock) w1 w2) (hr2 : Row EByt w2 (g + 1) v2 l') (hv : ∀ k, v2.ownBlock = some k → v.ownBlock = some k ∨ w1.heap.size ≤ k) : WrAt (w2.setCell ⟨g, 1, none⟩ v2) g v2 l' ∧ WStep g w v (w2.setCell ⟨g, 1, none⟩ v2) v2 := by
  have hg := m_lt hb
  have hn2 : v2.ownBlock ≠ some g := fun q => Nat.not_succ_le_self g (hr2.ge q)
  have hb2 := m_keep hb hk2 (fun e => Nat.not_succ_le_self g (hr.ge e.symm))
  refine ⟨⟨p, hp, m_set hb2 1 v2, hr2.kept (fun k q => Below.heap_setCell _ _ _ _ (fun e => hn2 (by rw [q, e])))⟩, ?_, fun k q => (hv k q).imp id (Nat.le_trans hk.size)⟩
  exact ((hk.mono (fun i q => Or.inl (Or.inl q))).trans (hk2.mono (fun i q => Or.inl (Or.inr q.symm)))).set g 1 _ (Or.inl (Or.inl rfl))
set_option maxRecDepth 100000 in
set_option maxHeartbeats 2000000 in
theorem wbyte_any {w : World} {g : Nat} {v : Value} {l : List UInt8} (c : UInt8) (h : WrAt w g v l) (hl : l.length ≤ 100000000) :
    Calls Try.prog 80 #[.pointer (some ⟨g, 0, none⟩), .int .u8 c.toNat] w fun e w' => ∃ v', e = .returned .nilIface ∧ WrAt w' g v' (l ++ [c]) ∧ WStep g w v w' v' := by
  have HC := Lib.hid (bcheck_any h)
  clear h
  go_enter Try.func80, Try.ntmps80
  go_wp2_with fail
  refine HC.out.mono ?_
  rintro e w1 ⟨rfl, ⟨p, hp, hb, hr⟩, hk⟩
  have c1 : w1.cell? ⟨g, 1, none⟩ = some v := (m_cells hb).1 1
  have HP := Lib.hid hp
  have HR := Lib.hid hr
  have HB := Lib.hid hb
  have HK := Lib.hid hk
  have HG := Lib.hid (show g + 1 ≤ w1.heap.size from m_lt hb)
  clear hp hr hb hk HC
  go_wp2_with (first
    | (refine app_row EByt.laid rfl _ _ 49 49 Try.underlying49 Try.underlying49 rfl v l rfl (HR.out.alloc _) _ [c] rfl ?e1 ?e2 ?e3 ?e4 ?_
       case e1 => exact Arg.blk (m_alloc _ _ _ rfl) [c] rfl 1
       case e2 => (show (l.length + 1) * 1 ≤ _; omega)
       case e3 => (show l.length + 1 ≤ maxLen; unfold maxLen; omega)
       case e4 => (have := HG.out; simp; omega)
       intro v2 w2 hr2 hv2 hk2
       have hk2' : Keep (fun k => some k = v.ownBlock) w1 w2 := ((Keep.refl _ w1).alloc _).trans hk2
       have HK2 := Lib.hid hk2'
       have hb2 := m_keep HB.out hk2' (fun e => Nat.not_succ_le_self g (HR.out.ge e.symm))
       have f2 : w2.frozen? ⟨g, 1, none⟩ = false := (m_cells hb2).2 1
       have d2 : w2.cell? ⟨g, 1, none⟩ = some v := (m_cells hb2).1 1
       obtain ⟨a2, c2, rfl⟩ := hr2.shape
       rw [show (l ++ [c]).length = l.length + 1 from by simp] at hr2 hv2
       have HR2 := Lib.hid hr2
       have HV2 := Lib.hid (show ∀ k, (Value.slice a2 (l.length + 1) c2).ownBlock = some k → v.ownBlock = some k ∨ w1.heap.size ≤ k from fun k q => (hv2 k q).imp id (fun e => by simp at e; omega))
       clear hr2 hv2 hk2 hk2' hb2))
  go_ret
  exact ⟨_, rfl, wr_put HP.out HB.out HR.out HK.out HK2.out HR2.out HV2.out⟩
theorem E_len (l : List UInt8) : (l.flatMap EByt.enc).length = l.length := by rw [EByt.flat]; simp [bv]
theorem app_str {ops : Array Oper} {rest : List Oper} {o : Oper} {a : Act} {w : World} {Q : Exit → Act → World → Prop} {B : Nat} (hgd : o.guard = none) (s x : Operand) (ho : o.op = .call { callee := .builtin .append, args := #[s, x], argTypes := #[49, 9] })
    (v : Value) (l : List UInt8) (hs : a.eval s = v) (hown : Row EByt w B v l) (t : ByteArray) (hx : a.eval x = .string t) (hl : l.length + t.size ≤ 140737488355328) (hbase : B ≤ w.heap.size)
    (h : ∀ v' w', Row EByt w' B v' (l ++ t.data.toList) → (∀ k, v'.ownBlock = some k → v.ownBlock = some k ∨ w.heap.size = k) → Keep (fun k => some k = v.ownBlock) w w' → wpList Try.prog ops Q rest (a.put o.dst v') w') : wpList Try.prog ops Q (o :: rest) a w := by
  obtain ⟨i0, hi, hz0, hz1, hz2⟩ := info_parts info_b8
  refine wpList_plain hgd fun K hK => ?_
  obtain ⟨v', w', hr, h2, h3, h4⟩ := Go.Lib.run_append_own_string (P := Try.prog) w B 49 9 o.type 5 i0 Try.underlying49 Try.underlying9 hi hz0 hz1 hz2 v l.length (l.flatMap EByt.enc) hown t (by unfold maxLen; omega) (by omega) hbase
  have hv : ∀ k, v'.ownBlock = some k → v.ownBlock = some k ∨ w.heap.size = k := by
    rcases hown.2 with ⟨rfl, hn⟩ | ⟨g, cap, cur, rfl, _, hg, hnc, hcm, hcs, htake⟩
    · by_cases hm : t.size = 0
      · intro k q; rw [h4.2 ⟨rfl, hm⟩] at q; cases q
      · have hr2 := run_append_nil_string (P := Try.prog) w 49 9 o.type 5 i0 (.int .u8 0) Try.underlying49 Try.underlying9 hi hz0 t (by omega) (by omega) (by rw [hz2]; omega)
        rw [hr2] at hr
        injection hr with e1 e2
        subst e1
        exact fun k q => Or.inr (by simpa [Value.ownBlock] using q)
    · by_cases hroom : l.length + t.size ≤ cap
      · have hcs' : cur.size = cap := by rw [hcs]; show _ * 1 = _; omega
        have hr2 := Go.Lib.run_append_room_string (P := Try.prog) w 49 9 o.type 5 i0 Try.underlying49 Try.underlying9 hi hz1 g l.length cap cur hg t hroom (by omega)
        rw [hr2] at hr
        injection hr with e1 e2
        subst e1
        exact fun k q => Or.inl q
      · have hr2 := Go.Lib.run_append_grow_string (P := Try.prog) w 49 9 o.type 5 i0 (.int .u8 0) Try.underlying49 Try.underlying9 hi hz0 ⟨g, 0, none⟩ l.length cap (l.flatMap EByt.enc) (by rw [hz1]; simpa using E_len l) (World.ownsRow.cells (g := g) hown rfl) t (by omega) (by omega) (by rw [hz2]; exact growslice_fits (by omega) (by omega))
        rw [hr2] at hr
        injection hr with e1 e2
        subst e1
        exact fun k q => Or.inr (by simpa [Value.ownBlock] using q)
  unfold Oper.wp execOp
  simp only [ho, resolve, invoke, builtin, Sem.run_bind, Sem.run_pure, Result.andThen_ok, List.map_toArray, List.map_cons, List.map_nil, hs, hx, hr]
  refine hK _ _ (h v' w' ?_ hv (Keep.grown h3))
  unfold Row
  rw [List.length_append, List.flatMap_append, EByt.flat t.data.toList]
  have : t.data.toList.length = t.size := by rw [Array.length_toList]; rfl
  rw [this]
  exact h2
set_option maxRecDepth 100000 in
set_option maxHeartbeats 2000000 in
theorem wstr_any {w : World} {g : Nat} {v : Value} {l : List UInt8} (s : ByteArray) (h : WrAt w g v l) (hl : l.length ≤ 100000000) (hs : s.size ≤ 100000000) :
    Calls Try.prog 81 #[.pointer (some ⟨g, 0, none⟩), .string s] w fun e w' => ∃ v' n, e = .returned (.tuple #[.int .i64 n, .nilIface]) ∧ WrAt w' g v' (l ++ s.data.toList) ∧ WStep g w v w' v' := by
  have HC := Lib.hid (bcheck_any h)
  clear h
  go_enter Try.func81, Try.ntmps81
  go_wp2_with fail
  refine HC.out.mono ?_
  rintro e w1 ⟨rfl, ⟨p, hp, hb, hr⟩, hk⟩
  have c1 : w1.cell? ⟨g, 1, none⟩ = some v := (m_cells hb).1 1
  have HP := Lib.hid hp
  have HR := Lib.hid hr
  have HB := Lib.hid hb
  have HK := Lib.hid hk
  have HG := Lib.hid (show g + 1 ≤ w1.heap.size from m_lt hb)
  clear hp hr hb hk HC
  go_wp2_with (first
    | (refine app_str rfl _ _ rfl v l rfl HR.out s rfl ?e2 ?e4 ?_
       case e2 => omega
       case e4 => exact HG.out
       intro v2 w2 hr2 hv2 hk2
       have HK2 := Lib.hid hk2
       have hb2 := m_keep HB.out hk2 (fun e => Nat.not_succ_le_self g (HR.out.ge e.symm))
       have f2 : w2.frozen? ⟨g, 1, none⟩ = false := (m_cells hb2).2 1
       have d2 : w2.cell? ⟨g, 1, none⟩ = some v := (m_cells hb2).1 1
       obtain ⟨a2, c2, rfl⟩ := hr2.shape
       rw [show (l ++ s.data.toList).length = l.length + s.size from by rw [List.length_append, Array.length_toList]; rfl] at hr2 hv2
       have HR2 := Lib.hid hr2
       have HV2 := Lib.hid (show ∀ k, (Value.slice a2 (l.length + s.size) c2).ownBlock = some k → v.ownBlock = some k ∨ w1.heap.size ≤ k from fun k q => (hv2 k q).imp id (fun e => Nat.le_of_eq e))
       clear hr2 hv2 hk2 hb2))
  go_ret2
  exact ⟨_, _, rfl, wr_put HP.out HB.out HR.out HK.out HK2.out HR2.out HV2.out⟩
set_option maxRecDepth 100000 in
set_option maxHeartbeats 2000000 in
theorem wstring_any {w : World} {B g : Nat} {v : Value} {l : List UInt8} (h : WrAt w g v l) (h0 : l ≠ []) (hl : l.length ≤ 100000000) (hB : B ≤ g) :
    Calls Try.prog 55 #[.pointer (some ⟨g, 0, none⟩)] w fun e w' => e = .returned (.string ⟨l.toArray⟩) ∧ Below B w w' := by
  obtain ⟨p, hp, hb, hr⟩ := h
  obtain ⟨gb, cap, rfl, hgb, hlt, hnc, hcm, hcell⟩ := hr.slice h0
  have c1 : w.drew.cell? ⟨g, 1, none⟩ = some (.slice (some ⟨gb, 0, none⟩) l.length cap) := (m_cells (show w.drew.heap[g]? = some _ from hb)).1 1
  have hl0 : l.length ≠ 0 := by simpa using h0
  have hSD : (Builtin.unsafeSliceData_ #[49] 149 #[.slice (some ⟨gb, 0, none⟩) l.length cap]).run Try.prog w.drew = .ok (.pointer (some ⟨gb, 0, none⟩)) w.drew :=
    Lib.run_unsafeSliceData_row _ _ _ _ _ _ (by omega)
  obtain ⟨cur, hg, hcs⟩ : ∃ cur, w.heap[gb]? = some (.cells cur 5 (0, 0)) ∧ cur.size = cap := by
    rcases hr.2 with ⟨h1, _⟩ | ⟨g2, cap2, cur, e, _, hh, _, _, hs, _⟩
    · cases h1
    · simp only [Value.slice.injEq, Option.some.injEq, Addr.mk.injEq] at e
      obtain ⟨⟨rfl, -, -⟩, -, rfl⟩ := e
      exact ⟨cur, hh, by rw [hs]; show _ * 1 = _; omega⟩
  have hUS : (Builtin.unsafeString_ #[149, 3] 9 #[.pointer (some ⟨gb, 0, none⟩), .int .i64 l.length]).run Try.prog w.drew = .ok (.string ⟨l.toArray⟩) (w.drew.freeze ⟨gb, 0, none⟩ l.length) := by
    refine Lib.run_unsafeString_row w.drew 149 3 9 5 Try.underlying149 (by kernel_rfl) gb cur.size (by have hg' : w.drew.heap[gb]? = some (.cells cur 5 (0, 0)) := hg; simp [World.shape?, hg']) l h0 (by omega) (by omega) ?_
    intro j x hx
    have := hcell.1 j x hx 0 (by decide)
    rw [show j * EByt.size + 0 = j from Nat.mul_one j] at this
    have e : (⟨gb, 0, none⟩ : Addr).add j = ⟨gb, j, none⟩ := by
      unfold Addr.add
      by_cases e : j = 0
      · rw [if_pos e, e]
      · rw [if_neg e]; simp
    rw [e]
    exact this
  have HB := Lib.hid hB
  have HGB := Lib.hid hgb
  clear hp hb hr hcell hgb hg hcs hcm hnc hlt
  go_enter Try.func55, Try.ntmps55
  go_wp2
  go_region
  all_goals (go_wp2; go_ret; exact ⟨rfl, Lib.below_freeze (Below.drew (Below.refl B w)) (p := ⟨gb, 0, none⟩) (show B ≤ gb from by have := HGB.out; have := HB.out; omega) _⟩)
end Go.Proofs.Ytolilbcpfdnkjaa
