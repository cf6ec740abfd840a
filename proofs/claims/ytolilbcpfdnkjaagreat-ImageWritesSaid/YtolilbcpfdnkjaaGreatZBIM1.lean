/- Lemmas, texts IM1 IM2; no condition beyond those that each states. -/
import Derived.Test.YtolilbcpfdnkjaaGreatZBByK
import Derived.Test.YtolilbcpfdnkjaaGreatZBRkA
import Derived.Lib.Builder
import Derived.Lib.UnsafeStr
import Derived.Lib.AppendStr
import Derived.Lib.FrozenHead
import Derived.Laws.Externs
import Derived.Test.YtolilbcpfdnkjaaGreatZBT1
import Derived.Test.YtolilbcpfdnkjaaGreatZBM2
/- image: the writer's bytes (a strings.Builder within a struct). -/
namespace Go.Proofs.YtolilbcpfdnkjaaGreat
open Go.RowKit
set_option linter.unusedSimpArgs false
set_option linter.unusedVariables false
theorem info_b8 : (Tryz.prog.info? 5).map (fun i => (i.zero, i.size, i.bytes)) = some (some (.int .u8 0), 1, 1) := by kernel_rfl
theorem builder_info : (Tryz.prog.info? 121).map (·.size) = some 2 := by kernel_rfl
/-- The writer in memory: its buffer v, with the bytes l. -/
def WrAt (w : World) (g : Nat) (v : Value) (l : List UInt8) : Prop :=
  ∃ p, (p = .pointer none ∨ p = .pointer (some ⟨g, 0, none⟩)) ∧ w.heap[g]? = some (.cells #[p, v] 123 (0, 0)) ∧ Row EByt w (g + 1) v l
/-- What a call on the writer turns. -/
def WStep (g : Nat) (w : World) (v : Value) (w' : World) (v' : Value) : Prop :=
  Keep (fun k => k = g ∨ v.ownBlock = some k) w w' ∧ ∀ k, v'.ownBlock = some k → v.ownBlock = some k ∨ w.heap.size ≤ k
theorem WStep.refl (g : Nat) (w : World) (v : Value) : WStep g w v w v := ⟨Keep.refl _ _, fun _ q => Or.inl q⟩
theorem WStep.trans {g : Nat} {w w1 w2 : World} {v v1 v2 : Value} (h1 : WStep g w v w1 v1) (h2 : WStep g w1 v1 w2 v2) : WStep g w v w2 v2 :=
  ⟨h1.1.trans' h2.1 (fun i q => q.elim (fun e => Or.inl (Or.inl e)) (fun e => (h1.2 i e).imp Or.inr id)), fun k q => (h2.2 k q).elim (h1.2 k) (fun e => Or.inr (Nat.le_trans h1.1.size e))⟩
theorem WStep.below {g : Nat} {w w1 w2 : World} {v v1 : Value} (h1 : WStep g w v w1 v1) (hb : Below w1.heap.size w1 w2) : WStep g w v w2 v1 :=
  ⟨h1.1.trans' (Keep.below hb) (fun i q => Or.inr (Nat.le_trans h1.1.size q)), h1.2⟩
theorem WStep.behind {g : Nat} {w w1 w2 : World} {v v2 : Value} (hb : Below w.heap.size w w1) (h2 : WStep g w1 v w2 v2) : WStep g w v w2 v2 :=
  ⟨((Keep.below hb).mono (fun i q => Or.inr q)).trans h2.1, fun k q => (h2.2 k q).imp id (Nat.le_trans hb.size)⟩
theorem WrAt.below {g : Nat} {w w1 : World} {v : Value} {l : List UInt8} (h : WrAt w g v l) (hb : Below w.heap.size w w1) : WrAt w1 g v l := by
  obtain ⟨p, hp, hh, hr⟩ := h
  exact ⟨p, hp, (hb.block _ (m_lt hh)).trans hh, hr.below hb⟩
theorem WrAt.lt {g : Nat} {w : World} {v : Value} {l : List UInt8} (h : WrAt w g v l) : g < w.heap.size := by obtain ⟨p, hp, hh, hr⟩ := h; exact m_lt hh
theorem WrAt.vlt {g : Nat} {w : World} {v : Value} {l : List UInt8} (h : WrAt w g v l) {k : Nat} (q : v.ownBlock = some k) : g < k ∧ k < w.heap.size := by obtain ⟨p, hp, hh, hr⟩ := h; exact ⟨hr.ge q, hr.lt q⟩
set_option maxRecDepth 100000 in
set_option maxHeartbeats 2000000 in
theorem bcheck_any {w : World} {g : Nat} {v : Value} {l : List UInt8} (h : WrAt w g v l) :
    Calls Tryz.prog 111 #[.pointer (some ⟨g, 0, none⟩)] w fun e w' => e = .returned (.tuple #[]) ∧ WrAt w' g v l ∧ Keep (fun k => k = g) w w' := by
  obtain ⟨p, hp, hb, hr⟩ := h
  have hn : v.ownBlock ≠ some g := fun q => Nat.not_succ_le_self g (hr.ge q)
  have c0 : w.cell? ⟨g, 0, none⟩ = some p := (m_cells hb).1 0
  have f0 : w.frozen? ⟨g, 0, none⟩ = false := (m_cells hb).2 0
  have hsh : w.shape? g = some (123, 2) := by simp [World.shape?, hb]
  obtain ⟨j, hj, hjs⟩ : ∃ j, Tryz.prog.info? 121 = some j ∧ j.size = 2 := by
    have h := builder_info
    cases hi : Tryz.prog.info? 121 with
    | none => rw [hi] at h; cases h
    | some j => rw [hi] at h; exact ⟨j, rfl, by simpa using h⟩
  have g1 := Lib.run_to_unsafe (P := Tryz.prog) (src := 119) (dst := 201) w ⟨g, 0, none⟩ Tryz.underlying119 Tryz.underlying201 hj (by rw [hjs]; decide) hsh (Nat.zero_lt_succ 1)
  have g0 : (callFunc 126 #[.pointer (some ⟨g, 0, none⟩)]).run Tryz.prog w = .ok (.value (.pointer (some ⟨g, 0, none⟩))) w := by
    rw [run_callFunc_extern Tryz.func126 (by kernel_rfl) (by kernel_rfl) (by kernel_rfl) (e := Extern.AbiNoEscape.same) (by kernel_rfl)]; rfl
  have g2 := Lib.run_from_unsafe (P := Tryz.prog) (src := 201) (dst := 119) w ⟨g, 0, none⟩ Tryz.underlying201 Tryz.underlying119 hj hsh (by kernel_rfl)
  have g3 := Lib.run_neq_ptr_same (P := Tryz.prog) (tp := 119) w ⟨g, 0, none⟩ Tryz.underlying119 hj
  have g4 := Lib.run_neq_ptr_same (P := Tryz.prog) (tp := 119) (w.setCell ⟨g, 0, none⟩ (.pointer (some ⟨g, 0, none⟩))) ⟨g, 0, none⟩ Tryz.underlying119 hj
  have hset := m_set hb 0 (.pointer (some ⟨g, 0, none⟩))
  have c0' : (w.setCell ⟨g, 0, none⟩ (.pointer (some ⟨g, 0, none⟩))).cell? ⟨g, 0, none⟩ = some (.pointer (some ⟨g, 0, none⟩)) := (m_cells hset).1 0
  have HR := Lib.hid hr
  have HSET := Lib.hid hset
  have HB := Lib.hid hb
  clear hr hset hb hj hjs
  rcases hp with rfl | rfl
  · go_enter Tryz.func111, Tryz.ntmps111
    go_wp2
    go_end0
    exact ⟨rfl, ⟨_, Or.inr rfl, HSET.out, HR.out.kept (fun k q => Below.heap_setCell _ _ _ _ (fun e => hn (by rw [q, e])))⟩, (Keep.refl (fun k => k = g) w).set g 0 _ (Or.inl rfl)⟩
  · go_enter Tryz.func111, Tryz.ntmps111
    go_wp2
    go_end0
    exact ⟨rfl, ⟨_, Or.inr rfl, HB.out, HR.out⟩, Keep.refl _ _⟩
theorem wr_put {w w1 w2 : World} {g : Nat} {l l' : List UInt8} {p v v2 : Value} (hp : p = .pointer none ∨ p = .pointer (some ⟨g, 0, none⟩)) (hb : w1.heap[g]? = some (.cells #[p, v] 123 (0, 0))) (hr : Row EByt w1 (g + 1) v l) (hk : Keep (fun k => k = g) w w1)
    (hk2 : Keep (fun k => some k = v.ownBlock) w1 w2) (hr2 : Row EByt w2 (g + 1) v2 l') (hv : ∀ k, v2.ownBlock = some k → v.ownBlock = some k ∨ w1.heap.size ≤ k) : WrAt (w2.setCell ⟨g, 1, none⟩ v2) g v2 l' ∧ WStep g w v (w2.setCell ⟨g, 1, none⟩ v2) v2 := by
  have hg := m_lt hb
  have hn2 : v2.ownBlock ≠ some g := fun q => Nat.not_succ_le_self g (hr2.ge q)
  have hb2 := m_keep hb hk2 (fun e => Nat.not_succ_le_self g (hr.ge e.symm))
  refine ⟨⟨p, hp, m_set hb2 1 v2, hr2.kept (fun k q => Below.heap_setCell _ _ _ _ (fun e => hn2 (by rw [q, e])))⟩, ?_, fun k q => (hv k q).imp id (Nat.le_trans hk.size)⟩
  exact ((hk.mono (fun i q => Or.inl (Or.inl q))).trans (hk2.mono (fun i q => Or.inl (Or.inr q.symm)))).set g 1 _ (Or.inl (Or.inl rfl))
set_option maxRecDepth 100000 in
set_option maxHeartbeats 2000000 in
theorem wbyte_any {w : World} {g : Nat} {v : Value} {l : List UInt8} (c : UInt8) (h : WrAt w g v l) (hl : l.length ≤ 100000000) :
    Calls Tryz.prog 92 #[.pointer (some ⟨g, 0, none⟩), .int .u8 c.toNat] w fun e w' => ∃ v', e = .returned .nilIface ∧ WrAt w' g v' (l ++ [c]) ∧ WStep g w v w' v' := by
  have HC := Lib.hid (bcheck_any h)
  clear h
  go_enter Tryz.func92, Tryz.ntmps92
  go_wp2_with fail
  refine HC.out.mono ?_
  rintro e w1 ⟨rfl, ⟨p, hp, hb, hr⟩, hk⟩
  have c1 : w1.cell? ⟨g, 1, none⟩ = some v := (m_cells hb).1 1
  have HP := Lib.hid hp
  have HR := Lib.hid hr
  have HB := Lib.hid hb
  have HK := Lib.hid hk
  have HG := Lib.hid (show g + 1 ≤ w1.heap.size from m_lt hb)
  clear hp hr hb hk HC
  go_wp2_with (first
    | (refine app_row EByt.laid rfl _ _ 69 69 Tryz.underlying69 Tryz.underlying69 rfl v l rfl (HR.out.alloc _) _ [c] rfl ?e1 ?e2 ?e3 ?e4 ?_
       case e1 => exact Arg.blk (m_alloc _ _ _ rfl) [c] rfl 1
       case e2 => (show (l.length + 1) * 1 ≤ _; omega)
       case e3 => (show l.length + 1 ≤ maxLen; unfold maxLen; omega)
       case e4 => (have := HG.out; simp; omega)
       intro v2 w2 hr2 hv2 hk2
       have hk2' : Keep (fun k => some k = v.ownBlock) w1 w2 := ((Keep.refl _ w1).alloc _).trans hk2
       have HK2 := Lib.hid hk2'
       have hb2 := m_keep HB.out hk2' (fun e => Nat.not_succ_le_self g (HR.out.ge e.symm))
       have f2 : w2.frozen? ⟨g, 1, none⟩ = false := (m_cells hb2).2 1
       have d2 : w2.cell? ⟨g, 1, none⟩ = some v := (m_cells hb2).1 1
       obtain ⟨a2, c2, rfl⟩ := hr2.shape
       rw [show (l ++ [c]).length = l.length + 1 from by simp] at hr2 hv2
       have HR2 := Lib.hid hr2
       have HV2 := Lib.hid (show ∀ k, (Value.slice a2 (l.length + 1) c2).ownBlock = some k → v.ownBlock = some k ∨ w1.heap.size ≤ k from fun k q => (hv2 k q).imp id (fun e => by simp at e; omega))
       clear hr2 hv2 hk2 hk2' hb2))
  go_ret
  exact ⟨_, rfl, wr_put HP.out HB.out HR.out HK.out HK2.out HR2.out HV2.out⟩
theorem E_len (l : List UInt8) : (l.flatMap EByt.enc).length = l.length := by rw [EByt.flat]; simp [bv]
theorem app_str {ops : Array Oper} {rest : List Oper} {o : Oper} {a : Act} {w : World} {Q : Exit → Act → World → Prop} {B : Nat} (hgd : o.guard = none) (s x : Operand) (ho : o.op = .call { callee := .builtin .append, args := #[s, x], argTypes := #[69, 9] })
    (v : Value) (l : List UInt8) (hs : a.eval s = v) (hown : Row EByt w B v l) (t : ByteArray) (hx : a.eval x = .string t) (hl : l.length + t.size ≤ 140737488355328) (hbase : B ≤ w.heap.size)
    (h : ∀ v' w', Row EByt w' B v' (l ++ t.data.toList) → (∀ k, v'.ownBlock = some k → v.ownBlock = some k ∨ w.heap.size = k) → Keep (fun k => some k = v.ownBlock) w w' → wpList Tryz.prog ops Q rest (a.put o.dst v') w') : wpList Tryz.prog ops Q (o :: rest) a w := by
  obtain ⟨i0, hi, hz0, hz1, hz2⟩ := info_parts info_b8
  refine wpList_plain hgd fun K hK => ?_
  obtain ⟨v', w', hr, h2, h3, h4⟩ := Go.Lib.run_append_own_string (P := Tryz.prog) w B 69 9 o.type 5 i0 Tryz.underlying69 Tryz.underlying9 hi hz0 hz1 hz2 v l.length (l.flatMap EByt.enc) hown t (by unfold maxLen; omega) (by omega) hbase
  have hv : ∀ k, v'.ownBlock = some k → v.ownBlock = some k ∨ w.heap.size = k := by
    rcases hown.2 with ⟨rfl, hn⟩ | ⟨g, cap, cur, rfl, _, hg, hnc, hcm, hcs, htake⟩
    · by_cases hm : t.size = 0
      · intro k q; rw [h4.2 ⟨rfl, hm⟩] at q; cases q
      · have hr2 := run_append_nil_string (P := Tryz.prog) w 69 9 o.type 5 i0 (.int .u8 0) Tryz.underlying69 Tryz.underlying9 hi hz0 t (by omega) (by omega) (by rw [hz2]; omega)
        rw [hr2] at hr
        injection hr with e1 e2
        subst e1
        exact fun k q => Or.inr (by simpa [Value.ownBlock] using q)
    · by_cases hroom : l.length + t.size ≤ cap
      · have hcs' : cur.size = cap := by rw [hcs]; show _ * 1 = _; omega
        have hr2 := Go.Lib.run_append_room_string (P := Tryz.prog) w 69 9 o.type 5 i0 Tryz.underlying69 Tryz.underlying9 hi hz1 g l.length cap cur hg t hroom (by omega)
        rw [hr2] at hr
        injection hr with e1 e2
        subst e1
        exact fun k q => Or.inl q
      · have hr2 := Go.Lib.run_append_grow_string (P := Tryz.prog) w 69 9 o.type 5 i0 (.int .u8 0) Tryz.underlying69 Tryz.underlying9 hi hz0 ⟨g, 0, none⟩ l.length cap (l.flatMap EByt.enc) (by rw [hz1]; simpa using E_len l) (World.ownsRow.cells (g := g) hown rfl) t (by omega) (by omega) (by rw [hz2]; exact growslice_fits (by omega) (by omega))
        rw [hr2] at hr
        injection hr with e1 e2
        subst e1
        exact fun k q => Or.inr (by simpa [Value.ownBlock] using q)
  unfold Oper.wp execOp
  simp only [ho, resolve, invoke, builtin, Sem.run_bind, Sem.run_pure, Result.andThen_ok, List.map_toArray, List.map_cons, List.map_nil, hs, hx, hr]
  refine hK _ _ (h v' w' ?_ hv (Keep.grown h3))
  unfold Row
  rw [List.length_append, List.flatMap_append, EByt.flat t.data.toList]
  have : t.data.toList.length = t.size := by rw [Array.length_toList]; rfl
  rw [this]
  exact h2
set_option maxRecDepth 100000 in
set_option maxHeartbeats 2000000 in
theorem wstr_any {w : World} {g : Nat} {v : Value} {l : List UInt8} (s : ByteArray) (h : WrAt w g v l) (hl : l.length ≤ 100000000) (hs : s.size ≤ 100000000) :
    Calls Tryz.prog 93 #[.pointer (some ⟨g, 0, none⟩), .string s] w fun e w' => ∃ v' n, e = .returned (.tuple #[.int .i64 n, .nilIface]) ∧ WrAt w' g v' (l ++ s.data.toList) ∧ WStep g w v w' v' := by
  have HC := Lib.hid (bcheck_any h)
  clear h
  go_enter Tryz.func93, Tryz.ntmps93
  go_wp2_with fail
  refine HC.out.mono ?_
  rintro e w1 ⟨rfl, ⟨p, hp, hb, hr⟩, hk⟩
  have c1 : w1.cell? ⟨g, 1, none⟩ = some v := (m_cells hb).1 1
  have HP := Lib.hid hp
  have HR := Lib.hid hr
  have HB := Lib.hid hb
  have HK := Lib.hid hk
  have HG := Lib.hid (show g + 1 ≤ w1.heap.size from m_lt hb)
  clear hp hr hb hk HC
  go_wp2_with (first
    | (refine app_str rfl _ _ rfl v l rfl HR.out s rfl ?e2 ?e4 ?_
       case e2 => omega
       case e4 => exact HG.out
       intro v2 w2 hr2 hv2 hk2
       have HK2 := Lib.hid hk2
       have hb2 := m_keep HB.out hk2 (fun e => Nat.not_succ_le_self g (HR.out.ge e.symm))
       have f2 : w2.frozen? ⟨g, 1, none⟩ = false := (m_cells hb2).2 1
       have d2 : w2.cell? ⟨g, 1, none⟩ = some v := (m_cells hb2).1 1
       obtain ⟨a2, c2, rfl⟩ := hr2.shape
       rw [show (l ++ s.data.toList).length = l.length + s.size from by rw [List.length_append, Array.length_toList]; rfl] at hr2 hv2
       have HR2 := Lib.hid hr2
       have HV2 := Lib.hid (show ∀ k, (Value.slice a2 (l.length + s.size) c2).ownBlock = some k → v.ownBlock = some k ∨ w1.heap.size ≤ k from fun k q => (hv2 k q).imp id (fun e => Nat.le_of_eq e))
       clear hr2 hv2 hk2 hb2))
  go_ret2
  exact ⟨_, _, rfl, wr_put HP.out HB.out HR.out HK.out HK2.out HR2.out HV2.out⟩
set_option maxRecDepth 100000 in
set_option maxHeartbeats 2000000 in
theorem wstring_any {w : World} {B g : Nat} {v : Value} {l : List UInt8} (h : WrAt w g v l) (h0 : l ≠ []) (hl : l.length ≤ 100000000) (hB : B ≤ g) :
    Calls Tryz.prog 63 #[.pointer (some ⟨g, 0, none⟩)] w fun e w' => e = .returned (.string ⟨l.toArray⟩) ∧ Below B w w' := by
  obtain ⟨p, hp, hb, hr⟩ := h
  obtain ⟨gb, cap, rfl, hgb, hlt, hnc, hcm, hcell⟩ := hr.slice h0
  have c1 : w.drew.cell? ⟨g, 1, none⟩ = some (.slice (some ⟨gb, 0, none⟩) l.length cap) := (m_cells (show w.drew.heap[g]? = some _ from hb)).1 1
  have hl0 : l.length ≠ 0 := by simpa using h0
  have hSD : (Builtin.unsafeSliceData_ #[69] 168 #[.slice (some ⟨gb, 0, none⟩) l.length cap]).run Tryz.prog w.drew = .ok (.pointer (some ⟨gb, 0, none⟩)) w.drew :=
    Lib.run_unsafeSliceData_row _ _ _ _ _ _ (by omega)
  obtain ⟨cur, hg, hcs⟩ : ∃ cur, w.heap[gb]? = some (.cells cur 5 (0, 0)) ∧ cur.size = cap := by
    rcases hr.2 with ⟨h1, _⟩ | ⟨g2, cap2, cur, e, _, hh, _, _, hs, _⟩
    · cases h1
    · simp only [Value.slice.injEq, Option.some.injEq, Addr.mk.injEq] at e
      obtain ⟨⟨rfl, -, -⟩, -, rfl⟩ := e
      exact ⟨cur, hh, by rw [hs]; show _ * 1 = _; omega⟩
  have hUS : (Builtin.unsafeString_ #[168, 3] 9 #[.pointer (some ⟨gb, 0, none⟩), .int .i64 l.length]).run Tryz.prog w.drew = .ok (.string ⟨l.toArray⟩) (w.drew.freeze ⟨gb, 0, none⟩ l.length) := by
    refine Lib.run_unsafeString_row w.drew 168 3 9 5 Tryz.underlying168 (by kernel_rfl) gb cur.size (by have hg' : w.drew.heap[gb]? = some (.cells cur 5 (0, 0)) := hg; simp [World.shape?, hg']) l h0 (by omega) (by omega) ?_
    intro j x hx
    have := hcell.1 j x hx 0 (by decide)
    rw [show j * EByt.size + 0 = j from Nat.mul_one j] at this
    have e : (⟨gb, 0, none⟩ : Addr).add j = ⟨gb, j, none⟩ := by
      unfold Addr.add
      by_cases e : j = 0
      · rw [if_pos e, e]
      · rw [if_neg e]; simp
    rw [e]
    exact this
  have HB := Lib.hid hB
  have HGB := Lib.hid hgb
  clear hp hb hr hcell hgb hg hcs hcm hnc hlt
  go_enter Tryz.func63, Tryz.ntmps63
  go_wp2
  go_region
  all_goals (go_wp2; go_ret; exact ⟨rfl, Lib.below_freeze (Below.drew (Below.refl B w)) (p := ⟨gb, 0, none⟩) (show B ≤ gb from by have := HGB.out; have := HB.out; omega) _⟩)
end Go.Proofs.YtolilbcpfdnkjaaGreat

/- image: the writer's number and entry. -/
namespace Go.Proofs.YtolilbcpfdnkjaaGreat
open Go.RowKit
set_option linter.unusedSimpArgs false
set_option linter.unusedVariables false
/-- A number's bytes, so many of them, the first one the greatest. -/
def beB (n : Nat) : Nat → List UInt8
  | 0 => []
  | k + 1 => UInt8.ofNat (n / 256 ^ k % 256) :: beB n k
theorem beB_len (n k : Nat) : (beB n k).length = k := by induction k with
  | zero => rfl
  | succ k ih => rw [beB, List.length_cons, ih]
theorem beB_get (n k j : Nat) (h : j < k) : (beB n k)[j]? = some (UInt8.ofNat (n / 256 ^ (k - 1 - j) % 256)) := by
  induction k generalizing j with
  | zero => omega
  | succ k ih =>
    rw [beB]
    cases j with
    | zero => simp
    | succ j =>
      rw [List.getElem?_cons_succ, ih j (by omega)]
      congr 5
      omega
theorem shr_u64 (n i : Nat) : IntKind.u8.wrap ((n : Int) / 2 ^ (8 * (i : Int)).toNat) = ((UInt8.ofNat (n / 256 ^ i % 256)).toNat : Int) := by
  have h := shr_byte n i
  simp only [Value.int.injEq, true_and] at h
  rw [← h, show (8 * (i : Int)).toNat = 8 * i from by omega]
  rfl
def NumT (w : World) (g : Nat) (v : Value) (l : List UInt8) (n k : Nat) (iv : Value) (wr : World) : Prop :=
  ∃ (j : Nat) (v' : Value), j ≤ k ∧ iv = .int .i64 (8 * ((k : Int) - 1) - 8 * j) ∧ WrAt wr g v' (l ++ (beB n k).take j) ∧ WStep g w v wr v'
set_option maxRecDepth 100000 in
set_option maxHeartbeats 2000000 in
theorem wnumber_any {w : World} {g : Nat} {v : Value} {l : List UInt8} (n k : Nat) (h : WrAt w g v l) (hl : l.length ≤ 90000000) (hn : n < 18446744073709551616) (hk : k ≤ 8) :
    Calls Tryz.prog 61 #[.pointer (some ⟨g, 0, none⟩), .int .u64 n, .int .i64 k] w fun e w' => ∃ v', e = .returned (.tuple #[]) ∧ WrAt w' g v' (l ++ beB n k) ∧ WStep g w v w' v' := by
  have H := Lib.hid h
  clear h
  go_enter Tryz.func61, Tryz.ntmps61
  go_wp2_with fail
  go_loopw [6] (fun iv wr => NumT w g v l n k iv wr) (fun iv _ => (intOf iv + 8).toNat)
  case atStart => exact ⟨0, v, Nat.zero_le _, by simp, by simpa using H.out, WStep.refl _ _ _⟩
  case round =>
    obtain ⟨j, vr, hj, rfl, hw, hb⟩ := hrel
    have HW := Lib.hid hw
    have HB := Lib.hid hb
    clear hw hb
    by_cases hjk : j < k
    · have h0 : (0 : Int) ≤ 8 * ((k : Int) - 1) - 8 * j := by omega
      obtain ⟨i, hi⟩ : ∃ i, k - 1 - j = i := ⟨_, rfl⟩
      have ei : 8 * ((k : Int) - 1) - 8 * j = ((8 * i : Nat) : Int) := by omega
      rw [ei] at h0 ⊢
      go_wp2_with fail
      refine wp_region_held_drew (S := fun w' => True) (by kernel_rfl) trivial (fun hHeld => ?_)
      refine take_on 0 14 (v := ?tv1) rfl rfl (by kernel_rfl) (by kernel_rfl) (by kernel_rfl) (fun _ _ _ h => h) (by rfl) ?ty1 (by assumption) ?tr1
      case ty1 => (intro w hSw; (try dsimp only at hSw); go_simp; (try with_reducible rfl))
      try simp only [Act.put, List.setIfInBounds_toArray, List.set_cons_zero, List.set_cons_succ]
      refine take_on 1 15 (v := ?tv2) rfl rfl (by kernel_rfl) (by kernel_rfl) (by kernel_rfl) (fun _ _ _ h => h) (by rfl) ?ty2 (by assumption) ?tr2
      case ty2 => (intro w hSw; (try dsimp only at hSw); go_simp; (try with_reducible rfl))
      try simp only [Act.put, List.setIfInBounds_toArray, List.set_cons_zero, List.set_cons_succ]
      refine take_on 2 16 (v := ?tv3) rfl rfl (by kernel_rfl) (by kernel_rfl) (by kernel_rfl) (fun _ _ _ h => h) (by rfl) ?ty3 (by assumption) ?tr3
      case ty3 => (intro w hSw; (try dsimp only at hSw); go_simp; (try with_reducible rfl))
      try simp only [Act.put, List.setIfInBounds_toArray, List.set_cons_zero, List.set_cons_succ]
      refine take_on 3 17 (v := ?tv4) rfl rfl (by kernel_rfl) (by kernel_rfl) (by kernel_rfl) (fun _ _ _ h => h) (by rfl) ?ty4 (by assumption) ?tr4
      case ty4 => (intro w hSw; (try dsimp only at hSw); go_simp; (try with_reducible rfl))
      try simp only [Act.put, List.setIfInBounds_toArray, List.set_cons_zero, List.set_cons_succ]
      refine take_on 4 18 (v := ?tv5) rfl rfl (by kernel_rfl) (by kernel_rfl) (by kernel_rfl) (fun _ _ _ h => h) (by rfl) ?ty5 (by assumption) ?tr5
      case ty5 => (intro w hSw; (try dsimp only at hSw); go_simp; (try with_reducible rfl))
      try simp only [Act.put, List.setIfInBounds_toArray, List.set_cons_zero, List.set_cons_succ]
      refine take_on 5 19 (v := ?tv6) rfl rfl (by kernel_rfl) (by kernel_rfl) (by kernel_rfl) (fun _ _ _ h => h) (by rfl) ?ty6 (by assumption) ?tr6
      case ty6 => (intro w hSw; (try dsimp only at hSw); go_simp; (try with_reducible rfl))
      try simp only [Act.put, List.setIfInBounds_toArray, List.set_cons_zero, List.set_cons_succ]
      refine take_on 6 20 (v := ?tv7) rfl rfl (by kernel_rfl) (by kernel_rfl) (by kernel_rfl) (fun _ _ _ h => h) (by rfl) ?ty7 (by assumption) ?tr7
      case ty7 => (intro w hSw; (try dsimp only at hSw); go_simp; (try with_reducible rfl))
      try simp only [Act.put, List.setIfInBounds_toArray, List.set_cons_zero, List.set_cons_succ]
      obtain ⟨c, hc⟩ : ∃ c, UInt8.ofNat (n / 256 ^ i % 256) = c := ⟨_, rfl⟩
      rw [shr_u64 n i, hc]
      have HC := Lib.hid hc
      clear hc
      refine wpAnyH_ready (rs := [7]) (by kernel_rfl) (by simp) ?_
      refine AllReadyH.cons rfl (fun K hK => ?_) AllReadyH.nil
      go_simp
      refine (wbyte_any c (HW.out.below (Below.refl _ wr).drew) (by rw [List.length_append, List.length_take, beB_len]; omega)).mono ?_
      rintro e w2 ⟨v2, rfl, hw2, hb2⟩
      have HW2 := Lib.hid hw2
      have HB2 := Lib.hid (HB.out.trans (hb2.behind (Below.refl _ wr).drew))
      clear hw2 hb2
      simp only []
      refine hK.out _ _ trivial (fun hHeld => ?_)
      clear hK K
      try simp only [Act.put, List.setIfInBounds_toArray, List.set_cons_zero, List.set_cons_succ]
      refine wpAnyH_done (by kernel_rfl) ?_ _
      go_wp2_with fail
      refine ⟨⟨j + 1, v2, hjk, ?_, ?_, HB2.out⟩, ?_⟩
      · congr 1; push_cast; omega
      · have e : (beB n k).take (j + 1) = (beB n k).take j ++ [c] := by
          rw [List.take_add_one, beB_get n k j hjk, hi, HC.out]; rfl
        rw [e, ← List.append_assoc]
        exact HW2.out
      · simp [intOf]; omega
    · have ej : j = k := by omega
      subst ej
      have h0 : ¬ (0 : Int) ≤ 8 * ((j : Int) - 1) - 8 * j := by omega
      go_wp2_with fail
      go_end0
      exact ⟨rfl, vr, by have := HW.out; rw [List.take_of_length_le (by rw [beB_len]; exact Nat.le_refl _)] at this; exact this, HB.out⟩
/-- An entry's bytes. -/
def entB (e : Ent) : List UInt8 := beB e.name.size 1 ++ e.name.data.toList ++ beB e.node.toNat 2 ++ beB (if e.dir then 1 else 0) 1 ++ beB e.cookie.toNat 8 ++ beB e.short.toNat 4
theorem entB_len (e : Ent) : (entB e).length = e.name.size + 16 := by
  unfold entB
  simp only [List.length_append, beB_len, Array.length_toList]
  show 1 + e.name.size + 2 + 1 + 8 + 4 = _
  omega
/-- What an entry's numbers are in an image. -/
def EntOk (e : Ent) : Prop := e.name.size ≤ 255 ∧ 0 ≤ e.node ∧ e.node ≤ 9223372036854775807 ∧ 0 ≤ e.cookie ∧ e.cookie ≤ 9223372036854775807 ∧ 0 ≤ e.short ∧ e.short ≤ 9223372036854775807
theorem wrap_u64 (n : Int) (h : 0 ≤ n) (h2 : n ≤ 9223372036854775807) : IntKind.u64.wrap n = (n.toNat : Int) := by
  show n % 18446744073709551616 = _
  omega
set_option maxRecDepth 100000 in
set_option maxHeartbeats 2000000 in
theorem wentry_nat {w : World} {g : Nat} {v : Value} {l : List UInt8} (nm : ByteArray) (nd : Nat) (dr : Bool) (ck sh : Nat) (h : WrAt w g v l) (hl : l.length ≤ 80000000) (h1 : nm.size ≤ 255) (h3 : nd ≤ 9223372036854775807) (h5 : ck ≤ 9223372036854775807) (h7 : sh ≤ 9223372036854775807) :
    Calls Tryz.prog 62 #[.pointer (some ⟨g, 0, none⟩), .agg #[.string nm, .int .i64 nd, .bool dr, .int .i64 ck, .int .i64 sh]] w fun r w' => ∃ v', r = .returned (.tuple #[]) ∧ WrAt w' g v' (l ++ beB nm.size 1 ++ nm.data.toList ++ beB nd 2 ++ beB (if dr then 1 else 0) 1 ++ beB ck 8 ++ beB sh 4) ∧ WStep g w v w' v' := by
  have hb0 : Below w.heap.size w (w.alloc (.cells #[.string nm, .int .i64 nd, .bool dr, .int .i64 ck, .int .i64 sh] 84)) := (Below.refl _ w).alloc (Nat.le_refl _) _
  have hx := m_alloc w (.cells #[.string nm, .int .i64 nd, .bool dr, .int .i64 ck, .int .i64 sh] 84) w.heap.size rfl
  have HW0 := Lib.hid (h.below hb0)
  have hgl := h.lt
  have HVL := Lib.hid (fun k q => (h.vlt (k := k) q).2)
  have HB0 := Lib.hid hb0
  have e1 := wrap_u64 (nd : Int) (by omega) (by omega)
  have e2 := wrap_u64 (ck : Int) (by omega) (by omega)
  have e3 := wrap_u64 (sh : Int) (by omega) (by omega)
  rw [Int.toNat_natCast] at e1 e2 e3
  go_enter Tryz.func62, Tryz.ntmps62
  go_wp2_with fail
  obtain ⟨E, hE⟩ : ∃ E, w.heap.size = E := ⟨_, rfl⟩
  have HE := Lib.hid hE
  rw [hE] at hx ⊢
  generalize (w.alloc (.cells #[.string nm, .int .i64 nd, .bool dr, .int .i64 ck, .int .i64 sh] 84)) = w0 at *
  have HX := Lib.hid (show ∀ w' v', WStep g w0 v w' v' → (w'.cell? ⟨E, 0, none⟩ = some (.string nm) ∧ w'.cell? ⟨E, 1, none⟩ = some (.int .i64 nd) ∧ w'.cell? ⟨E, 2, none⟩ = some (.bool dr) ∧ w'.cell? ⟨E, 3, none⟩ = some (.int .i64 ck) ∧ w'.cell? ⟨E, 4, none⟩ = some (.int .i64 sh)) from fun w' v' k => by
    have hc := (k.1.block E (m_lt hx) (fun q => q.elim (fun z => by omega) (fun z => by have := HVL.out E z; omega))).trans hx
    exact ⟨(m_cells hc).1 0, (m_cells hc).1 1, (m_cells hc).1 2, (m_cells hc).1 3, (m_cells hc).1 4⟩)
  clear h hb0 hx hE
  refine (wnumber_any nm.size 1 HW0.out (by omega) (by omega) (by omega)).mono ?_
  rintro r w1 ⟨v1, rfl, hw1, hs1⟩
  have HW1 := Lib.hid hw1
  have HS1 := Lib.hid (hs1)
  obtain ⟨c0, c1, c2, c3, c4⟩ := HX.out w1 v1 HS1.out
  clear hw1 hs1
  go_wp2_with fail
  refine wp_region_held_drew (S := fun w' => w'.cell? ⟨E, 0, none⟩ = some (.string nm)) (by kernel_rfl) (show w1.drew.cell? ⟨E, 0, none⟩ = some (.string nm) from c0) (fun hHeld => ?_)
  refine take_on 0 11 (v := ?tv8) rfl rfl (by kernel_rfl) (by kernel_rfl) (by kernel_rfl) (fun _ _ _ h => h) (by rfl) ?ty8 (by assumption) ?tr8
  case ty8 => (intro w hSw; (try dsimp only at hSw); go_simp; (try with_reducible rfl))
  try simp only [Act.put, List.setIfInBounds_toArray, List.set_cons_zero, List.set_cons_succ]
  refine take_on 1 12 (v := ?tv9) rfl rfl (by kernel_rfl) (by kernel_rfl) (by kernel_rfl) (fun _ _ _ h => h) (by rfl) ?ty9 (by assumption) ?tr9
  case ty9 => (intro w hSw; (try dsimp only at hSw); go_simp; (try with_reducible rfl))
  try simp only [Act.put, List.setIfInBounds_toArray, List.set_cons_zero, List.set_cons_succ]
  refine take_on 2 13 (v := ?tv10) rfl rfl (by kernel_rfl) (by kernel_rfl) (by kernel_rfl) (fun _ _ _ h => h) (by rfl) ?ty10 (by assumption) ?tr10
  case ty10 => (intro w hSw; (try dsimp only at hSw); go_simp; (try with_reducible rfl))
  try simp only [Act.put, List.setIfInBounds_toArray, List.set_cons_zero, List.set_cons_succ]
  refine take_on 3 14 (v := ?tv11) rfl rfl (by kernel_rfl) (by kernel_rfl) (by kernel_rfl) (fun _ _ _ h => h) (by rfl) ?ty11 (by assumption) ?tr11
  case ty11 => (intro w hSw; (try dsimp only at hSw); go_simp; (try with_reducible rfl))
  try simp only [Act.put, List.setIfInBounds_toArray, List.set_cons_zero, List.set_cons_succ]
  refine take_on 4 15 (v := ?tv12) rfl rfl (by kernel_rfl) (by kernel_rfl) (by kernel_rfl) (fun _ _ _ h => h) (by rfl) ?ty12 (by assumption) ?tr12
  case ty12 => (intro w hSw; (try dsimp only at hSw); go_simp; (try with_reducible rfl))
  try simp only [Act.put, List.setIfInBounds_toArray, List.set_cons_zero, List.set_cons_succ]
  refine wpAnyH_ready (rs := [5]) (by kernel_rfl) (by simp) ?_
  refine AllReadyH.cons rfl (fun K hK => ?_) AllReadyH.nil
  go_simp
  refine (wstr_any nm (HW1.out.below (Below.refl _ w1).drew) (by simp only [List.length_append, beB_len, Array.length_toList]; have : nm.data.size = nm.size := rfl; omega) (by omega)).mono ?_
  rintro r w2 ⟨v2, nn, rfl, hw2, hs2⟩
  have HW2 := Lib.hid hw2
  have HS2 := Lib.hid (HS1.out.trans (hs2.behind (Below.refl _ w1).drew))
  clear c0 c1 c2 c3 c4
  obtain ⟨c0, c1, c2, c3, c4⟩ := HX.out w2 v2 HS2.out
  clear hw2 hs2
  simp only []
  refine hK.out _ _ c0 (fun hHeld => ?_)
  clear hK K hHeld
  try simp only [Act.put, List.setIfInBounds_toArray, List.set_cons_zero, List.set_cons_succ]
  refine wpAnyH_done (by kernel_rfl) ?_ _
  go_wp2_with fail
  refine (wnumber_any nd 2 HW2.out (by simp only [List.length_append, beB_len, Array.length_toList]; have : nm.data.size = nm.size := rfl; omega) (by omega) (by omega)).mono ?_
  rintro r w3 ⟨v3, rfl, hw3, hs3⟩
  have HW3 := Lib.hid hw3
  have HS3 := Lib.hid (HS2.out.trans hs3)
  clear c0 c1 c2 c3 c4
  obtain ⟨c0, c1, c2, c3, c4⟩ := HX.out w3 v3 HS3.out
  clear hw3 hs3
  cases dr
  · go_wp2_with fail
    refine (wnumber_any 0 1 HW3.out (by simp only [List.length_append, beB_len, Array.length_toList]; have : nm.data.size = nm.size := rfl; omega) (by omega) (by omega)).mono ?_
    rintro r w4 ⟨v4, rfl, hw4, hs4⟩
    have HW4 := Lib.hid hw4
    have HS4 := Lib.hid (HS3.out.trans hs4)
    clear c0 c1 c2 c3 c4
    obtain ⟨c0, c1, c2, c3, c4⟩ := HX.out w4 v4 HS4.out
    clear hw4 hs4
    go_wp2_with fail
    refine (wnumber_any ck 8 HW4.out (by simp only [List.length_append, beB_len, Array.length_toList]; have : nm.data.size = nm.size := rfl; omega) (by omega) (by omega)).mono ?_
    rintro r w5 ⟨v5, rfl, hw5, hs5⟩
    have HW5 := Lib.hid hw5
    have HS5 := Lib.hid (HS4.out.trans hs5)
    clear c0 c1 c2 c3 c4
    obtain ⟨c0, c1, c2, c3, c4⟩ := HX.out w5 v5 HS5.out
    clear hw5 hs5
    go_wp2_with fail
    refine (wnumber_any sh 4 HW5.out (by simp only [List.length_append, beB_len, Array.length_toList]; have : nm.data.size = nm.size := rfl; omega) (by omega) (by omega)).mono ?_
    rintro r w6 ⟨v6, rfl, hw6, hs6⟩
    have HW6 := Lib.hid hw6
    have HS6 := Lib.hid (HS5.out.trans hs6)
    clear c0 c1 c2 c3 c4
    obtain ⟨c0, c1, c2, c3, c4⟩ := HX.out w6 v6 HS6.out
    clear hw6 hs6
    go_wp2_with fail
    go_end0
    exact ⟨rfl, v6, by simpa using HW6.out, WStep.behind HB0.out HS6.out⟩
  · go_wp2_with fail
    refine (wnumber_any 1 1 HW3.out (by simp only [List.length_append, beB_len, Array.length_toList]; have : nm.data.size = nm.size := rfl; omega) (by omega) (by omega)).mono ?_
    rintro r w4 ⟨v4, rfl, hw4, hs4⟩
    have HW4 := Lib.hid hw4
    have HS4 := Lib.hid (HS3.out.trans hs4)
    clear c0 c1 c2 c3 c4
    obtain ⟨c0, c1, c2, c3, c4⟩ := HX.out w4 v4 HS4.out
    clear hw4 hs4
    go_wp2_with fail
    refine (wnumber_any ck 8 HW4.out (by simp only [List.length_append, beB_len, Array.length_toList]; have : nm.data.size = nm.size := rfl; omega) (by omega) (by omega)).mono ?_
    rintro r w5 ⟨v5, rfl, hw5, hs5⟩
    have HW5 := Lib.hid hw5
    have HS5 := Lib.hid (HS4.out.trans hs5)
    clear c0 c1 c2 c3 c4
    obtain ⟨c0, c1, c2, c3, c4⟩ := HX.out w5 v5 HS5.out
    clear hw5 hs5
    go_wp2_with fail
    refine (wnumber_any sh 4 HW5.out (by simp only [List.length_append, beB_len, Array.length_toList]; have : nm.data.size = nm.size := rfl; omega) (by omega) (by omega)).mono ?_
    rintro r w6 ⟨v6, rfl, hw6, hs6⟩
    have HW6 := Lib.hid hw6
    have HS6 := Lib.hid (HS5.out.trans hs6)
    clear c0 c1 c2 c3 c4
    obtain ⟨c0, c1, c2, c3, c4⟩ := HX.out w6 v6 HS6.out
    clear hw6 hs6
    go_wp2_with fail
    go_end0
    exact ⟨rfl, v6, by simpa using HW6.out, WStep.behind HB0.out HS6.out⟩
theorem wentry_any {w : World} {g : Nat} {v : Value} {l : List UInt8} (e : Ent) (h : WrAt w g v l) (hl : l.length ≤ 80000000) (he : EntOk e) :
    Calls Tryz.prog 62 #[.pointer (some ⟨g, 0, none⟩), .agg #[.string e.name, .int .i64 e.node, .bool e.dir, .int .i64 e.cookie, .int .i64 e.short]] w fun r w' => ∃ v', r = .returned (.tuple #[]) ∧ WrAt w' g v' (l ++ entB e) ∧ WStep g w v w' v' := by
  obtain ⟨nm, nd, dr, ck, sh⟩ := e
  obtain ⟨h1, h2, h3, h4, h5, h6, h7⟩ := he
  dsimp only at h1 h2 h3 h4 h5 h6 h7
  obtain ⟨n1, rfl⟩ : ∃ n : Nat, nd = n := ⟨nd.toNat, by omega⟩
  obtain ⟨n2, rfl⟩ : ∃ n : Nat, ck = n := ⟨ck.toNat, by omega⟩
  obtain ⟨n3, rfl⟩ : ∃ n : Nat, sh = n := ⟨sh.toNat, by omega⟩
  refine (wentry_nat nm n1 dr n2 n3 h hl h1 (by omega) (by omega) (by omega)).mono ?_
  rintro r w' ⟨v', h8, h9, h10⟩
  refine ⟨v', h8, ?_, h10⟩
  unfold entB
  simp only [Int.toNat_natCast]
  simpa [List.append_assoc] using h9
end Go.Proofs.YtolilbcpfdnkjaaGreat
