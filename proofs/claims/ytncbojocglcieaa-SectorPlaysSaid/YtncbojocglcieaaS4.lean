/- sector's laws: a full sector; awake; cuts. -/
import Derived.Test.YtncbojocglcieaaS3
import Derived.Test.YtncbojocglcieaaByK
namespace Go.Proofs.Ytncbojocglcieaa
open Go.RowKit
set_option linter.unusedSimpArgs false
set_option linter.unusedVariables false
/-- A sector of one byte. -/
def fsec (c : UInt8) : ByteArray := ⟨(List.replicate 64 c).toArray⟩
theorem fsec_size (c : UInt8) : (fsec c).size = 64 := by simp [fsec, ByteArray.size]
theorem fill_set (c z : UInt8) (n i : Nat) (h : i < n) : (List.replicate i c ++ List.replicate (n - i) z).set i c = List.replicate (i + 1) c ++ List.replicate (n - (i + 1)) z := by
  rw [List.set_append_right _ _ (by simp)]
  simp only [List.length_replicate, Nat.sub_self]
  rw [show n - i = (n - (i + 1)) + 1 from by omega, List.replicate_succ, List.set_cons_zero, List.replicate_succ', List.append_assoc]
  rfl
set_option maxHeartbeats 1000000 in
set_option maxRecDepth 100000 in
theorem full_any (c : UInt8) (w : World) : Calls Try.prog 19 #[.int .u8 c.toNat] w fun e w' => e = .returned (.string (fsec c)) ∧ Below w.heap.size w w' := by
  obtain ⟨n, hN⟩ : ∃ n, w.heap.size = n := ⟨_, rfl⟩
  go_enter Try.func19, Try.ntmps19
  go_wp2_with (refine make_row (E := EByt) (B := w.heap.size) (z := .int .u8 0) (0 : UInt8) (by kernel_rfl) (by rfl) rfl 60 Try.underlying60 _ _ rfl 64 64 64 rfl rfl rfl rfl (by decide) (by decide) (Nat.le_refl _) ?_; intro w1 hr1 hb1)
  rw [hN] at hr1 hb1
  go_loopw [4] (fun iv wr => ∃ i : Nat, iv = .int .i64 i ∧ i ≤ 64 ∧ Row EByt wr n (.slice (some ⟨n, 0, none⟩) 64 64) (List.replicate i c ++ List.replicate (64 - i) 0) ∧ Below n w wr) (fun iv _ => 64 - (intOf iv).toNat)
  case atStart => exact ⟨0, rfl, Nat.zero_le _, hr1, hb1⟩
  case round =>
    obtain ⟨i, rfl, hi, hr, hb⟩ := hrel
    by_cases hlt : i < 64
    · obtain ⟨g, cap, e, _, hgl, _, _, hcell, hfr⟩ := hr.slice (by intro q; have := congrArg List.length q; simp at this; omega)
      simp only [Value.slice.injEq, Option.some.injEq, Addr.mk.injEq] at e
      obtain ⟨⟨rfl, -, -⟩, -, -⟩ := e
      have hset := hr.set1 rfl i c (.int .u8 c.toNat) rfl
      rw [fill_set c 0 64 i hlt] at hset
      have hx := hcell i _ (List.getElem?_eq_getElem (by simp; omega)) 0 (by decide)
      have hx2 : ∃ v, wr.cell? ⟨n, i, none⟩ = some v := ⟨_, by simpa [EByt] using hx⟩
      obtain ⟨v, hv⟩ := hx2
      have hf := hfr i
      have Hset := Lib.hid hset
      clear hcell hfr hx hset hr
      have i1 : (i : Int) < 64 := by omega
      go_wp2_with fail
      refine ⟨⟨i + 1, by go_num, hlt, Hset.out, hb.trans (((Keep.refl (fun k => k = n) wr).set n i _ (Or.inl rfl)).toBelow (by omega) (fun k q => by omega))⟩, by simp [intOf]; omega⟩
    · have ei : i = 64 := by omega
      subst ei
      have Hr := Lib.hid hr
      clear hr
      go_wp2_with (refine conv_row rfl _ rfl _ _ rfl Hr.out ?_)
      go_ret
      exact ⟨by simp [fsec], hN ▸ hb⟩
/-- A device that came since the world w0, and nothing that was there has turned. -/
def Own (w0 w : World) (g : Nat) (d : DevD) : Prop := ∃ F, Dev w F g d ∧ (∀ k, F k → w0.heap.size ≤ k) ∧ Below w0.heap.size w0 w
theorem Own.below {w0 w w' : World} {g : Nat} {d : DevD} (h : Own w0 w g d) (hb : Below w.heap.size w w') : Own w0 w' g d := by
  obtain ⟨F, h1, h2, h3⟩ := h
  exact ⟨F, h1.below hb, h2, h3.trans (hb.mono h3.size)⟩
theorem Own.step {w0 w w' : World} {F : Nat → Prop} {g : Nat} {d d' : DevD} (h1 : Dev w F g d) (h2 : ∀ k, F k → w0.heap.size ≤ k) (h3 : Below w0.heap.size w0 w) (s : Stepped w F g d' w') : Own w0 w' g d' := by
  obtain ⟨F', q1, q2, q3⟩ := s
  exact ⟨F', q1, fun k q => (q2 k q).elim (h2 k) (fun e => Nat.le_trans h3.size e), h3.trans (q3.toBelow h3.size h2)⟩
theorem Own.bel {w0 w : World} {g : Nat} {d : DevD} (h : Own w0 w g d) : Below w0.heap.size w0 w := by obtain ⟨F, h1, h2, h3⟩ := h; exact h3
theorem own_new (w0 w : World) (n : Int) (hb : Below w0.heap.size w0 w) : Calls Try.prog 17 #[.int .i64 n] w fun e w' => ∃ g, e = .returned (.pointer (some ⟨g, 0, none⟩)) ∧ Own w0 w' g ⟨(min (max n 0) 4096).toNat, [], [], [], -1⟩ := by
  refine (newdev_any n w).mono ?_
  rintro e w' ⟨F, g, rfl, hd, hF, hB⟩
  exact ⟨g, rfl, F, hd, fun k q => Nat.le_trans hb.size (hF k q), hb.trans (hB.mono hb.size)⟩
theorem own_put {w0 w : World} {g : Nat} {d : DevD} (h : Own w0 w g d) (i : Int) (x : ByteArray) (hq : d.queue.length ≤ 1000000) (hleft : d.left ≤ 9223372036854775807) :
    Calls Try.prog 18 #[.pointer (some ⟨g, 0, none⟩), .int .i64 i, .string x] w fun e w' => e = .returned (.int .i64 (d.putErr i x)) ∧ Own w0 w' g (if d.putErr i x = 0 then d.put i x else d) := by
  obtain ⟨F, h1, h2, h3⟩ := h
  refine (put_any w F g d i x h1 hq hleft).mono ?_
  rintro e w' ⟨rfl, hs⟩
  exact ⟨rfl, Own.step h1 h2 h3 hs⟩
theorem own_get {w0 w : World} {g : Nat} {d : DevD} (h : Own w0 w g d) (i : Int) :
    Calls Try.prog 23 #[.pointer (some ⟨g, 0, none⟩), .int .i64 i] w fun e w' => e = .returned (.tuple #[.string (d.get i), .int .i64 (d.ask i)]) ∧ Own w0 w' g d ∧ Below w.heap.size w w' := by
  have h0 := h
  obtain ⟨F, h1, h2, h3⟩ := h
  refine (get_any w F g d i h1).mono ?_
  rintro e w' ⟨rfl, hb⟩
  exact ⟨rfl, h0.below hb, hb⟩
theorem own_cut {w0 w : World} {g : Nat} {d : DevD} (h : Own w0 w g d) (n : Int) :
    Calls Try.prog 28 #[.pointer (some ⟨g, 0, none⟩), .int .i64 n] w fun e w' => e = .returned (.tuple #[]) ∧ Own w0 w' g (d.cut n) := by
  obtain ⟨F, h1, h2, h3⟩ := h
  refine (cut_any w F g d n h1).mono ?_
  rintro e w' ⟨rfl, hs⟩
  exact ⟨rfl, Own.step h1 h2 h3 hs⟩
theorem own_flush {w0 w : World} {g : Nat} {d : DevD} (h : Own w0 w g d) :
    Calls Try.prog 20 #[.pointer (some ⟨g, 0, none⟩)] w fun e w' => e = .returned (.int .i64 (if d.left = 0 then 13 else 0)) ∧ Own w0 w' g (if d.left = 0 then d else d.flush) := by
  obtain ⟨F, h1, h2, h3⟩ := h
  refine (flush_any w F g d h1).mono ?_
  rintro e w' ⟨rfl, hs⟩
  exact ⟨rfl, Own.step h1 h2 h3 hs⟩
theorem own_restart {w0 w : World} {g : Nat} {d : DevD} (h : Own w0 w g d) (kv : Value) (kept : List Int) (harg : Arg EInt w0 kv kept) (hk : kept.length ≤ maxLen) (hq : d.queue.length ≤ 1000000) :
    Calls Try.prog 22 #[.pointer (some ⟨g, 0, none⟩), kv] w fun e w' => e = .returned (.tuple #[]) ∧ Own w0 w' g (d.restart kept) := by
  obtain ⟨F, h1, h2, h3⟩ := h
  refine (restart_any w F g d kv kept h1 (fun w' k => harg.below (h3.trans (k.toBelow h3.size h2))) hk hq).mono ?_
  rintro e w' ⟨rfl, hs⟩
  exact ⟨rfl, Own.step h1 h2 h3 hs⟩
theorem own_pending {w0 w : World} {g : Nat} {d : DevD} (h : Own w0 w g d) :
    Calls Try.prog 21 #[.pointer (some ⟨g, 0, none⟩)] w fun e w' => e = .returned (.int .i64 d.queue.length) ∧ w' = w := by
  obtain ⟨F, h1, h2, h3⟩ := h
  exact pending_any w F g d h1
theorem own_size {w0 w : World} {g : Nat} {d : DevD} (h : Own w0 w g d) :
    Calls Try.prog 30 #[.pointer (some ⟨g, 0, none⟩)] w fun e w' => e = .returned (.int .i64 d.size) ∧ w' = w := by
  obtain ⟨F, h1, h2, h3⟩ := h
  exact size_any w F g d h1
theorem own_full {w0 w : World} {g : Nat} {d : DevD} (h : Own w0 w g d) (c : UInt8) : Calls Try.prog 19 #[.int .u8 c.toNat] w fun e w' => e = .returned (.string (fsec c)) ∧ Own w0 w' g d ∧ Below w.heap.size w w' := by
  refine (full_any c w).mono ?_
  rintro e w' ⟨rfl, hb⟩
  exact ⟨rfl, h.below hb, hb⟩
theorem own_put_ok {w0 w : World} {g : Nat} {d : DevD} (h : Own w0 w g d) (i : Int) (x : ByteArray) (hq : d.queue.length ≤ 1000000) (hleft : d.left ≤ 9223372036854775807) (he : d.putErr i x = 0) :
    Calls Try.prog 18 #[.pointer (some ⟨g, 0, none⟩), .int .i64 i, .string x] w fun e w' => e = .returned (.int .i64 0) ∧ Own w0 w' g (d.put i x) := by
  have := own_put h i x hq hleft
  rw [he, if_pos rfl] at this
  exact this
set_option maxHeartbeats 1000000 in
theorem awake06_any (w : World) : Calls Try.prog 16 #[] w fun e w' => e = .returned (.bool true) ∧ Below w.heap.size w w' := by
  go_enter Try.func16, Try.ntmps16
  go_wp2_with fail
  refine (own_new w w 3 (Below.refl _ _)).mono ?_
  rintro e w1 ⟨g, rfl, h1⟩
  have H1 := Lib.hid h1
  clear h1
  go_wp2_with fail
  refine (own_size H1.out).mono ?_
  rintro e w2 ⟨rfl, rfl⟩
  go_wp2_with fail
  refine (own_full H1.out 7).mono ?_
  rintro e w3 ⟨rfl, h3, hb3⟩
  have H3 := Lib.hid h3
  clear h3 hb3
  go_wp2_with fail
  refine (own_put_ok H3.out 1 (fsec 7) (by decide) (by decide) (by decide)).mono ?_
  rintro e w4 ⟨rfl, h4⟩
  have H4 := Lib.hid h4
  clear h4
  go_wp2_with fail
  refine (own_pending H4.out).mono ?_
  rintro e w5 ⟨rfl, rfl⟩
  go_wp2_with fail
  go_ret
  exact ⟨rfl, H4.out.bel⟩
end Go.Proofs.Ytncbojocglcieaa
