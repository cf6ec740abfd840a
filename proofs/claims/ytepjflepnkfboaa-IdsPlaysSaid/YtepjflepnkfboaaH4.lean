/- short: Hash; the reference's Free. -/
import Derived.Test.YtepjflepnkfboaaH3
namespace Go.Proofs.Ytepjflepnkfboaa
open Go.RowKit
set_option linter.unusedSimpArgs false
/-- A name's hash. -/
def hashL (l : List UInt8) : Nat := l.foldl (fun h c => (h ^^^ c.toNat) * 16777619 % 4294967296) 2166136261
theorem hashL_snoc (l : List UInt8) (c : UInt8) : hashL (l ++ [c]) = (hashL l ^^^ c.toNat) * 16777619 % 4294967296 := by
  unfold hashL; rw [List.foldl_append, List.foldl_cons, List.foldl_nil]
theorem hashL_lt (l : List UInt8) : hashL l < 4294967296 := by
  rcases List.eq_nil_or_concat l with rfl | ⟨l, c, rfl⟩
  · decide
  · rw [List.concat_eq_append, hashL_snoc]; exact Nat.mod_lt _ (by decide)
theorem u32_step (h c : Nat) (hh : h < 4294967296) (hc : c < 256) : bits .xor .u32 (h : Int) (c : Int) * 16777619 % 4294967296 = (((h ^^^ c) * 16777619 % 4294967296 : Nat) : Int) := by
  rw [u32_xor_nat h c hh (by omega)]
  omega
set_option maxHeartbeats 1000000 in
theorem hash_any (s : ByteArray) (w : World) (hs : s.size ≤ maxLen) :
    Calls Try.prog 29 #[.string s] w fun e w' => e = .returned (.int .u32 (hashL s.data.toList)) ∧ Below w.heap.size w w' := by
  have cv := Lib.run_convert_string_bytes (P := Try.prog) w 9 63 5 s Try.underlying9 Try.underlying63 Try.underlying5
  have hcell := Lib.bytesWorld_cell w 5 s
  have Hcell := Lib.hid hcell
  have HB : Below w.heap.size w (Lib.bytesWorld w 5 s) := ⟨rfl, rfl, rfl, by rw [Lib.bytesWorld_size]; omega, fun k hk => Lib.bytesWorld_at_old _ _ _ _ hk⟩
  unfold maxLen at hs
  clear hcell
  go_enter Try.func29, Try.ntmps29
  go_wp2
  generalize Lib.bytesWorld w 5 s = W at *
  clear cv
  go_loop [3, 9] (fun nv iv => ∃ k : Nat, k ≤ s.size ∧ iv = .int .i64 k ∧ nv = .int .u32 (hashL (s.data.toList.take k))) (fun _ iv => s.size - (intOf iv).toNat)
  case atStart => exact ⟨0, Nat.zero_le _, rfl, rfl⟩
  case round =>
    obtain ⟨k, hk, rfl, rfl⟩ := hrel
    by_cases hlt : k < s.size
    · have hc := Hcell.out k hlt
      have hsn : hashL (s.data.toList.take (k + 1)) = (hashL (s.data.toList.take k) ^^^ (s.data.toList.getD k 0).toNat) * 16777619 % 4294967296 := by
        rw [← hashL_snoc, List.getD_eq_getElem?_getD, List.getElem?_eq_getElem (by simpa using hlt), Option.getD_some, List.take_succ_eq_append_getElem (by simpa using hlt)]
      have hm32 := hashL_lt (s.data.toList.take k)
      have Hsn := Lib.hid hsn
      clear hsn
      generalize s.data.toList.getD k 0 = c at *
      generalize hm : hashL (s.data.toList.take k) = m at *
      have hcb : c.toNat < 256 := c.toNat_lt
      clear hm
      go_wp2
      exact ⟨⟨k + 1, hlt, by go_num, by rw [u32_step _ _ hm32 hcb, ← Hsn.out]⟩, by simp [intOf]; omega⟩
    · go_wp2
      go_ret
      have e : List.take k s.data.toList = s.data.toList := List.take_of_length_le (by show s.size ≤ k; omega)
      exact ⟨by show Ending.returned (.int .u32 _) = _; rw [e], HB⟩
/-- Is a number among the first ones? -/
def foundB (l : List Int) (k n : Nat) : Bool := decide ((n : Int) ∈ l.take k)
theorem foundB_zero (l : List Int) (n : Nat) : foundB l 0 n = false := by simp [foundB]
theorem foundB_yes (l : List Int) (k n : Nat) (h : foundB l k n = true) : foundB l (k + 1) n = true := by
  unfold foundB at *
  rw [decide_eq_true_eq] at *
  exact List.take_subset_take_left l (Nat.le_succ k) h
theorem foundB_no (l : List Int) (k n : Nat) (hk : k < l.length) (h : foundB l k n = false) : foundB l (k + 1) n = (l.getD k 0 == (n : Int)) := by
  unfold foundB at *
  rw [decide_eq_false_iff_not] at h
  rw [List.take_succ_eq_append_getElem hk, List.getD_eq_getElem?_getD, List.getElem?_eq_getElem hk, Option.getD_some, Bool.eq_iff_iff]
  simp only [decide_eq_true_eq, List.mem_append, List.mem_singleton, beq_iff_eq]
  exact ⟨fun q => q.elim (fun q => absurd q h) (fun q => q.symm), fun q => Or.inr q.symm⟩
theorem ArgI.cells {w : World} {v : Value} {l : List Int} (h : ArgI w v l) (h0 : l ≠ []) : ∃ b off cap, v = .slice (some ⟨b, off, none⟩) l.length cap ∧ ∀ i, i < l.length → w.cell? ⟨b, off + i, none⟩ = some (.int .i64 (l.getD i 0)) := by
  obtain ⟨a, cap, rfl, h⟩ := h
  rcases h with ⟨_, _, e⟩ | ⟨x, rfl, hc⟩
  · exact absurd e h0
  · obtain ⟨b, off, spot⟩ := x
    have hc0 := hc 0 (List.length_pos_iff.2 h0)
    have hspot : spot = none := by simpa [Addr.add] using World.cell?_spot hc0
    subst hspot
    exact ⟨b, off, cap, rfl, fun i hi => by have := hc i hi; rwa [Addr.add_lit] at this⟩
theorem pigeon (n : Nat) : ∀ l : List Int, (∀ m : Nat, 1 ≤ m → m ≤ n → (m : Int) ∈ l) → n ≤ l.length := by
  induction n with
  | zero => intro l _; exact Nat.zero_le _
  | succ n ih =>
    intro l h
    have h1 := h (n + 1) (by omega) (Nat.le_refl _)
    have h2 := ih (l.erase ((n + 1 : Nat) : Int)) (fun m q1 q2 => (List.mem_erase_of_ne (by omega)).2 (h m q1 (by omega)))
    rw [List.length_erase_of_mem h1] at h2
    have := List.length_pos_of_mem h1
    omega
theorem LeastFree.unique {l : List Int} {n m : Nat} (h : LeastFree l n) (k : LeastFree l m) : n = m := by
  rcases Nat.lt_trichotomy n m with q | q | q
  · exact absurd (k.2.2 n h.1 q) h.2.1
  · exact q
  · exact absurd (h.2.2 m k.1 q) k.2.1
set_option maxHeartbeats 1000000 in
theorem reffree_any (tv : Value) (l : List Int) (w : World) (h : ArgI w tv l) (hl : l.length ≤ 400000) :
    Calls Try.prog 13 #[tv] w (fun e w' => (∃ n : Nat, e = .returned (.int .i64 n) ∧ LeastFree l n) ∧ w' = w) := by
  rcases l with _ | ⟨x0, l0⟩
  · obtain ⟨a, cap, rfl, _⟩ := h
    go_enter Try.func13, Try.ntmps13
    go_wp2
    go_loop [3] (fun n => n = .int .i64 1) (fun _ => 0)
    case atStart => rfl
    case round =>
      subst hrel
      go_wp2
      go_ret
      exact ⟨⟨1, rfl, Nat.le_refl _, by simp, fun m _ _ => by omega⟩, rfl⟩
  · obtain ⟨b, off, cap, rfl, hc⟩ := h.cells (by simp)
    generalize x0 :: l0 = l at *
    have Hc := Lib.hid hc
    clear hc h
    go_enter Try.func13, Try.ntmps13
    go_wp2
    go_loop [3, 4, 5] (fun n _ _ => ∃ k : Nat, n = .int .i64 k ∧ 1 ≤ k ∧ k ≤ l.length + 1 ∧ Hid (∀ m : Nat, 1 ≤ m → m < k → (m : Int) ∈ l)) (fun n _ _ => l.length + 1 - (intOf n).toNat)
    case atStart => exact ⟨1, rfl, by omega, by omega, fun m _ _ => by omega⟩
    case round =>
      obtain ⟨k, rfl, hk1, hk2, hall⟩ := hrel
      by_cases hlt : k ≤ l.length
      · go_wp2
        go_loop [4, 5] (fun f i => ∃ j : Nat, i = .int .i64 j ∧ j ≤ l.length ∧ f = .bool (foundB l j k)) (fun _ i => l.length - (intOf i).toNat)
        case atStart => exact ⟨0, rfl, Nat.zero_le _, by rw [foundB_zero]⟩
        case round =>
          obtain ⟨j, rfl, hj, rfl⟩ := hrel
          by_cases hjl : j < l.length
          · have hcj := Hc.out j hjl
            have hyes := foundB_yes l j k
            have hno := foundB_no l j k hjl
            have Hyes := Lib.hid hyes
            have Hno := Lib.hid hno
            clear hyes hno
            have jl2 : (j : Int) < l.length := by omega
            generalize l.getD j 0 = x at *
            generalize hf : foundB l j k = f at *
            clear hf
            cases f
            · go_wp2
              exact ⟨⟨j + 1, by go_num, hjl, by rw [Hno.out rfl]⟩, by simp [intOf]; omega⟩
            · go_wp2
              exact ⟨⟨j + 1, by go_num, hjl, by rw [Hyes.out rfl]⟩, by simp [intOf]; omega⟩
          · have e : foundB l j k = decide ((k : Int) ∈ l) := by unfold foundB; rw [List.take_of_length_le (by omega)]
            rw [e]
            by_cases hin : (k : Int) ∈ l
            · rw [decide_eq_true hin]
              have Hin := Lib.hid hin
              clear hin e
              go_wp2
              refine ⟨⟨k + 1, by go_num, by omega, by omega, fun m q1 q2 => ?_⟩, by simp [intOf]; omega⟩
              by_cases e : m = k
              · rw [e]; exact Hin.out
              · exact hall.out m q1 (by omega)
            · rw [decide_eq_false hin]
              have Hin := Lib.hid hin
              clear hin e
              go_wp2
              go_ret
              exact ⟨⟨k, rfl, hk1, Hin.out, hall.out⟩, rfl⟩
      · have ek : k = l.length + 1 := by omega
        have Hek := Lib.hid ek
        clear ek
        go_wp2
        go_ret
        refine ⟨⟨l.length + 1, by go_num, by omega, ?_, fun m q1 q2 => hall.out m q1 (by have := Hek.out; omega)⟩, rfl⟩
        intro q
        have := pigeon (l.length + 1) l (fun m q1 q2 => by
          by_cases e : m = l.length + 1
          · rw [e]; exact q
          · exact hall.out m q1 (by have := Hek.out; omega))
        omega
end Go.Proofs.Ytepjflepnkfboaa
