/- deed: the reference's Bytes. -/
import Derived.Test.YtepjflepnkfboaaD8
namespace Go.Proofs.Ytepjflepnkfboaa
open Go.RowKit
set_option linter.unusedSimpArgs false
theorem u8v (n : Int) (m : Nat) (h : n = ((m % 256 : Nat) : Int)) : Value.int .u8 n = .int .u8 (UInt8.ofNat (m % 256)).toNat := by rw [u8_ofNat_toNat, h]
theorem bv_cons (c : UInt8) (l : List UInt8) : bv (c :: l) = .int .u8 c.toNat :: bv l := rfl
theorem bv_nil : bv [] = [] := rfl
theorem nb2 (d : Nat) : numBytes 2 d = [UInt8.ofNat (d / 256 % 256), UInt8.ofNat (d % 256)] := by simp [numBytes]
theorem nb4 (d : Nat) : numBytes 4 d = [UInt8.ofNat (d / 16777216 % 256), UInt8.ofNat (d / 65536 % 256), UInt8.ofNat (d / 256 % 256), UInt8.ofNat (d % 256)] := by simp [numBytes]
set_option maxHeartbeats 2000000 in
theorem refbytes_any (x : DD) (hm : x.may) (w : World) :
    Calls Try.prog 16 #[.agg x.cells] w fun e w' => e = .returned (.string ⟨x.bytes.toArray⟩) ∧ Below w.heap.size w w' := by
  obtain ⟨k, d, t, n, a, is, s⟩ := x
  obtain ⟨h1, h2, h3, h4, h5, h6, h7, h8, h9⟩ := hm
  dsimp only at *
  obtain ⟨d, rfl⟩ := Int.eq_ofNat_of_zero_le h1
  obtain ⟨t, rfl⟩ := Int.eq_ofNat_of_zero_le h3
  obtain ⟨s, rfl⟩ := Int.eq_ofNat_of_zero_le h7
  show Calls _ _ #[.agg #[.int .i64 k, .int .i64 d, .int .i64 t, .string n, .string a, .bool is, .int .i64 s]] w _
  have hk : ((k == 3) = true ∧ (k != 2) = true) ∨ ((k == 3) = false ∧ (k != 2) = false) ∨ ((k == 3) = false ∧ (k != 2) = true) := by
    rcases h9 with h9 | h9 | h9 <;> obtain ⟨rfl, _⟩ := h9 <;> decide
  have hk1 : 0 ≤ k := by omega
  have hk4 : k ≤ 3 := by omega
  clear h9
  rcases hk with ⟨hk3, hk2⟩ | ⟨hk3, hk2⟩ | ⟨hk3, hk2⟩
  all_goals
   go_enter Try.func16, Try.ntmps16
   go_upto_region 1 with (fail)
   generalize hW : w.alloc (Obj.cells #[.int .i64 k, .int .i64 d, .int .i64 t, .string n, .string a, .bool is, .int .i64 s] 23) = W
   have hz : W.heap.size = w.heap.size + 1 := by subst hW; simp
   have c0 : W.cell? ⟨w.heap.size, 0, none⟩ = some (.int .i64 k) := by subst hW; simp
   have c1 : W.cell? ⟨w.heap.size, 1, none⟩ = some (.int .i64 d) := by subst hW; simp
   have c2 : W.cell? ⟨w.heap.size, 2, none⟩ = some (.int .i64 t) := by subst hW; simp
   have c3 : W.cell? ⟨w.heap.size, 3, none⟩ = some (.string n) := by subst hW; simp
   have c4 : W.cell? ⟨w.heap.size, 4, none⟩ = some (.string a) := by subst hW; simp
   have c5 : W.cell? ⟨w.heap.size, 5, none⟩ = some (.bool is) := by subst hW; simp
   have c6 : W.cell? ⟨w.heap.size, 6, none⟩ = some (.int .i64 s) := by subst hW; simp
   have hbW : Below w.heap.size w W := by subst hW; exact (Below.refl _ _).alloc (Nat.le_refl _) _
   have Hz := Lib.hid hz
   have hltW : w.heap.size < W.heap.size := by omega
   clear hW hz
   have hown0 : Byt (W.alloc (Obj.cells #[.int .u8 k, .int .u8 ((d : Int) / 256), .int .u8 ((d : Int) % 256), .int .u8 n.size] 5)) W.heap.size (.slice (some ⟨W.heap.size, 0, none⟩) 4 4) (UInt8.ofNat (k.toNat % 256) :: numBytes 2 d ++ [UInt8.ofNat (n.size % 256)]) :=
     Byt.new W _ _ (UInt8.ofNat (k.toNat % 256) :: numBytes 2 d ++ [UInt8.ofNat (n.size % 256)]) (Nat.le_refl _) (by rw [nb2]; simp only [List.cons_append, List.nil_append, bv_cons, bv_nil]; rw [← u8v k _ (by omega), ← u8v ((d : Int) / 256) _ (by omega), ← u8v ((d : Int) % 256) _ (by omega), ← u8v (n.size : Int) _ (by omega)]) (by simp [numBytes_length, maxLen])
   have hbb : Below W.heap.size W (W.alloc (Obj.cells #[.int .u8 k, .int .u8 ((d : Int) / 256), .int .u8 ((d : Int) % 256), .int .u8 n.size] 5)) := (Below.refl _ _).alloc (Nat.le_refl _) _
  · go_wp2_with (first
     | (at_builtin; refine app_str rfl _ _ rfl _ _ rfl hown0 n rfl ?c1 ?c2 ?_; (case c1 => simp [numBytes_length]; omega); (case c2 => have := hbb.size; first | assumption | (simp; done) | (simp; omega)); intro v1 w1 hown1 hgrow1; have hbb : Below W.heap.size W w1 := hbb.grown hgrow1 (by have := hbb.size; first | assumption | (simp; done) | (simp; omega)) (fun k hk => (hown0.lt k hk).1); have c10 := cell_later hbb c0; have c11 := cell_later hbb c1; have c12 := cell_later hbb c2; have c13 := cell_later hbb c3; have c14 := cell_later hbb c4; have c15 := cell_later hbb c5; have c16 := cell_later hbb c6)
     | (at_builtin; refine app_bytes rfl _ _ rfl _ _ rfl (hown1.alloc _) ⟨w1.heap.size, 0, none⟩ 3 3 (numBytes 2 t ++ [UInt8.ofNat (a.size % 256)]) rfl rfl ?c1 ?c2 ?c3 ?_; (case c1 => exact new_bytes _ _ (by rw [nb2]; simp only [List.cons_append, List.nil_append, bv_cons, bv_nil]; rw [← u8v ((t : Int) / 256) _ (by omega), ← u8v ((t : Int) % 256) _ (by omega), ← u8v (a.size : Int) _ (by omega)]) _); (case c2 => simp [numBytes_length]; omega); (case c3 => have := hbb.size; first | (simp; done) | (simp; omega)); intro v2 w2 hown2 hgrow2; have hbb : Below W.heap.size W w2 := (hbb.alloc hbb.size _).grown hgrow2 (by have := hbb.size; first | assumption | (simp; done) | (simp; omega)) (fun k hk => (hown1.lt k hk).1); have c20 := cell_later hbb c0; have c21 := cell_later hbb c1; have c22 := cell_later hbb c2; have c23 := cell_later hbb c3; have c24 := cell_later hbb c4; have c25 := cell_later hbb c5; have c26 := cell_later hbb c6)
     | (at_builtin; refine app_str rfl _ _ rfl _ _ rfl hown2 a rfl ?c1 ?c2 ?_; (case c1 => simp [numBytes_length]; omega); (case c2 => have := hbb.size; first | assumption | (simp; done) | (simp; omega)); intro v3 w3 hown3 hgrow3; have hbb : Below W.heap.size W w3 := hbb.grown hgrow3 (by have := hbb.size; first | assumption | (simp; done) | (simp; omega)) (fun k hk => (hown2.lt k hk).1); have c30 := cell_later hbb c0; have c31 := cell_later hbb c1; have c32 := cell_later hbb c2; have c33 := cell_later hbb c3; have c34 := cell_later hbb c4; have c35 := cell_later hbb c5; have c36 := cell_later hbb c6)
     | (at_builtin; refine app_bytes rfl _ _ rfl _ _ rfl (hown3.alloc _) ⟨w3.heap.size, 0, none⟩ 4 4 (numBytes 4 s) rfl rfl ?c1 ?c2 ?c3 ?_; (case c1 => exact new_bytes _ _ (by rw [nb4]; simp only [bv_cons, bv_nil]; rw [← u8v 0 _ (by omega), ← u8v ((s : Int) / 65536) _ (by omega), ← u8v ((s : Int) / 256 % 256) _ (by omega), ← u8v ((s : Int) % 256) _ (by omega)]) _); (case c2 => simp [numBytes_length]; omega); (case c3 => have := hbb.size; first | (simp; done) | (simp; omega)); intro v4 w4 hown4 hgrow4; have hbb : Below W.heap.size W w4 := (hbb.alloc hbb.size _).grown hgrow4 (by have := hbb.size; first | assumption | (simp; done) | (simp; omega)) (fun k hk => (hown3.lt k hk).1); skip)
     | (refine conv_bytes rfl _ rfl _ _ rfl hown4 ?_))
    all_goals
      go_ret
      have hK : k = 3 := by simpa using hk3
      refine ⟨by simp [DD.bytes, nameBytes, *], hbW.trans (hbb.mono (by rw [Hz.out]; omega))⟩
  · go_wp2_with (first
     | (at_builtin; refine app_str rfl _ _ rfl _ _ rfl hown0 n rfl ?c1 ?c2 ?_; (case c1 => simp [numBytes_length]; omega); (case c2 => have := hbb.size; first | assumption | (simp; done) | (simp; omega)); intro v1 w1 hown1 hgrow1; have hbb : Below W.heap.size W w1 := hbb.grown hgrow1 (by have := hbb.size; first | assumption | (simp; done) | (simp; omega)) (fun k hk => (hown0.lt k hk).1); have c10 := cell_later hbb c0; have c11 := cell_later hbb c1; have c12 := cell_later hbb c2; have c13 := cell_later hbb c3; have c14 := cell_later hbb c4; have c15 := cell_later hbb c5; have c16 := cell_later hbb c6)
     | (at_builtin; refine app_bytes rfl _ _ rfl _ _ rfl (hown1.alloc _) ⟨w1.heap.size, 0, none⟩ 1 1 [1] rfl rfl ?c1 ?c2 ?c3 ?_; (case c1 => exact new_bytes _ _ (by rfl) _); (case c2 => simp [numBytes_length]; omega); (case c3 => have := hbb.size; first | (simp; done) | (simp; omega)); intro v2 w2 hown2 hgrow2; have hbb : Below W.heap.size W w2 := (hbb.alloc hbb.size _).grown hgrow2 (by have := hbb.size; first | assumption | (simp; done) | (simp; omega)) (fun k hk => (hown1.lt k hk).1); have c20 := cell_later hbb c0; have c21 := cell_later hbb c1; have c22 := cell_later hbb c2; have c23 := cell_later hbb c3; have c24 := cell_later hbb c4; have c25 := cell_later hbb c5; have c26 := cell_later hbb c6)
     | (at_builtin; refine app_bytes rfl _ _ rfl _ _ rfl (hown1.alloc _) ⟨w1.heap.size, 0, none⟩ 1 1 [0] rfl rfl ?c1 ?c2 ?c3 ?_; (case c1 => exact new_bytes _ _ (by rfl) _); (case c2 => simp [numBytes_length]; omega); (case c3 => have := hbb.size; first | (simp; done) | (simp; omega)); intro v2 w2 hown2 hgrow2; have hbb : Below W.heap.size W w2 := (hbb.alloc hbb.size _).grown hgrow2 (by have := hbb.size; first | assumption | (simp; done) | (simp; omega)) (fun k hk => (hown1.lt k hk).1); have c20 := cell_later hbb c0; have c21 := cell_later hbb c1; have c22 := cell_later hbb c2; have c23 := cell_later hbb c3; have c24 := cell_later hbb c4; have c25 := cell_later hbb c5; have c26 := cell_later hbb c6)
     | (refine conv_bytes rfl _ rfl _ _ rfl hown2 ?_))
    all_goals
      go_ret
      have hK : k = 2 := by simpa using hk2
      refine ⟨by simp [DD.bytes, nameBytes, *], hbW.trans (hbb.mono (by rw [Hz.out]; omega))⟩
  · go_wp2_with (first
     | (at_builtin; refine app_str rfl _ _ rfl _ _ rfl hown0 n rfl ?c1 ?c2 ?_; (case c1 => simp [numBytes_length]; omega); (case c2 => have := hbb.size; first | assumption | (simp; done) | (simp; omega)); intro v1 w1 hown1 hgrow1; have hbb : Below W.heap.size W w1 := hbb.grown hgrow1 (by have := hbb.size; first | assumption | (simp; done) | (simp; omega)) (fun k hk => (hown0.lt k hk).1); have c10 := cell_later hbb c0; have c11 := cell_later hbb c1; have c12 := cell_later hbb c2; have c13 := cell_later hbb c3; have c14 := cell_later hbb c4; have c15 := cell_later hbb c5; have c16 := cell_later hbb c6)
     | (at_builtin; refine app_bytes rfl _ _ rfl _ _ rfl (hown1.alloc _) ⟨w1.heap.size, 0, none⟩ 1 1 [1] rfl rfl ?c1 ?c2 ?c3 ?_; (case c1 => exact new_bytes _ _ (by rfl) _); (case c2 => simp [numBytes_length]; omega); (case c3 => have := hbb.size; first | (simp; done) | (simp; omega)); intro v2 w2 hown2 hgrow2; have hbb : Below W.heap.size W w2 := (hbb.alloc hbb.size _).grown hgrow2 (by have := hbb.size; first | assumption | (simp; done) | (simp; omega)) (fun k hk => (hown1.lt k hk).1); have c20 := cell_later hbb c0; have c21 := cell_later hbb c1; have c22 := cell_later hbb c2; have c23 := cell_later hbb c3; have c24 := cell_later hbb c4; have c25 := cell_later hbb c5; have c26 := cell_later hbb c6)
     | (at_builtin; refine app_bytes rfl _ _ rfl _ _ rfl (hown1.alloc _) ⟨w1.heap.size, 0, none⟩ 1 1 [0] rfl rfl ?c1 ?c2 ?c3 ?_; (case c1 => exact new_bytes _ _ (by rfl) _); (case c2 => simp [numBytes_length]; omega); (case c3 => have := hbb.size; first | (simp; done) | (simp; omega)); intro v2 w2 hown2 hgrow2; have hbb : Below W.heap.size W w2 := (hbb.alloc hbb.size _).grown hgrow2 (by have := hbb.size; first | assumption | (simp; done) | (simp; omega)) (fun k hk => (hown1.lt k hk).1); have c20 := cell_later hbb c0; have c21 := cell_later hbb c1; have c22 := cell_later hbb c2; have c23 := cell_later hbb c3; have c24 := cell_later hbb c4; have c25 := cell_later hbb c5; have c26 := cell_later hbb c6)
     | (at_builtin; refine app_bytes rfl _ _ rfl _ _ rfl (hown2.alloc _) ⟨w2.heap.size, 0, none⟩ 4 4 (numBytes 4 s) rfl rfl ?c1 ?c2 ?c3 ?_; (case c1 => exact new_bytes _ _ (by rw [nb4]; simp only [bv_cons, bv_nil]; rw [← u8v 0 _ (by omega), ← u8v ((s : Int) / 65536) _ (by omega), ← u8v ((s : Int) / 256 % 256) _ (by omega), ← u8v ((s : Int) % 256) _ (by omega)]) _); (case c2 => simp [numBytes_length]; omega); (case c3 => have := hbb.size; first | (simp; done) | (simp; omega)); intro v3 w3 hown3 hgrow3; have hbb : Below W.heap.size W w3 := (hbb.alloc hbb.size _).grown hgrow3 (by have := hbb.size; first | assumption | (simp; done) | (simp; omega)) (fun k hk => (hown2.lt k hk).1); skip)
     | (refine conv_bytes rfl _ rfl _ _ rfl hown3 ?_))
    all_goals
      go_ret
      have hK : k ≠ 2 ∧ k ≠ 3 := ⟨by simpa using hk2, by simpa using hk3⟩
      refine ⟨by simp [DD.bytes, nameBytes, *], hbW.trans (hbb.mono (by rw [Hz.out]; omega))⟩
end Go.Proofs.Ytepjflepnkfboaa
