/- deed: formed, bytes, Encode. -/
import Derived.Test.YtolilbcpfdnkjaaGreatZAD1
import Derived.Deep.RegionHeld3
namespace Go.Proofs.YtolilbcpfdnkjaaGreat
open Go.RowKit
set_option maxRecDepth 100000
/-- A deed, by value. -/
structure DD where
  (k d t : Int) (n a : ByteArray) (is : Bool) (s : Int)
/-- Its cells. -/
@[reducible] def DD.cells (x : DD) : Array Value := #[.int .i64 x.k, .int .i64 x.d, .int .i64 x.t, .string x.n, .string x.a, .bool x.is, .int .i64 x.s]
/-- Formed deeds. -/
def DD.may (x : DD) : Prop :=
  0 ≤ x.d ∧ x.d ≤ 65535 ∧ 0 ≤ x.t ∧ x.t ≤ 65535 ∧ (x.n.size : Int) ≤ 255 ∧ (x.a.size : Int) ≤ 255 ∧ 0 ≤ x.s ∧ x.s ≤ 1000000 ∧
   ((x.k = 1 ∧ x.t = 0 ∧ x.a.toList = []) ∨ (x.k = 2 ∧ x.t = 0 ∧ x.a.toList = [] ∧ x.s = 0) ∨ (x.k = 3 ∧ x.is = false))
instance (x : DD) : Decidable x.may := by unfold DD.may; infer_instance
set_option maxHeartbeats 1000000 in
theorem formed_any (k d t s : Int) (n a : ByteArray) (is : Bool) (w : World) :
    Calls Tryz.prog 49 #[.agg #[.int .i64 k, .int .i64 d, .int .i64 t, .string n, .string a, .bool is, .int .i64 s]] w fun e w' => e = .returned (.bool (decide (DD.mk k d t n a is s).may)) ∧ Below w.heap.size w w' := by
  go_enter Tryz.func49, Tryz.ntmps49
  go_wp2
  all_goals
    go_ret
    refine ⟨ret_bool ?_, (Below.refl _ _).alloc (Nat.le_refl _) _⟩
    simp_all [DD.may]
  all_goals first | omega | (intros; omega) | (rw [Bool.eq_iff_iff]; simp)
/-- A formed deed's bytes. -/
def DD.bytes (x : DD) : List UInt8 :=
  UInt8.ofNat (x.k.toNat % 256) :: numBytes 2 x.d.toNat ++ nameBytes x.n ++
  (if x.k = 3 then numBytes 2 x.t.toNat ++ nameBytes x.a else if x.is = true then [1] else [0]) ++
  (if x.k = 2 then [] else numBytes 4 x.s.toNat)
set_option maxHeartbeats 2000000 in
theorem bytes_any (x : DD) (hm : x.may) (w : World) :
    Calls Tryz.prog 80 #[.agg x.cells] w fun e w' => e = .returned (.string ⟨x.bytes.toArray⟩) ∧ Below w.heap.size w w' := by
  obtain ⟨k, d, t, n, a, is, s⟩ := x
  obtain ⟨h1, h2, h3, h4, h5, h6, h7, h8, h9⟩ := hm
  dsimp only at *
  obtain ⟨d, rfl⟩ := Int.eq_ofNat_of_zero_le h1
  obtain ⟨t, rfl⟩ := Int.eq_ofNat_of_zero_le h3
  obtain ⟨s, rfl⟩ := Int.eq_ofNat_of_zero_le h7
  obtain ⟨i0, hi, hz0, hz1, hz2⟩ := info_parts info_u8
  show Calls _ _ #[.agg #[.int .i64 k, .int .i64 d, .int .i64 t, .string n, .string a, .bool is, .int .i64 s]] w _
  have hk : ((k == 3) = true ∧ (k != 2) = true) ∨ ((k == 3) = false ∧ (k != 2) = false) ∨ ((k == 3) = false ∧ (k != 2) = true) := by
    rcases h9 with h9 | h9 | h9 <;> obtain ⟨rfl, _⟩ := h9 <;> decide
  have hk1 : 0 ≤ k := by omega
  have hk4 : k ≤ 3 := by omega
  clear h9
  rcases hk with ⟨hk3, hk2⟩ | ⟨hk3, hk2⟩ | ⟨hk3, hk2⟩
  all_goals
   go_enter Tryz.func80, Tryz.ntmps80
   go_wp2
   generalize hW : w.alloc (Obj.cells #[.int .i64 k, .int .i64 d, .int .i64 t, .string n, .string a, .bool is, .int .i64 s] 45) = W
   have hz : W.heap.size = w.heap.size + 1 := by subst hW; simp
   have c0 : W.cell? ⟨w.heap.size, 0, none⟩ = some (.int .i64 k) := by subst hW; simp
   have c1 : W.cell? ⟨w.heap.size, 1, none⟩ = some (.int .i64 d) := by subst hW; simp
   have c2 : W.cell? ⟨w.heap.size, 2, none⟩ = some (.int .i64 t) := by subst hW; simp
   have c3 : W.cell? ⟨w.heap.size, 3, none⟩ = some (.string n) := by subst hW; simp
   have c4 : W.cell? ⟨w.heap.size, 4, none⟩ = some (.string a) := by subst hW; simp
   have c5 : W.cell? ⟨w.heap.size, 5, none⟩ = some (.bool is) := by subst hW; simp
   have c6 : W.cell? ⟨w.heap.size, 6, none⟩ = some (.int .i64 s) := by subst hW; simp
   have hbW : Below w.heap.size w W := by subst hW; exact (Below.refl _ _).alloc (Nat.le_refl _) _
   have Hz := Lib.hid hz
   clear hW hz
   go_region_held3 (fun w' => w'.cell? ⟨w.heap.size, 0, none⟩ = some (.int .i64 k) ∧ w'.cell? ⟨w.heap.size, 1, none⟩ = some (.int .i64 d) ∧ w'.cell? ⟨w.heap.size, 3, none⟩ = some (.string n)) (first | exact ⟨cell_later hbb c0, cell_later hbb c1, cell_later hbb c3⟩ | go_keep)
     (first
      | (go_at_call 104; refine (number_any W.heap.size d 2 _ [UInt8.ofNat (k.toNat % 256)] _ (by exact (Byt.new W _ _ [UInt8.ofNat (k.toNat % 256)] (Nat.le_refl _) (by rw [bv_one, ← wrap_u8 k hk1]) (by simp [maxLen])).drew) (by simp) (by decide) (by decide) (by simp)).mono ?_; rintro e w1 ⟨v1, rfl, hown1, hb1⟩; have hbb : Below W.heap.size W w1 := Below.trans (by repeat (first | exact Below.refl _ _ | assumption | (refine Below.drew ?_) | (refine below_drewN ?_ _) | (refine Below.alloc ?_ (by simp; done) _) | (refine Below.alloc ?_ (by simp; omega) _))) hb1)
      | (go_at_call 103; refine (name_any W.heap.size _ _ n _ hown1 (by exact hbb.size) (by simp [numBytes_length]) (by omega)).mono ?_; rintro e w2 ⟨v2, rfl, hown2, hb2⟩; have hbb := hbb.trans hb2))
   have d0 := cell_later hbb c0
   have d2 := cell_later hbb c2
   have d4 := cell_later hbb c4
   have d5 := cell_later hbb c5
   have d6 := cell_later hbb c6
   have E := hown2.convert
  · go_wp2
    go_region_held3 (fun w' => w'.cell? ⟨w.heap.size, 2, none⟩ = some (.int .i64 t) ∧ w'.cell? ⟨w.heap.size, 4, none⟩ = some (.string a)) (first | exact ⟨cell_later hbb c2, cell_later hbb c4⟩ | go_keep)
     (first
      | (go_at_call 104; refine (number_any W.heap.size t 2 _ _ _ (by exact hown2) (by exact hbb.size) (by decide) (by decide) (by simp [numBytes_length, nameBytes]; omega)).mono ?_; rintro e w3 ⟨v3, rfl, hown3, hb3⟩; have hbb := hbb.trans (Below.trans (by repeat (first | exact Below.refl _ _ | assumption | (refine Below.drew ?_) | (refine below_drewN ?_ _) | (refine Below.alloc ?_ (by simp; done) _) | (refine Below.alloc ?_ (by simp; omega) _))) hb3))
      | (go_at_call 103; refine (name_any W.heap.size _ _ a _ hown3 (by exact hbb.size) (by simp [numBytes_length, nameBytes]; omega) (by omega)).mono ?_; rintro e w4 ⟨v4, rfl, hown4, hb4⟩; have hbb := hbb.trans hb4))
    have e0 := cell_later hbb c0
    have e6 := cell_later hbb c6
    go_wp2_with (go_at_call 104; refine (number_any W.heap.size s 4 _ _ _ hown4 (by exact hbb.size) (by decide) (by decide) (by simp [numBytes_length, nameBytes]; omega)).mono ?_; rintro e w5 ⟨v5, rfl, hown5, hb5⟩; have E5 := hown5.convert)
    go_ret
    have hK : k = 3 := by simpa using hk3
    exact ⟨by simp [DD.bytes, hK], hbW.trans ((hbb.trans hb5).mono (by rw [Hz.out]; omega))⟩
  · go_wp2_with (first
     | (at_builtin; refine app_bytes rfl _ _ rfl _ _ rfl (hown2.alloc _) ⟨w2.heap.size, 0, none⟩ 1 1 [1] rfl rfl ?c1 ?c2 ?c3 ?_; (case c1 => exact new_bytes _ _ (by rfl) _); (case c2 => simp [numBytes_length, nameBytes]; omega); (case c3 => have := hbb.size; simp; omega); intro v3 w3 hown3 hgrow3; have E3 := hown3.convert; have hbb : Below W.heap.size W w3 := (hbb.alloc hbb.size _).grown hgrow3 (by have := hbb.size; simp; omega) (fun k hk => (hown2.lt k hk).1); have e0 := cell_later hbb c0)
     | (at_builtin; refine app_bytes rfl _ _ rfl _ _ rfl (hown2.alloc _) ⟨w2.heap.size, 0, none⟩ 1 1 [0] rfl rfl ?c1 ?c2 ?c3 ?_; (case c1 => exact new_bytes _ _ (by rfl) _); (case c2 => simp [numBytes_length, nameBytes]; omega); (case c3 => have := hbb.size; simp; omega); intro v3 w3 hown3 hgrow3; have E3 := hown3.convert; have hbb : Below W.heap.size W w3 := (hbb.alloc hbb.size _).grown hgrow3 (by have := hbb.size; simp; omega) (fun k hk => (hown2.lt k hk).1); have e0 := cell_later hbb c0))
    all_goals
     go_ret
     have hK : k = 2 := by simpa using hk2
     have hi : is = true ∨ is = false := by cases is <;> simp
     exact ⟨by simp [DD.bytes, *], hbW.trans (hbb.mono (by rw [Hz.out]; omega))⟩
  · go_wp2_with (first
     | (at_builtin; refine app_bytes rfl _ _ rfl _ _ rfl (hown2.alloc _) ⟨w2.heap.size, 0, none⟩ 1 1 [1] rfl rfl ?c1 ?c2 ?c3 ?_; (case c1 => exact new_bytes _ _ (by rfl) _); (case c2 => simp [numBytes_length, nameBytes]; omega); (case c3 => have := hbb.size; simp; omega); intro v3 w3 hown3 hgrow3; have hbb : Below W.heap.size W w3 := (hbb.alloc hbb.size _).grown hgrow3 (by have := hbb.size; simp; omega) (fun k hk => (hown2.lt k hk).1); have e0 := cell_later hbb c0; have e6 := cell_later hbb c6)
     | (at_builtin; refine app_bytes rfl _ _ rfl _ _ rfl (hown2.alloc _) ⟨w2.heap.size, 0, none⟩ 1 1 [0] rfl rfl ?c1 ?c2 ?c3 ?_; (case c1 => exact new_bytes _ _ (by rfl) _); (case c2 => simp [numBytes_length, nameBytes]; omega); (case c3 => have := hbb.size; simp; omega); intro v3 w3 hown3 hgrow3; have hbb : Below W.heap.size W w3 := (hbb.alloc hbb.size _).grown hgrow3 (by have := hbb.size; simp; omega) (fun k hk => (hown2.lt k hk).1); have e0 := cell_later hbb c0; have e6 := cell_later hbb c6)
     | (go_at_call 104; refine (number_any W.heap.size s 4 _ _ _ hown3 (by exact hbb.size) (by decide) (by decide) (by simp [numBytes_length, nameBytes]; omega)).mono ?_; rintro e w5 ⟨v5, rfl, hown5, hb5⟩; have E5 := hown5.convert))
    all_goals
     go_ret
     have hK : k ≠ 2 := by simpa using hk2
     have hK3 : k ≠ 3 := by simpa using hk3
     exact ⟨by simp [DD.bytes, *], hbW.trans ((hbb.trans hb5).mono (by rw [Hz.out]; omega))⟩
end Go.Proofs.YtolilbcpfdnkjaaGreat
