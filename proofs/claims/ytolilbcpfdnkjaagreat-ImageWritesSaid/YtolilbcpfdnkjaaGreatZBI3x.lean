/- ids: New. -/
import Derived.Test.YtolilbcpfdnkjaaGreatZBI2x
namespace Go.Proofs.YtolilbcpfdnkjaaGreat
open Go.RowKit
set_option linter.unusedSimpArgs false
def NewRel (w : World) (g b m : Nat) (l : List Int) (iv : Value) (wr : World) : Prop :=
  ∃ (k : Nat) (L : List (Int × Int)), iv = .int .i64 k ∧ k ≤ l.length ∧ PAt wr g (.slice none 0 0) b ⟨m, 1, [], L⟩ ∧ (∀ q ∈ L, q.2 = 1) ∧ (∀ x, x ∈ mkeys L ↔ x ∈ l.take k ∧ 1 ≤ x ∧ x ≤ m) ∧ Below w.heap.size w wr
def NewPost (w : World) (m : Nat) (l : List Int) (e : Ending) (w' : World) : Prop :=
  ∃ (g b : Nat) (p : PD), e = .returned (.pointer (some ⟨g, 0, none⟩)) ∧ PAt w' g (.slice none 0 0) b p ∧ PInv p ∧ p.most = m ∧ (∀ x, x ∈ mkeys p.out ↔ x ∈ l ∧ 1 ≤ x ∧ x ≤ m) ∧ w.heap.size ≤ g ∧ w.heap.size ≤ b ∧ Below w.heap.size w w'
theorem PInv.made {m : Nat} {L : List (Int × Int)} (hm : m ≤ 200) (h1 : ∀ q ∈ L, q.2 = 1) (h2 : ∀ x ∈ mkeys L, 1 ≤ x ∧ x ≤ (m : Int)) (hn : (mkeys L).Nodup) : PInv ⟨m, 1, [], L⟩ :=
  ⟨hm, h1, h2, hn, fun k => ⟨fun q => by simp at q, fun q => by simp at q⟩, by simp, Nat.le_refl _, by show 1 ≤ m + 1; omega, fun x hx => by simp at hx, fun j q1 q2 => by have : j < 1 := q2; omega⟩
theorem take_succ_mem (l : List Int) (k : Nat) (h : k < l.length) (x : Int) : x ∈ l.take (k + 1) ↔ x ∈ l.take k ∨ x = l.getD k 0 := by
  rw [List.take_succ_eq_append_getElem h, List.mem_append, List.mem_singleton, List.getD_eq_getElem?_getD, List.getElem?_eq_getElem h, Option.getD_some]
set_option maxHeartbeats 2000000 in
theorem new_any (most : Int) (tv : Value) (l : List Int) (w : World) (h : ArgI w tv l) (hl : l.length ≤ 400000) :
    Calls Tryz.prog 34 #[.int .i64 most, tv] w (NewPost w (min (max most 0) 200).toNat l) := by
  obtain ⟨m, hm⟩ : ∃ m : Nat, (min (max most 0) 200) = (m : Int) := ⟨(min (max most 0) 200).toNat, by omega⟩
  have hm2 : m ≤ 200 := by omega
  rw [hm, Int.toNat_natCast]
  have hcase : (most < 0 ∧ m = 0) ∨ (200 < most ∧ m = 200) ∨ most = (m : Int) := by omega
  clear hm
  have hmm := @run_makeMap Tryz.prog
  have Harg := Lib.hid h
  by_cases hl0 : l = []
  · subst hl0
    obtain ⟨a0, cap0, rfl, _⟩ := h
    rcases hcase with ⟨q1, rfl⟩ | ⟨q1, rfl⟩ | rfl
    all_goals
      go_enter Tryz.func34, Tryz.ntmps34
      go_wp2
      go_loopw [7, 16] (fun _ iv wr => NewRel w (w.heap.size + 1) w.heap.size _ [] iv wr) (fun _ iv _ => 0)
      case atStart => exact ⟨0, [], rfl, Nat.zero_le _, ⟨m_alloc _ _ _ (by simp), World.ownsRow_nil _ _ _ _, (IMap.new w).blk (Below.heap_alloc _ _ _ (by simp)), by simp [Value.ownBlock], by show w.heap.size ≠ w.heap.size + 1; omega, by simp [Value.ownBlock]⟩, by simp, fun x => by simp [mkeys], ((Below.refl _ _).alloc (Nat.le_refl _) _).alloc (by simp) _⟩
      case round =>
        obtain ⟨k, L, rfl, hk, hat, h1, h2, hb⟩ := hrel
        have hk0 : k = 0 := by simpa using hk
        subst hk0
        go_wp2
        go_ret
        exact ⟨_, _, _, rfl, hat, PInv.made hm2 h1 (fun x hx => ((h2 x).1 hx).2) hat.mp.nodup, rfl, fun x => by rw [h2 x, List.take_of_length_le (by omega)], by omega, Nat.le_refl _, hb⟩
  · obtain ⟨B, off, cap, rfl, hcell⟩ := h.cells hl0
    have Hcell := Lib.hid hcell
    clear hcell h
    rcases hcase with ⟨q1, rfl⟩ | ⟨q1, rfl⟩ | rfl
    · go_enter Tryz.func34, Tryz.ntmps34
      go_wp2
      go_loopw [7, 16] (fun _ iv wr => NewRel w (w.heap.size + 1) w.heap.size 0 l iv wr) (fun _ iv _ => l.length - (intOf iv).toNat)
      case atStart => exact ⟨0, [], rfl, Nat.zero_le _, ⟨m_alloc _ _ _ (by simp), World.ownsRow_nil _ _ _ _, (IMap.new w).blk (Below.heap_alloc _ _ _ (by simp)), by simp [Value.ownBlock], by show w.heap.size ≠ w.heap.size + 1; omega, by simp [Value.ownBlock]⟩, by simp, fun x => by simp [mkeys], ((Below.refl _ _).alloc (Nat.le_refl _) _).alloc (by simp) _⟩
      case round =>
        obtain ⟨k, L, rfl, hk, hat, h1, h2, hb⟩ := hrel
        have hbs := hb.size
        by_cases hlt : k < l.length
        · have hc := Hcell.out k hlt
          have hc' : wr.cell? ⟨B, off + k, none⟩ = some (.int .i64 (l.getD k 0)) := cell_later hb hc
          have hsucc := take_succ_mem l k hlt
          have Hsucc := Lib.hid hsucc
          have c0 : wr.cell? ⟨w.heap.size + 1, 0, none⟩ = some (.int .i64 (0 : Nat)) := (m_cells hat.blk).1 0
          have c3 : wr.cell? ⟨w.heap.size + 1, 3, none⟩ = some (.map (some w.heap.size)) := (m_cells hat.blk).1 3
          have H2 := Lib.hid h2
          clear hsucc hc h2
          generalize l.getD k 0 = x at *
          by_cases hx1 : 1 ≤ x
          · by_cases hx2 : x ≤ (0 : Nat)
            · exact absurd hx1 (by omega)
            · go_wp2
              refine ⟨⟨k + 1, L, by go_num, hlt, hat, h1, fun y => ?_, hb⟩, by simp [intOf]; omega⟩
              rw [H2.out y, Hsucc.out y]
              exact ⟨fun q => ⟨Or.inl q.1, q.2⟩, fun q => q.1.elim (fun q1 => ⟨q1, q.2⟩) (fun q1 => by subst q1; exact absurd q.2.2 (by simpa using hx2))⟩
          · go_wp2
            refine ⟨⟨k + 1, L, by go_num, hlt, hat, h1, fun y => ?_, hb⟩, by simp [intOf]; omega⟩
            rw [H2.out y, Hsucc.out y]
            exact ⟨fun q => ⟨Or.inl q.1, q.2⟩, fun q => q.1.elim (fun q1 => ⟨q1, q.2⟩) (fun q1 => by subst q1; exact absurd q.2.1 (by simpa using hx1))⟩
        · have H2 := Lib.hid h2
          clear h2
          go_wp2
          go_ret
          exact ⟨_, _, _, rfl, hat, PInv.made hm2 h1 (fun x hx => ((H2.out x).1 hx).2) hat.mp.nodup, rfl, fun x => by rw [H2.out x, List.take_of_length_le (by omega)], by omega, Nat.le_refl _, hb⟩
    · go_enter Tryz.func34, Tryz.ntmps34
      go_wp2
      go_loopw [7, 16] (fun _ iv wr => NewRel w (w.heap.size + 1) w.heap.size 200 l iv wr) (fun _ iv _ => l.length - (intOf iv).toNat)
      case atStart => exact ⟨0, [], rfl, Nat.zero_le _, ⟨m_alloc _ _ _ (by simp), World.ownsRow_nil _ _ _ _, (IMap.new w).blk (Below.heap_alloc _ _ _ (by simp)), by simp [Value.ownBlock], by show w.heap.size ≠ w.heap.size + 1; omega, by simp [Value.ownBlock]⟩, by simp, fun x => by simp [mkeys], ((Below.refl _ _).alloc (Nat.le_refl _) _).alloc (by simp) _⟩
      case round =>
        obtain ⟨k, L, rfl, hk, hat, h1, h2, hb⟩ := hrel
        have hbs := hb.size
        by_cases hlt : k < l.length
        · have hc := Hcell.out k hlt
          have hc' : wr.cell? ⟨B, off + k, none⟩ = some (.int .i64 (l.getD k 0)) := cell_later hb hc
          have hsucc := take_succ_mem l k hlt
          have Hsucc := Lib.hid hsucc
          have c0 : wr.cell? ⟨w.heap.size + 1, 0, none⟩ = some (.int .i64 (200 : Nat)) := (m_cells hat.blk).1 0
          have c3 : wr.cell? ⟨w.heap.size + 1, 3, none⟩ = some (.map (some w.heap.size)) := (m_cells hat.blk).1 3
          have H2 := Lib.hid h2
          clear hsucc hc h2
          generalize l.getD k 0 = x at *
          by_cases hx1 : 1 ≤ x
          · by_cases hx2 : x ≤ (200 : Nat)
            · go_wp2_with (refine map_put (tk := 3) (te := 3) (enc := Value.int .i64) rfl _ _ _ rfl Tryz.underlying75 Tryz.underlying3 x 1 rfl rfl rfl hat.mp ?_; intro w3 hm3 k3)
              have hm3' : IMap (Value.int .i64) w3 w.heap.size (mput L x 1) := hm3
              refine ⟨⟨k + 1, mput L x 1, by go_num, hlt, hat.map_turned hm3' k3, ones_put h1 x, fun y => ?_, ?_⟩, by simp [intOf]; omega⟩
              · rw [mem_mput, H2.out y, Hsucc.out y]
                exact ⟨fun q => q.elim (fun q => ⟨Or.inl q.1, q.2⟩) (fun q => by subst q; exact ⟨Or.inr rfl, hx1, hx2⟩), fun q => q.1.elim (fun q1 => Or.inl ⟨q1, q.2⟩) (fun q1 => Or.inr q1)⟩
              · exact hb.trans (k3.toBelow (by omega) (fun i hi => by subst hi; exact Nat.le_refl _))
            · go_wp2
              refine ⟨⟨k + 1, L, by go_num, hlt, hat, h1, fun y => ?_, hb⟩, by simp [intOf]; omega⟩
              rw [H2.out y, Hsucc.out y]
              exact ⟨fun q => ⟨Or.inl q.1, q.2⟩, fun q => q.1.elim (fun q1 => ⟨q1, q.2⟩) (fun q1 => by subst q1; exact absurd q.2.2 (by simpa using hx2))⟩
          · go_wp2
            refine ⟨⟨k + 1, L, by go_num, hlt, hat, h1, fun y => ?_, hb⟩, by simp [intOf]; omega⟩
            rw [H2.out y, Hsucc.out y]
            exact ⟨fun q => ⟨Or.inl q.1, q.2⟩, fun q => q.1.elim (fun q1 => ⟨q1, q.2⟩) (fun q1 => by subst q1; exact absurd q.2.1 (by simpa using hx1))⟩
        · have H2 := Lib.hid h2
          clear h2
          go_wp2
          go_ret
          exact ⟨_, _, _, rfl, hat, PInv.made hm2 h1 (fun x hx => ((H2.out x).1 hx).2) hat.mp.nodup, rfl, fun x => by rw [H2.out x, List.take_of_length_le (by omega)], by omega, Nat.le_refl _, hb⟩
    · go_enter Tryz.func34, Tryz.ntmps34
      go_wp2
      go_loopw [7, 16] (fun _ iv wr => NewRel w (w.heap.size + 1) w.heap.size m l iv wr) (fun _ iv _ => l.length - (intOf iv).toNat)
      case atStart => exact ⟨0, [], rfl, Nat.zero_le _, ⟨m_alloc _ _ _ (by simp), World.ownsRow_nil _ _ _ _, (IMap.new w).blk (Below.heap_alloc _ _ _ (by simp)), by simp [Value.ownBlock], by show w.heap.size ≠ w.heap.size + 1; omega, by simp [Value.ownBlock]⟩, by simp, fun x => by simp [mkeys], ((Below.refl _ _).alloc (Nat.le_refl _) _).alloc (by simp) _⟩
      case round =>
        obtain ⟨k, L, rfl, hk, hat, h1, h2, hb⟩ := hrel
        have hbs := hb.size
        by_cases hlt : k < l.length
        · have hc := Hcell.out k hlt
          have hc' : wr.cell? ⟨B, off + k, none⟩ = some (.int .i64 (l.getD k 0)) := cell_later hb hc
          have hsucc := take_succ_mem l k hlt
          have Hsucc := Lib.hid hsucc
          have c0 : wr.cell? ⟨w.heap.size + 1, 0, none⟩ = some (.int .i64 (m : Nat)) := (m_cells hat.blk).1 0
          have c3 : wr.cell? ⟨w.heap.size + 1, 3, none⟩ = some (.map (some w.heap.size)) := (m_cells hat.blk).1 3
          have H2 := Lib.hid h2
          clear hsucc hc h2
          generalize l.getD k 0 = x at *
          by_cases hx1 : 1 ≤ x
          · by_cases hx2 : x ≤ (m : Nat)
            · go_wp2_with (refine map_put (tk := 3) (te := 3) (enc := Value.int .i64) rfl _ _ _ rfl Tryz.underlying75 Tryz.underlying3 x 1 rfl rfl rfl hat.mp ?_; intro w3 hm3 k3)
              have hm3' : IMap (Value.int .i64) w3 w.heap.size (mput L x 1) := hm3
              refine ⟨⟨k + 1, mput L x 1, by go_num, hlt, hat.map_turned hm3' k3, ones_put h1 x, fun y => ?_, ?_⟩, by simp [intOf]; omega⟩
              · rw [mem_mput, H2.out y, Hsucc.out y]
                exact ⟨fun q => q.elim (fun q => ⟨Or.inl q.1, q.2⟩) (fun q => by subst q; exact ⟨Or.inr rfl, hx1, hx2⟩), fun q => q.1.elim (fun q1 => Or.inl ⟨q1, q.2⟩) (fun q1 => Or.inr q1)⟩
              · exact hb.trans (k3.toBelow (by omega) (fun i hi => by subst hi; exact Nat.le_refl _))
            · go_wp2
              refine ⟨⟨k + 1, L, by go_num, hlt, hat, h1, fun y => ?_, hb⟩, by simp [intOf]; omega⟩
              rw [H2.out y, Hsucc.out y]
              exact ⟨fun q => ⟨Or.inl q.1, q.2⟩, fun q => q.1.elim (fun q1 => ⟨q1, q.2⟩) (fun q1 => by subst q1; exact absurd q.2.2 (by simpa using hx2))⟩
          · go_wp2
            refine ⟨⟨k + 1, L, by go_num, hlt, hat, h1, fun y => ?_, hb⟩, by simp [intOf]; omega⟩
            rw [H2.out y, Hsucc.out y]
            exact ⟨fun q => ⟨Or.inl q.1, q.2⟩, fun q => q.1.elim (fun q1 => ⟨q1, q.2⟩) (fun q1 => by subst q1; exact absurd q.2.1 (by simpa using hx1))⟩
        · have H2 := Lib.hid h2
          clear h2
          go_wp2
          go_ret
          exact ⟨_, _, _, rfl, hat, PInv.made hm2 h1 (fun x hx => ((H2.out x).1 hx).2) hat.mp.nodup, rfl, fun x => by rw [H2.out x, List.take_of_length_le (by omega)], by omega, Nat.le_refl _, hb⟩
end Go.Proofs.YtolilbcpfdnkjaaGreat
