/- image: the writer's number and entry. -/
import Derived.Test.YtolilbcpfdnkjaaTKIM1
import Derived.Test.YtolilbcpfdnkjaaTKT1
import Derived.Test.YtolilbcpfdnkjaaTKM2
namespace Go.Proofs.Ytolilbcpfdnkjaa
open Go.RowKit
set_option linter.unusedSimpArgs false
set_option linter.unusedVariables false
/-- A number's bytes, so many of them, the first one the greatest. -/
def beB (n : Nat) : Nat → List UInt8
  | 0 => []
  | k + 1 => UInt8.ofNat (n / 256 ^ k % 256) :: beB n k
theorem beB_len (n k : Nat) : (beB n k).length = k := by induction k with
  | zero => rfl
  | succ k ih => rw [beB, List.length_cons, ih]
theorem beB_get (n k j : Nat) (h : j < k) : (beB n k)[j]? = some (UInt8.ofNat (n / 256 ^ (k - 1 - j) % 256)) := by
  induction k generalizing j with
  | zero => omega
  | succ k ih =>
    rw [beB]
    cases j with
    | zero => simp
    | succ j =>
      rw [List.getElem?_cons_succ, ih j (by omega)]
      congr 5
      omega
theorem shr_u64 (n i : Nat) : IntKind.u8.wrap ((n : Int) / 2 ^ (8 * (i : Int)).toNat) = ((UInt8.ofNat (n / 256 ^ i % 256)).toNat : Int) := by
  have h := shr_byte n i
  simp only [Value.int.injEq, true_and] at h
  rw [← h, show (8 * (i : Int)).toNat = 8 * i from by omega]
  rfl
def NumT (w : World) (g : Nat) (v : Value) (l : List UInt8) (n k : Nat) (iv : Value) (wr : World) : Prop :=
  ∃ (j : Nat) (v' : Value), j ≤ k ∧ iv = .int .i64 (8 * ((k : Int) - 1) - 8 * j) ∧ WrAt wr g v' (l ++ (beB n k).take j) ∧ WStep g w v wr v'
set_option maxRecDepth 100000 in
set_option maxHeartbeats 2000000 in
theorem wnumber_any {w : World} {g : Nat} {v : Value} {l : List UInt8} (n k : Nat) (h : WrAt w g v l) (hl : l.length ≤ 90000000) (hn : n < 18446744073709551616) (hk : k ≤ 8) :
    Calls Try.prog 53 #[.pointer (some ⟨g, 0, none⟩), .int .u64 n, .int .i64 k] w fun e w' => ∃ v', e = .returned (.tuple #[]) ∧ WrAt w' g v' (l ++ beB n k) ∧ WStep g w v w' v' := by
  have H := Lib.hid h
  clear h
  go_enter Try.func53, Try.ntmps53
  go_wp2_with fail
  go_loopw [6] (fun iv wr => NumT w g v l n k iv wr) (fun iv _ => (intOf iv + 8).toNat)
  case atStart => exact ⟨0, v, Nat.zero_le _, by simp, by simpa using H.out, WStep.refl _ _ _⟩
  case round =>
    obtain ⟨j, vr, hj, rfl, hw, hb⟩ := hrel
    have HW := Lib.hid hw
    have HB := Lib.hid hb
    clear hw hb
    by_cases hjk : j < k
    · have h0 : (0 : Int) ≤ 8 * ((k : Int) - 1) - 8 * j := by omega
      obtain ⟨i, hi⟩ : ∃ i, k - 1 - j = i := ⟨_, rfl⟩
      have ei : 8 * ((k : Int) - 1) - 8 * j = ((8 * i : Nat) : Int) := by omega
      rw [ei] at h0 ⊢
      go_wp2_with fail
      refine wp_region_held_drew (S := fun w' => True) (by kernel_rfl) trivial (fun hHeld => ?_)
      refine take_on 0 14 (v := ?tv1) rfl rfl (by kernel_rfl) (by kernel_rfl) (by kernel_rfl) (fun _ _ _ h => h) (by rfl) ?ty1 (by assumption) ?tr1
      case ty1 => (intro w hSw; (try dsimp only at hSw); go_simp; (try with_reducible rfl))
      try simp only [Act.put, List.setIfInBounds_toArray, List.set_cons_zero, List.set_cons_succ]
      refine take_on 1 15 (v := ?tv2) rfl rfl (by kernel_rfl) (by kernel_rfl) (by kernel_rfl) (fun _ _ _ h => h) (by rfl) ?ty2 (by assumption) ?tr2
      case ty2 => (intro w hSw; (try dsimp only at hSw); go_simp; (try with_reducible rfl))
      try simp only [Act.put, List.setIfInBounds_toArray, List.set_cons_zero, List.set_cons_succ]
      refine take_on 2 16 (v := ?tv3) rfl rfl (by kernel_rfl) (by kernel_rfl) (by kernel_rfl) (fun _ _ _ h => h) (by rfl) ?ty3 (by assumption) ?tr3
      case ty3 => (intro w hSw; (try dsimp only at hSw); go_simp; (try with_reducible rfl))
      try simp only [Act.put, List.setIfInBounds_toArray, List.set_cons_zero, List.set_cons_succ]
      refine take_on 3 17 (v := ?tv4) rfl rfl (by kernel_rfl) (by kernel_rfl) (by kernel_rfl) (fun _ _ _ h => h) (by rfl) ?ty4 (by assumption) ?tr4
      case ty4 => (intro w hSw; (try dsimp only at hSw); go_simp; (try with_reducible rfl))
      try simp only [Act.put, List.setIfInBounds_toArray, List.set_cons_zero, List.set_cons_succ]
      refine take_on 4 18 (v := ?tv5) rfl rfl (by kernel_rfl) (by kernel_rfl) (by kernel_rfl) (fun _ _ _ h => h) (by rfl) ?ty5 (by assumption) ?tr5
      case ty5 => (intro w hSw; (try dsimp only at hSw); go_simp; (try with_reducible rfl))
      try simp only [Act.put, List.setIfInBounds_toArray, List.set_cons_zero, List.set_cons_succ]
      refine take_on 5 19 (v := ?tv6) rfl rfl (by kernel_rfl) (by kernel_rfl) (by kernel_rfl) (fun _ _ _ h => h) (by rfl) ?ty6 (by assumption) ?tr6
      case ty6 => (intro w hSw; (try dsimp only at hSw); go_simp; (try with_reducible rfl))
      try simp only [Act.put, List.setIfInBounds_toArray, List.set_cons_zero, List.set_cons_succ]
      refine take_on 6 20 (v := ?tv7) rfl rfl (by kernel_rfl) (by kernel_rfl) (by kernel_rfl) (fun _ _ _ h => h) (by rfl) ?ty7 (by assumption) ?tr7
      case ty7 => (intro w hSw; (try dsimp only at hSw); go_simp; (try with_reducible rfl))
      try simp only [Act.put, List.setIfInBounds_toArray, List.set_cons_zero, List.set_cons_succ]
      obtain ⟨c, hc⟩ : ∃ c, UInt8.ofNat (n / 256 ^ i % 256) = c := ⟨_, rfl⟩
      rw [shr_u64 n i, hc]
      have HC := Lib.hid hc
      clear hc
      refine wpAnyH_ready (rs := [7]) (by kernel_rfl) (by simp) ?_
      refine AllReadyH.cons rfl (fun K hK => ?_) AllReadyH.nil
      go_simp
      refine (wbyte_any c (HW.out.below (Below.refl _ wr).drew) (by rw [List.length_append, List.length_take, beB_len]; omega)).mono ?_
      rintro e w2 ⟨v2, rfl, hw2, hb2⟩
      have HW2 := Lib.hid hw2
      have HB2 := Lib.hid (HB.out.trans (hb2.behind (Below.refl _ wr).drew))
      clear hw2 hb2
      simp only []
      refine hK.out _ _ trivial (fun hHeld => ?_)
      clear hK K
      try simp only [Act.put, List.setIfInBounds_toArray, List.set_cons_zero, List.set_cons_succ]
      refine wpAnyH_done (by kernel_rfl) ?_ _
      go_wp2_with fail
      refine ⟨⟨j + 1, v2, hjk, ?_, ?_, HB2.out⟩, ?_⟩
      · congr 1; push_cast; omega
      · have e : (beB n k).take (j + 1) = (beB n k).take j ++ [c] := by
          rw [List.take_add_one, beB_get n k j hjk, hi, HC.out]; rfl
        rw [e, ← List.append_assoc]
        exact HW2.out
      · simp [intOf]; omega
    · have ej : j = k := by omega
      subst ej
      have h0 : ¬ (0 : Int) ≤ 8 * ((j : Int) - 1) - 8 * j := by omega
      go_wp2_with fail
      go_end0
      exact ⟨rfl, vr, by have := HW.out; rw [List.take_of_length_le (by rw [beB_len]; exact Nat.le_refl _)] at this; exact this, HB.out⟩
/-- An entry's bytes. -/
def entB (e : Ent) : List UInt8 := beB e.name.size 1 ++ e.name.data.toList ++ beB e.node.toNat 2 ++ beB (if e.dir then 1 else 0) 1 ++ beB e.cookie.toNat 8 ++ beB e.short.toNat 4
theorem entB_len (e : Ent) : (entB e).length = e.name.size + 16 := by
  unfold entB
  simp only [List.length_append, beB_len, Array.length_toList]
  show 1 + e.name.size + 2 + 1 + 8 + 4 = _
  omega
/-- What an entry's numbers are in an image. -/
def EntOk (e : Ent) : Prop := e.name.size ≤ 255 ∧ 0 ≤ e.node ∧ e.node ≤ 9223372036854775807 ∧ 0 ≤ e.cookie ∧ e.cookie ≤ 9223372036854775807 ∧ 0 ≤ e.short ∧ e.short ≤ 9223372036854775807
theorem wrap_u64 (n : Int) (h : 0 ≤ n) (h2 : n ≤ 9223372036854775807) : IntKind.u64.wrap n = (n.toNat : Int) := by
  show n % 18446744073709551616 = _
  omega
set_option maxRecDepth 100000 in
set_option maxHeartbeats 2000000 in
theorem wentry_nat {w : World} {g : Nat} {v : Value} {l : List UInt8} (nm : ByteArray) (nd : Nat) (dr : Bool) (ck sh : Nat) (h : WrAt w g v l) (hl : l.length ≤ 80000000) (h1 : nm.size ≤ 255) (h3 : nd ≤ 9223372036854775807) (h5 : ck ≤ 9223372036854775807) (h7 : sh ≤ 9223372036854775807) :
    Calls Try.prog 54 #[.pointer (some ⟨g, 0, none⟩), .agg #[.string nm, .int .i64 nd, .bool dr, .int .i64 ck, .int .i64 sh]] w fun r w' => ∃ v', r = .returned (.tuple #[]) ∧ WrAt w' g v' (l ++ beB nm.size 1 ++ nm.data.toList ++ beB nd 2 ++ beB (if dr then 1 else 0) 1 ++ beB ck 8 ++ beB sh 4) ∧ WStep g w v w' v' := by
  have hb0 : Below w.heap.size w (w.alloc (.cells #[.string nm, .int .i64 nd, .bool dr, .int .i64 ck, .int .i64 sh] 40)) := (Below.refl _ w).alloc (Nat.le_refl _) _
  have hx := m_alloc w (.cells #[.string nm, .int .i64 nd, .bool dr, .int .i64 ck, .int .i64 sh] 40) w.heap.size rfl
  have HW0 := Lib.hid (h.below hb0)
  have hgl := h.lt
  have HVL := Lib.hid (fun k q => (h.vlt (k := k) q).2)
  have HB0 := Lib.hid hb0
  have e1 := wrap_u64 (nd : Int) (by omega) (by omega)
  have e2 := wrap_u64 (ck : Int) (by omega) (by omega)
  have e3 := wrap_u64 (sh : Int) (by omega) (by omega)
  rw [Int.toNat_natCast] at e1 e2 e3
  go_enter Try.func54, Try.ntmps54
  go_wp2_with fail
  obtain ⟨E, hE⟩ : ∃ E, w.heap.size = E := ⟨_, rfl⟩
  have HE := Lib.hid hE
  rw [hE] at hx ⊢
  generalize (w.alloc (.cells #[.string nm, .int .i64 nd, .bool dr, .int .i64 ck, .int .i64 sh] 40)) = w0 at *
  have HX := Lib.hid (show ∀ w' v', WStep g w0 v w' v' → (w'.cell? ⟨E, 0, none⟩ = some (.string nm) ∧ w'.cell? ⟨E, 1, none⟩ = some (.int .i64 nd) ∧ w'.cell? ⟨E, 2, none⟩ = some (.bool dr) ∧ w'.cell? ⟨E, 3, none⟩ = some (.int .i64 ck) ∧ w'.cell? ⟨E, 4, none⟩ = some (.int .i64 sh)) from fun w' v' k => by
    have hc := (k.1.block E (m_lt hx) (fun q => q.elim (fun z => by omega) (fun z => by have := HVL.out E z; omega))).trans hx
    exact ⟨(m_cells hc).1 0, (m_cells hc).1 1, (m_cells hc).1 2, (m_cells hc).1 3, (m_cells hc).1 4⟩)
  clear h hb0 hx hE
  refine (wnumber_any nm.size 1 HW0.out (by omega) (by omega) (by omega)).mono ?_
  rintro r w1 ⟨v1, rfl, hw1, hs1⟩
  have HW1 := Lib.hid hw1
  have HS1 := Lib.hid (hs1)
  obtain ⟨c0, c1, c2, c3, c4⟩ := HX.out w1 v1 HS1.out
  clear hw1 hs1
  go_wp2_with fail
  refine wp_region_held_drew (S := fun w' => w'.cell? ⟨E, 0, none⟩ = some (.string nm)) (by kernel_rfl) (show w1.drew.cell? ⟨E, 0, none⟩ = some (.string nm) from c0) (fun hHeld => ?_)
  refine take_on 0 11 (v := ?tv8) rfl rfl (by kernel_rfl) (by kernel_rfl) (by kernel_rfl) (fun _ _ _ h => h) (by rfl) ?ty8 (by assumption) ?tr8
  case ty8 => (intro w hSw; (try dsimp only at hSw); go_simp; (try with_reducible rfl))
  try simp only [Act.put, List.setIfInBounds_toArray, List.set_cons_zero, List.set_cons_succ]
  refine take_on 1 12 (v := ?tv9) rfl rfl (by kernel_rfl) (by kernel_rfl) (by kernel_rfl) (fun _ _ _ h => h) (by rfl) ?ty9 (by assumption) ?tr9
  case ty9 => (intro w hSw; (try dsimp only at hSw); go_simp; (try with_reducible rfl))
  try simp only [Act.put, List.setIfInBounds_toArray, List.set_cons_zero, List.set_cons_succ]
  refine take_on 2 13 (v := ?tv10) rfl rfl (by kernel_rfl) (by kernel_rfl) (by kernel_rfl) (fun _ _ _ h => h) (by rfl) ?ty10 (by assumption) ?tr10
  case ty10 => (intro w hSw; (try dsimp only at hSw); go_simp; (try with_reducible rfl))
  try simp only [Act.put, List.setIfInBounds_toArray, List.set_cons_zero, List.set_cons_succ]
  refine take_on 3 14 (v := ?tv11) rfl rfl (by kernel_rfl) (by kernel_rfl) (by kernel_rfl) (fun _ _ _ h => h) (by rfl) ?ty11 (by assumption) ?tr11
  case ty11 => (intro w hSw; (try dsimp only at hSw); go_simp; (try with_reducible rfl))
  try simp only [Act.put, List.setIfInBounds_toArray, List.set_cons_zero, List.set_cons_succ]
  refine take_on 4 15 (v := ?tv12) rfl rfl (by kernel_rfl) (by kernel_rfl) (by kernel_rfl) (fun _ _ _ h => h) (by rfl) ?ty12 (by assumption) ?tr12
  case ty12 => (intro w hSw; (try dsimp only at hSw); go_simp; (try with_reducible rfl))
  try simp only [Act.put, List.setIfInBounds_toArray, List.set_cons_zero, List.set_cons_succ]
  refine wpAnyH_ready (rs := [5]) (by kernel_rfl) (by simp) ?_
  refine AllReadyH.cons rfl (fun K hK => ?_) AllReadyH.nil
  go_simp
  refine (wstr_any nm (HW1.out.below (Below.refl _ w1).drew) (by simp only [List.length_append, beB_len, Array.length_toList]; have : nm.data.size = nm.size := rfl; omega) (by omega)).mono ?_
  rintro r w2 ⟨v2, nn, rfl, hw2, hs2⟩
  have HW2 := Lib.hid hw2
  have HS2 := Lib.hid (HS1.out.trans (hs2.behind (Below.refl _ w1).drew))
  clear c0 c1 c2 c3 c4
  obtain ⟨c0, c1, c2, c3, c4⟩ := HX.out w2 v2 HS2.out
  clear hw2 hs2
  simp only []
  refine hK.out _ _ c0 (fun hHeld => ?_)
  clear hK K hHeld
  try simp only [Act.put, List.setIfInBounds_toArray, List.set_cons_zero, List.set_cons_succ]
  refine wpAnyH_done (by kernel_rfl) ?_ _
  go_wp2_with fail
  refine (wnumber_any nd 2 HW2.out (by simp only [List.length_append, beB_len, Array.length_toList]; have : nm.data.size = nm.size := rfl; omega) (by omega) (by omega)).mono ?_
  rintro r w3 ⟨v3, rfl, hw3, hs3⟩
  have HW3 := Lib.hid hw3
  have HS3 := Lib.hid (HS2.out.trans hs3)
  clear c0 c1 c2 c3 c4
  obtain ⟨c0, c1, c2, c3, c4⟩ := HX.out w3 v3 HS3.out
  clear hw3 hs3
  cases dr
  · go_wp2_with fail
    refine (wnumber_any 0 1 HW3.out (by simp only [List.length_append, beB_len, Array.length_toList]; have : nm.data.size = nm.size := rfl; omega) (by omega) (by omega)).mono ?_
    rintro r w4 ⟨v4, rfl, hw4, hs4⟩
    have HW4 := Lib.hid hw4
    have HS4 := Lib.hid (HS3.out.trans hs4)
    clear c0 c1 c2 c3 c4
    obtain ⟨c0, c1, c2, c3, c4⟩ := HX.out w4 v4 HS4.out
    clear hw4 hs4
    go_wp2_with fail
    refine (wnumber_any ck 8 HW4.out (by simp only [List.length_append, beB_len, Array.length_toList]; have : nm.data.size = nm.size := rfl; omega) (by omega) (by omega)).mono ?_
    rintro r w5 ⟨v5, rfl, hw5, hs5⟩
    have HW5 := Lib.hid hw5
    have HS5 := Lib.hid (HS4.out.trans hs5)
    clear c0 c1 c2 c3 c4
    obtain ⟨c0, c1, c2, c3, c4⟩ := HX.out w5 v5 HS5.out
    clear hw5 hs5
    go_wp2_with fail
    refine (wnumber_any sh 4 HW5.out (by simp only [List.length_append, beB_len, Array.length_toList]; have : nm.data.size = nm.size := rfl; omega) (by omega) (by omega)).mono ?_
    rintro r w6 ⟨v6, rfl, hw6, hs6⟩
    have HW6 := Lib.hid hw6
    have HS6 := Lib.hid (HS5.out.trans hs6)
    clear c0 c1 c2 c3 c4
    obtain ⟨c0, c1, c2, c3, c4⟩ := HX.out w6 v6 HS6.out
    clear hw6 hs6
    go_wp2_with fail
    go_end0
    exact ⟨rfl, v6, by simpa using HW6.out, WStep.behind HB0.out HS6.out⟩
  · go_wp2_with fail
    refine (wnumber_any 1 1 HW3.out (by simp only [List.length_append, beB_len, Array.length_toList]; have : nm.data.size = nm.size := rfl; omega) (by omega) (by omega)).mono ?_
    rintro r w4 ⟨v4, rfl, hw4, hs4⟩
    have HW4 := Lib.hid hw4
    have HS4 := Lib.hid (HS3.out.trans hs4)
    clear c0 c1 c2 c3 c4
    obtain ⟨c0, c1, c2, c3, c4⟩ := HX.out w4 v4 HS4.out
    clear hw4 hs4
    go_wp2_with fail
    refine (wnumber_any ck 8 HW4.out (by simp only [List.length_append, beB_len, Array.length_toList]; have : nm.data.size = nm.size := rfl; omega) (by omega) (by omega)).mono ?_
    rintro r w5 ⟨v5, rfl, hw5, hs5⟩
    have HW5 := Lib.hid hw5
    have HS5 := Lib.hid (HS4.out.trans hs5)
    clear c0 c1 c2 c3 c4
    obtain ⟨c0, c1, c2, c3, c4⟩ := HX.out w5 v5 HS5.out
    clear hw5 hs5
    go_wp2_with fail
    refine (wnumber_any sh 4 HW5.out (by simp only [List.length_append, beB_len, Array.length_toList]; have : nm.data.size = nm.size := rfl; omega) (by omega) (by omega)).mono ?_
    rintro r w6 ⟨v6, rfl, hw6, hs6⟩
    have HW6 := Lib.hid hw6
    have HS6 := Lib.hid (HS5.out.trans hs6)
    clear c0 c1 c2 c3 c4
    obtain ⟨c0, c1, c2, c3, c4⟩ := HX.out w6 v6 HS6.out
    clear hw6 hs6
    go_wp2_with fail
    go_end0
    exact ⟨rfl, v6, by simpa using HW6.out, WStep.behind HB0.out HS6.out⟩
theorem wentry_any {w : World} {g : Nat} {v : Value} {l : List UInt8} (e : Ent) (h : WrAt w g v l) (hl : l.length ≤ 80000000) (he : EntOk e) :
    Calls Try.prog 54 #[.pointer (some ⟨g, 0, none⟩), .agg #[.string e.name, .int .i64 e.node, .bool e.dir, .int .i64 e.cookie, .int .i64 e.short]] w fun r w' => ∃ v', r = .returned (.tuple #[]) ∧ WrAt w' g v' (l ++ entB e) ∧ WStep g w v w' v' := by
  obtain ⟨nm, nd, dr, ck, sh⟩ := e
  obtain ⟨h1, h2, h3, h4, h5, h6, h7⟩ := he
  dsimp only at h1 h2 h3 h4 h5 h6 h7
  obtain ⟨n1, rfl⟩ : ∃ n : Nat, nd = n := ⟨nd.toNat, by omega⟩
  obtain ⟨n2, rfl⟩ : ∃ n : Nat, ck = n := ⟨ck.toNat, by omega⟩
  obtain ⟨n3, rfl⟩ : ∃ n : Nat, sh = n := ⟨sh.toNat, by omega⟩
  refine (wentry_nat nm n1 dr n2 n3 h hl h1 (by omega) (by omega) (by omega)).mono ?_
  rintro r w' ⟨v', h8, h9, h10⟩
  refine ⟨v', h8, ?_, h10⟩
  unfold entB
  simp only [Int.toNat_natCast]
  simpa [List.append_assoc] using h9
end Go.Proofs.Ytolilbcpfdnkjaa
