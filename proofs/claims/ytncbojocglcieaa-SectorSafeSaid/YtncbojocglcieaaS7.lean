/- SectorSafe. -/
import Derived.Test.YtncbojocglcieaaS6
import Derived.Test.YtncbojocglcieaaRowRk
import Derived.Deep.RegionHeld3
namespace Go.Proofs.Ytncbojocglcieaa
open Go.RowKit
set_option linter.unusedSimpArgs false
set_option linter.unusedVariables false
def EPair : EK (UInt8 × UInt8) := ⟨30, 2, 2, fun p => [.int .u8 p.1.toNat, .int .u8 p.2.toNat], fun _ => rfl, fun _ u hu => by simp at hu; rcases hu with rfl | rfl <;> rfl, by decide⟩
/-- An array of ints in a block. -/
def arr20 (l : List Int) : Obj := .cells (l.map (Value.int .i64)).toArray 27 (0, 0)
theorem arr_cell {w : World} {b : Nat} {l : List Int} (h : w.heap[b]? = some (arr20 l)) (i : Nat) (hi : i < l.length) : w.cell? ⟨b, i, none⟩ = some (.int .i64 (l.getD i 0)) := by
  rw [(m_cells h).1 i]; simp [hi]
theorem arr_set {w : World} {b : Nat} {l : List Int} (h : w.heap[b]? = some (arr20 l)) (i : Nat) (x : Int) : (w.setCell ⟨b, i, none⟩ (.int .i64 x)).heap[b]? = some (arr20 (l.set i x)) := by
  have := m_set h i (.int .i64 x)
  rw [this]; unfold arr20; congr 2; apply Array.ext'; simp [List.map_set]
/-- What is read is what is wanted. -/
def Agrees (s : List (Int × ByteArray)) (W : List Int) : Prop := ∀ k : Nat, k < 20 → (mget s k = none ∧ W.getD k 0 = 0) ∨ ∃ c : UInt8, mget s k = some (fsec c) ∧ W.getD k 0 = c.toNat
theorem Agrees.put {s : List (Int × ByteArray)} {W : List Int} (h : Agrees s W) (hW : W.length = 20) (a : Nat) (c : UInt8) (ha : a < 20) : Agrees (mput s a (fsec c)) (W.set a c.toNat) := by
  intro k hk
  rw [mget_put]
  by_cases e : (k : Int) = a
  · have : k = a := by omega
    subst this
    exact Or.inr ⟨c, by rw [if_pos rfl], by simp [List.getD_eq_getElem?_getD, hW, hk]⟩
  · rw [if_neg e]
    have e2 : a ≠ k := by omega
    rw [show (W.set a (c.toNat : Int)).getD k 0 = W.getD k 0 from by simp [List.getD_eq_getElem?_getD, List.getElem?_set, e2]]
    exact h k hk
theorem zsec_full : zsec = fsec 0 := rfl
theorem keepers_get (kept : List Int) (k : Int) : ∀ (q : List (Int × ByteArray)) (i : Nat) (s : List (Int × ByteArray)), (k ∉ mkeys q → mget (keepers kept i q s) k = mget s k) ∧ (mget (keepers kept i q s) k = mget s k ∨ ∃ p ∈ q, mget (keepers kept i q s) k = some p.2) := by
  intro q
  induction q with
  | nil => intro i s; exact ⟨fun _ => rfl, Or.inl rfl⟩
  | cons p q ih =>
    intro i s
    obtain ⟨h1, h2⟩ := ih (i + 1) (if (i : Int) ∈ kept then mput s p.1 p.2 else s)
    refine ⟨fun hk => ?_, ?_⟩
    · have hp : k ≠ p.1 := fun e => hk (by rw [e]; exact List.mem_cons_self ..)
      rw [keepers, h1 (fun q => hk (List.mem_cons_of_mem _ q))]
      split
      · rw [mget_put, if_neg hp]
      · rfl
    · rw [keepers]
      rcases h2 with e | ⟨p', hp', e⟩
      · rw [e]
        split
        · rw [mget_put]
          by_cases e2 : k = p.1
          · rw [if_pos e2]; exact Or.inr ⟨p, List.mem_cons_self .., rfl⟩
          · rw [if_neg e2]; exact Or.inl rfl
        · exact Or.inl rfl
      · exact Or.inr ⟨p', List.mem_cons_of_mem _ hp', e⟩
def zeros20 : List Int := List.replicate 20 0
theorem fsec_three (c : UInt8) (h : 3 < (fsec c).size) : (fsec c)[3] = c := by
  show (List.replicate 64 c).toArray[3] = c
  simp
theorem Qt.below {w w' : World} (q : Qt w w') : Below w.heap.size w w' := ⟨q.os, q.tape, q.output, by rw [q.heap]; exact Nat.le_refl _, fun k _ => by rw [q.heap]⟩
theorem zeros_get (k : Nat) : zeros20.getD k 0 = 0 := by
  simp only [zeros20, List.getD_eq_getElem?_getD, List.getElem?_replicate]
  split <;> rfl
def two (a b : Nat) (k : Nat) : Prop := k = a ∨ k = b
/-- The first loop. -/
def SafeRel1 (w0 : World) (g wb tb : Nat) (l : List (UInt8 × UInt8)) (iv : Value) (wr : World) : Prop :=
  ∃ (i : Nat) (W : List Int) (s q : List (Int × ByteArray)), iv = .int .i64 i ∧ i ≤ l.length ∧ OwnR w0 wr (two wb tb) g ⟨20, [], s, q, -1⟩ ∧ wr.heap[wb]? = some (arr20 W) ∧ wr.heap[tb]? = some (arr20 zeros20) ∧ W.length = 20 ∧ q.length = i ∧ Agrees s W
/-- The second loop. -/
def Touched (q : List (Int × ByteArray)) (T : List Int) : Prop := ∀ p ∈ q, ∃ (k : Nat) (c : UInt8), p = ((k : Int), fsec c) ∧ k < 20 ∧ T.getD k 0 = 1
theorem Touched.put {q : List (Int × ByteArray)} {T : List Int} (h : Touched q T) (hT : T.length = 20) (k : Nat) (c : UInt8) (hk : k < 20) : Touched (q ++ [((k : Int), fsec c)]) (T.set k 1) := by
  intro p hp
  rcases List.mem_append.1 hp with e | e
  · obtain ⟨j, c', rfl, hj, h1⟩ := h p e
    refine ⟨j, c', rfl, hj, ?_⟩
    simp only [List.getD_eq_getElem?_getD, List.getElem?_set] at h1 ⊢
    split
    · rw [if_pos (by omega)]; rfl
    · exact h1
  · simp at e; subst e
    exact ⟨k, c, rfl, hk, by simp [List.getD_eq_getElem?_getD, hT, hk]⟩
def SafeRel2 (w0 : World) (g wb tb : Nat) (W : List Int) (s : List (Int × ByteArray)) (l : List (UInt8 × UInt8)) (iv : Value) (wr : World) : Prop :=
  ∃ (i : Nat) (T : List Int) (s2 q : List (Int × ByteArray)), iv = .int .i64 i ∧ i ≤ l.length ∧ OwnR w0 wr (two wb tb) g ⟨20, s, s2, q, -1⟩ ∧ wr.heap[wb]? = some (arr20 W) ∧ wr.heap[tb]? = some (arr20 T) ∧ T.length = 20 ∧ q.length = i ∧ Touched q T
theorem safe_sec {s q : List (Int × ByteArray)} {W T : List Int} (h1 : Agrees s W) (h2 : Touched q T) (kept : List Int) (k : Nat) (hk : k < 20) :
    ∃ c : UInt8, (DevD.mk 20 (keepers kept 0 q s) (keepers kept 0 q s) [] (-1)).get k = fsec c ∧ (T.getD k 0 = 0 → W.getD k 0 = c.toNat) := by
  obtain ⟨g1, g2⟩ := keepers_get kept (k : Int) q 0 s
  have ha : (DevD.mk 20 (keepers kept 0 q s) (keepers kept 0 q s) [] (-1)).get k = (mget (keepers kept 0 q s) k).getD zsec := by
    unfold DevD.get DevD.ask DevD.sec
    simp; omega
  rw [ha]
  by_cases hin : (k : Int) ∈ mkeys q
  · have ht : T.getD k 0 = 1 := by
      obtain ⟨p, hp, e⟩ := List.mem_map.1 hin
      obtain ⟨j, c, rfl, hj, h⟩ := h2 p hp
      have : j = k := by have e' : (j : Int) = k := e; omega
      subst this; exact h
    have hne : ¬ T.getD k 0 = 0 := by rw [ht]; decide
    rcases g2 with e | ⟨p, hp, e⟩
    · rw [e]
      rcases h1 k hk with ⟨e1, _⟩ | ⟨c, e1, _⟩
      · exact ⟨0, by rw [e1]; exact zsec_full, fun q => absurd q hne⟩
      · exact ⟨c, by rw [e1]; rfl, fun q => absurd q hne⟩
    · rw [e]
      obtain ⟨j, c, rfl, _, _⟩ := h2 p hp
      exact ⟨c, rfl, fun q => absurd q hne⟩
  · rw [g1 hin]
    rcases h1 k hk with ⟨e1, e2⟩ | ⟨c, e1, e2⟩
    · exact ⟨0, by rw [e1]; exact zsec_full, fun _ => e2⟩
    · exact ⟨c, by rw [e1]; rfl, fun _ => e2⟩
set_option maxRecDepth 100000 in
set_option maxHeartbeats 4000000 in
theorem safe_any (v1 v2 v3 : Value) (l1 l2 : List (UInt8 × UInt8)) (l3 : List Int) (w : World) (h1 : Arg EPair w v1 l1) (h2 : Arg EPair w v2 l2) (h3 : Arg EInt w v3 l3) (m1 : l1.length ≤ maxLen) (m2 : l2.length ≤ maxLen) (m3 : l3.length ≤ maxLen) :
    Calls Try.prog 3 #[v1, v2, v3] w fun e w' => e = .returned (.bool true) ∧ Below w.heap.size w w' := by
  obtain ⟨a1, c1, rfl⟩ := h1.shape
  obtain ⟨a2, c2, rfl⟩ := h2.shape
  obtain ⟨a3, c3, rfl⟩ := h3.shape
  have A1 := Lib.hid h1
  have A2 := Lib.hid h2
  have A3 := Lib.hid h3
  unfold maxLen at m1 m2 m3
  clear h1 h2 h3
  by_cases hs : l1.length ≤ 40 ∧ l2.length ≤ 40 ∧ l3.length ≤ 60
  · obtain ⟨s1, s2, s3⟩ := hs
    have d1 : decide ((40 : Int) < l1.length) = false := decide_eq_false (by omega)
    have d2 : decide ((40 : Int) < l2.length) = false := decide_eq_false (by omega)
    have d3 : decide ((60 : Int) < l3.length) = false := decide_eq_false (by omega)
    go_enter Try.func3, Try.ntmps3
    go_wp2_with fail
    refine (awake06_any _).mono ?_
    rintro e w1 ⟨rfl, hb1⟩
    go_wp2_with fail
    refine (own_new w w1 20 hb1).mono ?_
    rintro e w2 ⟨g, rfl, h2⟩
    have H2 := Lib.hid h2
    clear h2 hb1
    go_wp2_with fail
    have hN : w2.heap.size = w2.heap.size := rfl
    go_loopw [10] (fun iv wr => SafeRel1 w g w2.heap.size (w2.heap.size + 1) l1 iv wr) (fun iv _ => l1.length - (intOf iv).toNat)
    case atStart =>
      refine ⟨0, zeros20, [], [], rfl, Nat.zero_le _, ?_, m_old _ (m_alloc _ _ _ rfl), m_alloc _ _ _ (by simp), rfl, rfl, fun k hk => Or.inl ⟨rfl, ?_⟩⟩
      · refine H2.out.r.turn ((Keep.refl _ w2).alloc _ |>.alloc _) (fun k hk => ?_)
        simp only [World.size_alloc]
        rcases hk with e | e
        · exact ⟨Or.inr (by omega), by omega⟩
        · exact ⟨Or.inr (by omega), by omega⟩
      · exact zeros_get k
    case round =>
      obtain ⟨i, W, s, q, rfl, hi, hown, hwb, htb, hWl, hql, hag⟩ := hrel
      generalize w2.heap.size = wb at *
      by_cases hlt : i < l1.length
      · obtain ⟨B, off, cap, e, hc⟩ := A1.out.cells (by intro q; rw [q] at hlt; simp at hlt)
        simp only [Value.slice.injEq] at e
        obtain ⟨rfl, -, rfl⟩ := e
        obtain ⟨p, hp⟩ : ∃ p, l1[i]? = some p := ⟨_, List.getElem?_eq_getElem hlt⟩
        have hbel := hown.bel
        have y0w : w.cell? ⟨B, off + i * 2, none⟩ = some (.int .u8 p.1.toNat) := hc i p hp 0 (by decide)
        have y1w : w.cell? ⟨B, off + i * 2 + 1, none⟩ = some (.int .u8 p.2.toNat) := hc i p hp 1 (by decide)
        have y0 := cell_later hbel y0w
        have y1 := cell_later hbel y1w
        obtain ⟨k, hk⟩ : ∃ k, p.1.toNat % 20 = k := ⟨_, rfl⟩
        have hk20 : k < 20 := by omega
        have k1 : (p.1.toNat : Int) % 20 = k := by omega
        have hpe : (DevD.mk 20 [] s q (-1)).putErr k (fsec p.2) = 0 := by
          unfold DevD.putErr DevD.ask; simp [fsec_size]; omega
        have HP := Lib.hid hpe
        have hkw : IntKind.i64.wrap ((p.1.toNat : Int).tmod 20) = (k : Int) := by
          rw [Int.tmod_eq_emod_of_nonneg (by omega), k1]
          exact IntWalk.i64_in _ (by omega)
        have HK := Lib.hid hkw
        clear hkw
        have hpq : (DevD.mk 20 [] s q (-1)).queue.length ≤ 1000000 := by show q.length ≤ _; omega
        have hpl : (DevD.mk 20 [] s q (-1)).left ≤ 9223372036854775807 := by show (-1 : Int) ≤ _; decide
        have HPQ := Lib.hid hpq
        have HPL := Lib.hid hpl
        clear hk hpe hpq hpl
        have z1 : (0 : Int) ≤ i := by omega
        have z2 : (i : Int) < l1.length := by omega
        have HO := Lib.hid hown
        have HW := Lib.hid hwb
        have HT := Lib.hid htb
        have HA := Lib.hid hag
        clear hown hwb htb hag hc
        go_wp2_with fail
        go_region_held3 (fun w' => w'.cell? ⟨B, off + i * 2, none⟩ = some (.int .u8 p.1.toNat) ∧ w'.cell? ⟨B, off + i * 2 + 1, none⟩ = some (.int .u8 p.2.toNat))
          (first | exact ⟨cell_later hbb y0w, cell_later hbb y1w⟩ | go_keep)
          (first
           | (go_at_call 19; refine (full_any p.2 _).mono ?_; rintro e w3 ⟨rfl, hb3⟩; have hb3r : Below wr.heap.size wr w3 := Below.trans (by repeat (first | exact Below.refl _ _ | assumption | (refine Below.drew ?_) | (refine below_drewN ?_ _) | (refine Below.alloc ?_ (by simp; done) _) | (refine Below.alloc ?_ (by simp; omega) _))) hb3; have H3 := Lib.hid (HO.out.below hb3r); have hbb : Below w.heap.size w w3 := H3.out.bel)
           | (go_at_call 18; rw [HK.out]; refine (ownr_put_ok (H3.out.below (by repeat (first | exact Below.refl _ _ | assumption | (refine Below.drew ?_) | (refine below_drewN ?_ _) | (refine Below.alloc ?_ (by simp; done) _) | (refine Below.alloc ?_ (by simp; omega) _)))) k (fsec p.2) HPQ.out HPL.out HP.out).mono ?_; rintro e w4 ⟨rfl, h4, hh4⟩; have hbb : Below w.heap.size w w4 := h4.bel))
        have hwl : wb < wr.heap.size := HO.out.lt (Or.inl rfl)
        have htl : wb + 1 < wr.heap.size := HO.out.lt (Or.inr rfl)
        have hwb4 : w4.heap[wb]? = some (arr20 W) := (hh4.block wb (Or.inl rfl)).trans ((hb3r.block wb hwl).trans HW.out)
        have htb4 : w4.heap[wb + 1]? = some (arr20 zeros20) := (hh4.block (wb + 1) (Or.inr rfl)).trans ((hb3r.block (wb + 1) htl).trans HT.out)
        have x0 := cell_later hbb y0w
        have x1 := cell_later hbb y1w
        have xw := arr_cell hwb4 k (by omega)
        have fw : w4.frozen? ⟨wb, k, none⟩ = false := (m_cells hwb4).2 k
        have hag4 := HA.out.put hWl k p.2 hk20
        have hset4 := arr_set hwb4 k p.2.toNat
        have HX := Lib.hid (And.intro h4 (And.intro hwb4 (And.intro htb4 (And.intro hag4 hset4))))
        clear h4 hh4 hwb4 htb4 hag4 hset4 hb3 hb3r y0 y1
        generalize W.getD k 0 = old at xw
        go_wp2_with fail
        have q1 : (0 : Int) ≤ k := by omega
        have q2 : (k : Int) < 20 := by omega
        have hwrap : wrap64 (p.2.toNat : Int) = p.2.toNat := by have := p.2.toNat_lt; unfold wrap64; omega
        go_region
        rw [hwrap]
        obtain ⟨h4, hwb4, htb4, hag4, hset4⟩ := HX.out
        have hkp : Keep (two wb (wb + 1)) w4 (w4.setCell ⟨wb, k, none⟩ (.int .i64 p.2.toNat)).drew := ((Keep.refl _ w4).set wb k _ (Or.inl (Or.inl rfl))).drew
        have hown5 : OwnR w (w4.setCell ⟨wb, k, none⟩ (.int .i64 p.2.toNat)).drew (two wb (wb + 1)) g _ := h4.turn hkp (fun j hj => ⟨Or.inl hj, Nat.lt_of_lt_of_le (h4.lt hj) hkp.size⟩)
        have H5 := Lib.hid (And.intro hown5 (And.intro (show (w4.setCell ⟨wb, k, none⟩ (.int .i64 p.2.toNat)).drew.heap[wb]? = _ from hset4) (show (w4.setCell ⟨wb, k, none⟩ (.int .i64 p.2.toNat)).drew.heap[wb + 1]? = _ from m_set_ne htb4 wb k _ (by omega))))
        clear h4 hwb4 htb4 hset4 hkp hown5 HX fw xw x0 x1
        generalize (w4.setCell ⟨wb, k, none⟩ (.int .i64 p.2.toNat)).drew = w5 at *
        go_wp2_with fail
        obtain ⟨hown5, e5, e6⟩ := H5.out
        exact ⟨⟨i + 1, _, _, _, by go_num, hlt, hown5, e5, e6, by simp [hWl], by simp [hql], hag4⟩, by simp [intOf]; omega⟩
      · have HO := Lib.hid hown
        have HW := Lib.hid hwb
        have HT := Lib.hid htb
        have HA := Lib.hid hag
        clear hown hwb htb hag hN
        go_wp2_with fail
        refine (ownr_flush HO.out).mono ?_
        rintro e w3 ⟨rfl, h3, hh3⟩
        rw [if_neg (by show ¬ (-1 : Int) = 0; decide)]
        rw [if_neg (by show ¬ (-1 : Int) = 0; decide)] at h3
        have HO3 := Lib.hid (show OwnR w w3 (two wb (wb + 1)) g ⟨20, s, s, [], -1⟩ from h3)
        have HW3 := Lib.hid ((hh3.block wb (Or.inl rfl)).trans HW.out)
        have HT3 := Lib.hid ((hh3.block (wb + 1) (Or.inr rfl)).trans HT.out)
        clear h3 hh3
        go_wp2_with fail
        refine (ownr_pending HO3.out).mono ?_
        rintro e w4 ⟨rfl, rfl⟩
        go_wp2_with fail
        go_loopw [11] (fun iv wr => SafeRel2 w g wb (wb + 1) W s l2 iv wr) (fun iv _ => l2.length - (intOf iv).toNat)
        case atStart => exact ⟨0, zeros20, s, [], rfl, Nat.zero_le _, HO3.out, HW3.out, HT3.out, rfl, rfl, fun p hp => by simp at hp⟩
        case round =>
          obtain ⟨i, T, s2, q2, rfl, hi, hown, hwb, htb, hTl, hql, htc⟩ := hrel
          have HO := Lib.hid hown
          have HW := Lib.hid hwb
          have HT := Lib.hid htb
          have HA2 := Lib.hid htc
          by_cases hlt : i < l2.length
          · obtain ⟨B, off, cap, e, hc⟩ := A2.out.cells (by intro q; rw [q] at hlt; simp at hlt)
            simp only [Value.slice.injEq] at e
            obtain ⟨rfl, -, rfl⟩ := e
            obtain ⟨p, hp⟩ : ∃ p, l2[i]? = some p := ⟨_, List.getElem?_eq_getElem hlt⟩
            have hbel := hown.bel
            have y0w : w.cell? ⟨B, off + i * 2, none⟩ = some (.int .u8 p.1.toNat) := hc i p hp 0 (by decide)
            have y1w : w.cell? ⟨B, off + i * 2 + 1, none⟩ = some (.int .u8 p.2.toNat) := hc i p hp 1 (by decide)
            have y0 := cell_later hbel y0w
            obtain ⟨k, hk⟩ : ∃ k, p.1.toNat % 20 = k := ⟨_, rfl⟩
            have hk20 : k < 20 := by omega
            have k1 : (p.1.toNat : Int) % 20 = k := by omega
            have xw := arr_cell htb k (by omega)
            have fw : wr.frozen? ⟨wb + 1, k, none⟩ = false := (m_cells htb).2 k
            have z1 : (0 : Int) ≤ i := by omega
            have z2 : (i : Int) < l2.length := by omega
            have q1 : (0 : Int) ≤ k := by omega
            have q2' : (k : Int) < 20 := by omega
            have hkp : Keep (two wb (wb + 1)) wr (wr.setCell ⟨wb + 1, k, none⟩ (.int .i64 1)) := (Keep.refl _ wr).set (wb + 1) k _ (Or.inl (Or.inr rfl))
            have hown5 : OwnR w (wr.setCell ⟨wb + 1, k, none⟩ (.int .i64 1)) (two wb (wb + 1)) g _ := hown.turn hkp (fun j hj => ⟨Or.inl hj, Nat.lt_of_lt_of_le (hown.lt hj) hkp.size⟩)
            have H5 := Lib.hid (And.intro hown5 (And.intro (m_set_ne hwb (wb + 1) k (.int .i64 1) (by omega)) (arr_set htb k 1)))
            have y0s := cell_later hown5.bel y0w
            have y1s := cell_later hown5.bel y1w
            have hpe : (DevD.mk 20 s s2 q2 (-1)).putErr k (fsec p.2) = 0 := by
              unfold DevD.putErr DevD.ask; simp [fsec_size]; omega
            have HP := Lib.hid hpe
            have hkw : IntKind.i64.wrap ((p.1.toNat : Int).tmod 20) = (k : Int) := by
              rw [Int.tmod_eq_emod_of_nonneg (by omega), k1]
              exact IntWalk.i64_in _ (by omega)
            have HK := Lib.hid hkw
            have hpq : (DevD.mk 20 s s2 q2 (-1)).queue.length ≤ 1000000 := by show q2.length ≤ _; omega
            have hpl : (DevD.mk 20 s s2 q2 (-1)).left ≤ 9223372036854775807 := by show (-1 : Int) ≤ _; decide
            have HPQ := Lib.hid hpq
            have HPL := Lib.hid hpl
            generalize T.getD k 0 = old at xw
            clear hown hwb htb hc hk hkp hown5 hpe hkw hpq hpl htc hbel
            go_wp2_with fail
            clear y0 fw xw
            generalize wr.setCell ⟨wb + 1, k, none⟩ (.int .i64 1) = w5 at *
            have HO5 := Lib.hid H5.out.1
            have HW5 := Lib.hid H5.out.2
            clear H5 HO HW HT
            go_region_held3 (fun w' => w'.cell? ⟨B, off + i * 2, none⟩ = some (.int .u8 p.1.toNat) ∧ w'.cell? ⟨B, off + i * 2 + 1, none⟩ = some (.int .u8 p.2.toNat))
              (first | exact ⟨cell_later hbb y0w, cell_later hbb y1w⟩ | go_keep)
              (first
               | (go_at_call 19; refine (full_any p.2 _).mono ?_; rintro e w6 ⟨rfl, hb6⟩; have hb6r : Below w5.heap.size w5 w6 := Below.trans (by repeat (first | exact Below.refl _ _ | assumption | (refine Below.drew ?_) | (refine below_drewN ?_ _) | (refine Below.alloc ?_ (by simp; done) _) | (refine Below.alloc ?_ (by simp; omega) _))) hb6; have H6 := Lib.hid (HO5.out.below hb6r); have hbb : Below w.heap.size w w6 := H6.out.bel)
               | (go_at_call 18; rw [HK.out]; refine (ownr_put_ok (H6.out.below (by repeat (first | exact Below.refl _ _ | assumption | (refine Below.drew ?_) | (refine below_drewN ?_ _) | (refine Below.alloc ?_ (by simp; done) _) | (refine Below.alloc ?_ (by simp; omega) _)))) k (fsec p.2) HPQ.out HPL.out HP.out).mono ?_; rintro e w7 ⟨rfl, h7, hh7⟩; have hbb : Below w.heap.size w w7 := h7.bel))
            have hwb7 : w7.heap[wb]? = some (arr20 W) := (hh7.block wb (Or.inl rfl)).trans ((hb6r.block wb (HO5.out.lt (Or.inl rfl))).trans HW5.out.1)
            have htb7 : w7.heap[wb + 1]? = some (arr20 (T.set k 1)) := (hh7.block (wb + 1) (Or.inr rfl)).trans ((hb6r.block (wb + 1) (HO5.out.lt (Or.inr rfl))).trans HW5.out.2)
            have H7 := Lib.hid (And.intro h7 (And.intro hwb7 htb7))
            clear h7 hh7 hwb7 htb7 hb6 hb6r y0s y1s
            go_wp2_with fail
            exact ⟨⟨i + 1, _, _, _, by go_num, hlt, H7.out.1, H7.out.2.1, H7.out.2.2, by simp [hTl], by simp [hql], HA2.out.put hTl k p.2 hk20⟩, by simp [intOf]; omega⟩
          · clear hown hwb htb htc
            have hpq : (DevD.mk 20 s s2 q2 (-1)).queue.length ≤ 1000000 := by show q2.length ≤ _; omega
            have HPQ := Lib.hid hpq
            clear hpq
            go_wp2_with fail
            refine (ownr_restart HO.out _ l3 A3.out (by unfold maxLen; omega) HPQ.out).mono ?_
            rintro e w8 ⟨rfl, h8, hh8⟩
            have HW8 := Lib.hid ((hh8.block wb (Or.inl rfl)).trans HW.out)
            have HT8 := Lib.hid ((hh8.block (wb + 1) (Or.inr rfl)).trans HT.out)
            have h8' : OwnR w w8 (two wb (wb + 1)) g ⟨20, keepers l3 0 q2 s, keepers l3 0 q2 s, [], -1⟩ := h8
            have hS : ∀ k : Nat, k < 20 → ∃ c : UInt8, (DevD.mk 20 (keepers l3 0 q2 s) (keepers l3 0 q2 s) [] (-1)).get k = fsec c ∧ (T.getD k 0 = 0 → W.getD k 0 = c.toNat) := fun k hk => safe_sec HA.out HA2.out l3 k hk
            generalize keepers l3 0 q2 s = s8 at *
            have H8 := Lib.hid h8'
            have HS := Lib.hid hS
            clear h8 h8' hh8 hS
            go_wp2_with fail
            go_loopw [12, 13, 14] (fun iv _ _ wr => ∃ i : Nat, iv = .int .i64 i ∧ i ≤ 20 ∧ OwnR w wr (two wb (wb + 1)) g ⟨20, s8, s8, [], -1⟩ ∧ wr.heap[wb]? = some (arr20 W) ∧ wr.heap[wb + 1]? = some (arr20 T)) (fun iv _ _ _ => 20 - (intOf iv).toNat)
            case atStart => exact ⟨0, rfl, Nat.zero_le _, H8.out, HW8.out, HT8.out⟩
            case round =>
              clear hi hlt hql HO HW HT HPQ
              obtain ⟨i, rfl, hi, hown, hwb, htb⟩ := hrel
              have HO := Lib.hid hown
              have HW := Lib.hid hwb
              have HT := Lib.hid htb
              clear hown hwb htb
              by_cases hlt : i < 20
              · obtain ⟨c, hc1, hc2⟩ := HS.out i hlt
                have hask : (DevD.mk 20 s8 s8 [] (-1)).ask i = 0 := by unfold DevD.ask; simp; omega
                have HC := Lib.hid hc2
                have z1 : (0 : Int) ≤ i := by omega
                have z2 : (i : Int) < 20 := by omega
                clear hc2
                go_wp2_with fail
                refine (ownr_get HO.out i).mono ?_
                rintro e w9 ⟨rfl, h9, hb9⟩
                rw [hask, hc1]
                have hwb9 := (hb9.block wb (HO.out.lt (Or.inl rfl))).trans HW.out
                have htb9 := (hb9.block (wb + 1) (HO.out.lt (Or.inr rfl))).trans HT.out
                have xw := arr_cell hwb9 i (by omega)
                have xt := arr_cell htb9 i (by omega)
                have HF := Lib.hid (And.intro h9 (And.intro hwb9 htb9))
                have hsz := fsec_size c
                clear h9 hb9 hwb9 htb9 hask hc1
                have h3l : 3 < (fsec c).size := by rw [hsz]; decide
                have h3 : (wrap64 ((fsec c)[3].toNat : Int) != (c.toNat : Int)) = false := by rw [fsec_three c h3l]; have := c.toNat_lt; have e : wrap64 (c.toNat : Int) = c.toNat := (by unfold wrap64; omega); rw [e]; simp
                generalize hB : fsec c = b at *
                have HB := Lib.hid hB
                clear hB
                by_cases ht0 : T.getD i 0 = 0
                · have hw0 := HC.out ht0
                  rw [ht0] at xt
                  rw [hw0] at xw
                  have n1 : ((b.size : Int) != 64) = false := by rw [hsz]; rfl
                  go_wp2_with fail
                  go_quiet (fail)
                  obtain ⟨h9, hwb9, htb9⟩ := HF.out
                  have hb10 : Below w9.heap.size w9 (w9.drewN nq) := Qt.below (Qt.drewN w9 nq)
                  have H10 := Lib.hid (And.intro (h9.below hb10) (And.intro (show (w9.drewN nq).heap[wb]? = _ from hwb9) (show (w9.drewN nq).heap[wb + 1]? = _ from htb9)))
                  clear h9 hwb9 htb9 hb10 xw xt
                  generalize w9.drewN nq = w10 at *
                  go_wp2_with fail
                  exact ⟨⟨i + 1, by go_num, hlt, H10.out⟩, by simp [intOf]; omega⟩
                · have n2 : (T.getD i 0 == 0) = false := by simpa using ht0
                  have n1 : ((b.size : Int) != 64) = false := by rw [hsz]; rfl
                  generalize T.getD i 0 = tt at *
                  clear HC
                  go_wp2_with fail
                  go_quiet (fail)
                  obtain ⟨h9, hwb9, htb9⟩ := HF.out
                  have hb10 : Below w9.heap.size w9 (w9.drewN nq) := Qt.below (Qt.drewN w9 nq)
                  have H10 := Lib.hid (And.intro (h9.below hb10) (And.intro (show (w9.drewN nq).heap[wb]? = _ from hwb9) (show (w9.drewN nq).heap[wb + 1]? = _ from htb9)))
                  clear h9 hwb9 htb9 hb10 xw xt
                  generalize w9.drewN nq = w10 at *
                  go_wp2_with fail
                  exact ⟨⟨i + 1, by go_num, hlt, H10.out⟩, by simp [intOf]; omega⟩
              · clear HA HA2 HS
                go_wp2_with fail
                refine (ownr_pending HO.out).mono ?_
                rintro e w9 ⟨rfl, rfl⟩
                go_wp2_with fail
                go_ret
                exact ⟨rfl, HO.out.bel⟩
  · have hd : decide ((40 : Int) < l1.length) = true ∨ (decide ((40 : Int) < l1.length) = false ∧ decide ((40 : Int) < l2.length) = true) ∨ (decide ((40 : Int) < l1.length) = false ∧ decide ((40 : Int) < l2.length) = false ∧ decide ((60 : Int) < l3.length) = true) := by
      simp only [decide_eq_true_eq, decide_eq_false_iff_not]; omega
    clear hs
    rcases hd with d1 | ⟨d1, d2⟩ | ⟨d1, d2, d3⟩
    all_goals
      go_enter Try.func3, Try.ntmps3
      go_wp2_with fail
      refine (awake06_any _).mono ?_
      rintro e w1 ⟨rfl, hb1⟩
      go_wp2_with fail
      refine (awake06_any _).mono ?_
      rintro e w2 ⟨rfl, hb2⟩
      go_wp2_with fail
      go_ret
      exact ⟨rfl, hb1.trans (hb2.mono hb1.size)⟩
end Go.Proofs.Ytncbojocglcieaa
