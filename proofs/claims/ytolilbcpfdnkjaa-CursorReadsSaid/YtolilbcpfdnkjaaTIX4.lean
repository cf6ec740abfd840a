/- CursorAll: the walk. -/
import Derived.Test.YtolilbcpfdnkjaaTIX1
import Derived.Test.YtolilbcpfdnkjaaTIUB
import Derived.Deep.RegionHeld3
import Derived.Outline
namespace Go.Proofs.Ytolilbcpfdnkjaa
open Go.RowKit
set_option linter.unusedSimpArgs false
set_option linter.unusedVariables false
def DoRel16 (w0 w : World) (g : Nat) (i : Nat) : Prop := ∃ L next, OwnT w0 w g L next ∧ TInv L next ∧ next ≤ i + 1
/-- How far one has read. -/
def AllRel (w0 : World) (E : List Ent) (av cv iv : Value) (lv : Value) (wr : World) : Prop :=
  ∃ i k : Nat, iv = .int .i64 i ∧ i ≤ E.length + 1 ∧ min i E.length ≤ k ∧ k ≤ E.length ∧ cv = .int .i64 (lastC (E.take k) 0) ∧ Row EEnt wr w0.heap.size av (E.take k) ∧ Row EEnt wr w0.heap.size lv E ∧ Below w0.heap.size w0 wr
set_option maxRecDepth 100000 in
set_option maxHeartbeats 4000000 in
theorem cursorall_walk (w : World) (v : Value) (l : List Op1) (n : Nat) (h : Arg EOp w v l) (ml : l.length ≤ maxLen) (hok : ∀ o ∈ l, (o.name.size ≤ maxLen ∧ o.as_.size ≤ maxLen) ∧ o.kind < 256) (hn : n < 256) :
    Calls Try.prog 4 #[v, .int .u8 n] w fun e w' => e = .returned (.bool true) ∧ Below w.heap.size w w' := by
  obtain ⟨va, vc, rfl⟩ := h.shape
  have H := Lib.hid h
  have HOK := Lib.hid hok
  clear h hok
  go_enter Try.func4, Try.ntmps4
  go_wp2_with fail
  refine (awake16_any w).mono ?_
  rintro e w1 ⟨rfl, hb1⟩
  have HB1 := Lib.hid hb1
  clear hb1
  go_wp2_with fail
  refine (few10_any w1 _ l 60 (H.out.below HB1.out) ml (fun o ho => (HOK.out o ho).1)).mono ?_
  rintro e w2 ⟨b, rfl, ⟨fw, rfl, hfew⟩, hb2⟩
  have HB2 := Lib.hid (HB1.out.trans (hb2.mono HB1.out.size))
  have HFEW := Lib.hid hfew
  clear hb2 HB1 hfew
  cases fw
  · go_wp2_with fail
    refine (awake16_any _).mono ?_
    rintro e w3 ⟨rfl, hb3⟩
    go_wp2_with fail
    go_ret
    exact ⟨rfl, HB2.out.trans (hb3.mono HB2.out.size)⟩
  · obtain ⟨hl60, hsm⟩ := HFEW.out rfl
    have hl60' : l.length ≤ 60 := by omega
    have HOW := Lib.hid (own_new w HB2.out)
    clear hl60 hsm HFEW
    go_wp2_with fail
    refine HOW.out.mono ?_
    rintro e w3 ⟨g, rfl, hown⟩
    have HOWN := Lib.hid hown
    clear hown HOW
    go_wp2_with fail
    go_loopw [6] (fun iv wr => ∃ i : Nat, iv = .int .i64 i ∧ i ≤ l.length ∧ DoRel16 w wr g i) (fun iv _ => l.length - (intOf iv).toNat)
    case atStart => exact ⟨0, rfl, Nat.zero_le _, [], 1, HOWN.out, TInv.new, by decide⟩
    case round =>
      obtain ⟨i, rfl, hi, L, next, ho, hti, hnx⟩ := hrel
      have HO := Lib.hid ho
      have HTI := Lib.hid hti
      have HNX := Lib.hid hnx
      clear ho hti hnx
      by_cases hlt : i < l.length
      · have i1 : (i : Int) < l.length := by omega
        obtain ⟨o, ho⟩ : ∃ o, l[i]? = some o := ⟨_, List.getElem?_eq_getElem hlt⟩
        have HBW := Lib.hid (show Below w.heap.size w wr from by obtain ⟨F, _, _, q⟩ := HO.out; exact q)
        obtain ⟨gb, off, rfl, -, k0, k1, k2, k3, k4, k5, k6⟩ := op1_cells H.out i o ho
        have k0 := cell_later HBW.out k0
        have k1 := cell_later HBW.out k1
        have k2 := cell_later HBW.out k2
        have k3 := cell_later HBW.out k3
        have k4 := cell_later HBW.out k4
        have k5 := cell_later HBW.out k5
        have k6 := cell_later HBW.out k6
        have HOO := Lib.hid (HOK.out o (List.mem_of_getElem? ho))
        have HDO := Lib.hid (own_do HO.out HTI.out (by have := HNX.out; omega) o HOO.out.2 HOO.out.1.1 HOO.out.1.2)
        clear ho
        go_wp2_with fail
        refine HDO.out.mono ?_
        rintro e w4 ⟨rfl, ho4⟩
        have HO4 := Lib.hid ho4
        clear ho4
        go_wp2_with fail
        refine ⟨⟨i + 1, by go_num, hlt, _, _, HO4.out, HTI.out.do_ o, ?_⟩, by simp [intOf]; omega⟩
        have h1 := (doT_next L next o).2
        have h2 := HNX.out
        push_cast; omega
      · have ei : i = l.length := by omega
        subst ei
        have i2 : ¬ ((l.length : Int) < l.length) := by omega
        have HL := Lib.hid (own_list HO.out HTI.out 0)
        have HBW := Lib.hid (show Below w.heap.size w wr from by obtain ⟨F, _, _, q⟩ := HO.out; exact q)
        have HE0 := Lib.hid (show listErr L 0 = 0 from by unfold listErr isDirB; simp)
        have HES := Lib.hid (entries_sorted HTI.out 0)
        have HEP := Lib.hid (fun x q => (entries_cookie HTI.out 0 x q).1)
        have hel := entries_len HTI.out 0
        go_wp2_with fail
        refine HL.out.mono ?_
        rw [HE0.out]
        rintro e w4 ⟨lv, l4, rfl, hr4, hle, -, hb4⟩
        have hle := hle rfl
        subst hle
        have HR4 := Lib.hid (hr4.raise (B' := w.heap.size) (fun k q => Nat.le_trans HBW.out.size (hr4.ge q)))
        have HB4 := Lib.hid (HBW.out.trans (hb4.mono HBW.out.size))
        obtain ⟨a4, c4, rfl⟩ := hr4.shape
        generalize hE : entries L 0 = E at *
        clear hr4 hb4 HL HTI HNX HO hE HE0
        go_wp2_with fail
        go_loopw [9, 10, 11] (fun av cv iv wr => AllRel w E av cv iv (.slice a4 E.length c4) wr) (fun _ _ iv _ => E.length + 1 - (intOf iv).toNat)
        case atStart => exact ⟨0, 0, rfl, Nat.zero_le _, Nat.zero_le _, Nat.zero_le _, rfl, Row.nil _ _ _, HR4.out, HB4.out⟩
        case round =>
          obtain ⟨i, k, rfl, hi, hik, hk, rfl, hra, hrl, hb⟩ := hrel
          obtain ⟨aa, ca, rfl⟩ := hra.shape
          have HRA := Lib.hid hra
          have HRL := Lib.hid hrl
          have HB := Lib.hid hb
          clear hra hrl hb
          by_cases hlt : i < E.length + 1
          · have i1 : (i : Int) ≤ E.length := by omega
            have HC := Lib.hid (cread_any wr w.heap.size (lastC (E.take k) 0) ((n % 64 + 1 : Nat) : Int) HRL.out (by omega) HES.out)
            have HT := Lib.hid (read_from HES.out HEP.out k hk (n % 64 + 1) (by omega) (by omega))
            have hal : (E.take k).length = k := by rw [List.length_take]; omega
            rw [HT.out, show ((n % 64 + 1 : Nat) : Int) = 1 + (n : Int) % 64 from by omega] at HC
            obtain ⟨C2, hC2⟩ : ∃ C2, lastC (E.take (k + (n % 64 + 1))) 0 = C2 := ⟨_, rfl⟩
            obtain ⟨C1, hC1⟩ : ∃ C1, lastC (E.take k) 0 = C1 := ⟨_, rfl⟩
            rw [hC1] at HC
            rw [hC1]
            rw [hC2] at HC
            obtain ⟨A, hA⟩ : ∃ A, E.take k = A := ⟨_, rfl⟩
            rw [hA] at HRA hal
            rw [hA]
            have HA := Lib.hid hA
            have HC2 := Lib.hid hC2
            have HAL := Lib.hid hal
            clear hA hC1 hC2 hal
            go_wp2_with fail
            refine HC.out.mono ?_
            rintro e w5 ⟨xv, rfl, hrx, hb5⟩
            have HRX := Lib.hid hrx
            have HB5 := Lib.hid (HB.out.trans (hb5.mono HB.out.size))
            have HRL5 := Lib.hid (HRL.out.below hb5)
            have HRA5 := Lib.hid (HRA.out.below hb5)
            obtain ⟨ax, cx, rfl⟩ := hrx.shape
            have hxl : ((E.drop k).take (n % 64 + 1)).length ≤ E.length := by rw [List.length_take, List.length_drop]; omega
            obtain ⟨X, hX⟩ : ∃ X, (E.drop k).take (n % 64 + 1) = X := ⟨_, rfl⟩
            rw [hX] at hxl HRX ⊢
            have HX := Lib.hid hX
            have HAX := Lib.hid (show A ++ X = E.take (k + (n % 64 + 1)) from by rw [List.take_add, HA.out, hX])
            clear hrx hb5 HC HT hX HRL HRA
            go_wp2_with (first
              | (have _hh := MARK2
                 refine app_row EEnt.laid rfl _ _ 33 33 Try.underlying33 Try.underlying33 rfl _ A rfl HR6.out _ X rfl ?e1 ?e2 ?e3 (Nat.le_trans HB5.out.size HB6.out.size) ?_
                 case e1 => exact HRX.out.arg.below HB6.out
                 case e2 => (show (A.length + X.length) * 48 ≤ _; have := HAL.out; omega)
                 case e3 => (show A.length + X.length ≤ maxLen; unfold maxLen; have := HAL.out; omega)
                 intro v7 w7 hr7 hv7 k7
                 have hb7 : Below w5.heap.size w5 w7 := HB6.out.trans (k7.toBelow HB6.out.size (fun i q => HG6.out i q.symm))
                 obtain ⟨a7, c7, rfl⟩ := hr7.shape
                 have HR7 := Lib.hid hr7
                 have HB7 := Lib.hid hb7
                 clear hr7 hv7 k7 hb7 MARK2 _hh)
              | (refine app_row EEnt.laid rfl _ _ 33 33 Try.underlying33 Try.underlying33 rfl _ [] rfl (Row.new w5 w.heap.size #[] [] HB5.out.size rfl (by decide)) _ A rfl ?e1 ?e2 ?e3 (Nat.le_trans HB5.out.size (by simp)) ?_
                 case e1 => exact HRA5.out.arg.below ((Below.refl _ _).alloc (Nat.le_refl _) _)
                 case e2 => (show (0 + A.length) * 48 ≤ _; have := HAL.out; omega)
                 case e3 => (show 0 + A.length ≤ maxLen; unfold maxLen; have := HAL.out; omega)
                 intro v6 w6 hr6 hv6 k6
                 have hb6 : Below w5.heap.size w5 w6 := ((Below.refl w5.heap.size w5).alloc (Nat.le_refl _) _).trans (k6.toBelow (B := w5.heap.size) (by simp) (fun i q => Nat.le_of_eq (Option.some.inj q).symm))
                 have HG6 := Lib.hid (show ∀ k, v6.ownBlock = some k → w5.heap.size ≤ k from fun k q => (hv6 k q).elim (fun e => Nat.le_of_eq (Option.some.inj e)) (fun e => Nat.le_trans (by simp) (Nat.le_of_eq e)))
                 obtain ⟨a6, c6, rfl⟩ := hr6.shape
                 rw [List.nil_append] at hr6 ⊢
                 have HR6 := Lib.hid hr6
                 have HB6 := Lib.hid hb6
                 have MARK2 : True := trivial
                 clear hr6 hv6 k6 hb6))
            have htm : E.take (k + (n % 64 + 1)) = E.take (min (k + (n % 64 + 1)) E.length) := by
              rcases Nat.le_total (k + (n % 64 + 1)) E.length with q | q
              · rw [Nat.min_eq_left q]
              · rw [Nat.min_eq_right q, List.take_length, List.take_of_length_le q]
            have HR8 := HR7.out
            rw [List.length_append, HAX.out, htm] at HR8
            refine ⟨⟨i + 1, min (k + (n % 64 + 1)) E.length, by go_num, by omega, by omega, Nat.min_le_right _ _, by rw [← htm, HC2.out], HR8, HRL5.out.below HB7.out, HB5.out.trans (HB7.out.mono HB5.out.size)⟩, by simp [intOf]; omega⟩
          · have ei : i = E.length + 1 := by omega
            subst ei
            have i2 : ¬ (((E.length + 1 : Nat) : Int) ≤ E.length) := by omega
            have ek : k = E.length := by omega
            subst ek
            rw [List.take_length] at HRA
            go_wp2_with fail
            refine (same_any _ _ _ HRA.out.arg HRL.out.arg (by unfold maxLen; omega) (by unfold maxLen; omega)).mono ?_
            rintro e w7 ⟨rfl, hb7⟩
            rw [decide_eq_true (rfl : E = E)]
            go_wp2_with fail
            go_ret
            exact ⟨rfl, HB.out.trans (hb7.mono HB.out.size)⟩
end Go.Proofs.Ytolilbcpfdnkjaa
