/- CursorReads: the walk. -/
import Derived.Test.YtolilbcpfdnkjaaTIX4
import Derived.Test.YtolilbcpfdnkjaaTIZA
import Derived.Test.YtolilbcpfdnkjaaTIY3
namespace Go.Proofs.Ytolilbcpfdnkjaa
open Go.RowKit
set_option linter.unusedSimpArgs false
set_option linter.unusedVariables false
theorem int_cell16 {w : World} {a : Option Addr} {n c : Nat} {l : List Int} (h : Arg EInt w (.slice a n c) l) (i : Nat) (x : Int) (hx : l[i]? = some x) : ∃ g off, a = some ⟨g, off, none⟩ ∧ w.cell? ⟨g, off + i, none⟩ = some (.int .i64 x) := by
  obtain ⟨g, off, cap, e, hc⟩ := h.cells (by intro q; rw [q] at hx; simp at hx)
  simp only [Value.slice.injEq] at e
  have := hc i x hx 0 (by decide)
  rw [show off + (i * EInt.size + 0) = off + i from by show off + (i * 1 + 0) = _; omega] at this
  exact ⟨g, off, e.1, this⟩
theorem own_dirs {w0 w : World} {g : Nat} {L : List Itm} {next : Int} (h : OwnT w0 w g L next) (hi : TInv L next) :
    Calls Try.prog 35 #[.pointer (some ⟨g, 0, none⟩)] w fun e w' => ∃ v, e = .returned v ∧ Row EInt w' w.heap.size v (dirsT L) ∧ Below w.heap.size w w' := by
  obtain ⟨F, k1, k2, k3⟩ := h
  exact tdirs_any k1 hi
set_option maxRecDepth 100000 in
set_option maxHeartbeats 4000000 in
theorem cursorreads_walk (w : World) (v : Value) (l : List Op1) (c n : Int) (h : Arg EOp w v l) (ml : l.length ≤ maxLen) (hok : ∀ o ∈ l, (o.name.size ≤ maxLen ∧ o.as_.size ≤ maxLen) ∧ o.kind < 256) :
    Calls Try.prog 9 #[v, .int .i64 c, .int .i64 n] w fun e w' => e = .returned (.bool true) ∧ Below w.heap.size w w' := by
  obtain ⟨va, vc, rfl⟩ := h.shape
  have H := Lib.hid h
  have HOK := Lib.hid hok
  clear h hok
  go_enter Try.func9, Try.ntmps9
  go_wp2_with fail
  refine (awake16_any w).mono ?_
  rintro e w1 ⟨rfl, hb1⟩
  have HB1 := Lib.hid hb1
  clear hb1
  go_wp2_with fail
  refine (few10_any w1 _ l 60 (H.out.below HB1.out) ml (fun o ho => (HOK.out o ho).1)).mono ?_
  rintro e w2 ⟨b, rfl, ⟨fw, rfl, hfew⟩, hb2⟩
  have HB2 := Lib.hid (HB1.out.trans (hb2.mono HB1.out.size))
  have HFEW := Lib.hid hfew
  clear hb2 HB1 hfew
  cases fw
  · go_wp2_with fail
    refine (awake16_any _).mono ?_
    rintro e w3 ⟨rfl, hb3⟩
    go_wp2_with fail
    go_ret
    exact ⟨rfl, HB2.out.trans (hb3.mono HB2.out.size)⟩
  · obtain ⟨hl60, hsm⟩ := HFEW.out rfl
    have hl60' : l.length ≤ 60 := by omega
    have HOW := Lib.hid (own_new w HB2.out)
    clear hl60 hsm HFEW
    go_wp2_with fail
    refine HOW.out.mono ?_
    rintro e w3 ⟨g, rfl, hown⟩
    have HOWN := Lib.hid hown
    clear hown HOW
    go_wp2_with fail
    go_loopw [8] (fun iv wr => ∃ i : Nat, iv = .int .i64 i ∧ i ≤ l.length ∧ DoRel16 w wr g i) (fun iv _ => l.length - (intOf iv).toNat)
    case atStart => exact ⟨0, rfl, Nat.zero_le _, [], 1, HOWN.out, TInv.new, by decide⟩
    case round =>
      obtain ⟨i, rfl, hi, L, next, ho, hti, hnx⟩ := hrel
      have HO := Lib.hid ho
      have HTI := Lib.hid hti
      have HNX := Lib.hid hnx
      clear ho hti hnx
      by_cases hlt : i < l.length
      · have i1 : (i : Int) < l.length := by omega
        obtain ⟨o, ho⟩ : ∃ o, l[i]? = some o := ⟨_, List.getElem?_eq_getElem hlt⟩
        have HBW := Lib.hid (show Below w.heap.size w wr from by obtain ⟨F, _, _, q⟩ := HO.out; exact q)
        obtain ⟨gb, off, rfl, -, k0, k1, k2, k3, k4, k5, k6⟩ := op1_cells H.out i o ho
        have k0 := cell_later HBW.out k0
        have k1 := cell_later HBW.out k1
        have k2 := cell_later HBW.out k2
        have k3 := cell_later HBW.out k3
        have k4 := cell_later HBW.out k4
        have k5 := cell_later HBW.out k5
        have k6 := cell_later HBW.out k6
        have HOO := Lib.hid (HOK.out o (List.mem_of_getElem? ho))
        have HDO := Lib.hid (own_do HO.out HTI.out (by have := HNX.out; omega) o HOO.out.2 HOO.out.1.1 HOO.out.1.2)
        clear ho
        go_wp2_with fail
        refine HDO.out.mono ?_
        rintro e w4 ⟨rfl, ho4⟩
        have HO4 := Lib.hid ho4
        clear ho4
        go_wp2_with fail
        refine ⟨⟨i + 1, by go_num, hlt, _, _, HO4.out, HTI.out.do_ o, ?_⟩, by simp [intOf]; omega⟩
        have h1 := (doT_next L next o).2
        have h2 := HNX.out
        push_cast; omega
      · have ei : i = l.length := by omega
        subst ei
        have i2 : ¬ ((l.length : Int) < l.length) := by omega
        have HD := Lib.hid (own_dirs HO.out HTI.out)
        have HBW := Lib.hid (show Below w.heap.size w wr from by obtain ⟨F, _, _, q⟩ := HO.out; exact q)
        have hdl : (dirsT L).length ≤ 201 := by
          unfold dirsT
          exact Nat.le_trans (List.length_filter_le _ _) (by simp)
        have HDT := Lib.hid (show ∀ x ∈ dirsT L, isDirB L x = true from fun x q => (List.mem_filter.1 q).2)
        go_wp2_with fail
        refine HD.out.mono ?_
        rintro e w4 ⟨dv, rfl, hr4, hb4⟩
        have HR4 := Lib.hid hr4
        have HO4 := Lib.hid (HO.out.below hb4)
        have HB4 := Lib.hid (HBW.out.trans (hb4.mono HBW.out.size))
        obtain ⟨a4, c4, rfl⟩ := hr4.shape
        generalize hE : dirsT L = D at *
        clear hr4 hb4 HD HNX HO hE HBW
        go_wp2_with fail
        go_loopw [10] (fun iv wr => ∃ i : Nat, iv = .int .i64 i ∧ i ≤ D.length ∧ Below w4.heap.size w4 wr) (fun iv _ => D.length - (intOf iv).toNat)
        case atStart => exact ⟨0, rfl, Nat.zero_le _, Below.refl _ _⟩
        case round =>
          obtain ⟨i, rfl, hi, hb⟩ := hrel
          have HB := Lib.hid hb
          clear hb
          by_cases hlt : i < D.length
          · have i1 : (i : Int) < D.length := by omega
            obtain ⟨x, hx⟩ : ∃ x, D[i]? = some x := ⟨_, List.getElem?_eq_getElem hlt⟩
            obtain ⟨g1, off1, rfl, d1⟩ := int_cell16 HR4.out.arg i x hx
            have d1 := cell_later HB.out d1
            have HLE := Lib.hid (show listErr L x = 0 from by unfold listErr; rw [if_pos (HDT.out x (List.mem_of_getElem? hx))])
            have HL := Lib.hid (own_list (HO4.out.below HB.out) HTI.out x)
            have HES := Lib.hid (entries_sorted HTI.out x)
            have hel := entries_len HTI.out x
            clear hx
            go_wp2_with fail
            refine HL.out.mono ?_
            rw [HLE.out]
            rintro e w5 ⟨lv, l5, rfl, hr5, hle, -, hb5⟩
            have hle := hle rfl
            subst hle
            have HR5 := Lib.hid hr5
            have HB5 := Lib.hid (HB.out.trans (hb5.mono HB.out.size))
            obtain ⟨a5, c5, rfl⟩ := hr5.shape
            generalize hE : entries L x = E at *
            have HC := Lib.hid (cread_any w5 _ c n HR5.out (by omega) HES.out)
            clear hr5 hb5 HL hE HB d1
            go_wp2_with fail
            refine HC.out.mono ?_
            rintro e w6 ⟨xv, rfl, hrx, hb6⟩
            have HRX := Lib.hid hrx
            have HB6 := Lib.hid (HB5.out.trans (hb6.mono HB5.out.size))
            have HC2 := Lib.hid (rread_any w6 c n (HR5.out.arg.below hb6) (by omega) HES.out)
            have hxl : (readT E c n).1.length ≤ 200 := by
              unfold readT
              split
              · simp
              · split
                · simp
                · refine Nat.le_trans ?_ hel
                  unfold behind
                  exact Nat.le_trans (List.length_take_le' _ _) (List.length_filter_le _ _)
            clear hrx hb6 HC HB5
            obtain ⟨ax, cx, rfl⟩ := HRX.out.shape
            go_wp2_with fail
            refine HC2.out.mono ?_
            rintro e w7 ⟨yv, rfl, hry, hb7⟩
            have HRY := Lib.hid hry
            have HRX := Lib.hid (HRX.out.below hb7)
            have HB7 := Lib.hid (HB6.out.trans (hb7.mono HB6.out.size))
            obtain ⟨ay, cy, rfl⟩ := HRY.out.shape
            clear hry hb7 HC2 HB6 HES
            generalize readT E c n = R at *
            go_wp2_with fail
            refine (same_any w7 R.1 R.1 HRX.out.arg HRY.out.arg (by unfold maxLen; omega) (by unfold maxLen; omega)).mono ?_
            rintro e w8 ⟨rfl, hb8⟩
            rw [decide_eq_true (rfl : R.1 = R.1)]
            have HB8 := Lib.hid (HB7.out.trans (hb8.mono HB7.out.size))
            clear hb8
            go_wp2_with fail
            exact ⟨⟨i + 1, by go_num, hlt, HB8.out⟩, by simp [intOf]; omega⟩
          · have ei : i = D.length := by omega
            subst ei
            have i2 : ¬ ((D.length : Int) < D.length) := by omega
            go_wp2_with fail
            refine (valid_any wr c).mono ?_
            rintro e w8 ⟨rfl, rfl⟩
            by_cases hc : 0 ≤ c
            · rw [decide_eq_true hc]
              have e1 : decide (0 ≤ c) = true := decide_eq_true hc
              go_wp2_with fail
              go_ret
              exact ⟨rfl, HB4.out.trans (HB.out.mono HB4.out.size)⟩
            · rw [decide_eq_false hc]
              have e1 : decide (0 ≤ c) = false := decide_eq_false hc
              go_wp2_with fail
              go_ret
              exact ⟨rfl, HB4.out.trans (HB.out.mono HB4.out.size)⟩
end Go.Proofs.Ytolilbcpfdnkjaa
