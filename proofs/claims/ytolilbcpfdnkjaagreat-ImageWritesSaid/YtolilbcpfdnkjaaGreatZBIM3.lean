/- image: Encode of a tree. -/
import Derived.Test.YtolilbcpfdnkjaaGreatZBIM1
import Derived.Test.YtolilbcpfdnkjaaGreatZBY3
import Derived.Test.YtolilbcpfdnkjaaGreatZBY1
import Derived.Test.YtolilbcpfdnkjaaGreatZBPM1
namespace Go.Proofs.YtolilbcpfdnkjaaGreat
open Go.RowKit
set_option linter.unusedSimpArgs false
set_option linter.unusedVariables false
theorem WStep.toBelow {g B : Nat} {w w' : World} {v v' : Value} {l : List UInt8} (h : WStep g w v w' v') (hw : WrAt w g v l) (hB : B ≤ g) : Below B w w' :=
  h.1.toBelow (Nat.le_trans hB (Nat.le_of_lt hw.lt)) (fun i q => q.elim (fun e => by omega) (fun e => by have := (hw.vlt e).1; omega))
/-- A directory's bytes. -/
def dirB (L : List Itm) (d : Int) : List UInt8 := beB d.toNat 2 ++ beB (entries L d).length 2 ++ (entries L d).flatMap entB
/-- A tree's image. -/
def imgB (L : List Itm) (next : Int) : List UInt8 := beB next.toNat 8 ++ beB (dirsT L).length 2 ++ (dirsT L).flatMap (dirB L)
theorem ents_fit {L : List Itm} {next : Int} (h : TInv L next) (hn : next ≤ 9223372036854775807) (d : Int) : ∀ e ∈ entries L d, EntOk e := fun e he => by
  have hm := mem_entries'.1 he
  have h1 := h.gd _ hm
  have h2 := h.rg _ hm
  have h3 := h.cb _ hm
  dsimp only at h1 h2 h3
  unfold mayErr at h1
  split at h1
  · cases h1
  · rename_i q
    split at h1
    · cases h1
    · rename_i q2
      have q' : goodB e.name = true := by simpa using q
      unfold goodB at q'
      simp at q'
      refine ⟨q'.2.1, by omega, by omega, by omega, by omega, by omega, by omega⟩
theorem flat_entB (l : List Ent) (h : ∀ e ∈ l, e.name.size ≤ 255) : (l.flatMap entB).length ≤ l.length * 271 := by
  induction l with
  | nil => simp
  | cons x l ih =>
    have h1 := h x (List.mem_cons_self ..)
    have h2 := ih (fun e he => h e (List.mem_cons_of_mem _ he))
    rw [List.flatMap_cons, List.length_append, entB_len, List.length_cons]; omega
theorem dirB_len {L : List Itm} {next : Int} (h : TInv L next) (d : Int) : (dirB L d).length ≤ 60000 := by
  have h1 := ents_len h d
  have h2 := flat_entB (entries L d) (fun e he => by
    have hm := mem_entries'.1 he
    have h1 := h.gd _ hm
    dsimp only at h1
    unfold mayErr at h1
    split at h1
    · cases h1
    · rename_i q
      have q' : goodB e.name = true := by simpa using q
      unfold goodB at q'
      simp at q'
      exact q'.2.1)
  unfold dirB
  rw [List.length_append, List.length_append, beB_len, beB_len]
  have : (entries L d).length * 271 ≤ 200 * 271 := Nat.mul_le_mul_right _ h1
  omega
theorem take_dirB {L : List Itm} {next : Int} (h : TInv L next) (ds : List Int) (hd : ds.length ≤ 201) (j : Nat) : ((ds.take j).flatMap (dirB L)).length ≤ 12060000 := by
  have key : ∀ l : List Int, (l.flatMap (dirB L)).length ≤ l.length * 60000 := by
    intro l
    induction l with
    | nil => simp
    | cons x l ih =>
      have := dirB_len h x
      rw [List.flatMap_cons, List.length_append, List.length_cons]; omega
  have h1 := key (ds.take j)
  have h2 : (ds.take j).length * 60000 ≤ 201 * 60000 := Nat.mul_le_mul_right _ (by rw [List.length_take]; omega)
  omega
def EncT (W0 : World) (gw : Nat) (v0 : Value) (pre : List UInt8) (L : List Itm) (ds : List Int) (iv : Value) (wr : World) : Prop :=
  ∃ (j : Nat) (v' : Value), iv = .int .i64 j ∧ j ≤ ds.length ∧ WrAt wr gw v' (pre ++ (ds.take j).flatMap (dirB L)) ∧ WStep gw W0 v0 wr v'
def EncU (W0 : World) (gw : Nat) (v0 : Value) (pre : List UInt8) (es : List Ent) (iv : Value) (wr : World) : Prop :=
  ∃ (k : Nat) (v' : Value), iv = .int .i64 k ∧ k ≤ es.length ∧ WrAt wr gw v' (pre ++ (es.take k).flatMap entB) ∧ WStep gw W0 v0 wr v'
set_option maxRecDepth 100000 in
set_option maxHeartbeats 2000000 in
theorem iencode_any {w : World} {F : Nat → Prop} {g : Nat} {L : List Itm} {next : Int} (h : TreeM w F g L next) (hi : TInv L next) (hnm : next ≤ 9223372036854775807) :
    Calls Tryz.prog 31 #[.pointer (some ⟨g, 0, none⟩)] w fun e w' => e = .returned (.string ⟨(imgB L next).toArray⟩) ∧ Below w.heap.size w w' := by
  have hnx := hi.nx
  obtain ⟨N, rfl⟩ : ∃ N : Nat, next = N := ⟨next.toNat, by omega⟩
  have HTM := Lib.hid h
  have HTI := Lib.hid hi
  have hN := wrap_u64 (N : Int) (by omega) (by omega)
  rw [Int.toNat_natCast] at hN
  have hb1 : Below w.heap.size w (w.alloc (.cells #[.pointer none, .slice none 0 0] 123)) := (Below.refl _ w).alloc (Nat.le_refl _) _
  have hx := m_alloc w (.cells #[.pointer none, .slice none 0 0] 123) w.heap.size rfl
  clear h hi
  go_enter Tryz.func31, Tryz.ntmps31
  go_wp2_with fail
  obtain ⟨gw, hgw⟩ : ∃ gw, w.heap.size = gw := ⟨_, rfl⟩
  rw [hgw] at hx ⊢
  have HGW := Lib.hid hgw
  generalize (w.alloc (.cells #[.pointer none, .slice none 0 0] 123)) = w1 at *
  have hw1 : WrAt w1 gw (.slice none 0 0) [] := ⟨_, Or.inl rfl, hx, Row.nil _ _ _⟩
  have HW1 := Lib.hid hw1
  have HB1 := Lib.hid hb1
  have HTC := Lib.hid (tcookie_any (HTM.out.below hb1))
  clear hw1 hx hb1 hgw
  refine HTC.out.mono ?_
  rintro e _ ⟨rfl, rfl⟩
  go_wp2_with fail
  refine (wnumber_any N 8 HW1.out (by simp) (by omega) (by omega)).mono ?_
  rintro e w2 ⟨v2, rfl, hw2, hs2⟩
  have HW2 := Lib.hid hw2
  have HB2 := Lib.hid (HB1.out.trans (hs2.toBelow HW1.out (Nat.le_of_eq HGW.out)))
  have HTD := Lib.hid (tdirs_any (HTM.out.below HB2.out) HTI.out)
  clear hw2 hs2
  go_wp2_with fail
  refine HTD.out.mono ?_
  rintro e W0 ⟨dv, rfl, hdr, hb0⟩
  obtain ⟨da, dc, rfl⟩ := hdr.shape
  have HDR := Lib.hid hdr
  have hdl := dirsT_len L
  have HB0 := Lib.hid (HB2.out.trans (hb0.mono HB2.out.size))
  have HW0 := Lib.hid (HW2.out.below hb0)
  have HDRb := Lib.hid (show ∀ k, (Value.slice da (dirsT L).length dc).ownBlock = some k → ¬ (k = gw ∨ v2.ownBlock = some k) from fun k q e => by
    have h1 := HDR.out.ge q
    rcases e with e | e
    · have := HW2.out.lt; omega
    · have := (HW2.out.vlt e).2; omega)
  have HMEM := Lib.hid (fun x => dirsT_mem HTI.out x)
  obtain ⟨ds, hds⟩ : ∃ ds, dirsT L = ds := ⟨_, rfl⟩
  rw [hds] at HDR HDRb HMEM hdl ⊢
  have HDS := Lib.hid hds
  have hDn := wrap_u64 (ds.length : Int) (by omega) (by omega)
  rw [Int.toNat_natCast] at hDn
  clear hdr hb0 HTD hds
  go_wp2_with fail
  refine (wnumber_any ds.length 2 HW0.out (by simp [beB_len]) (by omega) (by omega)).mono ?_
  rintro e w3 ⟨v3, rfl, hw3, hs3⟩
  have HW3 := Lib.hid hw3
  have HS3 := Lib.hid hs3
  clear hw3 hs3
  go_wp2_with fail
  obtain ⟨pre, hpre⟩ : ∃ pre, beB N 8 ++ beB ds.length 2 = pre := ⟨_, rfl⟩
  have hpl : pre.length = 10 := by rw [← hpre, List.length_append, beB_len, beB_len]
  have HPRE := Lib.hid hpre
  have HSTART := Lib.hid (show EncT W0 gw v2 pre L ds (.int .i64 (0 : Nat)) w3 from ⟨0, v3, rfl, Nat.zero_le _, by rw [← hpre]; simpa using HW3.out, HS3.out⟩)
  clear hpre HW3 HS3 HTC HW1 HB1
  go_loopw [23] (fun iv wr => EncT W0 gw v2 pre L ds iv wr) (fun iv _ => ds.length - (intOf iv).toNat)
  case atStart => exact HSTART.out
  case round =>
    rename World => wr
    obtain ⟨j, vr, rfl, hj, hw, hs⟩ := hrel
    have HW := Lib.hid hw
    have HS := Lib.hid hs
    have HBr := Lib.hid (HB0.out.trans (hs.toBelow HW0.out (Nat.le_of_eq HGW.out)))
    have HDRr := Lib.hid (HDR.out.keep hs.1 (fun i q => HDRb.out i q))
    clear hw hs HSTART
    by_cases hjt : j < ds.length
    · have j1 : (j : Int) < ds.length := by omega
      obtain ⟨n, hn⟩ : ∃ n, ds[j]? = some n := ⟨_, List.getElem?_eq_getElem hjt⟩
      obtain ⟨g1, o1, rfl, c0⟩ := int_cell HDRr.out.arg j n hn
      have hd0 : isDirB L n = true := (HMEM.out n).1 (List.mem_of_getElem? hn)
      obtain ⟨m, rfl⟩ : ∃ m : Nat, n = m := ⟨n.toNat, by
        rcases (isDirB_iff L n).1 hd0 with e | ⟨i, hi, e, _⟩
        · omega
        · have := HTI.out.rg i hi; omega⟩
      have hm200 : m ≤ 200 := by
        rcases (isDirB_iff L m).1 hd0 with e | ⟨i, hi, e, _⟩
        · omega
        · have := HTI.out.rg i hi; omega
      have HTL := Lib.hid (tlist_any m (HTM.out.below HBr.out) (by have := HTI.out.len; omega))
      have HN := Lib.hid (show ds.take (j + 1) = ds.take j ++ [(m : Int)] from by rw [List.take_add_one, hn]; rfl)
      have hml := wrap_u64 (m : Int) (by omega) (by omega)
      rw [Int.toNat_natCast] at hml
      have he0 : listErr L m = 0 := by unfold listErr; rw [if_pos hd0]
      have hpl2 := take_dirB HTI.out ds hdl j
      obtain ⟨acc, hacc⟩ : ∃ acc, pre ++ (ds.take j).flatMap (dirB L) = acc := ⟨_, rfl⟩
      have hal : acc.length ≤ 20000000 := by rw [← hacc, List.length_append]; omega
      rw [hacc] at HW
      have HACC := Lib.hid hacc
      clear hn hpl2 hacc
      go_wp2_with fail
      refine HTL.out.mono ?_
      rintro e w5 ⟨lv, ll, rfl, hlr, hle, hb5⟩
      rw [he0]
      have hll : ll = entries L m := hle he0
      subst hll
      have hel := ents_len HTI.out (m : Int)
      obtain ⟨es, hes⟩ : ∃ es, entries L m = es := ⟨_, rfl⟩
      have HEOK := Lib.hid (show ∀ e ∈ es, EntOk e from by rw [← hes]; exact ents_fit HTI.out hnm m)
      rw [hes] at hlr hel
      obtain ⟨la, lc, rfl⟩ := hlr.shape
      have HLR := Lib.hid hlr
      have HES := Lib.hid hes
      have HW5 := Lib.hid (HW.out.below hb5)
      have HS5 := Lib.hid (HS.out.below hb5)
      have hln := wrap_u64 (es.length : Int) (by omega) (by omega)
      rw [Int.toNat_natCast] at hln
      clear hlr hb5 he0 hle hd0 hes
      go_wp2_with fail
      refine (wnumber_any m 2 HW5.out (by omega) (by omega) (by omega)).mono ?_
      rintro e w6 ⟨v6, rfl, hw6, hs6⟩
      have HW6 := Lib.hid hw6
      have HS6 := Lib.hid hs6
      clear hw6 hs6
      go_wp2_with fail
      refine (wnumber_any es.length 2 HW6.out (by rw [List.length_append, beB_len]; omega) (by omega) (by omega)).mono ?_
      rintro e w7 ⟨v7, rfl, hw7, hs7⟩
      have HS7 := Lib.hid (HS6.out.trans hs7)
      have HLRb := Lib.hid (show ∀ k, (Value.slice la es.length lc).ownBlock = some k → ¬ (k = gw ∨ vr.ownBlock = some k) from fun k q e => by
        have h1 := HLR.out.ge q
        rcases e with e | e
        · have := HW.out.lt; omega
        · have := (HW.out.vlt e).2; omega)
      obtain ⟨acc2, hacc2⟩ : ∃ acc2, acc ++ beB m 2 ++ beB es.length 2 = acc2 := ⟨_, rfl⟩
      have hal2 : acc2.length ≤ 20000004 := by rw [← hacc2, List.length_append, List.length_append, beB_len, beB_len]; omega
      have HACC2 := Lib.hid hacc2
      have HST2 := Lib.hid (show EncU w5 gw vr acc2 es (.int .i64 (0 : Nat)) w7 from ⟨0, v7, rfl, Nat.zero_le _, by rw [← hacc2]; simpa using hw7, HS7.out⟩)
      clear hw7 hs7 hacc2 HW6 HS6 HS7
      go_wp2_with fail
      go_loopw [42] (fun iv wx => EncU w5 gw vr acc2 es iv wx) (fun iv _ => es.length - (intOf iv).toNat)
      case atStart => exact HST2.out
      case round =>
        rename World => wx
        obtain ⟨k, vx, rfl, hk, hw, hs⟩ := hrel
        have HWx := Lib.hid hw
        have HSx := Lib.hid hs
        have HLRx := Lib.hid (HLR.out.keep hs.1 (fun i q => HLRb.out i q))
        clear hw hs HST2
        by_cases hkt : k < es.length
        · have k1 : (k : Int) < es.length := by omega
          obtain ⟨x, hx⟩ : ∃ x, es[k]? = some x := ⟨_, List.getElem?_eq_getElem hkt⟩
          obtain ⟨g2, o2, rfl, -, d0, d1, d2, d3, d4⟩ := ent_cells HLRx.out.arg k x hx
          have HXE := Lib.hid (show es.take (k + 1) = es.take k ++ [x] from by rw [List.take_add_one, hx]; rfl)
          have HXO := Lib.hid (HEOK.out x (List.mem_of_getElem? hx))
          have HSM := Lib.hid (show ∀ e ∈ es.take k, e.name.size ≤ 255 from fun e he => (HEOK.out e (List.mem_of_mem_take he)).1)
          clear hx
          have hk4 := flat_entB (es.take k) HSM.out
          have hk5 : (es.take k).length * 271 ≤ 200 * 271 := Nat.mul_le_mul_right _ (by rw [List.length_take]; omega)
          have HWR := Lib.hid (wentry_any x (HWx.out.below ((Below.refl _ wx).alloc (Nat.le_refl _) (.cells #[.string x.name, .int .i64 x.node, .bool x.dir, .int .i64 x.cookie, .int .i64 x.short] 84))) (by rw [List.length_append]; omega) HXO.out)
          clear hk4 hk5
          go_wp2_with fail
          refine HWR.out.mono ?_
          rintro e w8 ⟨v8, rfl, hw8, hs8⟩
          have HW8 := Lib.hid hw8
          have HS8 := Lib.hid (HSx.out.trans (hs8.behind ((Below.refl _ wx).alloc (Nat.le_refl _) _)))
          clear hw8 hs8
          go_wp2_with fail
          exact ⟨⟨k + 1, v8, by go_num, hkt, by rw [HXE.out, List.flatMap_append, ← List.append_assoc]; simpa using HW8.out, HS8.out⟩, by simp [intOf]; omega⟩
        · have ek : k = es.length := by omega
          subst ek
          have k2 : ¬ ((es.length : Int) < es.length) := by omega
          rw [List.take_length] at HWx
          go_wp2_with fail
          refine ⟨⟨j + 1, vx, by go_num, hjt, ?_, HS5.out.trans HSx.out⟩, by simp [intOf]; omega⟩
          rw [HN.out, List.flatMap_append, ← List.append_assoc, HACC.out]
          have e : [(m : Int)].flatMap (dirB L) = beB m 2 ++ beB es.length 2 ++ es.flatMap entB := by
            simp only [List.flatMap_cons, List.flatMap_nil, List.append_nil]
            unfold dirB
            rw [HES.out, Int.toNat_natCast]
          rw [e, ← List.append_assoc, ← List.append_assoc, HACC2.out]
          exact HWx.out
    · have ej : j = ds.length := by omega
      subst ej
      have j2 : ¬ ((ds.length : Int) < ds.length) := by omega
      rw [List.take_length] at HW
      have e : pre ++ ds.flatMap (dirB L) = imgB L N := by
        unfold imgB
        rw [HDS.out, ← HPRE.out, Int.toNat_natCast]
      have hl0 := take_dirB HTI.out ds hdl ds.length
      rw [List.take_length] at hl0
      have HSTR := Lib.hid (wstring_any HW.out (by intro q; have := congrArg List.length q; rw [List.length_append, List.length_nil] at this; omega) (by rw [List.length_append]; omega) (Nat.le_of_eq HGW.out))
      rw [e] at HSTR
      clear e hl0
      go_wp2_with fail
      refine HSTR.out.mono ?_
      rintro r w9 ⟨rfl, hb9⟩
      have HB9 := Lib.hid (HBr.out.trans hb9)
      clear hb9
      go_wp2_with fail
      go_ret
      exact ⟨rfl, HB9.out⟩
end Go.Proofs.YtolilbcpfdnkjaaGreat
