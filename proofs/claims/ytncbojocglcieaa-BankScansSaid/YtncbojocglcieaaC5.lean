/- bank's reference: Cut. -/
import Derived.Test.YtncbojocglcieaaC2
import Derived.Test.YtncbojocglcieaaCpK
import Derived.Deep.RegionLaw
namespace Go.Proofs.Ytncbojocglcieaa
open Go.RowKit
set_option linter.unusedSimpArgs false
set_option linter.unusedVariables false
def CutFr (w : World) (B : Nat) (L : List ByteArray) (ov iv : Value) (wr : World) : Prop :=
  ∃ j : Nat, iv = .int .i64 ((62 * j : Nat) : Int) ∧ j ≤ L.length ∧ Row EStr wr B ov (L.take j) ∧ Below B w wr
set_option maxRecDepth 10000 in
theorem cut_frame (r : ByteArray) (i k : Nat) (x0 x1 : UInt8) (hk : min (i + 62) r.size = k) (hi : i < r.size) (hr : r.size ≤ 65535) (h0 : ((r.size : Int) - i) / 256 = x0.toNat) (h1 : ((r.size : Int) - i) % 256 = x1.toNat) :
    ((((List.replicate 64 (0 : UInt8)).set 0 x0).set 1 x1).take 2 ++ (r.extract i k).data.toList ++ (((List.replicate 64 (0 : UInt8)).set 0 x0).set 1 x1).drop (2 + (r.extract i k).size)) = frameL (r.data.toList.drop i) := by
  have hl : (r.data.toList.drop i).length = r.size - i := by rw [List.length_drop, Array.length_toList]; rfl
  have hs : (r.extract i k).size = k - i := by rw [ByteArray.size_extract]; omega
  have e : (((List.replicate 64 (0 : UInt8)).set 0 x0).set 1 x1) = x0 :: x1 :: List.replicate 62 0 := rfl
  have f0 : x0 = UInt8.ofNat ((r.size - i) / 256 % 256) := by
    apply UInt8.toNat_inj.1
    rw [UInt8.toNat_ofNat']; omega
  have f1 : x1 = UInt8.ofNat ((r.size - i) % 256) := by
    apply UInt8.toNat_inj.1
    rw [UInt8.toNat_ofNat']; omega
  rw [e, hs]
  unfold frameL
  rw [hl, ← f0, ← f1]
  have e2 : (r.extract i k).data.toList = (r.data.toList.drop i).take 62 := by
    rw [Lib.extract_data]
    by_cases q : i + 62 ≤ r.size
    · rw [show k - i = 62 from by omega]
    · rw [List.take_of_length_le (by rw [hl]; omega), List.take_of_length_le (by rw [hl]; omega)]
  have e3 : (x0 :: x1 :: List.replicate 62 (0 : UInt8)).drop (2 + (k - i)) = List.replicate (62 - min (r.size - i) 62) 0 := by
    rw [Nat.add_comm]
    simp only [List.drop_succ_cons, List.drop_replicate]
    congr 1
    omega
  rw [e3, e2]
  rfl
set_option maxRecDepth 100000 in
set_option maxHeartbeats 2000000 in
theorem cut_ref (r : ByteArray) (w : World) (hr : r.size ≤ 65535) : Calls Try.prog 34 #[.string r] w fun e w' => ∃ v, e = .returned v ∧ Row EStr w' w.heap.size v (cutL r.data.toList) ∧ Below w.heap.size w w' := by
  obtain ⟨B, hB⟩ : ∃ B, w.heap.size = B := ⟨_, rfl⟩
  rw [hB]
  obtain ⟨L, hL⟩ : ∃ L, cutL r.data.toList = L := ⟨_, rfl⟩
  have hLl : L.length = nframes r.size := by rw [← hL, cutL_length, Array.length_toList]; rfl
  rw [hL]
  have HL := Lib.hid hL
  clear hL
  go_enter Try.func34, Try.ntmps34
  go_wp2_with fail
  go_loopw [3, 4] (fun ov iv wr => CutFr w B L ov iv wr) (fun _ iv _ => 70000 - (intOf iv).toNat)
  case atStart => exact ⟨0, rfl, Nat.zero_le _, Row.nil _ _ _, Below.refl _ _⟩
  case round =>
    obtain ⟨j, rfl, hj, ho, hb⟩ := hrel
    have HO := Lib.hid ho
    have HBW := Lib.hid hb
    have hBr : B ≤ wr.heap.size := by have := hb.size; omega
    obtain ⟨oa, oc, rfl⟩ := ho.shape
    have htl : (L.take j).length = j := by rw [List.length_take]; omega
    rw [htl] at HO ⊢
    have HTL := Lib.hid htl
    clear ho hb htl
    by_cases hlt : j < L.length
    · have hjr : 62 * j < r.size := by unfold nframes at hLl; omega
      obtain ⟨i, hi⟩ : ∃ i, 62 * j = i := ⟨_, rfl⟩
      rw [hi] at hjr ⊢
      have i1 : (i : Int) < r.size := by omega
      have i2 : (i : Int) ≤ r.size := by omega
      have i3 : (0 : Int) ≤ r.size - i := by omega
      obtain ⟨k, hk⟩ : ∃ k, min (i + 62) r.size = k := ⟨_, rfl⟩
      have hki : min ((i : Int) + 62) r.size = k := by omega
      have hk1 : i ≤ k := by omega
      have hk2 : k ≤ r.size := by omega
      have hk3 : k ≤ i + 62 := by omega
      have HK := Lib.hid hk
      have HI := Lib.hid hi
      obtain ⟨G, hG⟩ : ∃ G, wr.heap.size = G := ⟨_, rfl⟩
      clear hk hi
      go_wp2_with (first
        | (refine make_row (E := EByt) (B := wr.heap.size) (z := .int .u8 0) (0 : UInt8) (by kernel_rfl) (by rfl) rfl 60 Try.underlying60 _ _ rfl 64 64 64 rfl rfl rfl rfl (by decide) (by decide) (Nat.le_refl _) ?_
           intro w1 hr1 hb1
           obtain ⟨g', cap', e', _, hgl, _, _, hcell, hfr⟩ := hr1.slice (by decide)
           simp only [Value.slice.injEq, Option.some.injEq, Addr.mk.injEq] at e'
           obtain ⟨⟨rfl, -, -⟩, -, -⟩ := e'
           have hx0 : w1.cell? ⟨wr.heap.size, 0, none⟩ = some (.int .u8 0) := by have := hcell 0 0 rfl 0 (by decide); simpa [EByt] using this
           have hx1 : w1.cell? ⟨wr.heap.size, 1, none⟩ = some (.int .u8 0) := by have := hcell 1 0 rfl 0 (by decide); simpa [EByt] using this
           have hf0 := hfr 0
           have hf1 := hfr 1
           have HR1 := Lib.hid hr1
           have HB1 := Lib.hid hb1
           rw [hG] at hx0 hx1 hf0 hf1 HR1 HB1
           clear hcell hfr hr1 hb1))
      obtain ⟨x0, hx0'⟩ : ∃ x : UInt8, ((r.size : Int) - i) / 256 = x.toNat := ⟨UInt8.ofNat ((r.size - i) / 256), by simp; omega⟩
      obtain ⟨x1, hx1'⟩ : ∃ x : UInt8, ((r.size : Int) - i) % 256 = x.toNat := ⟨UInt8.ofNat ((r.size - i) % 256), by simp; omega⟩
      rw [hx0', hx1']
      have hr2 := (HR1.out.set1 rfl 0 x0 (.int .u8 x0.toNat) rfl).set1 rfl 1 x1 (.int .u8 x1.toNat) rfl
      have hk2 := ((Keep.refl (fun k => k = G) w1).set G 0 (.int .u8 x0.toNat) (Or.inl rfl)).set G 1 (.int .u8 x1.toNat) (Or.inl rfl)
      have HX0 := Lib.hid hx0'
      have HX1 := Lib.hid hx1'
      have HR2 := Lib.hid hr2
      have HK2 := Lib.hid hk2
      clear hx0 hx1 hf0 hf1 hx0' hx1' hr2 hk2
      generalize (w1.setCell ⟨G, 0, none⟩ (.int .u8 x0.toNat)).setCell ⟨G, 1, none⟩ (.int .u8 x1.toNat) = w2 at *
      have hxs : (r.extract i k).size ≤ 62 := by rw [ByteArray.size_extract]; omega
      have HX := Lib.hid hxs
      have hwz : IntKind.i64.wrap ((i : Int) + 62) = (i : Int) + 62 := IntWalk.i64_in _ (by omega)
      have kz1 : (0 : Int) ≤ k := by omega
      have kz2 : (k : Int) ≤ r.size := by omega
      have kz3 : (i : Int) ≤ k := by omega
      go_region_law
        (refine step_copy_str rfl _ _ rfl G 2 62 62 64 64 _ (r.extract i k) rfl rfl (HR2.out.qt (Qt.drewN w2 1)) HX.out ?c1 ?c2
         case c1 => (have := HX.out; simp only [List.length_set, List.length_replicate]; omega)
         intro w3 hr3 hk3)
      have hfe := cut_frame r i k x0 x1 HK.out hjr hr HX0.out HX1.out
      rw [hfe] at hr3
      have hLj : L[j]? = some (frB (r.data.toList.drop i)) := by
        rw [← HL.out]; unfold cutL
        rw [List.getElem?_map, List.getElem?_range (by rw [Array.length_toList]; show j < nframes r.size; rw [← hLl]; exact hlt)]
        simp only [Option.map_some]
        rw [show j * 62 = i from by rw [← HI.out, Nat.mul_comm]]
      have hLs : L.take (j + 1) = L.take j ++ [frB (r.data.toList.drop i)] := by
        obtain ⟨p1, p2⟩ := List.getElem?_eq_some_iff.1 hLj
        rw [List.take_succ_eq_append_getElem p1, p2]
      have hfb : (⟨(frameL (r.data.toList.drop i)).toArray⟩ : ByteArray) = frB (r.data.toList.drop i) := rfl
      have hb3 : Below wr.heap.size wr w3 := by
        have k1 : Keep (fun k => k = G) w1 w3 := HK2.out.trans (((Keep.refl (fun k => k = G) w2).drew).trans hk3)
        have := k1.toBelow (B := wr.heap.size) (by have := HB1.out.size; omega) (fun i q => by omega)
        exact (show Below wr.heap.size wr w1 from hG ▸ HB1.out).trans this
      have HO3 := Lib.hid (HO.out.below hb3)
      have HB3 := Lib.hid (HBW.out.trans (hb3.mono hBr))
      have hBr3 : B ≤ w3.heap.size := Nat.le_trans hBr hb3.size
      have HR3 := Lib.hid hr3
      have HLS := Lib.hid hLs
      clear hr3 hk3 hfe hLj hLs hb3 hwz kz1 kz2 kz3
      have HFB := Lib.hid hfb
      have hj2 : j + 1 ≤ 2000 := by unfold nframes at hLl; omega
      clear hfb
      generalize frB (r.data.toList.drop i) = X at *
      go_wp2_with (first
        | (refine conv_row rfl _ rfl _ _ rfl HR3.out ?_; rw [HFB.out])
        | (refine app_row EStr.laid rfl _ _ 49 49 Try.underlying49 Try.underlying49 rfl _ (L.take j) rfl (HO3.out.alloc _) _ [X] rfl ?e1 ?e2 ?e3 (Nat.le_trans hBr3 (by simp)) ?_
           case e1 => exact Arg.blk (m_alloc _ _ _ rfl) [X] rfl 1
           case e2 => (rw [HTL.out]; show (j + 1) * 16 ≤ _; omega)
           case e3 => (rw [HTL.out]; show j + 1 ≤ maxLen; unfold maxLen; omega)
           intro v6 w6 hr6 hv6 k6))
      rw [← HLS.out] at hr6
      have hb6 : Below B w w6 := (HB3.out.alloc (by omega) _).trans (k6.toBelow (by simp; omega) (fun k q => HO3.out.ge q.symm))
      refine ⟨⟨j + 1, ?_, hlt, hr6, hb6⟩, by simp [intOf]; omega⟩
      have := HI.out
      go_num
    · have ej : j = L.length := by omega
      subst ej
      have hjr : ¬ (((62 * L.length : Nat) : Int) < r.size) := by unfold nframes at hLl; omega
      have hjr2 : (r.size : Int) ≤ ((62 * L.length : Nat) : Int) := by omega
      go_wp2_with fail
      go_ret
      have := HO.out
      rw [List.take_length] at this
      exact ⟨_, rfl, (show Row EStr wr B (Value.slice oa (nframes r.size) oc) L by rw [← hLl]; exact this), HBW.out⟩
end Go.Proofs.Ytncbojocglcieaa
