/- Lemmas, texts IMD IME IMP IMG; no condition beyond those that each states. -/
import Derived.Test.YtolilbcpfdnkjaaGreatZBIMA
import Derived.Test.YtolilbcpfdnkjaaGreatZBYB
import Derived.Test.YtolilbcpfdnkjaaGreatZBOr64
import Derived.Test.YtolilbcpfdnkjaaGreatZBCL1
import Derived.Test.YtolilbcpfdnkjaaGreatZBYC
/- image: the reference's. -/
namespace Go.Proofs.YtolilbcpfdnkjaaGreat
open Go.RowKit
set_option linter.unusedSimpArgs false
set_option linter.unusedVariables false
theorem rrow_free {w : World} {B g n cap : Nat} {l : List UInt8} (h : Row EByt w B (.slice (some ⟨g, 0, none⟩) n cap) l) (i : Nat) : w.frozen? ⟨g, i, none⟩ = false := by
  rcases h.2 with ⟨h1, _⟩ | ⟨g2, cap2, cur, e, _, hh, _, _, hs, _⟩
  · cases h1
  · simp only [Value.slice.injEq, Option.some.injEq, Addr.mk.injEq] at e
    obtain ⟨⟨rfl, -, -⟩, -, rfl⟩ := e
    exact (m_cells hh).2 i
theorem rrow_cell {w : World} {B g n cap : Nat} {l : List UInt8} (h : Row EByt w B (.slice (some ⟨g, 0, none⟩) n cap) l) {i : Nat} (hi : i < l.length) : ∃ u, w.cell? ⟨g, i, none⟩ = some u := by
  have h0 : l ≠ [] := fun e => by rw [e] at hi; simp at hi
  obtain ⟨g2, cap2, e, _, _, _, _, hc, _⟩ := h.slice h0
  simp only [Value.slice.injEq, Option.some.injEq, Addr.mk.injEq] at e
  obtain ⟨⟨rfl, -, -⟩, -, rfl⟩ := e
  have := hc i _ (List.getElem?_eq_getElem hi) 0 (by decide)
  exact ⟨_, by simpa [EByt] using this⟩
theorem rem_u8 (q : Nat) : IntKind.u8.wrap ((q : Int).tmod 256) = ((UInt8.ofNat (q % 256)).toNat : Int) := by
  rw [Int.tmod_eq_emod_of_nonneg (by omega)]
  show ((q : Int) % 256) % 256 = _
  simp
def RnumT (w : World) (g : Nat) (n k : Nat) (nv iv : Value) (wr : World) : Prop :=
  ∃ j : Nat, j ≤ k ∧ nv = .int .i64 ((n / 256 ^ j : Nat) : Int) ∧ iv = .int .i64 ((k : Int) - 1 - j) ∧ Row EByt wr g (.slice (some ⟨g, 0, none⟩) k k) (List.replicate (k - j) 0 ++ (beB n k).drop (k - j)) ∧ Below w.heap.size w wr
set_option maxRecDepth 100000 in
set_option maxHeartbeats 2000000 in
theorem rnumber_any (w : World) (n k : Nat) (hn : n ≤ 9223372036854775807) (hk : k ≤ 8) :
    Calls Tryz.prog 67 #[.int .i64 n, .int .i64 k] w fun e w' => ∃ v, e = .returned v ∧ Row EByt w' w.heap.size v (beB n k) ∧ Below w.heap.size w w' := by
  go_enter Tryz.func67, Tryz.ntmps67
  go_wp2_with (refine make_row (E := EByt) (z := .int .u8 0) (B := w.heap.size) (0 : UInt8) (by kernel_rfl) rfl rfl 69 Tryz.underlying69 _ _ rfl (k : Int) (k : Int) k rfl rfl rfl rfl (by show 1 * k ≤ _; omega) (by unfold maxLen; omega) (Nat.le_refl _) ?_; intro w1 hr1 hb1; have HR1 := Lib.hid hr1; have HB1 := Lib.hid hb1; clear hr1 hb1)
  obtain ⟨g, hg⟩ : ∃ g, w.heap.size = g := ⟨_, rfl⟩
  rw [hg] at HR1 ⊢
  have HG := Lib.hid hg
  clear hg
  go_loopw [0, 6] (fun nv iv wr => RnumT w g n k nv iv wr) (fun _ iv _ => (intOf iv + 1).toNat)
  case atStart => exact ⟨0, Nat.zero_le _, by simp, by simp, by rw [Nat.sub_zero, List.drop_of_length_le (by rw [beB_len]; exact Nat.le_refl _), List.append_nil]; exact HR1.out, HB1.out⟩
  case round =>
    obtain ⟨j, hj, rfl, rfl, hr, hb⟩ := hrel
    have HR := Lib.hid hr
    have HB := Lib.hid hb
    have hrl := hr.lt rfl
    clear hr hb
    by_cases hjk : j < k
    · obtain ⟨m, hm⟩ : ∃ m, k - 1 - j = m := ⟨_, rfl⟩
      have em : ((k : Int) - 1 - j) = (m : Int) := by omega
      have hmk : m < k := by omega
      have hf : wr.frozen? ⟨g, m, none⟩ = false := rrow_free HR.out m
      obtain ⟨u, hu⟩ : ∃ u, wr.cell? ⟨g, m, none⟩ = some u := rrow_cell HR.out (by rw [List.length_append, List.length_replicate, List.length_drop, beB_len]; omega)
      obtain ⟨q, hq⟩ : ∃ q, n / 256 ^ j = q := ⟨_, rfl⟩
      have hqn : q ≤ n := by rw [← hq]; exact Nat.div_le_self _ _
      have e1 : IntKind.u8.wrap ((q : Int).tmod 256) = ((UInt8.ofNat (q % 256)).toNat : Int) := rem_u8 q
      obtain ⟨c, hc⟩ : ∃ c, UInt8.ofNat (q % 256) = c := ⟨_, rfl⟩
      have e2 : (q : Int).tdiv 256 = ((q / 256 : Nat) : Int) := by rw [Int.tdiv_eq_ediv_of_nonneg (by omega)]; omega
      rw [hc] at e1
      rw [hq, em]
      have HC := Lib.hid hc
      have HQ := Lib.hid hq
      have h0 : (0 : Int) ≤ (m : Int) := by omega
      clear hc hq
      have e3 : ((q : Int) % 256) = (c.toNat : Int) := by rw [← HC.out]; simp
      go_wp2_with fail
      refine ⟨⟨j + 1, hjk, ?_, ?_, ?_, HB.out.setCell (show w.heap.size ≤ g from Nat.le_of_eq HG.out) _⟩, by simp [intOf] <;> omega⟩
      · rw [← HQ.out, Nat.pow_succ, ← Nat.div_div_eq_div_mul]
        congr 1
      · congr 1; push_cast; omega
      · have hset := Row.set1 (E := EByt) rfl HR.out m c (.int .u8 c.toNat) rfl
        have el : (List.replicate (k - j) (0 : UInt8) ++ (beB n k).drop (k - j)).set m c = List.replicate (k - (j + 1)) 0 ++ (beB n k).drop (k - (j + 1)) := by
          have h1 : k - j = m + 1 := by omega
          have h2 : k - (j + 1) = m := by omega
          rw [h1, h2]
          have h3 : (beB n k).drop m = c :: (beB n k).drop (m + 1) := by
            have h4 := beB_get n k m hmk
            rw [show k - 1 - m = j from by omega, HQ.out, HC.out] at h4
            obtain ⟨h5, h6⟩ := List.getElem?_eq_some_iff.1 h4
            rw [List.drop_eq_getElem_cons h5, h6]
          rw [h3, List.replicate_succ', List.append_assoc, List.set_append_right _ _ (by rw [List.length_replicate]; exact Nat.le_refl _), List.length_replicate, Nat.sub_self]
          rfl
        rw [el] at hset
        first | exact hset | (rw [e3]; exact hset)
    · have ej : j = k := by omega
      subst ej
      have em : ¬ (0 : Int) ≤ ((j : Int) - 1 - j) := by omega
      rw [Nat.sub_self, List.replicate_zero, List.nil_append, List.drop_zero] at HR
      go_wp2_with fail
      go_ret
      exact ⟨_, rfl, HR.out.mono (by have := HG.out; omega), HB.out⟩
end Go.Proofs.YtolilbcpfdnkjaaGreat

/- image: the reference's image. -/
namespace Go.Proofs.YtolilbcpfdnkjaaGreat
open Go.RowKit
set_option linter.unusedSimpArgs false
set_option linter.unusedVariables false
/-- What an append turns. -/
def OStep (w : World) (v : Value) (w' : World) (v' : Value) : Prop :=
  Keep (fun k => v.ownBlock = some k) w w' ∧ ∀ k, v'.ownBlock = some k → v.ownBlock = some k ∨ w.heap.size ≤ k
theorem OStep.refl (w : World) (v : Value) : OStep w v w v := ⟨Keep.refl _ _, fun _ q => Or.inl q⟩
theorem OStep.trans {w w1 w2 : World} {v v1 v2 : Value} (h1 : OStep w v w1 v1) (h2 : OStep w1 v1 w2 v2) : OStep w v w2 v2 :=
  ⟨h1.1.trans' h2.1 (fun i e => h1.2 i e), fun k q => (h2.2 k q).elim (h1.2 k) (fun e => Or.inr (Nat.le_trans h1.1.size e))⟩
theorem OStep.below {w w1 w2 : World} {v v1 : Value} (h1 : OStep w v w1 v1) (hb : Below w1.heap.size w1 w2) : OStep w v w2 v1 :=
  ⟨h1.1.trans' (Keep.below hb) (fun i q => Or.inr (Nat.le_trans h1.1.size q)), h1.2⟩
theorem OStep.toBelow {B : Nat} {w w' : World} {v v' : Value} {l : List UInt8} (h : OStep w v w' v') (hr : Row EByt w B v l) (hB : B ≤ w.heap.size) : Below B w w' :=
  h.1.toBelow hB (fun i q => hr.ge q)
/-- The bytes that are gathered: at w, of the call's own from B on. -/
structure OutT (B : Nat) (w0 : World) (v0 : Value) (w : World) (v : Value) (l : List UInt8) : Prop where
  r : Row EByt w B v l
  s : OStep w0 v0 w v
  g : B ≤ w0.heap.size
theorem OutT.below {B : Nat} {w0 w w' : World} {v0 v : Value} {l : List UInt8} (h : OutT B w0 v0 w v l) (hb : Below w.heap.size w w') : OutT B w0 v0 w' v l := ⟨h.r.below hb, h.s.below hb, h.g⟩
theorem OutT.app {B : Nat} {w0 w w' w2 : World} {v0 v v2 : Value} {l l2 : List UInt8} (h : OutT B w0 v0 w v l) (hb : Below w.heap.size w w') (hr : Row EByt w2 B v2 l2) (hv : ∀ k, v2.ownBlock = some k → v.ownBlock = some k ∨ w'.heap.size = k) (hk : Keep (fun k => some k = v.ownBlock) w' w2) : OutT B w0 v0 w2 v2 l2 := by
  refine ⟨hr, (h.s.below hb).trans ⟨hk.mono (fun i q => Or.inl q.symm), fun k q => (hv k q).imp id (fun e => Nat.le_of_eq e)⟩, h.g⟩
theorem OutT.ge {B : Nat} {w0 w : World} {v0 v : Value} {l : List UInt8} (h : OutT B w0 v0 w v l) : B ≤ w.heap.size := Nat.le_trans h.g h.s.1.size
theorem app_ok1 {n m : Nat} (h : n ≤ 50000000) (hm : m ≤ 1000000) : (n + m) * EByt.bytes ≤ 140737488355328 := by show (n + m) * 1 ≤ _; omega
theorem app_ok2 {n m : Nat} (h : n ≤ 50000000) (hm : m ≤ 1000000) : n + m ≤ maxLen := by unfold maxLen; omega
theorem len_up {n b : Nat} (h : n ≤ b) (hb : b ≤ 50000000) : n ≤ 50000000 := Nat.le_trans h hb
theorem snoc_len {l : List UInt8} {c : UInt8} {b : Nat} (h : l.length ≤ b) : (l ++ [c]).length ≤ b + 1 := by rw [List.length_append, List.length_singleton]; omega
theorem beB_app {l : List UInt8} {n k b : Nat} (h : l.length ≤ b) : (l ++ beB n k).length ≤ b + k := by rw [List.length_append, beB_len]; omega
theorem app_ok3 {n m : Nat} (h : n ≤ 50000000) (hm : m ≤ 255) : n + m ≤ 140737488355328 := by omega
theorem app_len {l : List UInt8} {s : ByteArray} (h : l.length ≤ 13000001) (hs : s.size ≤ 255) : (l ++ s.data.toList).length ≤ 13000256 := by
  have h2 : s.data.toList.length = s.size := by rw [Array.length_toList]; rfl
  rw [List.length_append, h2]; omega
theorem name_byte (s : ByteArray) (h : s.size ≤ 255) : ∃ c : UInt8, beB s.size 1 = [c] ∧ IntKind.u8.wrap (s.size : Int) = (c.toNat : Int) ∧ (s.size : Int) % 256 = (c.toNat : Int) := by
  refine ⟨UInt8.ofNat (s.size % 256), by simp [beB], ?_, ?_⟩
  · show (s.size : Int) % 256 = _
    simp
  · simp
theorem dirb0 : beB (if (false : Bool) = true then 1 else 0) 1 = [(0 : UInt8)] := by decide +kernel
theorem dirb1 : beB (if True then 1 else 0) 1 = [(1 : UInt8)] := by decide +kernel
theorem beB_small (n k : Nat) (hk : k ≤ 8) : (beB n k).length ≤ 1000000 := by rw [beB_len]; omega
def REncU (B : Nat) (w0 : World) (v0 : Value) (pre : List UInt8) (es : List Ent) (ov kv : Value) (wr : World) : Prop :=
  ∃ (k : Nat) (l : List UInt8), kv = .int .i64 k ∧ k ≤ es.length ∧ l = pre ++ (es.take k).flatMap entB ∧ OutT B w0 v0 wr ov l
def REncT (B : Nat) (w0 : World) (v0 : Value) (pre : List UInt8) (L : List Itm) (ds : List Int) (ov iv : Value) (wr : World) : Prop :=
  ∃ (j : Nat) (l : List UInt8), iv = .int .i64 j ∧ j ≤ ds.length ∧ l = pre ++ (ds.take j).flatMap (dirB L) ∧ OutT B w0 v0 wr ov l
set_option maxRecDepth 100000 in
set_option maxHeartbeats 2000000 in
theorem rimage_any {v : Value} {L : List Itm} (w : World) (next : Int) (h : Arg EItm w v L) (hi : TInv L next) (hn : next ≤ 9223372036854775807) :
    Calls Tryz.prog 33 #[.agg #[v, .int .i64 next]] w fun e w' => e = .returned (.string ⟨(imgB L next).toArray⟩) ∧ Below w.heap.size w w' := by
  obtain ⟨a, c, rfl⟩ := h.shape
  have hnx := hi.nx
  obtain ⟨N, rfl⟩ : ∃ N : Nat, next = N := ⟨next.toNat, by omega⟩
  have hb0 : Below w.heap.size w (w.alloc (.cells #[.slice a L.length c, .int .i64 N] 29)) := (Below.refl _ w).alloc (Nat.le_refl _) _
  have hx := m_alloc w (.cells #[.slice a L.length c, .int .i64 N] 29) w.heap.size rfl
  have HA := Lib.hid (h.below hb0)
  have HTI := Lib.hid hi
  have c1 : (w.alloc (.cells #[.slice a L.length c, .int .i64 N] 29)).cell? ⟨w.heap.size, 1, none⟩ = some (.int .i64 N) := (m_cells hx).1 1
  go_enter Tryz.func33, Tryz.ntmps33
  go_wp2_with fail
  obtain ⟨TB, hTB⟩ : ∃ TB, w.heap.size = TB := ⟨_, rfl⟩
  rw [hTB] at hx c1 ⊢
  generalize (w.alloc (.cells #[.slice a L.length c, .int .i64 N] 29)) = w1 at *
  have HTB := Lib.hid hTB
  have HX := Lib.hid hx
  have HB1 := Lib.hid hb0
  have HS1 : Hid (w1.heap.size ≤ w1.heap.size) := Lib.hid (Nat.le_refl _)
  clear hx hb0 hTB hi h
  refine (rnumber_any w1 N 8 (by omega) (by decide)).mono ?_
  rintro e w2 ⟨v2, rfl, hr2, hb2⟩
  obtain ⟨oa0, oc0, rfl⟩ := hr2.shape
  have HO0 := Lib.hid (show OutT w1.heap.size w2 (.slice oa0 (beB N 8).length oc0) w2 (.slice oa0 (beB N 8).length oc0) (beB N 8) from ⟨hr2, OStep.refl _ _, hb2.size⟩)
  have HB2 := Lib.hid hb2
  have c2 : w2.cell? ⟨TB, 0, none⟩ = some (.slice a L.length c) := cell_later hb2 ((m_cells HX.out).1 0)
  have c3 : w2.cell? ⟨TB, 1, none⟩ = some (.int .i64 N) := cell_later hb2 ((m_cells HX.out).1 1)
  have HRD := Lib.hid (rdirs_any w2 N (HA.out.below hb2) HTI.out)
  obtain ⟨l0, h0⟩ : ∃ z, beB N 8 = z := ⟨_, rfl⟩
  have hl0 : l0.length ≤ 8 := by rw [← h0, beB_len]; exact Nat.le_refl _
  rw [h0] at HO0 ⊢
  have H0 := Lib.hid h0
  clear hr2 hb2 c1 h0
  go_wp2_with fail
  refine HRD.out.mono ?_
  rintro e w3 ⟨dv, rfl, hdr, hb3⟩
  obtain ⟨da, dc, rfl⟩ := hdr.shape
  have hdl := dirsT_len L
  have HO1 := Lib.hid (show OutT w1.heap.size w3 (.slice oa0 l0.length oc0) w3 (.slice oa0 l0.length oc0) l0 from ⟨HO0.out.r.below hb3, OStep.refl _ _, Nat.le_trans HO0.out.g hb3.size⟩)
  have HMEM := Lib.hid (fun x => dirsT_mem HTI.out x)
  have HDRb := Lib.hid (show ∀ k, (Value.slice da (dirsT L).length dc).ownBlock = some k → (Value.slice oa0 l0.length oc0).ownBlock ≠ some k from fun k q e => by have h1 := hdr.ge q; have h2 := HO0.out.r.lt e; omega)
  obtain ⟨ds, hds⟩ : ∃ ds, dirsT L = ds := ⟨_, rfl⟩
  rw [hds] at hdr hdl HMEM HDRb ⊢
  have HDR := Lib.hid hdr
  have HB3 := Lib.hid (HB2.out.trans (hb3.mono HB2.out.size))
  have HDS := Lib.hid hds
  clear hdr hb3 hds HRD c2 c3
  go_wp2_with fail
  refine (rnumber_any _ (ds.length) 2 (by omega) (by decide)).mono ?_
  rintro e waA ⟨nvA, rfl, hnr, hnb⟩
  obtain ⟨naA, ncA, rfl⟩ := hnr.shape
  have HNRA := Lib.hid hnr
  have HNBA := Lib.hid hnb
  have HQA := Lib.hid (HO1.out.below hnb)
  have HLBA := Lib.hid (beB_small (ds.length) 2 (by decide))
  clear hnr hnb
  go_wp2_with (first
    | (refine app_row EByt.laid rfl _ _ 69 69 Tryz.underlying69 Tryz.underlying69 rfl (.slice oa0 l0.length oc0) l0 rfl HQA.out.r (.slice naA (beB (ds.length) 2).length ncA) (beB (ds.length) 2) rfl HNRA.out.arg ?e1 ?e2 ?e3 ?_
       case e1 => exact app_ok1 (show l0.length ≤ 50000000 by omega) HLBA.out
       case e2 => exact app_ok2 (show l0.length ≤ 50000000 by omega) HLBA.out
       case e3 => exact HQA.out.ge
       intro vA wA hr hv hk
       have HPA := Lib.hid (HQA.out.app (Below.refl _ _) hr hv hk)
       clear hr hv hk))
  obtain ⟨l1, hl1⟩ : ∃ z, l0 ++ beB (ds.length) 2 = z := ⟨_, rfl⟩
  have hll1 : l1.length ≤ 10 := by rw [← hl1, List.length_append, beB_len]; omega
  rw [hl1] at HPA
  obtain ⟨oaA, ocA, rfl⟩ := HPA.out.r.shape
  have Hl1 := Lib.hid hl1
  clear hl1
  have HST := Lib.hid (show REncT w1.heap.size w3 (.slice oa0 l0.length oc0) l1 L ds (.slice oaA l1.length ocA) (.int .i64 (0 : Nat)) wA from ⟨0, l1, rfl, Nat.zero_le _, by simp, HPA.out⟩)
  clear HPA HNRA HNBA HQA HLBA
  go_wp2_with fail
  go_loopw [3, 5] (fun ov iv wr => REncT w1.heap.size w3 (.slice oa0 l0.length oc0) l1 L ds ov iv wr) (fun _ iv _ => ds.length - (intOf iv).toNat)
  case atStart => exact HST.out
  case round =>
    rename World => wr
    obtain ⟨j, lj, rfl, hj, hlj, hout⟩ := hrel
    obtain ⟨oaj, ocj, rfl⟩ := hout.r.shape
    have HOJ := Lib.hid hout
    have HLJ := Lib.hid hlj
    have hbr : Below w1.heap.size w3 wr := hout.s.toBelow HO1.out.r HO1.out.g
    have HBR := Lib.hid (HB3.out.trans hbr)
    have HDRr := Lib.hid (HDR.out.keep hout.s.1 (fun i q e => HDRb.out i q e))
    have hxr := (hbr.block _ (by have := HTB.out; have := m_lt HX.out; omega)).trans ((HB3.out.block _ (m_lt HX.out)).trans HX.out)
    have hlb : lj.length ≤ 12060010 := by
      rw [hlj, List.length_append]
      have := take_dirB HTI.out ds hdl j
      omega
    clear hout hlj hbr HST
    by_cases hjt : j < ds.length
    · have j1 : (j : Int) < ds.length := by omega
      obtain ⟨n, hn⟩ : ∃ n, ds[j]? = some n := ⟨_, List.getElem?_eq_getElem hjt⟩
      obtain ⟨g1, o1, rfl, c0⟩ := int_cell HDRr.out.arg j n hn
      have hd0 : isDirB L n = true := (HMEM.out n).1 (List.mem_of_getElem? hn)
      obtain ⟨m, rfl⟩ : ∃ m : Nat, n = m := ⟨n.toNat, by
        rcases (isDirB_iff L n).1 hd0 with e | ⟨i, hi, e, _⟩
        · omega
        · have := HTI.out.rg i hi; omega⟩
      have hm200 : m ≤ 200 := by
        rcases (isDirB_iff L m).1 hd0 with e | ⟨i, hi, e, _⟩
        · omega
        · have := HTI.out.rg i hi; omega
      have HN := Lib.hid (show ds.take (j + 1) = ds.take j ++ [(m : Int)] from by rw [List.take_add_one, hn]; rfl)
      have HRL := Lib.hid (rlist_any wr.drew N m ((HA.out.below HBR.out).below (Below.refl _ wr).drew) HTI.out)
      have he0 : listErr L m = 0 := by unfold listErr; rw [if_pos hd0]
      have HE0 := Lib.hid he0
      have HSD := Lib.hid (show (fun w' : World => w'.cell? ⟨TB, 0, none⟩ = some (.slice a L.length c) ∧ w'.cell? ⟨TB, 1, none⟩ = some (.int .i64 N) ∧ w'.cell? ⟨g1, o1 + j, none⟩ = some (.int .i64 m)) wr.drew from ⟨(m_cells hxr).1 0, (m_cells hxr).1 1, c0⟩)
      clear hn hd0 he0 hxr c0
      go_wp2_with fail
      refine wp_region_held_drew (S := fun w' => w'.cell? ⟨TB, 0, none⟩ = some (.slice a L.length c) ∧ w'.cell? ⟨TB, 1, none⟩ = some (.int .i64 N) ∧ w'.cell? ⟨g1, o1 + j, none⟩ = some (.int .i64 m)) (by kernel_rfl) HSD.out (fun hHeld => ?_)
      refine take_on 0 26 (v := ?tv1) rfl rfl (by kernel_rfl) (by kernel_rfl) (by kernel_rfl) (fun _ _ _ h => h) (by rfl) ?ty1 (by assumption) ?tr1
      case ty1 => (intro w hSw; (try dsimp only at hSw); go_simp; (try with_reducible rfl))
      try simp only [Act.put, List.setIfInBounds_toArray, List.set_cons_zero, List.set_cons_succ]
      refine take_on 1 27 (v := ?tv2) rfl rfl (by kernel_rfl) (by kernel_rfl) (by kernel_rfl) (fun _ _ _ h => h) (by rfl) ?ty2 (by assumption) ?tr2
      case ty2 => (intro w hSw; (try dsimp only at hSw); go_simp; (try with_reducible rfl))
      try simp only [Act.put, List.setIfInBounds_toArray, List.set_cons_zero, List.set_cons_succ]
      refine take_on 2 28 (v := ?tv3) rfl rfl (by kernel_rfl) (by kernel_rfl) (by kernel_rfl) (fun _ _ _ h => h) (by rfl) ?ty3 (by assumption) ?tr3
      case ty3 => (intro w hSw; (try dsimp only at hSw); go_simp; (try with_reducible rfl))
      try simp only [Act.put, List.setIfInBounds_toArray, List.set_cons_zero, List.set_cons_succ]
      refine take_on 3 29 (v := ?tv4) rfl rfl (by kernel_rfl) (by kernel_rfl) (by kernel_rfl) (fun _ _ _ h => h) (by rfl) ?ty4 (by assumption) ?tr4
      case ty4 => (intro w hSw; (try dsimp only at hSw); go_simp; (try with_reducible rfl))
      try simp only [Act.put, List.setIfInBounds_toArray, List.set_cons_zero, List.set_cons_succ]
      refine take_on 4 30 (v := ?tv5) rfl rfl (by kernel_rfl) (by kernel_rfl) (by kernel_rfl) (fun _ _ _ h => h) (by rfl) ?ty5 (by assumption) ?tr5
      case ty5 => (intro w hSw; (try dsimp only at hSw); go_simp; (try with_reducible rfl))
      try simp only [Act.put, List.setIfInBounds_toArray, List.set_cons_zero, List.set_cons_succ]
      refine wpAnyH_ready (rs := [5]) (by kernel_rfl) (by simp) ?_
      refine AllReadyH.cons rfl (fun K hK => ?_) AllReadyH.nil
      go_simp
      refine HRL.out.mono ?_
      rintro e w5 ⟨lv, ll, rfl, hlr, hle, -, hb5⟩
      rw [HE0.out]
      have hll : ll = entries L m := hle HE0.out
      subst hll
      have HLR := Lib.hid hlr
      have HB5 := Lib.hid ((Below.refl wr.heap.size wr).drew.trans hb5)
      have hS5 : (fun w' : World => w'.cell? ⟨TB, 0, none⟩ = some (.slice a L.length c) ∧ w'.cell? ⟨TB, 1, none⟩ = some (.int .i64 N) ∧ w'.cell? ⟨g1, o1 + j, none⟩ = some (.int .i64 m)) w5 := by
        obtain ⟨q0, q1, q2⟩ := HSD.out
        exact ⟨cell_later hb5 q0, cell_later hb5 q1, cell_later hb5 q2⟩
      simp only []
      refine hK.out _ _ hS5 (fun hHeld => ?_)
      clear hK K
      try simp only [Act.put, List.setIfInBounds_toArray, List.set_cons_zero, List.set_cons_succ]
      refine take_on 6 25 (v := ?tv6) rfl rfl (by kernel_rfl) (by kernel_rfl) (by kernel_rfl) (fun _ _ _ h => h) (by rfl) ?ty6 (by assumption) ?tr6
      case ty6 => (intro w hSw; (try dsimp only at hSw); go_simp; (try with_reducible rfl))
      try simp only [Act.put, List.setIfInBounds_toArray, List.set_cons_zero, List.set_cons_succ]
      refine take_on 7 32 (v := ?tv7) rfl rfl (by kernel_rfl) (by kernel_rfl) (by kernel_rfl) (fun _ _ _ h => h) (by rfl) ?ty7 (by assumption) ?tr7
      case ty7 => (intro w hSw; (try dsimp only at hSw); go_simp; (try with_reducible rfl))
      try simp only [Act.put, List.setIfInBounds_toArray, List.set_cons_zero, List.set_cons_succ]
      refine take_on 8 33 (v := ?tv8) rfl rfl (by kernel_rfl) (by kernel_rfl) (by kernel_rfl) (fun _ _ _ h => h) (by rfl) ?ty8 (by assumption) ?tr8
      case ty8 => (intro w hSw; (try dsimp only at hSw); go_simp; (try with_reducible rfl))
      try simp only [Act.put, List.setIfInBounds_toArray, List.set_cons_zero, List.set_cons_succ]
      refine take_on 9 6 (v := ?tv9) rfl rfl (by kernel_rfl) (by kernel_rfl) (by kernel_rfl) (fun _ _ _ h => h) (by rfl) ?ty9 (by assumption) ?tr9
      case ty9 => (intro w hSw; (try dsimp only at hSw); go_simp; (try with_reducible rfl))
      try simp only [Act.put, List.setIfInBounds_toArray, List.set_cons_zero, List.set_cons_succ]
      refine take_on 10 7 (v := ?tv10) rfl rfl (by kernel_rfl) (by kernel_rfl) (by kernel_rfl) (fun _ _ _ h => h) (by rfl) ?ty10 (by assumption) ?tr10
      case ty10 => (intro w hSw; (try dsimp only at hSw); go_simp; (try with_reducible rfl))
      try simp only [Act.put, List.setIfInBounds_toArray, List.set_cons_zero, List.set_cons_succ]
      refine wpAnyH_done (by kernel_rfl) ?_ _
      go_wp2_with fail
      obtain ⟨la, lc, rfl⟩ := hlr.shape
      have HO5 := Lib.hid (show OutT w1.heap.size w5 (.slice oaj lj.length ocj) w5 (.slice oaj lj.length ocj) lj from ⟨HOJ.out.r.below HB5.out, OStep.refl _ _, Nat.le_trans HOJ.out.ge HB5.out.size⟩)
      have hel := ents_len HTI.out (m : Int)
      obtain ⟨es, hes⟩ : ∃ es, entries L m = es := ⟨_, rfl⟩
      have HEOK := Lib.hid (show ∀ e ∈ es, EntOk e from by rw [← hes]; exact ents_fit HTI.out hn m)
      rw [hes] at HLR hel ⊢
      have HES := Lib.hid hes
      have HLRb := Lib.hid (show ∀ k, (Value.slice la es.length lc).ownBlock = some k → (Value.slice oaj lj.length ocj).ownBlock ≠ some k from fun k q e => by have h1 := HLR.out.ge q; have h2 := HOJ.out.r.lt e; have h3 : wr.drew.heap.size = wr.heap.size := rfl; omega)
      clear hlr hb5 hle hes hS5 hHeld
      refine (rnumber_any _ (m) 2 (by omega) (by decide)).mono ?_
      rintro e waB ⟨nvB, rfl, hnr, hnb⟩
      obtain ⟨naB, ncB, rfl⟩ := hnr.shape
      have HNRB := Lib.hid hnr
      have HNBB := Lib.hid hnb
      have HQB := Lib.hid (HO5.out.below hnb)
      have HLBB := Lib.hid (beB_small (m) 2 (by decide))
      clear hnr hnb
      go_wp2_with (first
        | (refine app_row EByt.laid rfl _ _ 69 69 Tryz.underlying69 Tryz.underlying69 rfl (.slice oaj lj.length ocj) lj rfl HQB.out.r (.slice naB (beB (m) 2).length ncB) (beB (m) 2) rfl HNRB.out.arg ?e1 ?e2 ?e3 ?_
           case e1 => exact app_ok1 (show lj.length ≤ 50000000 by omega) HLBB.out
           case e2 => exact app_ok2 (show lj.length ≤ 50000000 by omega) HLBB.out
           case e3 => exact HQB.out.ge
           intro vB wB hr hv hk
           have HPB := Lib.hid (HQB.out.app (Below.refl _ _) hr hv hk)
           clear hr hv hk))
      obtain ⟨l2, hl2⟩ : ∃ z, lj ++ beB (m) 2 = z := ⟨_, rfl⟩
      have hll2 : l2.length ≤ 12060012 := by rw [← hl2, List.length_append, beB_len]; omega
      rw [hl2] at HPB
      obtain ⟨oaB, ocB, rfl⟩ := HPB.out.r.shape
      have Hl2 := Lib.hid hl2
      clear hl2
      go_wp2_with fail
      refine (rnumber_any _ (es.length) 2 (by omega) (by decide)).mono ?_
      rintro e waC ⟨nvC, rfl, hnr, hnb⟩
      obtain ⟨naC, ncC, rfl⟩ := hnr.shape
      have HNRC := Lib.hid hnr
      have HNBC := Lib.hid hnb
      have HQC := Lib.hid (HPB.out.below hnb)
      have HLBC := Lib.hid (beB_small (es.length) 2 (by decide))
      clear hnr hnb
      go_wp2_with (first
        | (refine app_row EByt.laid rfl _ _ 69 69 Tryz.underlying69 Tryz.underlying69 rfl (.slice oaB l2.length ocB) l2 rfl HQC.out.r (.slice naC (beB (es.length) 2).length ncC) (beB (es.length) 2) rfl HNRC.out.arg ?e1 ?e2 ?e3 ?_
           case e1 => exact app_ok1 (show l2.length ≤ 50000000 by omega) HLBC.out
           case e2 => exact app_ok2 (show l2.length ≤ 50000000 by omega) HLBC.out
           case e3 => exact HQC.out.ge
           intro vC wC hr hv hk
           have HPC := Lib.hid (HQC.out.app (Below.refl _ _) hr hv hk)
           clear hr hv hk))
      obtain ⟨l3, hl3⟩ : ∃ z, l2 ++ beB (es.length) 2 = z := ⟨_, rfl⟩
      have hll3 : l3.length ≤ 12060014 := by rw [← hl3, List.length_append, beB_len]; omega
      rw [hl3] at HPC
      obtain ⟨oaC, ocC, rfl⟩ := HPC.out.r.shape
      have Hl3 := Lib.hid hl3
      clear hl3
      have HST2 := Lib.hid (show REncU w1.heap.size w5 (.slice oaj lj.length ocj) l3 es (.slice oaC l3.length ocC) (.int .i64 (0 : Nat)) wC from ⟨0, l3, rfl, Nat.zero_le _, by simp, HPC.out⟩)
      clear HPB HPC HNRB HNBB HQB HLBB HNRC HNBC HQC HLBC
      go_wp2_with fail
      go_loopw [3, 8] (fun ov kv wx => REncU w1.heap.size w5 (.slice oaj lj.length ocj) l3 es ov kv wx) (fun _ kv _ => es.length - (intOf kv).toNat)
      case atStart => exact HST2.out
      case round =>
        rename World => wx
        obtain ⟨k, lk, rfl, hk, hlk, hout⟩ := hrel
        obtain ⟨oak, ock, rfl⟩ := hout.r.shape
        have HOK := Lib.hid hout
        have HLK := Lib.hid hlk
        have HLRx := Lib.hid (HLR.out.keep hout.s.1 (fun i q e => HLRb.out i q e))
        clear hout HST2
        by_cases hkt : k < es.length
        · have k1 : (k : Int) < es.length := by omega
          obtain ⟨x, hx⟩ : ∃ x, es[k]? = some x := ⟨_, List.getElem?_eq_getElem hkt⟩
          obtain ⟨g2, o2, rfl, -, d0, d1, d2, d3, d4⟩ := ent_cells HLRx.out.arg k x hx
          have HXE := Lib.hid (show es.take (k + 1) = es.take k ++ [x] from by rw [List.take_add_one, hx]; rfl)
          have HXO := Lib.hid (HEOK.out x (List.mem_of_getElem? hx))
          have hlkb : lk.length ≤ 13000000 := by
            have h4 := flat_entB (es.take k) (fun e he => (HEOK.out e (List.mem_of_mem_take he)).1)
            have h5 : (es.take k).length * 271 ≤ 200 * 271 := Nat.mul_le_mul_right _ (by rw [List.length_take]; omega)
            rw [hlk, List.length_append]; omega
          have HX := Lib.hid hx
          obtain ⟨nm, nd, dr, ck, sh⟩ := x
          obtain ⟨x1, x2, x3, x4, x5, x6, x7⟩ := HXO.out
          dsimp only at x1 x2 x3 x4 x5 x6 x7 d0 d1 d2 d3 d4
          obtain ⟨n1, rfl⟩ : ∃ n : Nat, nd = n := ⟨nd.toNat, by omega⟩
          obtain ⟨n2, rfl⟩ : ∃ n : Nat, ck = n := ⟨ck.toNat, by omega⟩
          obtain ⟨n3, rfl⟩ : ∃ n : Nat, sh = n := ⟨sh.toNat, by omega⟩
          have X3 := Lib.hid (show n1 ≤ 9223372036854775807 by omega)
          have X5 := Lib.hid (show n2 ≤ 9223372036854775807 by omega)
          have X7 := Lib.hid (show n3 ≤ 9223372036854775807 by omega)
          obtain ⟨cz, hcz, hcz2, hcz3⟩ := name_byte nm x1
          have HCZ := Lib.hid hcz
          clear hx hlk x2 x3 x4 x5 x6 x7 hcz
          go_wp2_with (first
            | (refine app_row EByt.laid rfl _ _ 69 69 Tryz.underlying69 Tryz.underlying69 rfl (.slice oak lk.length ock) lk rfl (HOK.out.r.alloc _) _ [cz] rfl ?e0 ?e1 ?e2 ?e3 ?_
               case e0 => exact Arg.blk (m_alloc _ _ _ rfl) [cz] rfl 1
               case e1 => exact app_ok1 (m := 1) (len_up hlkb (by decide)) (by decide)
               case e2 => exact app_ok2 (m := 1) (len_up hlkb (by decide)) (by decide)
               case e3 => exact (HOK.out.below ((Below.refl _ _).alloc (Nat.le_refl _) _)).ge
               intro vD wD hr hv hk
               have HPD := Lib.hid (HOK.out.app ((Below.refl _ _).alloc (Nat.le_refl _) _) hr hv hk)
               clear hr hv hk
               obtain ⟨l4, hl4⟩ : ∃ z, lk ++ [cz] = z := ⟨_, rfl⟩
               have hll4 : l4.length ≤ 13000001 := by rw [← hl4]; exact snoc_len hlkb
               rw [hl4] at HPD
               obtain ⟨oaD, ocD, rfl⟩ := HPD.out.r.shape
               have Hl4 := Lib.hid hl4
               clear hl4
               clear d0 d1 d2 d3 d4
               obtain ⟨_, _, e9, -, d0, d1, d2, d3, d4⟩ := ent_cells (HLR.out.keep HPD.out.s.1 (fun i q e => HLRb.out i q e)).arg k ⟨nm, n1, dr, n2, n3⟩ HX.out
               cases e9
               dsimp only at d0 d1 d2 d3 d4)
            | (refine app_str rfl _ _ rfl (.slice oaD l4.length ocD) l4 rfl HPD.out.r nm rfl ?e2 ?e4 ?_
               case e2 => exact app_ok3 (len_up hll4 (by decide)) x1
               case e4 => exact HPD.out.ge
               intro vE wE hr hv hk
               have HPE := Lib.hid (HPD.out.app (Below.refl _ _) hr hv hk)
               clear hr hv hk
               obtain ⟨l5, hl5⟩ : ∃ z, l4 ++ nm.data.toList = z := ⟨_, rfl⟩
               have hll5 : l5.length ≤ 13000256 := by rw [← hl5]; exact app_len hll4 x1
               rw [hl5] at HPE
               obtain ⟨oaE, ocE, rfl⟩ := HPE.out.r.shape
               have Hl5 := Lib.hid hl5
               clear hl5
               clear d0 d1 d2 d3 d4
               obtain ⟨_, _, e9, -, d0, d1, d2, d3, d4⟩ := ent_cells (HLR.out.keep HPE.out.s.1 (fun i q e => HLRb.out i q e)).arg k ⟨nm, n1, dr, n2, n3⟩ HX.out
               cases e9
               dsimp only at d0 d1 d2 d3 d4))
          cases dr
          · refine (rnumber_any _ (n1) 2 X3.out (by decide)).mono ?_
            rintro e waG ⟨nvG, rfl, hnr, hnb⟩
            obtain ⟨naG, ncG, rfl⟩ := hnr.shape
            have HNRG := Lib.hid hnr
            have HQG := Lib.hid (HPE.out.below hnb)
            clear hnr hnb
            go_wp2_with (first
              | (refine app_row EByt.laid rfl _ _ 69 69 Tryz.underlying69 Tryz.underlying69 rfl (.slice oaE l5.length ocE) l5 rfl HQG.out.r (.slice naG (beB (n1) 2).length ncG) (beB (n1) 2) rfl HNRG.out.arg ?e1 ?e2 ?e3 ?_
                 case e1 => exact app_ok1 (len_up hll5 (by decide)) (beB_small _ _ (by decide))
                 case e2 => exact app_ok2 (len_up hll5 (by decide)) (beB_small _ _ (by decide))
                 case e3 => exact HQG.out.ge
                 intro vG wG hr hv hk
                 have HPG := Lib.hid (HQG.out.app (Below.refl _ _) hr hv hk)
                 clear hr hv hk
                 obtain ⟨l6, hl6⟩ : ∃ z, l5 ++ beB (n1) 2 = z := ⟨_, rfl⟩
                 have hll6 : l6.length ≤ 13000258 := by rw [← hl6]; exact beB_app hll5
                 rw [hl6] at HPG
                 obtain ⟨oaG, ocG, rfl⟩ := HPG.out.r.shape
                 have Hl6 := Lib.hid hl6
                 clear hl6
                 clear d0 d1 d2 d3 d4
                 obtain ⟨_, _, e9, -, d0, d1, d2, d3, d4⟩ := ent_cells (HLR.out.keep HPG.out.s.1 (fun i q e => HLRb.out i q e)).arg k ⟨nm, n1, false, n2, n3⟩ HX.out
                 cases e9
                 dsimp only at d0 d1 d2 d3 d4)
              | (refine app_row EByt.laid rfl _ _ 69 69 Tryz.underlying69 Tryz.underlying69 rfl (.slice oaG l6.length ocG) l6 rfl (HPG.out.r.alloc _) _ [(0 : UInt8)] rfl ?e0 ?e1 ?e2 ?e3 ?_
                 case e0 => exact Arg.blk (m_alloc _ _ _ rfl) [(0 : UInt8)] rfl 1
                 case e1 => exact app_ok1 (m := 1) (len_up hll6 (by decide)) (by decide)
                 case e2 => exact app_ok2 (m := 1) (len_up hll6 (by decide)) (by decide)
                 case e3 => exact (HPG.out.below ((Below.refl _ _).alloc (Nat.le_refl _) _)).ge
                 intro vI wI hr hv hk
                 have HPI := Lib.hid (HPG.out.app ((Below.refl _ _).alloc (Nat.le_refl _) _) hr hv hk)
                 clear hr hv hk
                 obtain ⟨l7, hl7⟩ : ∃ z, l6 ++ [(0 : UInt8)] = z := ⟨_, rfl⟩
                 have hll7 : l7.length ≤ 13000259 := by rw [← hl7]; exact snoc_len hll6
                 rw [hl7] at HPI
                 obtain ⟨oaI, ocI, rfl⟩ := HPI.out.r.shape
                 have Hl7 := Lib.hid hl7
                 clear hl7
                 clear d0 d1 d2 d3 d4
                 obtain ⟨_, _, e9, -, d0, d1, d2, d3, d4⟩ := ent_cells (HLR.out.keep HPI.out.s.1 (fun i q e => HLRb.out i q e)).arg k ⟨nm, n1, false, n2, n3⟩ HX.out
                 cases e9
                 dsimp only at d0 d1 d2 d3 d4))
            refine (rnumber_any _ (n2) 8 X5.out (by decide)).mono ?_
            rintro e waJ ⟨nvJ, rfl, hnr, hnb⟩
            obtain ⟨naJ, ncJ, rfl⟩ := hnr.shape
            have HNRJ := Lib.hid hnr
            have HQJ := Lib.hid (HPI.out.below hnb)
            clear hnr hnb
            go_wp2_with (first
              | (refine app_row EByt.laid rfl _ _ 69 69 Tryz.underlying69 Tryz.underlying69 rfl (.slice oaI l7.length ocI) l7 rfl HQJ.out.r (.slice naJ (beB (n2) 8).length ncJ) (beB (n2) 8) rfl HNRJ.out.arg ?e1 ?e2 ?e3 ?_
                 case e1 => exact app_ok1 (len_up hll7 (by decide)) (beB_small _ _ (by decide))
                 case e2 => exact app_ok2 (len_up hll7 (by decide)) (beB_small _ _ (by decide))
                 case e3 => exact HQJ.out.ge
                 intro vJ wJ hr hv hk
                 have HPJ := Lib.hid (HQJ.out.app (Below.refl _ _) hr hv hk)
                 clear hr hv hk
                 obtain ⟨l8, hl8⟩ : ∃ z, l7 ++ beB (n2) 8 = z := ⟨_, rfl⟩
                 have hll8 : l8.length ≤ 13000267 := by rw [← hl8]; exact beB_app hll7
                 rw [hl8] at HPJ
                 obtain ⟨oaJ, ocJ, rfl⟩ := HPJ.out.r.shape
                 have Hl8 := Lib.hid hl8
                 clear hl8
                 clear d0 d1 d2 d3 d4
                 obtain ⟨_, _, e9, -, d0, d1, d2, d3, d4⟩ := ent_cells (HLR.out.keep HPJ.out.s.1 (fun i q e => HLRb.out i q e)).arg k ⟨nm, n1, false, n2, n3⟩ HX.out
                 cases e9
                 dsimp only at d0 d1 d2 d3 d4))
            refine (rnumber_any _ (n3) 4 X7.out (by decide)).mono ?_
            rintro e waM ⟨nvM, rfl, hnr, hnb⟩
            obtain ⟨naM, ncM, rfl⟩ := hnr.shape
            have HNRM := Lib.hid hnr
            have HQM := Lib.hid (HPJ.out.below hnb)
            clear hnr hnb
            go_wp2_with (first
              | (refine app_row EByt.laid rfl _ _ 69 69 Tryz.underlying69 Tryz.underlying69 rfl (.slice oaJ l8.length ocJ) l8 rfl HQM.out.r (.slice naM (beB (n3) 4).length ncM) (beB (n3) 4) rfl HNRM.out.arg ?e1 ?e2 ?e3 ?_
                 case e1 => exact app_ok1 (len_up hll8 (by decide)) (beB_small _ _ (by decide))
                 case e2 => exact app_ok2 (len_up hll8 (by decide)) (beB_small _ _ (by decide))
                 case e3 => exact HQM.out.ge
                 intro vM wM hr hv hk
                 have HPM := Lib.hid (HQM.out.app (Below.refl _ _) hr hv hk)
                 clear hr hv hk
                 obtain ⟨l9, hl9⟩ : ∃ z, l8 ++ beB (n3) 4 = z := ⟨_, rfl⟩
                 have hll9 : l9.length ≤ 13000271 := by rw [← hl9]; exact beB_app hll8
                 rw [hl9] at HPM
                 obtain ⟨oaM, ocM, rfl⟩ := HPM.out.r.shape
                 have Hl9 := Lib.hid hl9
                 clear hl9))
            refine ⟨⟨k + 1, l9, by go_num, hkt, ?_, HPM.out⟩, by simp [intOf]; omega⟩
            rw [HXE.out, List.flatMap_append, ← List.append_assoc, ← HLK.out]
            have e : [(⟨nm, n1, false, n2, n3⟩ : Ent)].flatMap entB = [cz] ++ nm.data.toList ++ beB n1 2 ++ [(0 : UInt8)] ++ beB n2 8 ++ beB n3 4 := by
              simp only [List.flatMap_cons, List.flatMap_nil, List.append_nil]
              unfold entB
              simp only [Int.toNat_natCast]
              rw [HCZ.out, dirb0]
            rw [e, ← Hl9.out, ← Hl8.out, ← Hl7.out, ← Hl6.out, ← Hl5.out, ← Hl4.out]
            simp only [List.append_assoc]
          · refine (rnumber_any _ (n1) 2 X3.out (by decide)).mono ?_
            rintro e waG ⟨nvG, rfl, hnr, hnb⟩
            obtain ⟨naG, ncG, rfl⟩ := hnr.shape
            have HNRG := Lib.hid hnr
            have HQG := Lib.hid (HPE.out.below hnb)
            clear hnr hnb
            go_wp2_with (first
              | (refine app_row EByt.laid rfl _ _ 69 69 Tryz.underlying69 Tryz.underlying69 rfl (.slice oaE l5.length ocE) l5 rfl HQG.out.r (.slice naG (beB (n1) 2).length ncG) (beB (n1) 2) rfl HNRG.out.arg ?e1 ?e2 ?e3 ?_
                 case e1 => exact app_ok1 (len_up hll5 (by decide)) (beB_small _ _ (by decide))
                 case e2 => exact app_ok2 (len_up hll5 (by decide)) (beB_small _ _ (by decide))
                 case e3 => exact HQG.out.ge
                 intro vG wG hr hv hk
                 have HPG := Lib.hid (HQG.out.app (Below.refl _ _) hr hv hk)
                 clear hr hv hk
                 obtain ⟨l6, hl6⟩ : ∃ z, l5 ++ beB (n1) 2 = z := ⟨_, rfl⟩
                 have hll6 : l6.length ≤ 13000258 := by rw [← hl6]; exact beB_app hll5
                 rw [hl6] at HPG
                 obtain ⟨oaG, ocG, rfl⟩ := HPG.out.r.shape
                 have Hl6 := Lib.hid hl6
                 clear hl6
                 clear d0 d1 d2 d3 d4
                 obtain ⟨_, _, e9, -, d0, d1, d2, d3, d4⟩ := ent_cells (HLR.out.keep HPG.out.s.1 (fun i q e => HLRb.out i q e)).arg k ⟨nm, n1, true, n2, n3⟩ HX.out
                 cases e9
                 dsimp only at d0 d1 d2 d3 d4)
              | (refine app_row EByt.laid rfl _ _ 69 69 Tryz.underlying69 Tryz.underlying69 rfl (.slice oaG l6.length ocG) l6 rfl (HPG.out.r.alloc _) _ [(1 : UInt8)] rfl ?e0 ?e1 ?e2 ?e3 ?_
                 case e0 => exact Arg.blk (m_alloc _ _ _ rfl) [(1 : UInt8)] rfl 1
                 case e1 => exact app_ok1 (m := 1) (len_up hll6 (by decide)) (by decide)
                 case e2 => exact app_ok2 (m := 1) (len_up hll6 (by decide)) (by decide)
                 case e3 => exact (HPG.out.below ((Below.refl _ _).alloc (Nat.le_refl _) _)).ge
                 intro vI wI hr hv hk
                 have HPI := Lib.hid (HPG.out.app ((Below.refl _ _).alloc (Nat.le_refl _) _) hr hv hk)
                 clear hr hv hk
                 obtain ⟨l7, hl7⟩ : ∃ z, l6 ++ [(1 : UInt8)] = z := ⟨_, rfl⟩
                 have hll7 : l7.length ≤ 13000259 := by rw [← hl7]; exact snoc_len hll6
                 rw [hl7] at HPI
                 obtain ⟨oaI, ocI, rfl⟩ := HPI.out.r.shape
                 have Hl7 := Lib.hid hl7
                 clear hl7
                 clear d0 d1 d2 d3 d4
                 obtain ⟨_, _, e9, -, d0, d1, d2, d3, d4⟩ := ent_cells (HLR.out.keep HPI.out.s.1 (fun i q e => HLRb.out i q e)).arg k ⟨nm, n1, true, n2, n3⟩ HX.out
                 cases e9
                 dsimp only at d0 d1 d2 d3 d4))
            refine (rnumber_any _ (n2) 8 X5.out (by decide)).mono ?_
            rintro e waJ ⟨nvJ, rfl, hnr, hnb⟩
            obtain ⟨naJ, ncJ, rfl⟩ := hnr.shape
            have HNRJ := Lib.hid hnr
            have HQJ := Lib.hid (HPI.out.below hnb)
            clear hnr hnb
            go_wp2_with (first
              | (refine app_row EByt.laid rfl _ _ 69 69 Tryz.underlying69 Tryz.underlying69 rfl (.slice oaI l7.length ocI) l7 rfl HQJ.out.r (.slice naJ (beB (n2) 8).length ncJ) (beB (n2) 8) rfl HNRJ.out.arg ?e1 ?e2 ?e3 ?_
                 case e1 => exact app_ok1 (len_up hll7 (by decide)) (beB_small _ _ (by decide))
                 case e2 => exact app_ok2 (len_up hll7 (by decide)) (beB_small _ _ (by decide))
                 case e3 => exact HQJ.out.ge
                 intro vJ wJ hr hv hk
                 have HPJ := Lib.hid (HQJ.out.app (Below.refl _ _) hr hv hk)
                 clear hr hv hk
                 obtain ⟨l8, hl8⟩ : ∃ z, l7 ++ beB (n2) 8 = z := ⟨_, rfl⟩
                 have hll8 : l8.length ≤ 13000267 := by rw [← hl8]; exact beB_app hll7
                 rw [hl8] at HPJ
                 obtain ⟨oaJ, ocJ, rfl⟩ := HPJ.out.r.shape
                 have Hl8 := Lib.hid hl8
                 clear hl8
                 clear d0 d1 d2 d3 d4
                 obtain ⟨_, _, e9, -, d0, d1, d2, d3, d4⟩ := ent_cells (HLR.out.keep HPJ.out.s.1 (fun i q e => HLRb.out i q e)).arg k ⟨nm, n1, true, n2, n3⟩ HX.out
                 cases e9
                 dsimp only at d0 d1 d2 d3 d4))
            refine (rnumber_any _ (n3) 4 X7.out (by decide)).mono ?_
            rintro e waM ⟨nvM, rfl, hnr, hnb⟩
            obtain ⟨naM, ncM, rfl⟩ := hnr.shape
            have HNRM := Lib.hid hnr
            have HQM := Lib.hid (HPJ.out.below hnb)
            clear hnr hnb
            go_wp2_with (first
              | (refine app_row EByt.laid rfl _ _ 69 69 Tryz.underlying69 Tryz.underlying69 rfl (.slice oaJ l8.length ocJ) l8 rfl HQM.out.r (.slice naM (beB (n3) 4).length ncM) (beB (n3) 4) rfl HNRM.out.arg ?e1 ?e2 ?e3 ?_
                 case e1 => exact app_ok1 (len_up hll8 (by decide)) (beB_small _ _ (by decide))
                 case e2 => exact app_ok2 (len_up hll8 (by decide)) (beB_small _ _ (by decide))
                 case e3 => exact HQM.out.ge
                 intro vM wM hr hv hk
                 have HPM := Lib.hid (HQM.out.app (Below.refl _ _) hr hv hk)
                 clear hr hv hk
                 obtain ⟨l9, hl9⟩ : ∃ z, l8 ++ beB (n3) 4 = z := ⟨_, rfl⟩
                 have hll9 : l9.length ≤ 13000271 := by rw [← hl9]; exact beB_app hll8
                 rw [hl9] at HPM
                 obtain ⟨oaM, ocM, rfl⟩ := HPM.out.r.shape
                 have Hl9 := Lib.hid hl9
                 clear hl9))
            refine ⟨⟨k + 1, l9, by go_num, hkt, ?_, HPM.out⟩, by simp [intOf]; omega⟩
            rw [HXE.out, List.flatMap_append, ← List.append_assoc, ← HLK.out]
            have e : [(⟨nm, n1, true, n2, n3⟩ : Ent)].flatMap entB = [cz] ++ nm.data.toList ++ beB n1 2 ++ [(1 : UInt8)] ++ beB n2 8 ++ beB n3 4 := by
              simp only [List.flatMap_cons, List.flatMap_nil, List.append_nil]
              unfold entB
              simp only [Int.toNat_natCast]
              rw [HCZ.out, dirb1]
            rw [e, ← Hl9.out, ← Hl8.out, ← Hl7.out, ← Hl6.out, ← Hl5.out, ← Hl4.out]
            simp only [List.append_assoc]
        · have ek : k = es.length := by omega
          subst ek
          have k2 : ¬ ((es.length : Int) < es.length) := by omega
          clear hlk
          go_wp2_with fail
          refine ⟨⟨j + 1, lk, by go_num, hjt, ?_, ⟨HOK.out.r, (HOJ.out.s.below HB5.out).trans HOK.out.s, HO1.out.g⟩⟩, by simp [intOf]; omega⟩
          rw [HLK.out, List.take_length, HN.out, List.flatMap_append, ← List.append_assoc, ← HLJ.out]
          have e : [(m : Int)].flatMap (dirB L) = beB m 2 ++ beB es.length 2 ++ es.flatMap entB := by
            simp only [List.flatMap_cons, List.flatMap_nil, List.append_nil]
            unfold dirB
            rw [HES.out, Int.toNat_natCast]
          rw [e, ← List.append_assoc, ← List.append_assoc, Hl2.out, Hl3.out]
    · have ej : j = ds.length := by omega
      subst ej
      have j2 : ¬ ((ds.length : Int) < ds.length) := by omega
      have hcv := HOJ.out.r.convert
      have e : lj = imgB L N := by
        rw [HLJ.out, List.take_length]
        unfold imgB
        rw [HDS.out, Int.toNat_natCast, H0.out, Hl1.out]
      have HE := Lib.hid e
      clear hxr e
      go_wp2_with fail
      go_ret
      exact ⟨by show Ending.returned (.string ⟨lj.toArray⟩) = _; rw [HE.out], HB1.out.trans (HBR.out.mono HB1.out.size)⟩
end Go.Proofs.YtolilbcpfdnkjaaGreat

/- image: how long one is, and whose it is, in plain Lean. -/
namespace Go.Proofs.YtolilbcpfdnkjaaGreat
open Go.RowKit
set_option linter.unusedSimpArgs false
set_option linter.unusedVariables false
theorem nodup_keys_dmap (l : List DI) : (mkeys (dmap l)).Nodup := by
  refine snocInd (P := fun l => (mkeys (dmap l)).Nodup) (by simp [dmap, mkeys]) (fun l x ih => ?_) l
  rw [dmap_snoc]; exact nodup_put _ _ _ ih
/-- An image is of one tree. -/
theorem img_inj {L L2 : List Itm} {n n2 : Int} (h1 : TInv L n) (h2 : TInv L2 n2) (hn1 : n ≤ 9223372036854775807) (hn2 : n2 ≤ 9223372036854775807) (e : bmk (imgB L2 n2) = bmk (imgB L n)) : L2 = L ∧ n2 = n := by
  obtain ⟨a1, a2, -⟩ := dec_img h1 hn1
  obtain ⟨b1, b2, -⟩ := dec_img h2 hn2
  rw [e] at b1 b2
  refine ⟨?_, by rw [← b1, a1]⟩
  have hm : ((dirsT L).map (fun d => (⟨d, none, 0, entries L d⟩ : DI))).map DI.plain = (dirsT L).map (fun d => (d, entries L d)) := by rw [List.map_map]; rfl
  have s1 := dmap_says h1 _ hm
  have s2 := dmap_says h2 _ (hm.trans (a2.symm.trans b2))
  exact says_unique (nodup_keys_dmap _) h2 h1 s2 s1
theorem ent_small255 {L : List Itm} {next : Int} (h : TInv L next) (d : Int) : ∀ e ∈ entries L d, e.name.size ≤ 255 := fun e he => by
  have h1 := h.gd _ (mem_entries'.1 he)
  dsimp only at h1
  unfold mayErr at h1
  split at h1
  · cases h1
  · rename_i q
    have q' : goodB e.name = true := by simpa using q
    unfold goodB at q'
    simp at q'
    exact q'.2.1
theorem sum_zero : ∀ l : List Nat, (∀ y ∈ l, y = 0) → l.sum = 0 := by
  intro l
  induction l with
  | nil => intro _; rfl
  | cons a l ih => intro h; rw [List.sum_cons, h a (List.mem_cons_self ..), ih (fun y hy => h y (List.mem_cons_of_mem _ hy))]
theorem sum_one (ds : List Int) (h : ds.Nodup) (x : Int) : (ds.map (fun d => if x = d then 1 else 0)).sum ≤ 1 := by
  induction ds with
  | nil => exact Nat.zero_le _
  | cons d ds ih =>
    have hd := List.nodup_cons.1 h
    rw [List.map_cons, List.sum_cons]
    by_cases e : x = d
    · have : (ds.map (fun d => if x = d then 1 else 0)).sum = 0 := by
        have h0 : ∀ y ∈ ds.map (fun d => if x = d then 1 else 0), y = 0 := fun y hy => by
          obtain ⟨z, hz, rfl⟩ := List.mem_map.1 hy
          rw [if_neg (fun q => hd.1 (by rw [← e, q]; exact hz))]
        exact sum_zero _ h0
      rw [if_pos e, this]; exact Nat.le_refl _
    · rw [if_neg e]; have := ih hd.2; omega
theorem sum_entries (ds : List Int) (h : ds.Nodup) : ∀ L : List Itm, (ds.map (fun d => (entries L d).length)).sum ≤ L.length := by
  intro L
  induction L with
  | nil =>
    have h0 : ∀ y ∈ ds.map (fun d => (entries [] d).length), y = 0 := fun y hy => by
      obtain ⟨z, _, rfl⟩ := List.mem_map.1 hy; simp [entries]
    rw [sum_zero _ h0]; exact Nat.zero_le _
  | cons i L ih =>
    have key : ∀ l : List Int, (l.map (fun d => (entries (i :: L) d).length)).sum = (l.map (fun d => if i.d = d then 1 else 0)).sum + (l.map (fun d => (entries L d).length)).sum := by
      intro l
      induction l with
      | nil => rfl
      | cons d l ihl =>
        simp only [List.map_cons, List.sum_cons]
        have : (entries (i :: L) d).length = (if i.d = d then 1 else 0) + (entries L d).length := by
          unfold entries
          by_cases e : i.d = d <;> simp [List.filter_cons, e] <;> omega
        rw [this, ihl]; omega
    rw [key, List.length_cons]
    have := sum_one ds h i.d
    omega
theorem flat_dirB {L : List Itm} {next : Int} (h : TInv L next) : ∀ ds : List Int, (ds.flatMap (dirB L)).length ≤ ds.length * 4 + (ds.map (fun d => (entries L d).length)).sum * 271 := by
  intro ds
  induction ds with
  | nil => simp
  | cons d ds ih =>
    rw [List.flatMap_cons, List.length_append, List.length_cons, List.map_cons, List.sum_cons]
    have h2 := flat_entB (entries L d) (fun e he => by
      have hm := ent_small255 h d e he
      exact hm)
    have h3 : (dirB L d).length = 4 + ((entries L d).flatMap entB).length := by
      unfold dirB; rw [List.length_append, List.length_append, beB_len, beB_len]
    rw [h3, Nat.add_mul]
    omega
theorem items_le {L : List Itm} {next : Int} (h : TInv L next) : (L.length : Int) ≤ next - 1 := by
  have h1 := nodup_sub_len (L.map (·.e.cookie)) ((List.range (next - 1).toNat).map (fun n : Nat => (n : Int) + 1)) (h.ck.imp (fun q e => by omega)) (fun x hx => by
    obtain ⟨i, hi, rfl⟩ := List.mem_map.1 hx
    have := h.cb i hi
    exact List.mem_map.2 ⟨(i.e.cookie - 1).toNat, List.mem_range.2 (by omega), by omega⟩)
  rw [List.length_map, List.length_map, List.length_range] at h1
  have := h.nx
  omega
theorem dirs_le {L : List Itm} {next : Int} (h : TInv L next) : (dirsT L).length ≤ L.length + 1 := by
  have h1 := nodup_sub_len (dirsT L) (0 :: L.map (·.e.node)) (dirsT_nodup L) (fun d hd => by
    rcases (isDirB_iff L d).1 ((dirsT_mem h d).1 hd) with e | ⟨i, hi, e, _⟩
    · rw [e]; exact List.mem_cons_self ..
    · rw [← e]; exact List.mem_cons_of_mem _ (List.mem_map_of_mem hi))
  rw [List.length_cons, List.length_map] at h1
  exact h1
theorem img_short {L : List Itm} {next : Int} (h : TInv L next) (hn : next ≤ 81) : (imgB L next).length ≤ 60000 := by
  have h1 := flat_dirB h (dirsT L)
  have h2 := sum_entries (dirsT L) (dirsT_nodup L) L
  have h3 := items_le h
  have h4 := dirs_le h
  unfold imgB
  rw [List.length_append, List.length_append, beB_len, beB_len]
  have h5 : ((dirsT L).map (fun d => (entries L d).length)).sum * 271 ≤ 80 * 271 := Nat.mul_le_mul_right _ (by omega)
  omega
end Go.Proofs.YtolilbcpfdnkjaaGreat

/- ImageWrites' walk. -/
namespace Go.Proofs.YtolilbcpfdnkjaaGreat
open Go.RowKit
set_option linter.unusedSimpArgs false
set_option linter.unusedVariables false
set_option maxRecDepth 100000 in
set_option maxHeartbeats 2000000 in
theorem imagewrites_any (w : World) (v : Value) (l : List Op1) (h : Arg EOp w v l) (ml : l.length ≤ maxLen) (hok : ∀ o ∈ l, (o.name.size ≤ maxLen ∧ o.as_.size ≤ maxLen) ∧ o.kind < 256) :
    Calls Tryz.prog 7 #[v] w fun e w' => e = .returned (.bool true) ∧ Below w.heap.size w w' := by
  obtain ⟨va, vc, rfl⟩ := h.shape
  have H := Lib.hid h
  have HOK := Lib.hid hok
  clear h hok
  go_enter Tryz.func7, Tryz.ntmps7
  go_wp2_with fail
  refine (awake12_any _).mono ?_
  rintro e w1 ⟨rfl, hb1⟩
  have HB1 := Lib.hid hb1
  clear hb1
  go_wp2_with fail
  refine (few10_any w1 _ l 80 (H.out.below HB1.out) ml (fun o ho => (HOK.out o ho).1)).mono ?_
  rintro e w2 ⟨b, rfl, ⟨fw, rfl, hfew⟩, hb2⟩
  have HB2 := Lib.hid (HB1.out.trans (hb2.mono HB1.out.size))
  have HFEW := Lib.hid hfew
  clear hb2 HB1 hfew
  cases fw
  · go_wp2_with fail
    refine (awake12_any _).mono ?_
    rintro e w3 ⟨rfl, hb3⟩
    go_wp2_with fail
    go_ret
    exact ⟨rfl, HB2.out.trans (hb3.mono HB2.out.size)⟩
  obtain ⟨hl80, hsm⟩ := HFEW.out rfl
  have hl80' : l.length ≤ 80 := by omega
  have HMD := Lib.hid (made_any w2 _ l (H.out.below HB2.out) (by omega) HOK.out)
  clear hl80 hsm HFEW
  go_wp2_with fail
  refine HMD.out.mono ?_
  rintro e w3 ⟨L, next, g, v3, rfl, hown, harg, hti, hnx⟩
  obtain ⟨a3, cc3, rfl⟩ := harg.shape
  have HTI := Lib.hid hti
  have HARG := Lib.hid harg
  obtain ⟨F, htm, hF, hb3, -⟩ := id hown
  have HTM := Lib.hid htm
  have HE := Lib.hid (fun (W : World) (hb : Below w3.heap.size w3 W) => iencode_any (HTM.out.below hb) HTI.out (by omega))
  have HB3 := Lib.hid (HB2.out.trans (hb3.mono HB2.out.size))
  have HNX := Lib.hid hnx
  clear hti hown htm hF hb3 hnx HMD harg
  obtain ⟨I, hI⟩ : ∃ I, imgB L next = I := ⟨_, rfl⟩
  have hIs : I.length ≤ 60000 := by rw [← hI]; exact img_short HTI.out (by have := HNX.out; omega)
  rw [hI] at HE
  have HI := Lib.hid hI
  have HD := Lib.hid (fun (W : World) => idecode_any (w := W) (bmk I) (by rw [bmk_size]; omega))
  clear hI
  go_wp2_with fail
  have hbx : Below w3.heap.size w3 (w3.alloc (.cells #[.slice a3 L.length cc3, .int .i64 next] 29)) := (Below.refl _ w3).alloc (Nat.le_refl _) _
  have hxt := m_alloc w3 (.cells #[.slice a3 L.length cc3, .int .i64 next] 29) w3.heap.size rfl
  have HEX := Lib.hid (HE.out _ hbx)
  obtain ⟨TB, hTB⟩ : ∃ TB, w3.heap.size = TB := ⟨_, rfl⟩
  rw [hTB] at hxt ⊢
  have HTB := Lib.hid hTB
  generalize (w3.alloc (.cells #[.slice a3 L.length cc3, .int .i64 next] 29)) = w4 at *
  have HBX := Lib.hid hbx
  have HXT := Lib.hid hxt
  clear hbx hxt hTB
  refine HEX.out.mono ?_
  rintro e w5 ⟨rfl, hb5⟩
  have HB5 := Lib.hid hb5
  clear hb5 HEX HE
  go_wp2_with fail
  refine (HD.out w5).mono ?_
  rintro e w6 (⟨L2, next2, g2, F2, hti2, hn2, himg, rfl, htm2, hF2, hb6⟩ | ⟨hno, -, -⟩)
  rotate_left
  · exact absurd (congrArg bmk HI.out) (hno L next HTI.out (by have := HNX.out; omega))
  obtain ⟨e1, e2⟩ := img_inj HTI.out hti2 (by have := HNX.out; omega) hn2 (by rw [himg, HI.out])
  subst e1 e2
  have HTM2 := Lib.hid htm2
  have HB6 := Lib.hid hb6
  clear hti2 hn2 himg htm2 hF2 hb6
  have hb46 : Below w4.heap.size w4 w6 := HB5.out.trans (HB6.out.mono HB5.out.size)
  have HB46 := Lib.hid hb46
  have HB36 := Lib.hid (HBX.out.trans (hb46.mono HBX.out.size))
  have HCT := Lib.hid (show ∀ W, Below w6.heap.size w6 W → (W.cell? ⟨TB, 0, none⟩ = some (.slice a3 L2.length cc3) ∧ W.cell? ⟨TB, 1, none⟩ = some (.int .i64 next2)) from fun W hb => by
    have hk := (hb.block _ (m_lt ((hb46.block _ (m_lt HXT.out)).trans HXT.out))).trans ((hb46.block _ (m_lt HXT.out)).trans HXT.out)
    exact ⟨(m_cells hk).1 0, (m_cells hk).1 1⟩)
  have HIMG := Lib.hid (rimage_any w6 next2 (HARG.out.below HB36.out) HTI.out (by have := HNX.out; omega))
  rw [HI.out] at HIMG
  have HSA := Lib.hid (fun (W : World) (hb : Below w6.heap.size w6 W) => tsame_any (HTM2.out.below hb) ((HTM.out.below HB36.out).below hb) (by have := HTI.out.len; omega))
  have HAL := Lib.hid (fun (W : World) (hb : Below w6.heap.size w6 W) => alike_any (HTM2.out.below hb) ((HARG.out.below HB36.out).below hb) HTI.out)
  have HB06 := Lib.hid (HB3.out.trans (HB36.out.mono HB3.out.size))
  obtain ⟨t0, t1⟩ := HCT.out w6 (Below.refl _ _)
  have hIi : (I.length : Int) ≤ 60000 := by omega
  clear hb46 HD
  go_wp2_with fail
  refine HIMG.out.mono ?_
  rintro e w7 ⟨rfl, hb7⟩
  have HB7 := Lib.hid hb7
  clear t0 t1
  obtain ⟨t0, t1⟩ := HCT.out w7 hb7
  clear hb7
  go_wp2_with fail
  refine (HSA.out w7 HB7.out).mono ?_
  rintro e w8 ⟨rfl, hb8⟩
  have HB8 := Lib.hid (HB7.out.trans (hb8.mono HB7.out.size))
  clear t0 t1
  obtain ⟨t0, t1⟩ := HCT.out w8 HB8.out
  clear hb8
  go_wp2_with fail
  refine (HAL.out w8 HB8.out).mono ?_
  rintro e w9 ⟨rfl, hb9⟩
  have HB9 := Lib.hid (HB8.out.trans (hb9.mono HB8.out.size))
  clear hb9
  go_wp2_with fail
  go_ret
  exact ⟨by simp, HB06.out.trans (HB9.out.mono HB06.out.size)⟩
end Go.Proofs.YtolilbcpfdnkjaaGreat
