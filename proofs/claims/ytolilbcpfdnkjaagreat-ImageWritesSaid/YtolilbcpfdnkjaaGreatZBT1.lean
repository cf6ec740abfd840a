/- tree: entries; slices of them: cloned, and looked through. -/
import Derived.Test.YtolilbcpfdnkjaaGreatZBRk
import Derived.Test.YtolilbcpfdnkjaaGreatZBRo
import Derived.Test.YtolilbcpfdnkjaaGreatZBMapsA
import Derived.Deep.QuietTactic
import Derived.BigQuiet
namespace Go.Proofs.YtolilbcpfdnkjaaGreat
open Go.RowKit
set_option linter.unusedSimpArgs false
set_option linter.unusedVariables false
/-- An entry, by value. -/
structure Ent where
  name : ByteArray
  node : Int
  dir : Bool
  cookie : Int
  short : Int
@[reducible] def Ent.cells (e : Ent) : List Value := [.string e.name, .int .i64 e.node, .bool e.dir, .int .i64 e.cookie, .int .i64 e.short]
@[reducible] def Ent.val (e : Ent) : Value := .agg #[.string e.name, .int .i64 e.node, .bool e.dir, .int .i64 e.cookie, .int .i64 e.short]
def Ent.zero : Ent := ⟨⟨#[]⟩, 0, false, 0, 0⟩
def EEnt : EK Ent := ⟨84, 5, 48, Ent.cells, fun _ => rfl, fun _ u hu => by simp at hu; rcases hu with rfl | rfl | rfl | rfl | rfl <;> rfl, by decide⟩
theorem EEnt.laid : EEnt.Laid := EK.laid (z := .agg #[.string ⟨#[]⟩, .int .i64 0, .bool false, .int .i64 0, .int .i64 0]) (by kernel_rfl) (by decide)
/-- Lookups go, and the entry's cells. -/
theorem ent_cells {w : World} {a : Option Addr} {n c : Nat} {l : List Ent} (h : Arg EEnt w (.slice a n c) l) (i : Nat) (x : Ent) (hx : l[i]? = some x) : ∃ g off, a = some ⟨g, off, none⟩ ∧ n = l.length ∧
    w.cell? ⟨g, off + i * 5, none⟩ = some (.string x.name) ∧ w.cell? ⟨g, off + i * 5 + 1, none⟩ = some (.int .i64 x.node) ∧ w.cell? ⟨g, off + i * 5 + 2, none⟩ = some (.bool x.dir) ∧ w.cell? ⟨g, off + i * 5 + 3, none⟩ = some (.int .i64 x.cookie) ∧ w.cell? ⟨g, off + i * 5 + 4, none⟩ = some (.int .i64 x.short) := by
  obtain ⟨g, off, cap, e, hc⟩ := h.cells (by intro q; rw [q] at hx; simp at hx)
  simp only [Value.slice.injEq] at e
  obtain ⟨rfl, rfl, rfl⟩ := e
  have k := hc i x hx
  exact ⟨g, off, rfl, rfl, k 0 (by decide), k 1 (by decide), k 2 (by decide), k 3 (by decide), k 4 (by decide)⟩
theorem eql_ents (w : World) (a : Option Addr) (l c : Nat) : (binOp .eql 49 (.slice a l c) (.slice none 0 0)).run Tryz.prog w = .ok (.bool a.isNone) w := by
  exact Lib.run_eql_slice_nil w 49 84 a l c 0 0 Tryz.underlying49
set_option maxRecDepth 100000 in
set_option maxHeartbeats 1000000 in
/-- slices.Clone of entries. -/
theorem eclone_any {v : Value} {l : List Ent} (w : World) (h : Arg EEnt w v l) (hl : l.length ≤ 1000000) :
    Calls Tryz.prog 37 #[v] w fun e w' => ∃ v', e = .returned v' ∧ Row EEnt w' w.heap.size v' l ∧ Below w.heap.size w w' := by
  have h0 := h
  obtain ⟨a, c, rfl, hc⟩ := h
  rcases hc with ⟨rfl, rfl, rfl⟩ | ⟨x, rfl, -⟩
  · have hq := fun w => eql_ents w none 0 0
    clear h0
    go_enter Tryz.func37, Tryz.ntmps37
    go_wp2_with fail
    go_ret
    exact ⟨_, rfl, Row.nil _ _ _, Below.refl _ _⟩
  · have hq := fun w => eql_ents w (some x) l.length c
    have hnil : Row EEnt (w.alloc (.cells #[] 84)) w.heap.size (.slice (some ⟨w.heap.size, 0, none⟩) 0 0) [] := Row.new w w.heap.size #[] [] (Nat.le_refl _) rfl (by simp [maxLen])
    have hb : Below w.heap.size w (w.alloc (.cells #[] 84)) := (Below.refl w.heap.size w).alloc (Nat.le_refl _) _
    have HN := Lib.hid hnil
    have HB := Lib.hid hb
    have HA := Lib.hid (h0.below hb)
    clear h0 hnil hb
    go_enter Tryz.func37, Tryz.ntmps37
    go_wp2_with (first
      | (refine app_row EEnt.laid rfl _ _ 49 49 Tryz.underlying49 Tryz.underlying49 rfl _ [] rfl HN.out _ l rfl HA.out ?e2 ?e3 (by simp) ?_
         case e2 => (show (0 + l.length) * 48 ≤ _; omega)
         case e3 => (show 0 + l.length ≤ maxLen; unfold maxLen; omega)
         intro v3 w3 hr3 hv3 k3))
    go_ret
    rw [List.nil_append] at hr3
    exact ⟨v3, rfl, hr3, HB.out.trans (k3.toBelow (by simp) (fun k q => Nat.le_of_eq (Option.some.inj q).symm))⟩
/-- At which place one stands of which p holds; -1: nowhere. -/
def idxP (l : List Ent) (p : Ent → Bool) : Int := match l.findIdx? p with | some i => i | none => -1
theorem idxP_none {l : List Ent} {p : Ent → Bool} (h : ∀ (j : Nat) y, j < l.length → l[j]? = some y → p y = false) : idxP l p = -1 := by
  unfold idxP
  rw [List.findIdx?_eq_none_iff.2 (fun x hx => by
    obtain ⟨j, hj⟩ := List.getElem?_of_mem hx
    exact h j x (List.getElem?_eq_some_iff.1 hj).1 hj)]
theorem idxP_some {l : List Ent} {p : Ent → Bool} {i : Nat} {x : Ent} (hx : l[i]? = some x) (hn : p x = true) (hb : ∀ (j : Nat) y, j < i → l[j]? = some y → p y = false) : idxP l p = i := by
  unfold idxP
  obtain ⟨hi, e⟩ := List.getElem?_eq_some_iff.1 hx
  have : l.findIdx? p = some i := by
    rw [List.findIdx?_eq_some_iff_getElem]
    refine ⟨hi, by rw [e]; exact hn, fun j hj => ?_⟩
    have := hb j l[j] hj (List.getElem?_eq_getElem (by omega))
    simpa using this
  rw [this]
def IdxRel (w : World) (l : List Ent) (p : Ent → Bool) (iv : Value) (wr : World) : Prop :=
  ∃ i : Nat, iv = .int .i64 i ∧ i ≤ l.length ∧ (∀ (j : Nat) y, j < i → l[j]? = some y → p y = false) ∧ Below w.heap.size w wr
set_option maxRecDepth 100000 in
set_option maxHeartbeats 1000000 in
/-- slices.IndexFunc over entries. -/
theorem indexfunc_any {v : Value} {l : List Ent} (w : World) (p : Ent → Bool) (f : Nat) (cap : Array Value) (h : Arg EEnt w v l) (hl : l.length ≤ 1000000)
    (heg : ∀ args w, (callFunc f args).run Tryz.prog w = .ok (.enter f args) w)
    (hf : ∀ x ∈ l, ∀ w', Below w.heap.size w w' → Calls Tryz.prog f (#[x.val] ++ cap) w' fun e w2 => e = .returned (.bool (p x)) ∧ Below w'.heap.size w' w2) :
    Calls Tryz.prog 88 #[v, .func (.func f) #[] cap] w fun e w' => e = .returned (.int .i64 (idxP l p)) ∧ Below w.heap.size w w' := by
  obtain ⟨a, c, rfl⟩ := h.shape
  have H := Lib.hid h
  have HF := Lib.hid hf
  clear h hf
  go_enter Tryz.func88, Tryz.ntmps88
  go_wp2_with fail
  go_loopw [5, 8] (fun _ iv wr => IdxRel w l p iv wr) (fun _ iv _ => l.length - (intOf iv).toNat)
  case atStart => exact ⟨0, rfl, Nat.zero_le _, fun j y hj => by omega, Below.refl _ _⟩
  case round =>
    obtain ⟨i, rfl, hi, hb, hbl⟩ := hrel
    have HB := Lib.hid hb
    have HBL := Lib.hid hbl
    clear hb hbl
    by_cases hlt : i < l.length
    · have i1 : (i : Int) < l.length := by omega
      obtain ⟨x, hx⟩ : ∃ x, l[i]? = some x := ⟨_, List.getElem?_eq_getElem hlt⟩
      obtain ⟨g, off, rfl, -, k0, k1, k2, k3, k4⟩ := ent_cells H.out i x hx
      have c0 := cell_later HBL.out k0
      have c1 := cell_later HBL.out k1
      have c2 := cell_later HBL.out k2
      have c3 := cell_later HBL.out k3
      have c4 := cell_later HBL.out k4
      have HC := Lib.hid (HF.out x (List.mem_of_getElem? hx) wr HBL.out)
      have HX := Lib.hid hx
      clear k0 k1 k2 k3 k4 hx
      obtain ⟨px, hpx⟩ : ∃ b, p x = b := ⟨_, rfl⟩
      rw [hpx] at HC
      have HPX := Lib.hid hpx
      clear hpx
      go_wp2_with fail
      refine HC.out.mono ?_
      rintro e w2 ⟨rfl, hb2⟩
      have HB2 := Lib.hid (HBL.out.trans (hb2.mono HBL.out.size))
      clear hb2
      cases px
      · go_wp2_with fail
        exact ⟨⟨i + 1, by go_num, hlt, fun j y hj hy => (Nat.lt_succ_iff_lt_or_eq.1 hj).elim (fun q => HB.out j y q hy) (fun q => by subst q; have := HX.out.symm.trans hy; cases this; exact HPX.out), HB2.out⟩, by simp [intOf]; omega⟩
      · go_wp2_with fail
        go_ret
        exact ⟨ret_int (idxP_some HX.out HPX.out HB.out).symm, HB2.out⟩
    · have ei : i = l.length := by omega
      subst ei
      have i1 : ¬ ((l.length : Int) < l.length) := by omega
      go_wp2_with fail
      go_ret
      exact ⟨ret_int (idxP_none HB.out).symm, HBL.out⟩
theorem bstr_eq_iff (x y : ByteArray) : (x.toList == y.toList) = true ↔ x = y := by
  rw [beq_iff_eq, ByteArray.toList_eq, ByteArray.toList_eq]
  refine ⟨fun h => ?_, fun h => by rw [h]⟩
  cases x; cases y
  congr 1
  exact Array.ext' h
/-- The closure of index. -/
theorem index1_any (x : Ent) (name : ByteArray) (b : Nat) (w : World) (hb : w.heap[b]? = some (.cells #[.string name] 9 (0, 0))) :
    Calls Tryz.prog 89 #[x.val, .pointer (some ⟨b, 0, none⟩)] w fun e w' => e = .returned (.bool (decide (x.name = name))) ∧ Below w.heap.size w w' := by
  have c := (m_cells (m_old (.cells #[.string x.name, .int .i64 x.node, .bool x.dir, .int .i64 x.cookie, .int .i64 x.short] 84 (0, 0)) hb)).1 0
  have hbw : ∀ o, Below w.heap.size w (w.alloc o) := fun o => (Below.refl _ _).alloc (Nat.le_refl _) o
  have HB := Lib.hid hbw
  have hd : (x.name.toList == name.toList) = decide (x.name = name) := by
    by_cases e : x.name = name
    · rw [(bstr_eq_iff _ _).2 e, decide_eq_true e]
    · rw [decide_eq_false e, Bool.eq_false_iff, ne_eq, bstr_eq_iff]; exact e
  have HD := Lib.hid hd
  clear hbw hb hd
  go_enter Tryz.func89, Tryz.ntmps89
  go_wp2_with fail
  go_ret
  exact ⟨ret_bool HD.out, HB.out _⟩
def hasName (name : ByteArray) (x : Ent) : Bool := decide (x.name = name)
set_option maxRecDepth 100000 in
set_option maxHeartbeats 1000000 in
theorem index_any {v : Value} {l : List Ent} (name : ByteArray) (w : World) (h : Arg EEnt w v l) (hl : l.length ≤ 1000000) :
    Calls Tryz.prog 56 #[v, .string name] w fun e w' => e = .returned (.int .i64 (idxP l (hasName name))) ∧ Below w.heap.size w w' := by
  obtain ⟨a, c, rfl⟩ := h.shape
  have hblk := m_alloc w (.cells #[.string name] 9 (0, 0)) w.heap.size rfl
  have hbw : Below w.heap.size w (w.alloc (.cells #[.string name] 9 (0, 0))) := (Below.refl _ _).alloc (Nat.le_refl _) _
  have hcall := indexfunc_any (v := .slice a l.length c) (w.alloc (.cells #[.string name] 9 (0, 0))) (hasName name) 89 #[.pointer (some ⟨w.heap.size, 0, none⟩)] (h.below hbw) hl (fun args w => by kernel_rfl)
    (fun x _ w' hb => index1_any x name w.heap.size w' (by rw [hb.block _ (by simp)]; exact hblk))
  have HC := Lib.hid hcall
  have HB := Lib.hid hbw
  clear h hblk hbw hcall
  go_enter Tryz.func56, Tryz.ntmps56
  go_wp2_with fail
  refine HC.out.mono ?_
  rintro e w1 ⟨rfl, hb1⟩
  go_wp2_with fail
  go_ret
  exact ⟨rfl, HB.out.trans (hb1.mono (by simp))⟩
end Go.Proofs.YtolilbcpfdnkjaaGreat
