/- tree: good names: strings.ContainsAny at the two bytes that no name has. -/
import Derived.Test.YtolilbcpfdnkjaaLib1
import Derived.Laws.Rows
import Derived.Laws.Tables
import Derived.Laws.RangeAny
import Derived.Lib.Strings
import Derived.Lib.Slices
import Derived.Lib.Walk
import Derived.Lib.Bytealg
import Derived.Lib.OthersKept
namespace Go.Proofs.Ytolilbcpfdnkjaa
open Go.RowKit
set_option linter.unusedSimpArgs false
set_option linter.unusedVariables false
def zs2 : ByteArray := ⟨#[0, 47]⟩
/-- The bits of a set of bytes. -/
def bitA (S : List Bool) : Array Value := (S.map Value.bool).toArray
theorem bitA_size (S : List Bool) : (bitA S).size = S.length := by simp [bitA]
theorem bitA_one (S : List Bool) : (bitA S).all (·.oneCell') = true := by
  rw [Array.all_eq_true_iff_forall_mem]
  intro v hv
  have : v ∈ S.map Value.bool := by simpa [bitA] using hv
  obtain ⟨b, _, rfl⟩ := List.mem_map.1 this; rfl
theorem bit_c {w : World} {b : Nat} {S : List Bool} {t : TypeId} (h : w.heap[b]? = some (.cells (bitA S) t (0, 0))) (i : Nat) (hi : i < S.length) : w.cell? ⟨b, i, none⟩ = some (.bool (S.getD i false)) := by
  rw [(m_cells h).1 i]
  simp [bitA, List.getD_eq_getElem?_getD, List.getElem?_eq_getElem hi]
theorem bit_set {w : World} {b : Nat} {S : List Bool} {t : TypeId} (h : w.heap[b]? = some (.cells (bitA S) t (0, 0))) (i : Nat) (x : Bool) : (w.setCell ⟨b, i, none⟩ (.bool x)).heap[b]? = some (.cells (bitA (S.set i x)) t (0, 0)) := by
  rw [m_set h i (.bool x)]
  congr 2
  apply Array.ext'
  simp [bitA, List.map_set]
def bits0 : List Bool := List.replicate 256 false
theorem zero_bits (w : World) : (zeroValue 180).run Try.prog w = .ok (.agg (bitA bits0)) w := by kernel_rfl
theorem bits_info : (Try.prog.info? 180).map (·.size) = some 256 := by kernel_rfl
/-- The set of the two bytes. -/
def bits2 : List Bool := (bits0.set 0 true).set 47 true
theorem getDB_set (S : List Bool) (n k : Nat) (x : Bool) (h : n < S.length) : (S.set n x).getD k false = if k = n then x else S.getD k false := by
  rw [List.getD_eq_getElem?_getD, List.getD_eq_getElem?_getD, List.getElem?_set]
  by_cases e : k = n
  · subst e; rw [if_pos rfl, if_pos h, if_pos rfl]; rfl
  · rw [if_neg (Ne.symm e), if_neg e]
theorem bits0_len : bits0.length = 256 := List.length_replicate
theorem bits0_get (k : Nat) : bits0.getD k false = false := by
  unfold bits0
  rw [List.getD_eq_getElem?_getD, List.getElem?_replicate]; split <;> rfl
theorem bits2_len : bits2.length = 256 := by unfold bits2; rw [List.length_set, List.length_set, bits0_len]
theorem bits2_get (c : Nat) : bits2.getD c false = decide (c = 0 ∨ c = 47) := by
  unfold bits2
  rw [getDB_set _ _ _ _ (by rw [List.length_set, bits0_len]; decide), getDB_set _ _ _ _ (by rw [bits0_len]; decide), bits0_get]
  by_cases e : c = 47
  · rw [if_pos e, decide_eq_true (Or.inr e)]
  · rw [if_neg e]
    by_cases e0 : c = 0
    · rw [if_pos e0, decide_eq_true (Or.inl e0)]
    · rw [if_neg e0, decide_eq_false (fun q => q.elim e0 e)]
set_option maxHeartbeats 1000000 in
theorem contains_any (b : Nat) (c : Nat) (w : World) (hc : c < 256) (h : w.heap[b]? = some (.cells (bitA bits2) 180 (0, 0))) :
    Calls Try.prog 115 #[.pointer (some ⟨b, 0, none⟩), .int .u8 c] w fun e w' => e = .returned (.bool (decide (c = 0 ∨ c = 47))) ∧ w' = w := by
  have k := bit_c h c (by rw [bits2_len]; exact hc)
  rw [bits2_get c] at k
  have i1 : (c : Int) < 256 := by omega
  clear h
  generalize decide (c = 0 ∨ c = 47) = B at *
  go_enter Try.func115, Try.ntmps115
  go_wp2_with fail
  go_ret
  exact ⟨rfl, rfl⟩
theorem results2_row {P : Program} {fn : Func} {p q : Tmp} {ty : TypeId} (h : fn.results = #[.cell p ty, .tmp q]) (tmps : Array Value) (w : World) (g : Nat) (t : TypeId) (cs : Array Value) (fr : Nat × Nat) (d : TypeDesc)
    (hp : tmps.getD p undef = .pointer (some ⟨g, 0, none⟩)) (hg : w.heap[g]? = some (.cells cs t fr))
    (hu : P.underlying ty = some d) (hd : (match d with | .struct _ | .array _ _ => true | _ => false) = true) (hi : (P.info? ty).map (·.size) = some cs.size) :
    (results fn tmps).run P w = .ok (.tuple #[.agg cs, tmps.getD q undef]) w := by
  have hp' : tmps[p]?.getD undef = .pointer (some ⟨g, 0, none⟩) := by simpa using hp
  have hl := run_loadVar_row (P := P) w g t ty cs fr d hg hu hd hi
  simp [results, h, hp', asAddr, Sem.run_bind, hl, Result.andThen]
def bitsI (i : Nat) : List Bool := if i = 0 then bits0 else if i = 1 then bits0.set 0 true else bits2
theorem bitsI_len (i : Nat) : (bitsI i).length = 256 := by
  unfold bitsI
  split
  · exact bits0_len
  · split
    · rw [List.length_set, bits0_len]
    · exact bits2_len
def MakeRel (w : World) (B : Nat) (iv : Value) (wr : World) : Prop := ∃ i : Nat, iv = .int .i64 i ∧ i ≤ 2 ∧ wr.heap[B]? = some (.cells (bitA (bitsI i)) 180 (0, 0)) ∧ Below B w wr
set_option maxRecDepth 100000 in
set_option maxHeartbeats 2000000 in
theorem makeset_any (w : World) :
    Calls Try.prog 114 #[.string zs2] w fun e w' => e = .returned (.tuple #[.agg (bitA bits2), .bool true]) ∧ Below w.heap.size w w' := by
  have hz := zero_bits
  obtain ⟨B, hB⟩ : ∃ B, w.heap.size = B := ⟨_, rfl⟩
  have HB := Lib.hid (show (w.alloc (.cells (bitA bits0) 180)).heap[B]? = some (.cells (bitA (bitsI 0)) 180 (0, 0)) from m_alloc _ _ _ hB)
  have HBW := Lib.hid (show Below B w (w.alloc (.cells (bitA bits0) 180)) from (Below.refl _ _).alloc (Nat.le_of_eq hB.symm) _)
  rw [hB]
  have HBB := Lib.hid hB
  clear hB
  go_enter Try.func114, Try.ntmps114
  go_wp2_with fail
  rw [HBB.out]
  go_loopw [4, 5] (fun iv _ wr => MakeRel w B iv wr) (fun iv _ _ => 2 - (intOf iv).toNat)
  case atStart => exact ⟨0, rfl, by decide, HB.out, HBW.out⟩
  case round =>
    obtain ⟨i, rfl, hi, hblk, hbel⟩ := hrel
    have HBLK := Lib.hid hblk
    have HBEL := Lib.hid hbel
    clear hblk hbel HB HBW
    have hsz : zs2.size = 2 := rfl
    have hi0 : ∀ w, (Instr.index 9 (.string zs2) (.int .i64 0)).run Try.prog w = .ok (.int .u8 0) w := fun w => by kernel_rfl
    have hi1 : ∀ w, (Instr.index 9 (.string zs2) (.int .i64 1)).run Try.prog w = .ok (.int .u8 47) w := fun w => by kernel_rfl
    rcases (show i = 0 ∨ i = 1 ∨ i = 2 by omega) with rfl | rfl | rfl
    · have hc := bit_c HBLK.out 0 (by rw [bitsI_len]; decide)
      have hf := (m_cells HBLK.out).2 0
      have HS := Lib.hid (bit_set HBLK.out 0 true)
      have HL := Lib.hid (show Below B w (wr.setCell ⟨B, 0, none⟩ (.bool true)) from HBEL.out.setCell (Nat.le_refl _) _)
      go_wp2_with fail
      exact ⟨⟨1, by go_num, by decide, HS.out, HL.out⟩, by simp [intOf]⟩
    · have hc := bit_c HBLK.out 47 (by rw [bitsI_len]; decide)
      have hf := (m_cells HBLK.out).2 47
      have HS := Lib.hid (bit_set HBLK.out 47 true)
      have HL := Lib.hid (show Below B w (wr.setCell ⟨B, 47, none⟩ (.bool true)) from HBEL.out.setCell (Nat.le_refl _) _)
      go_wp2_with fail
      exact ⟨⟨2, by go_num, by decide, HS.out, HL.out⟩, by simp [intOf]⟩
    · have hs2 : (bitA bits2).size = 256 := by rw [bitA_size, bits2_len]
      have HSZ := Lib.hid hs2
      have HB2 := Lib.hid (show wr.heap[B]? = some (.cells (bitA bits2) 180 (0, 0)) from HBLK.out)
      clear hs2 HBLK
      go_wp2_with (first
        | (refine wpList_load_row rfl 180 _ rfl B rfl 180 (bitA bits2) (0, 0) _ HB2.out Try.underlying180 rfl ?c2 ?_; (case c2 => rw [bits_info, HSZ.out]))
        | (refine wpList_store_row rfl 180 _ _ rfl B (bitA bits2) rfl rfl 180 (bitA bits2) HB2.out ?d2 rfl (bitA_one _) ?_; (case d2 => rw [bits_info, HSZ.out])))
      refine bodyPost_ret (v := .tuple #[.agg (bitA bits2), .bool true]) (results2_row (p := 2) (q := 3) (ty := 180) rfl _ _ B 180 (bitA bits2) (0, 0) _ rfl (setRow_heap _ _ _ _ _ _ HB2.out) Try.underlying180 rfl (by rw [bits_info, HSZ.out])) rfl ⟨rfl, ?_⟩
      exact ⟨HBEL.out.os, HBEL.out.tape, HBEL.out.output, by have := HBEL.out.size; simp [World.setRow]; exact this, fun k hk => by rw [setRow_other _ _ _ _ (by omega)]; exact HBEL.out.block k hk⟩
end Go.Proofs.Ytolilbcpfdnkjaa
