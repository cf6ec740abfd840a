/- Lemmas, texts T2 T3 T4 T5; no condition beyond those that each states. -/
import Derived.Test.YtolilbcpfdnkjaaGreatZBLib1
import Derived.Laws.Rows
import Derived.Laws.Tables
import Derived.Laws.RangeAny
import Derived.Lib.Strings
import Derived.Lib.Slices
import Derived.Lib.Walk
import Derived.Lib.Bytealg
import Derived.Lib.OthersKept
import Derived.Deep.LoopGhost
import Derived.Outline
import Derived.Deep.QuietTactic
import Derived.BigQuiet
import Derived.Test.YtolilbcpfdnkjaaGreatZBT1
import Derived.Test.YtolilbcpfdnkjaaGreatZBUng
/- tree: good names: strings.ContainsAny at the two bytes that no name has. -/
namespace Go.Proofs.YtolilbcpfdnkjaaGreat
open Go.RowKit
set_option linter.unusedSimpArgs false
set_option linter.unusedVariables false
def zs2 : ByteArray := ⟨#[0, 47]⟩
/-- The bits of a set of bytes. -/
def bitA (S : List Bool) : Array Value := (S.map Value.bool).toArray
theorem bitA_size (S : List Bool) : (bitA S).size = S.length := by simp [bitA]
theorem bitA_one (S : List Bool) : (bitA S).all (·.oneCell') = true := by
  rw [Array.all_eq_true_iff_forall_mem]
  intro v hv
  have : v ∈ S.map Value.bool := by simpa [bitA] using hv
  obtain ⟨b, _, rfl⟩ := List.mem_map.1 this; rfl
theorem bit_c {w : World} {b : Nat} {S : List Bool} {t : TypeId} (h : w.heap[b]? = some (.cells (bitA S) t (0, 0))) (i : Nat) (hi : i < S.length) : w.cell? ⟨b, i, none⟩ = some (.bool (S.getD i false)) := by
  rw [(m_cells h).1 i]
  simp [bitA, List.getD_eq_getElem?_getD, List.getElem?_eq_getElem hi]
theorem bit_set {w : World} {b : Nat} {S : List Bool} {t : TypeId} (h : w.heap[b]? = some (.cells (bitA S) t (0, 0))) (i : Nat) (x : Bool) : (w.setCell ⟨b, i, none⟩ (.bool x)).heap[b]? = some (.cells (bitA (S.set i x)) t (0, 0)) := by
  rw [m_set h i (.bool x)]
  congr 2
  apply Array.ext'
  simp [bitA, List.map_set]
def bits0 : List Bool := List.replicate 256 false
theorem zero_bits (w : World) : (zeroValue 211).run Tryz.prog w = .ok (.agg (bitA bits0)) w := by kernel_rfl
theorem bits_info : (Tryz.prog.info? 211).map (·.size) = some 256 := by kernel_rfl
/-- The set of the two bytes. -/
def bits2 : List Bool := (bits0.set 0 true).set 47 true
theorem getDB_set (S : List Bool) (n k : Nat) (x : Bool) (h : n < S.length) : (S.set n x).getD k false = if k = n then x else S.getD k false := by
  rw [List.getD_eq_getElem?_getD, List.getD_eq_getElem?_getD, List.getElem?_set]
  by_cases e : k = n
  · subst e; rw [if_pos rfl, if_pos h, if_pos rfl]; rfl
  · rw [if_neg (Ne.symm e), if_neg e]
theorem bits0_len : bits0.length = 256 := List.length_replicate
theorem bits0_get (k : Nat) : bits0.getD k false = false := by
  unfold bits0
  rw [List.getD_eq_getElem?_getD, List.getElem?_replicate]; split <;> rfl
theorem bits2_len : bits2.length = 256 := by unfold bits2; rw [List.length_set, List.length_set, bits0_len]
theorem bits2_get (c : Nat) : bits2.getD c false = decide (c = 0 ∨ c = 47) := by
  unfold bits2
  rw [getDB_set _ _ _ _ (by rw [List.length_set, bits0_len]; decide), getDB_set _ _ _ _ (by rw [bits0_len]; decide), bits0_get]
  by_cases e : c = 47
  · rw [if_pos e, decide_eq_true (Or.inr e)]
  · rw [if_neg e]
    by_cases e0 : c = 0
    · rw [if_pos e0, decide_eq_true (Or.inl e0)]
    · rw [if_neg e0, decide_eq_false (fun q => q.elim e0 e)]
set_option maxHeartbeats 1000000 in
theorem contains_any (b : Nat) (c : Nat) (w : World) (hc : c < 256) (h : w.heap[b]? = some (.cells (bitA bits2) 211 (0, 0))) :
    Calls Tryz.prog 136 #[.pointer (some ⟨b, 0, none⟩), .int .u8 c] w fun e w' => e = .returned (.bool (decide (c = 0 ∨ c = 47))) ∧ w' = w := by
  have k := bit_c h c (by rw [bits2_len]; exact hc)
  rw [bits2_get c] at k
  have i1 : (c : Int) < 256 := by omega
  clear h
  generalize decide (c = 0 ∨ c = 47) = B at *
  go_enter Tryz.func136, Tryz.ntmps136
  go_wp2_with fail
  go_ret
  exact ⟨rfl, rfl⟩
theorem results2_row {P : Program} {fn : Func} {p q : Tmp} {ty : TypeId} (h : fn.results = #[.cell p ty, .tmp q]) (tmps : Array Value) (w : World) (g : Nat) (t : TypeId) (cs : Array Value) (fr : Nat × Nat) (d : TypeDesc)
    (hp : tmps.getD p undef = .pointer (some ⟨g, 0, none⟩)) (hg : w.heap[g]? = some (.cells cs t fr))
    (hu : P.underlying ty = some d) (hd : (match d with | .struct _ | .array _ _ => true | _ => false) = true) (hi : (P.info? ty).map (·.size) = some cs.size) :
    (results fn tmps).run P w = .ok (.tuple #[.agg cs, tmps.getD q undef]) w := by
  have hp' : tmps[p]?.getD undef = .pointer (some ⟨g, 0, none⟩) := by simpa using hp
  have hl := run_loadVar_row (P := P) w g t ty cs fr d hg hu hd hi
  simp [results, h, hp', asAddr, Sem.run_bind, hl, Result.andThen]
def bitsI (i : Nat) : List Bool := if i = 0 then bits0 else if i = 1 then bits0.set 0 true else bits2
theorem bitsI_len (i : Nat) : (bitsI i).length = 256 := by
  unfold bitsI
  split
  · exact bits0_len
  · split
    · rw [List.length_set, bits0_len]
    · exact bits2_len
def MakeRel (w : World) (B : Nat) (iv : Value) (wr : World) : Prop := ∃ i : Nat, iv = .int .i64 i ∧ i ≤ 2 ∧ wr.heap[B]? = some (.cells (bitA (bitsI i)) 211 (0, 0)) ∧ Below B w wr
set_option maxRecDepth 100000 in
set_option maxHeartbeats 2000000 in
theorem makeset_any (w : World) :
    Calls Tryz.prog 135 #[.string zs2] w fun e w' => e = .returned (.tuple #[.agg (bitA bits2), .bool true]) ∧ Below w.heap.size w w' := by
  have hz := zero_bits
  obtain ⟨B, hB⟩ : ∃ B, w.heap.size = B := ⟨_, rfl⟩
  have HB := Lib.hid (show (w.alloc (.cells (bitA bits0) 211)).heap[B]? = some (.cells (bitA (bitsI 0)) 211 (0, 0)) from m_alloc _ _ _ hB)
  have HBW := Lib.hid (show Below B w (w.alloc (.cells (bitA bits0) 211)) from (Below.refl _ _).alloc (Nat.le_of_eq hB.symm) _)
  rw [hB]
  have HBB := Lib.hid hB
  clear hB
  go_enter Tryz.func135, Tryz.ntmps135
  go_wp2_with fail
  rw [HBB.out]
  go_loopw [4, 5] (fun iv _ wr => MakeRel w B iv wr) (fun iv _ _ => 2 - (intOf iv).toNat)
  case atStart => exact ⟨0, rfl, by decide, HB.out, HBW.out⟩
  case round =>
    obtain ⟨i, rfl, hi, hblk, hbel⟩ := hrel
    have HBLK := Lib.hid hblk
    have HBEL := Lib.hid hbel
    clear hblk hbel HB HBW
    have hsz : zs2.size = 2 := rfl
    have hi0 : ∀ w, (Instr.index 9 (.string zs2) (.int .i64 0)).run Tryz.prog w = .ok (.int .u8 0) w := fun w => by kernel_rfl
    have hi1 : ∀ w, (Instr.index 9 (.string zs2) (.int .i64 1)).run Tryz.prog w = .ok (.int .u8 47) w := fun w => by kernel_rfl
    rcases (show i = 0 ∨ i = 1 ∨ i = 2 by omega) with rfl | rfl | rfl
    · have hc := bit_c HBLK.out 0 (by rw [bitsI_len]; decide)
      have hf := (m_cells HBLK.out).2 0
      have HS := Lib.hid (bit_set HBLK.out 0 true)
      have HL := Lib.hid (show Below B w (wr.setCell ⟨B, 0, none⟩ (.bool true)) from HBEL.out.setCell (Nat.le_refl _) _)
      go_wp2_with fail
      exact ⟨⟨1, by go_num, by decide, HS.out, HL.out⟩, by simp [intOf]⟩
    · have hc := bit_c HBLK.out 47 (by rw [bitsI_len]; decide)
      have hf := (m_cells HBLK.out).2 47
      have HS := Lib.hid (bit_set HBLK.out 47 true)
      have HL := Lib.hid (show Below B w (wr.setCell ⟨B, 47, none⟩ (.bool true)) from HBEL.out.setCell (Nat.le_refl _) _)
      go_wp2_with fail
      exact ⟨⟨2, by go_num, by decide, HS.out, HL.out⟩, by simp [intOf]⟩
    · have hs2 : (bitA bits2).size = 256 := by rw [bitA_size, bits2_len]
      have HSZ := Lib.hid hs2
      have HB2 := Lib.hid (show wr.heap[B]? = some (.cells (bitA bits2) 211 (0, 0)) from HBLK.out)
      clear hs2 HBLK
      go_wp2_with (first
        | (refine wpList_load_row rfl 211 _ rfl B rfl 211 (bitA bits2) (0, 0) _ HB2.out Tryz.underlying211 rfl ?c2 ?_; (case c2 => rw [bits_info, HSZ.out]))
        | (refine wpList_store_row rfl 211 _ _ rfl B (bitA bits2) rfl rfl 211 (bitA bits2) HB2.out ?d2 rfl (bitA_one _) ?_; (case d2 => rw [bits_info, HSZ.out])))
      refine bodyPost_ret (v := .tuple #[.agg (bitA bits2), .bool true]) (results2_row (p := 2) (q := 3) (ty := 211) rfl _ _ B 211 (bitA bits2) (0, 0) _ rfl (setRow_heap _ _ _ _ _ _ HB2.out) Tryz.underlying211 rfl (by rw [bits_info, HSZ.out])) rfl ⟨rfl, ?_⟩
      exact ⟨HBEL.out.os, HBEL.out.tape, HBEL.out.output, by have := HBEL.out.size; simp [World.setRow]; exact this, fun k hk => by rw [setRow_other _ _ _ _ (by omega)]; exact HBEL.out.block k hk⟩
end Go.Proofs.YtolilbcpfdnkjaaGreat

/- tree: good names: strings.IndexRune, IndexAny at the two bytes. -/
namespace Go.Proofs.YtolilbcpfdnkjaaGreat
open Go.RowKit
set_option linter.unusedSimpArgs false
set_option linter.unusedVariables false
set_option maxRecDepth 100000 in
set_option maxHeartbeats 1000000 in
theorem slIndexByte_any (s : ByteArray) (c : Int) (w : World) :
    Calls Tryz.prog 142 #[.string s, .int .u8 c] w fun e w' => e = .returned (.int .i64 (Lib.indexByte s.data.toList c.toNat.toUInt8)) ∧ w' = w := by
  go_enter Tryz.func142, Tryz.ntmps142
  go_wp2
  rw [run_callFunc_extern Tryz.func143 (by kernel_rfl) (by kernel_rfl) (by kernel_rfl) (e := Extern.BytealgIndexByte.indexByte) (by kernel_rfl), Lib.run_indexByteString]
  simp only [Result.andThen]
  rw [Oper.upon_value]
  go_wp2
  go_ret
  exact ⟨rfl, rfl⟩
set_option maxRecDepth 100000 in
set_option maxHeartbeats 1000000 in
theorem indexByte_any (s : ByteArray) (c : Int) (w : World) :
    Calls Tryz.prog 138 #[.string s, .int .u8 c] w fun e w' => e = .returned (.int .i64 (Lib.indexByte s.data.toList c.toNat.toUInt8)) ∧ w' = w := by
  go_enter Tryz.func138, Tryz.ntmps138
  go_wp2_with fail
  refine (slIndexByte_any s c w).mono ?_
  rintro e w1 ⟨rfl, rfl⟩
  go_wp2_with fail
  go_ret
  exact ⟨rfl, rfl⟩
theorem idx2 (c : Nat) (h : c < 256) : (0 ≤ Lib.indexByte zs2.data.toList c.toUInt8) ↔ (c = 0 ∨ c = 47) := by
  have key : ∀ c : Fin 256, (0 ≤ Lib.indexByte zs2.data.toList c.val.toUInt8) ↔ (c.val = 0 ∨ c.val = 47) := by decide +kernel
  exact key ⟨c, h⟩
set_option maxRecDepth 100000 in
set_option maxHeartbeats 1000000 in
theorem validrune_any (r : Nat) (w : World) (h : r ≤ 2147483647) :
    Calls Tryz.prog 139 #[.int .i32 r] w fun e w' => e = .returned (.bool (decide (r < 55296 ∨ (57343 < r ∧ r ≤ 1114111)))) ∧ w = w' := by
  by_cases h1 : r < 55296
  · have i1 : (r : Int) < 55296 := by omega
    rw [decide_eq_true (Or.inl h1)]
    go_enter Tryz.func139, Tryz.ntmps139
    go_wp2_with fail
    go_ret
    exact ⟨rfl, rfl⟩
  · have i1 : ¬ (r : Int) < 55296 := by omega
    by_cases h2 : 57343 < r
    · have i2 : (57343 : Int) < r := by omega
      by_cases h3 : r ≤ 1114111
      · have i3 : (r : Int) ≤ 1114111 := by omega
        rw [decide_eq_true (Or.inr ⟨h2, h3⟩)]
        go_enter Tryz.func139, Tryz.ntmps139
        go_wp2_with fail
        go_ret
        exact ⟨rfl, rfl⟩
      · have i3 : ¬ (r : Int) ≤ 1114111 := by omega
        rw [decide_eq_false (fun q => q.elim h1 (fun q => h3 q.2))]
        go_enter Tryz.func139, Tryz.ntmps139
        go_wp2_with fail
        go_ret
        exact ⟨rfl, rfl⟩
    · have i2 : ¬ (57343 : Int) < r := by omega
      rw [decide_eq_false (fun q => q.elim h1 (fun q => h2 q.1))]
      go_enter Tryz.func139, Tryz.ntmps139
      go_wp2_with fail
      go_ret
      exact ⟨rfl, rfl⟩
set_option maxRecDepth 100000 in
set_option maxHeartbeats 1000000 in
theorem indexrune_lo (c : Nat) (w : World) (h : c < 128) :
    Calls Tryz.prog 133 #[.string zs2, .int .i32 c] w fun e w' => e = .returned (.int .i64 (Lib.indexByte zs2.data.toList c.toUInt8)) ∧ w = w' := by
  have i1 : (c : Int) < 128 := by omega
  go_enter Tryz.func133, Tryz.ntmps133
  go_wp2_with fail
  refine (indexByte_any zs2 c w).mono ?_
  rintro e w1 ⟨rfl, rfl⟩
  go_wp2_with fail
  first
    | (go_ret; exact ⟨rfl, rfl⟩)
    | (rw [Exit.noGoto_ret]; go_ret; exact ⟨rfl, rfl⟩)
theorem run_index1 (s : ByteArray) (b : UInt8) (w : World) (h : s.data[1]? = some b) : (Instr.index 9 (.string s) (.int .i64 1)).run Tryz.prog w = .ok (.int .u8 b.toNat) w := by
  have hl : 1 < s.size := (Array.getElem?_eq_some_iff.1 h).1
  have he : s[1] = b := (Array.getElem?_eq_some_iff.1 h).2
  go_simp
  intro q
  omega
theorem enc_high (r : Int) (h : 128 ≤ r) : ∃ (n : Nat) (b : UInt8), (Utf8.encode r).size = n ∧ 2 ≤ n ∧ n ≤ 4 ∧ (n = 2 → (Utf8.encode r).data[1]? = some b ∧ 128 ≤ b.toNat) := by
  unfold Utf8.encode
  have hc : 128 ≤ (if Utf8.valid r = true then r.toNat else Utf8.runeError) := by
    split
    · omega
    · decide
  generalize (if Utf8.valid r = true then r.toNat else Utf8.runeError) = c at *
  simp only
  rw [if_neg (by omega)]
  split
  · exact ⟨2, UInt8.ofNat (0x80 + c % 64), rfl, by decide, by decide, fun _ => ⟨rfl, by rw [UInt8.toNat_ofNat']; omega⟩⟩
  · split
    · exact ⟨3, 0, rfl, by decide, by decide, fun q => by cases q⟩
    · exact ⟨4, 0, rfl, by decide, by decide, fun q => by cases q⟩
set_option maxRecDepth 100000 in
set_option maxHeartbeats 1000000 in
theorem indexrune_hi (r : Nat) (w : World) (h : 128 ≤ r) (h2 : r ≤ 2147483647) :
    Calls Tryz.prog 133 #[.string zs2, .int .i32 r] w fun e w' => e = .returned (.int .i64 (-1)) ∧ Below w.heap.size w w' := by
  have i1 : ¬ (r : Int) < 128 := by omega
  by_cases he : r = 65533
  · subst he
    go_enter Tryz.func133, Tryz.ntmps133
    go_wp2_with fail
    go_loopw [5, 6] (fun _ _ wr => ∃ pos : Nat, pos ≤ 2 ∧ wr.heap[w.heap.size]? = some (.stringIter zs2 pos) ∧ Below w.heap.size w wr) (fun _ _ wr => 2 - wr.iterPos w.heap.size)
    case atStart => exact ⟨0, by decide, World.iter_heap w zs2 0, (Below.refl _ _).alloc (Nat.le_refl _) _⟩
    case round =>
      obtain ⟨pos, hp, hit, hb⟩ := hrel
      have HIT := Lib.hid hit
      have HB := Lib.hid hb
      have e0 : (Utf8.decode zs2 0) = (0, 1) := by decide +kernel
      have e1 : (Utf8.decode zs2 1) = (47, 1) := by decide +kernel
      have E0 := Lib.hid e0
      have E1 := Lib.hid e1
      clear hb e0 e1
      rcases (show pos = 0 ∨ pos = 1 ∨ pos = 2 by omega) with rfl | rfl | rfl
      · have hnx : ∀ ty, (Instr.next (.pointer (some ⟨w.heap.size, 0, none⟩)) true ty).run Tryz.prog wr = .ok (.tuple #[.bool true, .int .i64 0, .int .i32 0]) (wr.iterAt w.heap.size zs2 1) := fun ty => by
          have := Lib.run_next_any_at (P := Tryz.prog) wr w.heap.size zs2 0 ty HIT.out (by decide)
          rw [E0.out] at this; exact this
        have h2 := Lib.iterAt_heap wr w.heap.size zs2 0 1 HIT.out
        have b2 := Lib.below_iterAt HB.out (k := w.heap.size) (Nat.le_refl _) zs2 1
        have H2 := Lib.hid h2
        have B2 := Lib.hid b2
        clear h2 b2 hit
        go_wp2_with fail
        exact ⟨⟨1, by decide, H2.out, B2.out⟩, by simp only [World.iterPos, H2.out, HIT.out]; decide⟩
      · have hnx : ∀ ty, (Instr.next (.pointer (some ⟨w.heap.size, 0, none⟩)) true ty).run Tryz.prog wr = .ok (.tuple #[.bool true, .int .i64 1, .int .i32 47]) (wr.iterAt w.heap.size zs2 2) := fun ty => by
          have := Lib.run_next_any_at (P := Tryz.prog) wr w.heap.size zs2 1 ty HIT.out (by decide)
          rw [E1.out] at this; exact this
        have h2 := Lib.iterAt_heap wr w.heap.size zs2 1 2 HIT.out
        have b2 := Lib.below_iterAt HB.out (k := w.heap.size) (Nat.le_refl _) zs2 2
        have H2 := Lib.hid h2
        have B2 := Lib.hid b2
        clear h2 b2 hit
        go_wp2_with fail
        exact ⟨⟨2, by decide, H2.out, B2.out⟩, by simp only [World.iterPos, H2.out, HIT.out]; decide⟩
      · have hnx : ∀ ty, (Instr.next (.pointer (some ⟨w.heap.size, 0, none⟩)) true ty).run Tryz.prog wr = .ok (.tuple #[.bool false]) wr := fun ty => Lib.run_next_end_at (P := Tryz.prog) wr w.heap.size zs2 2 ty HIT.out (by decide)
        clear hit
        go_wp2_with fail
        first
          | (go_ret; exact ⟨rfl, HB.out⟩)
          | (rw [Exit.noGoto_ret]; go_ret; exact ⟨rfl, HB.out⟩)
  · have i2 : ((r : Int) == 65533) = false := by simp; omega
    have i3 : ¬ (r : Int) = 65533 := by omega
    obtain ⟨vb, hvb⟩ : ∃ vb, decide (r < 55296 ∨ (57343 < r ∧ r ≤ 1114111)) = vb := ⟨_, rfl⟩
    have hvr := validrune_any r w h2
    rw [hvb] at hvr
    have HVR := Lib.hid hvr
    have HVB := Lib.hid hvb
    clear hvr hvb
    cases vb
    · go_enter Tryz.func133, Tryz.ntmps133
      go_wp2_with fail
      refine HVR.out.mono ?_
      rintro e w1 ⟨rfl, rfl⟩
      go_wp2_with fail
      first
        | (go_ret; exact ⟨rfl, Below.refl _ _⟩)
        | (rw [Exit.noGoto_ret]; go_ret; exact ⟨rfl, Below.refl _ _⟩)
    · go_enter Tryz.func133, Tryz.ntmps133
      go_wp2_with fail
      refine HVR.out.mono ?_
      rintro e w1 ⟨rfl, rfl⟩
      obtain ⟨n, b, hn, hn2, hn4, hnb⟩ := enc_high (r : Int) (by omega)
      have HNB := Lib.hid hnb
      clear hnb
      by_cases h2' : n = 2
      · subst h2'
        have hx := HNB.out rfl
        have hs2 : zs2.size = 2 := rfl
        have hb8 : ((b.toNat : Int) == 47) = false := by simp; omega
        have hb9 : ((47 : Int) == (b.toNat : Int)) = false := by simp; omega
        have hb7 : ((47 : Int) != (b.toNat : Int)) = true := by simp; omega
        have hi1 : ∀ w, (Instr.index 9 (.string zs2) (.int .i64 1)).run Tryz.prog w = .ok (.int .u8 47) w := fun w => by kernel_rfl
        have hi2 : ∀ w, (Instr.index 9 (.string (Utf8.encode (r : Int))) (.int .i64 1)).run Tryz.prog w = .ok (.int .u8 b.toNat) w := fun w => run_index1 _ _ _ hx.1
        clear hx
        go_wp2_with fail
        go_step3
        go_wp2_with fail
        go_loopw [9, 10, 11, 12, 4] (fun iv _ _ _ _ wr => iv = .int .i64 1 ∧ wr = w) (fun _ _ _ _ _ _ => 0)
        case atStart => exact ⟨rfl, rfl⟩
        case round =>
          obtain ⟨rfl, rfl⟩ := hrel
          go_wp2_with fail
          go_step3
          go_wp2_with fail
          go_quiet (fail)
          have hbq : Below wr.heap.size wr (wr.drewN nq) := below_drewN (Below.refl _ _) nq
          have HBQ := Lib.hid hbq
          clear hbq
          go_wp2_with fail
          generalize wr.drewN nq = wq at *
          have hcb : (b.toNat : Int).toNat.toUInt8 = b := by simp
          go_quiet ((go_at_call 138; exact Calls.quiet_of_same (indexByte_any _ _ _)))
          have him : ∀ c, Lib.indexByte ByteArray.empty.data.toList c = -1 := fun c => rfl
          have d0 : decide ((-1 : Int) < 0) = true := rfl
          rw [him]
          go_wp2_with fail
          rw [Exit.noGoto_ret]
          simp only [Exit.inBlock]
          first
            | (rename_i QQ _ _; dsimp only [QQ])
            | (rename_i QQ _ _ _; dsimp only [QQ])
            | (rename_i QQ _ _ _ _ _; dsimp only [QQ])
            | (rename_i QQ _ _ _ _ _ _ _; dsimp only [QQ])
          simp only [Exit.inBlock, Exit.then, Exit.noGoto_ret]
          go_ret
          exact ⟨rfl, by first | exact HBQ.out | exact below_drewN HBQ.out _⟩
      · have i5 : decide ((n : Int) - 1 < 2) = false := decide_eq_false (by omega)
        have hs2 : zs2.size = 2 := rfl
        go_wp2_with fail
        go_step3
        go_wp2_with fail
        go_loopw [9, 10, 11, 12, 4] (fun iv _ _ _ _ wr => iv = .int .i64 ((n : Int) - 1) ∧ wr = w) (fun _ _ _ _ _ _ => 0)
        case atStart => exact ⟨rfl, rfl⟩
        case round =>
          obtain ⟨rfl, rfl⟩ := hrel
          go_wp2_with fail
          first
            | (go_ret; exact ⟨rfl, Below.refl _ _⟩)
            | (rw [Exit.noGoto_ret]; go_ret; exact ⟨rfl, Below.refl _ _⟩)
end Go.Proofs.YtolilbcpfdnkjaaGreat

/- tree: good names. -/
namespace Go.Proofs.YtolilbcpfdnkjaaGreat
open Go.RowKit
set_option linter.unusedSimpArgs false
set_option linter.unusedVariables false
/-- A byte that no name has. -/
def badc (c : UInt8) : Bool := decide (c.toNat = 0 ∨ c.toNat = 47)
def noneBad (s : ByteArray) (n : Nat) : Prop := ∀ j c, j < n → s.data[j]? = some c → badc c = false
def hasBad (s : ByteArray) : Bool := s.data.toList.any badc
theorem hasBad_none {s : ByteArray} (h : noneBad s s.size) : hasBad s = false := by
  unfold hasBad
  rw [List.any_eq_false]
  intro c hc
  obtain ⟨j, hj⟩ := List.getElem?_of_mem hc
  have hl := (List.getElem?_eq_some_iff.1 hj).1
  rw [h j c hl (by rw [← Array.getElem?_toList]; exact hj)]
  exact Bool.false_ne_true
theorem hasBad_some {s : ByteArray} {j : Nat} {c : UInt8} (h : s.data[j]? = some c) (hb : badc c = true) : hasBad s = true := by
  unfold hasBad
  rw [List.any_eq_true]
  exact ⟨c, by rw [← Array.getElem?_toList] at h; exact List.mem_of_getElem? h, hb⟩
theorem noneBad_succ {s : ByteArray} {i : Nat} {c : UInt8} (h : noneBad s i) (hc : s.data[i]? = some c) (hb : badc c = false) : noneBad s (i + 1) := by
  intro j d hj hd
  rcases Nat.lt_succ_iff_lt_or_eq.1 hj with q | q
  · exact h j d q hd
  · subst q; rw [hc] at hd; cases hd; exact hb
theorem at_get (s : ByteArray) (i k : Nat) (h : i + k < s.size) : s.data[i + k]? = some (s.get! (i + k)) := by
  have e : s.get! (i + k) = s.data[i + k]'h := by
    show s.data[i + k]! = _
    exact getElem!_pos s.data (i + k) h
  rw [e]; exact Array.getElem?_eq_getElem h
theorem dec_high (s : ByteArray) (i : Nat) (h : i < s.size) (ha : 128 ≤ (s[i]'h).toNat) :
    i + (Utf8.decode s i).2 ≤ s.size ∧ ∀ j c, i ≤ j → j < i + (Utf8.decode s i).2 → s.data[j]? = some c → badc c = false := by
  have h0 : s.data[i + 0]? = some (s.get! (i + 0)) := at_get s i 0 h
  have hb0 : 128 ≤ (s.get! (i + 0)).toNat := by
    have : s.data[i + 0]? = some (s[i]'h) := Array.getElem?_eq_getElem h
    rw [h0] at this; rw [Option.some.inj this]; exact ha
  have key : ∀ n, n ≤ 4 → (∀ k, k < n → i + k < s.size ∧ 128 ≤ (s.get! (i + k)).toNat) → 1 ≤ n → i + n ≤ s.size ∧ ∀ j c, i ≤ j → j < i + n → s.data[j]? = some c → badc c = false := by
    intro n _ hk hn
    refine ⟨by have := (hk (n - 1) (by omega)).1; omega, fun j c h1 h2 h3 => ?_⟩
    obtain ⟨k, rfl⟩ : ∃ k, j = i + k := ⟨j - i, by omega⟩
    obtain ⟨a, b⟩ := hk k (by omega)
    rw [at_get s i k a] at h3
    rw [← Option.some.inj h3]
    unfold badc
    exact decide_eq_false (by omega)
  have c0 : i + 0 < s.size ∧ 128 ≤ (s.get! (i + 0)).toNat := ⟨h, hb0⟩
  have cont : ∀ k, (decide (i + k < s.size) && (s.get! (i + k)).toNat / 64 == 2) = true → i + k < s.size ∧ 128 ≤ (s.get! (i + k)).toNat := by
    intro k q
    simp only [Bool.and_eq_true, decide_eq_true_eq, beq_iff_eq] at q
    omega
  have one : i + 1 ≤ s.size ∧ ∀ j c, i ≤ j → j < i + 1 → s.data[j]? = some c → badc c = false := key 1 (by decide) (fun k hk => by rw [show k = 0 from by omega]; exact c0) (by decide)
  unfold Utf8.decode
  simp only
  rw [if_neg (by omega)]
  split
  · rename_i q
    rw [Bool.and_eq_true] at q
    split
    · exact key 2 (by decide) (fun k hk => by
        rcases (show k = 0 ∨ k = 1 by omega) with rfl | rfl
        · exact c0
        · exact cont 1 q.2) (by decide)
    · exact one
  · split
    · rename_i q
      rw [Bool.and_eq_true, Bool.and_eq_true] at q
      split
      · exact key 3 (by decide) (fun k hk => by
          rcases (show k = 0 ∨ k = 1 ∨ k = 2 by omega) with rfl | rfl | rfl
          · exact c0
          · exact cont 1 q.1.2
          · exact cont 2 q.2) (by decide)
      · exact one
    · split
      · rename_i q
        rw [Bool.and_eq_true, Bool.and_eq_true, Bool.and_eq_true] at q
        split
        · exact key 4 (by decide) (fun k hk => by
            rcases (show k = 0 ∨ k = 1 ∨ k = 2 ∨ k = 3 by omega) with rfl | rfl | rfl | rfl
            · exact c0
            · exact cont 1 q.1.1.2
            · exact cont 2 q.1.2
            · exact cont 3 q.2) (by decide)
        · exact one
      · exact one
theorem str_byte (s : ByteArray) (i : Nat) (h : i < s.size) : ∃ c, s.data[i]? = some c ∧ s[i]'h = c := ⟨s.data[i]'h, Array.getElem?_eq_getElem h, rfl⟩
/-- What IndexAny answers: a place, just where one of the two bytes is. -/
def AnyPost (s : ByteArray) (w : World) (e : Ending) (w' : World) : Prop := ∃ i : Int, e = .returned (.int .i64 i) ∧ decide (0 ≤ i) = hasBad s ∧ Below w.heap.size w w'
theorem AnyPost.no {s : ByteArray} {w w' : World} (h : noneBad s s.size) (hb : Below w.heap.size w w') : AnyPost s w (.returned (.int .i64 (-1))) w' := ⟨-1, rfl, by rw [hasBad_none h]; rfl, hb⟩
theorem AnyPost.yes {s : ByteArray} {w w' : World} {i : Nat} {c : UInt8} (h : s.data[i]? = some c) (hc : badc c = true) (hb : Below w.heap.size w w') : AnyPost s w (.returned (.int .i64 i)) w' :=
  ⟨i, rfl, by rw [hasBad_some h hc]; exact decide_eq_true (by omega), hb⟩
set_option maxHeartbeats 1000000 in
theorem useset_any (n : Int) (w : World) : Calls Tryz.prog 134 #[.int .i64 n] w fun e w' => e = .returned (.bool (decide (8 < n))) ∧ w = w' := by
  go_enter Tryz.func134, Tryz.ntmps134
  go_wp2_with fail
  go_ret
  exact ⟨rfl, rfl⟩
set_option maxRecDepth 100000 in
set_option maxHeartbeats 2000000 in
theorem indexany_any (s : ByteArray) (w : World) (hs : s.size ≤ 100000) :
    Calls Tryz.prog 125 #[.string s, .string zs2] w (AnyPost s w) := by
  have hz2 : zs2.size = 2 := rfl
  have hz3 : zs2.toList.isEmpty = false := by decide +kernel
  have hz4 : (zs2.toList == []) = false := by decide +kernel
  by_cases h8 : 8 < s.size
  · have i1 : (8 : Int) < s.size := by omega
    have hz := zero_bits
    go_enter Tryz.func125, Tryz.ntmps125
    go_wp2_with fail
    refine (useset_any _ _).mono ?_
    rintro e w0 ⟨rfl, rfl⟩
    rw [decide_eq_true i1]
    go_wp2_with fail
    refine (makeset_any _).mono ?_
    rintro e w1 ⟨rfl, hb1⟩
    obtain ⟨B, hB⟩ : ∃ B, w1.heap.size = B := ⟨_, rfl⟩
    have HB1 := Lib.hid hb1
    have HWB := Lib.hid (show w.heap.size ≤ B from by rw [← hB]; exact hb1.size)
    have hal := m_alloc w1 (.cells (bitA bits0) 211 (0, 0)) B hB
    have HAL := Lib.hid hal
    have hs0 : (bitA bits0).size = 256 := by rw [bitA_size, bits0_len]
    have hs2 : (bitA bits2).size = 256 := by rw [bitA_size, bits2_len]
    have HS0 := Lib.hid hs0
    have HS2 := Lib.hid hs2
    have HBB := Lib.hid hB
    clear hb1 hal hs0 hs2 hB
    go_wp2_with (first
      | (refine wpList_store_row rfl 211 _ _ rfl w1.heap.size (bitA bits2) rfl rfl 211 (bitA bits0) (by rw [HBB.out]; exact HAL.out) ?d2 ?d3 (bitA_one _) ?_; (case d2 => rw [bits_info, HS2.out]); (case d3 => rw [HS0.out, HS2.out])))
    rw [HBB.out]
    have HBLK := Lib.hid (show ((w1.alloc (.cells (bitA bits0) 211 (0, 0))).setRow B (bitA bits2)).heap[B]? = some (.cells (bitA bits2) 211 (0, 0)) from setRow_heap _ _ _ _ _ _ HAL.out)
    have hbw : Below w.heap.size w (w1.alloc (.cells (bitA bits0) 211 (0, 0))) := HB1.out.alloc HB1.out.size _
    have HBW := Lib.hid (show Below w.heap.size w ((w1.alloc (.cells (bitA bits0) 211 (0, 0))).setRow B (bitA bits2)) from
      ⟨hbw.os, hbw.tape, hbw.output, by have := hbw.size; simp [World.setRow]; simpa using this, fun k hk => by rw [setRow_other _ _ _ _ (by have := HWB.out; omega)]; exact hbw.block k hk⟩)
    clear hbw HAL
    generalize (w1.alloc (.cells (bitA bits0) 211 (0, 0))).setRow B (bitA bits2) = w2 at *
    go_loopw [8] (fun iv wr => ∃ i : Nat, iv = .int .i64 i ∧ i ≤ s.size ∧ noneBad s i ∧ wr = w2) (fun iv _ => s.size - (intOf iv).toNat)
    case atStart => exact ⟨0, rfl, Nat.zero_le _, fun j c hj => by omega, rfl⟩
    case round =>
      obtain ⟨i, rfl, hi, hnb, rfl⟩ := hrel
      have HNB := Lib.hid hnb
      clear hnb
      by_cases hlt : i < s.size
      · have j1 : (i : Int) < s.size := by omega
        obtain ⟨c, hc, hsc⟩ := str_byte s i hlt
        have HC := Lib.hid hc
        have hcl := c.toNat_lt
        obtain ⟨bb, hbb⟩ : ∃ b, decide (c.toNat = 0 ∨ c.toNat = 47) = b := ⟨_, rfl⟩
        have hcall := contains_any B c.toNat wr hcl HBLK.out
        rw [hbb] at hcall
        have HCALL := Lib.hid hcall
        have HBAD := Lib.hid (show badc c = bb from hbb)
        clear hc hcall hbb
        go_wp2_with fail
        refine HCALL.out.mono ?_
        rintro e w3 ⟨rfl, rfl⟩
        cases bb
        · go_wp2_with fail
          exact ⟨⟨i + 1, by go_num, hlt, noneBad_succ HNB.out HC.out HBAD.out, trivial⟩, by simp [intOf]; omega⟩
        · go_wp2_with fail
          go_ret
          exact AnyPost.yes HC.out HBAD.out HBW.out
      · have ei : i = s.size := by omega
        subst ei
        have j1 : ¬ ((s.size : Int) < s.size) := by omega
        go_wp2_with fail
        go_ret
        exact AnyPost.no HNB.out HBW.out
  · have i1 : ¬ (8 : Int) < s.size := by omega
    go_enter Tryz.func125, Tryz.ntmps125
    go_wp2_with fail
    refine (useset_any _ _).mono ?_
    rintro e w0 ⟨rfl, rfl⟩
    rw [decide_eq_false (show ¬ (8 : Int) < s.size by omega)]
    obtain ⟨B, hB⟩ : ∃ B, w.heap.size = B := ⟨_, rfl⟩
    have HBB := Lib.hid hB
    clear hB
    go_wp2_with fail
    rw [HBB.out]
    go_loopw [9, 10] (fun _ _ wr => ∃ pos : Nat, pos ≤ s.size ∧ wr.heap[B]? = some (.stringIter s pos) ∧ noneBad s pos ∧ Below w.heap.size w wr) (fun _ _ wr => s.size - wr.iterPos B)
    case atStart => exact ⟨0, Nat.zero_le _, by rw [← HBB.out]; exact World.iter_heap w s 0, fun j c hj => by omega, (Below.refl _ _).alloc (Nat.le_refl _) _⟩
    case round =>
      obtain ⟨pos, hp, hit, hnb, hb⟩ := hrel
      have HIT := Lib.hid hit
      have HB := Lib.hid hb
      have HNB := Lib.hid hnb
      clear hb hnb hit
      by_cases hlt : pos < s.size
      · obtain ⟨c, hc, hsc⟩ := str_byte s pos hlt
        have HC := Lib.hid hc
        by_cases hlo : c.toNat < 128
        · have hd : Utf8.decode s pos = (c.toNat, 1) := by rw [← hsc]; exact decode_ascii s pos hlt (by rw [hsc]; exact hlo)
          have hnx : ∀ ty, (Instr.next (.pointer (some ⟨B, 0, none⟩)) true ty).run Tryz.prog wr = .ok (.tuple #[.bool true, .int .i64 pos, .int .i32 c.toNat]) (wr.iterAt B s (pos + 1)) := fun ty => by
            have := Lib.run_next_any_at (P := Tryz.prog) wr B s pos ty HIT.out hlt
            rw [hd] at this; exact this
          have H2 := Lib.hid (Lib.iterAt_heap wr B s pos (pos + 1) HIT.out)
          have B2 := Lib.hid (Lib.below_iterAt HB.out (k := B) (Nat.le_of_eq HBB.out) s (pos + 1))
          have hir := fun w => indexrune_lo c.toNat w hlo
          have hix := idx2 c.toNat (by omega)
          have hbd : badc c = decide (0 ≤ Lib.indexByte zs2.data.toList c.toNat.toUInt8) := by unfold badc; exact decide_eq_decide.2 hix.symm
          obtain ⟨X, hX⟩ : ∃ X, Lib.indexByte zs2.data.toList c.toNat.toUInt8 = X := ⟨_, rfl⟩
          rw [hX] at hbd
          simp only [hX] at hir
          obtain ⟨bb, hbb⟩ : ∃ b, decide (0 ≤ X) = b := ⟨_, rfl⟩
          have HBAD := Lib.hid (hbd.trans hbb)
          have HIR := Lib.hid hir
          clear hd hir hix hbd hX hc hsc
          go_wp2_with fail
          refine (HIR.out _).mono ?_
          rintro e w3 ⟨rfl, rfl⟩
          cases bb
          · go_wp2_with fail
            exact ⟨⟨pos + 1, by omega, H2.out, noneBad_succ HNB.out HC.out HBAD.out, B2.out⟩, by simp only [World.iterPos, H2.out, HIT.out]; omega⟩
          · go_wp2_with fail
            go_ret
            exact AnyPost.yes HC.out HBAD.out B2.out
        · obtain ⟨q1, q2⟩ := decode_high s pos hlt (by rw [hsc]; omega)
          obtain ⟨q3, q4⟩ := dec_high s pos hlt (by rw [hsc]; omega)
          have q5 := decode_le s pos
          have hnx : ∀ ty, (Instr.next (.pointer (some ⟨B, 0, none⟩)) true ty).run Tryz.prog wr = .ok (.tuple #[.bool true, .int .i64 pos, .int .i32 (Utf8.decode s pos).1]) (wr.iterAt B s (pos + (Utf8.decode s pos).2)) := fun ty => Lib.run_next_any_at (P := Tryz.prog) wr B s pos ty HIT.out hlt
          have H2 := Lib.hid (Lib.iterAt_heap wr B s pos (pos + (Utf8.decode s pos).2) HIT.out)
          have B2 := Lib.hid (Lib.below_iterAt HB.out (k := B) (Nat.le_of_eq HBB.out) s (pos + (Utf8.decode s pos).2))
          obtain ⟨r, hr⟩ : ∃ r, (Utf8.decode s pos).1 = r := ⟨_, rfl⟩
          obtain ⟨n, hn⟩ : ∃ n, (Utf8.decode s pos).2 = n := ⟨_, rfl⟩
          rw [hr] at hnx q1 q5
          rw [hn] at hnx H2 B2 q2 q3 q4
          have N2 := Lib.hid (show noneBad s (pos + n) from fun j d hj hd => by
            by_cases q : j < pos
            · exact HNB.out j d q hd
            · exact q4 j d (by omega) hj hd)
          have HIR := Lib.hid (indexrune_hi r (wr.iterAt B s (pos + n)) q1 q5)
          have hBl : B < (wr.iterAt B s (pos + n)).heap.size := m_lt H2.out
          clear hr hn q4 hc hsc
          go_wp2_with fail
          refine HIR.out.mono ?_
          rintro e w3 ⟨rfl, hb3⟩
          have H3 := Lib.hid ((hb3.block B hBl).trans H2.out)
          have B3 := Lib.hid (B2.out.trans (hb3.mono B2.out.size))
          clear hb3 hBl
          go_wp2_with fail
          exact ⟨⟨pos + n, q3, H3.out, N2.out, B3.out⟩, by simp only [World.iterPos, H3.out, HIT.out]; omega⟩
      · have ep : pos = s.size := by omega
        subst ep
        have hnx : ∀ ty, (Instr.next (.pointer (some ⟨B, 0, none⟩)) true ty).run Tryz.prog wr = .ok (.tuple #[.bool false]) wr := fun ty => Lib.run_next_end_at (P := Tryz.prog) wr B s s.size ty HIT.out hlt
        go_wp2_with fail
        go_ret
        exact AnyPost.no HNB.out HB.out
end Go.Proofs.YtolilbcpfdnkjaaGreat

/- tree: what is wrong with a new entry. -/
namespace Go.Proofs.YtolilbcpfdnkjaaGreat
open Go.RowKit
set_option linter.unusedSimpArgs false
set_option linter.unusedVariables false
def dot1 : ByteArray := ⟨#[46]⟩
def dot2 : ByteArray := ⟨#[46, 46]⟩
theorem dot_ne (s d : ByteArray) (l : List UInt8) (hd : d.toList = l) : decide (s ≠ d) = !(s.toList == l) := by
  rw [← hd]
  by_cases e : s = d
  · rw [decide_eq_false (fun q => q e), (bstr_eq_iff s d).2 e]; rfl
  · rw [decide_eq_true e, Bool.eq_false_iff.2 (fun q => e ((bstr_eq_iff s d).1 q))]; rfl
def goodB (s : ByteArray) : Bool := decide (1 ≤ s.size) && (decide (s.size ≤ 255) && (!hasBad s && (decide (s ≠ dot1) && decide (s ≠ dot2))))
set_option maxRecDepth 100000 in
set_option maxHeartbeats 1000000 in
theorem containsany_any (s : ByteArray) (w : World) (hs : s.size ≤ 100000) :
    Calls Tryz.prog 109 #[.string s, .string zs2] w fun e w' => e = .returned (.bool (hasBad s)) ∧ Below w.heap.size w w' := by
  go_enter Tryz.func109, Tryz.ntmps109
  go_wp2_with fail
  refine (indexany_any s w hs).mono ?_
  rintro e w1 ⟨i, rfl, hi, hb⟩
  have HI := Lib.hid hi
  have HB := Lib.hid hb
  clear hi hb
  go_wp2_with fail
  go_ret
  exact ⟨ret_bool HI.out, HB.out⟩
set_option maxRecDepth 100000 in
set_option maxHeartbeats 2000000 in
theorem good_any (s : ByteArray) (w : World) (hs : s.size ≤ maxLen) :
    Calls Tryz.prog 87 #[.string s] w fun e w' => e = .returned (.bool (goodB s)) ∧ Below w.heap.size w w' := by
  unfold maxLen at hs
  by_cases h1 : 1 ≤ s.size
  · have d1 : decide ((1 : Int) ≤ s.size) = true := decide_eq_true (by omega)
    by_cases h2 : s.size ≤ 255
    · have d2 : decide ((s.size : Int) ≤ 255) = true := decide_eq_true (by omega)
      have hc := fun w => containsany_any s w (by omega)
      obtain ⟨hb, hhb⟩ : ∃ b, hasBad s = b := ⟨_, rfl⟩
      rw [hhb] at hc
      have HC := Lib.hid hc
      have e1 : decide (s ≠ dot1) = !(s.toList == [46]) := dot_ne s dot1 [46] (by decide +kernel)
      have e2 : decide (s ≠ dot2) = !(s.toList == [46, 46]) := dot_ne s dot2 [46, 46] (by decide +kernel)
      obtain ⟨b1, hb1⟩ : ∃ b, (s.toList == [46]) = b := ⟨_, rfl⟩
      obtain ⟨b2, hb2⟩ : ∃ b, (s.toList == [46, 46]) = b := ⟨_, rfl⟩
      rw [hb1] at e1
      rw [hb2] at e2
      have HG := Lib.hid (show goodB s = (!hb && (!b1 && !b2)) by unfold goodB; rw [decide_eq_true h1, decide_eq_true h2, hhb, e1, e2]; rfl)
      clear hc hhb e1 e2
      go_enter Tryz.func87, Tryz.ntmps87
      go_wp2_with fail
      refine (HC.out _).mono ?_
      rintro e w1 ⟨rfl, hbw⟩
      have HB1 := Lib.hid hbw
      clear hbw
      cases hb <;> cases b1 <;> cases b2
      all_goals
        go_wp2_with fail
        go_ret
        exact ⟨ret_bool HG.out.symm, HB1.out⟩
    · have d2 : decide ((s.size : Int) ≤ 255) = false := decide_eq_false (by omega)
      have HG := Lib.hid (show goodB s = false by unfold goodB; rw [decide_eq_false h2, Bool.and_comm]; rfl)
      go_enter Tryz.func87, Tryz.ntmps87
      go_wp2_with fail
      go_ret
      exact ⟨ret_bool HG.out.symm, Below.refl _ _⟩
  · have d1 : decide ((1 : Int) ≤ s.size) = false := decide_eq_false (by omega)
    have HG := Lib.hid (show goodB s = false by unfold goodB; rw [decide_eq_false h1]; rfl)
    go_enter Tryz.func87, Tryz.ntmps87
    go_wp2_with fail
    go_ret
    exact ⟨ret_bool HG.out.symm, Below.refl _ _⟩
/-- What is wrong with a new entry, but that there is one already. -/
def mayErr (name : ByteArray) (short : Int) : Int := if goodB name = false then 3 else if short < 0 ∨ 1000000 < short then 1 else 0
set_option maxRecDepth 100000 in
set_option maxHeartbeats 1000000 in
theorem tmay_any (name : ByteArray) (short : Int) (w : World) (hs : name.size ≤ maxLen) :
    Calls Tryz.prog 55 #[.string name, .int .i64 short] w fun e w' => e = .returned (.int .i64 (mayErr name short)) ∧ Below w.heap.size w w' := by
  have hg := fun w => good_any name w hs
  obtain ⟨b, hb⟩ : ∃ b, goodB name = b := ⟨_, rfl⟩
  rw [hb] at hg
  have HG := Lib.hid hg
  have HM := Lib.hid (show mayErr name short = if b = false then 3 else if short < 0 ∨ 1000000 < short then 1 else 0 by unfold mayErr; rw [hb])
  clear hg hb
  go_enter Tryz.func55, Tryz.ntmps55
  go_wp2_with fail
  refine (HG.out _).mono ?_
  rintro e w1 ⟨rfl, hb1⟩
  have HB1 := Lib.hid hb1
  clear hb1
  cases b
  · go_wp2_with fail
    go_ret
    exact ⟨ret_int HM.out.symm, HB1.out⟩
  · by_cases h1 : short < 0
    · have d1 : decide (short < 0) = true := decide_eq_true h1
      go_wp2_with fail
      go_ret
      exact ⟨ret_int (by rw [HM.out, if_neg (by decide), if_pos (Or.inl h1)]), HB1.out⟩
    · have d1 : decide (short < 0) = false := decide_eq_false h1
      by_cases h2 : 1000000 < short
      · have d2 : decide (1000000 < short) = true := decide_eq_true h2
        go_wp2_with fail
        go_ret
        exact ⟨ret_int (by rw [HM.out, if_neg (by decide), if_pos (Or.inr h2)]), HB1.out⟩
      · have d2 : decide (1000000 < short) = false := decide_eq_false h2
        go_wp2_with fail
        go_ret
        exact ⟨ret_int (by rw [HM.out, if_neg (by decide), if_neg (by omega)]), HB1.out⟩
end Go.Proofs.YtolilbcpfdnkjaaGreat
