/- deed: rows of bytes; number, name. -/
import Derived.Test.YtolilbcpfdnkjaaGreatZALib0
namespace Go.Proofs.YtolilbcpfdnkjaaGreat
open Go.RowKit
set_option maxRecDepth 100000
theorem info_u8 : (Tryz.prog.info? 5).map (fun i => (i.zero, i.size, i.bytes)) = some (some (.int .u8 0), 1, 1) := by kernel_rfl
/-- A slice of bytes of the call's own, from block B on. -/
def Byt (w : World) (B : Nat) (v : Value) (l : List UInt8) : Prop := w.ownsRow B 5 1 v l.length (bv l)
theorem Byt.nil (w : World) (B : Nat) : Byt w B (.slice none 0 0) [] := World.ownsRow_nil _ _ _ _
theorem Byt.alloc {w : World} {B : Nat} {v : Value} {l : List UInt8} (h : Byt w B v l) (o : Obj) : Byt (w.alloc o) B v l := World.ownsRow.alloc h o
theorem Byt.drew {w : World} {B : Nat} {v : Value} {l : List UInt8} (h : Byt w B v l) : Byt w.drew B v l := h
theorem Byt.lt {w : World} {B : Nat} {v : Value} {l : List UInt8} (h : Byt w B v l) : ∀ k, v.ownBlock = some k → B ≤ k ∧ k < w.heap.size := World.ownsRow.lt h
theorem Byt.new (w : World) (B : Nat) (cs : Array Value) (l : List UInt8) (hB : B ≤ w.heap.size) (e : cs.toList = bv l) (hl : l.length ≤ maxLen) : Byt (w.alloc (.cells cs 5)) B (.slice (some ⟨w.heap.size, 0, none⟩) l.length l.length) l := by
  have := World.ownsRow_lit (base := B) (e := 5) (size := 1) w cs l.length hB hl (by rw [← Array.length_toList, e, bv_length]; omega)
  rw [e] at this; exact this
theorem Byt.convert {w : World} {B : Nat} {v : Value} {l : List UInt8} (h : Byt w B v l) : (convert 69 9 v).run Tryz.prog w = .ok (.string ⟨l.toArray⟩) w := by
  obtain ⟨_, h⟩ := h
  rcases h with ⟨rfl, h0⟩ | ⟨g, cap, cur, rfl, hg, hh, hn, hc, hs, hcur⟩
  · have : l = [] := List.eq_nil_of_length_eq_zero h0
    subst this
    exact run_convert_bytes_nil (P := Tryz.prog) w 69 5 Tryz.underlying69 Tryz.underlying5 0 0 9 Tryz.underlying9
  · have := run_convert_bytes_arg (P := Tryz.prog) w 69 5 Tryz.underlying69 Tryz.underlying5 g 0 l.length cap (l.map fun c => (c.toNat : Int)) (by simp) (fun i hi => by
      have e1 : w.cell? ⟨g, 0 + i, none⟩ = cur[i]? := by simp [World.cell?, hh]
      have e2 : cur[i]? = (bv l)[i]? := by
        rw [← hcur, List.getElem?_take_of_lt (by omega)]; simp
      rw [e1, e2]; simp [bv, hi]) 9 Tryz.underlying9
    rw [this]
    congr 2
    simp only [strOfNums, List.map_map]
    congr 2
    rw [show ((fun n : Int => UInt8.ofNat n.toNat) ∘ fun c : UInt8 => (c.toNat : Int)) = id from by funext c; simp]
    simp
section
variable {ops : Array Oper} {rest : List Oper} {o : Oper} {a : Act} {w : World} {Q : Exit → Act → World → Prop} {B : Nat}
theorem app_bytes (hgd : o.guard = none) (s x : Operand) (ho : o.op = .call { callee := .builtin .append, args := #[s, x], argTypes := #[69, 69] })
    (v : Value) (l : List UInt8) (hs : a.eval s = v) (hown : Byt w B v l) (ad : Addr) (m c : Nat) (news : List UInt8) (hx : a.eval x = .slice (some ad) m c) (hl : news.length = m)
    (hnews : ∀ j u, (bv news)[j]? = some u → w.cell? (ad.add j) = some u) (hbytes : l.length + m ≤ 140737488355328) (hbase : B ≤ w.heap.size)
    (h : ∀ v' w', Byt w' B v' (l ++ news) → w.grownBy w' v.ownBlock → wpList Tryz.prog ops Q rest (a.put o.dst v') w') : wpList Tryz.prog ops Q (o :: rest) a w := by
  obtain ⟨i0, hi, hz0, hz1, hz2⟩ := info_parts info_u8
  refine wpList_append_own _ hgd s x 69 ho B 5 i0 (.int .u8 0) 1 1 Tryz.underlying69 hi hz0 hz1 hz2 rfl (by decide) v l.length (bv l) hs hown ad m c (bv news) hx (by rw [bv_length]; omega) hnews (fun u hu => ?_) (by unfold maxLen; omega) (by omega) hbase ?_
  · obtain ⟨c, _, rfl⟩ := List.mem_map.1 hu; rfl
  · intro v' w' h1 h2 _
    refine h v' w' ?_ h2
    unfold Byt; rw [List.length_append, hl, bv_append]; exact h1
theorem app_str (hgd : o.guard = none) (s x : Operand) (ho : o.op = .call { callee := .builtin .append, args := #[s, x], argTypes := #[69, 9] })
    (v : Value) (l : List UInt8) (hs : a.eval s = v) (hown : Byt w B v l) (t : ByteArray) (hx : a.eval x = .string t)
    (hbytes : l.length + t.size ≤ 140737488355328) (hbase : B ≤ w.heap.size)
    (h : ∀ v' w', Byt w' B v' (l ++ t.data.toList) → w.grownBy w' v.ownBlock → wpList Tryz.prog ops Q rest (a.put o.dst v') w') : wpList Tryz.prog ops Q (o :: rest) a w := by
  obtain ⟨i0, hi, hz0, hz1, hz2⟩ := info_parts info_u8
  refine Go.Lib.wpList_append_own_string _ hgd s x 69 9 ho B 5 i0 Tryz.underlying69 Tryz.underlying9 hi hz0 hz1 hz2 v l.length (bv l) hs hown t hx (by unfold maxLen; omega) (by omega) hbase ?_
  intro v' w' h1 h2 _
  refine h v' w' ?_ h2
  unfold Byt; rw [List.length_append, bv_append]; exact h1
theorem make_bytes (hgd : o.guard = none) (l c : Operand) (ho : o.op = Op.makeSlice 69 l c) (n : Nat) (hl : a.eval l = .int .i64 n) (hc : a.eval c = .int .i64 n) (hn : n ≤ 140737488355328) (hB : B ≤ w.heap.size)
    (h : ∀ w', Byt w' B (.slice (some ⟨w.heap.size, 0, none⟩) n n) (List.replicate n 0) → w.grownBy w' none → wpList Tryz.prog ops Q rest (a.put o.dst (.slice (some ⟨w.heap.size, 0, none⟩) n n)) w') : wpList Tryz.prog ops Q (o :: rest) a w := by
  obtain ⟨i0, hi, hz0, hz1, hz2⟩ := info_parts info_u8
  refine wpList_make_full w hgd l c 69 ho B 5 i0 (.int .u8 0) 1 Tryz.underlying69 hi hz0 hz1 .i64 .i64 n n n hl hc rfl rfl (by rw [hz2]; omega) (by unfold maxLen; omega) hB ?_
  intro w' h1 h2
  refine h w' ?_ h2
  have e : (madeCells (Value.int IntKind.u8 0).cells (n * 1)).toList = bv (List.replicate n 0) := by
    show (madeCells #[Value.int IntKind.u8 0] (n * 1)).toList = _
    rw [toList_madeCells_one, Nat.mul_one]; simp [bv]
  unfold Byt; rw [List.length_replicate, ← e]; exact h1
theorem conv_bytes (hgd : o.guard = none) (x : Operand) (ho : o.op = .convert 69 9 x) (v : Value) (l : List UInt8) (hx : a.eval x = v) (hown : Byt w B v l)
    (h : wpList Tryz.prog ops Q rest (a.put o.dst (.string ⟨l.toArray⟩)) w) : wpList Tryz.prog ops Q (o :: rest) a w := by
  refine wpList_plain hgd fun K hK => ?_
  unfold Oper.wp execOp
  simp only [ho, hx, Sem.run_bind, hown.convert, Result.andThen_ok, Sem.run_pure]
  exact hK _ _ h
end
/-- One byte, new in memory. -/
theorem new_bytes {w : World} (cs : Array Value) (l : List UInt8) (e : cs.toList = bv l) (t : TypeId) : ∀ j u, (bv l)[j]? = some u → (w.alloc (.cells cs t)).cell? ((⟨w.heap.size, 0, none⟩ : Addr).add j) = some u := by
  intro j u hj
  have : cs[j]? = some u := by rw [← Array.getElem?_toList, e]; exact hj
  unfold Addr.add; split
  · subst j; simpa using this
  · simpa using this
set_option maxHeartbeats 1000000 in
theorem number_any (B n size : Nat) (v : Value) (l : List UInt8) (w : World) (hown : Byt w B v l) (hB : B ≤ w.heap.size) (h1 : 1 ≤ size) (hs : size ≤ 4) (hl : l.length ≤ 1000000) :
    Calls Tryz.prog 104 #[v, .int .i64 n, .int .i64 size] w fun e w' => ∃ v', e = .returned v' ∧ Byt w' B v' (l ++ numBytes size n) ∧ Below B w w' := by
  go_enter Tryz.func104, Tryz.ntmps104
  go_wp2
  go_loopw [0, 7] (fun v i wr => ∃ (rem : Nat) (acc : List UInt8), rem ≤ size ∧ i = .int .i64 (8 * ((rem : Int) - 1)) ∧ Hid (acc ++ numBytes rem n = l ++ numBytes size n) ∧ acc.length + rem ≤ l.length + size ∧ Byt wr B v acc ∧ Below B w wr) (fun _ i _ => (intOf i + 8).toNat)
  case atStart => exact ⟨size, l, Nat.le_refl _, rfl, rfl, Nat.le_refl _, hown, Below.refl _ _⟩
  case round =>
    obtain ⟨rem, acc, hrem, rfl, hacc, hlen, hown1, hb1⟩ := hrel
    rcases rem with _ | rem
    · have hlt : decide ((0:Int) ≤ 8 * (((0 : Nat) : Int) - 1)) = false := by decide
      go_wp2
      go_ret
      have e : acc = l ++ numBytes size n := by have := hacc.out; simpa [numBytes] using this
      subst e
      exact ⟨_, rfl, hown1, hb1⟩
    · have hsz := hb1.size
      go_wp2_with (at_builtin; refine app_bytes rfl _ _ rfl _ acc rfl (hown1.alloc _) ⟨wr.heap.size, 0, none⟩ 1 1 [UInt8.ofNat (n / 256 ^ rem % 256)] rfl rfl ?c1 ?c2 ?c3 ?_; (case c1 => exact new_bytes _ _ (by rw [bv_one, ← shr_byte]) _); (case c2 => omega); (case c3 => simp; omega); intro v' w1 hown2 hgrow)
      go_roundw
      case rel => exact ⟨rem, acc ++ [UInt8.ofNat (n / 256 ^ rem % 256)], by omega, by go_num, by rw [List.append_assoc]; exact hacc, by simp; omega, hown2, (hb1.alloc (by omega) _).grown hgrow (by simp; omega) (fun k hk => (hown1.lt k hk).1)⟩
      case measure => simp [intOf]; omega
/-- A length-led name. -/
def nameBytes (s : ByteArray) : List UInt8 := UInt8.ofNat (s.size % 256) :: s.data.toList
set_option maxHeartbeats 1000000 in
theorem name_any (B : Nat) (v : Value) (l : List UInt8) (s : ByteArray) (w : World) (hown : Byt w B v l) (hB : B ≤ w.heap.size) (hl : l.length ≤ 1000000) (hs : s.size ≤ 1000000) :
    Calls Tryz.prog 103 #[v, .string s] w fun e w' => ∃ v', e = .returned v' ∧ Byt w' B v' (l ++ nameBytes s) ∧ Below B w w' := by
  go_enter Tryz.func103, Tryz.ntmps103
  go_wp2_with (first | (at_builtin; refine app_bytes rfl _ _ rfl _ l rfl (hown.alloc _) ⟨w.heap.size, 0, none⟩ 1 1 [UInt8.ofNat (s.size % 256)] rfl rfl ?c1 ?c2 ?c3 ?_; (case c1 => exact new_bytes _ _ (by rw [bv_one, u8_ofNat_toNat]; rfl) _); (case c2 => omega); (case c3 => simp; omega); intro v1 w1 hown1 hgrow1) | (at_builtin; refine app_str rfl _ _ rfl _ _ rfl hown1 s rfl ?c1 ?c2 ?_; (case c1 => simp; omega); (case c2 => have := hgrow1.size; simp at this; omega); intro v2 w2 hown2 hgrow2))
  go_ret
  refine ⟨_, rfl, ?_, ?_⟩
  · rw [show l ++ nameBytes s = l ++ [UInt8.ofNat (s.size % 256)] ++ s.data.toList from by simp [nameBytes]]; exact hown2
  · exact (((Below.refl _ _).alloc hB _).grown hgrow1 (by simp; omega) (fun k hk => (hown.lt k hk).1)).grown hgrow2 (by have := hgrow1.size; simp at this; omega) (fun k hk => (hown1.lt k hk).1)
end Go.Proofs.YtolilbcpfdnkjaaGreat
