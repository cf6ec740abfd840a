/- short: Free. -/
import Derived.Test.YtepjflepnkfboaaH2
namespace Go.Proofs.Ytepjflepnkfboaa
open Go.RowKit
set_option linter.unusedSimpArgs false
theorem info_int : (Try.prog.info? 3).map (fun i => (i.zero, i.size, i.bytes)) = some (some (.int .i64 0), 1, 8) := by kernel_rfl
theorem append_tx {P : Program} {t tx ty e e' : TypeId} {v x : Value} {w : World} (ht : P.underlying t = some (.slice e)) (hx : P.underlying tx = some (.slice e')) :
    (Builtin.append_ #[t, tx] ty #[v, x]).run P w = (Builtin.append_ #[t, t] ty #[v, x]).run P w := by
  unfold Builtin.append_
  cases v <;> simp [run_underlying ht, run_underlying hx]
/-- A slice of ints that came in. -/
def ArgI (w : World) (v : Value) (l : List Int) : Prop :=
  ∃ a cap, v = .slice a l.length cap ∧ ((a = none ∧ cap = 0 ∧ l = []) ∨ ∃ x, a = some x ∧ ∀ i, i < l.length → w.cell? (x.add i) = some (.int .i64 (l.getD i 0)))
section
variable {ops : Array Oper} {rest : List Oper} {o : Oper} {a : Act} {w : World} {Q : Exit → Act → World → Prop} {B : Nat}
theorem app_arg (hgd : o.guard = none) (s x : Operand) (ts tx : TypeId) (hts : Try.prog.underlying ts = some (.slice 3)) (htx : Try.prog.underlying tx = some (.slice 3)) (ho : o.op = .call { callee := .builtin .append, args := #[s, x], argTypes := #[ts, tx] })
    (v : Value) (l : List Int) (hs : a.eval s = v) (hown : Ints w B v l) (tv : Value) (news : List Int) (hx : a.eval x = tv) (harg : ArgI w tv news) (hbytes : (l.length + news.length) * 8 ≤ 140737488355328) (hbase : B ≤ w.heap.size)
    (h : ∀ v' w', Ints w' B v' (l ++ news) → w.grownBy w' v.ownBlock → wpList Try.prog ops Q rest (a.put o.dst v') w') : wpList Try.prog ops Q (o :: rest) a w := by
  obtain ⟨i0, hi, hz0, hz1, hz2⟩ := info_parts info_int
  obtain ⟨ad, cap, rfl, harg⟩ := harg
  rcases harg with ⟨rfl, rfl, rfl⟩ | ⟨ad, rfl, hc⟩
  · refine wpList_plain hgd fun K hK => ?_
    have hrun := run_append_owned_none (P := Try.prog) (w := w) B ts o.type 3 i0 1 hts hi v l.length (l.map (Value.int .i64)) hown
    unfold Oper.wp execOp
    simp only [ho, resolve, invoke, builtin, Sem.run_bind, Sem.run_pure, Result.andThen_ok, List.map_toArray, List.map_cons, List.map_nil, hs, hx, append_tx hts htx, List.length_nil, hrun]
    exact hK _ _ (h v w (by rw [List.append_nil]; exact hown) (grown_refl _ _))
  · refine wpList_plain hgd fun K hK => ?_
    obtain ⟨v', w', hr, h2, h3, _⟩ := run_append_own (P := Try.prog) w B ts o.type 3 i0 (.int .i64 0) 1 8 hts hi hz0 hz1 hz2 rfl (by decide) v l.length (l.map (Value.int .i64)) hown ad news.length cap (news.map (Value.int .i64)) (by simp)
      (fun j u hj => by
        have hjl : j < news.length := by
          rcases Nat.lt_or_ge j news.length with h | h
          · exact h
          · rw [List.getElem?_eq_none (by simpa using h)] at hj; cases hj
        rw [hc j hjl]; simp [hjl] at hj; simp [hjl, hj]) (fun u hu => by obtain ⟨c, _, rfl⟩ := List.mem_map.1 hu; rfl) (by unfold maxLen; omega) (by omega) hbase
    unfold Oper.wp execOp
    simp only [ho, resolve, invoke, builtin, Sem.run_bind, Sem.run_pure, Result.andThen_ok, List.map_toArray, List.map_cons, List.map_nil, hs, hx, append_tx hts htx, hr]
    refine hK _ _ (h v' w' ?_ h3)
    unfold Ints; rw [List.length_append, List.map_append]; exact h2
end
theorem Ints.new (w : World) (B : Nat) (cs : Array Value) (l : List Int) (hB : B ≤ w.heap.size) (e : cs.toList = l.map (Value.int .i64)) (hl : l.length ≤ maxLen) : Ints (w.alloc (.cells cs 3)) B (.slice (some ⟨w.heap.size, 0, none⟩) l.length l.length) l := by
  have := World.ownsRow_lit (base := B) (e := 3) (size := 1) w cs l.length hB hl (by rw [← Array.length_toList, e]; simp)
  rw [e] at this; exact this
theorem Ints.isSlice {w : World} {B : Nat} {v : Value} {l : List Int} (h : Ints w B v l) : ∃ a n c, v = .slice a n c := by
  rcases h.2 with ⟨rfl, _⟩ | ⟨_, _, _, rfl, _⟩
  · exact ⟨_, _, _, rfl⟩
  · exact ⟨_, _, _, rfl⟩
theorem ArgI.below {w w' : World} {v : Value} {l : List Int} (h : ArgI w v l) (hb : Below w.heap.size w w') : ArgI w' v l := by
  obtain ⟨a, cap, rfl, h⟩ := h
  refine ⟨a, cap, rfl, ?_⟩
  rcases h with h | ⟨x, rfl, hc⟩
  · exact Or.inl h
  · refine Or.inr ⟨x, rfl, fun i hi => ?_⟩
    have := hc i hi
    rw [hb.cell (World.block_lt_of_cell? _ _ this)]; exact this
/-- The length of the slice in a cell. -/
def lenAt (w : World) (g o : Nat) : Nat := match w.cell? ⟨g, o, none⟩ with | some (.slice _ n _) => n | _ => 0
theorem HAt.lenAt {w : World} {B g o : Nat} {cs : Array Value} {t : TypeId} {v : Value} {l : List Int} (h : HAt w B g o cs t v l) : lenAt w g o = l.length := by
  unfold Go.Proofs.Ytepjflepnkfboaa.lenAt
  rw [h.cell]
  rcases h.row.2 with ⟨rfl, h0⟩ | ⟨_, _, _, rfl, _⟩
  · exact h0.symm
  · rfl
/-- The least number from 1 on that isn't there. -/
def LeastFree (l : List Int) (n : Nat) : Prop := 1 ≤ n ∧ (n : Int) ∉ l ∧ (∀ m : Nat, 1 ≤ m → m < n → (m : Int) ∈ l)
theorem assert_int (x : Int) (w : World) : (Instr.typeAssert (.iface 3 (.int .i64 x)) 20 3 false).run Try.prog w = .ok (.int .i64 x) w := by kernel_rfl
def FreeRel (w : World) (B g : Nat) (l : List Int) (nv : Value) (wr : World) : Prop :=
  ∃ (n : Nat) (l1 P : List Int) (v : Value), nv = .int .i64 n ∧ HAt wr B g 0 #[v] 54 v l1 ∧ (∀ k, HCond l1 l1.length k) ∧ (P ++ l1).Perm l ∧ 1 ≤ n ∧ (∀ m : Nat, 1 ≤ m → m < n → (m : Int) ∈ P) ∧ (n : Int) ∉ P ∧ (∀ p ∈ P, ∀ r ∈ l1, p ≤ r) ∧ n ≤ P.length + 1 ∧ (∀ k, v.ownBlock = some k → B ≤ k) ∧ Keep (fun k => B ≤ k) w wr
def FreePost (w : World) (l : List Int) (e : Ending) (w' : World) : Prop := ∃ n : Nat, e = .returned (.int .i64 n) ∧ LeastFree l n ∧ n ≤ l.length + 1 ∧ Below w.heap.size w w'
set_option maxHeartbeats 2000000 in
theorem free_any (tv : Value) (l : List Int) (w : World) (h : ArgI w tv l) (hl : l.length ≤ 400000) :
    Calls Try.prog 12 #[tv] w (FreePost w l) := by
  have hnil : Ints (w.alloc (.cells #[] 3)) w.heap.size (.slice (some ⟨w.heap.size, 0, none⟩) 0 0) [] := Ints.new w w.heap.size #[] [] (Nat.le_refl _) rfl (by simp [maxLen])
  have harg := h.below ((Below.refl w.heap.size w).alloc (Nat.le_refl _) (.cells #[] 3))
  go_enter Try.func12, Try.ntmps12
  go_wp2_with (first | (refine app_arg rfl _ _ _ _ Try.underlying54 Try.underlying29 rfl _ [] rfl hnil tv l rfl harg ?c1 ?c2 ?_; (case c1 => simp; omega); (case c2 => simp); intro v1 w1 hown1 hgrow1; obtain ⟨a1, n1, k1, rfl⟩ := hown1.isSlice) | (go_at_call 30; fail))
  rw [List.nil_append] at hown1
  have hsz : w.heap.size < w1.heap.size := by have := hgrow1.size; simp at this; omega
  have hat : HAt (w1.alloc (.cells #[.slice a1 n1 k1] 54)) w.heap.size w1.heap.size 0 #[.slice a1 n1 k1] 54 (.slice a1 n1 k1) l :=
    ⟨m_alloc _ _ _ rfl, rfl, World.ownsRow.alloc hown1 _, fun e => by have := (World.ownsRow.lt hown1 _ e).2; omega⟩
  have hk1 : Keep (fun k => w.heap.size ≤ k) w (w1.alloc (.cells #[.slice a1 n1 k1] 54)) :=
    (((Keep.refl _ w).alloc (.cells #[] 3)).trans' (Keep.grown hgrow1) (fun i hi => Or.inr (by have hi' : some i = some w.heap.size := hi; simp only [Option.some.injEq] at hi'; omega))).alloc _
  have ho1 : ∀ k, (Value.slice a1 n1 k1).ownBlock = some k → w.heap.size ≤ k := fun k hk => (World.ownsRow.lt hown1 k hk).1
  refine (init_any _ _ _ _ _ _ _ _ hat hl).mono ?_
  rintro e w2 ⟨l1, rfl, hat1, hp1, hc1, hk2⟩
  have hk := hk1.trans' hk2 (fun i hi => Or.inl (ho1 i hi.symm))
  generalize w1.heap.size = g at *
  have Ho := Lib.hid ho1
  have Hp := Lib.hid hp1
  have Hc := Lib.hid hc1
  clear hat hk1 hk2 hnil harg hown1 hgrow1 ho1 hp1 hc1 h
  go_wp2_with fail
  go_loopw [4, 5] (fun nv _ wr => FreeRel w w.heap.size g l nv wr) (fun _ _ wr => lenAt wr g 0)
  case atStart => exact ⟨1, l1, [], .slice a1 n1 k1, rfl, hat1, Hc.out, Hp.out, Nat.le_refl _, fun m _ _ => by omega, by simp, by simp, by simp, Ho.out, hk⟩
  case round =>
    obtain ⟨n, l1, P, v, rfl, hat, hc, hp, hn1, hm, hnp, hpr, hnl, ho, hk⟩ := hrel
    have hta := assert_int
    have hlen := hp.length_eq
    rw [List.length_append] at hlen
    have Hlen := Lib.hid hlen
    have hb1 : l1.length ≤ 400000 := by omega
    have hb2 : n ≤ 400001 := by omega
    have Hlt := Lib.hid hat.lenAt
    have c0 := hat.cell
    have HF := Lib.hid (And.intro hc (And.intro hp (And.intro hm (And.intro hnp (And.intro hpr ho)))))
    clear hlen hc hp hm hnp hpr ho
    go_wp2_with fail
    refine (len_any v _ l1 _ hat.row).mono ?_
    rintro e w3 ⟨rfl, q3⟩
    have hat3 := hat.qt q3
    have hk3 := hk.trans (Keep.qt q3)
    have c3 := hat3.cell
    rcases l1 with _ | ⟨x0, l2⟩
    · go_wp2_with fail
      go_ret
      obtain ⟨hc, hp, hm, hnp, hpr, ho⟩ := HF.out
      rw [List.append_nil] at hp
      exact ⟨n, rfl, ⟨hn1, fun q => hnp (hp.mem_iff.2 q), fun m q1 q2 => hp.mem_iff.1 (hm m q1 q2)⟩, by have := hp.length_eq; omega, hk3.toBelow (Nat.le_refl _) (fun _ q => q)⟩
    · have g1 : decide (0 < (x0 :: l2).length) = true := by simp
      generalize hL : x0 :: l2 = L at *
      have hL0 : L ≠ [] := by rw [← hL]; simp
      have HL0 := Lib.hid hL0
      have HL := Lib.hid hL
      clear hL hL0
      go_wp2_with fail
      refine (hpop_any _ _ _ _ _ _ _ _ hat3 hb1 HL0.out HF.out.1).mono ?_
      rintro e w4 ⟨l3, v3, rfl, hat4, hp4, hc4, he4, hk4⟩
      generalize hX : L.getD 0 0 = x at *
      have HX := Lib.hid hX
      clear hX
      have hpsub := Lib.hid (fun r (q : r ∈ l3) => hp4.mem_iff.1 (List.mem_cons_of_mem x q))
      obtain ⟨hc, hp, hm, hnp, hpr, ho⟩ := HF.out
      have hpp : ((x :: P) ++ l3).Perm l := by
        have h1 : (P ++ (x :: l3)).Perm l := (List.Perm.append_left P hp4).trans hp
        exact (List.perm_middle.symm).trans h1
      have hkk := hk3.trans' hk4 (fun i hi => hi.elim (fun q => Or.inr (by omega)) (fun q => Or.inl (ho i q.symm)))
      have hxr : ∀ r ∈ l3, x ≤ r := by
        intro r hr
        have hrL : r ∈ L := hp4.mem_iff.1 (List.mem_cons_of_mem _ hr)
        obtain ⟨k, hk, rfl⟩ := List.mem_iff_getElem.1 hrL
        have := heap_least (n := L.length) hc k hk
        rw [HX.out] at this
        simpa [List.getD_eq_getElem?_getD, hk] using this
      have hpx : ∀ p ∈ P, p ≤ x := fun p q => hpr p q x (hp4.mem_iff.1 (List.mem_cons_self ..))
      have hlen4 := hp4.length_eq
      have hat4' : HAt w4 w.heap.size g 0 #[v3] 54 v3 l3 := hat4
      have Hmeas := Lib.hid hat4'.lenAt
      have HLt := Lib.hid Hlt.out
      have HG := Lib.hid (And.intro hc4 (And.intro hpp (And.intro hm (And.intro hnp (And.intro hpr (And.intro ho (And.intro hxr (And.intro hpx (And.intro hlen4 he4)))))))))
      clear hc hp hm hnp hpr ho hpp hxr hpx hp4 hc4 hlen4 he4 hat4
      by_cases hx : x = n
      · have g2 : (x == (n : Int)) = true := by simp [hx]
        have Hx := Lib.hid hx
        clear hx
        go_wp2_with fail
        obtain ⟨hc4, hpp, hm, hnp, hpr, ho, hxr, hpx, hlen4, he4⟩ := HG.out
        refine ⟨⟨n + 1, l3, x :: P, v3, by go_num, hat4', hc4, hpp, by omega, fun m q1 q2 => ?_, ?_, ?_, by simp; omega, fun k q => ho k (by rw [← he4]; exact q), hkk⟩, ?_⟩
        · by_cases e : m = n
          · rw [e, ← Hx.out]; exact List.mem_cons_self ..
          · exact List.mem_cons_of_mem _ (hm m q1 (by omega))
        · intro q
          rcases List.mem_cons.1 q with q | q
          · have := Hx.out; omega
          · have := hpx _ q; have := Hx.out; omega
        · intro p q r qr
          rcases List.mem_cons.1 q with rfl | q
          · exact hxr r qr
          · exact hpr p q r (by have := HG.out.2.1; exact (hpsub.out r qr))
        · rw [Hmeas.out, HLt.out]; simp at hlen4; omega
      · have g2 : (x == (n : Int)) = false := by simp [hx]
        have Hx := Lib.hid hx
        clear hx
        go_wp2_with fail
        obtain ⟨hc4, hpp, hm, hnp, hpr, ho, hxr, hpx, hlen4, he4⟩ := HG.out
        refine ⟨⟨n, l3, x :: P, v3, rfl, hat4', hc4, hpp, hn1, fun m q1 q2 => List.mem_cons_of_mem _ (hm m q1 q2), ?_, ?_, by simp; omega, fun k q => ho k (by rw [← he4]; exact q), hkk⟩, ?_⟩
        · intro q
          rcases List.mem_cons.1 q with q | q
          · exact Hx.out q.symm
          · exact hnp q
        · intro p q r qr
          rcases List.mem_cons.1 q with rfl | q
          · exact hxr r qr
          · exact hpr p q r (hpsub.out r qr)
        · rw [Hmeas.out, HLt.out]; simp at hlen4; omega
end Go.Proofs.Ytepjflepnkfboaa
