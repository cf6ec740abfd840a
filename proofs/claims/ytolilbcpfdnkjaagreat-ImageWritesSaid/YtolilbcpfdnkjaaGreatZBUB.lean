/- Lemmas, texts UB UC UD UE UF; no condition beyond those that each states. -/
import Derived.Test.YtolilbcpfdnkjaaGreatZBU6
import Derived.Outline
import Derived.Laws.StructEq
/- tree: New. -/
namespace Go.Proofs.YtolilbcpfdnkjaaGreat
open Go.RowKit
set_option linter.unusedSimpArgs false
set_option linter.unusedVariables false
section
variable {V : Type} {enc : V → Value} {b : Nat} {L : List (Int × V)} {t tk te : TypeId} {ops : Array Oper} {rest : List Oper} {o : Oper} {a : Act} {w : World} {Q : Exit → Act → World → Prop}
theorem map_ins (hgd : o.guard = none) (m x v : Operand) (ho : o.op = .insert t m x v) (ht : Tryz.prog.underlying t = some (.map tk te)) (hk : Tryz.prog.underlying tk = some (.int .i64))
    (k : Int) (y : V) (hm : a.eval m = .map (some b)) (hx : a.eval x = .int .i64 k) (hv : a.eval v = enc y) (hmap : IMap enc w b L)
    (h : ∀ w', IMap enc w' b (mput L k y) → Keep (fun i => i = b) w w' → wpList Tryz.prog ops Q rest (a.put o.dst undef) w') : wpList Tryz.prog ops Q (o :: rest) a w := by
  refine wpList_plain hgd fun K hK => ?_
  obtain ⟨w', hr, h1, h2⟩ := hmap.update (P := Tryz.prog) ht hk k y
  unfold Oper.wp execOp
  simp only [ho, Sem.run_bind, Sem.run_pure, Result.andThen_ok, hm, hx, hv, hr]
  exact hK _ _ (h w' h1 h2)
end
def TNewPost (w : World) (e : Ending) (w' : World) : Prop := ∃ (g : Nat) (F : Nat → Prop), e = .returned (.pointer (some ⟨g, 0, none⟩)) ∧ TreeM w' F g [] 1 ∧ (∀ k, F k → w.heap.size ≤ k) ∧ Below w.heap.size w w'
set_option maxHeartbeats 2000000 in
theorem tnew_any (w : World) : Calls Tryz.prog 10 #[] w (TNewPost w) := by
  have hm0 := IMap.new (enc := encDE) w
  have HM0 := Lib.hid hm0
  clear hm0
  have hmm := @run_makeMap Tryz.prog
  go_enter Tryz.func10, Tryz.ntmps10
  go_wp2_with (first
    | (refine map_ins (enc := encDE) rfl _ _ _ rfl Tryz.underlying53 Tryz.underlying3 (0 : Int) ((.slice none 0 0, []) : DE) rfl rfl rfl HM0.out ?_
       intro w1 hm1 hk1
       have HM1 := Lib.hid hm1
       have HB1 := Lib.hid (show Below w.heap.size w w1 from (((Keep.refl (fun k => k = w.heap.size) w).alloc _).trans hk1).toBelow (Nat.le_refl _) (fun i hi => by omega))
       have HLT := Lib.hid (show w.heap.size < w1.heap.size from hm1.lt)
       clear hm1 hk1))
  have HM2 := Lib.hid (m_alloc w1 (.map #[] 0) w1.heap.size rfl)
  have HF2 := Lib.hid (IMap.new (enc := Value.int .i64) w1)
  refine (new_any 200 (.slice none 0 0) [] _ ⟨none, 0, rfl, Or.inl ⟨rfl, rfl, rfl⟩⟩ (by decide)).mono ?_
  rintro e w2 ⟨gp, bp, p, rfl, hp, hinv, hmost, hkeys, hgp, hbp, hb2⟩
  have HP := Lib.hid hp
  have HI := Lib.hid hinv
  have HMO := Lib.hid hmost
  have HKE := Lib.hid hkeys
  have HGP := Lib.hid hgp
  have HBP := Lib.hid hbp
  have HB2 := Lib.hid hb2
  clear hp hinv hmost hkeys hgp hbp hb2
  clear hmm
  go_wp2_with fail
  go_ret
  have hs1 := HLT.out
  have hsa : (w1.alloc (.map #[] 0)).heap.size = w1.heap.size + 1 := by simp
  have hs2 : w1.heap.size + 1 ≤ w2.heap.size := by rw [← hsa]; exact HB2.out.size
  have hgp : w1.heap.size + 1 ≤ gp := by rw [← hsa]; exact HGP.out
  have hbp : w1.heap.size + 1 ≤ bp := by rw [← hsa]; exact HBP.out
  have hgl : gp < w2.heap.size := m_lt HP.out.blk
  have hbl : bp < w2.heap.size := HP.out.mp.lt
  have k12 : Keep (fun _ => False) w1 (w2.alloc (.cells #[.map (some w.heap.size), .map (some w1.heap.size), .pointer (some ⟨gp, 0, none⟩), .int .i64 1] 79)) :=
    (((Keep.refl _ w1).alloc _).trans' (Keep.below HB2.out) (fun i hi => Or.inr (by omega))).alloc _
  have k22 : Below w2.heap.size w2 (w2.alloc (.cells #[.map (some w.heap.size), .map (some w1.heap.size), .pointer (some ⟨gp, 0, none⟩), .int .i64 1] 79)) := (Below.refl _ _).alloc (Nat.le_refl _) _
  have hfm : IMap (Value.int .i64) w2 w1.heap.size [] := HF2.out.keep (Keep.below HB2.out) (fun q => by omega)
  have hs2' : ∀ k, pfoot gp (.slice none 0 0) bp k → k ≠ w2.heap.size ∧ k ≠ w.heap.size ∧ k ≠ w1.heap.size := by
    intro k q
    rcases q with q | q | q
    · exact ⟨by omega, by omega, by omega⟩
    · exact ⟨by omega, by omega, by omega⟩
    · cases q
  have hm : MAt (w2.alloc (.cells #[.map (some w.heap.size), .map (some w1.heap.size), .pointer (some ⟨gp, 0, none⟩), .int .i64 1] 79)) w2.heap.size w.heap.size w1.heap.size gp bp (.slice none 0 0) [(0, (.slice none 0 0, []))] [] p 1 :=
    ⟨m_alloc _ _ _ rfl, HM1.out.keep k12 (fun q => q), hfm.keep (Keep.below k22) (fun q => by omega),
      ⟨m_keep HP.out.blk (Keep.below k22) (fun q => by omega), HP.out.row.kept (fun j hj => by cases hj), HP.out.mp.keep (Keep.below k22) (fun q => by omega), HP.out.ne1, HP.out.ne2, HP.out.ne3⟩, HI.out, HMO.out,
      fun x hx => by simp at hx; subst hx; exact RowO.nil _ _ _, ⟨by omega, by omega, by omega⟩, hs2', fun x hx k q => by simp at hx; subst hx; cases q⟩
  refine ⟨w2.heap.size, tfoot w2.heap.size w.heap.size w1.heap.size gp bp (.slice none 0 0) [(0, (.slice none 0 0, []))], rfl, ⟨_, _, _, _, _, _, _, _, rfl, hm, ?_⟩, fun k q => ?_, HB1.out.trans ((k12.toBelow HB1.out.size (fun i q => q.elim)))⟩
  · refine ⟨fun d hd => ?_, fun d hd => ?_, fun d => ?_, fun k => ?_⟩
    · have : d = 0 := by simpa [isDirB] using hd
      subst this; exact ⟨_, rfl⟩
    · have : ¬ d = 0 := by simpa [isDirB] using hd
      simp [mget_cons, mget_nil, show ¬ (0 : Int) = d from fun q => this q.symm]
    · rfl
    · rw [HKE.out k]; simp
  · rcases q with q | q | q | q | ⟨x, hx, q⟩
    · omega
    · omega
    · omega
    · rcases q with q | q | q
      · omega
      · omega
      · cases q
    · simp at hx; subst hx; cases q
end Go.Proofs.YtolilbcpfdnkjaaGreat

/- tree: a call. -/
namespace Go.Proofs.YtolilbcpfdnkjaaGreat
open Go.RowKit
set_option linter.unusedSimpArgs false
set_option linter.unusedVariables false
structure Op1 where
  kind : Nat
  dir : Int
  to_ : Int
  name : ByteArray
  as_ : ByteArray
  is_ : Bool
  short : Int
@[reducible] def Op1.cells (o : Op1) : List Value := [.int .u8 o.kind, .int .i64 o.dir, .int .i64 o.to_, .string o.name, .string o.as_, .bool o.is_, .int .i64 o.short]
@[reducible] def Op1.val (o : Op1) : Value := .agg #[.int .u8 o.kind, .int .i64 o.dir, .int .i64 o.to_, .string o.name, .string o.as_, .bool o.is_, .int .i64 o.short]
def EOp : EK Op1 := ⟨35, 7, 72, Op1.cells, fun _ => rfl, fun _ u hu => by simp at hu; rcases hu with rfl | rfl | rfl | rfl | rfl | rfl | rfl <;> rfl, by decide⟩
theorem EOp.laid : EOp.Laid := EK.laid (z := .agg #[.int .u8 0, .int .i64 0, .int .i64 0, .string ⟨#[]⟩, .string ⟨#[]⟩, .bool false, .int .i64 0]) (by kernel_rfl) (by decide)
noncomputable def doT (L : List Itm) (next : Int) (o : Op1) : LR :=
  if o.kind % 3 = 0 then linkT L next o.dir o.name o.is_ o.short else if o.kind % 3 = 1 then ⟨(unlinkT L o.dir o.name o.is_).1, next, 0, (unlinkT L o.dir o.name o.is_).2⟩
  else moveT L next o.dir o.name o.to_ o.as_ o.short
theorem moveT_node (L : List Itm) (next dir : Int) (name : ByteArray) (to : Int) (as_ : ByteArray) (short : Int) : (moveT L next dir name to as_ short).node = 0 := by
  unfold moveT; split <;> rfl
theorem TInv.do_ {L : List Itm} {next : Int} (h : TInv L next) (o : Op1) : TInv (doT L next o).L (doT L next o).next := by
  unfold doT
  split
  · exact h.link _ _ _ _
  · split
    · exact h.unlink _ _ _
    · exact h.move _ _ _ _ _
theorem doT_next (L : List Itm) (next : Int) (o : Op1) : next ≤ (doT L next o).next ∧ (doT L next o).next ≤ next + 1 := by
  unfold doT linkT moveT
  repeat' split
  all_goals (constructor <;> simp <;> omega)
set_option maxHeartbeats 4000000 in
set_option maxRecDepth 100000 in
theorem tdo_any {w : World} {F : Nat → Prop} {g : Nat} {L : List Itm} {next : Int} (o : Op1) (h : TreeM w F g L next) (hi : TInv L next) (hn : next ≤ 1000000000) (hk : o.kind < 256) (h1 : o.name.size ≤ maxLen) (h2 : o.as_.size ≤ maxLen) :
    Calls Tryz.prog 13 #[.pointer (some ⟨g, 0, none⟩), o.val] w (LinkPost w F g (doT L next o)) := by
  have hb : ∀ b, Below w.heap.size w (w.alloc b) := fun b => (Below.refl _ w).alloc (Nat.le_refl _) b
  have HL := fun b => Lib.hid (tlink_any o.dir o.name o.is_ o.short (h.below (hb b)) hi hn h1)
  have HU := fun b => Lib.hid (tunlink_any o.dir o.name o.is_ (h.below (hb b)) hi hn)
  have HM := fun b => Lib.hid (tmove_any o.dir o.name o.to_ o.as_ o.short (h.below (hb b)) hi hn h2)
  have HB := Lib.hid hb
  clear h hi hb
  have hc : o.kind % 3 = 0 ∨ o.kind % 3 = 1 ∨ o.kind % 3 = 2 := by omega
  rcases hc with hc | hc | hc
  · have e0 : ((o.kind : Int) % 3 == 0) = true := by rw [beq_iff_eq]; omega
    have HD := Lib.hid (show doT L next o = linkT L next o.dir o.name o.is_ o.short from by unfold doT; rw [if_pos hc])
    clear hc HU HM
    go_enter Tryz.func13, Tryz.ntmps13
    go_wp2_with fail
    refine (HL _).out.mono ?_
    rintro e w1 ⟨rfl, hs⟩
    have HS := Lib.hid hs
    clear hs
    go_wp2_with fail
    go_ret2
    exact ⟨by rw [HD.out]; rfl, by rw [HD.out]; exact HS.out.before (HB.out _)⟩
  · have e0 : ((o.kind : Int) % 3 == 0) = false := by rw [beq_eq_false_iff_ne]; omega
    have e1 : ((o.kind : Int) % 3 == 1) = true := by rw [beq_iff_eq]; omega
    have HD := Lib.hid (show doT L next o = ⟨(unlinkT L o.dir o.name o.is_).1, next, 0, (unlinkT L o.dir o.name o.is_).2⟩ from by unfold doT; rw [if_neg (by omega), if_pos hc])
    clear hc HL HM
    go_enter Tryz.func13, Tryz.ntmps13
    go_wp2_with fail
    refine (HU _).out.mono ?_
    rintro e w1 ⟨rfl, hs⟩
    have HS := Lib.hid hs
    clear hs
    go_wp2_with fail
    go_ret2
    exact ⟨by rw [HD.out]; rfl, by rw [HD.out]; exact HS.out.before (HB.out _)⟩
  · have e0 : ((o.kind : Int) % 3 == 0) = false := by rw [beq_eq_false_iff_ne]; omega
    have e1 : ((o.kind : Int) % 3 == 1) = false := by rw [beq_eq_false_iff_ne]; omega
    have HD := Lib.hid (show doT L next o = moveT L next o.dir o.name o.to_ o.as_ o.short from by unfold doT; rw [if_neg (by omega), if_neg (by omega)])
    have HN := Lib.hid (moveT_node L next o.dir o.name o.to_ o.as_ o.short)
    clear hc HL HU
    go_enter Tryz.func13, Tryz.ntmps13
    go_wp2_with fail
    refine (HM _).out.mono ?_
    rintro e w1 ⟨rfl, hs⟩
    have HS := Lib.hid hs
    clear hs
    go_wp2_with fail
    go_ret2
    exact ⟨by rw [HD.out, HN.out]; rfl, by rw [HD.out]; exact HS.out.before (HB.out _)⟩
end Go.Proofs.YtolilbcpfdnkjaaGreat

/- tree: Few, awake, Same. -/
namespace Go.Proofs.YtolilbcpfdnkjaaGreat
open Go.RowKit
set_option linter.unusedSimpArgs false
set_option linter.unusedVariables false
def Op1.Small (o : Op1) : Prop := o.name.size ≤ 400 ∧ o.as_.size ≤ 400
def FewO (l : List Op1) (n : Int) (v : Value) : Prop := ∃ b, v = .bool b ∧ (b = true → (l.length : Int) ≤ n ∧ ∀ o ∈ l.take 500, o.Small)
theorem op1_cells {w : World} {a : Option Addr} {n c : Nat} {l : List Op1} (h : Arg EOp w (.slice a n c) l) (i : Nat) (o : Op1) (ho : l[i]? = some o) : ∃ g off, a = some ⟨g, off, none⟩ ∧ n = l.length ∧
    w.cell? ⟨g, off + i * 7, none⟩ = some (.int .u8 o.kind) ∧ w.cell? ⟨g, off + i * 7 + 1, none⟩ = some (.int .i64 o.dir) ∧ w.cell? ⟨g, off + i * 7 + 2, none⟩ = some (.int .i64 o.to_) ∧ w.cell? ⟨g, off + i * 7 + 3, none⟩ = some (.string o.name) ∧
    w.cell? ⟨g, off + i * 7 + 4, none⟩ = some (.string o.as_) ∧ w.cell? ⟨g, off + i * 7 + 5, none⟩ = some (.bool o.is_) ∧ w.cell? ⟨g, off + i * 7 + 6, none⟩ = some (.int .i64 o.short) := by
  obtain ⟨g, off, cap, e, hc⟩ := h.cells (by intro q; rw [q] at ho; simp at ho)
  simp only [Value.slice.injEq] at e
  obtain ⟨rfl, rfl, rfl⟩ := e
  exact ⟨g, off, rfl, rfl, hc i o ho 0 (by decide), hc i o ho 1 (by decide), hc i o ho 2 (by decide), hc i o ho 3 (by decide), hc i o ho 4 (by decide), hc i o ho 5 (by decide), hc i o ho 6 (by decide)⟩
set_option maxRecDepth 100000 in
set_option maxHeartbeats 2000000 in
theorem few10_any (w : World) (v : Value) (l : List Op1) (n : Int) (h : Arg EOp w v l) (ml : l.length ≤ maxLen) (hok : ∀ o ∈ l, o.name.size ≤ maxLen ∧ o.as_.size ≤ maxLen) :
    Calls Tryz.prog 9 #[v, .int .i64 n] w fun e w' => ∃ b, e = .returned b ∧ FewO l n b ∧ Below w.heap.size w w' := by
  obtain ⟨va, vc, rfl⟩ := h.shape
  have A := Lib.hid h
  have OK := Lib.hid hok
  unfold maxLen at ml
  clear h hok
  go_enter Tryz.func9, Tryz.ntmps9
  go_wp2_with fail
  go_loopw [5] (fun iv wr => ∃ i : Nat, iv = .int .i64 i ∧ i ≤ l.length ∧ i ≤ 500 ∧ (∀ k o, k < i → l[k]? = some o → o.Small) ∧ wr = w) (fun iv _ => l.length - (intOf iv).toNat)
  case atStart => exact ⟨0, rfl, Nat.zero_le _, Nat.zero_le _, fun k o hk => absurd hk (Nat.not_lt_zero _), rfl⟩
  case round =>
    obtain ⟨i, rfl, hi, hi100, hall, rfl⟩ := hrel
    have HALL := Lib.hid hall
    clear hall
    by_cases hlt : i < l.length
    · have i1 : (i : Int) < l.length := by omega
      by_cases h3 : i < 500
      · have i2 : (i : Int) < 500 := by omega
        obtain ⟨o, ho⟩ : ∃ o, l[i]? = some o := ⟨_, List.getElem?_eq_getElem hlt⟩
        obtain ⟨hob, hok⟩ := OK.out o (List.mem_of_getElem? ho)
        unfold maxLen at hob hok
        obtain ⟨g, off, rfl, _, _, _, _, c3, c4, _, _⟩ := op1_cells A.out i o ho
        have HO := Lib.hid ho
        clear ho
        by_cases hb : o.name.size ≤ 400
        · have b1 : ¬ ((400 : Int) < o.name.size) := by omega
          have b2 : decide ((400 : Int) < o.name.size) = false := decide_eq_false b1
          by_cases hk : o.as_.size ≤ 400
          · have k1 : ¬ ((400 : Int) < o.as_.size) := by omega
            have k2 : decide ((400 : Int) < o.as_.size) = false := decide_eq_false k1
            go_wp2_with fail
            refine ⟨⟨i + 1, by go_num, hlt, h3, fun k x hk2 hx => ?_, trivial⟩, by simp [intOf]; omega⟩
            by_cases e : k = i
            · subst e
              have := HO.out
              rw [hx] at this
              rw [Option.some.inj this]
              exact ⟨hb, hk⟩
            · exact HALL.out k x (by omega) hx
          · have k1 : (400 : Int) < o.as_.size := by omega
            have k2 : decide ((400 : Int) < o.as_.size) = true := decide_eq_true k1
            go_wp2_with fail
            go_ret
            exact ⟨_, rfl, ⟨false, rfl, fun q => by simp at q⟩, Below.refl _ _⟩
        · have b1 : (400 : Int) < o.name.size := by omega
          have b2 : decide ((400 : Int) < o.name.size) = true := decide_eq_true b1
          go_wp2_with fail
          go_ret
          exact ⟨_, rfl, ⟨false, rfl, fun q => by simp at q⟩, Below.refl _ _⟩
      · have i2 : ¬ ((i : Int) < 500) := by omega
        have i3 : decide ((i : Int) < 500) = false := decide_eq_false i2
        go_wp2_with fail
        go_ret
        refine ⟨_, rfl, ⟨_, rfl, fun q => ?_⟩, Below.refl _ _⟩
        have q2 : (l.length : Int) ≤ n := by simpa using q
        refine ⟨q2, fun o ho => ?_⟩
        obtain ⟨k, hk⟩ := List.getElem?_of_mem ho
        have hkl : k < (l.take 500).length := (List.getElem?_eq_some_iff.1 hk).1
        rw [List.length_take] at hkl
        rw [List.getElem?_take_of_lt (by omega)] at hk
        exact HALL.out k o (by omega) hk
    · have ei : i = l.length := by omega
      subst ei
      have i2 : ¬ ((l.length : Int) < l.length) := by omega
      go_wp2_with fail
      go_ret
      refine ⟨_, rfl, ⟨_, rfl, fun q => ?_⟩, Below.refl _ _⟩
      have q2 : (l.length : Int) ≤ n := by simpa using q
      refine ⟨q2, fun o ho => ?_⟩
      obtain ⟨k, hk⟩ := List.getElem?_of_mem (List.mem_of_mem_take ho)
      exact HALL.out k o (List.getElem?_eq_some_iff.1 hk).1 hk
end Go.Proofs.YtolilbcpfdnkjaaGreat

/- tree: Same. -/
namespace Go.Proofs.YtolilbcpfdnkjaaGreat
open Go.RowKit
set_option linter.unusedSimpArgs false
set_option linter.unusedVariables false
instance : DecidableEq Ent := fun x y => decidable_of_iff (x.name = y.name ∧ x.node = y.node ∧ x.dir = y.dir ∧ x.cookie = y.cookie ∧ x.short = y.short) (by
  cases x; cases y; simp)
theorem neq_ent (x y : Ent) (w : World) : (binOp .neq 84 x.val y.val).run Tryz.prog w = .ok (.bool (!decide (x = y))) w := by
  have u2 := Tryz.underlying2
  have u3 := Tryz.underlying3
  have u4 := Tryz.underlying4
  have u9 := Tryz.underlying9
  have a2 := Tryz.isAgg2
  have a3 := Tryz.isAgg3
  have a4 := Tryz.isAgg4
  have a9 := Tryz.isAgg9
  have z2 := Tryz.sizeOf2
  have z3 := Tryz.sizeOf3
  have z4 := Tryz.sizeOf4
  have z9 := Tryz.sizeOf9
  have hS : Tryz.prog.underlying 84 = some (.struct (Tryz.prog.fieldsOf 84)) := by kernel_rfl
  have hp : Tryz.prog.stoodInHeld 84 = false := by kernel_rfl
  have hd : decide (x = y) = ((x.name.toList == y.name.toList) && ((x.node == y.node) && ((x.dir == y.dir) && ((x.cookie == y.cookie) && (x.short == y.short))))) := by
    rw [Bool.eq_iff_iff, decide_eq_true_iff]
    have hs : (x.name.toList = y.name.toList) ↔ x.name = y.name := by rw [← bstr_eq_iff, beq_iff_eq]
    simp only [Bool.and_eq_true, beq_iff_eq, hs]
    cases x; cases y; simp
  rw [hd]
  rw [run_neq_struct, show (10000 : Nat) = 9999 + 1 from rfl, run_equalIn_agg w 9999 84 _ _ hS hp]
  simp only [Program.fieldsOf, Tryz.underlying84]
  go_simp
  by_cases h1 : x.name.toList = y.name.toList <;> by_cases h2 : x.node = y.node <;> by_cases h3 : x.dir = y.dir <;> by_cases h4 : x.cookie = y.cookie <;> by_cases h5 : x.short = y.short <;> simp [h1, h2, h3, h4, h5]
set_option maxRecDepth 100000 in
set_option maxHeartbeats 2000000 in
theorem same_any {v1 v2 : Value} (w : World) (l1 l2 : List Ent) (h1 : Arg EEnt w v1 l1) (h2 : Arg EEnt w v2 l2) (ml : l1.length ≤ maxLen) (ml2 : l2.length ≤ maxLen) :
    Calls Tryz.prog 47 #[v1, v2] w fun e w' => e = .returned (.bool (decide (l1 = l2))) ∧ Below w.heap.size w w' := by
  obtain ⟨a1, k1, rfl⟩ := h1.shape
  obtain ⟨a2, k2, rfl⟩ := h2.shape
  have H1 := Lib.hid h1
  have H2 := Lib.hid h2
  unfold maxLen at ml ml2
  clear h1 h2
  go_enter Tryz.func47, Tryz.ntmps47
  by_cases hl : l1.length = l2.length
  · have hl1 : (l1.length : Int) = l2.length := by omega
    have e1 : ((l1.length : Int) != l2.length) = false := by simp [hl1]
    obtain ⟨n, hn⟩ : ∃ n, l1.length = n := ⟨_, rfl⟩
    have hn2 : l2.length = n := by omega
    have HN := Lib.hid hn
    have HN2 := Lib.hid hn2
    rw [hn] at ml
    rw [hn, hn2]
    clear hl hl1 e1 hn hn2 ml2
    go_wp2_with fail
    go_loopw [5] (fun iv wr => ∃ i : Nat, iv = .int .i64 i ∧ i ≤ n ∧ (∀ k, k < i → l1[k]? = l2[k]?) ∧ Below w.heap.size w wr) (fun iv _ => n - (intOf iv).toNat)
    case atStart => exact ⟨0, rfl, Nat.zero_le _, fun k hk => absurd hk (Nat.not_lt_zero _), Below.refl _ _⟩
    case round =>
      obtain ⟨i, rfl, hi, hall, hb⟩ := hrel
      have HALL := Lib.hid hall
      have HB := Lib.hid hb
      clear hall hb
      by_cases hlt : i < n
      · have i1 : (i : Int) < n := by omega
        obtain ⟨x, hx⟩ : ∃ x, l1[i]? = some x := ⟨_, List.getElem?_eq_getElem (by rw [HN.out]; exact hlt)⟩
        obtain ⟨y, hy⟩ : ∃ y, l2[i]? = some y := ⟨_, List.getElem?_eq_getElem (by rw [HN2.out]; exact hlt)⟩
        obtain ⟨g, off, rfl, -, c0, c1, c2, c3, c4⟩ := ent_cells H1.out i x hx
        obtain ⟨g2, off2, rfl, -, d0, d1, d2, d3, d4⟩ := ent_cells H2.out i y hy
        have c0 := cell_later HB.out c0
        have c1 := cell_later HB.out c1
        have c2 := cell_later HB.out c2
        have c3 := cell_later HB.out c3
        have c4 := cell_later HB.out c4
        have d0 := cell_later HB.out d0
        have d1 := cell_later HB.out d1
        have d2 := cell_later HB.out d2
        have d3 := cell_later HB.out d3
        have d4 := cell_later HB.out d4
        have hne := neq_ent x y
        have HX := Lib.hid hx
        have HY := Lib.hid hy
        clear hx hy
        go_wp2_with fail
        go_quiet (fail)
        have HBQ := Lib.hid (show Below wr.heap.size wr (wr.drewN nq) from ⟨rfl, rfl, rfl, Nat.le_refl _, fun _ _ => rfl⟩)
        by_cases e : x = y
        · have hd : decide (x = y) = true := decide_eq_true e
          rw [hd]
          go_wp2_with fail
          refine ⟨⟨i + 1, by go_num, hlt, fun k hk => ?_, HB.out.trans (HBQ.out.mono HB.out.size)⟩, by simp [intOf]; omega⟩
          by_cases ek : k = i
          · subst ek; rw [HX.out, HY.out, e]
          · exact HALL.out k (by omega)
        · have hd : decide (x = y) = false := decide_eq_false e
          rw [hd]
          go_wp2_with fail
          go_ret
          refine ⟨ret_bool ?_, HB.out.trans (HBQ.out.mono HB.out.size)⟩
          symm
          rw [decide_eq_false_iff_not]
          intro q
          rw [q, HY.out] at HX
          exact e (Option.some.inj HX.out).symm
      · have ei : i = n := by omega
        subst ei
        have i2 : ¬ ((i : Int) < i) := by omega
        go_wp2_with fail
        go_ret
        refine ⟨ret_bool ?_, HB.out⟩
        symm
        rw [decide_eq_true_iff]
        refine List.ext_getElem? (fun k => ?_)
        by_cases hk : k < i
        · exact HALL.out k hk
        · rw [List.getElem?_eq_none (by rw [HN.out]; omega), List.getElem?_eq_none (by rw [HN2.out]; omega)]
  · have hl1 : ¬ (l1.length : Int) = l2.length := by omega
    have e1 : ((l1.length : Int) != l2.length) = true := by simp [hl1]
    have HD := Lib.hid (show decide (l1 = l2) = false from decide_eq_false (fun e => hl (by rw [e])))
    clear hl
    go_wp2_with fail
    go_ret
    exact ⟨ret_bool HD.out.symm, Below.refl _ _⟩
end Go.Proofs.YtolilbcpfdnkjaaGreat

/- tree: awake; a tree of a law's own. -/
namespace Go.Proofs.YtolilbcpfdnkjaaGreat
open Go.RowKit
set_option linter.unusedSimpArgs false
set_option linter.unusedVariables false
theorem link_a : linkT [] 1 0 ⟨#[97]⟩ false 0 = ⟨[⟨0, ⟨⟨#[97]⟩, 1, false, 1, 0⟩⟩], 2, 1, 0⟩ := by
  have h1 : linkErr [] 0 ⟨#[97]⟩ 0 = 0 := by
    have a : listErr [] 0 = 0 := by decide
    have b : mayErr ⟨#[97]⟩ 0 = 0 := by decide
    have c : (findE [] 0 ⟨#[97]⟩).isSome = false := rfl
    unfold linkErr; rw [a, b, c]; rfl
  have h2 : freeN (nodes []) = 1 := freeN_eq ⟨Nat.le_refl _, by simp [nodes], fun m a b => by omega⟩
  unfold linkT
  rw [h1, h2]; rfl
/-- A law's own tree: all its blocks are new. -/
def OwnT (w0 w : World) (g : Nat) (L : List Itm) (next : Int) : Prop := ∃ F, TreeM w F g L next ∧ (∀ k, F k → w0.heap.size ≤ k) ∧ Below w0.heap.size w0 w
section
variable {w0 w w' : World} {g : Nat} {L L' : List Itm} {next next' : Int}
theorem OwnT.below (h : OwnT w0 w g L next) (hb : Below w.heap.size w w') : OwnT w0 w' g L next := by
  obtain ⟨F, h1, h2, h3⟩ := h
  exact ⟨F, h1.below hb, h2, h3.trans (hb.mono h3.size)⟩
theorem OwnT.step {F : Nat → Prop} (h1 : TreeM w F g L next) (h2 : ∀ k, F k → w0.heap.size ≤ k) (h3 : Below w0.heap.size w0 w) (hs : TStep w F g L' next' w') : OwnT w0 w' g L' next' := by
  obtain ⟨F', k1, k2, k3⟩ := hs
  exact ⟨F', k1, fun k q => (k2 k q).elim (h2 k) (fun q => Nat.le_trans h3.size q), h3.trans ((k3.toBelow h3.size h2))⟩
theorem own_new (w0 : World) (hb : Below w0.heap.size w0 w) : Calls Tryz.prog 10 #[] w fun e w' => ∃ g, e = .returned (.pointer (some ⟨g, 0, none⟩)) ∧ OwnT w0 w' g [] 1 :=
  (tnew_any w).mono fun e w' ⟨g, F, h1, h2, h3, h4⟩ => ⟨g, h1, F, h2, fun k q => Nat.le_trans hb.size (h3 k q), hb.trans (h4.mono hb.size)⟩
theorem own_link (h : OwnT w0 w g L next) (hi : TInv L next) (hn : next ≤ 1000000000) (dir : Int) (name : ByteArray) (isDir : Bool) (short : Int) (hs : name.size ≤ maxLen) :
    Calls Tryz.prog 27 #[.pointer (some ⟨g, 0, none⟩), .int .i64 dir, .string name, .bool isDir, .int .i64 short] w fun e w' =>
      e = .returned (.tuple #[.int .i64 (linkT L next dir name isDir short).node, .int .i64 (linkT L next dir name isDir short).err]) ∧ OwnT w0 w' g (linkT L next dir name isDir short).L (linkT L next dir name isDir short).next := by
  obtain ⟨F, h1, h2, h3⟩ := h
  exact (tlink_any dir name isDir short h1 hi hn hs).mono fun e w' ⟨a, b⟩ => ⟨a, .step h1 h2 h3 b⟩
theorem own_unlink (h : OwnT w0 w g L next) (hi : TInv L next) (hn : next ≤ 1000000000) (dir : Int) (name : ByteArray) (isDir : Bool) :
    Calls Tryz.prog 38 #[.pointer (some ⟨g, 0, none⟩), .int .i64 dir, .string name, .bool isDir] w fun e w' =>
      e = .returned (.int .i64 (unlinkT L dir name isDir).2) ∧ OwnT w0 w' g (unlinkT L dir name isDir).1 next := by
  obtain ⟨F, h1, h2, h3⟩ := h
  exact (tunlink_any dir name isDir h1 hi hn).mono fun e w' ⟨a, b⟩ => ⟨a, .step h1 h2 h3 b⟩
theorem own_move (h : OwnT w0 w g L next) (hi : TInv L next) (hn : next ≤ 1000000000) (dir : Int) (name : ByteArray) (to : Int) (as_ : ByteArray) (short : Int) (hs : as_.size ≤ maxLen) :
    Calls Tryz.prog 39 #[.pointer (some ⟨g, 0, none⟩), .int .i64 dir, .string name, .int .i64 to, .string as_, .int .i64 short] w fun e w' =>
      e = .returned (.int .i64 (moveT L next dir name to as_ short).err) ∧ OwnT w0 w' g (moveT L next dir name to as_ short).L (moveT L next dir name to as_ short).next := by
  obtain ⟨F, h1, h2, h3⟩ := h
  exact (tmove_any dir name to as_ short h1 hi hn hs).mono fun e w' ⟨a, b⟩ => ⟨a, .step h1 h2 h3 b⟩
theorem own_do (h : OwnT w0 w g L next) (hi : TInv L next) (hn : next ≤ 1000000000) (o : Op1) (hk : o.kind < 256) (h1 : o.name.size ≤ maxLen) (h2 : o.as_.size ≤ maxLen) :
    Calls Tryz.prog 13 #[.pointer (some ⟨g, 0, none⟩), o.val] w fun e w' =>
      e = .returned (.tuple #[.int .i64 (doT L next o).node, .int .i64 (doT L next o).err]) ∧ OwnT w0 w' g (doT L next o).L (doT L next o).next := by
  obtain ⟨F, k1, k2, k3⟩ := h
  exact (tdo_any o k1 hi hn hk h1 h2).mono fun e w' ⟨a, b⟩ => ⟨a, .step k1 k2 k3 b⟩
theorem own_list (h : OwnT w0 w g L next) (hi : TInv L next) (d : Int) :
    Calls Tryz.prog 23 #[.pointer (some ⟨g, 0, none⟩), .int .i64 d] w fun e w' => ∃ v l, e = .returned (.tuple #[v, .int .i64 (listErr L d)]) ∧ Row EEnt w' w.heap.size v l ∧ (listErr L d = 0 → l = entries L d) ∧ OwnT w0 w' g L next ∧ Below w.heap.size w w' := by
  have hl := hi.len
  have h0 := h
  obtain ⟨F, k1, k2, k3⟩ := h
  exact (tlist_any d k1 (by omega)).mono fun e w' ⟨v, l, a, b, c, hb⟩ => ⟨v, l, a, b, c, h0.below hb, hb⟩
theorem own_find (h : OwnT w0 w g L next) (hi : TInv L next) (d : Int) (name : ByteArray) :
    Calls Tryz.prog 70 #[.pointer (some ⟨g, 0, none⟩), .int .i64 d, .string name] w fun e w' => e = .returned (.tuple #[(findRes L d name).1.val, .int .i64 (findRes L d name).2]) ∧ OwnT w0 w' g L next ∧ Below w.heap.size w w' := by
  have hl := hi.len
  have h0 := h
  obtain ⟨F, k1, k2, k3⟩ := h
  exact (tfind_any d name k1 (by omega)).mono fun e w' ⟨a, hb⟩ => ⟨a, h0.below hb, hb⟩
theorem own_cookie (h : OwnT w0 w g L next) : Calls Tryz.prog 25 #[.pointer (some ⟨g, 0, none⟩)] w fun e w' => e = .returned (.int .i64 next) ∧ w = w' := by
  obtain ⟨F, k1, k2, k3⟩ := h
  exact tcookie_any k1
end
set_option maxRecDepth 100000 in
set_option maxHeartbeats 1000000 in
theorem awake10_any (w : World) : Calls Tryz.prog 8 #[] w fun e w' => e = .returned (.bool true) ∧ Below w.heap.size w w' := by
  have HN := Lib.hid (own_new w (Below.refl _ w))
  go_enter Tryz.func8, Tryz.ntmps8
  go_wp2_with fail
  refine HN.out.mono ?_
  rintro e w1 ⟨g, rfl, h1⟩
  have H1 := Lib.hid h1
  clear h1 HN
  go_wp2_with fail
  refine (own_link H1.out TInv.new (by decide) 0 ⟨#[97]⟩ false 0 (by decide)).mono ?_
  rw [link_a]
  rintro e w2 ⟨rfl, h2⟩
  have H2 := Lib.hid h2
  clear h2 H1
  go_wp2_with fail
  refine (own_cookie H2.out).mono ?_
  rintro e w3 ⟨rfl, rfl⟩
  go_wp2_with fail
  go_ret
  obtain ⟨F, k1, k2, k3⟩ := H2.out
  exact ⟨rfl, k3⟩
end Go.Proofs.YtolilbcpfdnkjaaGreat
