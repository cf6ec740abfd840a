/- Lemmas, texts Y7 Y8 Y9 YA; no condition beyond those that each states. -/
import Derived.Test.YtolilbcpfdnkjaaGreatZBY4
import Derived.Test.YtolilbcpfdnkjaaGreatZBUB
/- the reference's tree, by value: Link. -/
namespace Go.Proofs.YtolilbcpfdnkjaaGreat
open Go.RowKit
set_option linter.unusedSimpArgs false
set_option linter.unusedVariables false
theorem results3_row {P : Program} {fn : Func} {p q r : Tmp} {ty : TypeId} (h : fn.results = #[.cell p ty, .tmp q, .tmp r]) (tmps : Array Value) (w : World) (g : Nat) (t : TypeId) (cs : Array Value) (fr : Nat × Nat) (d : TypeDesc)
    (hp : tmps.getD p undef = .pointer (some ⟨g, 0, none⟩)) (hg : w.heap[g]? = some (.cells cs t fr))
    (hu : P.underlying ty = some d) (hd : (match d with | .struct _ | .array _ _ => true | _ => false) = true) (hi : (P.info? ty).map (·.size) = some cs.size) :
    (results fn tmps).run P w = .ok (.tuple #[.agg cs, tmps.getD q undef, tmps.getD r undef]) w := by
  have hp' : tmps[p]?.getD undef = .pointer (some ⟨g, 0, none⟩) := by simpa using hp
  have hl := run_loadVar_row (P := P) w g t ty cs fr d hg hu hd hi
  simp [results, h, hp', asAddr, Sem.run_bind, hl, Result.andThen]
/-- What a call of the reference's leaves. -/
def RPost (w : World) (v : Value) (R : LR) (e : Ending) (w' : World) : Prop :=
  ∃ v', e = .returned (.tuple #[.agg #[v', .int .i64 R.next], .int .i64 R.node, .int .i64 R.err]) ∧ Arg EItm w' v' R.L ∧ (∀ k, v'.ownBlock = some k → v.ownBlock = some k ∨ (w.heap.size ≤ k ∧ k < w'.heap.size)) ∧ Below w.heap.size w w'
theorem kind_free {L : List Itm} {n : Int} (h1 : 1 ≤ n) : kindT L n = 0 ↔ n ∉ nodes L := by
  unfold kindT
  rw [if_neg (by omega)]
  cases hf : L.find? (fun i => decide (i.e.node = n)) with
  | none =>
    refine ⟨fun _ hm => ?_, fun _ => rfl⟩
    obtain ⟨i, hi, e⟩ := mem_nodes.1 hm
    have := List.find?_eq_none.1 hf i hi
    simp [e] at this
  | some x =>
    have hx := List.mem_of_find?_eq_some hf
    have hxn : x.e.node = n := by have := List.find?_some hf; simpa using this
    refine ⟨fun q => ?_, fun q => absurd (mem_nodes.2 ⟨x, hx, hxn⟩) q⟩
    dsimp only at q
    split at q <;> cases q
theorem rfacts {w : World} {B : Nat} (h : w.heap[B]? = some (.cells #[.slice none 0 0, .int .i64 0] 29 (0, 0))) : w.cell? ⟨B, 0, none⟩ = some (.slice none 0 0) ∧ w.cell? ⟨B, 1, none⟩ = some (.int .i64 0) ∧ w.frozen? ⟨B, 0, none⟩ = false ∧ w.frozen? ⟨B, 1, none⟩ = false :=
  ⟨(m_cells h).1 0, (m_cells h).1 1, (m_cells h).2 0, (m_cells h).2 1⟩
theorem rtree_info : (Tryz.prog.info? 29).map (·.size) = some 2 := by kernel_rfl
/-- A result is written: a tree, a node, an error. -/
theorem rend3 {fn : Func} {p q r : Tmp} (hres : fn.results = #[.cell p 29, .tmp q, .tmp r]) {w w2 : World} {v v' : Value} {R : LR} {B : Nat} {tm : Array Value} (hb : Below w.heap.size w w2) (hB : w.heap.size ≤ B) (hk : w2.heap[B]? = some (.cells #[.slice none 0 0, .int .i64 0] 29 (0, 0)))
    (h1 : tm.getD p undef = .pointer (some ⟨B, 0, none⟩)) (h2 : tm.getD q undef = .int .i64 R.node) (h3 : tm.getD r undef = .int .i64 R.err) (ha : Arg EItm ((w2.setCell ⟨B, 0, none⟩ v').setCell ⟨B, 1, none⟩ (.int .i64 R.next)) v' R.L)
    (hv : ∀ k, v'.ownBlock = some k → v.ownBlock = some k ∨ (w.heap.size ≤ k ∧ k < w2.heap.size)) : bodyPost Tryz.prog fn (RPost w v R) Exit.ret ⟨tm, []⟩ ((w2.setCell ⟨B, 0, none⟩ v').setCell ⟨B, 1, none⟩ (.int .i64 R.next)) := by
  have hg := m_set (m_set hk 0 v') 1 (.int .i64 R.next)
  have hr := results3_row (P := Tryz.prog) hres tm _ B 29 _ (0, 0) _ h1 hg Tryz.underlying29 rfl rtree_info
  rw [h2, h3] at hr
  refine bodyPost_ret (v := .tuple #[.agg #[v', .int .i64 R.next], .int .i64 R.node, .int .i64 R.err]) hr rfl ⟨v', rfl, ha, fun k q => (hv k q).imp id (fun q => ⟨q.1, by simpa [World.setCell] using q.2⟩), (hb.setCell hB _).setCell hB _⟩
theorem findRes_some' {L : List Itm} {d : Int} {name : ByteArray} {x : Ent} (h : isDirB L d = true) (hf : findE L d name = some x) : findRes L d name = (x, 0) := by
  unfold findRes listErr; rw [if_pos h, if_neg (by decide), hf]
theorem findRes_none' {L : List Itm} {d : Int} {name : ByteArray} (h : isDirB L d = true) (hf : findE L d name = none) : findRes L d name = (Ent.zero, 5) := by
  unfold findRes listErr; rw [if_pos h, if_neg (by decide), hf]
set_option maxRecDepth 100000 in
set_option maxHeartbeats 4000000 in
theorem rlink_any {v : Value} {L : List Itm} (w : World) (next d : Int) (name : ByteArray) (isDir : Bool) (short : Int) (h : Arg EItm w v L) (hi : TInv L next) (hn : next ≤ 1000000) (hs : name.size ≤ maxLen) :
    Calls Tryz.prog 40 #[.agg #[v, .int .i64 next], .int .i64 d, .string name, .bool isDir, .int .i64 short] w (RPost w v (linkT L next d name isDir short)) := by
  obtain ⟨a, c, rfl⟩ := h.shape
  have k1 := m_old (.cells #[.slice none 0 0, .int .i64 0] 29) (m_alloc w (.cells #[.slice a L.length c, .int .i64 next] 29) w.heap.size rfl)
  have k2 := m_alloc (w.alloc (.cells #[.slice a L.length c, .int .i64 next] 29)) (.cells #[.slice none 0 0, .int .i64 0] 29) (w.heap.size + 1) (by simp)
  have hbw : Below w.heap.size w ((w.alloc (.cells #[.slice a L.length c, .int .i64 next] 29)).alloc (.cells #[.slice none 0 0, .int .i64 0] 29)) := ((Below.refl _ w).alloc (Nat.le_refl _) _).alloc (by simp) _
  obtain ⟨W, hW⟩ : ∃ W, (w.alloc (.cells #[.slice a L.length c, .int .i64 next] 29)).alloc (.cells #[.slice none 0 0, .int .i64 0] 29) = W := ⟨_, rfl⟩
  rw [hW] at k1 k2 hbw
  have t0 : W.cell? ⟨w.heap.size, 0, none⟩ = some (.slice a L.length c) := (m_cells k1).1 0
  have t1 : W.cell? ⟨w.heap.size, 1, none⟩ = some (.int .i64 next) := (m_cells k1).1 1
  have HBW := Lib.hid hbw
  have HK1 := Lib.hid k1
  have HK2 := Lib.hid k2
  have HL := Lib.hid (rlist_any W next d (h.below hbw) hi)
  clear hbw k1 k2
  go_enter Tryz.func40, Tryz.ntmps40
  go_wp2_with fail
  clear hW
  refine HL.out.mono ?_
  rintro e w1 ⟨v1, l, rfl, -, -, -, hb1⟩
  have HB1 := Lib.hid (HBW.out.trans (hb1.mono HBW.out.size))
  have t0 := cell_later hb1 t0
  have t1 := cell_later hb1 t1
  have hk1 := (hb1.block _ (m_lt HK2.out)).trans HK2.out
  obtain ⟨r0, r1, r2, r3⟩ := rfacts hk1
  have HR1 := Lib.hid hk1
  have HA1 := Lib.hid (h.below HB1.out)
  have HOLD := Lib.hid (fun (W : World) (q : Below w.heap.size w W) => h.below q)
  obtain ⟨E, hE⟩ : ∃ E, listErr L d = E := ⟨_, rfl⟩
  rw [hE]
  have HE := Lib.hid hE
  clear hb1 hk1 h hE HL HK1 HK2
  by_cases e0 : E = 0
  rotate_left
  · have e1 : (E == 0) = false := by simpa using e0
    have e2 : (E != 0) = true := by simpa using e0
    have HR := Lib.hid (show linkT L next d name isDir short = ⟨L, next, 0, E⟩ from by
      have : linkErr L d name short = E := by unfold linkErr; rw [HE.out, if_pos e0]
      unfold linkT; rw [this, if_pos e0])
    go_wp2_with fail
    rw [HR.out]
    exact rend3 rfl HB1.out (Nat.le_succ _) HR1.out rfl rfl rfl (HOLD.out _ ((HB1.out.setCell (Nat.le_succ _) _).setCell (Nat.le_succ _) _)) (fun k q => Or.inl q)
  subst e0
  have HBD := Lib.hid (rbad_any name short w1 hs)
  obtain ⟨M, hM⟩ : ∃ M, mayErr name short = M := ⟨_, rfl⟩
  rw [hM] at HBD
  have HM := Lib.hid hM
  clear hM
  by_cases m0 : M = 0
  rotate_left
  · have e1 : (M == 0) = false := by simpa using m0
    have e2 : (M != 0) = true := by simpa using m0
    have HR := Lib.hid (show linkT L next d name isDir short = ⟨L, next, 0, M⟩ from by
      have : linkErr L d name short = M := by unfold linkErr; rw [HE.out, if_neg (by decide), HM.out, if_pos m0]
      unfold linkT; rw [this, if_pos m0])
    go_wp2_with fail
    refine HBD.out.mono ?_
    rintro e w2 ⟨rfl, rfl⟩
    go_wp2_with fail
    have HS := Lib.hid (show ∀ w', Below (w.heap.size + 1) w2 w' → (w'.cell? ⟨w.heap.size, 0, none⟩ = some (.slice a L.length c) ∧ w'.cell? ⟨w.heap.size, 1, none⟩ = some (.int .i64 next)) from fun w' k => ⟨(k.cell (Nat.lt_succ_self _)).trans t0, (k.cell (Nat.lt_succ_self _)).trans t1⟩)
    have hcall := rbad_any name short w2.drew hs
    rw [HM.out] at hcall
    have HCALL := Lib.hid hcall
    clear hcall
    have hle : w.heap.size + 1 ≤ w2.heap.size := Nat.le_of_lt (m_lt HR1.out)
    go_region_held3 (fun w' => w'.cell? ⟨w.heap.size, 0, none⟩ = some (.slice a L.length c) ∧ w'.cell? ⟨w.heap.size, 1, none⟩ = some (.int .i64 next))
      (first | exact HS.out _ ((Below.refl _ w2).mono hle).drew | exact HS.out _ (((((Below.refl _ w2).mono hle).drew).setCell (Nat.le_refl _) _).setCell (Nat.le_refl _) _))
      (first
       | (go_at_call 74
          refine HCALL.out.mono ?_
          rintro e w4 ⟨rfl, rfl⟩))
    all_goals
      go_wp2_with fail
      rw [HR.out]
      exact rend3 (w2 := w2.drew) rfl HB1.out.drew (Nat.le_succ _) HR1.out rfl rfl rfl (HOLD.out _ ((HB1.out.drew.setCell (Nat.le_succ _) _).setCell (Nat.le_succ _) _)) (fun k q => Or.inl q)
  subst m0
  have HF := Lib.hid (rfind_any w1 next d name HA1.out hi)
  go_wp2_with fail
  refine HBD.out.mono ?_
  rintro e w2 ⟨rfl, rfl⟩
  go_wp2_with fail
  refine HF.out.mono ?_
  rintro e w3 ⟨rfl, hb3⟩
  have HB3 := Lib.hid (HB1.out.trans (hb3.mono HB1.out.size))
  have t0 := cell_later hb3 t0
  have t1 := cell_later hb3 t1
  have hk3 := (hb3.block _ (m_lt HR1.out)).trans HR1.out
  have HR3 := Lib.hid hk3
  clear r0 r1 r2 r3
  obtain ⟨r0, r1, r2, r3⟩ := rfacts hk3
  clear hb3 hk3 HF HBD HR1 HA1
  have hdir : isDirB L d = true := dir_of_list HE.out
  cases hfe : findE L d name with
  | some x =>
    have hfr := findRes_some' hdir hfe
    rw [hfr]
    have HR := Lib.hid (show linkT L next d name isDir short = ⟨L, next, 0, 6⟩ from by
      have : linkErr L d name short = 6 := by unfold linkErr; rw [HE.out, if_neg (by decide), HM.out, if_neg (by decide), hfe]; rfl
      unfold linkT; rw [this]; rfl)
    clear hfr hfe hdir
    go_wp2_with fail
    rw [HR.out]
    exact rend3 rfl HB3.out (Nat.le_succ _) HR3.out rfl rfl rfl (HOLD.out _ ((HB3.out.setCell (Nat.le_succ _) _).setCell (Nat.le_succ _) _)) (fun k q => Or.inl q)
  | none =>
    have hfr := findRes_none' hdir hfe
    rw [hfr]
    have HLK := Lib.hid (show linkErr L d name short = 0 from by unfold linkErr; rw [HE.out, if_neg (by decide), HM.out, if_neg (by decide), hfe]; rfl)
    clear hfr hfe hdir r0 r1 r2 r3
    go_wp2_with fail
    go_loopw [15] (fun nv wr => ∃ n : Nat, nv = .int .i64 n ∧ 1 ≤ n ∧ n ≤ 201 ∧ (∀ m : Nat, 1 ≤ m → m < n → (m : Int) ∈ nodes L) ∧ Below w3.heap.size w3 wr) (fun nv _ => 201 - (intOf nv).toNat)
    case atStart => exact ⟨1, rfl, Nat.le_refl _, by decide, fun m a b => by omega, Below.refl _ _⟩
    case round =>
      obtain ⟨n, rfl, n1, n2, hall, hb⟩ := hrel
      have HALL := Lib.hid hall
      have HBr := Lib.hid (HB3.out.trans (hb.mono HB3.out.size))
      have HB := Lib.hid hb
      have t0 := cell_later hb t0
      have t1 := cell_later hb t1
      have hkr := (hb.block _ (m_lt HR3.out)).trans HR3.out
      obtain ⟨r0, r1, r2, r3⟩ := rfacts hkr
      have HRr := Lib.hid hkr
      clear hall hb hkr
      by_cases hlt : n ≤ 200
      · have i1 : (n : Int) ≤ 200 := by omega
        have HKD := Lib.hid (rkind_any wr next n (HOLD.out _ HBr.out) (by have := hi.len; omega))
        obtain ⟨K, hK⟩ : ∃ K, kindT L n = K := ⟨_, rfl⟩
        have hkf := kind_free (L := L) (n := (n : Int)) (by omega)
        rw [hK] at HKD hkf
        clear hK
        by_cases k0 : K = 0
        · subst k0
          have HR := Lib.hid (show linkT L next d name isDir short = ⟨L ++ [⟨d, ⟨name, n, isDir, next, short⟩⟩], next + 1, n, 0⟩ from by
            have hf : freeN (nodes L) = n := freeN_eq ⟨n1, hkf.1 rfl, HALL.out⟩
            unfold linkT; rw [HLK.out, if_neg (by decide), hf, if_pos hlt])
          clear hkf
          go_wp2_with fail
          refine HKD.out.mono ?_
          rintro e w4 ⟨rfl, hb4⟩
          have HB4 := Lib.hid (HBr.out.trans (hb4.mono HBr.out.size))
          have t0 := cell_later hb4 t0
          have t1 := cell_later hb4 t1
          have hk4 := (hb4.block _ (m_lt HRr.out)).trans HRr.out
          clear r0 r1 r2 r3
          obtain ⟨r0, r1, r2, r3⟩ := rfacts hk4
          have HR4 := Lib.hid hk4
          clear hb4 hk4
          go_wp2_with fail
          refine (rput_any w4 next d ⟨name, n, isDir, 0, short⟩ (HOLD.out _ HB4.out) (by have := hi.len; omega) (by omega) (by have := hi.nx; omega)).mono ?_
          rintro e w5 ⟨v5, rfl, hr5, hb5⟩
          have HB5 := Lib.hid (HB4.out.trans (hb5.mono HB4.out.size))
          have hk5 := (hb5.block _ (m_lt HR4.out)).trans HR4.out
          have hB4 := m_lt HR4.out
          clear r0 r1 r2 r3
          obtain ⟨r0, r1, r2, r3⟩ := rfacts hk5
          have HR5 := Lib.hid hk5
          have HRW := Lib.hid hr5
          obtain ⟨a5, c5, rfl⟩ := hr5.shape
          clear hb5 hk5 hr5
          go_wp2_with fail
          rw [HR.out]
          have z : Row EItm w5 w4.heap.size (.slice a5 (L.length + 1) c5) (L ++ [⟨d, ⟨name, n, isDir, next, short⟩⟩]) := by
            have q := HRW.out
            rw [List.length_append] at q
            exact q
          refine rend3 rfl HB5.out (Nat.le_succ _) HR5.out rfl rfl rfl ?_ (fun k q => Or.inr ⟨Nat.le_trans HB4.out.size (z.ge q), z.lt q⟩)
          exact (z.kept (fun k q => by rw [Below.heap_setCell _ _ _ _ (by have := z.ge q; show k ≠ w.heap.size + 1; omega), Below.heap_setCell _ _ _ _ (by have := z.ge q; show k ≠ w.heap.size + 1; omega)])).arg
        · have k1 : (K == 0) = false := by simpa using k0
          have HM2 := Lib.hid (show (n : Int) ∈ nodes L from by
            by_cases q : (n : Int) ∈ nodes L
            · exact q
            · exact absurd (hkf.2 q) k0)
          clear hkf
          go_wp2_with fail
          refine HKD.out.mono ?_
          rintro e w4 ⟨rfl, hb4⟩
          have HB4 := Lib.hid (HB.out.trans (hb4.mono HB.out.size))
          clear hb4
          go_wp2_with fail
          exact ⟨⟨n + 1, by go_num, by omega, by omega, fun m a b => by
            rcases Nat.lt_or_ge m n with q | q
            · exact HALL.out m a q
            · have : m = n := by omega
              subst this; exact HM2.out, HB4.out⟩, by simp [intOf]; omega⟩
      · have en : n = 201 := by omega
        subst en
        have HR := Lib.hid (show linkT L next d name isDir short = ⟨L, next, 0, 12⟩ from by
          have hf : ¬ freeN (nodes L) ≤ 200 := fun q => by
            have hs := freeN_spec (nodes L)
            exact hs.2.1 (HALL.out _ hs.1 (by omega))
          unfold linkT; rw [HLK.out, if_neg (by decide), if_neg hf])
        have i1 : ¬ ((201 : Nat) : Int) ≤ 200 := by decide
        go_wp2_with fail
        rw [HR.out]
        exact rend3 rfl HBr.out (Nat.le_succ _) HRr.out rfl rfl rfl (HOLD.out _ ((HBr.out.setCell (Nat.le_succ _) _).setCell (Nat.le_succ _) _)) (fun k q => Or.inl q)
end Go.Proofs.YtolilbcpfdnkjaaGreat

/- the reference's tree, by value: Unlink. -/
namespace Go.Proofs.YtolilbcpfdnkjaaGreat
open Go.RowKit
set_option linter.unusedSimpArgs false
set_option linter.unusedVariables false
def RPost2 (w : World) (v : Value) (L' : List Itm) (next' err : Int) (e : Ending) (w' : World) : Prop :=
  ∃ v', e = .returned (.tuple #[.agg #[v', .int .i64 next'], .int .i64 err]) ∧ Arg EItm w' v' L' ∧ (∀ k, v'.ownBlock = some k → v.ownBlock = some k ∨ (w.heap.size ≤ k ∧ k < w'.heap.size)) ∧ Below w.heap.size w w'
theorem rend2 {fn : Func} {p q : Tmp} (hres : fn.results = #[.cell p 29, .tmp q]) {w w2 : World} {v v' : Value} {L' : List Itm} {next' err : Int} {B : Nat} {tm : Array Value} (hb : Below w.heap.size w w2) (hB : w.heap.size ≤ B) (hk : w2.heap[B]? = some (.cells #[.slice none 0 0, .int .i64 0] 29 (0, 0)))
    (h1 : tm.getD p undef = .pointer (some ⟨B, 0, none⟩)) (h2 : tm.getD q undef = .int .i64 err) (ha : Arg EItm ((w2.setCell ⟨B, 0, none⟩ v').setCell ⟨B, 1, none⟩ (.int .i64 next')) v' L')
    (hv : ∀ k, v'.ownBlock = some k → v.ownBlock = some k ∨ (w.heap.size ≤ k ∧ k < w2.heap.size)) : bodyPost Tryz.prog fn (RPost2 w v L' next' err) Exit.ret ⟨tm, []⟩ ((w2.setCell ⟨B, 0, none⟩ v').setCell ⟨B, 1, none⟩ (.int .i64 next')) := by
  have hg := m_set (m_set hk 0 v') 1 (.int .i64 next')
  have hr := results2_row (P := Tryz.prog) hres tm _ B 29 _ (0, 0) _ h1 hg Tryz.underlying29 rfl rtree_info
  rw [h2] at hr
  exact bodyPost_ret (v := .tuple #[.agg #[v', .int .i64 next'], .int .i64 err]) hr rfl ⟨v', rfl, ha, fun k q => (hv k q).imp id (fun q => ⟨q.1, by simpa [World.setCell] using q.2⟩), (hb.setCell hB _).setCell hB _⟩
set_option maxRecDepth 100000 in
set_option maxHeartbeats 4000000 in
theorem runlink_any {v : Value} {L : List Itm} (w : World) (next d : Int) (name : ByteArray) (isDir : Bool) (h : Arg EItm w v L) (hi : TInv L next) :
    Calls Tryz.prog 41 #[.agg #[v, .int .i64 next], .int .i64 d, .string name, .bool isDir] w (RPost2 w v (unlinkT L d name isDir).1 next (unlinkT L d name isDir).2) := by
  obtain ⟨a, c, rfl⟩ := h.shape
  have k1 := m_old (.cells #[.slice none 0 0, .int .i64 0] 29) (m_alloc w (.cells #[.slice a L.length c, .int .i64 next] 29) w.heap.size rfl)
  have k2 := m_alloc (w.alloc (.cells #[.slice a L.length c, .int .i64 next] 29)) (.cells #[.slice none 0 0, .int .i64 0] 29) (w.heap.size + 1) (by simp)
  have hbw : Below w.heap.size w ((w.alloc (.cells #[.slice a L.length c, .int .i64 next] 29)).alloc (.cells #[.slice none 0 0, .int .i64 0] 29)) := ((Below.refl _ w).alloc (Nat.le_refl _) _).alloc (by simp) _
  obtain ⟨W, hW⟩ : ∃ W, (w.alloc (.cells #[.slice a L.length c, .int .i64 next] 29)).alloc (.cells #[.slice none 0 0, .int .i64 0] 29) = W := ⟨_, rfl⟩
  rw [hW] at k1 k2 hbw
  have t0 : W.cell? ⟨w.heap.size, 0, none⟩ = some (.slice a L.length c) := (m_cells k1).1 0
  have t1 : W.cell? ⟨w.heap.size, 1, none⟩ = some (.int .i64 next) := (m_cells k1).1 1
  have HBW := Lib.hid hbw
  have HK2 := Lib.hid k2
  have HF := Lib.hid (rfind_any W next d name (h.below hbw) hi)
  have HOLD := Lib.hid (fun (W : World) (q : Below w.heap.size w W) => h.below q)
  clear hbw k1 k2 h
  go_enter Tryz.func41, Tryz.ntmps41
  go_wp2_with fail
  clear hW
  refine HF.out.mono ?_
  rintro e w1 ⟨rfl, hb1⟩
  obtain ⟨x, hx⟩ : ∃ x, (findRes L d name).1 = x := ⟨_, rfl⟩
  obtain ⟨E, hE⟩ : ∃ E, (findRes L d name).2 = E := ⟨_, rfl⟩
  rw [hx, hE]
  have HUE := Lib.hid (show unlinkErr L d name isDir = if E ≠ 0 then E else if isDir = true ∧ x.dir = false then 8 else if isDir = false ∧ x.dir = true then 7 else if entries L x.node ≠ [] then 9 else 0 from by unfold unlinkErr; rw [hx, hE])
  have HBAD := Lib.hid (fun (M : Int) (q : unlinkErr L d name isDir = M) (m : M ≠ 0) => show unlinkT L d name isDir = (L, M) from by unfold unlinkT; rw [q, if_pos m])
  clear hx hE HF
  obtain ⟨nm, nd, dr, ck, sh⟩ := x
  have hx1 := m_alloc w1 (.cells #[.string nm, .int .i64 nd, .bool dr, .int .i64 ck, .int .i64 sh] 84) w1.heap.size rfl
  have hb2 : Below W.heap.size W (w1.alloc (.cells #[.string nm, .int .i64 nd, .bool dr, .int .i64 ck, .int .i64 sh] 84)) := hb1.alloc hb1.size _
  obtain ⟨W2, hW2⟩ : ∃ W2, w1.alloc (.cells #[.string nm, .int .i64 nd, .bool dr, .int .i64 ck, .int .i64 sh] 84) = W2 := ⟨_, rfl⟩
  rw [hW2] at hx1 hb2
  have HB2 := Lib.hid (HBW.out.trans (hb2.mono HBW.out.size))
  have t0 := cell_later hb2 t0
  have t1 := cell_later hb2 t1
  have hk2 := (hb2.block _ (m_lt HK2.out)).trans HK2.out
  obtain ⟨r0, r1, r2, r3⟩ := rfacts hk2
  have HR2 := Lib.hid hk2
  have x1 : W2.cell? ⟨w1.heap.size, 1, none⟩ = some (.int .i64 nd) := (m_cells hx1).1 1
  have x2 : W2.cell? ⟨w1.heap.size, 2, none⟩ = some (.bool dr) := (m_cells hx1).1 2
  obtain ⟨X, hXX⟩ : ∃ X, w1.heap.size = X := ⟨_, rfl⟩
  rw [hXX] at x1 x2
  clear hk2 hb1 hb2 hx1
  by_cases e0 : E = 0
  rotate_left
  · have e1 : (E == 0) = false := by simpa using e0
    have e2 : (E != 0) = true := by simpa using e0
    have HR := Lib.hid (HBAD.out E (by rw [HUE.out, if_pos e0]) e0)
    go_wp2_with fail
    rw [HR.out]
    exact rend2 (L' := L) (next' := next) (err := E) rfl HB2.out (Nat.le_succ _) HR2.out rfl rfl (HOLD.out _ ((HB2.out.setCell (Nat.le_succ _) _).setCell (Nat.le_succ _) _)) (fun k q => Or.inl q)
  subst e0
  have key : (isDir = true ∧ dr = false) ∨ (isDir = false ∧ dr = true) ∨ (isDir = dr) := by cases isDir <;> cases dr <;> simp
  rcases key with ⟨rfl, rfl⟩ | ⟨rfl, rfl⟩ | rfl
  · have HR := Lib.hid (HBAD.out 8 (by rw [HUE.out]; simp) (by decide))
    go_wp2_with fail
    rw [HR.out]
    exact rend2 (L' := L) (next' := next) (err := 8) rfl HB2.out (Nat.le_succ _) HR2.out rfl rfl (HOLD.out _ ((HB2.out.setCell (Nat.le_succ _) _).setCell (Nat.le_succ _) _)) (fun k q => Or.inl q)
  · have HR := Lib.hid (HBAD.out 7 (by rw [HUE.out]; simp) (by decide))
    go_wp2_with fail
    rw [HR.out]
    exact rend2 (L' := L) (next' := next) (err := 7) rfl HB2.out (Nat.le_succ _) HR2.out rfl rfl (HOLD.out _ ((HB2.out.setCell (Nat.le_succ _) _).setCell (Nat.le_succ _) _)) (fun k q => Or.inl q)
  have HUE2 := Lib.hid (show unlinkErr L d name isDir = if entries L nd ≠ [] then 9 else 0 from by rw [HUE.out]; cases isDir <;> simp)
  clear HUE r0 r1 r2 r3
  have hlen := hi.len
  cases isDir
  all_goals
    go_wp2_with fail
    clear hXX x2 hW2
    go_loopw [12] (fun iv wr => ∃ i : Nat, iv = .int .i64 i ∧ i ≤ L.length ∧ (∀ (j : Nat) y, j < i → L[j]? = some y → y.d ≠ nd) ∧ Below W2.heap.size W2 wr) (fun iv _ => L.length - (intOf iv).toNat)
    case atStart => exact ⟨0, rfl, Nat.zero_le _, fun j y hj => absurd hj (Nat.not_lt_zero _), Below.refl _ _⟩
    case round =>
      obtain ⟨i, rfl, hi2, hall, hb⟩ := hrel
      have HALL := Lib.hid hall
      have HBr := Lib.hid (HB2.out.trans (hb.mono HB2.out.size))
      have HB := Lib.hid hb
      have t0 := cell_later hb t0
      have t1 := cell_later hb t1
      have x1 := cell_later hb x1
      have hkr := (hb.block _ (m_lt HR2.out)).trans HR2.out
      obtain ⟨r0, r1, r2, r3⟩ := rfacts hkr
      have HRr := Lib.hid hkr
      clear hall hb hkr
      by_cases hlt : i < L.length
      · have i1 : (i : Int) < L.length := by omega
        obtain ⟨y, hy⟩ : ∃ y, L[i]? = some y := ⟨_, List.getElem?_eq_getElem hlt⟩
        obtain ⟨g, off, ha, -, c0, -⟩ := itm_cells (HOLD.out _ HBr.out) i y hy
        subst ha
        have HY := Lib.hid hy
        clear hy
        by_cases hn : y.d = nd
        · have hn1 : (y.d == nd) = true := by simpa using hn
          have HR := Lib.hid (HBAD.out 9 (by
            rw [HUE2.out, if_pos]
            intro q
            have : y.e ∈ entries L nd := mem_entries.2 ⟨y, List.mem_of_getElem? HY.out, hn, rfl⟩
            rw [q] at this; cases this) (by decide))
          clear hn
          go_wp2_with fail
          go_quiet (fail)
          have HBq := Lib.hid (show Below w.heap.size w (wr.drewN nq) from ⟨HBr.out.os, HBr.out.tape, HBr.out.output, HBr.out.size, HBr.out.block⟩)
          go_wp2_with fail
          rw [HR.out]
          exact rend2 (L' := L) (next' := next) (err := 9) (w2 := wr.drewN nq) rfl HBq.out (Nat.le_succ _) HRr.out rfl rfl (HOLD.out _ ((HBq.out.setCell (Nat.le_succ _) _).setCell (Nat.le_succ _) _)) (fun k q => Or.inl q)
        · have hn1 : (y.d == nd) = false := by simpa using hn
          have HNN := Lib.hid hn
          clear hn
          go_wp2_with fail
          go_quiet (fail)
          have HBq := Lib.hid (show Below W2.heap.size W2 (wr.drewN nq) from ⟨HB.out.os, HB.out.tape, HB.out.output, HB.out.size, HB.out.block⟩)
          go_wp2_with fail
          exact ⟨⟨i + 1, by go_num, hlt, fun j z hj hz => (Nat.lt_succ_iff_lt_or_eq.1 hj).elim (fun q => HALL.out j z q hz) (fun q => by subst q; have := HY.out.symm.trans hz; cases this; exact HNN.out), HBq.out⟩, by simp [intOf]; omega⟩
      · have ei : i = L.length := by omega
        subst ei
        have i2 : ¬ ((L.length : Int) < L.length) := by omega
        have HR := Lib.hid (show unlinkT L d name _ = (dropT L d name, 0) from by
          unfold unlinkT
          have he0 : entries L nd = [] := by
            rw [List.eq_nil_iff_forall_not_mem]
            intro e he
            obtain ⟨y, hy, e1, _⟩ := mem_entries.1 he
            obtain ⟨j, hj⟩ := List.getElem?_of_mem hy
            exact HALL.out j y (List.getElem?_eq_some_iff.1 hj).1 hj e1
          rw [HUE2.out, if_neg (by simp [he0])])
        go_wp2_with fail
        refine (rdrop_any wr next d name (HOLD.out _ HBr.out) (by omega)).mono ?_
        rintro e w5 ⟨v5, rfl, hr5, hb5⟩
        have HB5 := Lib.hid (HBr.out.trans (hb5.mono HBr.out.size))
        have hk5 := (hb5.block _ (m_lt HRr.out)).trans HRr.out
        have hB4 := m_lt HRr.out
        clear r0 r1 r2 r3
        obtain ⟨r0, r1, r2, r3⟩ := rfacts hk5
        have HR5 := Lib.hid hk5
        have HRW := Lib.hid hr5
        obtain ⟨a5, c5, rfl⟩ := hr5.shape
        clear hb5 hk5 hr5
        go_wp2_with fail
        rw [HR.out]
        refine rend2 (L' := dropT L d name) (next' := next) (err := 0) rfl HB5.out (Nat.le_succ _) HR5.out rfl rfl ?_ (fun k q => Or.inr ⟨Nat.le_trans HBr.out.size (HRW.out.ge q), HRW.out.lt q⟩)
        have z := HRW.out
        exact (z.kept (fun k q => by rw [Below.heap_setCell _ _ _ _ (by have := z.ge q; show k ≠ w.heap.size + 1; omega), Below.heap_setCell _ _ _ _ (by have := z.ge q; show k ≠ w.heap.size + 1; omega)])).arg
end Go.Proofs.YtolilbcpfdnkjaaGreat

/- the reference's tree, by value: Move. -/
namespace Go.Proofs.YtolilbcpfdnkjaaGreat
open Go.RowKit
set_option linter.unusedSimpArgs false
set_option linter.unusedVariables false
/-- On the way up from a directory. -/
def UpRel (L : List Itm) (x to : Int) (r : Int → Nat) (n : Int) (i : Nat) : Prop :=
  (n = -1 ∧ ¬ Under L x to ∧ i ≤ 201) ∨ (0 ≤ n ∧ (Under L x to ↔ Under L x n) ∧ ∃ vs : List Int, vs.length = i ∧ vs.Nodup ∧ ∀ v ∈ vs, v ∈ nodes L ∧ r n < r v)
theorem Under.inv {L : List Itm} {a n : Int} (h : Under L a n) : n = a ∨ ∃ i ∈ L, i.e.node = n ∧ Under L a i.d := by
  cases h with
  | refl => exact Or.inl rfl
  | step i hi h => exact Or.inr ⟨i, hi, rfl, h⟩
theorem UpRel.len {L : List Itm} {next x to n : Int} {r : Int → Nat} {i : Nat} (hi : TInv L next) (h : UpRel L x to r n i) : i ≤ 201 := by
  rcases h with h | ⟨_, _, vs, e, hn, hv⟩
  · exact h.2.2
  · have := nodup_bound 200 vs hn (fun v q => by
      obtain ⟨j, hj, e⟩ := mem_nodes.1 (hv v q).1
      have := hi.rg j hj; omega)
    omega
theorem UpRel.step {L : List Itm} {next x to n : Int} {r : Int → Nat} {i : Nat} (hi : TInv L next) (hr : ∀ i ∈ L, r i.e.node = r i.d + 1) (h : UpRel L x to r n i) (h0 : 0 ≤ n) (hx : n ≠ x) : UpRel L x to r (aboveT L n) (i + 1) := by
  have hlen := h.len hi
  rcases h with ⟨e, _⟩ | ⟨_, hu, vs, e, hn, hv⟩
  · omega
  · unfold aboveT
    cases hf : L.find? (fun i => decide (i.e.node = n)) with
    | none =>
      left
      refine ⟨rfl, fun q => ?_, ?_⟩
      · rcases (hu.1 q).inv with q | ⟨j, hj, e, _⟩
        · exact hx q
        · have := List.find?_eq_none.1 hf j hj
          simp [e] at this
      · have := nodup_bound 200 vs hn (fun v q => by
          obtain ⟨j, hj, e⟩ := mem_nodes.1 (hv v q).1
          have := hi.rg j hj; omega)
        omega
    | some j =>
      right
      have hj := List.mem_of_find?_eq_some hf
      have hjn : j.e.node = n := by have := List.find?_some hf; simpa using this
      have hjd : 0 ≤ j.d := by
        rcases (isDirB_iff L j.d).1 (hi.pa j hj) with q | ⟨k, hk, e, _⟩
        · rw [q]; exact Int.le_refl _
        · have := hi.rg k hk; omega
      refine ⟨hjd, ?_, vs ++ [n], by simp [e], ?_, ?_⟩
      · rw [hu]
        constructor
        · intro q
          rcases q.inv with q | ⟨k, hk, e, q⟩
          · exact absurd q hx
          · have : k = j := inj_of_nodup (f := fun i : Itm => i.e.node) hi.nd hk hj (by rw [e, hjn])
            subst this; exact q
        · intro q
          have := Under.step j hj q
          rwa [hjn] at this
      · rw [List.nodup_append]
        refine ⟨hn, by simp, fun a ha b hb e => ?_⟩
        simp at hb; subst hb; subst e
        have := (hv a ha).2
        omega
      · intro v hvm
        have hrj := hr j hj
        rw [hjn] at hrj
        rcases List.mem_append.1 hvm with q | q
        · have := hv v q
          exact ⟨this.1, by show r j.d < r v; omega⟩
        · simp at q; subst q
          exact ⟨mem_nodes.2 ⟨j, hj, hjn⟩, by show r j.d < r v; omega⟩
set_option maxRecDepth 100000 in
set_option maxHeartbeats 4000000 in
theorem rmove_any {v : Value} {L : List Itm} (w : World) (next d : Int) (name : ByteArray) (to : Int) (as_ : ByteArray) (short : Int) (h : Arg EItm w v L) (hi : TInv L next) (hn : next ≤ 1000000) (hs : as_.size ≤ maxLen) :
    Calls Tryz.prog 42 #[.agg #[v, .int .i64 next], .int .i64 d, .string name, .int .i64 to, .string as_, .int .i64 short] w (RPost2 w v (moveT L next d name to as_ short).L (moveT L next d name to as_ short).next (moveT L next d name to as_ short).err) := by
  obtain ⟨a, c, rfl⟩ := h.shape
  have k1 := m_old (.cells #[.slice none 0 0, .int .i64 0] 29) (m_alloc w (.cells #[.slice a L.length c, .int .i64 next] 29) w.heap.size rfl)
  have k2 := m_alloc (w.alloc (.cells #[.slice a L.length c, .int .i64 next] 29)) (.cells #[.slice none 0 0, .int .i64 0] 29) (w.heap.size + 1) (by simp)
  have hbw : Below w.heap.size w ((w.alloc (.cells #[.slice a L.length c, .int .i64 next] 29)).alloc (.cells #[.slice none 0 0, .int .i64 0] 29)) := ((Below.refl _ w).alloc (Nat.le_refl _) _).alloc (by simp) _
  obtain ⟨W, hW⟩ : ∃ W, (w.alloc (.cells #[.slice a L.length c, .int .i64 next] 29)).alloc (.cells #[.slice none 0 0, .int .i64 0] 29) = W := ⟨_, rfl⟩
  rw [hW] at k1 k2 hbw
  have t0 : W.cell? ⟨w.heap.size, 0, none⟩ = some (.slice a L.length c) := (m_cells k1).1 0
  have t1 : W.cell? ⟨w.heap.size, 1, none⟩ = some (.int .i64 next) := (m_cells k1).1 1
  have HBW := Lib.hid hbw
  have HK2 := Lib.hid k2
  have HF := Lib.hid (rfind_any W next d name (h.below hbw) hi)
  have HOLD := Lib.hid (fun (W : World) (q : Below w.heap.size w W) => h.below q)
  clear hbw k1 k2 h
  go_enter Tryz.func42, Tryz.ntmps42
  go_wp2_with fail
  clear hW
  refine HF.out.mono ?_
  rintro e w1 ⟨rfl, hb1⟩
  obtain ⟨x, hx⟩ : ∃ x, (findRes L d name).1 = x := ⟨_, rfl⟩
  obtain ⟨E, hE⟩ : ∃ E, (findRes L d name).2 = E := ⟨_, rfl⟩
  rw [hx, hE]
  have HME := Lib.hid (show moveErr L d name to as_ short = if E ≠ 0 then E else if listErr L to ≠ 0 then listErr L to else if mayErr as_ short ≠ 0 then mayErr as_ short else if underB L x.node to = true then 10 else if (findE L to as_).isSome = true then 6 else 0 from by unfold moveErr; rw [hx, hE])
  have HBAD := Lib.hid (fun (M : Int) (q : moveErr L d name to as_ short = M) (m : M ≠ 0) => show moveT L next d name to as_ short = ⟨L, next, 0, M⟩ from by unfold moveT; rw [q, if_pos m])
  have HGOOD := Lib.hid (fun (q : moveErr L d name to as_ short = 0) => show moveT L next d name to as_ short = ⟨dropT L d name ++ [⟨to, ⟨as_, x.node, x.dir, next, short⟩⟩], next + 1, 0, 0⟩ from by unfold moveT; rw [q, if_neg (by decide), hx])
  clear hx hE HF
  obtain ⟨nm, nd, dr, ck, sh⟩ := x
  have hx1 := m_alloc w1 (.cells #[.string nm, .int .i64 nd, .bool dr, .int .i64 ck, .int .i64 sh] 84) w1.heap.size rfl
  have hb2 : Below W.heap.size W (w1.alloc (.cells #[.string nm, .int .i64 nd, .bool dr, .int .i64 ck, .int .i64 sh] 84)) := hb1.alloc hb1.size _
  obtain ⟨W2, hW2⟩ : ∃ W2, w1.alloc (.cells #[.string nm, .int .i64 nd, .bool dr, .int .i64 ck, .int .i64 sh] 84) = W2 := ⟨_, rfl⟩
  rw [hW2] at hx1 hb2
  have HB2 := Lib.hid (HBW.out.trans (hb2.mono HBW.out.size))
  have t0 := cell_later hb2 t0
  have t1 := cell_later hb2 t1
  have hk2 := (hb2.block _ (m_lt HK2.out)).trans HK2.out
  obtain ⟨r0, r1, r2, r3⟩ := rfacts hk2
  have HR2 := Lib.hid hk2
  have x1 : W2.cell? ⟨w1.heap.size, 1, none⟩ = some (.int .i64 nd) := (m_cells hx1).1 1
  have x2 : W2.cell? ⟨w1.heap.size, 2, none⟩ = some (.bool dr) := (m_cells hx1).1 2
  have hXlt : w1.heap.size < W2.heap.size := m_lt hx1
  have hX0 : w.heap.size + 1 < w1.heap.size := Nat.lt_of_lt_of_le (m_lt HK2.out) hb1.size
  obtain ⟨X, hXX⟩ : ∃ X, w1.heap.size = X := ⟨_, rfl⟩
  rw [hXX] at x1 x2 hXlt hX0
  clear hk2 hb1 hb2 hx1
  by_cases e0 : E = 0
  rotate_left
  · have e1 : (E == 0) = false := by simpa using e0
    have e2 : (E != 0) = true := by simpa using e0
    have HR := Lib.hid (HBAD.out E (by rw [HME.out, if_pos e0]) e0)
    go_wp2_with fail
    rw [HR.out]
    exact rend2 (L' := L) (next' := next) (err := E) rfl HB2.out (Nat.le_succ _) HR2.out rfl rfl (HOLD.out _ ((HB2.out.setCell (Nat.le_succ _) _).setCell (Nat.le_succ _) _)) (fun k q => Or.inl q)
  subst e0
  obtain ⟨E2, hE2⟩ : ∃ E2, listErr L to = E2 := ⟨_, rfl⟩
  have hL2 := rlist_any W2 next to (HOLD.out _ HB2.out) hi
  have HL2 := Lib.hid hL2
  have HE2 := Lib.hid hE2
  clear hL2 r0 r1 r2 r3 hE2
  go_wp2_with fail
  clear hXX hW2
  refine HL2.out.mono ?_
  rintro e w3 ⟨v3, l3, rfl, -, -, -, hb3⟩
  rw [HE2.out]
  have HB3 := Lib.hid (HB2.out.trans (hb3.mono HB2.out.size))
  have t0 := cell_later hb3 t0
  have t1 := cell_later hb3 t1
  have x1 := cell_later hb3 x1
  have x2 := cell_later hb3 x2
  have hX3 : X < w3.heap.size := Nat.lt_of_lt_of_le hXlt hb3.size
  have hk3 := (hb3.block _ (m_lt HR2.out)).trans HR2.out
  obtain ⟨r0, r1, r2, r3⟩ := rfacts hk3
  have HR3 := Lib.hid hk3
  clear hk3 hb3 HL2 HR2
  by_cases e2 : E2 = 0
  rotate_left
  · have d1 : (E2 == 0) = false := by simpa using e2
    have d2 : (E2 != 0) = true := by simpa using e2
    have HR := Lib.hid (HBAD.out E2 (by rw [HME.out, if_neg (by decide), HE2.out, if_pos e2]) e2)
    go_wp2_with fail
    rw [HR.out]
    exact rend2 (L' := L) (next' := next) (err := E2) rfl HB3.out (Nat.le_succ _) HR3.out rfl rfl (HOLD.out _ ((HB3.out.setCell (Nat.le_succ _) _).setCell (Nat.le_succ _) _)) (fun k q => Or.inl q)
  subst e2
  have HBD := Lib.hid (rbad_any as_ short w3 hs)
  obtain ⟨M, hM⟩ : ∃ M, mayErr as_ short = M := ⟨_, rfl⟩
  rw [hM] at HBD
  have HM := Lib.hid hM
  clear hM
  by_cases m0 : M = 0
  rotate_left
  · have d1 : (M == 0) = false := by simpa using m0
    have d2 : (M != 0) = true := by simpa using m0
    have HR := Lib.hid (HBAD.out M (by rw [HME.out, if_neg (by decide), HE2.out, if_neg (by decide), HM.out, if_pos m0]) m0)
    go_wp2_with fail
    refine HBD.out.mono ?_
    rintro e w4 ⟨rfl, rfl⟩
    go_wp2_with fail
    have HS := Lib.hid (show ∀ w', Below (w.heap.size + 1) w4 w' → (w'.cell? ⟨w.heap.size, 0, none⟩ = some (.slice a L.length c) ∧ w'.cell? ⟨w.heap.size, 1, none⟩ = some (.int .i64 next)) from fun w' k => ⟨(k.cell (Nat.lt_succ_self _)).trans t0, (k.cell (Nat.lt_succ_self _)).trans t1⟩)
    have hcall := rbad_any as_ short w4.drew hs
    rw [HM.out] at hcall
    have HCALL := Lib.hid hcall
    clear hcall
    have hle : w.heap.size + 1 ≤ w4.heap.size := Nat.le_of_lt (m_lt HR3.out)
    go_region_held3 (fun w' => w'.cell? ⟨w.heap.size, 0, none⟩ = some (.slice a L.length c) ∧ w'.cell? ⟨w.heap.size, 1, none⟩ = some (.int .i64 next))
      (first | exact HS.out _ ((Below.refl _ w4).mono hle).drew | exact HS.out _ (((((Below.refl _ w4).mono hle).drew).setCell (Nat.le_refl _) _).setCell (Nat.le_refl _) _))
      (first
       | (go_at_call 74
          refine HCALL.out.mono ?_
          rintro e w5 ⟨rfl, rfl⟩))
    all_goals
      go_wp2_with fail
      rw [HR.out]
      exact rend2 (L' := L) (next' := next) (err := M) (w2 := w4.drew) rfl HB3.out.drew (Nat.le_succ _) HR3.out rfl rfl (HOLD.out _ ((HB3.out.drew.setCell (Nat.le_succ _) _).setCell (Nat.le_succ _) _)) (fun k q => Or.inl q)
  subst m0
  have hlen := hi.len
  obtain ⟨rk, hr0, hrk⟩ := hi.ac
  have HRK := Lib.hid hrk
  have hup : UpRel L nd to rk to 0 := by
    right
    refine ⟨?_, Iff.rfl, [], rfl, by simp, by simp⟩
    rcases (isDirB_iff L to).1 (dir_of_list HE2.out) with q | ⟨k, hk, e, _⟩
    · rw [q]; exact Int.le_refl _
    · have := hi.rg k hk; omega
  have HUP := Lib.hid hup
  clear hup r0 r1 r2 r3
  go_wp2_with fail
  refine HBD.out.mono ?_
  rintro e w4 ⟨rfl, rfl⟩
  go_wp2_with fail
  go_loopw [16, 17] (fun nv iv wr => ∃ (n : Int) (i : Nat), nv = .int .i64 n ∧ iv = .int .i64 i ∧ UpRel L nd to rk n i ∧ Below w4.heap.size w4 wr) (fun _ iv _ => 300 - (intOf iv).toNat)
  case atStart => exact ⟨to, 0, rfl, rfl, HUP.out, Below.refl _ _⟩
  case round =>
    obtain ⟨n, i, rfl, rfl, hu, hb⟩ := hrel
    have HU := Lib.hid hu
    have hil := hu.len hi
    have HBr := Lib.hid (HB3.out.trans (hb.mono HB3.out.size))
    have HB := Lib.hid hb
    have t0 := cell_later hb t0
    have t1 := cell_later hb t1
    have x1 := cell_later hb x1
    have x2 := cell_later hb x2
    have hXr : X < wr.heap.size := Nat.lt_of_lt_of_le hX3 hb.size
    have hkr := (hb.block _ (m_lt HR3.out)).trans HR3.out
    obtain ⟨r0, r1, r2, r3⟩ := rfacts hkr
    have HRr := Lib.hid hkr
    clear hu hb hkr
    have i3 : (i : Int) < 300 := by omega
    by_cases n0 : 0 ≤ n
    · by_cases hx : n = nd
      · have d1 : (n == nd) = true := by simpa using hx
        have HR := Lib.hid (HBAD.out 10 (by
          rw [HME.out, if_neg (by decide), HE2.out, if_neg (by decide), HM.out, if_neg (by decide), if_pos]
          rw [underB_iff]
          rcases HU.out with ⟨q, _⟩ | ⟨_, q, _⟩
          · omega
          · exact q.2 (by subst hx; exact .refl)) (by decide))
        clear hx
        go_wp2_with fail
        rw [HR.out]
        exact rend2 (L' := L) (next' := next) (err := 10) rfl HBr.out (Nat.le_succ _) HRr.out rfl rfl (HOLD.out _ ((HBr.out.setCell (Nat.le_succ _) _).setCell (Nat.le_succ _) _)) (fun k q => Or.inl q)
      · have d1 : (n == nd) = false := by simpa using hx
        have HU2 := Lib.hid (HU.out.step hi HRK.out n0 hx)
        have HAB := Lib.hid (rabove_any wr next n (HOLD.out _ HBr.out) (by omega))
        obtain ⟨A, hA⟩ : ∃ A, aboveT L n = A := ⟨_, rfl⟩
        rw [hA] at HU2 HAB
        clear hx hA
        go_wp2_with fail
        refine HAB.out.mono ?_
        rintro e w5 ⟨rfl, hb5⟩
        have HB5 := Lib.hid (HB.out.trans (hb5.mono HB.out.size))
        clear hb5
        go_wp2_with fail
        exact ⟨⟨A, i + 1, rfl, by go_num, HU2.out, HB5.out⟩, by simp [intOf]; omega⟩
    · have n1 : ¬ 0 ≤ n := n0
      have d1 : decide (0 ≤ n) = false := decide_eq_false n0
      have HNU := Lib.hid (show underB L nd to = false from by
        rw [Bool.eq_false_iff, ne_eq, underB_iff]
        rcases HU.out with ⟨_, q, _⟩ | ⟨q, _⟩
        · exact q
        · exact absurd q n0)
      have HF2 := Lib.hid (rfind_any wr next to as_ (HOLD.out _ HBr.out) hi)
      clear r0 r1 r2 r3
      go_wp2_with fail
      refine HF2.out.mono ?_
      rintro e w5 ⟨rfl, hb5⟩
      have HB5 := Lib.hid (HBr.out.trans (hb5.mono HBr.out.size))
      have t0 := cell_later hb5 t0
      have t1 := cell_later hb5 t1
      have x1 := cell_later hb5 x1
      have x2 := cell_later hb5 x2
      have hX5 : X < w5.heap.size := Nat.lt_of_lt_of_le hXr hb5.size
      have hk5 := (hb5.block _ (m_lt HRr.out)).trans HRr.out
      obtain ⟨r0, r1, r2, r3⟩ := rfacts hk5
      have HR5 := Lib.hid hk5
      clear hk5 hb5
      have hdir : isDirB L to = true := dir_of_list HE2.out
      cases hfe : findE L to as_ with
      | some y =>
        have hfr := findRes_some' hdir hfe
        rw [hfr]
        have HR := Lib.hid (HBAD.out 6 (by
          rw [HME.out, if_neg (by decide), HE2.out, if_neg (by decide), HM.out, if_neg (by decide), HNU.out, if_neg (by decide), hfe]; rfl) (by decide))
        clear hfr hfe hdir
        go_wp2_with fail
        rw [HR.out]
        exact rend2 (L' := L) (next' := next) (err := 6) rfl HB5.out (Nat.le_succ _) HR5.out rfl rfl (HOLD.out _ ((HB5.out.setCell (Nat.le_succ _) _).setCell (Nat.le_succ _) _)) (fun k q => Or.inl q)
      | none =>
        have hfr := findRes_none' hdir hfe
        rw [hfr]
        have HR := Lib.hid (HGOOD.out (by
          rw [HME.out, if_neg (by decide), HE2.out, if_neg (by decide), HM.out, if_neg (by decide), HNU.out, if_neg (by decide), hfe]; rfl))
        clear hfr hfe hdir
        go_wp2_with fail
        have hX0' : X ≠ w.heap.size + 1 := by omega
        have HS := Lib.hid (show ∀ w', Keep (fun k => k = w.heap.size + 1) w5 w' → (w'.cell? ⟨w.heap.size, 0, none⟩ = some (.slice a L.length c) ∧ w'.cell? ⟨w.heap.size, 1, none⟩ = some (.int .i64 next) ∧ w'.cell? ⟨X, 1, none⟩ = some (.int .i64 nd) ∧ w'.cell? ⟨X, 2, none⟩ = some (.bool dr)) from fun w' k =>
          ⟨(World.cell?_of_block (k.block _ (World.block_lt_of_cell? _ _ t0) (by simp))).trans t0, (World.cell?_of_block (k.block _ (World.block_lt_of_cell? _ _ t1) (by simp))).trans t1,
            (World.cell?_of_block (k.block _ (World.block_lt_of_cell? _ _ x1) hX0')).trans x1, (World.cell?_of_block (k.block _ (World.block_lt_of_cell? _ _ x2) hX0')).trans x2⟩)
        have hdl : (dropT L d name).length ≤ 200 := Nat.le_trans (List.length_filter_le _ _) hlen
        have hnx := hi.nx
        have hB5 := m_lt HR5.out
        clear r0 r1 r2 r3
        go_region_held3 (fun w' => w'.cell? ⟨w.heap.size, 0, none⟩ = some (.slice a L.length c) ∧ w'.cell? ⟨w.heap.size, 1, none⟩ = some (.int .i64 next) ∧ w'.cell? ⟨X, 1, none⟩ = some (.int .i64 nd) ∧ w'.cell? ⟨X, 2, none⟩ = some (.bool dr))
          (first | exact HS.out _ ((K7.out.set _ _ _ (Or.inl rfl)).set _ _ _ (Or.inl rfl)) | exact HS.out _ K7.out | exact HS.out _ K6.out | exact HS.out _ ((Keep.refl _ _).drew))
          (first
           | (go_at_call 78
              refine (rdrop_any w5.drew next d name (HOLD.out _ HB5.out.drew) (by omega)).mono ?_
              rintro e w6 ⟨v6, rfl, hr6, hb6⟩
              have HR6 := Lib.hid hr6
              have HB6 := Lib.hid (HB5.out.drew.trans (hb6.mono HB5.out.size))
              have K6 := Lib.hid (show Keep (fun k => k = w.heap.size + 1) w5 w6 from ((Keep.refl _ w5).drew).trans' (Keep.below hb6) (fun i q => Or.inr q))
              have hk6 := (hb6.block _ hB5).trans HR5.out
              obtain ⟨a6, c6, rfl⟩ := hr6.shape
              clear hr6 hb6)
           | (go_at_call 77
              refine (rput_any w6 next to ⟨as_, nd, dr, 0, short⟩ HR6.out.arg (by omega) (by omega) (by omega)).mono ?_
              rintro e w7 ⟨v7, rfl, hr7, hb7⟩
              have HR7 := Lib.hid hr7
              have HB7 := Lib.hid (HB6.out.trans (hb7.mono HB6.out.size))
              have K7 := Lib.hid (K6.out.trans' (Keep.below hb7) (fun i q => Or.inr (Nat.le_trans K6.out.size q)))
              have hk7 := (hb7.block _ (m_lt hk6)).trans hk6
              obtain ⟨r0, r1, r2, r3⟩ := rfacts hk7
              have HK7 := Lib.hid hk7
              obtain ⟨a7, c7, rfl⟩ := hr7.shape
              have hB67 : w5.heap.size ≤ w6.heap.size := K6.out.size
              clear hr7 hb7 hk7 hk6))
        all_goals
          go_wp2_with fail
          rw [HR.out]
          have z : Row EItm w7 w6.heap.size (.slice a7 ((dropT L d name).length + 1) c7) (dropT L d name ++ [⟨to, ⟨as_, nd, dr, next, short⟩⟩]) := by
            have q := HR7.out
            rw [List.length_append] at q
            exact q
          change bodyPost Tryz.prog _ (RPost2 w (.slice a L.length c) (dropT L d name ++ [⟨to, ⟨as_, nd, dr, next, short⟩⟩]) (next + 1) 0) Exit.ret _ _
          refine rend2 (w2 := w7) rfl HB7.out (Nat.le_succ _) HK7.out rfl rfl ?_ (fun k q => Or.inr ⟨Nat.le_trans HB6.out.size (z.ge q), z.lt q⟩)
          exact (z.kept (fun k q => by rw [Below.heap_setCell _ _ _ _ (by have := z.ge q; show k ≠ w.heap.size + 1; omega), Below.heap_setCell _ _ _ _ (by have := z.ge q; show k ≠ w.heap.size + 1; omega)])).arg
end Go.Proofs.YtolilbcpfdnkjaaGreat

/- the reference's tree, by value: Do, Dirs, New. -/
namespace Go.Proofs.YtolilbcpfdnkjaaGreat
open Go.RowKit
set_option linter.unusedSimpArgs false
set_option linter.unusedVariables false
theorem rnew_any (w : World) : Calls Tryz.prog 11 #[] w fun e w' => e = .returned (.agg #[.slice none 0 0, .int .i64 1]) ∧ Below w.heap.size w w' := by
  have hk := m_alloc w (.cells #[.slice none 0 0, .int .i64 0] 29) w.heap.size rfl
  go_enter Tryz.func11, Tryz.ntmps11
  go_wp2_with fail
  exact bodyPost_ret (v := .agg #[.slice none 0 0, .int .i64 1]) (results_cell_row (p := 0) (ty := 29) rfl _ _ w.heap.size 29 _ (0, 0) _ rfl (m_alloc w (.cells #[.slice none 0 0, .int .i64 1] 29) w.heap.size rfl) Tryz.underlying29 rfl rtree_info) rfl ⟨rfl, (Below.refl _ w).alloc (Nat.le_refl _) _⟩
set_option maxRecDepth 100000 in
set_option maxHeartbeats 4000000 in
theorem rdo_any {v : Value} {L : List Itm} (w : World) (next : Int) (o : Op1) (h : Arg EItm w v L) (hv : ∀ k, v.ownBlock = some k → k < w.heap.size) (hi : TInv L next) (hn : next ≤ 1000000) (hk : o.kind < 256) (h1 : o.name.size ≤ maxLen) (h2 : o.as_.size ≤ maxLen) :
    Calls Tryz.prog 14 #[.agg #[v, .int .i64 next], o.val] w (RPost w v (doT L next o)) := by
  obtain ⟨a, c, rfl⟩ := h.shape
  obtain ⟨knd, dir, to, nm, as_, isd, sh⟩ := o
  have k1 := m_old (.cells #[.slice none 0 0, .int .i64 0] 29) (m_old (.cells #[.int .u8 knd, .int .i64 dir, .int .i64 to, .string nm, .string as_, .bool isd, .int .i64 sh] 35) (m_alloc w (.cells #[.slice a L.length c, .int .i64 next] 29) w.heap.size rfl))
  have k2 := m_old (.cells #[.slice none 0 0, .int .i64 0] 29) (m_alloc (w.alloc (.cells #[.slice a L.length c, .int .i64 next] 29)) (.cells #[.int .u8 knd, .int .i64 dir, .int .i64 to, .string nm, .string as_, .bool isd, .int .i64 sh] 35) (w.heap.size + 1) (by simp))
  have k3 := m_alloc ((w.alloc (.cells #[.slice a L.length c, .int .i64 next] 29)).alloc (.cells #[.int .u8 knd, .int .i64 dir, .int .i64 to, .string nm, .string as_, .bool isd, .int .i64 sh] 35)) (.cells #[.slice none 0 0, .int .i64 0] 29) (w.heap.size + 1 + 1) (by simp)
  have hbw : Below w.heap.size w (((w.alloc (.cells #[.slice a L.length c, .int .i64 next] 29)).alloc (.cells #[.int .u8 knd, .int .i64 dir, .int .i64 to, .string nm, .string as_, .bool isd, .int .i64 sh] 35)).alloc (.cells #[.slice none 0 0, .int .i64 0] 29)) := (((Below.refl _ w).alloc (Nat.le_refl _) _).alloc (by simp) _).alloc (by simp; omega) _
  obtain ⟨W, hW⟩ : ∃ W, ((w.alloc (.cells #[.slice a L.length c, .int .i64 next] 29)).alloc (.cells #[.int .u8 knd, .int .i64 dir, .int .i64 to, .string nm, .string as_, .bool isd, .int .i64 sh] 35)).alloc (.cells #[.slice none 0 0, .int .i64 0] 29) = W := ⟨_, rfl⟩
  rw [hW] at k1 k2 k3 hbw
  have t0 : W.cell? ⟨w.heap.size, 0, none⟩ = some (.slice a L.length c) := (m_cells k1).1 0
  have t1 : W.cell? ⟨w.heap.size, 1, none⟩ = some (.int .i64 next) := (m_cells k1).1 1
  have o0 : W.cell? ⟨w.heap.size + 1, 0, none⟩ = some (.int .u8 knd) := (m_cells k2).1 0
  have o1 : W.cell? ⟨w.heap.size + 1, 1, none⟩ = some (.int .i64 dir) := (m_cells k2).1 1
  have o2 : W.cell? ⟨w.heap.size + 1, 2, none⟩ = some (.int .i64 to) := (m_cells k2).1 2
  have o3 : W.cell? ⟨w.heap.size + 1, 3, none⟩ = some (.string nm) := (m_cells k2).1 3
  have o4 : W.cell? ⟨w.heap.size + 1, 4, none⟩ = some (.string as_) := (m_cells k2).1 4
  have o5 : W.cell? ⟨w.heap.size + 1, 5, none⟩ = some (.bool isd) := (m_cells k2).1 5
  have o6 : W.cell? ⟨w.heap.size + 1, 6, none⟩ = some (.int .i64 sh) := (m_cells k2).1 6
  have HBW := Lib.hid hbw
  have HK := Lib.hid k3
  have HV := Lib.hid hv
  have HA := Lib.hid (h.below hbw)
  have hWl : w.heap.size + 1 + 1 < W.heap.size := m_lt k3
  -- the end
  have hfin : ∀ (w1 : World) (v' : Value) (l : List Itm) (nx : Int), Below w.heap.size w w1 → W.heap.size ≤ w1.heap.size → Arg EItm w1 v' l → (∀ k, v'.ownBlock = some k → (Value.slice a L.length c).ownBlock = some k ∨ (W.heap.size ≤ k ∧ k < w1.heap.size)) → Arg EItm ((w1.setCell ⟨w.heap.size + 1 + 1, 0, none⟩ v').setCell ⟨w.heap.size + 1 + 1, 1, none⟩ (.int .i64 nx)) v' l ∧ (∀ k, v'.ownBlock = some k → (Value.slice a L.length c).ownBlock = some k ∨ (w.heap.size ≤ k ∧ k < w1.heap.size)) := by
    intro w1 v' l nx hb hs ha ho
    refine ⟨ha.keep (F := fun k => k = w.heap.size + 1 + 1) (((Keep.refl (fun k => k = w.heap.size + 1 + 1) w1).set (w.heap.size + 1 + 1) _ _ (Or.inl rfl)).set (w.heap.size + 1 + 1) _ _ (Or.inl rfl)) (fun i q e => ?_), fun k q => (ho k q).imp id (fun z => ⟨by omega, z.2⟩)⟩
    subst e
    rcases ho _ q with z | z
    · have := hv _ z; omega
    · omega
  have HFIN := Lib.hid hfin
  clear hbw k1 k2 k3 h hv hfin
  go_enter Tryz.func14, Tryz.ntmps14
  have hc : knd % 3 = 0 ∨ knd % 3 = 1 ∨ knd % 3 = 2 := by omega
  rcases hc with hc | hc | hc
  · have e0 : ((knd : Int) % 3 == 0) = true := by rw [beq_iff_eq]; omega
    have HD := Lib.hid (show doT L next ⟨knd, dir, to, nm, as_, isd, sh⟩ = linkT L next dir nm isd sh from by unfold doT; rw [if_pos hc])
    have HC := Lib.hid (rlink_any W next dir nm isd sh HA.out hi hn h1)
    clear hc
    go_wp2_with fail
    clear hW
    refine HC.out.mono ?_
    rintro e w1 ⟨v', rfl, ha, ho, hb1⟩
    have HB1 := Lib.hid (HBW.out.trans (hb1.mono HBW.out.size))
    have hk1 := (hb1.block _ (m_lt HK.out)).trans HK.out
    obtain ⟨r0, r1, r2, r3⟩ := rfacts hk1
    have HK1 := Lib.hid hk1
    have HE := Lib.hid (HFIN.out w1 v' _ (linkT L next dir nm isd sh).next HB1.out hb1.size ha ho)
    obtain ⟨a', c', rfl⟩ := ha.shape
    generalize linkT L next dir nm isd sh = R at *
    clear hb1 hk1 ha ho HC
    go_wp2_with fail
    rw [HD.out]
    exact rend3 rfl HB1.out (by omega) HK1.out rfl rfl rfl HE.out.1 HE.out.2
  · have e0 : ((knd : Int) % 3 == 0) = false := by rw [beq_eq_false_iff_ne]; omega
    have e1 : ((knd : Int) % 3 == 1) = true := by rw [beq_iff_eq]; omega
    have HD := Lib.hid (show doT L next ⟨knd, dir, to, nm, as_, isd, sh⟩ = ⟨(unlinkT L dir nm isd).1, next, 0, (unlinkT L dir nm isd).2⟩ from by unfold doT; rw [if_neg (by show ¬ knd % 3 = 0; omega), if_pos hc])
    have HC := Lib.hid (runlink_any W next dir nm isd HA.out hi)
    clear hc
    go_wp2_with fail
    clear hW
    refine HC.out.mono ?_
    rintro e w1 ⟨v', rfl, ha, ho, hb1⟩
    have hal := ha.shape
    obtain ⟨a', c', rfl⟩ := hal
    obtain ⟨L2, hL2⟩ : ∃ L2, (unlinkT L dir nm isd).1 = L2 := ⟨_, rfl⟩
    obtain ⟨E2, hE2⟩ : ∃ E2, (unlinkT L dir nm isd).2 = E2 := ⟨_, rfl⟩
    rw [hL2] at ha ho HD ⊢
    rw [hE2] at HD ⊢
    clear hL2 hE2
    have hx1 := m_alloc w1 (.cells #[.slice a' L2.length c', .int .i64 next] 29) w1.heap.size rfl
    have hb2 : Below W.heap.size W (w1.alloc (.cells #[.slice a' L2.length c', .int .i64 next] 29)) := hb1.alloc hb1.size _
    obtain ⟨W2, hW2⟩ : ∃ W2, w1.alloc (.cells #[.slice a' L2.length c', .int .i64 next] 29) = W2 := ⟨_, rfl⟩
    have hbx : Below w1.heap.size w1 W2 := by rw [← hW2]; exact (Below.refl _ w1).alloc (Nat.le_refl _) _
    rw [hW2] at hx1 hb2
    have HB2 := Lib.hid (HBW.out.trans (hb2.mono HBW.out.size))
    have hk2 := (hb2.block _ (m_lt HK.out)).trans HK.out
    obtain ⟨r0, r1, r2, r3⟩ := rfacts hk2
    have HK2 := Lib.hid hk2
    have x0 : W2.cell? ⟨w1.heap.size, 0, none⟩ = some (.slice a' L2.length c') := (m_cells hx1).1 0
    have x1 : W2.cell? ⟨w1.heap.size, 1, none⟩ = some (.int .i64 next) := (m_cells hx1).1 1
    have HE := Lib.hid (HFIN.out W2 (.slice a' L2.length c') L2 next HB2.out hb2.size (ha.below hbx) (fun k q => (ho k q).imp id (fun z => ⟨z.1, Nat.lt_of_lt_of_le z.2 hbx.size⟩)))
    clear hb1 hb2 hk2 ha ho HC hx1 hbx
    go_wp2_with fail
    rw [HD.out]
    change bodyPost Tryz.prog _ (RPost w (.slice a L.length c) ⟨L2, next, 0, E2⟩) Exit.ret _ _
    exact rend3 (w2 := W2) rfl HB2.out (by omega) HK2.out rfl rfl rfl HE.out.1 HE.out.2
  · have e0 : ((knd : Int) % 3 == 0) = false := by rw [beq_eq_false_iff_ne]; omega
    have e1 : ((knd : Int) % 3 == 1) = false := by rw [beq_eq_false_iff_ne]; omega
    have HD := Lib.hid (show doT L next ⟨knd, dir, to, nm, as_, isd, sh⟩ = ⟨(moveT L next dir nm to as_ sh).L, (moveT L next dir nm to as_ sh).next, 0, (moveT L next dir nm to as_ sh).err⟩ from by
      have hm := moveT_node L next dir nm to as_ sh
      unfold doT; rw [if_neg (by show ¬ knd % 3 = 0; omega), if_neg (by show ¬ knd % 3 = 1; omega)]
      show moveT L next dir nm to as_ sh = _
      rw [← hm])
    have HC := Lib.hid (rmove_any W next dir nm to as_ sh HA.out hi hn h2)
    clear hc
    go_wp2_with fail
    clear hW
    refine HC.out.mono ?_
    rintro e w1 ⟨v', rfl, ha, ho, hb1⟩
    have hal := ha.shape
    obtain ⟨a', c', rfl⟩ := hal
    obtain ⟨L2, hL2⟩ : ∃ L2, (moveT L next dir nm to as_ sh).L = L2 := ⟨_, rfl⟩
    obtain ⟨N2, hN2⟩ : ∃ N2, (moveT L next dir nm to as_ sh).next = N2 := ⟨_, rfl⟩
    obtain ⟨E2, hE2⟩ : ∃ E2, (moveT L next dir nm to as_ sh).err = E2 := ⟨_, rfl⟩
    rw [hL2] at ha ho HD ⊢
    rw [hE2] at HD ⊢
    rw [hN2] at HD ⊢
    clear hL2 hE2 hN2
    have hx1 := m_alloc w1 (.cells #[.slice a' L2.length c', .int .i64 N2] 29) w1.heap.size rfl
    have hb2 : Below W.heap.size W (w1.alloc (.cells #[.slice a' L2.length c', .int .i64 N2] 29)) := hb1.alloc hb1.size _
    obtain ⟨W2, hW2⟩ : ∃ W2, w1.alloc (.cells #[.slice a' L2.length c', .int .i64 N2] 29) = W2 := ⟨_, rfl⟩
    have hbx : Below w1.heap.size w1 W2 := by rw [← hW2]; exact (Below.refl _ w1).alloc (Nat.le_refl _) _
    rw [hW2] at hx1 hb2
    have HB2 := Lib.hid (HBW.out.trans (hb2.mono HBW.out.size))
    have hk2 := (hb2.block _ (m_lt HK.out)).trans HK.out
    obtain ⟨r0, r1, r2, r3⟩ := rfacts hk2
    have HK2 := Lib.hid hk2
    have x0 : W2.cell? ⟨w1.heap.size, 0, none⟩ = some (.slice a' L2.length c') := (m_cells hx1).1 0
    have x1 : W2.cell? ⟨w1.heap.size, 1, none⟩ = some (.int .i64 N2) := (m_cells hx1).1 1
    have HE := Lib.hid (HFIN.out W2 (.slice a' L2.length c') L2 N2 HB2.out hb2.size (ha.below hbx) (fun k q => (ho k q).imp id (fun z => ⟨z.1, Nat.lt_of_lt_of_le z.2 hbx.size⟩)))
    clear hb1 hb2 hk2 ha ho HC hx1 hbx
    go_wp2_with fail
    rw [HD.out]
    change bodyPost Tryz.prog _ (RPost w (.slice a L.length c) ⟨L2, N2, 0, E2⟩) Exit.ret _ _
    exact rend3 (w2 := W2) rfl HB2.out (by omega) HK2.out rfl rfl rfl HE.out.1 HE.out.2
end Go.Proofs.YtolilbcpfdnkjaaGreat
