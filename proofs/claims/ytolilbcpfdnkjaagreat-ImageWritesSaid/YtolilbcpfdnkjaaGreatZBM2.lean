/- tree.Make: the maker in memory; must, entry. -/
import Derived.Test.YtolilbcpfdnkjaaGreatZBM1
import Derived.Test.YtolilbcpfdnkjaaGreatZBMapsS
import Derived.Deep.RegionLaw
import Derived.Deep.QuietTactic
import Derived.BigQuiet
namespace Go.Proofs.YtolilbcpfdnkjaaGreat
open Go.RowKit
set_option linter.unusedSimpArgs false
set_option linter.unusedVariables false
/-- What a maker has met. -/
structure MkS where
  nodes : List Int
  cks : List Int
  bad : Bool
def CkMap (w : World) (b : Nat) (l : List Int) : Prop := ∃ C : List (Int × Int), IMap (Value.int .i64) w b C ∧ ∀ k, mget C k = if k ∈ l then some 1 else none
def NmMap (w : World) (b : Nat) (l : List ByteArray) : Prop := ∃ C : List (ByteArray × Int), SMap (Value.int .i64) w b C ∧ ∀ k, sget C k = if k ∈ l then some 1 else none
/-- A maker in memory, all its blocks behind w0. -/
structure MkC (w0 w : World) (gm bd bc : Nat) (nv nm : Value) (cookie : Int) (s : MkS) : Prop where
  blk : w.heap[gm]? = some (.cells #[.int .i64 cookie, .map (some bd), nv, .map (some bc), nm, .bool s.bad] 107 (0, 0))
  row : Row EInt w w0.heap.size nv s.nodes
  cm : CkMap w bc s.cks
  bel : Below w0.heap.size w0 w
  g1 : w0.heap.size ≤ gm
  g2 : w0.heap.size ≤ bc
  g3 : ∀ k, nv.ownBlock = some k → k ≠ gm ∧ k ≠ bc
  g4 : gm ≠ bc
section
variable {w0 w w' : World} {gm bd bc : Nat} {nv nm : Value} {cookie : Int} {s : MkS}
theorem CkMap.keep {b : Nat} {l : List Int} {F : Nat → Prop} (h : CkMap w b l) (k : Keep F w w') (hb : ¬ F b) : CkMap w' b l := by
  obtain ⟨C, h1, h2⟩ := h
  exact ⟨C, h1.keep k hb, h2⟩
theorem NmMap.keep {b : Nat} {l : List ByteArray} {F : Nat → Prop} (h : NmMap w b l) (k : Keep F w w') (hb : ¬ F b) : NmMap w' b l := by
  obtain ⟨C, h1, h2⟩ := h
  exact ⟨C, h1.keep k hb, h2⟩
theorem MkC.keep {F : Nat → Prop} (h : MkC w0 w gm bd bc nv nm cookie s) (k : Keep F w w') (h1 : ¬ F gm) (h2 : ¬ F bc) (h3 : ∀ i, nv.ownBlock = some i → ¬ F i) (h4 : ∀ i, F i → w0.heap.size ≤ i) : MkC w0 w' gm bd bc nv nm cookie s :=
  ⟨m_keep h.blk k h1, h.row.keep k h3, h.cm.keep k h2, h.bel.trans (k.toBelow h.bel.size h4), h.g1, h.g2, h.g3, h.g4⟩
theorem MkC.below (h : MkC w0 w gm bd bc nv nm cookie s) (hb : Below w.heap.size w w') : MkC w0 w' gm bd bc nv nm cookie s := by
  refine h.keep (Keep.below hb) (fun q => ?_) (fun q => ?_) (fun i e q => ?_) (fun i q => Nat.le_trans h.bel.size q)
  · have := m_lt h.blk; omega
  · obtain ⟨C, h1, _⟩ := h.cm
    have := h1.lt; omega
  · have := h.row.lt e; omega
theorem MkC.setBad (h : MkC w0 w gm bd bc nv nm cookie s) (b : Bool) : MkC w0 (w.setCell ⟨gm, 5, none⟩ (.bool b)) gm bd bc nv nm cookie { s with bad := b } := by
  have k : Keep (fun i => i = gm) w (w.setCell ⟨gm, 5, none⟩ (.bool b)) := (Keep.refl _ w).set gm 5 _ (Or.inl rfl)
  exact ⟨m_set h.blk 5 _, h.row.keep k (fun i e q => (h.g3 i e).1 q), h.cm.keep k (fun q => h.g4 q.symm), h.bel.trans (k.toBelow h.bel.size (fun i q => by subst q; exact h.g1)), h.g1, h.g2, h.g3, h.g4⟩
set_option maxRecDepth 100000 in
set_option maxHeartbeats 2000000 in
theorem must_any (ok : Bool) (h : MkC w0 w gm bd bc nv nm cookie s) :
    Calls Tryz.prog 52 #[.pointer (some ⟨gm, 0, none⟩), .bool ok] w fun e w' => e = .returned (.tuple #[]) ∧ MkC w0 w' gm bd bc nv nm cookie { s with bad := s.bad || !ok } ∧ Keep (fun i => i = gm) w w' := by
  have c5 : w.cell? ⟨gm, 5, none⟩ = some (.bool s.bad) := (m_cells h.blk).1 5
  have f5 : w.frozen? ⟨gm, 5, none⟩ = false := (m_cells h.blk).2 5
  have H := Lib.hid (h.setBad (s.bad || !ok))
  have HK := Lib.hid (show Keep (fun i => i = gm) w (w.setCell ⟨gm, 5, none⟩ (.bool (s.bad || !ok))) from (Keep.refl _ w).set gm 5 _ (Or.inl rfl))
  clear h
  obtain ⟨sn, sc, sb⟩ := s
  dsimp only at *
  go_enter Tryz.func52, Tryz.ntmps52
  cases sb <;> cases ok
  all_goals
    go_wp2
    exact bodyPost_end (results_none rfl _ _ _) rfl ⟨rfl, H.out, HK.out⟩
end
section
variable {P : Program} {md : Region.Mode} {ops : Array Oper} {Q : Exit → Act → World → Prop} {S : World → Prop}
/-- An operation of a region whose guard does not hold is passed by. -/
theorem take_off (i d : Nat) {oi : Oper} {fuel : Nat} {listed : Array Bool} {a : Act} {w : World} (hi : ops[i]? = some oi) (hd : oi.dst = some d)
    (hs : Region.noSelect ops = true) (hf : Region.free md ops listed i = true) (hr : (Region.ready md ops listed).contains i = true)
    (hQ : ∀ c a w, Q (.panic c) (a.put (some d) undef) w → Q (.panic c) a w) (hw : Region.wanted oi (yielded ops a.tmps) = false) (hS : S w)
    (h : wpAnyH P md ops Q S fuel (listed.setIfInBounds i true) (a.put (some d) undef) w) : wpAnyH P md ops Q S (fuel + 1) listed a w :=
  wpAnyH_take hi hs hf hr (v := undef) (by rw [hd]; exact hQ) (Or.inr ⟨hw, rfl⟩) hS (by rw [hd]; exact h)
/-- An operation of a region that reads, or reckons, goes first. -/
theorem take_on (i d : Nat) {oi : Oper} {v : Value} {fuel : Nat} {listed : Array Bool} {a : Act} {w : World} (hi : ops[i]? = some oi) (hd : oi.dst = some d)
    (hs : Region.noSelect ops = true) (hf : Region.free md ops listed i = true) (hr : (Region.ready md ops listed).contains i = true)
    (hQ : ∀ c a w, Q (.panic c) (a.put (some d) v) w → Q (.panic c) a w) (hw : Region.wanted oi (yielded ops a.tmps) = true) (hy : ∀ w, S w → (execOp a.eval oi).run P w = .ok (.value v) w) (hS : S w)
    (h : wpAnyH P md ops Q S fuel (listed.setIfInBounds i true) (a.put (some d) v) w) : wpAnyH P md ops Q S (fuel + 1) listed a w :=
  wpAnyH_take hi hs hf hr (by rw [hd]; exact hQ) (Or.inl ⟨hw, hy⟩) hS (by rw [hd]; exact h)
end
def MEntryPost (w0 w : World) (gm bd bc bn : Nat) (nv : Value) (cookie : Int) (s' : MkS) (names' : List ByteArray) (e : Ending) (w' : World) : Prop :=
  ∃ nv', e = .returned (.tuple #[]) ∧ MkC w0 w' gm bd bc nv' (.map (some bn)) cookie s' ∧ NmMap w' bn names' ∧ nv'.ownBlock ≠ some bn ∧ Keep (fun i => i = gm ∨ i = bc ∨ i = bn ∨ nv.ownBlock = some i) w w'
def entOk1 (isKey : Bool) (x : Ent) : Bool := (mayErr x.name x.short == 0) && (decide (1 ≤ x.node) && (decide (x.node ≤ 200) && (isKey == x.dir)))
def entOk2 (cookie : Int) (s : MkS) (names : List ByteArray) (x : Ent) : Bool :=
  decide (1 ≤ x.cookie) && (decide (x.cookie < cookie) && (decide (x.cookie ∉ s.cks) && (decide (x.node ∉ s.nodes) && decide (x.name ∉ names))))
/-- What an entry makes of what has been met. -/
def MkS.entry (cookie : Int) (D : List (Int × DE)) (s : MkS) (names : List ByteArray) (x : Ent) : MkS :=
  ⟨s.nodes ++ [x.node], s.cks ++ [x.cookie], s.bad || !(entOk1 (mget D x.node).isSome x) || !(entOk2 cookie s names x)⟩
theorem mentry_end {w0 w W W1 W3 W8 w9 : World} {gm bd bc bn : Nat} {nv v9 : Value} {cookie : Int} {s3 : MkS} {ns : List Int} {cs : List Int} {names : List ByteArray}
    (h0 : Below w.heap.size w W) (h1 : Below W.heap.size W W1) (h2 : Keep (fun i => i = gm) W1 W3) (h3 : Keep (fun i => i = bc ∨ i = bn) W3 W8) (h4 : Keep (fun k => some k = nv.ownBlock) W8 w9) (hm : MkC w0 W3 gm bd bc nv (.map (some bn)) cookie s3)
    (hr : Row EInt w9 w0.heap.size v9 ns) (hv : ∀ k, v9.ownBlock = some k → nv.ownBlock = some k ∨ W8.heap.size ≤ k) (hg : w9.heap[gm]? = some (.cells #[.int .i64 cookie, .map (some bd), nv, .map (some bc), .map (some bn), .bool s3.bad] 107 (0, 0)))
    (hc : CkMap W8 bc cs) (hn : NmMap W8 bn names) (hbn : bn ≠ gm ∧ bn ≠ bc ∧ nv.ownBlock ≠ some bn ∧ w0.heap.size ≤ bn) :
    MEntryPost w0 w gm bd bc bn nv cookie ⟨ns, cs, s3.bad⟩ names (.returned (.tuple #[])) (w9.setCell ⟨gm, 2, none⟩ v9) := by
  have hlc : bc < W8.heap.size := by obtain ⟨C, z, _⟩ := hc; exact z.lt
  have hln : bn < W8.heap.size := by obtain ⟨C, z, _⟩ := hn; exact z.lt
  have hlg : gm < W8.heap.size := Nat.lt_of_lt_of_le (m_lt hm.blk) h3.size
  have hgn : nv.ownBlock ≠ some gm := fun e => (hm.g3 gm e).1 rfl
  have hcn : nv.ownBlock ≠ some bc := fun e => (hm.g3 bc e).2 rfl
  have k5 : Keep (fun i => i = gm) w9 (w9.setCell ⟨gm, 2, none⟩ v9) := (Keep.refl _ w9).set gm 2 _ (Or.inl rfl)
  have k45 : Keep (fun i => i = gm ∨ nv.ownBlock = some i) W8 (w9.setCell ⟨gm, 2, none⟩ v9) := (h4.mono (fun i q => Or.inl (Or.inr q.symm))).trans (k5.mono (fun i q => Or.inl (Or.inl q)))
  have k35 : Keep (fun i => i = gm ∨ i = bc ∨ i = bn ∨ nv.ownBlock = some i) W3 (w9.setCell ⟨gm, 2, none⟩ v9) := (h3.mono (fun i q => Or.inl (Or.inr (q.imp id Or.inl)))).trans (k45.mono (fun i q => Or.inl (q.imp id (fun z => Or.inr (Or.inr z)))))
  have k15 : Keep (fun i => i = gm ∨ i = bc ∨ i = bn ∨ nv.ownBlock = some i) W1 (w9.setCell ⟨gm, 2, none⟩ v9) := (h2.mono (fun i q => Or.inl (Or.inl q))).trans k35
  refine ⟨v9, rfl, ⟨m_set hg 2 _, hr.keep k5 (fun i e q => ?_), hc.keep k45 (fun q => q.elim (fun e => hm.g4 e.symm) hcn), hm.bel.trans (k35.toBelow hm.bel.size (fun i q => ?_)), hm.g1, hm.g2, fun k e => ?_, hm.g4⟩, hn.keep k45 (fun q => q.elim hbn.1 hbn.2.2.1), fun e => ?_, ?_⟩
  · subst q
    rcases hv i e with z | z
    · exact hgn z
    · omega
  · rcases q with q | q | q | q
    · subst q; exact hm.g1
    · subst q; exact hm.g2
    · subst q; exact hbn.2.2.2
    · exact hm.row.ge q
  · rcases hv k e with z | z
    · exact hm.g3 k z
    · exact ⟨by omega, by omega⟩
  · rcases hv bn e with z | z
    · exact hbn.2.2.1 z
    · omega
  · exact ((((Keep.below h0).mono (fun i q => Or.inr q)).trans' (Keep.below h1) (fun i q => Or.inr (Nat.le_trans h0.size q)))).trans' k15 (fun i q => Or.inl q)
set_option maxRecDepth 100000 in
set_option maxHeartbeats 4000000 in
theorem mentry_any {w0 w : World} {gm bd bc bn : Nat} {nv : Value} {cookie : Int} {s : MkS} {names : List ByteArray} {D : List (Int × DE)} (x : Ent) (h : MkC w0 w gm bd bc nv (.map (some bn)) cookie s) (hD : IMap encDE w0 bd D) (hn : NmMap w bn names) (hbn : bn ≠ gm ∧ bn ≠ bc ∧ nv.ownBlock ≠ some bn ∧ w0.heap.size ≤ bn)
    (hl : s.nodes.length ≤ 1000000) (hs : x.name.size ≤ maxLen) :
    Calls Tryz.prog 86 #[.pointer (some ⟨gm, 0, none⟩), x.val] w (MEntryPost w0 w gm bd bc bn nv cookie (s.entry cookie D names x) (names ++ [x.name])) := by
  obtain ⟨na, nc, rfl⟩ := h.row.shape
  obtain ⟨B, hB⟩ : ∃ B, w.heap.size = B := ⟨_, rfl⟩
  have hbx := m_alloc w (.cells #[.string x.name, .int .i64 x.node, .bool x.dir, .int .i64 x.cookie, .int .i64 x.short] 84 (0, 0)) B hB
  have hb1 : Below w.heap.size w (w.alloc (.cells #[.string x.name, .int .i64 x.node, .bool x.dir, .int .i64 x.cookie, .int .i64 x.short] 84 (0, 0))) := (Below.refl _ w).alloc (Nat.le_refl _) _
  have h1 := h.below hb1
  have hn1 := hn.keep (Keep.below hb1) (fun q => by obtain ⟨C, z, _⟩ := hn; have := z.lt; omega)
  have hgB : gm ≠ B := by have := m_lt h.blk; omega
  have hbnB : bn ≠ B := by obtain ⟨C, z, _⟩ := hn; have := z.lt; omega
  have hbcB : bc ≠ B := by obtain ⟨C, z, _⟩ := h.cm; have := z.lt; omega
  have hnvB : (Value.slice na s.nodes.length nc).ownBlock ≠ some B := fun e => by have := h.row.lt e; omega
  have HB := Lib.hid hB
  have HB0 := Lib.hid hb1
  obtain ⟨W, hW⟩ : ∃ W, w.alloc (.cells #[.string x.name, .int .i64 x.node, .bool x.dir, .int .i64 x.cookie, .int .i64 x.short] 84 (0, 0)) = W := ⟨_, rfl⟩
  rw [hW] at hbx hb1 h1 hn1 HB0
  obtain ⟨ik, hik⟩ : ∃ ik, (mget D x.node).isSome = ik := ⟨_, rfl⟩
  have hlk : ∃ v, ∀ W', Below w0.heap.size w0 W' → (Instr.lookup 53 (.map (some bd)) (.int .i64 x.node) true).run Tryz.prog W' = .ok (.tuple #[v, .bool ik]) W' := by
    cases hm : mget D x.node with
    | none =>
      rw [hm] at hik
      exact ⟨.slice none 0 0, fun W' hb => by
        have := (hD.keep (Keep.below hb) (fun q => by have := hD.lt; omega)).lookup (P := Tryz.prog) Tryz.underlying53 Tryz.underlying3 zero_ents x.node true
        rw [hm] at this; rw [this, ← hik]; rfl⟩
    | some v =>
      rw [hm] at hik
      exact ⟨encDE v, fun W' hb => by
        have := (hD.keep (Keep.below hb) (fun q => by have := hD.lt; omega)).lookup (P := Tryz.prog) Tryz.underlying53 Tryz.underlying3 zero_ents x.node true
        rw [hm] at this; rw [this, ← hik]; rfl⟩
  obtain ⟨lv, hlk⟩ := hlk
  have c0 : W.cell? ⟨gm, 0, none⟩ = some (.int .i64 cookie) := (m_cells h1.blk).1 0
  have c1 : W.cell? ⟨gm, 1, none⟩ = some (.map (some bd)) := (m_cells h1.blk).1 1
  have x0 : W.cell? ⟨B, 0, none⟩ = some (.string x.name) := (m_cells hbx).1 0
  have x1 : W.cell? ⟨B, 1, none⟩ = some (.int .i64 x.node) := (m_cells hbx).1 1
  have x2 : W.cell? ⟨B, 2, none⟩ = some (.bool x.dir) := (m_cells hbx).1 2
  have x3 : W.cell? ⟨B, 3, none⟩ = some (.int .i64 x.cookie) := (m_cells hbx).1 3
  have x4 : W.cell? ⟨B, 4, none⟩ = some (.int .i64 x.short) := (m_cells hbx).1 4
  have H1 := Lib.hid h1
  have HN1 := Lib.hid hn1
  have HBX := Lib.hid hbx
  have HIK := Lib.hid hik
  have HS1 := Lib.hid (show ∀ w', Below W.heap.size W w' → (w'.cell? ⟨gm, 1, none⟩ = some (.map (some bd)) ∧ w'.cell? ⟨B, 1, none⟩ = some (.int .i64 x.node) ∧ (Instr.lookup 53 (.map (some bd)) (.int .i64 x.node) true).run Tryz.prog w' = .ok (.tuple #[lv, .bool ik]) w') from fun w' k => ⟨cell_later k c1, cell_later k x1, hlk w' (h1.bel.trans (k.mono h1.bel.size))⟩)
  clear h hn h1 hn1 hbx hb1 hB hlk hik
  go_enter Tryz.func86, Tryz.ntmps86
  go_wp2_with fail
  rw [HB.out]
  go_cut [5] from 1000 (fun s5 wx => s5 = .bool ik ∧ Below W.heap.size W wx ∧ W.heap.size = wx.heap.size)
  case first =>
    go_region_held3 (fun w' => w'.cell? ⟨gm, 1, none⟩ = some (.map (some bd)) ∧ w'.cell? ⟨B, 1, none⟩ = some (.int .i64 x.node) ∧ (Instr.lookup 53 (.map (some bd)) (.int .i64 x.node) true).run Tryz.prog w' = .ok (.tuple #[lv, .bool ik]) w')
      (first | exact HS1.out _ (show Below W.heap.size W _ from (by repeat (first | exact Below.refl _ _ | assumption | (refine Below.drew ?_) | (refine below_drewN ?_ _) | (refine Below.alloc ?_ (by simp; done) _) | (refine Below.alloc ?_ (by simp; omega) _)))))
      (fail)
    all_goals
      go_wp2
      go_meet
      case rel => exact ⟨rfl, ⟨rfl, rfl, rfl, Nat.le_refl _, fun _ _ => rfl⟩, rfl⟩
  case rest =>
    rename World => W1
    obtain ⟨rfl, hbw, hsz⟩ := hcut
    have c0 := cell_later hbw c0
    have x0 := cell_later hbw x0
    have x1 := cell_later hbw x1
    have x2 := cell_later hbw x2
    have x3 := cell_later hbw x3
    have x4 := cell_later hbw x4
    have H2 := Lib.hid (H1.out.below hbw)
    have HN2 := Lib.hid (HN1.out.keep (Keep.below hbw) (fun q => by obtain ⟨C, z, _⟩ := HN1.out; have := z.lt; omega))
    have HBX2 := Lib.hid ((hbw.block B (m_lt HBX.out)).trans HBX.out)
    have HBW1 := Lib.hid hbw
    clear hbw hsz c1 HS1 H1 HN1 HBX hW
    go_step
    go_step
    go_cut [5] from 1000 (fun s5 wx => s5 = .bool ik ∧ MkC w0 wx gm bd bc (.slice na s.nodes.length nc) (.map (some bn)) cookie { s with bad := s.bad || !(entOk1 ik x) } ∧ Keep (fun i => i = gm) W1 wx)
    case first =>
      have HMAY := Lib.hid (fun W => tmay_any x.name x.short W hs)
      have hent : entOk1 ik x = ((mayErr x.name x.short == 0) && (decide (1 ≤ x.node) && (decide (x.node ≤ 200) && (ik == x.dir)))) := rfl
      obtain ⟨M, hM⟩ : ∃ M, mayErr x.name x.short = M := ⟨_, rfl⟩
      rw [hM] at HMAY hent
      have HENT := Lib.hid hent
      clear hM hent
      go_wp2_with fail
      refine (HMAY.out _).mono ?_
      rintro e w3 ⟨rfl, hb3⟩
      have H3 := Lib.hid (H2.out.below hb3)
      have HB3 := Lib.hid hb3
      have x1 := cell_later hb3 x1
      have x2 := cell_later hb3 x2
      clear hb3 HMAY
      cases e1 : (M == 0)
      · have HE1 := Lib.hid e1
        go_wp2_with fail
        refine (must_any false H3.out).mono ?_
        rintro e w4 ⟨rfl, hm4, hk4⟩
        have HM4 := Lib.hid hm4
        have HK4 := Lib.hid hk4
        clear hm4 hk4
        go_wp2_with fail
        go_meet
        case rel =>
          refine ⟨rfl, ?_, ((Keep.below HB3.out).mono (fun i q => Or.inr q)).trans HK4.out⟩
          have h := HM4.out
          have e0 : entOk1 ik x = false := by rw [HENT.out, HE1.out, Bool.false_and]
          rw [e0]
          exact h
      · have HE1 := Lib.hid e1
        cases e2 : decide (1 ≤ x.node)
        · have HE2 := Lib.hid e2
          go_wp2_with fail
          refine (must_any false H3.out).mono ?_
          rintro e w4 ⟨rfl, hm4, hk4⟩
          have HM4 := Lib.hid hm4
          have HK4 := Lib.hid hk4
          clear hm4 hk4
          go_wp2_with fail
          go_meet
          case rel =>
            refine ⟨rfl, ?_, ((Keep.below HB3.out).mono (fun i q => Or.inr q)).trans HK4.out⟩
            have h := HM4.out
            have e0 : entOk1 ik x = false := by rw [HENT.out, HE1.out, HE2.out, Bool.true_and, Bool.false_and]
            rw [e0]
            exact h
        · have HE2 := Lib.hid e2
          cases e3 : decide (x.node ≤ 200)
          · have HE3 := Lib.hid e3
            go_wp2_with fail
            refine (must_any false H3.out).mono ?_
            rintro e w4 ⟨rfl, hm4, hk4⟩
            have HM4 := Lib.hid hm4
            have HK4 := Lib.hid hk4
            clear hm4 hk4
            go_wp2_with fail
            go_meet
            case rel =>
              refine ⟨rfl, ?_, ((Keep.below HB3.out).mono (fun i q => Or.inr q)).trans HK4.out⟩
              have h := HM4.out
              have e0 : entOk1 ik x = false := by rw [HENT.out, HE1.out, HE2.out, HE3.out, Bool.true_and, Bool.true_and, Bool.false_and]
              rw [e0]
              exact h
          · have HE3 := Lib.hid e3
            go_wp2_with fail
            refine (must_any (ik == x.dir) H3.out).mono ?_
            rintro e w4 ⟨rfl, hm4, hk4⟩
            have HM4 := Lib.hid hm4
            have HK4 := Lib.hid hk4
            clear hm4 hk4
            go_wp2_with fail
            go_meet
            case rel =>
              refine ⟨rfl, ?_, ((Keep.below HB3.out).mono (fun i q => Or.inr q)).trans HK4.out⟩
              have h := HM4.out
              have e0 : entOk1 ik x = (ik == x.dir) := by rw [HENT.out, HE1.out, HE2.out, HE3.out, Bool.true_and, Bool.true_and, Bool.true_and]
              rw [e0]
              exact h
    case rest =>
      rename World => W2
      obtain ⟨rfl, hm2, hk2⟩ := hcut
      have hbx3 := m_keep HBX2.out hk2 (fun q => hgB q.symm)
      have HBX3 := Lib.hid hbx3
      have HN3 := Lib.hid (HN2.out.keep hk2 (fun q => hbn.1 q))
      have HM2 := Lib.hid hm2
      have HK2 := Lib.hid hk2
      obtain ⟨C, hC, hCk⟩ := hm2.cm
      obtain ⟨N, hN, hNk⟩ := HN3.out
      have hlc : ∀ w', Keep (fun i => i = gm) W2 w' → (Instr.lookup 104 (.map (some bc)) (.int .i64 x.cookie) false).run Tryz.prog w' = .ok (.int .i64 (if x.cookie ∈ s.cks then 1 else 0)) w' := fun w' k => by
        have := (hC.keep k (fun q => hm2.g4 q.symm)).lookup (P := Tryz.prog) Tryz.underlying104 Tryz.underlying2 zero_int x.cookie false
        rw [hCk] at this
        rw [this]
        by_cases e : x.cookie ∈ s.cks
        · rw [if_pos e, if_pos e]; rfl
        · rw [if_neg e, if_neg e]; rfl
      have hln : ∀ w', Keep (fun i => i = gm) W2 w' → (Instr.lookup 105 (.map (some bn)) (.string x.name) false).run Tryz.prog w' = .ok (.int .i64 (if x.name ∈ names then 1 else 0)) w' := fun w' k => by
        have := (hN.keep k (fun q => hbn.1 q)).lookup (P := Tryz.prog) Tryz.underlying105 Tryz.underlying9 zero_int x.name false
        rw [hNk] at this
        rw [this]
        by_cases e : x.name ∈ names
        · rw [if_pos e, if_pos e]; rfl
        · rw [if_neg e, if_neg e]; rfl
      have hc0 : ∀ w' b, MkC w0 w' gm bd bc (.slice na s.nodes.length nc) (.map (some bn)) cookie { s with bad := b } → Keep (fun i => i = gm) W2 w' → (w'.cell? ⟨gm, 0, none⟩ = some (.int .i64 cookie) ∧ w'.cell? ⟨gm, 2, none⟩ = some (.slice na s.nodes.length nc) ∧ w'.cell? ⟨gm, 3, none⟩ = some (.map (some bc)) ∧ w'.cell? ⟨gm, 4, none⟩ = some (.map (some bn)) ∧ w'.cell? ⟨B, 0, none⟩ = some (.string x.name) ∧ w'.cell? ⟨B, 1, none⟩ = some (.int .i64 x.node) ∧ w'.cell? ⟨B, 3, none⟩ = some (.int .i64 x.cookie)) := fun w' b hm k =>
        ⟨(m_cells hm.blk).1 0, (m_cells hm.blk).1 2, (m_cells hm.blk).1 3, (m_cells hm.blk).1 4, (m_cells (m_keep hbx3 k (fun q => hgB q.symm))).1 0, (m_cells (m_keep hbx3 k (fun q => hgB q.symm))).1 1, (m_cells (m_keep hbx3 k (fun q => hgB q.symm))).1 3⟩
      have HC0 := Lib.hid hc0
      have HLC := Lib.hid hlc
      have HLN := Lib.hid hln
      clear hk2 hm2 HN2 H2 HBX2 c0 x0 x1 x2 x3 x4 hbx3 hC hCk hN hNk hlc hln hc0
      go_step
      go_step
      go_cut [5] from 1000 (fun s5 wx => MkC w0 wx gm bd bc (.slice na s.nodes.length nc) (.map (some bn)) cookie { s with bad := s.bad || !(entOk1 ik x) || !(entOk2 cookie s names x) } ∧ Keep (fun i => i = gm) W2 wx)
      case first =>
        cases d1 : decide ((1 : Int) ≤ x.cookie)
        · have D1 := Lib.hid d1
          have HS := Lib.hid (show ∀ w' b, MkC w0 w' gm bd bc (.slice na s.nodes.length nc) (.map (some bn)) cookie { s with bad := b } → Keep (fun i => i = gm) W2 w' → (w'.cell? ⟨gm, 0, none⟩ = some (.int .i64 cookie) ∧ w'.cell? ⟨gm, 2, none⟩ = some (.slice na s.nodes.length nc) ∧ w'.cell? ⟨gm, 3, none⟩ = some (.map (some bc)) ∧ w'.cell? ⟨gm, 4, none⟩ = some (.map (some bn)) ∧ w'.cell? ⟨B, 0, none⟩ = some (.string x.name) ∧ w'.cell? ⟨B, 1, none⟩ = some (.int .i64 x.node) ∧ w'.cell? ⟨B, 3, none⟩ = some (.int .i64 x.cookie) ∧ (Instr.lookup 104 (.map (some bc)) (.int .i64 x.cookie) false).run Tryz.prog w' = .ok (.int .i64 (if x.cookie ∈ s.cks then 1 else 0)) w' ∧ (Instr.lookup 105 (.map (some bn)) (.string x.name) false).run Tryz.prog w' = .ok (.int .i64 (if x.name ∈ names then 1 else 0)) w') from fun w' b hm k => by
            obtain ⟨z0, z2, z3, z4, y0, y1, y3⟩ := HC0.out w' b hm k
            have zc := HLC.out w' k
            have zn := HLN.out w' k
            exact ⟨z0, z2, z3, z4, y0, y1, y3, zc, zn⟩)
          refine wp_region_held_drew (S := fun w' => w'.cell? ⟨gm, 0, none⟩ = some (.int .i64 cookie) ∧ w'.cell? ⟨gm, 2, none⟩ = some (.slice na s.nodes.length nc) ∧ w'.cell? ⟨gm, 3, none⟩ = some (.map (some bc)) ∧ w'.cell? ⟨gm, 4, none⟩ = some (.map (some bn)) ∧ w'.cell? ⟨B, 0, none⟩ = some (.string x.name) ∧ w'.cell? ⟨B, 1, none⟩ = some (.int .i64 x.node) ∧ w'.cell? ⟨B, 3, none⟩ = some (.int .i64 x.cookie) ∧ (Instr.lookup 104 (.map (some bc)) (.int .i64 x.cookie) false).run Tryz.prog w' = .ok (.int .i64 (if x.cookie ∈ s.cks then 1 else 0)) w' ∧ (Instr.lookup 105 (.map (some bn)) (.string x.name) false).run Tryz.prog w' = .ok (.int .i64 (if x.name ∈ names then 1 else 0)) w') (by kernel_rfl) (HS.out _ _ (HM2.out.below (Below.refl _ W2).drew) (Keep.refl _ W2).drew) (fun hHeld => ?_)
          refine take_on 0 40 (v := ?vg0) rfl rfl (by kernel_rfl) (by kernel_rfl) (by kernel_rfl) (fun _ _ _ h => h) (by rfl) ?hyg0 (by assumption) ?restg0
          case hyg0 =>
            intro w hSw
            (try dsimp only at hSw)
            go_simp
            try with_reducible rfl
          try simp only [Act.put, List.setIfInBounds_toArray, List.set_cons_zero, List.set_cons_succ]
          refine take_on 1 41 (v := ?vg1) rfl rfl (by kernel_rfl) (by kernel_rfl) (by kernel_rfl) (fun _ _ _ h => h) (by rfl) ?hyg1 (by assumption) ?restg1
          case hyg1 =>
            intro w hSw
            (try dsimp only at hSw)
            go_simp
            try with_reducible rfl
          try simp only [Act.put, List.setIfInBounds_toArray, List.set_cons_zero, List.set_cons_succ]
          refine take_on 2 42 (v := ?vg2) rfl rfl (by kernel_rfl) (by kernel_rfl) (by kernel_rfl) (fun _ _ _ h => h) (by rfl) ?hyg2 (by assumption) ?restg2
          case hyg2 =>
            intro w hSw
            (try dsimp only at hSw)
            go_simp
            try with_reducible rfl
          try simp only [Act.put, List.setIfInBounds_toArray, List.set_cons_zero, List.set_cons_succ]
          refine take_on 3 43 (v := ?vg3) rfl rfl (by kernel_rfl) (by kernel_rfl) (by kernel_rfl) (fun _ _ _ h => h) (by rfl) ?hyg3 (by assumption) ?restg3
          case hyg3 =>
            intro w hSw
            (try dsimp only at hSw)
            go_simp
            try with_reducible rfl
          try simp only [Act.put, List.setIfInBounds_toArray, List.set_cons_zero, List.set_cons_succ]
          refine take_on 4 44 (v := ?vg4) rfl rfl (by kernel_rfl) (by kernel_rfl) (by kernel_rfl) (fun _ _ _ h => h) (by rfl) ?hyg4 (by assumption) ?restg4
          case hyg4 =>
            intro w hSw
            (try dsimp only at hSw)
            go_simp
            try with_reducible rfl
          try simp only [Act.put, List.setIfInBounds_toArray, List.set_cons_zero, List.set_cons_succ]
          refine take_off 5 45 rfl rfl (by kernel_rfl) (by kernel_rfl) (by kernel_rfl) (fun _ _ _ h => h) (by rfl) (by assumption) ?_
          try simp only [Act.put, List.setIfInBounds_toArray, List.set_cons_zero, List.set_cons_succ]
          refine take_off 6 46 rfl rfl (by kernel_rfl) (by kernel_rfl) (by kernel_rfl) (fun _ _ _ h => h) (by rfl) (by assumption) ?_
          try simp only [Act.put, List.setIfInBounds_toArray, List.set_cons_zero, List.set_cons_succ]
          refine take_off 7 47 rfl rfl (by kernel_rfl) (by kernel_rfl) (by kernel_rfl) (fun _ _ _ h => h) (by rfl) (by assumption) ?_
          try simp only [Act.put, List.setIfInBounds_toArray, List.set_cons_zero, List.set_cons_succ]
          refine take_off 8 48 rfl rfl (by kernel_rfl) (by kernel_rfl) (by kernel_rfl) (fun _ _ _ h => h) (by rfl) (by assumption) ?_
          try simp only [Act.put, List.setIfInBounds_toArray, List.set_cons_zero, List.set_cons_succ]
          refine take_off 9 49 rfl rfl (by kernel_rfl) (by kernel_rfl) (by kernel_rfl) (fun _ _ _ h => h) (by rfl) (by assumption) ?_
          try simp only [Act.put, List.setIfInBounds_toArray, List.set_cons_zero, List.set_cons_succ]
          refine take_off 10 50 rfl rfl (by kernel_rfl) (by kernel_rfl) (by kernel_rfl) (fun _ _ _ h => h) (by rfl) (by assumption) ?_
          try simp only [Act.put, List.setIfInBounds_toArray, List.set_cons_zero, List.set_cons_succ]
          refine take_off 11 51 rfl rfl (by kernel_rfl) (by kernel_rfl) (by kernel_rfl) (fun _ _ _ h => h) (by rfl) (by assumption) ?_
          try simp only [Act.put, List.setIfInBounds_toArray, List.set_cons_zero, List.set_cons_succ]
          refine take_on 12 52 (v := ?vg12) rfl rfl (by kernel_rfl) (by kernel_rfl) (by kernel_rfl) (fun _ _ _ h => h) (by rfl) ?hyg12 (by assumption) ?restg12
          case hyg12 =>
            intro w hSw
            (try dsimp only at hSw)
            go_simp
            try with_reducible rfl
          try simp only [Act.put, List.setIfInBounds_toArray, List.set_cons_zero, List.set_cons_succ]
          refine take_on 13 53 (v := ?vg13) rfl rfl (by kernel_rfl) (by kernel_rfl) (by kernel_rfl) (fun _ _ _ h => h) (by rfl) ?hyg13 (by assumption) ?restg13
          case hyg13 =>
            intro w hSw
            (try dsimp only at hSw)
            go_simp
            try with_reducible rfl
          try simp only [Act.put, List.setIfInBounds_toArray, List.set_cons_zero, List.set_cons_succ]
          refine take_off 14 54 rfl rfl (by kernel_rfl) (by kernel_rfl) (by kernel_rfl) (fun _ _ _ h => h) (by rfl) (by assumption) ?_
          try simp only [Act.put, List.setIfInBounds_toArray, List.set_cons_zero, List.set_cons_succ]
          refine take_off 15 55 rfl rfl (by kernel_rfl) (by kernel_rfl) (by kernel_rfl) (fun _ _ _ h => h) (by rfl) (by assumption) ?_
          try simp only [Act.put, List.setIfInBounds_toArray, List.set_cons_zero, List.set_cons_succ]
          refine take_off 16 56 rfl rfl (by kernel_rfl) (by kernel_rfl) (by kernel_rfl) (fun _ _ _ h => h) (by rfl) (by assumption) ?_
          try simp only [Act.put, List.setIfInBounds_toArray, List.set_cons_zero, List.set_cons_succ]
          refine take_off 17 57 rfl rfl (by kernel_rfl) (by kernel_rfl) (by kernel_rfl) (fun _ _ _ h => h) (by rfl) (by assumption) ?_
          try simp only [Act.put, List.setIfInBounds_toArray, List.set_cons_zero, List.set_cons_succ]
          refine take_off 18 58 rfl rfl (by kernel_rfl) (by kernel_rfl) (by kernel_rfl) (fun _ _ _ h => h) (by rfl) (by assumption) ?_
          try simp only [Act.put, List.setIfInBounds_toArray, List.set_cons_zero, List.set_cons_succ]
          refine take_off 19 59 rfl rfl (by kernel_rfl) (by kernel_rfl) (by kernel_rfl) (fun _ _ _ h => h) (by rfl) (by assumption) ?_
          try simp only [Act.put, List.setIfInBounds_toArray, List.set_cons_zero, List.set_cons_succ]
          refine take_off 20 60 rfl rfl (by kernel_rfl) (by kernel_rfl) (by kernel_rfl) (fun _ _ _ h => h) (by rfl) (by assumption) ?_
          try simp only [Act.put, List.setIfInBounds_toArray, List.set_cons_zero, List.set_cons_succ]
          refine take_off 21 61 rfl rfl (by kernel_rfl) (by kernel_rfl) (by kernel_rfl) (fun _ _ _ h => h) (by rfl) (by assumption) ?_
          try simp only [Act.put, List.setIfInBounds_toArray, List.set_cons_zero, List.set_cons_succ]
          refine take_on 22 62 (v := ?vg22) rfl rfl (by kernel_rfl) (by kernel_rfl) (by kernel_rfl) (fun _ _ _ h => h) (by rfl) ?hyg22 (by assumption) ?restg22
          case hyg22 =>
            intro w hSw
            (try dsimp only at hSw)
            go_simp
            try with_reducible rfl
          try simp only [Act.put, List.setIfInBounds_toArray, List.set_cons_zero, List.set_cons_succ]
          refine take_on 23 63 (v := ?vg23) rfl rfl (by kernel_rfl) (by kernel_rfl) (by kernel_rfl) (fun _ _ _ h => h) (by rfl) ?hyg23 (by assumption) ?restg23
          case hyg23 =>
            intro w hSw
            (try dsimp only at hSw)
            go_simp
            try with_reducible rfl
          try simp only [Act.put, List.setIfInBounds_toArray, List.set_cons_zero, List.set_cons_succ]
          refine take_off 24 64 rfl rfl (by kernel_rfl) (by kernel_rfl) (by kernel_rfl) (fun _ _ _ h => h) (by rfl) (by assumption) ?_
          try simp only [Act.put, List.setIfInBounds_toArray, List.set_cons_zero, List.set_cons_succ]
          refine take_off 25 65 rfl rfl (by kernel_rfl) (by kernel_rfl) (by kernel_rfl) (fun _ _ _ h => h) (by rfl) (by assumption) ?_
          try simp only [Act.put, List.setIfInBounds_toArray, List.set_cons_zero, List.set_cons_succ]
          refine take_off 26 66 rfl rfl (by kernel_rfl) (by kernel_rfl) (by kernel_rfl) (fun _ _ _ h => h) (by rfl) (by assumption) ?_
          try simp only [Act.put, List.setIfInBounds_toArray, List.set_cons_zero, List.set_cons_succ]
          refine take_off 27 67 rfl rfl (by kernel_rfl) (by kernel_rfl) (by kernel_rfl) (fun _ _ _ h => h) (by rfl) (by assumption) ?_
          try simp only [Act.put, List.setIfInBounds_toArray, List.set_cons_zero, List.set_cons_succ]
          refine take_off 28 68 rfl rfl (by kernel_rfl) (by kernel_rfl) (by kernel_rfl) (fun _ _ _ h => h) (by rfl) (by assumption) ?_
          try simp only [Act.put, List.setIfInBounds_toArray, List.set_cons_zero, List.set_cons_succ]
          refine take_off 29 69 rfl rfl (by kernel_rfl) (by kernel_rfl) (by kernel_rfl) (fun _ _ _ h => h) (by rfl) (by assumption) ?_
          try simp only [Act.put, List.setIfInBounds_toArray, List.set_cons_zero, List.set_cons_succ]
          refine take_off 30 70 rfl rfl (by kernel_rfl) (by kernel_rfl) (by kernel_rfl) (fun _ _ _ h => h) (by rfl) (by assumption) ?_
          try simp only [Act.put, List.setIfInBounds_toArray, List.set_cons_zero, List.set_cons_succ]
          refine take_off 31 71 rfl rfl (by kernel_rfl) (by kernel_rfl) (by kernel_rfl) (fun _ _ _ h => h) (by rfl) (by assumption) ?_
          try simp only [Act.put, List.setIfInBounds_toArray, List.set_cons_zero, List.set_cons_succ]
          refine take_on 32 72 (v := ?vg32) rfl rfl (by kernel_rfl) (by kernel_rfl) (by kernel_rfl) (fun _ _ _ h => h) (by rfl) ?hyg32 (by assumption) ?restg32
          case hyg32 =>
            intro w hSw
            (try dsimp only at hSw)
            go_simp
            try with_reducible rfl
          try simp only [Act.put, List.setIfInBounds_toArray, List.set_cons_zero, List.set_cons_succ]
          refine take_on 33 73 (v := ?vg33) rfl rfl (by kernel_rfl) (by kernel_rfl) (by kernel_rfl) (fun _ _ _ h => h) (by rfl) ?hyg33 (by assumption) ?restg33
          case hyg33 =>
            intro w hSw
            (try dsimp only at hSw)
            go_simp
            try with_reducible rfl
          try simp only [Act.put, List.setIfInBounds_toArray, List.set_cons_zero, List.set_cons_succ]
          refine take_off 34 74 rfl rfl (by kernel_rfl) (by kernel_rfl) (by kernel_rfl) (fun _ _ _ h => h) (by rfl) (by assumption) ?_
          try simp only [Act.put, List.setIfInBounds_toArray, List.set_cons_zero, List.set_cons_succ]
          refine take_off 35 75 rfl rfl (by kernel_rfl) (by kernel_rfl) (by kernel_rfl) (fun _ _ _ h => h) (by rfl) (by assumption) ?_
          try simp only [Act.put, List.setIfInBounds_toArray, List.set_cons_zero, List.set_cons_succ]
          refine take_off 36 76 rfl rfl (by kernel_rfl) (by kernel_rfl) (by kernel_rfl) (fun _ _ _ h => h) (by rfl) (by assumption) ?_
          try simp only [Act.put, List.setIfInBounds_toArray, List.set_cons_zero, List.set_cons_succ]
          refine take_off 37 77 rfl rfl (by kernel_rfl) (by kernel_rfl) (by kernel_rfl) (fun _ _ _ h => h) (by rfl) (by assumption) ?_
          try simp only [Act.put, List.setIfInBounds_toArray, List.set_cons_zero, List.set_cons_succ]
          refine take_off 38 78 rfl rfl (by kernel_rfl) (by kernel_rfl) (by kernel_rfl) (fun _ _ _ h => h) (by rfl) (by assumption) ?_
          try simp only [Act.put, List.setIfInBounds_toArray, List.set_cons_zero, List.set_cons_succ]
          refine take_off 39 79 rfl rfl (by kernel_rfl) (by kernel_rfl) (by kernel_rfl) (fun _ _ _ h => h) (by rfl) (by assumption) ?_
          try simp only [Act.put, List.setIfInBounds_toArray, List.set_cons_zero, List.set_cons_succ]
          refine take_off 40 80 rfl rfl (by kernel_rfl) (by kernel_rfl) (by kernel_rfl) (fun _ _ _ h => h) (by rfl) (by assumption) ?_
          try simp only [Act.put, List.setIfInBounds_toArray, List.set_cons_zero, List.set_cons_succ]
          refine take_off 41 81 rfl rfl (by kernel_rfl) (by kernel_rfl) (by kernel_rfl) (fun _ _ _ h => h) (by rfl) (by assumption) ?_
          try simp only [Act.put, List.setIfInBounds_toArray, List.set_cons_zero, List.set_cons_succ]
          refine take_on 42 82 (v := ?vg42) rfl rfl (by kernel_rfl) (by kernel_rfl) (by kernel_rfl) (fun _ _ _ h => h) (by rfl) ?hyg42 (by assumption) ?restg42
          case hyg42 =>
            intro w hSw
            (try dsimp only at hSw)
            go_simp
            try with_reducible rfl
          try simp only [Act.put, List.setIfInBounds_toArray, List.set_cons_zero, List.set_cons_succ]
          refine wpAnyH_ready (rs := [43]) (by kernel_rfl) (by simp) ?_
          refine AllReadyH.cons rfl (fun K hK => ?_) AllReadyH.nil
          go_simp
          refine (must_any false (HM2.out.below (Below.refl _ W2).drew)).mono ?_
          rintro e w6 ⟨rfl, hm6, hk6⟩
          have HM6 := Lib.hid hm6
          have HK7 := Lib.hid (show Keep (fun i => i = gm) W2 w6 from ((Keep.below (Below.refl _ W2).drew).mono (fun i q => Or.inr q)).trans hk6)
          have hS6 := HS.out w6 _ HM6.out HK7.out
          clear hm6 hk6
          simp only []
          refine hK.out _ _ hS6 (fun hHeld => ?_)
          clear hK K
          try simp only [Act.put, List.setIfInBounds_toArray, List.set_cons_zero, List.set_cons_succ]
          refine wpAnyH_done (by kernel_rfl) ?_ _
          go_wp2
          go_meet
          case rel =>
            refine ⟨?_, HK7.out⟩
            have h := HM6.out
            have e0 : entOk2 cookie s names x = false := by
              unfold entOk2
              rw [D1.out]; rfl
            rw [e0]
            exact h
        · have D1 := Lib.hid d1
          cases d2 : decide (x.cookie < cookie)
          · have D2 := Lib.hid d2
            have HS := Lib.hid (show ∀ w' b, MkC w0 w' gm bd bc (.slice na s.nodes.length nc) (.map (some bn)) cookie { s with bad := b } → Keep (fun i => i = gm) W2 w' → (w'.cell? ⟨gm, 0, none⟩ = some (.int .i64 cookie) ∧ w'.cell? ⟨gm, 2, none⟩ = some (.slice na s.nodes.length nc) ∧ w'.cell? ⟨gm, 3, none⟩ = some (.map (some bc)) ∧ w'.cell? ⟨gm, 4, none⟩ = some (.map (some bn)) ∧ w'.cell? ⟨B, 0, none⟩ = some (.string x.name) ∧ w'.cell? ⟨B, 1, none⟩ = some (.int .i64 x.node) ∧ w'.cell? ⟨B, 3, none⟩ = some (.int .i64 x.cookie) ∧ (Instr.lookup 104 (.map (some bc)) (.int .i64 x.cookie) false).run Tryz.prog w' = .ok (.int .i64 (if x.cookie ∈ s.cks then 1 else 0)) w' ∧ (Instr.lookup 105 (.map (some bn)) (.string x.name) false).run Tryz.prog w' = .ok (.int .i64 (if x.name ∈ names then 1 else 0)) w') from fun w' b hm k => by
              obtain ⟨z0, z2, z3, z4, y0, y1, y3⟩ := HC0.out w' b hm k
              have zc := HLC.out w' k
              have zn := HLN.out w' k
              exact ⟨z0, z2, z3, z4, y0, y1, y3, zc, zn⟩)
            refine wp_region_held_drew (S := fun w' => w'.cell? ⟨gm, 0, none⟩ = some (.int .i64 cookie) ∧ w'.cell? ⟨gm, 2, none⟩ = some (.slice na s.nodes.length nc) ∧ w'.cell? ⟨gm, 3, none⟩ = some (.map (some bc)) ∧ w'.cell? ⟨gm, 4, none⟩ = some (.map (some bn)) ∧ w'.cell? ⟨B, 0, none⟩ = some (.string x.name) ∧ w'.cell? ⟨B, 1, none⟩ = some (.int .i64 x.node) ∧ w'.cell? ⟨B, 3, none⟩ = some (.int .i64 x.cookie) ∧ (Instr.lookup 104 (.map (some bc)) (.int .i64 x.cookie) false).run Tryz.prog w' = .ok (.int .i64 (if x.cookie ∈ s.cks then 1 else 0)) w' ∧ (Instr.lookup 105 (.map (some bn)) (.string x.name) false).run Tryz.prog w' = .ok (.int .i64 (if x.name ∈ names then 1 else 0)) w') (by kernel_rfl) (HS.out _ _ (HM2.out.below (Below.refl _ W2).drew) (Keep.refl _ W2).drew) (fun hHeld => ?_)
            refine take_on 0 40 (v := ?vf0) rfl rfl (by kernel_rfl) (by kernel_rfl) (by kernel_rfl) (fun _ _ _ h => h) (by rfl) ?hyf0 (by assumption) ?restf0
            case hyf0 =>
              intro w hSw
              (try dsimp only at hSw)
              go_simp
              try with_reducible rfl
            try simp only [Act.put, List.setIfInBounds_toArray, List.set_cons_zero, List.set_cons_succ]
            refine take_on 1 41 (v := ?vf1) rfl rfl (by kernel_rfl) (by kernel_rfl) (by kernel_rfl) (fun _ _ _ h => h) (by rfl) ?hyf1 (by assumption) ?restf1
            case hyf1 =>
              intro w hSw
              (try dsimp only at hSw)
              go_simp
              try with_reducible rfl
            try simp only [Act.put, List.setIfInBounds_toArray, List.set_cons_zero, List.set_cons_succ]
            refine take_on 2 42 (v := ?vf2) rfl rfl (by kernel_rfl) (by kernel_rfl) (by kernel_rfl) (fun _ _ _ h => h) (by rfl) ?hyf2 (by assumption) ?restf2
            case hyf2 =>
              intro w hSw
              (try dsimp only at hSw)
              go_simp
              try with_reducible rfl
            try simp only [Act.put, List.setIfInBounds_toArray, List.set_cons_zero, List.set_cons_succ]
            refine take_on 3 43 (v := ?vf3) rfl rfl (by kernel_rfl) (by kernel_rfl) (by kernel_rfl) (fun _ _ _ h => h) (by rfl) ?hyf3 (by assumption) ?restf3
            case hyf3 =>
              intro w hSw
              (try dsimp only at hSw)
              go_simp
              try with_reducible rfl
            try simp only [Act.put, List.setIfInBounds_toArray, List.set_cons_zero, List.set_cons_succ]
            refine take_on 4 44 (v := ?vf4) rfl rfl (by kernel_rfl) (by kernel_rfl) (by kernel_rfl) (fun _ _ _ h => h) (by rfl) ?hyf4 (by assumption) ?restf4
            case hyf4 =>
              intro w hSw
              (try dsimp only at hSw)
              go_simp
              try with_reducible rfl
            try simp only [Act.put, List.setIfInBounds_toArray, List.set_cons_zero, List.set_cons_succ]
            refine take_on 5 45 (v := ?vf5) rfl rfl (by kernel_rfl) (by kernel_rfl) (by kernel_rfl) (fun _ _ _ h => h) (by rfl) ?hyf5 (by assumption) ?restf5
            case hyf5 =>
              intro w hSw
              (try dsimp only at hSw)
              go_simp
              try with_reducible rfl
            try simp only [Act.put, List.setIfInBounds_toArray, List.set_cons_zero, List.set_cons_succ]
            refine take_on 6 46 (v := ?vf6) rfl rfl (by kernel_rfl) (by kernel_rfl) (by kernel_rfl) (fun _ _ _ h => h) (by rfl) ?hyf6 (by assumption) ?restf6
            case hyf6 =>
              intro w hSw
              (try dsimp only at hSw)
              go_simp
              try with_reducible rfl
            try simp only [Act.put, List.setIfInBounds_toArray, List.set_cons_zero, List.set_cons_succ]
            refine take_on 7 47 (v := ?vf7) rfl rfl (by kernel_rfl) (by kernel_rfl) (by kernel_rfl) (fun _ _ _ h => h) (by rfl) ?hyf7 (by assumption) ?restf7
            case hyf7 =>
              intro w hSw
              (try dsimp only at hSw)
              go_simp
              try with_reducible rfl
            try simp only [Act.put, List.setIfInBounds_toArray, List.set_cons_zero, List.set_cons_succ]
            refine take_on 8 48 (v := ?vf8) rfl rfl (by kernel_rfl) (by kernel_rfl) (by kernel_rfl) (fun _ _ _ h => h) (by rfl) ?hyf8 (by assumption) ?restf8
            case hyf8 =>
              intro w hSw
              (try dsimp only at hSw)
              go_simp
              try with_reducible rfl
            try simp only [Act.put, List.setIfInBounds_toArray, List.set_cons_zero, List.set_cons_succ]
            refine take_on 9 49 (v := ?vf9) rfl rfl (by kernel_rfl) (by kernel_rfl) (by kernel_rfl) (fun _ _ _ h => h) (by rfl) ?hyf9 (by assumption) ?restf9
            case hyf9 =>
              intro w hSw
              (try dsimp only at hSw)
              go_simp
              try with_reducible rfl
            try simp only [Act.put, List.setIfInBounds_toArray, List.set_cons_zero, List.set_cons_succ]
            refine take_on 10 50 (v := ?vf10) rfl rfl (by kernel_rfl) (by kernel_rfl) (by kernel_rfl) (fun _ _ _ h => h) (by rfl) ?hyf10 (by assumption) ?restf10
            case hyf10 =>
              intro w hSw
              (try dsimp only at hSw)
              go_simp
              try with_reducible rfl
            try simp only [Act.put, List.setIfInBounds_toArray, List.set_cons_zero, List.set_cons_succ]
            refine take_on 11 51 (v := ?vf11) rfl rfl (by kernel_rfl) (by kernel_rfl) (by kernel_rfl) (fun _ _ _ h => h) (by rfl) ?hyf11 (by assumption) ?restf11
            case hyf11 =>
              intro w hSw
              (try dsimp only at hSw)
              go_simp
              try with_reducible rfl
            try simp only [Act.put, List.setIfInBounds_toArray, List.set_cons_zero, List.set_cons_succ]
            refine take_on 12 52 (v := ?vf12) rfl rfl (by kernel_rfl) (by kernel_rfl) (by kernel_rfl) (fun _ _ _ h => h) (by rfl) ?hyf12 (by assumption) ?restf12
            case hyf12 =>
              intro w hSw
              (try dsimp only at hSw)
              go_simp
              try with_reducible rfl
            try simp only [Act.put, List.setIfInBounds_toArray, List.set_cons_zero, List.set_cons_succ]
            refine take_on 13 53 (v := ?vf13) rfl rfl (by kernel_rfl) (by kernel_rfl) (by kernel_rfl) (fun _ _ _ h => h) (by rfl) ?hyf13 (by assumption) ?restf13
            case hyf13 =>
              intro w hSw
              (try dsimp only at hSw)
              go_simp
              try with_reducible rfl
            try simp only [Act.put, List.setIfInBounds_toArray, List.set_cons_zero, List.set_cons_succ]
            refine take_off 14 54 rfl rfl (by kernel_rfl) (by kernel_rfl) (by kernel_rfl) (fun _ _ _ h => h) (by rfl) (by assumption) ?_
            try simp only [Act.put, List.setIfInBounds_toArray, List.set_cons_zero, List.set_cons_succ]
            refine take_off 15 55 rfl rfl (by kernel_rfl) (by kernel_rfl) (by kernel_rfl) (fun _ _ _ h => h) (by rfl) (by assumption) ?_
            try simp only [Act.put, List.setIfInBounds_toArray, List.set_cons_zero, List.set_cons_succ]
            refine take_off 16 56 rfl rfl (by kernel_rfl) (by kernel_rfl) (by kernel_rfl) (fun _ _ _ h => h) (by rfl) (by assumption) ?_
            try simp only [Act.put, List.setIfInBounds_toArray, List.set_cons_zero, List.set_cons_succ]
            refine take_off 17 57 rfl rfl (by kernel_rfl) (by kernel_rfl) (by kernel_rfl) (fun _ _ _ h => h) (by rfl) (by assumption) ?_
            try simp only [Act.put, List.setIfInBounds_toArray, List.set_cons_zero, List.set_cons_succ]
            refine take_off 18 58 rfl rfl (by kernel_rfl) (by kernel_rfl) (by kernel_rfl) (fun _ _ _ h => h) (by rfl) (by assumption) ?_
            try simp only [Act.put, List.setIfInBounds_toArray, List.set_cons_zero, List.set_cons_succ]
            refine take_off 19 59 rfl rfl (by kernel_rfl) (by kernel_rfl) (by kernel_rfl) (fun _ _ _ h => h) (by rfl) (by assumption) ?_
            try simp only [Act.put, List.setIfInBounds_toArray, List.set_cons_zero, List.set_cons_succ]
            refine take_off 20 60 rfl rfl (by kernel_rfl) (by kernel_rfl) (by kernel_rfl) (fun _ _ _ h => h) (by rfl) (by assumption) ?_
            try simp only [Act.put, List.setIfInBounds_toArray, List.set_cons_zero, List.set_cons_succ]
            refine take_off 21 61 rfl rfl (by kernel_rfl) (by kernel_rfl) (by kernel_rfl) (fun _ _ _ h => h) (by rfl) (by assumption) ?_
            try simp only [Act.put, List.setIfInBounds_toArray, List.set_cons_zero, List.set_cons_succ]
            refine take_on 22 62 (v := ?vf22) rfl rfl (by kernel_rfl) (by kernel_rfl) (by kernel_rfl) (fun _ _ _ h => h) (by rfl) ?hyf22 (by assumption) ?restf22
            case hyf22 =>
              intro w hSw
              (try dsimp only at hSw)
              go_simp
              try with_reducible rfl
            try simp only [Act.put, List.setIfInBounds_toArray, List.set_cons_zero, List.set_cons_succ]
            refine take_on 23 63 (v := ?vf23) rfl rfl (by kernel_rfl) (by kernel_rfl) (by kernel_rfl) (fun _ _ _ h => h) (by rfl) ?hyf23 (by assumption) ?restf23
            case hyf23 =>
              intro w hSw
              (try dsimp only at hSw)
              go_simp
              try with_reducible rfl
            try simp only [Act.put, List.setIfInBounds_toArray, List.set_cons_zero, List.set_cons_succ]
            refine take_off 24 64 rfl rfl (by kernel_rfl) (by kernel_rfl) (by kernel_rfl) (fun _ _ _ h => h) (by rfl) (by assumption) ?_
            try simp only [Act.put, List.setIfInBounds_toArray, List.set_cons_zero, List.set_cons_succ]
            refine take_off 25 65 rfl rfl (by kernel_rfl) (by kernel_rfl) (by kernel_rfl) (fun _ _ _ h => h) (by rfl) (by assumption) ?_
            try simp only [Act.put, List.setIfInBounds_toArray, List.set_cons_zero, List.set_cons_succ]
            refine take_off 26 66 rfl rfl (by kernel_rfl) (by kernel_rfl) (by kernel_rfl) (fun _ _ _ h => h) (by rfl) (by assumption) ?_
            try simp only [Act.put, List.setIfInBounds_toArray, List.set_cons_zero, List.set_cons_succ]
            refine take_off 27 67 rfl rfl (by kernel_rfl) (by kernel_rfl) (by kernel_rfl) (fun _ _ _ h => h) (by rfl) (by assumption) ?_
            try simp only [Act.put, List.setIfInBounds_toArray, List.set_cons_zero, List.set_cons_succ]
            refine take_off 28 68 rfl rfl (by kernel_rfl) (by kernel_rfl) (by kernel_rfl) (fun _ _ _ h => h) (by rfl) (by assumption) ?_
            try simp only [Act.put, List.setIfInBounds_toArray, List.set_cons_zero, List.set_cons_succ]
            refine take_off 29 69 rfl rfl (by kernel_rfl) (by kernel_rfl) (by kernel_rfl) (fun _ _ _ h => h) (by rfl) (by assumption) ?_
            try simp only [Act.put, List.setIfInBounds_toArray, List.set_cons_zero, List.set_cons_succ]
            refine take_off 30 70 rfl rfl (by kernel_rfl) (by kernel_rfl) (by kernel_rfl) (fun _ _ _ h => h) (by rfl) (by assumption) ?_
            try simp only [Act.put, List.setIfInBounds_toArray, List.set_cons_zero, List.set_cons_succ]
            refine take_off 31 71 rfl rfl (by kernel_rfl) (by kernel_rfl) (by kernel_rfl) (fun _ _ _ h => h) (by rfl) (by assumption) ?_
            try simp only [Act.put, List.setIfInBounds_toArray, List.set_cons_zero, List.set_cons_succ]
            refine take_on 32 72 (v := ?vf32) rfl rfl (by kernel_rfl) (by kernel_rfl) (by kernel_rfl) (fun _ _ _ h => h) (by rfl) ?hyf32 (by assumption) ?restf32
            case hyf32 =>
              intro w hSw
              (try dsimp only at hSw)
              go_simp
              try with_reducible rfl
            try simp only [Act.put, List.setIfInBounds_toArray, List.set_cons_zero, List.set_cons_succ]
            refine take_on 33 73 (v := ?vf33) rfl rfl (by kernel_rfl) (by kernel_rfl) (by kernel_rfl) (fun _ _ _ h => h) (by rfl) ?hyf33 (by assumption) ?restf33
            case hyf33 =>
              intro w hSw
              (try dsimp only at hSw)
              go_simp
              try with_reducible rfl
            try simp only [Act.put, List.setIfInBounds_toArray, List.set_cons_zero, List.set_cons_succ]
            refine take_off 34 74 rfl rfl (by kernel_rfl) (by kernel_rfl) (by kernel_rfl) (fun _ _ _ h => h) (by rfl) (by assumption) ?_
            try simp only [Act.put, List.setIfInBounds_toArray, List.set_cons_zero, List.set_cons_succ]
            refine take_off 35 75 rfl rfl (by kernel_rfl) (by kernel_rfl) (by kernel_rfl) (fun _ _ _ h => h) (by rfl) (by assumption) ?_
            try simp only [Act.put, List.setIfInBounds_toArray, List.set_cons_zero, List.set_cons_succ]
            refine take_off 36 76 rfl rfl (by kernel_rfl) (by kernel_rfl) (by kernel_rfl) (fun _ _ _ h => h) (by rfl) (by assumption) ?_
            try simp only [Act.put, List.setIfInBounds_toArray, List.set_cons_zero, List.set_cons_succ]
            refine take_off 37 77 rfl rfl (by kernel_rfl) (by kernel_rfl) (by kernel_rfl) (fun _ _ _ h => h) (by rfl) (by assumption) ?_
            try simp only [Act.put, List.setIfInBounds_toArray, List.set_cons_zero, List.set_cons_succ]
            refine take_off 38 78 rfl rfl (by kernel_rfl) (by kernel_rfl) (by kernel_rfl) (fun _ _ _ h => h) (by rfl) (by assumption) ?_
            try simp only [Act.put, List.setIfInBounds_toArray, List.set_cons_zero, List.set_cons_succ]
            refine take_off 39 79 rfl rfl (by kernel_rfl) (by kernel_rfl) (by kernel_rfl) (fun _ _ _ h => h) (by rfl) (by assumption) ?_
            try simp only [Act.put, List.setIfInBounds_toArray, List.set_cons_zero, List.set_cons_succ]
            refine take_off 40 80 rfl rfl (by kernel_rfl) (by kernel_rfl) (by kernel_rfl) (fun _ _ _ h => h) (by rfl) (by assumption) ?_
            try simp only [Act.put, List.setIfInBounds_toArray, List.set_cons_zero, List.set_cons_succ]
            refine take_off 41 81 rfl rfl (by kernel_rfl) (by kernel_rfl) (by kernel_rfl) (fun _ _ _ h => h) (by rfl) (by assumption) ?_
            try simp only [Act.put, List.setIfInBounds_toArray, List.set_cons_zero, List.set_cons_succ]
            refine take_on 42 82 (v := ?vf42) rfl rfl (by kernel_rfl) (by kernel_rfl) (by kernel_rfl) (fun _ _ _ h => h) (by rfl) ?hyf42 (by assumption) ?restf42
            case hyf42 =>
              intro w hSw
              (try dsimp only at hSw)
              go_simp
              try with_reducible rfl
            try simp only [Act.put, List.setIfInBounds_toArray, List.set_cons_zero, List.set_cons_succ]
            refine wpAnyH_ready (rs := [43]) (by kernel_rfl) (by simp) ?_
            refine AllReadyH.cons rfl (fun K hK => ?_) AllReadyH.nil
            go_simp
            refine (must_any false (HM2.out.below (Below.refl _ W2).drew)).mono ?_
            rintro e w6 ⟨rfl, hm6, hk6⟩
            have HM6 := Lib.hid hm6
            have HK7 := Lib.hid (show Keep (fun i => i = gm) W2 w6 from ((Keep.below (Below.refl _ W2).drew).mono (fun i q => Or.inr q)).trans hk6)
            have hS6 := HS.out w6 _ HM6.out HK7.out
            clear hm6 hk6
            simp only []
            refine hK.out _ _ hS6 (fun hHeld => ?_)
            clear hK K
            try simp only [Act.put, List.setIfInBounds_toArray, List.set_cons_zero, List.set_cons_succ]
            refine wpAnyH_done (by kernel_rfl) ?_ _
            go_wp2
            go_meet
            case rel =>
              refine ⟨?_, HK7.out⟩
              have h := HM6.out
              have e0 : entOk2 cookie s names x = false := by
                unfold entOk2
                rw [D1.out, D2.out]; rfl
              rw [e0]
              exact h
          · have D2 := Lib.hid d2
            by_cases p3 : x.cookie ∈ s.cks
            · have HS := Lib.hid (show ∀ w' b, MkC w0 w' gm bd bc (.slice na s.nodes.length nc) (.map (some bn)) cookie { s with bad := b } → Keep (fun i => i = gm) W2 w' → (w'.cell? ⟨gm, 0, none⟩ = some (.int .i64 cookie) ∧ w'.cell? ⟨gm, 2, none⟩ = some (.slice na s.nodes.length nc) ∧ w'.cell? ⟨gm, 3, none⟩ = some (.map (some bc)) ∧ w'.cell? ⟨gm, 4, none⟩ = some (.map (some bn)) ∧ w'.cell? ⟨B, 0, none⟩ = some (.string x.name) ∧ w'.cell? ⟨B, 1, none⟩ = some (.int .i64 x.node) ∧ w'.cell? ⟨B, 3, none⟩ = some (.int .i64 x.cookie) ∧ (Instr.lookup 104 (.map (some bc)) (.int .i64 x.cookie) false).run Tryz.prog w' = .ok (.int .i64 1) w' ∧ (Instr.lookup 105 (.map (some bn)) (.string x.name) false).run Tryz.prog w' = .ok (.int .i64 (if x.name ∈ names then 1 else 0)) w') from fun w' b hm k => by
                obtain ⟨z0, z2, z3, z4, y0, y1, y3⟩ := HC0.out w' b hm k
                have zc := HLC.out w' k
                have zn := HLN.out w' k
                rw [if_pos p3] at zc
                exact ⟨z0, z2, z3, z4, y0, y1, y3, zc, zn⟩)
              refine wp_region_held_drew (S := fun w' => w'.cell? ⟨gm, 0, none⟩ = some (.int .i64 cookie) ∧ w'.cell? ⟨gm, 2, none⟩ = some (.slice na s.nodes.length nc) ∧ w'.cell? ⟨gm, 3, none⟩ = some (.map (some bc)) ∧ w'.cell? ⟨gm, 4, none⟩ = some (.map (some bn)) ∧ w'.cell? ⟨B, 0, none⟩ = some (.string x.name) ∧ w'.cell? ⟨B, 1, none⟩ = some (.int .i64 x.node) ∧ w'.cell? ⟨B, 3, none⟩ = some (.int .i64 x.cookie) ∧ (Instr.lookup 104 (.map (some bc)) (.int .i64 x.cookie) false).run Tryz.prog w' = .ok (.int .i64 1) w' ∧ (Instr.lookup 105 (.map (some bn)) (.string x.name) false).run Tryz.prog w' = .ok (.int .i64 (if x.name ∈ names then 1 else 0)) w') (by kernel_rfl) (HS.out _ _ (HM2.out.below (Below.refl _ W2).drew) (Keep.refl _ W2).drew) (fun hHeld => ?_)
              refine take_on 0 40 (v := ?ve0) rfl rfl (by kernel_rfl) (by kernel_rfl) (by kernel_rfl) (fun _ _ _ h => h) (by rfl) ?hye0 (by assumption) ?reste0
              case hye0 =>
                intro w hSw
                (try dsimp only at hSw)
                go_simp
                try with_reducible rfl
              try simp only [Act.put, List.setIfInBounds_toArray, List.set_cons_zero, List.set_cons_succ]
              refine take_on 1 41 (v := ?ve1) rfl rfl (by kernel_rfl) (by kernel_rfl) (by kernel_rfl) (fun _ _ _ h => h) (by rfl) ?hye1 (by assumption) ?reste1
              case hye1 =>
                intro w hSw
                (try dsimp only at hSw)
                go_simp
                try with_reducible rfl
              try simp only [Act.put, List.setIfInBounds_toArray, List.set_cons_zero, List.set_cons_succ]
              refine take_on 2 42 (v := ?ve2) rfl rfl (by kernel_rfl) (by kernel_rfl) (by kernel_rfl) (fun _ _ _ h => h) (by rfl) ?hye2 (by assumption) ?reste2
              case hye2 =>
                intro w hSw
                (try dsimp only at hSw)
                go_simp
                try with_reducible rfl
              try simp only [Act.put, List.setIfInBounds_toArray, List.set_cons_zero, List.set_cons_succ]
              refine take_on 3 43 (v := ?ve3) rfl rfl (by kernel_rfl) (by kernel_rfl) (by kernel_rfl) (fun _ _ _ h => h) (by rfl) ?hye3 (by assumption) ?reste3
              case hye3 =>
                intro w hSw
                (try dsimp only at hSw)
                go_simp
                try with_reducible rfl
              try simp only [Act.put, List.setIfInBounds_toArray, List.set_cons_zero, List.set_cons_succ]
              refine take_on 4 44 (v := ?ve4) rfl rfl (by kernel_rfl) (by kernel_rfl) (by kernel_rfl) (fun _ _ _ h => h) (by rfl) ?hye4 (by assumption) ?reste4
              case hye4 =>
                intro w hSw
                (try dsimp only at hSw)
                go_simp
                try with_reducible rfl
              try simp only [Act.put, List.setIfInBounds_toArray, List.set_cons_zero, List.set_cons_succ]
              refine take_on 5 45 (v := ?ve5) rfl rfl (by kernel_rfl) (by kernel_rfl) (by kernel_rfl) (fun _ _ _ h => h) (by rfl) ?hye5 (by assumption) ?reste5
              case hye5 =>
                intro w hSw
                (try dsimp only at hSw)
                go_simp
                try with_reducible rfl
              try simp only [Act.put, List.setIfInBounds_toArray, List.set_cons_zero, List.set_cons_succ]
              refine take_on 6 46 (v := ?ve6) rfl rfl (by kernel_rfl) (by kernel_rfl) (by kernel_rfl) (fun _ _ _ h => h) (by rfl) ?hye6 (by assumption) ?reste6
              case hye6 =>
                intro w hSw
                (try dsimp only at hSw)
                go_simp
                try with_reducible rfl
              try simp only [Act.put, List.setIfInBounds_toArray, List.set_cons_zero, List.set_cons_succ]
              refine take_on 7 47 (v := ?ve7) rfl rfl (by kernel_rfl) (by kernel_rfl) (by kernel_rfl) (fun _ _ _ h => h) (by rfl) ?hye7 (by assumption) ?reste7
              case hye7 =>
                intro w hSw
                (try dsimp only at hSw)
                go_simp
                try with_reducible rfl
              try simp only [Act.put, List.setIfInBounds_toArray, List.set_cons_zero, List.set_cons_succ]
              refine take_on 8 48 (v := ?ve8) rfl rfl (by kernel_rfl) (by kernel_rfl) (by kernel_rfl) (fun _ _ _ h => h) (by rfl) ?hye8 (by assumption) ?reste8
              case hye8 =>
                intro w hSw
                (try dsimp only at hSw)
                go_simp
                try with_reducible rfl
              try simp only [Act.put, List.setIfInBounds_toArray, List.set_cons_zero, List.set_cons_succ]
              refine take_on 9 49 (v := ?ve9) rfl rfl (by kernel_rfl) (by kernel_rfl) (by kernel_rfl) (fun _ _ _ h => h) (by rfl) ?hye9 (by assumption) ?reste9
              case hye9 =>
                intro w hSw
                (try dsimp only at hSw)
                go_simp
                try with_reducible rfl
              try simp only [Act.put, List.setIfInBounds_toArray, List.set_cons_zero, List.set_cons_succ]
              refine take_on 10 50 (v := ?ve10) rfl rfl (by kernel_rfl) (by kernel_rfl) (by kernel_rfl) (fun _ _ _ h => h) (by rfl) ?hye10 (by assumption) ?reste10
              case hye10 =>
                intro w hSw
                (try dsimp only at hSw)
                go_simp
                try with_reducible rfl
              try simp only [Act.put, List.setIfInBounds_toArray, List.set_cons_zero, List.set_cons_succ]
              refine take_on 11 51 (v := ?ve11) rfl rfl (by kernel_rfl) (by kernel_rfl) (by kernel_rfl) (fun _ _ _ h => h) (by rfl) ?hye11 (by assumption) ?reste11
              case hye11 =>
                intro w hSw
                (try dsimp only at hSw)
                go_simp
                try with_reducible rfl
              try simp only [Act.put, List.setIfInBounds_toArray, List.set_cons_zero, List.set_cons_succ]
              refine take_on 12 52 (v := ?ve12) rfl rfl (by kernel_rfl) (by kernel_rfl) (by kernel_rfl) (fun _ _ _ h => h) (by rfl) ?hye12 (by assumption) ?reste12
              case hye12 =>
                intro w hSw
                (try dsimp only at hSw)
                go_simp
                try with_reducible rfl
              try simp only [Act.put, List.setIfInBounds_toArray, List.set_cons_zero, List.set_cons_succ]
              refine take_on 13 53 (v := ?ve13) rfl rfl (by kernel_rfl) (by kernel_rfl) (by kernel_rfl) (fun _ _ _ h => h) (by rfl) ?hye13 (by assumption) ?reste13
              case hye13 =>
                intro w hSw
                (try dsimp only at hSw)
                go_simp
                try with_reducible rfl
              try simp only [Act.put, List.setIfInBounds_toArray, List.set_cons_zero, List.set_cons_succ]
              refine take_on 14 54 (v := ?ve14) rfl rfl (by kernel_rfl) (by kernel_rfl) (by kernel_rfl) (fun _ _ _ h => h) (by rfl) ?hye14 (by assumption) ?reste14
              case hye14 =>
                intro w hSw
                (try dsimp only at hSw)
                go_simp
                try with_reducible rfl
              try simp only [Act.put, List.setIfInBounds_toArray, List.set_cons_zero, List.set_cons_succ]
              refine take_on 15 55 (v := ?ve15) rfl rfl (by kernel_rfl) (by kernel_rfl) (by kernel_rfl) (fun _ _ _ h => h) (by rfl) ?hye15 (by assumption) ?reste15
              case hye15 =>
                intro w hSw
                (try dsimp only at hSw)
                go_simp
                try with_reducible rfl
              try simp only [Act.put, List.setIfInBounds_toArray, List.set_cons_zero, List.set_cons_succ]
              refine take_on 16 56 (v := ?ve16) rfl rfl (by kernel_rfl) (by kernel_rfl) (by kernel_rfl) (fun _ _ _ h => h) (by rfl) ?hye16 (by assumption) ?reste16
              case hye16 =>
                intro w hSw
                (try dsimp only at hSw)
                go_simp
                try with_reducible rfl
              try simp only [Act.put, List.setIfInBounds_toArray, List.set_cons_zero, List.set_cons_succ]
              refine take_on 17 57 (v := ?ve17) rfl rfl (by kernel_rfl) (by kernel_rfl) (by kernel_rfl) (fun _ _ _ h => h) (by rfl) ?hye17 (by assumption) ?reste17
              case hye17 =>
                intro w hSw
                (try dsimp only at hSw)
                go_simp
                try with_reducible rfl
              try simp only [Act.put, List.setIfInBounds_toArray, List.set_cons_zero, List.set_cons_succ]
              refine take_on 18 58 (v := ?ve18) rfl rfl (by kernel_rfl) (by kernel_rfl) (by kernel_rfl) (fun _ _ _ h => h) (by rfl) ?hye18 (by assumption) ?reste18
              case hye18 =>
                intro w hSw
                (try dsimp only at hSw)
                go_simp
                try with_reducible rfl
              try simp only [Act.put, List.setIfInBounds_toArray, List.set_cons_zero, List.set_cons_succ]
              refine take_on 19 59 (v := ?ve19) rfl rfl (by kernel_rfl) (by kernel_rfl) (by kernel_rfl) (fun _ _ _ h => h) (by rfl) ?hye19 (by assumption) ?reste19
              case hye19 =>
                intro w hSw
                (try dsimp only at hSw)
                go_simp
                try with_reducible rfl
              try simp only [Act.put, List.setIfInBounds_toArray, List.set_cons_zero, List.set_cons_succ]
              refine take_on 20 60 (v := ?ve20) rfl rfl (by kernel_rfl) (by kernel_rfl) (by kernel_rfl) (fun _ _ _ h => h) (by rfl) ?hye20 (by assumption) ?reste20
              case hye20 =>
                intro w hSw
                (try dsimp only at hSw)
                go_simp
                try with_reducible rfl
              try simp only [Act.put, List.setIfInBounds_toArray, List.set_cons_zero, List.set_cons_succ]
              refine take_on 21 61 (v := ?ve21) rfl rfl (by kernel_rfl) (by kernel_rfl) (by kernel_rfl) (fun _ _ _ h => h) (by rfl) ?hye21 (by assumption) ?reste21
              case hye21 =>
                intro w hSw
                (try dsimp only at hSw)
                go_simp
                try with_reducible rfl
              try simp only [Act.put, List.setIfInBounds_toArray, List.set_cons_zero, List.set_cons_succ]
              refine take_on 22 62 (v := ?ve22) rfl rfl (by kernel_rfl) (by kernel_rfl) (by kernel_rfl) (fun _ _ _ h => h) (by rfl) ?hye22 (by assumption) ?reste22
              case hye22 =>
                intro w hSw
                (try dsimp only at hSw)
                go_simp
                try with_reducible rfl
              try simp only [Act.put, List.setIfInBounds_toArray, List.set_cons_zero, List.set_cons_succ]
              refine take_on 23 63 (v := ?ve23) rfl rfl (by kernel_rfl) (by kernel_rfl) (by kernel_rfl) (fun _ _ _ h => h) (by rfl) ?hye23 (by assumption) ?reste23
              case hye23 =>
                intro w hSw
                (try dsimp only at hSw)
                go_simp
                try with_reducible rfl
              try simp only [Act.put, List.setIfInBounds_toArray, List.set_cons_zero, List.set_cons_succ]
              refine take_off 24 64 rfl rfl (by kernel_rfl) (by kernel_rfl) (by kernel_rfl) (fun _ _ _ h => h) (by rfl) (by assumption) ?_
              try simp only [Act.put, List.setIfInBounds_toArray, List.set_cons_zero, List.set_cons_succ]
              refine take_off 25 65 rfl rfl (by kernel_rfl) (by kernel_rfl) (by kernel_rfl) (fun _ _ _ h => h) (by rfl) (by assumption) ?_
              try simp only [Act.put, List.setIfInBounds_toArray, List.set_cons_zero, List.set_cons_succ]
              refine take_off 26 66 rfl rfl (by kernel_rfl) (by kernel_rfl) (by kernel_rfl) (fun _ _ _ h => h) (by rfl) (by assumption) ?_
              try simp only [Act.put, List.setIfInBounds_toArray, List.set_cons_zero, List.set_cons_succ]
              refine take_off 27 67 rfl rfl (by kernel_rfl) (by kernel_rfl) (by kernel_rfl) (fun _ _ _ h => h) (by rfl) (by assumption) ?_
              try simp only [Act.put, List.setIfInBounds_toArray, List.set_cons_zero, List.set_cons_succ]
              refine take_off 28 68 rfl rfl (by kernel_rfl) (by kernel_rfl) (by kernel_rfl) (fun _ _ _ h => h) (by rfl) (by assumption) ?_
              try simp only [Act.put, List.setIfInBounds_toArray, List.set_cons_zero, List.set_cons_succ]
              refine take_off 29 69 rfl rfl (by kernel_rfl) (by kernel_rfl) (by kernel_rfl) (fun _ _ _ h => h) (by rfl) (by assumption) ?_
              try simp only [Act.put, List.setIfInBounds_toArray, List.set_cons_zero, List.set_cons_succ]
              refine take_off 30 70 rfl rfl (by kernel_rfl) (by kernel_rfl) (by kernel_rfl) (fun _ _ _ h => h) (by rfl) (by assumption) ?_
              try simp only [Act.put, List.setIfInBounds_toArray, List.set_cons_zero, List.set_cons_succ]
              refine take_off 31 71 rfl rfl (by kernel_rfl) (by kernel_rfl) (by kernel_rfl) (fun _ _ _ h => h) (by rfl) (by assumption) ?_
              try simp only [Act.put, List.setIfInBounds_toArray, List.set_cons_zero, List.set_cons_succ]
              refine take_on 32 72 (v := ?ve32) rfl rfl (by kernel_rfl) (by kernel_rfl) (by kernel_rfl) (fun _ _ _ h => h) (by rfl) ?hye32 (by assumption) ?reste32
              case hye32 =>
                intro w hSw
                (try dsimp only at hSw)
                go_simp
                try with_reducible rfl
              try simp only [Act.put, List.setIfInBounds_toArray, List.set_cons_zero, List.set_cons_succ]
              refine take_on 33 73 (v := ?ve33) rfl rfl (by kernel_rfl) (by kernel_rfl) (by kernel_rfl) (fun _ _ _ h => h) (by rfl) ?hye33 (by assumption) ?reste33
              case hye33 =>
                intro w hSw
                (try dsimp only at hSw)
                go_simp
                try with_reducible rfl
              try simp only [Act.put, List.setIfInBounds_toArray, List.set_cons_zero, List.set_cons_succ]
              refine take_off 34 74 rfl rfl (by kernel_rfl) (by kernel_rfl) (by kernel_rfl) (fun _ _ _ h => h) (by rfl) (by assumption) ?_
              try simp only [Act.put, List.setIfInBounds_toArray, List.set_cons_zero, List.set_cons_succ]
              refine take_off 35 75 rfl rfl (by kernel_rfl) (by kernel_rfl) (by kernel_rfl) (fun _ _ _ h => h) (by rfl) (by assumption) ?_
              try simp only [Act.put, List.setIfInBounds_toArray, List.set_cons_zero, List.set_cons_succ]
              refine take_off 36 76 rfl rfl (by kernel_rfl) (by kernel_rfl) (by kernel_rfl) (fun _ _ _ h => h) (by rfl) (by assumption) ?_
              try simp only [Act.put, List.setIfInBounds_toArray, List.set_cons_zero, List.set_cons_succ]
              refine take_off 37 77 rfl rfl (by kernel_rfl) (by kernel_rfl) (by kernel_rfl) (fun _ _ _ h => h) (by rfl) (by assumption) ?_
              try simp only [Act.put, List.setIfInBounds_toArray, List.set_cons_zero, List.set_cons_succ]
              refine take_off 38 78 rfl rfl (by kernel_rfl) (by kernel_rfl) (by kernel_rfl) (fun _ _ _ h => h) (by rfl) (by assumption) ?_
              try simp only [Act.put, List.setIfInBounds_toArray, List.set_cons_zero, List.set_cons_succ]
              refine take_off 39 79 rfl rfl (by kernel_rfl) (by kernel_rfl) (by kernel_rfl) (fun _ _ _ h => h) (by rfl) (by assumption) ?_
              try simp only [Act.put, List.setIfInBounds_toArray, List.set_cons_zero, List.set_cons_succ]
              refine take_off 40 80 rfl rfl (by kernel_rfl) (by kernel_rfl) (by kernel_rfl) (fun _ _ _ h => h) (by rfl) (by assumption) ?_
              try simp only [Act.put, List.setIfInBounds_toArray, List.set_cons_zero, List.set_cons_succ]
              refine take_off 41 81 rfl rfl (by kernel_rfl) (by kernel_rfl) (by kernel_rfl) (fun _ _ _ h => h) (by rfl) (by assumption) ?_
              try simp only [Act.put, List.setIfInBounds_toArray, List.set_cons_zero, List.set_cons_succ]
              refine take_on 42 82 (v := ?ve42) rfl rfl (by kernel_rfl) (by kernel_rfl) (by kernel_rfl) (fun _ _ _ h => h) (by rfl) ?hye42 (by assumption) ?reste42
              case hye42 =>
                intro w hSw
                (try dsimp only at hSw)
                go_simp
                try with_reducible rfl
              try simp only [Act.put, List.setIfInBounds_toArray, List.set_cons_zero, List.set_cons_succ]
              refine wpAnyH_ready (rs := [43]) (by kernel_rfl) (by simp) ?_
              refine AllReadyH.cons rfl (fun K hK => ?_) AllReadyH.nil
              go_simp
              refine (must_any false (HM2.out.below (Below.refl _ W2).drew)).mono ?_
              rintro e w6 ⟨rfl, hm6, hk6⟩
              have HM6 := Lib.hid hm6
              have HK7 := Lib.hid (show Keep (fun i => i = gm) W2 w6 from ((Keep.below (Below.refl _ W2).drew).mono (fun i q => Or.inr q)).trans hk6)
              have hS6 := HS.out w6 _ HM6.out HK7.out
              clear hm6 hk6
              simp only []
              refine hK.out _ _ hS6 (fun hHeld => ?_)
              clear hK K
              try simp only [Act.put, List.setIfInBounds_toArray, List.set_cons_zero, List.set_cons_succ]
              refine wpAnyH_done (by kernel_rfl) ?_ _
              go_wp2
              go_meet
              case rel =>
                refine ⟨?_, HK7.out⟩
                have h := HM6.out
                have e0 : entOk2 cookie s names x = false := by
                  unfold entOk2
                  rw [D1.out, D2.out, decide_eq_false (fun q => q p3)]; rfl
                rw [e0]
                exact h
            · by_cases p4 : x.node ∈ s.nodes
              · have HC4 := Lib.hid (show decide (x.node ∈ s.nodes) = true from decide_eq_true p4)
                have HS := Lib.hid (show ∀ w' b, MkC w0 w' gm bd bc (.slice na s.nodes.length nc) (.map (some bn)) cookie { s with bad := b } → Keep (fun i => i = gm) W2 w' → (w'.cell? ⟨gm, 0, none⟩ = some (.int .i64 cookie) ∧ w'.cell? ⟨gm, 2, none⟩ = some (.slice na s.nodes.length nc) ∧ w'.cell? ⟨gm, 3, none⟩ = some (.map (some bc)) ∧ w'.cell? ⟨gm, 4, none⟩ = some (.map (some bn)) ∧ w'.cell? ⟨B, 0, none⟩ = some (.string x.name) ∧ w'.cell? ⟨B, 1, none⟩ = some (.int .i64 x.node) ∧ w'.cell? ⟨B, 3, none⟩ = some (.int .i64 x.cookie) ∧ (Instr.lookup 104 (.map (some bc)) (.int .i64 x.cookie) false).run Tryz.prog w' = .ok (.int .i64 0) w' ∧ (Instr.lookup 105 (.map (some bn)) (.string x.name) false).run Tryz.prog w' = .ok (.int .i64 (if x.name ∈ names then 1 else 0)) w') from fun w' b hm k => by
                  obtain ⟨z0, z2, z3, z4, y0, y1, y3⟩ := HC0.out w' b hm k
                  have zc := HLC.out w' k
                  have zn := HLN.out w' k
                  rw [if_neg p3] at zc
                  exact ⟨z0, z2, z3, z4, y0, y1, y3, zc, zn⟩)
                refine wp_region_held_drew (S := fun w' => w'.cell? ⟨gm, 0, none⟩ = some (.int .i64 cookie) ∧ w'.cell? ⟨gm, 2, none⟩ = some (.slice na s.nodes.length nc) ∧ w'.cell? ⟨gm, 3, none⟩ = some (.map (some bc)) ∧ w'.cell? ⟨gm, 4, none⟩ = some (.map (some bn)) ∧ w'.cell? ⟨B, 0, none⟩ = some (.string x.name) ∧ w'.cell? ⟨B, 1, none⟩ = some (.int .i64 x.node) ∧ w'.cell? ⟨B, 3, none⟩ = some (.int .i64 x.cookie) ∧ (Instr.lookup 104 (.map (some bc)) (.int .i64 x.cookie) false).run Tryz.prog w' = .ok (.int .i64 0) w' ∧ (Instr.lookup 105 (.map (some bn)) (.string x.name) false).run Tryz.prog w' = .ok (.int .i64 (if x.name ∈ names then 1 else 0)) w') (by kernel_rfl) (HS.out _ _ (HM2.out.below (Below.refl _ W2).drew) (Keep.refl _ W2).drew) (fun hHeld => ?_)
                refine take_on 0 40 (v := ?vd0) rfl rfl (by kernel_rfl) (by kernel_rfl) (by kernel_rfl) (fun _ _ _ h => h) (by rfl) ?hyd0 (by assumption) ?restd0
                case hyd0 =>
                  intro w hSw
                  (try dsimp only at hSw)
                  go_simp
                  try with_reducible rfl
                try simp only [Act.put, List.setIfInBounds_toArray, List.set_cons_zero, List.set_cons_succ]
                refine take_on 1 41 (v := ?vd1) rfl rfl (by kernel_rfl) (by kernel_rfl) (by kernel_rfl) (fun _ _ _ h => h) (by rfl) ?hyd1 (by assumption) ?restd1
                case hyd1 =>
                  intro w hSw
                  (try dsimp only at hSw)
                  go_simp
                  try with_reducible rfl
                try simp only [Act.put, List.setIfInBounds_toArray, List.set_cons_zero, List.set_cons_succ]
                refine take_on 2 42 (v := ?vd2) rfl rfl (by kernel_rfl) (by kernel_rfl) (by kernel_rfl) (fun _ _ _ h => h) (by rfl) ?hyd2 (by assumption) ?restd2
                case hyd2 =>
                  intro w hSw
                  (try dsimp only at hSw)
                  go_simp
                  try with_reducible rfl
                try simp only [Act.put, List.setIfInBounds_toArray, List.set_cons_zero, List.set_cons_succ]
                refine take_on 3 43 (v := ?vd3) rfl rfl (by kernel_rfl) (by kernel_rfl) (by kernel_rfl) (fun _ _ _ h => h) (by rfl) ?hyd3 (by assumption) ?restd3
                case hyd3 =>
                  intro w hSw
                  (try dsimp only at hSw)
                  go_simp
                  try with_reducible rfl
                try simp only [Act.put, List.setIfInBounds_toArray, List.set_cons_zero, List.set_cons_succ]
                refine take_on 4 44 (v := ?vd4) rfl rfl (by kernel_rfl) (by kernel_rfl) (by kernel_rfl) (fun _ _ _ h => h) (by rfl) ?hyd4 (by assumption) ?restd4
                case hyd4 =>
                  intro w hSw
                  (try dsimp only at hSw)
                  go_simp
                  try with_reducible rfl
                try simp only [Act.put, List.setIfInBounds_toArray, List.set_cons_zero, List.set_cons_succ]
                refine take_on 5 45 (v := ?vd5) rfl rfl (by kernel_rfl) (by kernel_rfl) (by kernel_rfl) (fun _ _ _ h => h) (by rfl) ?hyd5 (by assumption) ?restd5
                case hyd5 =>
                  intro w hSw
                  (try dsimp only at hSw)
                  go_simp
                  try with_reducible rfl
                try simp only [Act.put, List.setIfInBounds_toArray, List.set_cons_zero, List.set_cons_succ]
                refine take_on 6 46 (v := ?vd6) rfl rfl (by kernel_rfl) (by kernel_rfl) (by kernel_rfl) (fun _ _ _ h => h) (by rfl) ?hyd6 (by assumption) ?restd6
                case hyd6 =>
                  intro w hSw
                  (try dsimp only at hSw)
                  go_simp
                  try with_reducible rfl
                try simp only [Act.put, List.setIfInBounds_toArray, List.set_cons_zero, List.set_cons_succ]
                refine take_on 7 47 (v := ?vd7) rfl rfl (by kernel_rfl) (by kernel_rfl) (by kernel_rfl) (fun _ _ _ h => h) (by rfl) ?hyd7 (by assumption) ?restd7
                case hyd7 =>
                  intro w hSw
                  (try dsimp only at hSw)
                  go_simp
                  try with_reducible rfl
                try simp only [Act.put, List.setIfInBounds_toArray, List.set_cons_zero, List.set_cons_succ]
                refine take_on 8 48 (v := ?vd8) rfl rfl (by kernel_rfl) (by kernel_rfl) (by kernel_rfl) (fun _ _ _ h => h) (by rfl) ?hyd8 (by assumption) ?restd8
                case hyd8 =>
                  intro w hSw
                  (try dsimp only at hSw)
                  go_simp
                  try with_reducible rfl
                try simp only [Act.put, List.setIfInBounds_toArray, List.set_cons_zero, List.set_cons_succ]
                refine take_on 9 49 (v := ?vd9) rfl rfl (by kernel_rfl) (by kernel_rfl) (by kernel_rfl) (fun _ _ _ h => h) (by rfl) ?hyd9 (by assumption) ?restd9
                case hyd9 =>
                  intro w hSw
                  (try dsimp only at hSw)
                  go_simp
                  try with_reducible rfl
                try simp only [Act.put, List.setIfInBounds_toArray, List.set_cons_zero, List.set_cons_succ]
                refine take_on 10 50 (v := ?vd10) rfl rfl (by kernel_rfl) (by kernel_rfl) (by kernel_rfl) (fun _ _ _ h => h) (by rfl) ?hyd10 (by assumption) ?restd10
                case hyd10 =>
                  intro w hSw
                  (try dsimp only at hSw)
                  go_simp
                  try with_reducible rfl
                try simp only [Act.put, List.setIfInBounds_toArray, List.set_cons_zero, List.set_cons_succ]
                refine take_on 11 51 (v := ?vd11) rfl rfl (by kernel_rfl) (by kernel_rfl) (by kernel_rfl) (fun _ _ _ h => h) (by rfl) ?hyd11 (by assumption) ?restd11
                case hyd11 =>
                  intro w hSw
                  (try dsimp only at hSw)
                  go_simp
                  try with_reducible rfl
                try simp only [Act.put, List.setIfInBounds_toArray, List.set_cons_zero, List.set_cons_succ]
                refine take_on 12 52 (v := ?vd12) rfl rfl (by kernel_rfl) (by kernel_rfl) (by kernel_rfl) (fun _ _ _ h => h) (by rfl) ?hyd12 (by assumption) ?restd12
                case hyd12 =>
                  intro w hSw
                  (try dsimp only at hSw)
                  go_simp
                  try with_reducible rfl
                try simp only [Act.put, List.setIfInBounds_toArray, List.set_cons_zero, List.set_cons_succ]
                refine take_on 13 53 (v := ?vd13) rfl rfl (by kernel_rfl) (by kernel_rfl) (by kernel_rfl) (fun _ _ _ h => h) (by rfl) ?hyd13 (by assumption) ?restd13
                case hyd13 =>
                  intro w hSw
                  (try dsimp only at hSw)
                  go_simp
                  try with_reducible rfl
                try simp only [Act.put, List.setIfInBounds_toArray, List.set_cons_zero, List.set_cons_succ]
                refine take_on 14 54 (v := ?vd14) rfl rfl (by kernel_rfl) (by kernel_rfl) (by kernel_rfl) (fun _ _ _ h => h) (by rfl) ?hyd14 (by assumption) ?restd14
                case hyd14 =>
                  intro w hSw
                  (try dsimp only at hSw)
                  go_simp
                  try with_reducible rfl
                try simp only [Act.put, List.setIfInBounds_toArray, List.set_cons_zero, List.set_cons_succ]
                refine take_on 15 55 (v := ?vd15) rfl rfl (by kernel_rfl) (by kernel_rfl) (by kernel_rfl) (fun _ _ _ h => h) (by rfl) ?hyd15 (by assumption) ?restd15
                case hyd15 =>
                  intro w hSw
                  (try dsimp only at hSw)
                  go_simp
                  try with_reducible rfl
                try simp only [Act.put, List.setIfInBounds_toArray, List.set_cons_zero, List.set_cons_succ]
                refine take_on 16 56 (v := ?vd16) rfl rfl (by kernel_rfl) (by kernel_rfl) (by kernel_rfl) (fun _ _ _ h => h) (by rfl) ?hyd16 (by assumption) ?restd16
                case hyd16 =>
                  intro w hSw
                  (try dsimp only at hSw)
                  go_simp
                  try with_reducible rfl
                try simp only [Act.put, List.setIfInBounds_toArray, List.set_cons_zero, List.set_cons_succ]
                refine take_on 17 57 (v := ?vd17) rfl rfl (by kernel_rfl) (by kernel_rfl) (by kernel_rfl) (fun _ _ _ h => h) (by rfl) ?hyd17 (by assumption) ?restd17
                case hyd17 =>
                  intro w hSw
                  (try dsimp only at hSw)
                  go_simp
                  try with_reducible rfl
                try simp only [Act.put, List.setIfInBounds_toArray, List.set_cons_zero, List.set_cons_succ]
                refine take_on 18 58 (v := ?vd18) rfl rfl (by kernel_rfl) (by kernel_rfl) (by kernel_rfl) (fun _ _ _ h => h) (by rfl) ?hyd18 (by assumption) ?restd18
                case hyd18 =>
                  intro w hSw
                  (try dsimp only at hSw)
                  go_simp
                  try with_reducible rfl
                try simp only [Act.put, List.setIfInBounds_toArray, List.set_cons_zero, List.set_cons_succ]
                refine take_on 19 59 (v := ?vd19) rfl rfl (by kernel_rfl) (by kernel_rfl) (by kernel_rfl) (fun _ _ _ h => h) (by rfl) ?hyd19 (by assumption) ?restd19
                case hyd19 =>
                  intro w hSw
                  (try dsimp only at hSw)
                  go_simp
                  try with_reducible rfl
                try simp only [Act.put, List.setIfInBounds_toArray, List.set_cons_zero, List.set_cons_succ]
                refine take_on 20 60 (v := ?vd20) rfl rfl (by kernel_rfl) (by kernel_rfl) (by kernel_rfl) (fun _ _ _ h => h) (by rfl) ?hyd20 (by assumption) ?restd20
                case hyd20 =>
                  intro w hSw
                  (try dsimp only at hSw)
                  go_simp
                  try with_reducible rfl
                try simp only [Act.put, List.setIfInBounds_toArray, List.set_cons_zero, List.set_cons_succ]
                refine take_on 21 61 (v := ?vd21) rfl rfl (by kernel_rfl) (by kernel_rfl) (by kernel_rfl) (fun _ _ _ h => h) (by rfl) ?hyd21 (by assumption) ?restd21
                case hyd21 =>
                  intro w hSw
                  (try dsimp only at hSw)
                  go_simp
                  try with_reducible rfl
                try simp only [Act.put, List.setIfInBounds_toArray, List.set_cons_zero, List.set_cons_succ]
                refine take_on 22 62 (v := ?vd22) rfl rfl (by kernel_rfl) (by kernel_rfl) (by kernel_rfl) (fun _ _ _ h => h) (by rfl) ?hyd22 (by assumption) ?restd22
                case hyd22 =>
                  intro w hSw
                  (try dsimp only at hSw)
                  go_simp
                  try with_reducible rfl
                try simp only [Act.put, List.setIfInBounds_toArray, List.set_cons_zero, List.set_cons_succ]
                refine take_on 23 63 (v := ?vd23) rfl rfl (by kernel_rfl) (by kernel_rfl) (by kernel_rfl) (fun _ _ _ h => h) (by rfl) ?hyd23 (by assumption) ?restd23
                case hyd23 =>
                  intro w hSw
                  (try dsimp only at hSw)
                  go_simp
                  try with_reducible rfl
                try simp only [Act.put, List.setIfInBounds_toArray, List.set_cons_zero, List.set_cons_succ]
                refine take_on 24 64 (v := ?vd24) rfl rfl (by kernel_rfl) (by kernel_rfl) (by kernel_rfl) (fun _ _ _ h => h) (by rfl) ?hyd24 (by assumption) ?restd24
                case hyd24 =>
                  intro w hSw
                  (try dsimp only at hSw)
                  go_simp
                  try with_reducible rfl
                try simp only [Act.put, List.setIfInBounds_toArray, List.set_cons_zero, List.set_cons_succ]
                refine take_on 25 65 (v := ?vd25) rfl rfl (by kernel_rfl) (by kernel_rfl) (by kernel_rfl) (fun _ _ _ h => h) (by rfl) ?hyd25 (by assumption) ?restd25
                case hyd25 =>
                  intro w hSw
                  (try dsimp only at hSw)
                  go_simp
                  try with_reducible rfl
                try simp only [Act.put, List.setIfInBounds_toArray, List.set_cons_zero, List.set_cons_succ]
                refine take_on 26 66 (v := ?vd26) rfl rfl (by kernel_rfl) (by kernel_rfl) (by kernel_rfl) (fun _ _ _ h => h) (by rfl) ?hyd26 (by assumption) ?restd26
                case hyd26 =>
                  intro w hSw
                  (try dsimp only at hSw)
                  go_simp
                  try with_reducible rfl
                try simp only [Act.put, List.setIfInBounds_toArray, List.set_cons_zero, List.set_cons_succ]
                refine take_on 27 67 (v := ?vd27) rfl rfl (by kernel_rfl) (by kernel_rfl) (by kernel_rfl) (fun _ _ _ h => h) (by rfl) ?hyd27 (by assumption) ?restd27
                case hyd27 =>
                  intro w hSw
                  (try dsimp only at hSw)
                  go_simp
                  try with_reducible rfl
                try simp only [Act.put, List.setIfInBounds_toArray, List.set_cons_zero, List.set_cons_succ]
                refine take_on 28 68 (v := ?vd28) rfl rfl (by kernel_rfl) (by kernel_rfl) (by kernel_rfl) (fun _ _ _ h => h) (by rfl) ?hyd28 (by assumption) ?restd28
                case hyd28 =>
                  intro w hSw
                  (try dsimp only at hSw)
                  go_simp
                  try with_reducible rfl
                try simp only [Act.put, List.setIfInBounds_toArray, List.set_cons_zero, List.set_cons_succ]
                refine take_on 29 69 (v := ?vd29) rfl rfl (by kernel_rfl) (by kernel_rfl) (by kernel_rfl) (fun _ _ _ h => h) (by rfl) ?hyd29 (by assumption) ?restd29
                case hyd29 =>
                  intro w hSw
                  (try dsimp only at hSw)
                  go_simp
                  try with_reducible rfl
                try simp only [Act.put, List.setIfInBounds_toArray, List.set_cons_zero, List.set_cons_succ]
                refine wpAnyH_ready (rs := [30]) (by kernel_rfl) (by simp) ?_
                refine AllReadyH.cons rfl (fun K hK => ?_) AllReadyH.nil
                go_simp
                refine (containsI_any W2.drew x.node (HM2.out.row.arg.below (Below.refl _ W2).drew) (by have := hl; unfold maxLen; dsimp only; omega)).mono ?_
                rintro e w5 ⟨rfl, hb5⟩
                rw [HC4.out]
                have HB5 := Lib.hid ((Below.refl _ W2).drew.trans hb5)
                clear hb5
                simp only []
                refine hK.out _ _ (HS.out _ _ (HM2.out.below HB5.out) ((Keep.below HB5.out).mono (fun i q => Or.inr q))) (fun hHeld => ?_)
                clear hK K
                try simp only [Act.put, List.setIfInBounds_toArray, List.set_cons_zero, List.set_cons_succ]
                refine take_on 31 71 (v := ?vd31) rfl rfl (by kernel_rfl) (by kernel_rfl) (by kernel_rfl) (fun _ _ _ h => h) (by rfl) ?hyd31 (by assumption) ?restd31
                case hyd31 =>
                  intro w hSw
                  (try dsimp only at hSw)
                  go_simp
                  try with_reducible rfl
                try simp only [Act.put, List.setIfInBounds_toArray, List.set_cons_zero, List.set_cons_succ]
                refine take_on 32 72 (v := ?vd32) rfl rfl (by kernel_rfl) (by kernel_rfl) (by kernel_rfl) (fun _ _ _ h => h) (by rfl) ?hyd32 (by assumption) ?restd32
                case hyd32 =>
                  intro w hSw
                  (try dsimp only at hSw)
                  go_simp
                  try with_reducible rfl
                try simp only [Act.put, List.setIfInBounds_toArray, List.set_cons_zero, List.set_cons_succ]
                refine take_on 33 73 (v := ?vd33) rfl rfl (by kernel_rfl) (by kernel_rfl) (by kernel_rfl) (fun _ _ _ h => h) (by rfl) ?hyd33 (by assumption) ?restd33
                case hyd33 =>
                  intro w hSw
                  (try dsimp only at hSw)
                  go_simp
                  try with_reducible rfl
                try simp only [Act.put, List.setIfInBounds_toArray, List.set_cons_zero, List.set_cons_succ]
                refine take_off 34 74 rfl rfl (by kernel_rfl) (by kernel_rfl) (by kernel_rfl) (fun _ _ _ h => h) (by rfl) (by assumption) ?_
                try simp only [Act.put, List.setIfInBounds_toArray, List.set_cons_zero, List.set_cons_succ]
                refine take_off 35 75 rfl rfl (by kernel_rfl) (by kernel_rfl) (by kernel_rfl) (fun _ _ _ h => h) (by rfl) (by assumption) ?_
                try simp only [Act.put, List.setIfInBounds_toArray, List.set_cons_zero, List.set_cons_succ]
                refine take_off 36 76 rfl rfl (by kernel_rfl) (by kernel_rfl) (by kernel_rfl) (fun _ _ _ h => h) (by rfl) (by assumption) ?_
                try simp only [Act.put, List.setIfInBounds_toArray, List.set_cons_zero, List.set_cons_succ]
                refine take_off 37 77 rfl rfl (by kernel_rfl) (by kernel_rfl) (by kernel_rfl) (fun _ _ _ h => h) (by rfl) (by assumption) ?_
                try simp only [Act.put, List.setIfInBounds_toArray, List.set_cons_zero, List.set_cons_succ]
                refine take_off 38 78 rfl rfl (by kernel_rfl) (by kernel_rfl) (by kernel_rfl) (fun _ _ _ h => h) (by rfl) (by assumption) ?_
                try simp only [Act.put, List.setIfInBounds_toArray, List.set_cons_zero, List.set_cons_succ]
                refine take_off 39 79 rfl rfl (by kernel_rfl) (by kernel_rfl) (by kernel_rfl) (fun _ _ _ h => h) (by rfl) (by assumption) ?_
                try simp only [Act.put, List.setIfInBounds_toArray, List.set_cons_zero, List.set_cons_succ]
                refine take_off 40 80 rfl rfl (by kernel_rfl) (by kernel_rfl) (by kernel_rfl) (fun _ _ _ h => h) (by rfl) (by assumption) ?_
                try simp only [Act.put, List.setIfInBounds_toArray, List.set_cons_zero, List.set_cons_succ]
                refine take_off 41 81 rfl rfl (by kernel_rfl) (by kernel_rfl) (by kernel_rfl) (fun _ _ _ h => h) (by rfl) (by assumption) ?_
                try simp only [Act.put, List.setIfInBounds_toArray, List.set_cons_zero, List.set_cons_succ]
                refine take_on 42 82 (v := ?vd42) rfl rfl (by kernel_rfl) (by kernel_rfl) (by kernel_rfl) (fun _ _ _ h => h) (by rfl) ?hyd42 (by assumption) ?restd42
                case hyd42 =>
                  intro w hSw
                  (try dsimp only at hSw)
                  go_simp
                  try with_reducible rfl
                try simp only [Act.put, List.setIfInBounds_toArray, List.set_cons_zero, List.set_cons_succ]
                refine wpAnyH_ready (rs := [43]) (by kernel_rfl) (by simp) ?_
                refine AllReadyH.cons rfl (fun K hK => ?_) AllReadyH.nil
                go_simp
                refine (must_any false (HM2.out.below HB5.out)).mono ?_
                rintro e w6 ⟨rfl, hm6, hk6⟩
                have HM6 := Lib.hid hm6
                have HK7 := Lib.hid (show Keep (fun i => i = gm) W2 w6 from ((Keep.below HB5.out).mono (fun i q => Or.inr q)).trans hk6)
                have hS6 := HS.out w6 _ HM6.out HK7.out
                clear hm6 hk6
                simp only []
                refine hK.out _ _ hS6 (fun hHeld => ?_)
                clear hK K
                try simp only [Act.put, List.setIfInBounds_toArray, List.set_cons_zero, List.set_cons_succ]
                refine wpAnyH_done (by kernel_rfl) ?_ _
                go_wp2
                go_meet
                case rel =>
                  refine ⟨?_, HK7.out⟩
                  have h := HM6.out
                  have e0 : entOk2 cookie s names x = false := by
                    unfold entOk2
                    rw [D1.out, D2.out, decide_eq_true (show x.cookie ∉ s.cks from p3), decide_eq_false (fun q => q p4)]; rfl
                  rw [e0]
                  exact h
              · have HC4 := Lib.hid (show decide (x.node ∈ s.nodes) = false from decide_eq_false p4)
                by_cases p5 : x.name ∈ names
                · have HS := Lib.hid (show ∀ w' b, MkC w0 w' gm bd bc (.slice na s.nodes.length nc) (.map (some bn)) cookie { s with bad := b } → Keep (fun i => i = gm) W2 w' → (w'.cell? ⟨gm, 0, none⟩ = some (.int .i64 cookie) ∧ w'.cell? ⟨gm, 2, none⟩ = some (.slice na s.nodes.length nc) ∧ w'.cell? ⟨gm, 3, none⟩ = some (.map (some bc)) ∧ w'.cell? ⟨gm, 4, none⟩ = some (.map (some bn)) ∧ w'.cell? ⟨B, 0, none⟩ = some (.string x.name) ∧ w'.cell? ⟨B, 1, none⟩ = some (.int .i64 x.node) ∧ w'.cell? ⟨B, 3, none⟩ = some (.int .i64 x.cookie) ∧ (Instr.lookup 104 (.map (some bc)) (.int .i64 x.cookie) false).run Tryz.prog w' = .ok (.int .i64 0) w' ∧ (Instr.lookup 105 (.map (some bn)) (.string x.name) false).run Tryz.prog w' = .ok (.int .i64 1) w') from fun w' b hm k => by
                    obtain ⟨z0, z2, z3, z4, y0, y1, y3⟩ := HC0.out w' b hm k
                    have zc := HLC.out w' k
                    have zn := HLN.out w' k
                    rw [if_neg p3] at zc
                    rw [if_pos p5] at zn
                    exact ⟨z0, z2, z3, z4, y0, y1, y3, zc, zn⟩)
                  refine wp_region_held_drew (S := fun w' => w'.cell? ⟨gm, 0, none⟩ = some (.int .i64 cookie) ∧ w'.cell? ⟨gm, 2, none⟩ = some (.slice na s.nodes.length nc) ∧ w'.cell? ⟨gm, 3, none⟩ = some (.map (some bc)) ∧ w'.cell? ⟨gm, 4, none⟩ = some (.map (some bn)) ∧ w'.cell? ⟨B, 0, none⟩ = some (.string x.name) ∧ w'.cell? ⟨B, 1, none⟩ = some (.int .i64 x.node) ∧ w'.cell? ⟨B, 3, none⟩ = some (.int .i64 x.cookie) ∧ (Instr.lookup 104 (.map (some bc)) (.int .i64 x.cookie) false).run Tryz.prog w' = .ok (.int .i64 0) w' ∧ (Instr.lookup 105 (.map (some bn)) (.string x.name) false).run Tryz.prog w' = .ok (.int .i64 1) w') (by kernel_rfl) (HS.out _ _ (HM2.out.below (Below.refl _ W2).drew) (Keep.refl _ W2).drew) (fun hHeld => ?_)
                  refine take_on 0 40 (v := ?vb0) rfl rfl (by kernel_rfl) (by kernel_rfl) (by kernel_rfl) (fun _ _ _ h => h) (by rfl) ?hyb0 (by assumption) ?restb0
                  case hyb0 =>
                    intro w hSw
                    (try dsimp only at hSw)
                    go_simp
                    try with_reducible rfl
                  try simp only [Act.put, List.setIfInBounds_toArray, List.set_cons_zero, List.set_cons_succ]
                  refine take_on 1 41 (v := ?vb1) rfl rfl (by kernel_rfl) (by kernel_rfl) (by kernel_rfl) (fun _ _ _ h => h) (by rfl) ?hyb1 (by assumption) ?restb1
                  case hyb1 =>
                    intro w hSw
                    (try dsimp only at hSw)
                    go_simp
                    try with_reducible rfl
                  try simp only [Act.put, List.setIfInBounds_toArray, List.set_cons_zero, List.set_cons_succ]
                  refine take_on 2 42 (v := ?vb2) rfl rfl (by kernel_rfl) (by kernel_rfl) (by kernel_rfl) (fun _ _ _ h => h) (by rfl) ?hyb2 (by assumption) ?restb2
                  case hyb2 =>
                    intro w hSw
                    (try dsimp only at hSw)
                    go_simp
                    try with_reducible rfl
                  try simp only [Act.put, List.setIfInBounds_toArray, List.set_cons_zero, List.set_cons_succ]
                  refine take_on 3 43 (v := ?vb3) rfl rfl (by kernel_rfl) (by kernel_rfl) (by kernel_rfl) (fun _ _ _ h => h) (by rfl) ?hyb3 (by assumption) ?restb3
                  case hyb3 =>
                    intro w hSw
                    (try dsimp only at hSw)
                    go_simp
                    try with_reducible rfl
                  try simp only [Act.put, List.setIfInBounds_toArray, List.set_cons_zero, List.set_cons_succ]
                  refine take_on 4 44 (v := ?vb4) rfl rfl (by kernel_rfl) (by kernel_rfl) (by kernel_rfl) (fun _ _ _ h => h) (by rfl) ?hyb4 (by assumption) ?restb4
                  case hyb4 =>
                    intro w hSw
                    (try dsimp only at hSw)
                    go_simp
                    try with_reducible rfl
                  try simp only [Act.put, List.setIfInBounds_toArray, List.set_cons_zero, List.set_cons_succ]
                  refine take_on 5 45 (v := ?vb5) rfl rfl (by kernel_rfl) (by kernel_rfl) (by kernel_rfl) (fun _ _ _ h => h) (by rfl) ?hyb5 (by assumption) ?restb5
                  case hyb5 =>
                    intro w hSw
                    (try dsimp only at hSw)
                    go_simp
                    try with_reducible rfl
                  try simp only [Act.put, List.setIfInBounds_toArray, List.set_cons_zero, List.set_cons_succ]
                  refine take_on 6 46 (v := ?vb6) rfl rfl (by kernel_rfl) (by kernel_rfl) (by kernel_rfl) (fun _ _ _ h => h) (by rfl) ?hyb6 (by assumption) ?restb6
                  case hyb6 =>
                    intro w hSw
                    (try dsimp only at hSw)
                    go_simp
                    try with_reducible rfl
                  try simp only [Act.put, List.setIfInBounds_toArray, List.set_cons_zero, List.set_cons_succ]
                  refine take_on 7 47 (v := ?vb7) rfl rfl (by kernel_rfl) (by kernel_rfl) (by kernel_rfl) (fun _ _ _ h => h) (by rfl) ?hyb7 (by assumption) ?restb7
                  case hyb7 =>
                    intro w hSw
                    (try dsimp only at hSw)
                    go_simp
                    try with_reducible rfl
                  try simp only [Act.put, List.setIfInBounds_toArray, List.set_cons_zero, List.set_cons_succ]
                  refine take_on 8 48 (v := ?vb8) rfl rfl (by kernel_rfl) (by kernel_rfl) (by kernel_rfl) (fun _ _ _ h => h) (by rfl) ?hyb8 (by assumption) ?restb8
                  case hyb8 =>
                    intro w hSw
                    (try dsimp only at hSw)
                    go_simp
                    try with_reducible rfl
                  try simp only [Act.put, List.setIfInBounds_toArray, List.set_cons_zero, List.set_cons_succ]
                  refine take_on 9 49 (v := ?vb9) rfl rfl (by kernel_rfl) (by kernel_rfl) (by kernel_rfl) (fun _ _ _ h => h) (by rfl) ?hyb9 (by assumption) ?restb9
                  case hyb9 =>
                    intro w hSw
                    (try dsimp only at hSw)
                    go_simp
                    try with_reducible rfl
                  try simp only [Act.put, List.setIfInBounds_toArray, List.set_cons_zero, List.set_cons_succ]
                  refine take_on 10 50 (v := ?vb10) rfl rfl (by kernel_rfl) (by kernel_rfl) (by kernel_rfl) (fun _ _ _ h => h) (by rfl) ?hyb10 (by assumption) ?restb10
                  case hyb10 =>
                    intro w hSw
                    (try dsimp only at hSw)
                    go_simp
                    try with_reducible rfl
                  try simp only [Act.put, List.setIfInBounds_toArray, List.set_cons_zero, List.set_cons_succ]
                  refine take_on 11 51 (v := ?vb11) rfl rfl (by kernel_rfl) (by kernel_rfl) (by kernel_rfl) (fun _ _ _ h => h) (by rfl) ?hyb11 (by assumption) ?restb11
                  case hyb11 =>
                    intro w hSw
                    (try dsimp only at hSw)
                    go_simp
                    try with_reducible rfl
                  try simp only [Act.put, List.setIfInBounds_toArray, List.set_cons_zero, List.set_cons_succ]
                  refine take_on 12 52 (v := ?vb12) rfl rfl (by kernel_rfl) (by kernel_rfl) (by kernel_rfl) (fun _ _ _ h => h) (by rfl) ?hyb12 (by assumption) ?restb12
                  case hyb12 =>
                    intro w hSw
                    (try dsimp only at hSw)
                    go_simp
                    try with_reducible rfl
                  try simp only [Act.put, List.setIfInBounds_toArray, List.set_cons_zero, List.set_cons_succ]
                  refine take_on 13 53 (v := ?vb13) rfl rfl (by kernel_rfl) (by kernel_rfl) (by kernel_rfl) (fun _ _ _ h => h) (by rfl) ?hyb13 (by assumption) ?restb13
                  case hyb13 =>
                    intro w hSw
                    (try dsimp only at hSw)
                    go_simp
                    try with_reducible rfl
                  try simp only [Act.put, List.setIfInBounds_toArray, List.set_cons_zero, List.set_cons_succ]
                  refine take_on 14 54 (v := ?vb14) rfl rfl (by kernel_rfl) (by kernel_rfl) (by kernel_rfl) (fun _ _ _ h => h) (by rfl) ?hyb14 (by assumption) ?restb14
                  case hyb14 =>
                    intro w hSw
                    (try dsimp only at hSw)
                    go_simp
                    try with_reducible rfl
                  try simp only [Act.put, List.setIfInBounds_toArray, List.set_cons_zero, List.set_cons_succ]
                  refine take_on 15 55 (v := ?vb15) rfl rfl (by kernel_rfl) (by kernel_rfl) (by kernel_rfl) (fun _ _ _ h => h) (by rfl) ?hyb15 (by assumption) ?restb15
                  case hyb15 =>
                    intro w hSw
                    (try dsimp only at hSw)
                    go_simp
                    try with_reducible rfl
                  try simp only [Act.put, List.setIfInBounds_toArray, List.set_cons_zero, List.set_cons_succ]
                  refine take_on 16 56 (v := ?vb16) rfl rfl (by kernel_rfl) (by kernel_rfl) (by kernel_rfl) (fun _ _ _ h => h) (by rfl) ?hyb16 (by assumption) ?restb16
                  case hyb16 =>
                    intro w hSw
                    (try dsimp only at hSw)
                    go_simp
                    try with_reducible rfl
                  try simp only [Act.put, List.setIfInBounds_toArray, List.set_cons_zero, List.set_cons_succ]
                  refine take_on 17 57 (v := ?vb17) rfl rfl (by kernel_rfl) (by kernel_rfl) (by kernel_rfl) (fun _ _ _ h => h) (by rfl) ?hyb17 (by assumption) ?restb17
                  case hyb17 =>
                    intro w hSw
                    (try dsimp only at hSw)
                    go_simp
                    try with_reducible rfl
                  try simp only [Act.put, List.setIfInBounds_toArray, List.set_cons_zero, List.set_cons_succ]
                  refine take_on 18 58 (v := ?vb18) rfl rfl (by kernel_rfl) (by kernel_rfl) (by kernel_rfl) (fun _ _ _ h => h) (by rfl) ?hyb18 (by assumption) ?restb18
                  case hyb18 =>
                    intro w hSw
                    (try dsimp only at hSw)
                    go_simp
                    try with_reducible rfl
                  try simp only [Act.put, List.setIfInBounds_toArray, List.set_cons_zero, List.set_cons_succ]
                  refine take_on 19 59 (v := ?vb19) rfl rfl (by kernel_rfl) (by kernel_rfl) (by kernel_rfl) (fun _ _ _ h => h) (by rfl) ?hyb19 (by assumption) ?restb19
                  case hyb19 =>
                    intro w hSw
                    (try dsimp only at hSw)
                    go_simp
                    try with_reducible rfl
                  try simp only [Act.put, List.setIfInBounds_toArray, List.set_cons_zero, List.set_cons_succ]
                  refine take_on 20 60 (v := ?vb20) rfl rfl (by kernel_rfl) (by kernel_rfl) (by kernel_rfl) (fun _ _ _ h => h) (by rfl) ?hyb20 (by assumption) ?restb20
                  case hyb20 =>
                    intro w hSw
                    (try dsimp only at hSw)
                    go_simp
                    try with_reducible rfl
                  try simp only [Act.put, List.setIfInBounds_toArray, List.set_cons_zero, List.set_cons_succ]
                  refine take_on 21 61 (v := ?vb21) rfl rfl (by kernel_rfl) (by kernel_rfl) (by kernel_rfl) (fun _ _ _ h => h) (by rfl) ?hyb21 (by assumption) ?restb21
                  case hyb21 =>
                    intro w hSw
                    (try dsimp only at hSw)
                    go_simp
                    try with_reducible rfl
                  try simp only [Act.put, List.setIfInBounds_toArray, List.set_cons_zero, List.set_cons_succ]
                  refine take_on 22 62 (v := ?vb22) rfl rfl (by kernel_rfl) (by kernel_rfl) (by kernel_rfl) (fun _ _ _ h => h) (by rfl) ?hyb22 (by assumption) ?restb22
                  case hyb22 =>
                    intro w hSw
                    (try dsimp only at hSw)
                    go_simp
                    try with_reducible rfl
                  try simp only [Act.put, List.setIfInBounds_toArray, List.set_cons_zero, List.set_cons_succ]
                  refine take_on 23 63 (v := ?vb23) rfl rfl (by kernel_rfl) (by kernel_rfl) (by kernel_rfl) (fun _ _ _ h => h) (by rfl) ?hyb23 (by assumption) ?restb23
                  case hyb23 =>
                    intro w hSw
                    (try dsimp only at hSw)
                    go_simp
                    try with_reducible rfl
                  try simp only [Act.put, List.setIfInBounds_toArray, List.set_cons_zero, List.set_cons_succ]
                  refine take_on 24 64 (v := ?vb24) rfl rfl (by kernel_rfl) (by kernel_rfl) (by kernel_rfl) (fun _ _ _ h => h) (by rfl) ?hyb24 (by assumption) ?restb24
                  case hyb24 =>
                    intro w hSw
                    (try dsimp only at hSw)
                    go_simp
                    try with_reducible rfl
                  try simp only [Act.put, List.setIfInBounds_toArray, List.set_cons_zero, List.set_cons_succ]
                  refine take_on 25 65 (v := ?vb25) rfl rfl (by kernel_rfl) (by kernel_rfl) (by kernel_rfl) (fun _ _ _ h => h) (by rfl) ?hyb25 (by assumption) ?restb25
                  case hyb25 =>
                    intro w hSw
                    (try dsimp only at hSw)
                    go_simp
                    try with_reducible rfl
                  try simp only [Act.put, List.setIfInBounds_toArray, List.set_cons_zero, List.set_cons_succ]
                  refine take_on 26 66 (v := ?vb26) rfl rfl (by kernel_rfl) (by kernel_rfl) (by kernel_rfl) (fun _ _ _ h => h) (by rfl) ?hyb26 (by assumption) ?restb26
                  case hyb26 =>
                    intro w hSw
                    (try dsimp only at hSw)
                    go_simp
                    try with_reducible rfl
                  try simp only [Act.put, List.setIfInBounds_toArray, List.set_cons_zero, List.set_cons_succ]
                  refine take_on 27 67 (v := ?vb27) rfl rfl (by kernel_rfl) (by kernel_rfl) (by kernel_rfl) (fun _ _ _ h => h) (by rfl) ?hyb27 (by assumption) ?restb27
                  case hyb27 =>
                    intro w hSw
                    (try dsimp only at hSw)
                    go_simp
                    try with_reducible rfl
                  try simp only [Act.put, List.setIfInBounds_toArray, List.set_cons_zero, List.set_cons_succ]
                  refine take_on 28 68 (v := ?vb28) rfl rfl (by kernel_rfl) (by kernel_rfl) (by kernel_rfl) (fun _ _ _ h => h) (by rfl) ?hyb28 (by assumption) ?restb28
                  case hyb28 =>
                    intro w hSw
                    (try dsimp only at hSw)
                    go_simp
                    try with_reducible rfl
                  try simp only [Act.put, List.setIfInBounds_toArray, List.set_cons_zero, List.set_cons_succ]
                  refine take_on 29 69 (v := ?vb29) rfl rfl (by kernel_rfl) (by kernel_rfl) (by kernel_rfl) (fun _ _ _ h => h) (by rfl) ?hyb29 (by assumption) ?restb29
                  case hyb29 =>
                    intro w hSw
                    (try dsimp only at hSw)
                    go_simp
                    try with_reducible rfl
                  try simp only [Act.put, List.setIfInBounds_toArray, List.set_cons_zero, List.set_cons_succ]
                  refine wpAnyH_ready (rs := [30]) (by kernel_rfl) (by simp) ?_
                  refine AllReadyH.cons rfl (fun K hK => ?_) AllReadyH.nil
                  go_simp
                  refine (containsI_any W2.drew x.node (HM2.out.row.arg.below (Below.refl _ W2).drew) (by have := hl; unfold maxLen; dsimp only; omega)).mono ?_
                  rintro e w5 ⟨rfl, hb5⟩
                  rw [HC4.out]
                  have HB5 := Lib.hid ((Below.refl _ W2).drew.trans hb5)
                  clear hb5
                  simp only []
                  refine hK.out _ _ (HS.out _ _ (HM2.out.below HB5.out) ((Keep.below HB5.out).mono (fun i q => Or.inr q))) (fun hHeld => ?_)
                  clear hK K
                  try simp only [Act.put, List.setIfInBounds_toArray, List.set_cons_zero, List.set_cons_succ]
                  refine take_on 31 71 (v := ?vb31) rfl rfl (by kernel_rfl) (by kernel_rfl) (by kernel_rfl) (fun _ _ _ h => h) (by rfl) ?hyb31 (by assumption) ?restb31
                  case hyb31 =>
                    intro w hSw
                    (try dsimp only at hSw)
                    go_simp
                    try with_reducible rfl
                  try simp only [Act.put, List.setIfInBounds_toArray, List.set_cons_zero, List.set_cons_succ]
                  refine take_on 32 72 (v := ?vb32) rfl rfl (by kernel_rfl) (by kernel_rfl) (by kernel_rfl) (fun _ _ _ h => h) (by rfl) ?hyb32 (by assumption) ?restb32
                  case hyb32 =>
                    intro w hSw
                    (try dsimp only at hSw)
                    go_simp
                    try with_reducible rfl
                  try simp only [Act.put, List.setIfInBounds_toArray, List.set_cons_zero, List.set_cons_succ]
                  refine take_on 33 73 (v := ?vb33) rfl rfl (by kernel_rfl) (by kernel_rfl) (by kernel_rfl) (fun _ _ _ h => h) (by rfl) ?hyb33 (by assumption) ?restb33
                  case hyb33 =>
                    intro w hSw
                    (try dsimp only at hSw)
                    go_simp
                    try with_reducible rfl
                  try simp only [Act.put, List.setIfInBounds_toArray, List.set_cons_zero, List.set_cons_succ]
                  refine take_on 34 74 (v := ?vb34) rfl rfl (by kernel_rfl) (by kernel_rfl) (by kernel_rfl) (fun _ _ _ h => h) (by rfl) ?hyb34 (by assumption) ?restb34
                  case hyb34 =>
                    intro w hSw
                    (try dsimp only at hSw)
                    go_simp
                    try with_reducible rfl
                  try simp only [Act.put, List.setIfInBounds_toArray, List.set_cons_zero, List.set_cons_succ]
                  refine take_on 35 75 (v := ?vb35) rfl rfl (by kernel_rfl) (by kernel_rfl) (by kernel_rfl) (fun _ _ _ h => h) (by rfl) ?hyb35 (by assumption) ?restb35
                  case hyb35 =>
                    intro w hSw
                    (try dsimp only at hSw)
                    go_simp
                    try with_reducible rfl
                  try simp only [Act.put, List.setIfInBounds_toArray, List.set_cons_zero, List.set_cons_succ]
                  refine take_on 36 76 (v := ?vb36) rfl rfl (by kernel_rfl) (by kernel_rfl) (by kernel_rfl) (fun _ _ _ h => h) (by rfl) ?hyb36 (by assumption) ?restb36
                  case hyb36 =>
                    intro w hSw
                    (try dsimp only at hSw)
                    go_simp
                    try with_reducible rfl
                  try simp only [Act.put, List.setIfInBounds_toArray, List.set_cons_zero, List.set_cons_succ]
                  refine take_on 37 77 (v := ?vb37) rfl rfl (by kernel_rfl) (by kernel_rfl) (by kernel_rfl) (fun _ _ _ h => h) (by rfl) ?hyb37 (by assumption) ?restb37
                  case hyb37 =>
                    intro w hSw
                    (try dsimp only at hSw)
                    go_simp
                    try with_reducible rfl
                  try simp only [Act.put, List.setIfInBounds_toArray, List.set_cons_zero, List.set_cons_succ]
                  refine take_on 38 78 (v := ?vb38) rfl rfl (by kernel_rfl) (by kernel_rfl) (by kernel_rfl) (fun _ _ _ h => h) (by rfl) ?hyb38 (by assumption) ?restb38
                  case hyb38 =>
                    intro w hSw
                    (try dsimp only at hSw)
                    go_simp
                    try with_reducible rfl
                  try simp only [Act.put, List.setIfInBounds_toArray, List.set_cons_zero, List.set_cons_succ]
                  refine take_on 39 79 (v := ?vb39) rfl rfl (by kernel_rfl) (by kernel_rfl) (by kernel_rfl) (fun _ _ _ h => h) (by rfl) ?hyb39 (by assumption) ?restb39
                  case hyb39 =>
                    intro w hSw
                    (try dsimp only at hSw)
                    go_simp
                    try with_reducible rfl
                  try simp only [Act.put, List.setIfInBounds_toArray, List.set_cons_zero, List.set_cons_succ]
                  refine take_on 40 80 (v := ?vb40) rfl rfl (by kernel_rfl) (by kernel_rfl) (by kernel_rfl) (fun _ _ _ h => h) (by rfl) ?hyb40 (by assumption) ?restb40
                  case hyb40 =>
                    intro w hSw
                    (try dsimp only at hSw)
                    go_simp
                    try with_reducible rfl
                  try simp only [Act.put, List.setIfInBounds_toArray, List.set_cons_zero, List.set_cons_succ]
                  refine take_on 41 81 (v := ?vb41) rfl rfl (by kernel_rfl) (by kernel_rfl) (by kernel_rfl) (fun _ _ _ h => h) (by rfl) ?hyb41 (by assumption) ?restb41
                  case hyb41 =>
                    intro w hSw
                    (try dsimp only at hSw)
                    go_simp
                    try with_reducible rfl
                  try simp only [Act.put, List.setIfInBounds_toArray, List.set_cons_zero, List.set_cons_succ]
                  refine take_on 42 82 (v := ?vb42) rfl rfl (by kernel_rfl) (by kernel_rfl) (by kernel_rfl) (fun _ _ _ h => h) (by rfl) ?hyb42 (by assumption) ?restb42
                  case hyb42 =>
                    intro w hSw
                    (try dsimp only at hSw)
                    go_simp
                    try with_reducible rfl
                  try simp only [Act.put, List.setIfInBounds_toArray, List.set_cons_zero, List.set_cons_succ]
                  refine wpAnyH_ready (rs := [43]) (by kernel_rfl) (by simp) ?_
                  refine AllReadyH.cons rfl (fun K hK => ?_) AllReadyH.nil
                  go_simp
                  refine (must_any false (HM2.out.below HB5.out)).mono ?_
                  rintro e w6 ⟨rfl, hm6, hk6⟩
                  have HM6 := Lib.hid hm6
                  have HK7 := Lib.hid (show Keep (fun i => i = gm) W2 w6 from ((Keep.below HB5.out).mono (fun i q => Or.inr q)).trans hk6)
                  have hS6 := HS.out w6 _ HM6.out HK7.out
                  clear hm6 hk6
                  simp only []
                  refine hK.out _ _ hS6 (fun hHeld => ?_)
                  clear hK K
                  try simp only [Act.put, List.setIfInBounds_toArray, List.set_cons_zero, List.set_cons_succ]
                  refine wpAnyH_done (by kernel_rfl) ?_ _
                  go_wp2
                  go_meet
                  case rel =>
                    refine ⟨?_, HK7.out⟩
                    have h := HM6.out
                    have e0 : entOk2 cookie s names x = false := by
                      unfold entOk2
                      rw [D1.out, D2.out, decide_eq_true (show x.cookie ∉ s.cks from p3), decide_eq_true (show x.node ∉ s.nodes from p4), decide_eq_false (fun q => q p5)]; rfl
                    rw [e0]
                    exact h
                · have HS := Lib.hid (show ∀ w' b, MkC w0 w' gm bd bc (.slice na s.nodes.length nc) (.map (some bn)) cookie { s with bad := b } → Keep (fun i => i = gm) W2 w' → (w'.cell? ⟨gm, 0, none⟩ = some (.int .i64 cookie) ∧ w'.cell? ⟨gm, 2, none⟩ = some (.slice na s.nodes.length nc) ∧ w'.cell? ⟨gm, 3, none⟩ = some (.map (some bc)) ∧ w'.cell? ⟨gm, 4, none⟩ = some (.map (some bn)) ∧ w'.cell? ⟨B, 0, none⟩ = some (.string x.name) ∧ w'.cell? ⟨B, 1, none⟩ = some (.int .i64 x.node) ∧ w'.cell? ⟨B, 3, none⟩ = some (.int .i64 x.cookie) ∧ (Instr.lookup 104 (.map (some bc)) (.int .i64 x.cookie) false).run Tryz.prog w' = .ok (.int .i64 0) w' ∧ (Instr.lookup 105 (.map (some bn)) (.string x.name) false).run Tryz.prog w' = .ok (.int .i64 0) w') from fun w' b hm k => by
                    obtain ⟨z0, z2, z3, z4, y0, y1, y3⟩ := HC0.out w' b hm k
                    have zc := HLC.out w' k
                    have zn := HLN.out w' k
                    rw [if_neg p3] at zc
                    rw [if_neg p5] at zn
                    exact ⟨z0, z2, z3, z4, y0, y1, y3, zc, zn⟩)
                  refine wp_region_held_drew (S := fun w' => w'.cell? ⟨gm, 0, none⟩ = some (.int .i64 cookie) ∧ w'.cell? ⟨gm, 2, none⟩ = some (.slice na s.nodes.length nc) ∧ w'.cell? ⟨gm, 3, none⟩ = some (.map (some bc)) ∧ w'.cell? ⟨gm, 4, none⟩ = some (.map (some bn)) ∧ w'.cell? ⟨B, 0, none⟩ = some (.string x.name) ∧ w'.cell? ⟨B, 1, none⟩ = some (.int .i64 x.node) ∧ w'.cell? ⟨B, 3, none⟩ = some (.int .i64 x.cookie) ∧ (Instr.lookup 104 (.map (some bc)) (.int .i64 x.cookie) false).run Tryz.prog w' = .ok (.int .i64 0) w' ∧ (Instr.lookup 105 (.map (some bn)) (.string x.name) false).run Tryz.prog w' = .ok (.int .i64 0) w') (by kernel_rfl) (HS.out _ _ (HM2.out.below (Below.refl _ W2).drew) (Keep.refl _ W2).drew) (fun hHeld => ?_)
                  refine take_on 0 40 (v := ?vc0) rfl rfl (by kernel_rfl) (by kernel_rfl) (by kernel_rfl) (fun _ _ _ h => h) (by rfl) ?hyc0 (by assumption) ?restc0
                  case hyc0 =>
                    intro w hSw
                    (try dsimp only at hSw)
                    go_simp
                    try with_reducible rfl
                  try simp only [Act.put, List.setIfInBounds_toArray, List.set_cons_zero, List.set_cons_succ]
                  refine take_on 1 41 (v := ?vc1) rfl rfl (by kernel_rfl) (by kernel_rfl) (by kernel_rfl) (fun _ _ _ h => h) (by rfl) ?hyc1 (by assumption) ?restc1
                  case hyc1 =>
                    intro w hSw
                    (try dsimp only at hSw)
                    go_simp
                    try with_reducible rfl
                  try simp only [Act.put, List.setIfInBounds_toArray, List.set_cons_zero, List.set_cons_succ]
                  refine take_on 2 42 (v := ?vc2) rfl rfl (by kernel_rfl) (by kernel_rfl) (by kernel_rfl) (fun _ _ _ h => h) (by rfl) ?hyc2 (by assumption) ?restc2
                  case hyc2 =>
                    intro w hSw
                    (try dsimp only at hSw)
                    go_simp
                    try with_reducible rfl
                  try simp only [Act.put, List.setIfInBounds_toArray, List.set_cons_zero, List.set_cons_succ]
                  refine take_on 3 43 (v := ?vc3) rfl rfl (by kernel_rfl) (by kernel_rfl) (by kernel_rfl) (fun _ _ _ h => h) (by rfl) ?hyc3 (by assumption) ?restc3
                  case hyc3 =>
                    intro w hSw
                    (try dsimp only at hSw)
                    go_simp
                    try with_reducible rfl
                  try simp only [Act.put, List.setIfInBounds_toArray, List.set_cons_zero, List.set_cons_succ]
                  refine take_on 4 44 (v := ?vc4) rfl rfl (by kernel_rfl) (by kernel_rfl) (by kernel_rfl) (fun _ _ _ h => h) (by rfl) ?hyc4 (by assumption) ?restc4
                  case hyc4 =>
                    intro w hSw
                    (try dsimp only at hSw)
                    go_simp
                    try with_reducible rfl
                  try simp only [Act.put, List.setIfInBounds_toArray, List.set_cons_zero, List.set_cons_succ]
                  refine take_on 5 45 (v := ?vc5) rfl rfl (by kernel_rfl) (by kernel_rfl) (by kernel_rfl) (fun _ _ _ h => h) (by rfl) ?hyc5 (by assumption) ?restc5
                  case hyc5 =>
                    intro w hSw
                    (try dsimp only at hSw)
                    go_simp
                    try with_reducible rfl
                  try simp only [Act.put, List.setIfInBounds_toArray, List.set_cons_zero, List.set_cons_succ]
                  refine take_on 6 46 (v := ?vc6) rfl rfl (by kernel_rfl) (by kernel_rfl) (by kernel_rfl) (fun _ _ _ h => h) (by rfl) ?hyc6 (by assumption) ?restc6
                  case hyc6 =>
                    intro w hSw
                    (try dsimp only at hSw)
                    go_simp
                    try with_reducible rfl
                  try simp only [Act.put, List.setIfInBounds_toArray, List.set_cons_zero, List.set_cons_succ]
                  refine take_on 7 47 (v := ?vc7) rfl rfl (by kernel_rfl) (by kernel_rfl) (by kernel_rfl) (fun _ _ _ h => h) (by rfl) ?hyc7 (by assumption) ?restc7
                  case hyc7 =>
                    intro w hSw
                    (try dsimp only at hSw)
                    go_simp
                    try with_reducible rfl
                  try simp only [Act.put, List.setIfInBounds_toArray, List.set_cons_zero, List.set_cons_succ]
                  refine take_on 8 48 (v := ?vc8) rfl rfl (by kernel_rfl) (by kernel_rfl) (by kernel_rfl) (fun _ _ _ h => h) (by rfl) ?hyc8 (by assumption) ?restc8
                  case hyc8 =>
                    intro w hSw
                    (try dsimp only at hSw)
                    go_simp
                    try with_reducible rfl
                  try simp only [Act.put, List.setIfInBounds_toArray, List.set_cons_zero, List.set_cons_succ]
                  refine take_on 9 49 (v := ?vc9) rfl rfl (by kernel_rfl) (by kernel_rfl) (by kernel_rfl) (fun _ _ _ h => h) (by rfl) ?hyc9 (by assumption) ?restc9
                  case hyc9 =>
                    intro w hSw
                    (try dsimp only at hSw)
                    go_simp
                    try with_reducible rfl
                  try simp only [Act.put, List.setIfInBounds_toArray, List.set_cons_zero, List.set_cons_succ]
                  refine take_on 10 50 (v := ?vc10) rfl rfl (by kernel_rfl) (by kernel_rfl) (by kernel_rfl) (fun _ _ _ h => h) (by rfl) ?hyc10 (by assumption) ?restc10
                  case hyc10 =>
                    intro w hSw
                    (try dsimp only at hSw)
                    go_simp
                    try with_reducible rfl
                  try simp only [Act.put, List.setIfInBounds_toArray, List.set_cons_zero, List.set_cons_succ]
                  refine take_on 11 51 (v := ?vc11) rfl rfl (by kernel_rfl) (by kernel_rfl) (by kernel_rfl) (fun _ _ _ h => h) (by rfl) ?hyc11 (by assumption) ?restc11
                  case hyc11 =>
                    intro w hSw
                    (try dsimp only at hSw)
                    go_simp
                    try with_reducible rfl
                  try simp only [Act.put, List.setIfInBounds_toArray, List.set_cons_zero, List.set_cons_succ]
                  refine take_on 12 52 (v := ?vc12) rfl rfl (by kernel_rfl) (by kernel_rfl) (by kernel_rfl) (fun _ _ _ h => h) (by rfl) ?hyc12 (by assumption) ?restc12
                  case hyc12 =>
                    intro w hSw
                    (try dsimp only at hSw)
                    go_simp
                    try with_reducible rfl
                  try simp only [Act.put, List.setIfInBounds_toArray, List.set_cons_zero, List.set_cons_succ]
                  refine take_on 13 53 (v := ?vc13) rfl rfl (by kernel_rfl) (by kernel_rfl) (by kernel_rfl) (fun _ _ _ h => h) (by rfl) ?hyc13 (by assumption) ?restc13
                  case hyc13 =>
                    intro w hSw
                    (try dsimp only at hSw)
                    go_simp
                    try with_reducible rfl
                  try simp only [Act.put, List.setIfInBounds_toArray, List.set_cons_zero, List.set_cons_succ]
                  refine take_on 14 54 (v := ?vc14) rfl rfl (by kernel_rfl) (by kernel_rfl) (by kernel_rfl) (fun _ _ _ h => h) (by rfl) ?hyc14 (by assumption) ?restc14
                  case hyc14 =>
                    intro w hSw
                    (try dsimp only at hSw)
                    go_simp
                    try with_reducible rfl
                  try simp only [Act.put, List.setIfInBounds_toArray, List.set_cons_zero, List.set_cons_succ]
                  refine take_on 15 55 (v := ?vc15) rfl rfl (by kernel_rfl) (by kernel_rfl) (by kernel_rfl) (fun _ _ _ h => h) (by rfl) ?hyc15 (by assumption) ?restc15
                  case hyc15 =>
                    intro w hSw
                    (try dsimp only at hSw)
                    go_simp
                    try with_reducible rfl
                  try simp only [Act.put, List.setIfInBounds_toArray, List.set_cons_zero, List.set_cons_succ]
                  refine take_on 16 56 (v := ?vc16) rfl rfl (by kernel_rfl) (by kernel_rfl) (by kernel_rfl) (fun _ _ _ h => h) (by rfl) ?hyc16 (by assumption) ?restc16
                  case hyc16 =>
                    intro w hSw
                    (try dsimp only at hSw)
                    go_simp
                    try with_reducible rfl
                  try simp only [Act.put, List.setIfInBounds_toArray, List.set_cons_zero, List.set_cons_succ]
                  refine take_on 17 57 (v := ?vc17) rfl rfl (by kernel_rfl) (by kernel_rfl) (by kernel_rfl) (fun _ _ _ h => h) (by rfl) ?hyc17 (by assumption) ?restc17
                  case hyc17 =>
                    intro w hSw
                    (try dsimp only at hSw)
                    go_simp
                    try with_reducible rfl
                  try simp only [Act.put, List.setIfInBounds_toArray, List.set_cons_zero, List.set_cons_succ]
                  refine take_on 18 58 (v := ?vc18) rfl rfl (by kernel_rfl) (by kernel_rfl) (by kernel_rfl) (fun _ _ _ h => h) (by rfl) ?hyc18 (by assumption) ?restc18
                  case hyc18 =>
                    intro w hSw
                    (try dsimp only at hSw)
                    go_simp
                    try with_reducible rfl
                  try simp only [Act.put, List.setIfInBounds_toArray, List.set_cons_zero, List.set_cons_succ]
                  refine take_on 19 59 (v := ?vc19) rfl rfl (by kernel_rfl) (by kernel_rfl) (by kernel_rfl) (fun _ _ _ h => h) (by rfl) ?hyc19 (by assumption) ?restc19
                  case hyc19 =>
                    intro w hSw
                    (try dsimp only at hSw)
                    go_simp
                    try with_reducible rfl
                  try simp only [Act.put, List.setIfInBounds_toArray, List.set_cons_zero, List.set_cons_succ]
                  refine take_on 20 60 (v := ?vc20) rfl rfl (by kernel_rfl) (by kernel_rfl) (by kernel_rfl) (fun _ _ _ h => h) (by rfl) ?hyc20 (by assumption) ?restc20
                  case hyc20 =>
                    intro w hSw
                    (try dsimp only at hSw)
                    go_simp
                    try with_reducible rfl
                  try simp only [Act.put, List.setIfInBounds_toArray, List.set_cons_zero, List.set_cons_succ]
                  refine take_on 21 61 (v := ?vc21) rfl rfl (by kernel_rfl) (by kernel_rfl) (by kernel_rfl) (fun _ _ _ h => h) (by rfl) ?hyc21 (by assumption) ?restc21
                  case hyc21 =>
                    intro w hSw
                    (try dsimp only at hSw)
                    go_simp
                    try with_reducible rfl
                  try simp only [Act.put, List.setIfInBounds_toArray, List.set_cons_zero, List.set_cons_succ]
                  refine take_on 22 62 (v := ?vc22) rfl rfl (by kernel_rfl) (by kernel_rfl) (by kernel_rfl) (fun _ _ _ h => h) (by rfl) ?hyc22 (by assumption) ?restc22
                  case hyc22 =>
                    intro w hSw
                    (try dsimp only at hSw)
                    go_simp
                    try with_reducible rfl
                  try simp only [Act.put, List.setIfInBounds_toArray, List.set_cons_zero, List.set_cons_succ]
                  refine take_on 23 63 (v := ?vc23) rfl rfl (by kernel_rfl) (by kernel_rfl) (by kernel_rfl) (fun _ _ _ h => h) (by rfl) ?hyc23 (by assumption) ?restc23
                  case hyc23 =>
                    intro w hSw
                    (try dsimp only at hSw)
                    go_simp
                    try with_reducible rfl
                  try simp only [Act.put, List.setIfInBounds_toArray, List.set_cons_zero, List.set_cons_succ]
                  refine take_on 24 64 (v := ?vc24) rfl rfl (by kernel_rfl) (by kernel_rfl) (by kernel_rfl) (fun _ _ _ h => h) (by rfl) ?hyc24 (by assumption) ?restc24
                  case hyc24 =>
                    intro w hSw
                    (try dsimp only at hSw)
                    go_simp
                    try with_reducible rfl
                  try simp only [Act.put, List.setIfInBounds_toArray, List.set_cons_zero, List.set_cons_succ]
                  refine take_on 25 65 (v := ?vc25) rfl rfl (by kernel_rfl) (by kernel_rfl) (by kernel_rfl) (fun _ _ _ h => h) (by rfl) ?hyc25 (by assumption) ?restc25
                  case hyc25 =>
                    intro w hSw
                    (try dsimp only at hSw)
                    go_simp
                    try with_reducible rfl
                  try simp only [Act.put, List.setIfInBounds_toArray, List.set_cons_zero, List.set_cons_succ]
                  refine take_on 26 66 (v := ?vc26) rfl rfl (by kernel_rfl) (by kernel_rfl) (by kernel_rfl) (fun _ _ _ h => h) (by rfl) ?hyc26 (by assumption) ?restc26
                  case hyc26 =>
                    intro w hSw
                    (try dsimp only at hSw)
                    go_simp
                    try with_reducible rfl
                  try simp only [Act.put, List.setIfInBounds_toArray, List.set_cons_zero, List.set_cons_succ]
                  refine take_on 27 67 (v := ?vc27) rfl rfl (by kernel_rfl) (by kernel_rfl) (by kernel_rfl) (fun _ _ _ h => h) (by rfl) ?hyc27 (by assumption) ?restc27
                  case hyc27 =>
                    intro w hSw
                    (try dsimp only at hSw)
                    go_simp
                    try with_reducible rfl
                  try simp only [Act.put, List.setIfInBounds_toArray, List.set_cons_zero, List.set_cons_succ]
                  refine take_on 28 68 (v := ?vc28) rfl rfl (by kernel_rfl) (by kernel_rfl) (by kernel_rfl) (fun _ _ _ h => h) (by rfl) ?hyc28 (by assumption) ?restc28
                  case hyc28 =>
                    intro w hSw
                    (try dsimp only at hSw)
                    go_simp
                    try with_reducible rfl
                  try simp only [Act.put, List.setIfInBounds_toArray, List.set_cons_zero, List.set_cons_succ]
                  refine take_on 29 69 (v := ?vc29) rfl rfl (by kernel_rfl) (by kernel_rfl) (by kernel_rfl) (fun _ _ _ h => h) (by rfl) ?hyc29 (by assumption) ?restc29
                  case hyc29 =>
                    intro w hSw
                    (try dsimp only at hSw)
                    go_simp
                    try with_reducible rfl
                  try simp only [Act.put, List.setIfInBounds_toArray, List.set_cons_zero, List.set_cons_succ]
                  refine wpAnyH_ready (rs := [30]) (by kernel_rfl) (by simp) ?_
                  refine AllReadyH.cons rfl (fun K hK => ?_) AllReadyH.nil
                  go_simp
                  refine (containsI_any W2.drew x.node (HM2.out.row.arg.below (Below.refl _ W2).drew) (by have := hl; unfold maxLen; dsimp only; omega)).mono ?_
                  rintro e w5 ⟨rfl, hb5⟩
                  rw [HC4.out]
                  have HB5 := Lib.hid ((Below.refl _ W2).drew.trans hb5)
                  clear hb5
                  simp only []
                  refine hK.out _ _ (HS.out _ _ (HM2.out.below HB5.out) ((Keep.below HB5.out).mono (fun i q => Or.inr q))) (fun hHeld => ?_)
                  clear hK K
                  try simp only [Act.put, List.setIfInBounds_toArray, List.set_cons_zero, List.set_cons_succ]
                  refine take_on 31 71 (v := ?vc31) rfl rfl (by kernel_rfl) (by kernel_rfl) (by kernel_rfl) (fun _ _ _ h => h) (by rfl) ?hyc31 (by assumption) ?restc31
                  case hyc31 =>
                    intro w hSw
                    (try dsimp only at hSw)
                    go_simp
                    try with_reducible rfl
                  try simp only [Act.put, List.setIfInBounds_toArray, List.set_cons_zero, List.set_cons_succ]
                  refine take_on 32 72 (v := ?vc32) rfl rfl (by kernel_rfl) (by kernel_rfl) (by kernel_rfl) (fun _ _ _ h => h) (by rfl) ?hyc32 (by assumption) ?restc32
                  case hyc32 =>
                    intro w hSw
                    (try dsimp only at hSw)
                    go_simp
                    try with_reducible rfl
                  try simp only [Act.put, List.setIfInBounds_toArray, List.set_cons_zero, List.set_cons_succ]
                  refine take_on 33 73 (v := ?vc33) rfl rfl (by kernel_rfl) (by kernel_rfl) (by kernel_rfl) (fun _ _ _ h => h) (by rfl) ?hyc33 (by assumption) ?restc33
                  case hyc33 =>
                    intro w hSw
                    (try dsimp only at hSw)
                    go_simp
                    try with_reducible rfl
                  try simp only [Act.put, List.setIfInBounds_toArray, List.set_cons_zero, List.set_cons_succ]
                  refine take_on 34 74 (v := ?vc34) rfl rfl (by kernel_rfl) (by kernel_rfl) (by kernel_rfl) (fun _ _ _ h => h) (by rfl) ?hyc34 (by assumption) ?restc34
                  case hyc34 =>
                    intro w hSw
                    (try dsimp only at hSw)
                    go_simp
                    try with_reducible rfl
                  try simp only [Act.put, List.setIfInBounds_toArray, List.set_cons_zero, List.set_cons_succ]
                  refine take_on 35 75 (v := ?vc35) rfl rfl (by kernel_rfl) (by kernel_rfl) (by kernel_rfl) (fun _ _ _ h => h) (by rfl) ?hyc35 (by assumption) ?restc35
                  case hyc35 =>
                    intro w hSw
                    (try dsimp only at hSw)
                    go_simp
                    try with_reducible rfl
                  try simp only [Act.put, List.setIfInBounds_toArray, List.set_cons_zero, List.set_cons_succ]
                  refine take_on 36 76 (v := ?vc36) rfl rfl (by kernel_rfl) (by kernel_rfl) (by kernel_rfl) (fun _ _ _ h => h) (by rfl) ?hyc36 (by assumption) ?restc36
                  case hyc36 =>
                    intro w hSw
                    (try dsimp only at hSw)
                    go_simp
                    try with_reducible rfl
                  try simp only [Act.put, List.setIfInBounds_toArray, List.set_cons_zero, List.set_cons_succ]
                  refine take_on 37 77 (v := ?vc37) rfl rfl (by kernel_rfl) (by kernel_rfl) (by kernel_rfl) (fun _ _ _ h => h) (by rfl) ?hyc37 (by assumption) ?restc37
                  case hyc37 =>
                    intro w hSw
                    (try dsimp only at hSw)
                    go_simp
                    try with_reducible rfl
                  try simp only [Act.put, List.setIfInBounds_toArray, List.set_cons_zero, List.set_cons_succ]
                  refine take_on 38 78 (v := ?vc38) rfl rfl (by kernel_rfl) (by kernel_rfl) (by kernel_rfl) (fun _ _ _ h => h) (by rfl) ?hyc38 (by assumption) ?restc38
                  case hyc38 =>
                    intro w hSw
                    (try dsimp only at hSw)
                    go_simp
                    try with_reducible rfl
                  try simp only [Act.put, List.setIfInBounds_toArray, List.set_cons_zero, List.set_cons_succ]
                  refine take_on 39 79 (v := ?vc39) rfl rfl (by kernel_rfl) (by kernel_rfl) (by kernel_rfl) (fun _ _ _ h => h) (by rfl) ?hyc39 (by assumption) ?restc39
                  case hyc39 =>
                    intro w hSw
                    (try dsimp only at hSw)
                    go_simp
                    try with_reducible rfl
                  try simp only [Act.put, List.setIfInBounds_toArray, List.set_cons_zero, List.set_cons_succ]
                  refine take_on 40 80 (v := ?vc40) rfl rfl (by kernel_rfl) (by kernel_rfl) (by kernel_rfl) (fun _ _ _ h => h) (by rfl) ?hyc40 (by assumption) ?restc40
                  case hyc40 =>
                    intro w hSw
                    (try dsimp only at hSw)
                    go_simp
                    try with_reducible rfl
                  try simp only [Act.put, List.setIfInBounds_toArray, List.set_cons_zero, List.set_cons_succ]
                  refine take_on 41 81 (v := ?vc41) rfl rfl (by kernel_rfl) (by kernel_rfl) (by kernel_rfl) (fun _ _ _ h => h) (by rfl) ?hyc41 (by assumption) ?restc41
                  case hyc41 =>
                    intro w hSw
                    (try dsimp only at hSw)
                    go_simp
                    try with_reducible rfl
                  try simp only [Act.put, List.setIfInBounds_toArray, List.set_cons_zero, List.set_cons_succ]
                  refine take_on 42 82 (v := ?vc42) rfl rfl (by kernel_rfl) (by kernel_rfl) (by kernel_rfl) (fun _ _ _ h => h) (by rfl) ?hyc42 (by assumption) ?restc42
                  case hyc42 =>
                    intro w hSw
                    (try dsimp only at hSw)
                    go_simp
                    try with_reducible rfl
                  try simp only [Act.put, List.setIfInBounds_toArray, List.set_cons_zero, List.set_cons_succ]
                  refine wpAnyH_ready (rs := [43]) (by kernel_rfl) (by simp) ?_
                  refine AllReadyH.cons rfl (fun K hK => ?_) AllReadyH.nil
                  go_simp
                  refine (must_any true (HM2.out.below HB5.out)).mono ?_
                  rintro e w6 ⟨rfl, hm6, hk6⟩
                  have HM6 := Lib.hid hm6
                  have HK7 := Lib.hid (show Keep (fun i => i = gm) W2 w6 from ((Keep.below HB5.out).mono (fun i q => Or.inr q)).trans hk6)
                  have hS6 := HS.out w6 _ HM6.out HK7.out
                  clear hm6 hk6
                  simp only []
                  refine hK.out _ _ hS6 (fun hHeld => ?_)
                  clear hK K
                  try simp only [Act.put, List.setIfInBounds_toArray, List.set_cons_zero, List.set_cons_succ]
                  refine wpAnyH_done (by kernel_rfl) ?_ _
                  go_wp2
                  go_meet
                  case rel =>
                    refine ⟨?_, HK7.out⟩
                    have h := HM6.out
                    have e0 : entOk2 cookie s names x = true := by
                      unfold entOk2
                      rw [D1.out, D2.out, decide_eq_true (show x.cookie ∉ s.cks from p3), decide_eq_true (show x.node ∉ s.nodes from p4), decide_eq_true (show x.name ∉ names from p5)]; rfl
                    rw [e0]
                    exact h
      case rest =>
        rename World => W3
        obtain ⟨hm3, hk3⟩ := hcut
        have HBX4 := Lib.hid (m_keep HBX3.out hk3 (fun q => hgB q.symm))
        have HN4 := Lib.hid (HN3.out.keep hk3 (fun q => hbn.1 q))
        have HM3 := Lib.hid hm3
        have HKA := Lib.hid (HK2.out.trans hk3)
        clear hm3 hk3 HBX3 HN3 HM2 HK2 HC0 HLC HLN
        obtain ⟨C, hC, hCk⟩ := HM3.out.cm
        obtain ⟨N, hN, hNk⟩ := HN4.out
        obtain ⟨w4, v4, b4, hrun1, he4, hk4⟩ := (hC.keep (F := fun _ => False) (Keep.refl _ W3).drew (fun q => q)).entry (P := Tryz.prog) Tryz.underlying104 Tryz.underlying2 zero_int x.cookie
        obtain ⟨w5, hrun2, hC5, hk5⟩ := he4.store (P := Tryz.prog) (t := 104) (1 : Int)
        have hkc : Keep (fun i => i = bc) W3 w5 := ((Keep.refl _ W3).drew.trans hk4).trans hk5
        obtain ⟨w6, v6, b6, hrun3, he6, hk6⟩ := (hN.keep hkc (fun q => hbn.2.1 q)).entry (P := Tryz.prog) Tryz.underlying105 Tryz.underlying9 zero_int x.name
        obtain ⟨w7, hrun4, hN7, hk7⟩ := he6.store (P := Tryz.prog) (t := 105) (1 : Int)
        have kk4 : Keep (fun i => i = bc ∨ i = bn) W3 w4 := ((Keep.refl _ W3).drew.trans hk4).mono (fun i q => Or.inl (Or.inl q))
        have kk5 : Keep (fun i => i = bc ∨ i = bn) W3 w5 := hkc.mono (fun i q => Or.inl (Or.inl q))
        have kk6 : Keep (fun i => i = bc ∨ i = bn) W3 w6 := kk5.trans (hk6.mono (fun i q => Or.inl (Or.inr q)))
        have kk7 : Keep (fun i => i = bc ∨ i = bn) W3 w7 := kk6.trans (hk7.mono (fun i q => Or.inl (Or.inr q)))
        have hg4 := HM3.out.g4
        have HS4 := Lib.hid (show ∀ w', Keep (fun i => i = bc ∨ i = bn) W3 w' → (w'.cell? ⟨gm, 3, none⟩ = some (.map (some bc)) ∧ w'.cell? ⟨gm, 4, none⟩ = some (.map (some bn)) ∧ w'.cell? ⟨B, 0, none⟩ = some (.string x.name) ∧ w'.cell? ⟨B, 3, none⟩ = some (.int .i64 x.cookie)) from fun w' k =>
          ⟨(m_cells (m_keep HM3.out.blk k (fun q => q.elim hg4 (fun e => hbn.1 e.symm)))).1 3, (m_cells (m_keep HM3.out.blk k (fun q => q.elim hg4 (fun e => hbn.1 e.symm)))).1 4, (m_cells (m_keep HBX4.out k (fun q => q.elim (fun e => hbcB e.symm) (fun e => hbnB e.symm)))).1 0, (m_cells (m_keep HBX4.out k (fun q => q.elim (fun e => hbcB e.symm) (fun e => hbnB e.symm)))).1 3⟩)
        have HCN := Lib.hid (show CkMap w7 bc (s.cks ++ [x.cookie]) from by
          refine ⟨_, hC5.keep (hk6.trans hk7) (fun q => hbn.2.1 q.symm), fun k => ?_⟩
          rw [mget_put, mget_put]
          by_cases e : k = x.cookie
          · rw [if_pos e, if_pos (by rw [e]; simp)]
          · rw [if_neg e, if_neg e, hCk k]
            by_cases e2 : k ∈ s.cks
            · rw [if_pos e2, if_pos (List.mem_append_left _ e2)]
            · rw [if_neg e2, if_neg (by simp [e, e2])])
        have HNN := Lib.hid (show NmMap w7 bn (names ++ [x.name]) from by
          refine ⟨_, hN7, fun k => ?_⟩
          rw [sget_put, sget_put]
          by_cases e : k = x.name
          · rw [if_pos e, if_pos (by rw [e]; simp)]
          · rw [if_neg e, if_neg e, hNk k]
            by_cases e2 : k ∈ names
            · rw [if_pos e2, if_pos (List.mem_append_left _ e2)]
            · rw [if_neg e2, if_neg (by simp [e, e2])])
        have hr4 : (Value.slice na s.nodes.length nc).ownBlock ≠ some bc := fun e => (HM3.out.g3 bc e).2 rfl
        have HR7 := Lib.hid (HM3.out.row.keep kk7 (fun i e q => q.elim (fun z => (HM3.out.g3 i e).2 z) (fun z => hbn.2.2.1 (by rw [← z]; exact e))))
        have HB7 := Lib.hid (m_keep HM3.out.blk kk7 (fun q => q.elim hg4 (fun e => hbn.1 e.symm)))
        have HBX7 := Lib.hid (m_keep HBX4.out kk7 (fun q => q.elim (fun e => hbcB e.symm) (fun e => hbnB e.symm)))
        have HK7 := Lib.hid kk7
        clear hC hCk hN hNk he4 he6 hC5 hN7 hk4 hk5 hk6 hk7 hkc HN4 HBX4
        go_step
        go_step
        go_cut [5] from 1000 (fun s5 wx => wx = w7)
        case first =>
          go_region_held3 (fun w' => w'.cell? ⟨gm, 3, none⟩ = some (.map (some bc)) ∧ w'.cell? ⟨gm, 4, none⟩ = some (.map (some bn)) ∧ w'.cell? ⟨B, 0, none⟩ = some (.string x.name) ∧ w'.cell? ⟨B, 3, none⟩ = some (.int .i64 x.cookie))
            (first | exact HS4.out _ (Keep.refl _ W3).drew | exact HS4.out _ kk4 | exact HS4.out _ kk5 | exact HS4.out _ kk6 | exact HS4.out _ kk7)
            (fail)
          all_goals
            go_wp2
            go_meet
            case rel => rfl
        case rest =>
          rename World => W8
          subst hcut
          clear hrun1 hrun2 hrun3 hrun4 kk4 kk5 kk6 HS4
          have c2 : W8.cell? ⟨gm, 2, none⟩ = some (.slice na s.nodes.length nc) := (m_cells HB7.out).1 2
          have f2 : W8.frozen? ⟨gm, 2, none⟩ = false := (m_cells HB7.out).2 2
          have x1 : W8.cell? ⟨B, 1, none⟩ = some (.int .i64 x.node) := (m_cells HBX7.out).1 1
          go_wp2_with fail
          have hs3 : gm < W8.heap.size := m_lt HB7.out
          have hs2 : B < W8.heap.size := m_lt HBX7.out
          have hs4 : ¬ (gm = W8.heap.size) := by omega
          have hs5 : ¬ (B = W8.heap.size) := by omega
          go_region_law
            (refine step_app EInt.laid rfl _ _ 54 54 Tryz.underlying54 Tryz.underlying54 rfl (.slice na s.nodes.length nc) s.nodes rfl (HR7.out.alloc _) _ [x.node] rfl ?e1 ?e2 ?e3 ?e4 ?_
             case e1 => exact Arg.blk (m_alloc _ _ _ rfl) [x.node] rfl 1
             case e2 => (show (s.nodes.length + 1) * 8 ≤ _; omega)
             case e3 => (show s.nodes.length + 1 ≤ maxLen; unfold maxLen; omega)
             case e4 => (show w0.heap.size ≤ (W8.alloc _).heap.size; have := HM3.out.bel.size; have := HK7.out.size; simp; omega)
             intro v9 w9 hr9 hv9 k9
             have hn9 : (s.nodes ++ [x.node]).length = s.nodes.length + 1 := (by simp)
             obtain ⟨v9a, v9c, rfl⟩ := hr9.shape
             rw [hn9] at hr9 hv9 ⊢
             have k9' : Keep (fun k => some k = (Value.slice na s.nodes.length nc).ownBlock) W8 w9 := (((Keep.refl _ W8).alloc (.cells #[.int .i64 x.node] 3)).drew).trans k9
             have hg9 := m_keep HB7.out k9' (fun e => (HM3.out.g3 gm e.symm).1 rfl)
             have c2e := (m_cells hg9).1 2
             have f2e := (m_cells hg9).2 2
             have HR9 := Lib.hid hr9
             have HV9 := Lib.hid (show ∀ k, (Value.slice v9a (s.nodes.length + 1) v9c).ownBlock = some k → (Value.slice na s.nodes.length nc).ownBlock = some k ∨ W8.heap.size ≤ k from fun k q => (hv9 k q).imp id (fun e => (by simp at e; omega)))
             have HK9 := Lib.hid k9'
             have HG9 := Lib.hid hg9
             clear hr9 hv9 k9 k9' hg9)
          all_goals
            refine bodyPost_end (results_none rfl _ _ _) rfl ?_
            have e0 : s.entry cookie D names x = ⟨s.nodes ++ [x.node], s.cks ++ [x.cookie], s.bad || !(entOk1 ik x) || !(entOk2 cookie s names x)⟩ := by
              unfold MkS.entry; rw [HIK.out]
            rw [e0]
            exact mentry_end HB0.out HBW1.out HKA.out HK7.out HK9.out HM3.out HR9.out HV9.out HG9.out HCN.out HNN.out hbn
end Go.Proofs.YtolilbcpfdnkjaaGreat
