/- Lemmas for the laws of one seat, texts V8 P20; no condition beyond those that each states. -/
import Derived.Test.YtncbojocglcieaaVV8
/- vault: Open. -/
namespace Go.Proofs.Ytncbojocglcieaa
open Go.RowKit
set_option linter.unusedSimpArgs false
set_option linter.unusedVariables false
def DevD.epo (d : DevD) (f : Int) : Nat := epoL (d.sec f).data.toList
/-- The bank that is opened, and the other one. -/
def DevD.fst (d : DevD) : VaultD :=
  if d.epo 0 < d.epo ((d.size : Int) / 2) then ⟨(d.size : Int) / 2, (d.size : Int) / 2, 0, (d.size : Int) / 2, d.epo ((d.size : Int) / 2), 0, ⟨#[]⟩, [], false⟩
  else ⟨0, (d.size : Int) / 2, (d.size : Int) / 2, (d.size : Int) / 2, d.epo 0, 0, ⟨#[]⟩, [], false⟩
def DevD.scn (d : DevD) : List (List UInt8) × Int × Int := d.scan d.fst.f d.fst.s
def DevD.wip (d : DevD) : DevD × Int := d.wipe d.fst.f d.fst.s d.scn.2.1
/-- Open, by value. -/
def DevD.openV (d : DevD) : Option VaultD × DevD × Int :=
  if d.mayErr ≠ 0 then (none, d, d.mayErr) else if d.fst.ep = 0 ∨ d.scn.1 = [] then (none, d, 2) else
    if d.wip.2 ≠ 0 then (none, d.wip.1, d.wip.2)
    else (some { d.fst with at_ := d.scn.2.1, img := bL (d.scn.1.headD []), recs := d.scn.1.tail.map bL }, d.wip.1.fl.1, d.wip.1.fl.2)
/-- What Open answers. -/
def OPost (w0 w : World) (R : Nat → Prop) (g : Nat) (X : Option VaultD × DevD × Int) (e : Ending) (w' : World) : Prop :=
  match X.1 with
  | none => e = .returned (.tuple #[.pointer none, .int .i64 X.2.2]) ∧ OwnR w0 w' R g X.2.1 ∧ Held w0 R w w'
  | some v => ∃ vb rv, e = .returned (.tuple #[.pointer (some ⟨vb, 0, none⟩), .int .i64 X.2.2]) ∧ OwnV w0 w' R g X.2.1 vb rv v ∧ Held w0 R w w'
section
variable {w0 w w' : World} {R : Nat → Prop} {g vb : Nat} {d d' : DevD} {rv rv' : Value} {v v' : VaultD}
theorem OwnR.newV (h : OwnR w0 w R g d) (v : VaultD) (hr : v.recs = []) :
    OwnV w0 (w.alloc (.cells (v.cells g (.slice none 0 0)) 122)) R g d w.heap.size (.slice none 0 0) v ∧ Held w0 R w (w.alloc (.cells (v.cells g (.slice none 0 0)) 122)) := by
  have hb : Below w.heap.size w (w.alloc (.cells (v.cells g (.slice none 0 0)) 122)) := (Below.refl _ _).alloc (Nat.le_refl _) _
  have hsz : (w.alloc (.cells (v.cells g (.slice none 0 0)) 122)).heap.size = w.heap.size + 1 := by simp
  refine ⟨⟨h.turn (keepBelow hb) fun k q => ?_, ⟨m_alloc _ _ _ rfl, ?_, fun e => by cases e⟩, fun k q e => ?_⟩, Held.alloc' h hb⟩
  · rcases q with q | q | q
    · exact ⟨Or.inl q, Nat.lt_of_lt_of_le (h.lt q) hb.size⟩
    · exact ⟨Or.inr (by omega), by omega⟩
    · cases q
  · rw [hr]; exact RowO.nil _ _ _
  · rcases e with e | e
    · exact absurd (h.lt q) (by omega)
    · cases e
theorem RowO.zero {α : Type} {E : EK α} {w : World} {B : Nat} {v : Value} {l : List α} (h : RowO E w B v l) : RowO E w 0 v l := by
  rcases h with h | ⟨g, off, cap, h1, h2, h3⟩
  · exact Or.inl h
  · exact Or.inr ⟨g, off, cap, h1, Nat.zero_le _, h3⟩
/-- The blocks that are new between two worlds, beside others. -/
def Rnew (R : Nat → Prop) (B N : Nat) (k : Nat) : Prop := R k ∨ (B ≤ k ∧ k < N)
theorem OwnV.news (h : OwnV w0 w R g d vb (.slice none 0 0) v) (hb : Below w.heap.size w w') : OwnV w0 w' (Rnew R w.heap.size w'.heap.size) g d vb (.slice none 0 0) v := by
  refine ⟨(h.own.with_new hb).sub fun k q => ?_, h.vat.kept hb.size (fun k q => hb.block k (h.vat.foot_lt q)), fun k q e => ?_⟩
  · rcases q with (q | q) | q
    · exact Or.inl (Or.inl q)
    · exact Or.inr q
    · exact Or.inl (Or.inr q)
  · rcases q with q | q
    · exact h.sep k q e
    · exact absurd (h.vat.foot_lt e) (by omega)
theorem OwnV.adopt {R2 : Nat → Prop} {l : List ByteArray} (h : OwnV w0 w R2 g d vb (.slice none 0 0) v) (hr : RowO EStr w 0 rv' l) (hR : ∀ k, R k → R2 k) (hb : ∀ k, rv'.ownBlock = some k → R2 k ∧ ¬ R k) :
    OwnV w0 (w.setCell ⟨vb, 9, none⟩ rv') R g d vb rv' { v with recs := l } ∧ Held w0 R w (w.setCell ⟨vb, 9, none⟩ rv') := by
  have hk : Keep (fun k => k = vb) w (w.setCell ⟨vb, 9, none⟩ rv') := (Keep.refl _ w).set vb 9 rv' (Or.inl rfl)
  have hsz : (w.setCell ⟨vb, 9, none⟩ rv').heap.size = w.heap.size := by simp [World.setCell]
  have hne : rv'.ownBlock ≠ some vb := fun e => h.sep vb (hb vb e).1 (Or.inl rfl)
  refine ⟨⟨(h.own.turn (R' := fun k => R2 k ∨ vfoot vb (.slice none 0 0) k) (hk.mono (fun i q => Or.inl (Or.inr (Or.inl q)))) (fun k q => ⟨Or.inl q, by rw [hsz]; exact h.own.lt q⟩)).sub fun k q => ?_, ⟨m_set h.vat.blk 9 rv', hr.keep hk (fun i q e => hne (by rw [q, e])), hne⟩, fun k q e => ?_⟩,
    ⟨by rw [hsz]; exact Nat.le_refl _, fun k q => Below.heap_setCell _ _ _ _ (fun e => h.sep k (hR k q) (Or.inl e))⟩⟩
  · rcases q with q | q | q
    · exact Or.inl (hR k q)
    · exact Or.inr (Or.inl q)
    · exact Or.inl (hb k q.symm).1
  · rcases e with e | e
    · exact h.sep k (hR k q) (Or.inl e)
    · exact (hb k e.symm).2 q
theorem scan_le (d : DevD) (f s : Int) (h64 : ∀ i, (d.sec i).size = 64) : (d.scan f s).2.1 ≤ s.toNat + 1 ∧ 0 ≤ (d.scan f s).2.1 := by
  unfold DevD.scan
  split; · exact ⟨by simp; omega, by simp⟩
  split; · exact ⟨by simp; omega, by simp⟩
  have h := scanned_le _ ((d.secs f s.toNat).drop 1) (Nat.le_refl _) (fun x hx => by
    have := List.mem_of_mem_drop hx
    unfold DevD.secs at this
    simp only [List.mem_map, List.mem_range] at this
    obtain ⟨i, _, rfl⟩ := this
    exact h64 _)
  have hl : ((d.secs f s.toNat).drop 1).length ≤ s.toNat := by simp [DevD.secs]
  refine ⟨?_, ?_⟩
  · simp only; omega
  · simp only; omega
def ScnRel (w0 w : World) (R : Nat → Prop) (g vb B : Nat) (d : DevD) (v : VaultD) (rs : List (List UInt8)) (at1 : Int) (s1 s2 s3 : Value) (wr : World) : Prop :=
  s2 = .int .i64 at1 ∧ s3 = .int .i64 0 ∧ Row EStr wr B s1 (rs.map bL) ∧ OwnV w0 wr (Rnew R B wr.heap.size) g d vb (.slice none 0 0) v ∧ vb ≤ B ∧ B ≤ wr.heap.size ∧ Held w0 R w wr
set_option maxRecDepth 100000 in
set_option maxHeartbeats 2000000 in
theorem vopen_any (h : OwnR w0 w R g d) (hd : d.size ≤ 4096) (hq : d.queue.length ≤ 500000) (hleft : d.left ≤ 9223372036854775807) (h64 : ∀ i, (d.sec i).size = 64) :
    Calls Try.prog 43 #[.pointer (some ⟨g, 0, none⟩)] w (OPost w0 w R g d.openV) := by
  have H := Lib.hid h
  clear h
  obtain ⟨X, hX⟩ : ∃ X, d.openV = X := ⟨_, rfl⟩
  rw [hX]
  have HX := Lib.hid hX
  clear hX
  obtain ⟨n, hn⟩ : ∃ n : Int, (d.size : Int) / 2 = n := ⟨_, rfl⟩
  have hn0 : 0 ≤ n := by omega
  have hn1 : n ≤ 2048 := by omega
  have hv : halvesV g d.size = .agg #[.pointer (some ⟨g, 0, none⟩), .int .i64 0, .int .i64 n, .pointer (some ⟨g, 0, none⟩), .int .i64 n, .int .i64 n] := by unfold halvesV; rw [hn]
  have HV := Lib.hid hv
  have HN := Lib.hid hn
  have H64 := Lib.hid h64
  clear hv hn h64
  go_enter Try.func43, Try.ntmps43
  go_wp2_with fail
  refine (may_any H.out).mono ?_
  rintro e w1 ⟨rfl, h1, hb1⟩
  have H1 := Lib.hid h1
  have HB1 := Lib.hid hb1
  clear h1 hb1
  by_cases e1 : d.mayErr = 0
  · have ha0 : d.ask 0 = 0 := by
      unfold DevD.mayErr at e1; unfold DevD.ask
      split at e1; · cases e1
      split at e1; · cases e1
      rw [if_neg (by assumption), if_neg (by omega)]
    have han : d.ask n = 0 := by
      have := HN.out
      unfold DevD.mayErr at e1; unfold DevD.ask
      split at e1; · cases e1
      split at e1; · cases e1
      rw [if_neg (by assumption), if_neg (by omega)]
    have hE1 := Lib.hid e1
    have HA0 := Lib.hid ha0
    have HAN := Lib.hid han
    rw [e1]
    clear e1 ha0 han
    go_wp2_with fail
    refine (halves_any H1.out hd).mono ?_
    rintro e w2 ⟨rfl, hb2⟩
    rw [HV.out]
    have H2 := Lib.hid (H1.out.below hb2)
    have HB2 := Lib.hid (HB1.out.trans (hb2.mono HB1.out.size))
    clear hb2 HB1 H1
    go_wp2_with fail
    generalize hw3 : World.alloc w2 _ = w3
    have hb3 : Below w2.heap.size w2 w3 := by rw [← hw3]; exact (Below.refl _ _).alloc (Nat.le_refl _) _
    have kl : w3.heap[w2.heap.size]? = some (.cells #[.pointer (some ⟨g, 0, none⟩), .int .i64 0, .int .i64 n, .pointer (some ⟨g, 0, none⟩), .int .i64 n, .int .i64 n] 119 (0, 0)) := by rw [← hw3]; exact m_alloc _ _ _ rfl
    have H3 := Lib.hid (H2.out.below hb3)
    have HB3 := Lib.hid (HB2.out.trans (hb3.mono HB2.out.size))
    obtain ⟨B, hB⟩ : ∃ B, w2.heap.size = B := ⟨_, rfl⟩
    rw [hB] at kl ⊢
    clear hw3 hb3 HB2 H2 hB
    refine (epoch_any 0 H3.out HA0.out (H64.out 0)).mono ?_
    rintro e w4 ⟨rfl, h4, hb4⟩
    have H4 := Lib.hid h4
    have HB4 := Lib.hid (HB3.out.trans (hb4.mono HB3.out.size))
    have kl4 := (hb4.block _ (m_lt kl)).trans kl
    clear h4 hb4 HB3 H3 kl
    have c0 : w4.cell? ⟨B, 0, none⟩ = some (.pointer (some ⟨g, 0, none⟩)) := (m_cells kl4).1 0
    have c1 : w4.cell? ⟨B, 1, none⟩ = some (.int .i64 0) := (m_cells kl4).1 1
    have c2 : w4.cell? ⟨B, 2, none⟩ = some (.int .i64 n) := (m_cells kl4).1 2
    have c3 : w4.cell? ⟨B, 3, none⟩ = some (.pointer (some ⟨g, 0, none⟩)) := (m_cells kl4).1 3
    have c4 : w4.cell? ⟨B, 4, none⟩ = some (.int .i64 n) := (m_cells kl4).1 4
    have c5 : w4.cell? ⟨B, 5, none⟩ = some (.int .i64 n) := (m_cells kl4).1 5
    obtain ⟨a, ha⟩ : ∃ a, epoL (d.sec 0).data.toList = a := ⟨_, rfl⟩
    rw [ha]
    have HA := Lib.hid (show d.epo 0 = a from ha)
    have KL4 := Lib.hid kl4
    clear ha kl4
    go_wp2_with fail
    refine (epoch_any n H4.out HAN.out (H64.out n)).mono ?_
    rintro e w5 ⟨rfl, h5, hb5⟩
    have H5 := Lib.hid h5
    have HB5 := Lib.hid (HB4.out.trans (hb5.mono HB4.out.size))
    have kl5 := (hb5.block _ (m_lt KL4.out)).trans KL4.out
    clear h5 hb5 HB4 H4 KL4 c0 c1 c2 c3 c4 c5
    have c0 : w5.cell? ⟨B, 0, none⟩ = some (.pointer (some ⟨g, 0, none⟩)) := (m_cells kl5).1 0
    have c1 : w5.cell? ⟨B, 1, none⟩ = some (.int .i64 0) := (m_cells kl5).1 1
    have c2 : w5.cell? ⟨B, 2, none⟩ = some (.int .i64 n) := (m_cells kl5).1 2
    have c3 : w5.cell? ⟨B, 3, none⟩ = some (.pointer (some ⟨g, 0, none⟩)) := (m_cells kl5).1 3
    have c4 : w5.cell? ⟨B, 4, none⟩ = some (.int .i64 n) := (m_cells kl5).1 4
    have c5 : w5.cell? ⟨B, 5, none⟩ = some (.int .i64 n) := (m_cells kl5).1 5
    obtain ⟨b, hb⟩ : ∃ b, epoL (d.sec n).data.toList = b := ⟨_, rfl⟩
    rw [hb]
    have HB := Lib.hid (show d.epo n = b from hb)
    have KL5 := Lib.hid kl5
    clear hb kl5
    have hvn := H5.out.newV ⟨0, n, n, n, a, 0, ⟨#[]⟩, [], false⟩ rfl
    have HVN0 := Lib.hid hvn.1
    have HHN0 := Lib.hid ((Held.alloc' H.out HB5.out).trans hvn.2)
    have KL60 := Lib.hid (m_old (Obj.cells (VaultD.cells ⟨0, n, n, n, a, 0, ⟨#[]⟩, [], false⟩ g (.slice none 0 0)) 122) KL5.out)
    clear hvn
    rcases Nat.lt_or_ge a b with hab | hab
    · have d1 : decide ((a : Int) < (b : Int)) = true := decide_eq_true (by omega)
      have hfst : d.fst = ⟨n, n, 0, n, b, 0, ⟨#[]⟩, [], false⟩ := by unfold DevD.fst; rw [HN.out, HA.out, HB.out, if_pos hab]
      have HFST := Lib.hid hfst
      have d4 : decide (a < b) = true := decide_eq_true hab
      clear hfst
      go_wp2_with fail
      have HVN := Lib.hid HVN0.out
      have HHN := Lib.hid HHN0.out
      have KL6 := Lib.hid KL60.out
      obtain ⟨vb, hvb⟩ : ∃ vb, w5.heap.size = vb := ⟨_, rfl⟩
      have hne : B ≠ vb := by have := m_lt KL5.out; omega
      have hne' : vb ≠ B := fun q => hne q.symm
      have hne2 : (B == vb) = false := by rw [beq_eq_false_iff_ne]; exact hne
      have hne3 : (vb == B) = false := by rw [beq_eq_false_iff_ne]; exact hne'
      rw [hvb] at HVN ⊢
      unfold VaultD.cells at HVN HHN KL6
      generalize hw6 : World.alloc w5 _ = w6 at *
      clear c0 c1 c2 c3 c4 c5 HVN0 HHN0 KL60
      have kl6 := KL6.out
      have c0 : w6.cell? ⟨B, 0, none⟩ = some (.pointer (some ⟨g, 0, none⟩)) := (m_cells kl6).1 0
      have c1 : w6.cell? ⟨B, 1, none⟩ = some (.int .i64 0) := (m_cells kl6).1 1
      have c2 : w6.cell? ⟨B, 2, none⟩ = some (.int .i64 n) := (m_cells kl6).1 2
      have c3 : w6.cell? ⟨B, 3, none⟩ = some (.pointer (some ⟨g, 0, none⟩)) := (m_cells kl6).1 3
      have c4 : w6.cell? ⟨B, 4, none⟩ = some (.int .i64 n) := (m_cells kl6).1 4
      have c5 : w6.cell? ⟨B, 5, none⟩ = some (.int .i64 n) := (m_cells kl6).1 5
      have e0 : w6.cell? ⟨vb, 0, none⟩ = some (.pointer (some ⟨g, 0, none⟩)) := (m_cells HVN.out.vat.blk).1 0
      have e1 : w6.cell? ⟨vb, 1, none⟩ = some (.int .i64 0) := (m_cells HVN.out.vat.blk).1 1
      have e2 : w6.cell? ⟨vb, 2, none⟩ = some (.int .i64 n) := (m_cells HVN.out.vat.blk).1 2
      have e3 : w6.cell? ⟨vb, 3, none⟩ = some (.pointer (some ⟨g, 0, none⟩)) := (m_cells HVN.out.vat.blk).1 3
      have e4 : w6.cell? ⟨vb, 4, none⟩ = some (.int .i64 n) := (m_cells HVN.out.vat.blk).1 4
      have e5 : w6.cell? ⟨vb, 5, none⟩ = some (.int .i64 n) := (m_cells HVN.out.vat.blk).1 5
      have e6 : w6.cell? ⟨vb, 6, none⟩ = some (.int .u64 a) := (m_cells HVN.out.vat.blk).1 6
      have f0 := (m_cells HVN.out.vat.blk).2 0
      have f1 := (m_cells HVN.out.vat.blk).2 1
      have f2 := (m_cells HVN.out.vat.blk).2 2
      have f3 := (m_cells HVN.out.vat.blk).2 3
      have f4 := (m_cells HVN.out.vat.blk).2 4
      have f5 := (m_cells HVN.out.vat.blk).2 5
      have f6 := (m_cells HVN.out.vat.blk).2 6
      clear hw6 hvb kl6
      go_region
      go_wp2
      have a0 := HVN.out.store (v' := ⟨0, n, n, n, a, 0, ⟨#[]⟩, [], false⟩) 0 (.pointer (some ⟨g, 0, none⟩)) rfl rfl
      have b0 := HHN.out.trans (HVN.out.held_store 0 (.pointer (some ⟨g, 0, none⟩)))
      have a1 := a0.store (v' := ⟨n, n, n, n, a, 0, ⟨#[]⟩, [], false⟩) 1 (.int .i64 n) rfl rfl
      have b1 := b0.trans (a0.held_store 1 (.int .i64 n))
      have a2 := a1.store (v' := ⟨n, n, n, n, a, 0, ⟨#[]⟩, [], false⟩) 2 (.int .i64 n) rfl rfl
      have b2 := b1.trans (a1.held_store 2 (.int .i64 n))
      have a3 := a2.store (v' := ⟨n, n, n, n, a, 0, ⟨#[]⟩, [], false⟩) 3 (.pointer (some ⟨g, 0, none⟩)) rfl rfl
      have b3 := b2.trans (a2.held_store 3 (.pointer (some ⟨g, 0, none⟩)))
      have a4 := a3.store (v' := ⟨n, n, 0, n, a, 0, ⟨#[]⟩, [], false⟩) 4 (.int .i64 0) rfl rfl
      have b4 := b3.trans (a3.held_store 4 (.int .i64 0))
      have a5 := a4.store (v' := ⟨n, n, 0, n, a, 0, ⟨#[]⟩, [], false⟩) 5 (.int .i64 n) rfl rfl
      have b5 := b4.trans (a4.held_store 5 (.int .i64 n))
      have a6 := a5.store (v' := ⟨n, n, 0, n, b, 0, ⟨#[]⟩, [], false⟩) 6 (.int .u64 b) rfl rfl
      have b6 := b5.trans (a5.held_store 6 (.int .u64 b))
      have a7 := a6.below (Below.refl _ _).drew
      have b7 := b6.trans (Held.below (w0 := w0) (fun k q => a6.own.lt q) (Below.refl _ _).drew).left
      rw [← HFST.out] at a7
      have HO := Lib.hid a7
      have HHO := Lib.hid b7
      clear a0 a1 a2 a3 a4 a5 a6 a7 b0 b1 b2 b3 b4 b5 b6 b7 c0 c1 c2 c3 c4 c5 e0 e1 e2 e3 e4 e5 e6 f0 f1 f2 f3 f4 f5 f6 HVN HHN
      generalize hw7 : World.drew _ = w7 at *
      clear hw7
      obtain ⟨c0, c1, c2⟩ := HO.out.vat.half
      have c6 : w7.cell? ⟨vb, 6, none⟩ = some (.int .u64 d.fst.ep) := (m_cells HO.out.vat.blk).1 6
      have HBD := Lib.hid (show d.fst.s = n ∧ (d.fst.f = 0 ∨ d.fst.f = n) from by rw [HFST.out]; simp)
      clear HFST
      have hs1 : d.fst.s ≤ 9223372036854775807 := by have := HBD.out; omega
      have HS1 := Lib.hid hs1
      obtain ⟨sc, hsc⟩ : ∃ sc, d.scan d.fst.f d.fst.s = sc := ⟨_, rfl⟩
      have hsc2 : sc.2.2 = 0 := by
        rw [← hsc]; unfold DevD.scan
        have h13 := hE1.out
        have hn3 := HN.out
        have hbd := HBD.out
        unfold DevD.mayErr at h13
        split at h13; · cases h13
        split at h13; · cases h13
        rw [if_neg (by assumption), if_neg]
        unfold DevD.on
        rw [decide_eq_false_iff_not, Classical.not_not]
        have hs2 := hbd.1
        rcases hbd.2 with q | q <;> rw [q, hs2] <;> omega
      have HSC := Lib.hid hsc
      have HSC2 := Lib.hid hsc2
      clear hs1 hsc hsc2
      obtain ⟨rs, at1, z⟩ := sc
      simp only at HSC2
      go_upto_region 10 with fail
      go_cut [11, 12, 13] from 15 (fun s11 s12 s13 w8 => ScnRel w0 w R g vb w7.heap.size d d.fst rs at1 s11 s12 s13 w8)
      case first =>
        go_region_with (go_at_call 36; refine (scan_any d.fst.f d.fst.s (HO.out.own.below (by repeat (first | exact Below.refl _ _ | assumption | (refine Below.drew ?_) | (refine below_drewN ?_ _) | (refine Below.alloc ?_ (by simp; done) _) | (refine Below.alloc ?_ (by simp; omega) _)))) HS1.out hd H64.out).mono ?_; rintro e w8 ⟨sv, rfl, hr8, h8, hb8⟩)
        all_goals
          rw [HSC.out] at hr8 ⊢
          rw [HSC2.out]
          obtain ⟨sa, scap, rfl⟩ := hr8.shape
          go_wp2
          go_meet
          case rel =>
            have hb9 : Below w7.heap.size w7 w8 := ⟨hb8.os, hb8.tape, hb8.output, hb8.size, hb8.block⟩
            rw [List.length_map] at hr8
            exact ⟨rfl, rfl, hr8, HO.out.news hb9, Nat.le_of_lt (m_lt HO.out.vat.blk), hb9.size, HHO.out.trans (Held.below (w0 := w0) (fun k q => HO.out.own.lt q) hb9).left⟩
      case rest =>
        rename World => w8
        obtain ⟨rfl, rfl, hr8, h8, -, hsz, hh8⟩ := hcut
        have H8 := Lib.hid h8
        have HH8 := Lib.hid hh8
        have HR8 := Lib.hid hr8
        have hvb7 := m_lt HO.out.vat.blk
        have HLT := Lib.hid (show ∀ k, R k → k < w7.heap.size from fun k q => HO.out.own.lt (Or.inl q))
        clear h8 hh8 c0 c1 c2 c6 HHO
        have c6 : w8.cell? ⟨vb, 6, none⟩ = some (.int .u64 d.fst.ep) := (m_cells H8.out.vat.blk).1 6
        obtain ⟨sa, scap, hsv⟩ := hr8.shape
        subst hsv
        clear hr8 HO
        rw [List.length_map] at HR8 ⊢
        by_cases e2 : d.fst.ep = 0
        · have d2 : decide ((d.fst.ep : Int) = 0) = true := decide_eq_true (by omega)
          have d2' : decide (d.fst.ep = 0) = true := decide_eq_true e2
          have HF := Lib.hid (show X = (none, d, 2) from by rw [← HX.out]; unfold DevD.openV; rw [if_neg (by rw [hE1.out]; decide), if_pos (Or.inl e2)])
          go_wp2_with fail
          go_ret2
          rw [HF.out]
          exact ⟨rfl, H8.out.own.sub (fun k q => Or.inl (Or.inl q)), HH8.out⟩
        · have d2 : decide ((d.fst.ep : Int) = 0) = false := decide_eq_false (by omega)
          have d2' : decide (d.fst.ep = 0) = false := decide_eq_false e2
          have HSN := Lib.hid (show d.scn = (rs, at1, z) from HSC.out)
          cases rs with
          | nil =>
            have HF := Lib.hid (show X = (none, d, 2) from by rw [← HX.out]; unfold DevD.openV; rw [if_neg (by rw [hE1.out]; decide), if_pos (Or.inr (by rw [HSN.out]))])
            go_wp2_with fail
            go_ret2
            rw [HF.out]
            exact ⟨rfl, H8.out.own.sub (fun k q => Or.inl (Or.inl q)), HH8.out⟩
          | cons r0 rs =>
            have HF := Lib.hid (show X = if d.wip.2 ≠ 0 then (none, d.wip.1, d.wip.2) else (some { d.fst with at_ := at1, img := bL r0, recs := rs.map bL }, d.wip.1.fl.1, d.wip.1.fl.2) from by
              rw [← HX.out]; unfold DevD.openV; rw [if_neg (by rw [hE1.out]; decide), if_neg (by rw [HSN.out]; exact fun q => q.elim e2 (fun q => by cases q)), HSN.out]; rfl)
            have HWP := Lib.hid (show d.wip = d.wipe d.fst.f d.fst.s at1 from by unfold DevD.wip; rw [HSN.out])
            obtain ⟨sg, scap', hsl, hg1, hg2, hg3, hg4, hg5, hg6⟩ := HR8.out.slice (by simp)
            obtain ⟨rfl, rfl⟩ : sa = some ⟨sg, 0, none⟩ ∧ scap = scap' := by
              simp only [Value.slice.injEq] at hsl
              exact ⟨hsl.1, hsl.2.2⟩
            have hc0 : w8.cell? ⟨sg, 0, none⟩ = some (.string (bL r0)) := hg5 0 (bL r0) rfl 0 (by decide)
            clear hsl hg5
            have hg7 : rs.length + 1 ≤ scap := by simpa using hg3
            clear hg3
            rw [List.length_cons] at HR8 ⊢
            go_wp2_with fail
            have c7 : w8.cell? ⟨vb, 7, none⟩ = some (.int .i64 d.fst.at_) := (m_cells H8.out.vat.blk).1 7
            have c8 : w8.cell? ⟨vb, 8, none⟩ = some (.string d.fst.img) := (m_cells H8.out.vat.blk).1 8
            have c9 : w8.cell? ⟨vb, 9, none⟩ = some (.slice none 0 0) := (m_cells H8.out.vat.blk).1 9
            have f7 := (m_cells H8.out.vat.blk).2 7
            have f8 := (m_cells H8.out.vat.blk).2 8
            have f9 := (m_cells H8.out.vat.blk).2 9
            have n1 : sg ≠ vb := by omega
            have n2 : vb ≠ sg := by omega
            have n3 : (sg == vb) = false := by rw [beq_eq_false_iff_ne]; exact n1
            have n4 : (vb == sg) = false := by rw [beq_eq_false_iff_ne]; exact n2
            have i1 : (1 : Int) ≤ (rs.length : Int) + 1 := by omega
            have i2 : (rs.length : Int) + 1 ≤ scap := by omega
            have i3 : 1 ≤ rs.length + 1 := by omega
            have hr' : Row EStr w8 w7.heap.size (.slice (some ⟨sg, 0, none⟩) (bL r0 :: rs.map bL).length scap) (bL r0 :: rs.map bL) := by rw [List.length_cons, List.length_map]; exact HR8.out
            have htl : RowO EStr w8 w7.heap.size (.slice (if scap = 1 then some ⟨sg, 0, none⟩ else some ⟨sg, 1, none⟩) rs.length (scap - 1)) (rs.map bL) := by have := RowO.tail hr'; rw [List.length_map] at this; exact this
            have HTL := Lib.hid htl
            have hch : ∀ o c, RowO EStr w8 w7.heap.size (.slice (some ⟨sg, o, none⟩) rs.length c) (rs.map bL) →
                OwnV w0 (((w8.setCell ⟨vb, 7, none⟩ (.int .i64 at1)).setCell ⟨vb, 8, none⟩ (.string (bL r0))).setCell ⟨vb, 9, none⟩ (.slice (some ⟨sg, o, none⟩) rs.length c)).drew R g d vb (.slice (some ⟨sg, o, none⟩) rs.length c) { d.fst with at_ := at1, img := bL r0, recs := rs.map bL } ∧
                Held w0 R w (((w8.setCell ⟨vb, 7, none⟩ (.int .i64 at1)).setCell ⟨vb, 8, none⟩ (.string (bL r0))).setCell ⟨vb, 9, none⟩ (.slice (some ⟨sg, o, none⟩) rs.length c)).drew := by
              intro o c hro
              have a7 := H8.out.store (v' := { d.fst with at_ := at1 }) 7 (.int .i64 at1) rfl rfl
              have b7 := H8.out.held_store 7 (.int .i64 at1)
              have a8 := a7.store (v' := { d.fst with at_ := at1, img := bL r0 }) 8 (.string (bL r0)) rfl rfl
              have b8 := b7.trans (a7.held_store 8 (.string (bL r0)))
              have hk : Keep (fun k => k = vb) w8 ((w8.setCell ⟨vb, 7, none⟩ (.int .i64 at1)).setCell ⟨vb, 8, none⟩ (.string (bL r0))) := ((Keep.refl (fun k => k = vb) w8).set vb 7 _ (Or.inl rfl)).set vb 8 _ (Or.inl rfl)
              have hr8 := hro.keep hk (fun i q e => by cases q; exact n1 e)
              have a9 := a8.adopt (R := R) hr8.zero (fun k q => Or.inl q) (fun k q => by cases q; exact ⟨Or.inr ⟨hg1, hg2⟩, fun q => absurd (HLT.out _ q) (Nat.not_lt.2 hg1)⟩)
              have b9 : Held w0 R w _ := HH8.out.trans ((show Held w0 R w8 _ from ⟨b8.size, fun k q => b8.block k (Or.inl q)⟩).trans a9.2)
              exact ⟨a9.1.below (Below.refl _ _).drew, b9.trans (Held.below (w0 := w0) (fun k q => a9.1.own.lt (Or.inl q)) (Below.refl _ _).drew)⟩
            have HCH := Lib.hid hch
            have hat : at1 ≤ 4096 := by
              have q := (scan_le d d.fst.f d.fst.s H64.out).1
              rw [HSC.out, HBD.out.1] at q
              simp only at q
              omega
            clear hr' htl hch
            go_region
            all_goals go_wp2
            all_goals first
              | have hx := HCH.out 0 0 (by have := HTL.out; rw [if_pos (by assumption), show scap = 1 from by assumption] at this; exact this)
              | have hx := HCH.out 1 (scap - 1) (by have := HTL.out; rw [if_neg (by assumption)] at this; exact this)
            all_goals
              generalize World.drew _ = w9 at hx ⊢
              generalize (Value.slice (some ⟨sg, _, none⟩) rs.length _) = rv9 at hx
              have H9 := Lib.hid hx.1
              have HH9 := Lib.hid hx.2
              clear hx HCH HTL HH8 H8 HR8 c7 c8 c9 f7 f8 f9 c6 hc0 hg1 hg2 hg4 hg6
              have c0 : w9.cell? ⟨vb, 0, none⟩ = some (.pointer (some ⟨g, 0, none⟩)) := (m_cells H9.out.vat.blk).1 0
              have c1 : w9.cell? ⟨vb, 1, none⟩ = some (.int .i64 d.fst.f) := (m_cells H9.out.vat.blk).1 1
              have c2 : w9.cell? ⟨vb, 2, none⟩ = some (.int .i64 d.fst.s) := (m_cells H9.out.vat.blk).1 2
              obtain ⟨W, hW⟩ : ∃ W, d.wip = W := ⟨_, rfl⟩
              rw [hW] at HF HWP
              obtain ⟨D2, E2⟩ := W
              simp only at HF HWP
              clear hW
              go_cut [14] from 15 (fun s14 w10 => s14 = .int .i64 E2 ∧ OwnV w0 w10 R g D2 vb rv9 { d.fst with at_ := at1, img := bL r0, recs := rs.map bL } ∧ Held w0 R w w10)
              case first =>
                go_region_with (go_at_call 40; refine (wipe_any d.fst.f d.fst.s at1 (H9.out.own.below (by repeat (first | exact Below.refl _ _ | assumption | (refine Below.drew ?_) | (refine below_drewN ?_ _) | (refine Below.alloc ?_ (by simp; done) _) | (refine Below.alloc ?_ (by simp; omega) _)))) hd (by omega) hleft HS1.out (by omega)).mono ?_; rintro e w10 ⟨rfl, h10, hh10⟩)
                all_goals
                  rw [← HWP.out] at h10 ⊢
                  go_wp2
                  go_meet
                  case rel =>
                    have hh11 : Held w0 (fun k => R k ∨ vfoot vb rv9 k) w9 w10 := ⟨hh10.size, hh10.block⟩
                    exact ⟨rfl, H9.out.dev h10 hh11, HH9.out.trans hh11.left⟩
              case rest =>
                rename World => w10
                obtain ⟨rfl, h10, hh10⟩ := hcut
                have H10 := Lib.hid h10
                have HH10 := Lib.hid hh10
                clear h10 hh10 c0 c1 c2 H9 HH9
                by_cases e5 : E2 = 0
                · subst e5
                  have HX3 := Lib.hid (show X = (some { d.fst with at_ := at1, img := bL r0, recs := rs.map bL }, D2.fl.1, D2.fl.2) from by rw [HF.out, if_neg (by decide)])
                  obtain ⟨V, hV⟩ : ∃ V : VaultD, { d.fst with at_ := at1, img := bL r0, recs := rs.map bL } = V := ⟨_, rfl⟩
                  rw [hV] at HX3 H10
                  clear hV HF
                  go_wp2_with fail
                  refine (ownr_flush H10.out.own).mono ?_
                  rintro e w11 ⟨rfl, h11, hh11⟩
                  have q : (if D2.left = 0 then (13 : Int) else 0) = D2.fl.2 := rfl
                  rw [q]
                  have H11 := Lib.hid (H10.out.dev (show OwnR w0 w11 _ g D2.fl.1 from h11) hh11)
                  have HH11 := Lib.hid (HH10.out.trans hh11.left)
                  clear h11 hh11 q
                  go_wp2_with fail
                  go_ret2
                  rw [HX3.out]
                  exact ⟨_, _, rfl, H11.out, HH11.out⟩
                · have HX3 := Lib.hid (show X = (none, D2, E2) from by rw [HF.out, if_pos e5])
                  clear HF
                  go_wp2_with fail
                  go_ret2
                  rw [HX3.out]
                  exact ⟨rfl, H10.out.own.sub (fun k q => Or.inl q), HH10.out⟩
    · have d1 : decide ((a : Int) < (b : Int)) = false := decide_eq_false (by omega)
      have hfst : d.fst = ⟨0, n, n, n, a, 0, ⟨#[]⟩, [], false⟩ := by unfold DevD.fst; rw [HN.out, HA.out, HB.out, if_neg (by omega)]
      have HFST := Lib.hid hfst
      have d4 : decide (a < b) = false := decide_eq_false (by omega)
      have d5 : ¬ a < b := by omega
      clear hfst
      go_wp2_with fail
      have HO1 := Lib.hid HVN0.out
      have HHO := Lib.hid HHN0.out
      obtain ⟨vb, hvb⟩ : ∃ vb, w5.heap.size = vb := ⟨_, rfl⟩
      rw [hvb] at HO1 ⊢
      unfold VaultD.cells at HO1 HHO
      clear c0 c1 c2 c3 c4 c5 HVN0 HHN0 KL60
      generalize hw7 : World.alloc w5 _ = w7 at *
      have hvn := HO1.out
      rw [← HFST.out] at hvn
      have HO := Lib.hid hvn
      clear hw7 HO1 hvn
      obtain ⟨c0, c1, c2⟩ := HO.out.vat.half
      have c6 : w7.cell? ⟨vb, 6, none⟩ = some (.int .u64 d.fst.ep) := (m_cells HO.out.vat.blk).1 6
      have HBD := Lib.hid (show d.fst.s = n ∧ (d.fst.f = 0 ∨ d.fst.f = n) from by rw [HFST.out]; simp)
      clear HFST
      have hs1 : d.fst.s ≤ 9223372036854775807 := by have := HBD.out; omega
      have HS1 := Lib.hid hs1
      obtain ⟨sc, hsc⟩ : ∃ sc, d.scan d.fst.f d.fst.s = sc := ⟨_, rfl⟩
      have hsc2 : sc.2.2 = 0 := by
        rw [← hsc]; unfold DevD.scan
        have h13 := hE1.out
        have hn3 := HN.out
        have hbd := HBD.out
        unfold DevD.mayErr at h13
        split at h13; · cases h13
        split at h13; · cases h13
        rw [if_neg (by assumption), if_neg]
        unfold DevD.on
        rw [decide_eq_false_iff_not, Classical.not_not]
        have hs2 := hbd.1
        rcases hbd.2 with q | q <;> rw [q, hs2] <;> omega
      have HSC := Lib.hid hsc
      have HSC2 := Lib.hid hsc2
      clear hs1 hsc hsc2
      obtain ⟨rs, at1, z⟩ := sc
      simp only at HSC2
      go_upto_region 10 with fail
      go_cut [11, 12, 13] from 15 (fun s11 s12 s13 w8 => ScnRel w0 w R g vb w7.heap.size d d.fst rs at1 s11 s12 s13 w8)
      case first =>
        go_region_with (go_at_call 36; refine (scan_any d.fst.f d.fst.s (HO.out.own.below (by repeat (first | exact Below.refl _ _ | assumption | (refine Below.drew ?_) | (refine below_drewN ?_ _) | (refine Below.alloc ?_ (by simp; done) _) | (refine Below.alloc ?_ (by simp; omega) _)))) HS1.out hd H64.out).mono ?_; rintro e w8 ⟨sv, rfl, hr8, h8, hb8⟩)
        all_goals
          rw [HSC.out] at hr8 ⊢
          rw [HSC2.out]
          obtain ⟨sa, scap, rfl⟩ := hr8.shape
          go_wp2
          go_meet
          case rel =>
            have hb9 : Below w7.heap.size w7 w8 := ⟨hb8.os, hb8.tape, hb8.output, hb8.size, hb8.block⟩
            rw [List.length_map] at hr8
            exact ⟨rfl, rfl, hr8, HO.out.news hb9, Nat.le_of_lt (m_lt HO.out.vat.blk), hb9.size, HHO.out.trans (Held.below (w0 := w0) (fun k q => HO.out.own.lt q) hb9).left⟩
      case rest =>
        rename World => w8
        obtain ⟨rfl, rfl, hr8, h8, -, hsz, hh8⟩ := hcut
        have H8 := Lib.hid h8
        have HH8 := Lib.hid hh8
        have HR8 := Lib.hid hr8
        have hvb7 := m_lt HO.out.vat.blk
        have HLT := Lib.hid (show ∀ k, R k → k < w7.heap.size from fun k q => HO.out.own.lt (Or.inl q))
        clear h8 hh8 c0 c1 c2 c6 HHO
        have c6 : w8.cell? ⟨vb, 6, none⟩ = some (.int .u64 d.fst.ep) := (m_cells H8.out.vat.blk).1 6
        obtain ⟨sa, scap, hsv⟩ := hr8.shape
        subst hsv
        clear hr8 HO
        rw [List.length_map] at HR8 ⊢
        by_cases e2 : d.fst.ep = 0
        · have d2 : decide ((d.fst.ep : Int) = 0) = true := decide_eq_true (by omega)
          have d2' : decide (d.fst.ep = 0) = true := decide_eq_true e2
          have HF := Lib.hid (show X = (none, d, 2) from by rw [← HX.out]; unfold DevD.openV; rw [if_neg (by rw [hE1.out]; decide), if_pos (Or.inl e2)])
          go_wp2_with fail
          go_ret2
          rw [HF.out]
          exact ⟨rfl, H8.out.own.sub (fun k q => Or.inl (Or.inl q)), HH8.out⟩
        · have d2 : decide ((d.fst.ep : Int) = 0) = false := decide_eq_false (by omega)
          have d2' : decide (d.fst.ep = 0) = false := decide_eq_false e2
          have HSN := Lib.hid (show d.scn = (rs, at1, z) from HSC.out)
          cases rs with
          | nil =>
            have HF := Lib.hid (show X = (none, d, 2) from by rw [← HX.out]; unfold DevD.openV; rw [if_neg (by rw [hE1.out]; decide), if_pos (Or.inr (by rw [HSN.out]))])
            go_wp2_with fail
            go_ret2
            rw [HF.out]
            exact ⟨rfl, H8.out.own.sub (fun k q => Or.inl (Or.inl q)), HH8.out⟩
          | cons r0 rs =>
            have HF := Lib.hid (show X = if d.wip.2 ≠ 0 then (none, d.wip.1, d.wip.2) else (some { d.fst with at_ := at1, img := bL r0, recs := rs.map bL }, d.wip.1.fl.1, d.wip.1.fl.2) from by
              rw [← HX.out]; unfold DevD.openV; rw [if_neg (by rw [hE1.out]; decide), if_neg (by rw [HSN.out]; exact fun q => q.elim e2 (fun q => by cases q)), HSN.out]; rfl)
            have HWP := Lib.hid (show d.wip = d.wipe d.fst.f d.fst.s at1 from by unfold DevD.wip; rw [HSN.out])
            obtain ⟨sg, scap', hsl, hg1, hg2, hg3, hg4, hg5, hg6⟩ := HR8.out.slice (by simp)
            obtain ⟨rfl, rfl⟩ : sa = some ⟨sg, 0, none⟩ ∧ scap = scap' := by
              simp only [Value.slice.injEq] at hsl
              exact ⟨hsl.1, hsl.2.2⟩
            have hc0 : w8.cell? ⟨sg, 0, none⟩ = some (.string (bL r0)) := hg5 0 (bL r0) rfl 0 (by decide)
            clear hsl hg5
            have hg7 : rs.length + 1 ≤ scap := by simpa using hg3
            clear hg3
            rw [List.length_cons] at HR8 ⊢
            go_wp2_with fail
            have c7 : w8.cell? ⟨vb, 7, none⟩ = some (.int .i64 d.fst.at_) := (m_cells H8.out.vat.blk).1 7
            have c8 : w8.cell? ⟨vb, 8, none⟩ = some (.string d.fst.img) := (m_cells H8.out.vat.blk).1 8
            have c9 : w8.cell? ⟨vb, 9, none⟩ = some (.slice none 0 0) := (m_cells H8.out.vat.blk).1 9
            have f7 := (m_cells H8.out.vat.blk).2 7
            have f8 := (m_cells H8.out.vat.blk).2 8
            have f9 := (m_cells H8.out.vat.blk).2 9
            have n1 : sg ≠ vb := by omega
            have n2 : vb ≠ sg := by omega
            have n3 : (sg == vb) = false := by rw [beq_eq_false_iff_ne]; exact n1
            have n4 : (vb == sg) = false := by rw [beq_eq_false_iff_ne]; exact n2
            have i1 : (1 : Int) ≤ (rs.length : Int) + 1 := by omega
            have i2 : (rs.length : Int) + 1 ≤ scap := by omega
            have i3 : 1 ≤ rs.length + 1 := by omega
            have hr' : Row EStr w8 w7.heap.size (.slice (some ⟨sg, 0, none⟩) (bL r0 :: rs.map bL).length scap) (bL r0 :: rs.map bL) := by rw [List.length_cons, List.length_map]; exact HR8.out
            have htl : RowO EStr w8 w7.heap.size (.slice (if scap = 1 then some ⟨sg, 0, none⟩ else some ⟨sg, 1, none⟩) rs.length (scap - 1)) (rs.map bL) := by have := RowO.tail hr'; rw [List.length_map] at this; exact this
            have HTL := Lib.hid htl
            have hch : ∀ o c, RowO EStr w8 w7.heap.size (.slice (some ⟨sg, o, none⟩) rs.length c) (rs.map bL) →
                OwnV w0 (((w8.setCell ⟨vb, 7, none⟩ (.int .i64 at1)).setCell ⟨vb, 8, none⟩ (.string (bL r0))).setCell ⟨vb, 9, none⟩ (.slice (some ⟨sg, o, none⟩) rs.length c)).drew R g d vb (.slice (some ⟨sg, o, none⟩) rs.length c) { d.fst with at_ := at1, img := bL r0, recs := rs.map bL } ∧
                Held w0 R w (((w8.setCell ⟨vb, 7, none⟩ (.int .i64 at1)).setCell ⟨vb, 8, none⟩ (.string (bL r0))).setCell ⟨vb, 9, none⟩ (.slice (some ⟨sg, o, none⟩) rs.length c)).drew := by
              intro o c hro
              have a7 := H8.out.store (v' := { d.fst with at_ := at1 }) 7 (.int .i64 at1) rfl rfl
              have b7 := H8.out.held_store 7 (.int .i64 at1)
              have a8 := a7.store (v' := { d.fst with at_ := at1, img := bL r0 }) 8 (.string (bL r0)) rfl rfl
              have b8 := b7.trans (a7.held_store 8 (.string (bL r0)))
              have hk : Keep (fun k => k = vb) w8 ((w8.setCell ⟨vb, 7, none⟩ (.int .i64 at1)).setCell ⟨vb, 8, none⟩ (.string (bL r0))) := ((Keep.refl (fun k => k = vb) w8).set vb 7 _ (Or.inl rfl)).set vb 8 _ (Or.inl rfl)
              have hr8 := hro.keep hk (fun i q e => by cases q; exact n1 e)
              have a9 := a8.adopt (R := R) hr8.zero (fun k q => Or.inl q) (fun k q => by cases q; exact ⟨Or.inr ⟨hg1, hg2⟩, fun q => absurd (HLT.out _ q) (Nat.not_lt.2 hg1)⟩)
              have b9 : Held w0 R w _ := HH8.out.trans ((show Held w0 R w8 _ from ⟨b8.size, fun k q => b8.block k (Or.inl q)⟩).trans a9.2)
              exact ⟨a9.1.below (Below.refl _ _).drew, b9.trans (Held.below (w0 := w0) (fun k q => a9.1.own.lt (Or.inl q)) (Below.refl _ _).drew)⟩
            have HCH := Lib.hid hch
            have hat : at1 ≤ 4096 := by
              have q := (scan_le d d.fst.f d.fst.s H64.out).1
              rw [HSC.out, HBD.out.1] at q
              simp only at q
              omega
            clear hr' htl hch
            go_region
            all_goals go_wp2
            all_goals first
              | have hx := HCH.out 0 0 (by have := HTL.out; rw [if_pos (by assumption), show scap = 1 from by assumption] at this; exact this)
              | have hx := HCH.out 1 (scap - 1) (by have := HTL.out; rw [if_neg (by assumption)] at this; exact this)
            all_goals
              generalize World.drew _ = w9 at hx ⊢
              generalize (Value.slice (some ⟨sg, _, none⟩) rs.length _) = rv9 at hx
              have H9 := Lib.hid hx.1
              have HH9 := Lib.hid hx.2
              clear hx HCH HTL HH8 H8 HR8 c7 c8 c9 f7 f8 f9 c6 hc0 hg1 hg2 hg4 hg6
              have c0 : w9.cell? ⟨vb, 0, none⟩ = some (.pointer (some ⟨g, 0, none⟩)) := (m_cells H9.out.vat.blk).1 0
              have c1 : w9.cell? ⟨vb, 1, none⟩ = some (.int .i64 d.fst.f) := (m_cells H9.out.vat.blk).1 1
              have c2 : w9.cell? ⟨vb, 2, none⟩ = some (.int .i64 d.fst.s) := (m_cells H9.out.vat.blk).1 2
              obtain ⟨W, hW⟩ : ∃ W, d.wip = W := ⟨_, rfl⟩
              rw [hW] at HF HWP
              obtain ⟨D2, E2⟩ := W
              simp only at HF HWP
              clear hW
              go_cut [14] from 15 (fun s14 w10 => s14 = .int .i64 E2 ∧ OwnV w0 w10 R g D2 vb rv9 { d.fst with at_ := at1, img := bL r0, recs := rs.map bL } ∧ Held w0 R w w10)
              case first =>
                go_region_with (go_at_call 40; refine (wipe_any d.fst.f d.fst.s at1 (H9.out.own.below (by repeat (first | exact Below.refl _ _ | assumption | (refine Below.drew ?_) | (refine below_drewN ?_ _) | (refine Below.alloc ?_ (by simp; done) _) | (refine Below.alloc ?_ (by simp; omega) _)))) hd (by omega) hleft HS1.out (by omega)).mono ?_; rintro e w10 ⟨rfl, h10, hh10⟩)
                all_goals
                  rw [← HWP.out] at h10 ⊢
                  go_wp2
                  go_meet
                  case rel =>
                    have hh11 : Held w0 (fun k => R k ∨ vfoot vb rv9 k) w9 w10 := ⟨hh10.size, hh10.block⟩
                    exact ⟨rfl, H9.out.dev h10 hh11, HH9.out.trans hh11.left⟩
              case rest =>
                rename World => w10
                obtain ⟨rfl, h10, hh10⟩ := hcut
                have H10 := Lib.hid h10
                have HH10 := Lib.hid hh10
                clear h10 hh10 c0 c1 c2 H9 HH9
                by_cases e5 : E2 = 0
                · subst e5
                  have HX3 := Lib.hid (show X = (some { d.fst with at_ := at1, img := bL r0, recs := rs.map bL }, D2.fl.1, D2.fl.2) from by rw [HF.out, if_neg (by decide)])
                  obtain ⟨V, hV⟩ : ∃ V : VaultD, { d.fst with at_ := at1, img := bL r0, recs := rs.map bL } = V := ⟨_, rfl⟩
                  rw [hV] at HX3 H10
                  clear hV HF
                  go_wp2_with fail
                  refine (ownr_flush H10.out.own).mono ?_
                  rintro e w11 ⟨rfl, h11, hh11⟩
                  have q : (if D2.left = 0 then (13 : Int) else 0) = D2.fl.2 := rfl
                  rw [q]
                  have H11 := Lib.hid (H10.out.dev (show OwnR w0 w11 _ g D2.fl.1 from h11) hh11)
                  have HH11 := Lib.hid (HH10.out.trans hh11.left)
                  clear h11 hh11 q
                  go_wp2_with fail
                  go_ret2
                  rw [HX3.out]
                  exact ⟨_, _, rfl, H11.out, HH11.out⟩
                · have HX3 := Lib.hid (show X = (none, D2, E2) from by rw [HF.out, if_pos e5])
                  clear HF
                  go_wp2_with fail
                  go_ret2
                  rw [HX3.out]
                  exact ⟨rfl, H10.out.own.sub (fun k q => Or.inl q), HH10.out⟩
  · have HF := Lib.hid (show X = (none, d, d.mayErr) from by rw [← HX.out]; unfold DevD.openV; rw [if_pos e1])
    obtain ⟨E, hE⟩ : ∃ E, d.mayErr = E := ⟨_, rfl⟩
    rw [hE] at HF e1 ⊢
    clear hE
    go_wp2_with fail
    go_ret2
    rw [HF.out]
    exact ⟨rfl, H1.out, Held.alloc' H.out HB1.out⟩
end
end Go.Proofs.Ytncbojocglcieaa

/- vault: what a device may have behind a restart, in plain Lean. -/
namespace Go.Proofs.Ytncbojocglcieaa
open Go.RowKit
set_option linter.unusedSimpArgs false
set_option linter.unusedVariables false
/-- What may stand in a device's sectors behind a restart. -/
def DevD.Cr (d : DevD) (S : Int → ByteArray) : Prop := ∀ i, S i = (mget d.safe i).getD zsec ∨ (i, S i) ∈ d.queue
/-- A device goes on: some writes are pending besides. -/
structure Ext (d d' : DevD) (Q : List (Int × ByteArray)) : Prop where
  safe : d'.safe = d.safe
  queue : d'.queue = d.queue ++ Q
  size : d'.size = d.size
  left : d'.left ≤ d.left ∧ (-1 ≤ d.left → -1 ≤ d'.left) ∧ (d.left = -1 → d'.left = -1)
  sec : ∀ i, d'.sec i = d.sec i ∨ (i, d'.sec i) ∈ Q
  nn : 0 ≤ d.left → 0 ≤ d'.left
theorem Ext.refl (d : DevD) : Ext d d [] := ⟨rfl, (List.append_nil _).symm, rfl, ⟨Int.le_refl _, id, id⟩, fun _ => Or.inl rfl, id⟩
theorem Ext.trans {a b c : DevD} {Q R : List (Int × ByteArray)} (h : Ext a b Q) (k : Ext b c R) : Ext a c (Q ++ R) := by
  refine ⟨k.safe.trans h.safe, by rw [k.queue, h.queue, List.append_assoc], k.size.trans h.size, ⟨Int.le_trans k.left.1 h.left.1, fun q => k.left.2.1 (h.left.2.1 q), fun q => k.left.2.2 (h.left.2.2 q)⟩, fun i => ?_, fun q => k.nn (h.nn q)⟩
  rcases k.sec i with q | q
  · rw [q]
    rcases h.sec i with r | r
    · exact Or.inl r
    · exact Or.inr (List.mem_append_left _ r)
  · exact Or.inr (List.mem_append_right _ q)
theorem Ext.put (d : DevD) (i : Int) (b : ByteArray) : Ext d (d.put i b) [(i, b)] := by
  refine ⟨rfl, rfl, rfl, ?_, fun j => ?_, ?_⟩
  rotate_right
  · unfold DevD.put; simp only; split <;> omega
  · unfold DevD.put; simp only; split <;> refine ⟨?_, ?_, ?_⟩ <;> omega
  · rw [put_sec]
    by_cases e : j = i
    · rw [if_pos e, e]; exact Or.inr List.mem_cons_self
    · rw [if_neg e]; exact Or.inl rfl
theorem Ext.cr {d d' : DevD} {Q : List (Int × ByteArray)} (h : Ext d d' Q) {S : Int → ByteArray} (hS : d'.Cr S) : ∃ S0, d.Cr S0 ∧ ∀ i, S i = S0 i ∨ (i, S i) ∈ Q := by
  classical
  refine ⟨fun i => if S i = (mget d.safe i).getD zsec ∨ (i, S i) ∈ d.queue then S i else (mget d.safe i).getD zsec, fun i => ?_, fun i => ?_⟩
  · simp only
    by_cases e : S i = (mget d.safe i).getD zsec ∨ (i, S i) ∈ d.queue
    · rw [if_pos e]; exact e
    · rw [if_neg e]; exact Or.inl rfl
  · simp only
    by_cases e : S i = (mget d.safe i).getD zsec ∨ (i, S i) ∈ d.queue
    · rw [if_pos e]; exact Or.inl rfl
    · right
      rcases hS i with q | q
      · rw [h.safe] at q; exact absurd (Or.inl q) e
      · rw [h.queue] at q
        rcases List.mem_append.1 q with r | r
        · exact absurd (Or.inr r) e
        · exact r
theorem cr_flush (d : DevD) (S : Int → ByteArray) : d.flush.Cr S ↔ ∀ i, S i = d.sec i := by
  unfold DevD.Cr DevD.flush DevD.sec
  simp
theorem flush_sec (d : DevD) (i : Int) : d.flush.sec i = d.sec i := rfl
theorem cr_sec_restart (d : DevD) (kept : List Int) : d.Cr (d.restart kept).sec := by
  have key : ∀ (q : List (Int × ByteArray)) (n : Nat) (s : List (Int × ByteArray)) (i : Int), (mget (keepers kept n q s) i).getD zsec = (mget s i).getD zsec ∨ (i, (mget (keepers kept n q s) i).getD zsec) ∈ q := by
    intro q
    induction q with
    | nil => intro n s i; exact Or.inl rfl
    | cons p q ih =>
      intro n s i
      unfold keepers
      rcases ih (n + 1) (if (n : Int) ∈ kept then mput s p.1 p.2 else s) i with h | h
      · rw [h]
        by_cases hk : (n : Int) ∈ kept
        · rw [if_pos hk, mget_put]
          by_cases e : i = p.1
          · rw [if_pos e, e]; exact Or.inr List.mem_cons_self
          · rw [if_neg e]; exact Or.inl rfl
        · rw [if_neg hk]; exact Or.inl rfl
      · exact Or.inr (List.mem_cons_of_mem _ h)
  intro i
  exact key d.queue 0 d.safe i
theorem mem_enumPos : ∀ (fs : List ByteArray) (p i : Int) (b : ByteArray), (i, b) ∈ enumPos p fs → ∃ t : Nat, i = p + t ∧ fs[t]? = some b := by
  intro fs
  induction fs with
  | nil => intro p i b h; simp [enumPos] at h
  | cons f fs ih =>
    intro p i b h
    rw [enumPos, List.mem_cons] at h
    rcases h with h | h
    · cases h; exact ⟨0, by simp, rfl⟩
    · obtain ⟨t, h1, h2⟩ := ih _ _ _ h
      exact ⟨t + 1, by omega, h2⟩
/-- Writing frames behind one another, wherever power goes. -/
theorem puts_gen (fs : List ByteArray) : ∀ (d : DevD) (pos : Int), 0 ≤ pos → pos + fs.length ≤ d.size → (∀ f ∈ fs, f.size = 64) → -1 ≤ d.left →
    ∃ m, m ≤ fs.length ∧ Ext d (d.puts pos fs).1 (enumPos pos (fs.take m)) ∧
      (((d.puts pos fs).2 = 0 ∧ m = fs.length ∧ ∀ i, (d.puts pos fs).1.sec i = if pos ≤ i ∧ i < pos + fs.length then fs.getD (i - pos).toNat zsec else d.sec i) ∨
       ((d.puts pos fs).2 = 13 ∧ (d.puts pos fs).1.left = 0 ∧ d.left ≠ -1)) := by
  induction fs with
  | nil => intro d pos _ _ _ _; exact ⟨0, Nat.le_refl _, Ext.refl d, Or.inl ⟨rfl, rfl, fun i => by rw [if_neg (by simp)]; rfl⟩⟩
  | cons f fs ih =>
    intro d pos h1 h2 h3 h4
    rw [List.length_cons] at h2
    have hf := h3 f List.mem_cons_self
    unfold DevD.puts
    by_cases hl : d.left = 0
    · have he : d.putErr pos f = 13 := by unfold DevD.putErr DevD.ask; rw [if_pos hl]; rfl
      rw [he, if_neg (by decide)]
      exact ⟨0, Nat.zero_le _, Ext.refl d, Or.inr ⟨rfl, hl, by omega⟩⟩
    · have he : d.putErr pos f = 0 := by unfold DevD.putErr DevD.ask; rw [if_neg hl, if_neg (by omega)]; simp [hf]
      rw [he, if_pos rfl]
      have e0 := Ext.put d pos f
      obtain ⟨m, k1, k2, k3⟩ := ih (d.put pos f) (pos + 1) (by omega) (by rw [e0.size]; omega) (fun x hx => h3 x (List.mem_cons_of_mem _ hx)) (e0.left.2.1 h4)
      refine ⟨m + 1, by simp; omega, e0.trans k2, ?_⟩
      rcases k3 with ⟨q1, q2, q3⟩ | ⟨q1, q2, q3⟩
      · refine Or.inl ⟨q1, by simp; omega, fun i => ?_⟩
        rw [q3, put_sec, List.length_cons]
        by_cases e : i = pos
        · subst e; rw [if_neg (by omega), if_pos rfl, if_pos (by omega), Int.sub_self]; rfl
        · rw [if_neg e]
          by_cases e2 : pos + 1 ≤ i ∧ i < pos + 1 + fs.length
          · rw [if_pos e2, if_pos (by omega), show (i - pos).toNat = (i - (pos + 1)).toNat + 1 from by omega]; rfl
          · rw [if_neg e2, if_neg (by omega)]
      · exact Or.inr ⟨q1, q2, fun h => q3 (e0.left.2.2 h)⟩
/-- Wiping, wherever power goes. -/
theorem wipes_gen : ∀ (n : Nat) (d : DevD) (pos : Int), -1 ≤ d.left →
    ∃ Q, Ext d (d.wipes pos n).1 Q ∧ (∀ i b, (i, b) ∈ Q → pos ≤ i ∧ i < pos + n ∧ b = zsec) ∧ Q.length ≤ n ∧
      (((d.wipes pos n).2 = 0 ∧ ∀ i, (d.wipes pos n).1.sec i = if pos ≤ i ∧ i < pos + n then zsec else d.sec i) ∨ ((d.wipes pos n).2 = 13 ∧ (d.wipes pos n).1.left = 0 ∧ d.left ≠ -1)) := by
  intro n
  induction n with
  | zero => intro d pos h; exact ⟨[], Ext.refl d, fun i b h => by simp at h, Nat.le_refl _, Or.inl ⟨rfl, fun i => by rw [if_neg (by omega)]; rfl⟩⟩
  | succ n ih =>
    intro d pos h
    rw [DevD.wipes]
    by_cases hl : d.left = 0
    · rw [if_pos hl]
      exact ⟨[], Ext.refl d, fun i b h => by simp at h, Nat.zero_le _, Or.inr ⟨rfl, hl, by omega⟩⟩
    · rw [if_neg hl]
      by_cases e : d.sec pos = zsec
      · rw [if_pos e]
        obtain ⟨Q, k1, k2, k2', k3⟩ := ih d (pos + 1) h
        refine ⟨Q, k1, fun i b hi => ?_, by omega, ?_⟩
        · obtain ⟨a1, a2, a3⟩ := k2 i b hi
          exact ⟨by omega, by omega, a3⟩
        · rcases k3 with ⟨q1, q2⟩ | q
          · refine Or.inl ⟨q1, fun i => ?_⟩
            rw [q2]
            by_cases e1 : i = pos
            · subst e1; rw [if_neg (by omega), if_pos (by omega), e]
            · by_cases e2 : pos + 1 ≤ i ∧ i < pos + 1 + n
              · rw [if_pos e2, if_pos (by omega)]
              · rw [if_neg e2, if_neg (by omega)]
          · exact Or.inr q
      · rw [if_neg e]
        have e0 := Ext.put d pos zsec
        obtain ⟨Q, k1, k2, k2', k3⟩ := ih (d.put pos zsec) (pos + 1) (e0.left.2.1 h)
        refine ⟨[(pos, zsec)] ++ Q, e0.trans k1, fun i b hi => ?_, by simp; omega, ?_⟩
        · rcases List.mem_append.1 hi with hi | hi
          · rw [List.mem_singleton] at hi; cases hi; exact ⟨by omega, by omega, rfl⟩
          · obtain ⟨a1, a2, a3⟩ := k2 i b hi
            exact ⟨by omega, by omega, a3⟩
        · rcases k3 with ⟨q1, q2⟩ | ⟨q1, q2, q3⟩
          · refine Or.inl ⟨q1, fun i => ?_⟩
            rw [q2, put_sec]
            by_cases e1 : i = pos
            · subst e1; rw [if_neg (by omega), if_pos rfl, if_pos (by omega)]
            · rw [if_neg e1]
              by_cases e2 : pos + 1 ≤ i ∧ i < pos + 1 + n
              · rw [if_pos e2, if_pos (by omega)]
              · rw [if_neg e2, if_neg (by omega)]
          · exact Or.inr ⟨q1, q2, fun h => q3 (e0.left.2.2 h)⟩
/-- The sectors of a bank. -/
def secsF (S : Int → ByteArray) (f : Int) (n : Nat) : List ByteArray := (List.range n).map fun (i : Nat) => S (f + i)
theorem secsF_length (S : Int → ByteArray) (f : Int) (n : Nat) : (secsF S f n).length = n := by simp [secsF]
theorem secsF_get (S : Int → ByteArray) (f : Int) (n i : Nat) (h : i < n) : (secsF S f n)[i]? = some (S (f + i)) := by simp [secsF, h]
/-- Frames stand behind a bank's head; from n0 on each of them, or noughts. -/
def Std (S : Int → ByteArray) (f : Int) (n : Nat) (F : List ByteArray) (n0 : Nat) : Prop :=
  ∀ p : Nat, p + 1 < n → S (f + ((p + 1 : Nat) : Int)) = F.getD p zsec ∨ (n0 ≤ p ∧ S (f + ((p + 1 : Nat) : Int)) = zsec)
theorem std_list {S : Int → ByteArray} {f : Int} {n n0 : Nat} {F : List ByteArray} (h : Std S f n F n0) (h0 : n0 ≤ F.length) (hf : F.length + 1 ≤ n) :
    ∃ gs, Masked (F.drop n0) gs ∧ (secsF S f n).drop 1 = F.take n0 ++ (gs ++ List.replicate (n - 1 - F.length) zsec) := by
  refine ⟨(List.range (F.length - n0)).map fun t => S (f + ((n0 + t + 1 : Nat) : Int)), ⟨by simp, fun t g hg => ?_⟩, ?_⟩
  · have ht : t < F.length - n0 := by simpa using (List.getElem?_eq_some_iff.1 hg).1
    rw [List.getElem?_map, List.getElem?_range ht] at hg
    simp only [Option.map_some, Option.some.injEq] at hg
    rcases h (n0 + t) (by omega) with q | q
    · left
      rw [← hg, q, List.getElem?_drop, List.getD_eq_getElem?_getD, List.getElem?_eq_getElem (by omega)]; rfl
    · right; rw [← hg]; exact q.2
  · apply List.ext_getElem?
    intro p
    by_cases hp : p + 1 < n
    · rw [List.getElem?_drop, secsF_get _ _ _ _ (by omega), show 1 + p = p + 1 from by omega]
      by_cases h1 : p < n0
      · rw [List.getElem?_append_left (by rw [List.length_take]; omega), List.getElem?_take_of_lt h1]
        rcases h p hp with q | q
        · rw [q, List.getD_eq_getElem?_getD, List.getElem?_eq_getElem (by omega)]; rfl
        · omega
      · rw [List.getElem?_append_right (by rw [List.length_take]; omega), List.length_take, Nat.min_eq_left h0]
        by_cases h2 : p < F.length
        · rw [List.getElem?_append_left (by simp; omega), List.getElem?_map, List.getElem?_range (by omega)]
          simp only [Option.map_some]
          rw [show n0 + (p - n0) + 1 = p + 1 from by omega]
        · rw [List.getElem?_append_right (by simp; omega), List.getElem?_replicate, if_pos (by simp; omega)]
          rcases h p hp with q | q
          · rw [q, List.getD_eq_getElem?_getD, List.getElem?_eq_none (by omega)]; rfl
          · rw [q.2]
    · rw [List.getElem?_eq_none (by rw [List.length_drop, secsF_length]; omega), List.getElem?_eq_none (by simp; omega)]
theorem zeros_stop (k : Nat) : List.replicate k zsec = [] ∨ standL (List.replicate k zsec) = [] := by
  cases k with
  | zero => exact Or.inl rfl
  | succ m => exact Or.inr (by rw [List.replicate_succ]; exact stands_zero _)
/-- What stands in a bank of which some frames may be lost. -/
theorem std_scan {S : Int → ByteArray} {f : Int} {n : Nat} {pre post : List (List UInt8)} (h : Std S f n ((pre ++ post).flatMap cutL) (pre.flatMap cutL).length)
    (hf : ((pre ++ post).flatMap cutL).length + 1 ≤ n) (hok : ∀ r ∈ pre ++ post, r ≠ [] ∧ r.length ≤ 60000) (h64 : ∀ i, (S i).size = 64) :
    ∃ j, j ≤ post.length ∧ (scanned ((secsF S f n).drop 1)).1 = pre ++ post.take j := by
  obtain ⟨gs, hm, hl⟩ := std_list h (by rw [List.flatMap_append, List.length_append]; omega) hf
  rw [List.flatMap_append, List.take_left' rfl, List.drop_left' rfl] at *
  have hg64 : ∀ g ∈ gs, g.size = 64 := by
    intro g hg
    have : g ∈ (secsF S f n).drop 1 := by rw [hl]; exact List.mem_append_right _ (List.mem_append_left _ hg)
    have := List.mem_of_mem_drop this
    unfold secsF at this
    obtain ⟨i, _, rfl⟩ := List.mem_map.1 this
    exact h64 _
  obtain ⟨j, hj, e⟩ := scanned_masked _ (zeros_stop (n - 1 - ((pre.flatMap cutL) ++ (post.flatMap cutL)).length)) post gs hm (fun r hr => hok r (List.mem_append_right _ hr)) hg64
  refine ⟨j, hj, ?_⟩
  rw [hl, scanned_append pre _ (fun r hr => hok r (List.mem_append_left _ hr)), e]
theorem std_weak {S : Int → ByteArray} {f : Int} {n m0 n0 : Nat} {F : List ByteArray} (h : Std S f n F n0) (hm : m0 ≤ n0) : Std S f n F m0 := by
  intro p hp
  rcases h p hp with q | q
  · exact Or.inl q
  · exact Or.inr ⟨by omega, q.2⟩
theorem std_congr {S S' : Int → ByteArray} {f : Int} {n n0 : Nat} {F : List ByteArray} (h : Std S f n F n0) (e : ∀ i, f < i → i < f + n → S' i = S i) : Std S' f n F n0 := by
  intro p hp
  rw [e _ (by omega) (by omega)]
  exact h p hp
/-- Frames are written behind those that stand; some of them may be lost. -/
theorem std_more {S S0 : Int → ByteArray} {f : Int} {n n0 : Nat} {F G : List ByteArray} (h : Std S0 f n F n0) (h0 : n0 ≤ F.length)
    (e : ∀ i, S i = S0 i ∨ ∃ t : Nat, i = f + ((F.length + 1 : Nat) : Int) + t ∧ G[t]? = some (S i)) : Std S f n (F ++ G) n0 := by
  intro p hp
  rcases e (f + ((p + 1 : Nat) : Int)) with q | ⟨t, q1, q2⟩
  · rw [q]
    by_cases hl : p < F.length
    · rcases h p hp with r | r
      · left; rw [r, List.getD_eq_getElem?_getD, List.getD_eq_getElem?_getD, List.getElem?_append_left hl]
      · exact Or.inr r
    · right
      refine ⟨by omega, ?_⟩
      rcases h p hp with r | r
      · rw [r, List.getD_eq_getElem?_getD, List.getElem?_eq_none (by omega)]; rfl
      · exact r.2
  · left
    have ht : t = p - F.length := by omega
    have hge : F.length ≤ p := by omega
    rw [List.getD_eq_getElem?_getD, List.getElem?_append_right hge, ← ht, q2]; rfl
end Go.Proofs.Ytncbojocglcieaa
