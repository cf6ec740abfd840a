/- tree: an entry is taken out of a directory. -/
import Derived.Test.YtolilbcpfdnkjaaGreatZBT8
import Derived.Deep.RegionHeld3
namespace Go.Proofs.YtolilbcpfdnkjaaGreat
open Go.RowKit
set_option linter.unusedSimpArgs false
set_option linter.unusedVariables false
theorem RowO.base {α : Type} {E : EK α} {w : World} {B B' : Nat} {v : Value} {l : List α} (h : RowO E w B v l) (hb : B' ≤ B) : RowO E w B' v l :=
  h.imp id (fun ⟨g, off, cap, h1, h2, h3⟩ => ⟨g, off, cap, h1, Nat.le_trans hb h2, h3⟩)
theorem edelete1_any {w : World} {B : Nat} {a : Option Addr} {n c : Nat} {l : List Ent} (h : RowO EEnt w B (.slice a n c) l) (i : Nat) (hi : i < l.length) (hl : l.length ≤ 1000000) :
    Calls Tryz.prog 97 #[.slice a n c, .int .i64 i, .int .i64 ((i : Int) + 1)] w fun e w' => ∃ v', e = .returned v' ∧ RowO EEnt w' B v' (l.eraseIdx i) ∧ v'.ownBlock = (Value.slice a n c).ownBlock ∧ Keep (fun k => some k = (Value.slice a n c).ownBlock) w w' := edelete_any h i (i + 1) rfl hi hl
set_option maxRecDepth 100000 in
set_option maxHeartbeats 4000000 in
theorem tdrop_any {w : World} {g bd bf gp bp : Nat} {vp : Value} {D : List (Int × DE)} {Fm : List (Int × Int)} {p : PD} {next : Int} (d : Int) (name : ByteArray) {v : Value} {E : List Ent} (i : Nat) (x : Ent)
    (h : MAt w g bd bf gp bp vp D Fm p next) (hd : mget D d = some (v, E)) (hE : E.length ≤ 100000) (hi : idxP E (hasName name) = i) (hx : E[i]? = some x) :
    Calls Tryz.prog 71 #[.pointer (some ⟨g, 0, none⟩), .int .i64 d, .string name] w (PutPost w g bd bf gp bp vp D Fm p d (E.eraseIdx i) next) := by
  have c0 : w.cell? ⟨g, 0, none⟩ = some (.map (some bd)) := (m_cells h.blk).1 0
  have hlk := h.dm.lookup (P := Tryz.prog) Tryz.underlying53 Tryz.underlying3 zero_ents d false
  rw [hd] at hlk
  simp only [Bool.false_eq_true, if_false, encDE] at hlk
  have hrow : RowO EEnt w 0 v E := h.rows _ (mget_mem hd)
  have hil : i < E.length := (List.getElem?_eq_some_iff.1 hx).1
  have HM := Lib.hid h
  have HROW := Lib.hid hrow
  have HELEN := Lib.hid hE
  have HI := Lib.hid hi
  have HIL := Lib.hid hil
  obtain ⟨va, vc, rfl⟩ := hrow.shape
  clear h hd hE hi hx hrow hil
  go_enter Tryz.func71, Tryz.ntmps71
  go_wp2_with fail
  refine (eclone_any (l := E) w HROW.out.arg (by have := HELEN.out; omega)).mono ?_
  rintro e w1 ⟨v1, rfl, hr1, hb1⟩
  have HR1 := Lib.hid hr1
  have HB1 := Lib.hid hb1
  obtain ⟨a1, k1, rfl⟩ := hr1.shape
  clear hr1 hb1
  go_wp2_with fail
  refine (index_any name w1 HR1.out.arg (by have := HELEN.out; omega)).mono ?_
  rintro e w2 ⟨rfl, hb2⟩
  rw [HI.out]
  have HR2 := Lib.hid (HR1.out.below hb2)
  have HK2 := Lib.hid (show Keep (fun _ => False) w w2 from ((Keep.refl _ w).trans' (Keep.below HB1.out) (fun i hi => Or.inr hi)).trans' (Keep.below hb2) (fun i hi => Or.inr (Nat.le_trans HB1.out.size hi)))
  have hil := HIL.out
  have hel := HELEN.out
  have g0 : ∀ w', Keep (fun k => k = bd ∨ w.heap.size ≤ k) w w' → w'.cell? ⟨g, 0, none⟩ = some (.map (some bd)) := fun w' k => (m_cells (m_keep HM.out.blk k (fun e => e.elim (fun e => HM.out.s1.1 e.symm) (fun e => by have := m_lt HM.out.blk; omega)))).1 0
  have HG0 := Lib.hid g0
  clear hb2 g0 HR1 HB1 c0 hlk
  go_wp2_with fail
  have HWR := Lib.hid (show IntKind.i64.wrap ((i : Int) + 1) = (i : Int) + 1 from IntWalk.i64_in _ (by omega))
  go_region_held3 (fun w' => w'.cell? ⟨g, 0, none⟩ = some (.map (some bd)))
    (first | exact HG0.out _ hk4 | exact HG0.out _ hk3 | exact HG0.out _ ((HK2.out.mono (fun _ q => q.elim)).drew))
    (first
     | (go_at_call 97
        rw [HWR.out]
        refine (edelete1_any (RowO.of_row (HR2.out.below ((Below.refl _ _).drew))) i HIL.out (by have := HELEN.out; omega)).mono ?_
        rintro e w3 ⟨v3, rfl, hr3, ho3, hkd⟩
        have hk3' : Keep (fun _ => False) w w3 := (HK2.out.drew).trans' hkd (fun j hj => Or.inr (HR2.out.ge hj.symm))
        have hk3 : Keep (fun k => k = bd ∨ w.heap.size ≤ k) w w3 := hk3'.mono (fun _ q => q.elim)
        obtain ⟨w4, hrun, hm4, hk4'⟩ := (HM.out.dm.keep hk3' (fun q => q)).update (P := Tryz.prog) Tryz.underlying53 Tryz.underlying3 d (v3, E.eraseIdx i)
        simp only [encDE] at hrun
        have hk4 : Keep (fun k => k = bd ∨ w.heap.size ≤ k) w w4 := hk3.trans (hk4'.mono (fun _ q => Or.inl (Or.inl q)))
        clear hkd))
  all_goals
    go_wp2_with fail
    refine bodyPost_ret (v := .tuple #[]) (by simp [results, Tryz.results71, go_sem]) rfl ?_
    have hge : ∀ k, v3.ownBlock = some k → w.heap.size ≤ k := fun k hk => HR2.out.ge (by rw [← ho3]; exact hk)
    have hk4g : Keep (fun k => k = g ∨ k = bd) w w4 := hk4.mono (fun i q => q.elim (fun q => Or.inl (Or.inr q)) Or.inr)
    refine ⟨v3, rfl, HM.out.turned hk4g (m_keep HM.out.blk hk4 (fun e => e.elim (fun e => HM.out.s1.1 e.symm) (fun e => by have := m_lt HM.out.blk; omega))) hm4 ((hr3.keep hk4' (fun i hi e => by have := hge i hi; have := HM.out.dm.lt; omega)).base (Nat.zero_le _)) hge, hge, hk4g⟩
end Go.Proofs.YtolilbcpfdnkjaaGreat
