/- Lemmas, texts Y4 Y5 Y6; no condition beyond those that each states. -/
import Derived.Test.YtolilbcpfdnkjaaGreatZBY1
import Derived.Deep.MidRow
import Derived.Deep.RegionHeld3
/- the reference's tree, by value: put, drop. -/
namespace Go.Proofs.YtolilbcpfdnkjaaGreat
open Go.RowKit
set_option linter.unusedSimpArgs false
set_option linter.unusedVariables false
set_option maxRecDepth 100000 in
set_option maxHeartbeats 2000000 in
theorem rput_any {v : Value} {L : List Itm} (w : World) (next d : Int) (e : Ent) (h : Arg EItm w v L) (hl : L.length ≤ 1000) (hn : next ≤ 1000000000) (hn0 : 0 ≤ next) :
    Calls Tryz.prog 77 #[.agg #[v, .int .i64 next], .int .i64 d, e.val] w fun r w' => ∃ v', r = .returned (.agg #[v', .int .i64 (next + 1)]) ∧ Row EItm w' w.heap.size v' (L ++ [⟨d, { e with cookie := next }⟩]) ∧ Below w.heap.size w w' := by
  obtain ⟨a, c, rfl⟩ := h.shape
  have k1 := m_old (.cells #[.slice none 0 0, .int .i64 0] 29) (m_old (.cells #[.string e.name, .int .i64 e.node, .bool e.dir, .int .i64 next, .int .i64 e.short] 84) (m_alloc w (.cells #[.slice a L.length c, .int .i64 next] 29) w.heap.size rfl))
  have k2 := m_old (.cells #[.slice none 0 0, .int .i64 0] 29) (m_alloc (w.alloc (.cells #[.slice a L.length c, .int .i64 next] 29)) (.cells #[.string e.name, .int .i64 e.node, .bool e.dir, .int .i64 next, .int .i64 e.short] 84) (w.heap.size + 1) (by simp))
  have k3 := m_alloc ((w.alloc (.cells #[.slice a L.length c, .int .i64 next] 29)).alloc (.cells #[.string e.name, .int .i64 e.node, .bool e.dir, .int .i64 next, .int .i64 e.short] 84)) (.cells #[.slice none 0 0, .int .i64 0] 29) (w.heap.size + 1 + 1) (by simp)
  have hbw : Below w.heap.size w (((w.alloc (.cells #[.slice a L.length c, .int .i64 next] 29)).alloc (.cells #[.string e.name, .int .i64 e.node, .bool e.dir, .int .i64 next, .int .i64 e.short] 84)).alloc (.cells #[.slice none 0 0, .int .i64 0] 29)) := (((Below.refl _ w).alloc (Nat.le_refl _) _).alloc (by simp) _).alloc (by simp; omega) _
  have ha := h.below hbw
  have HBW := Lib.hid hbw
  clear h hbw
  go_enter Tryz.func77, Tryz.ntmps77
  go_wp2_with fail
  generalize ((w.alloc (.cells #[.slice a L.length c, .int .i64 next] 29)).alloc (.cells #[.string e.name, .int .i64 e.node, .bool e.dir, .int .i64 next, .int .i64 e.short] 84)).alloc (.cells #[.slice none 0 0, .int .i64 0] 29) = W at *
  have c0 : W.cell? ⟨w.heap.size + 1, 0, none⟩ = some (.string e.name) := (m_cells k2).1 0
  have c1 : W.cell? ⟨w.heap.size + 1, 1, none⟩ = some (.int .i64 e.node) := (m_cells k2).1 1
  have c2 : W.cell? ⟨w.heap.size + 1, 2, none⟩ = some (.bool e.dir) := (m_cells k2).1 2
  have c3 : W.cell? ⟨w.heap.size + 1, 3, none⟩ = some (.int .i64 next) := (m_cells k2).1 3
  have c4 : W.cell? ⟨w.heap.size + 1, 4, none⟩ = some (.int .i64 e.short) := (m_cells k2).1 4
  have c5 : W.cell? ⟨w.heap.size, 0, none⟩ = some (.slice a L.length c) := (m_cells k1).1 0
  have c6 : W.cell? ⟨w.heap.size, 1, none⟩ = some (.int .i64 next) := (m_cells k1).1 1
  have HK := Lib.hid k3
  have HA := Lib.hid ha
  have hlt : w.heap.size + 1 + 1 < W.heap.size := m_lt k3
  have hle : w.heap.size + 1 + 1 ≤ W.heap.size := Nat.le_of_lt hlt
  have HS := Lib.hid (show ∀ w', Below (w.heap.size + 1 + 1) W w' → (w'.cell? ⟨w.heap.size + 1, 0, none⟩ = some (.string e.name) ∧ w'.cell? ⟨w.heap.size + 1, 1, none⟩ = some (.int .i64 e.node) ∧ w'.cell? ⟨w.heap.size + 1, 2, none⟩ = some (.bool e.dir) ∧ w'.cell? ⟨w.heap.size + 1, 3, none⟩ = some (.int .i64 next) ∧ w'.cell? ⟨w.heap.size + 1, 4, none⟩ = some (.int .i64 e.short) ∧ w'.cell? ⟨w.heap.size, 0, none⟩ = some (.slice a L.length c) ∧ w'.cell? ⟨w.heap.size, 1, none⟩ = some (.int .i64 next)) from fun w' k =>
    ⟨(k.cell (by simp)).trans c0, (k.cell (by simp)).trans c1, (k.cell (by simp)).trans c2, (k.cell (by simp)).trans c3, (k.cell (by simp)).trans c4, (k.cell (by show w.heap.size < _; omega)).trans c5, (k.cell (by show w.heap.size < _; omega)).trans c6⟩)
  have hcw : IntKind.i64.wrap (next + 1) = next + 1 := IntWalk.i64_in _ (by omega)
  clear k1 k2 k3 ha
  have MARK : True := trivial
  go_region_held3 (fun w' => w'.cell? ⟨w.heap.size + 1, 0, none⟩ = some (.string e.name) ∧ w'.cell? ⟨w.heap.size + 1, 1, none⟩ = some (.int .i64 e.node) ∧ w'.cell? ⟨w.heap.size + 1, 2, none⟩ = some (.bool e.dir) ∧ w'.cell? ⟨w.heap.size + 1, 3, none⟩ = some (.int .i64 next) ∧ w'.cell? ⟨w.heap.size + 1, 4, none⟩ = some (.int .i64 e.short) ∧ w'.cell? ⟨w.heap.size, 0, none⟩ = some (.slice a L.length c) ∧ w'.cell? ⟨w.heap.size, 1, none⟩ = some (.int .i64 next))
    (first | exact HS.out _ (((HB7.out.mono hle).setCell (Nat.le_refl _) _).setCell (Nat.le_refl _) _) | exact HS.out _ (HB7.out.mono hle) | exact HS.out _ (HB6.out.mono hle) | exact HS.out _ ((HB6.out.alloc HB6.out.size _).mono hle) | exact HS.out _ ((show Below W.heap.size W _ from (by repeat (first | exact Below.refl _ _ | assumption | (refine Below.drew ?_) | (refine below_drewN ?_ _) | (refine Below.alloc ?_ (by simp; done) _) | (refine Below.alloc ?_ (by simp; omega) _)))).mono hle))
    (first
      | (have _hh := HMA
         refine step_on EItm.laid rfl _ _ 27 27 Tryz.underlying27 Tryz.underlying27 rfl _ L rfl (HR6.out.alloc _) (HB6.out.trans ((show Below w6.heap.size w6 _ from (by repeat (first | exact Below.refl _ _ | assumption | (refine Below.drew ?_) | (refine below_drewN ?_ _) | (refine Below.alloc ?_ (by simp; done) _) | (refine Below.alloc ?_ (by simp; omega) _)))).mono HB6.out.size)) (Nat.le_refl _) _ [(⟨d, ⟨e.name, e.node, e.dir, next, e.short⟩⟩ : Itm)] rfl ?e1 ?e2 ?e3 ?_
         case e1 => exact Arg.blk (m_alloc _ _ _ rfl) [(⟨d, ⟨e.name, e.node, e.dir, next, e.short⟩⟩ : Itm)] rfl 1
         case e2 => (show (L.length + 1) * 56 ≤ _; omega)
         case e3 => (show L.length + 1 ≤ maxLen; unfold maxLen; omega)
         intro v7 w7 hr7 hb7 k7
         (have hk7 := (hb7.block _ (m_lt HK.out)).trans HK.out; have z0 : w7.cell? ⟨w.heap.size + 1 + 1, 0, none⟩ = some (.slice none 0 0) := (m_cells hk7).1 0; have z1 : w7.cell? ⟨w.heap.size + 1 + 1, 1, none⟩ = some (.int .i64 0) := (m_cells hk7).1 1; have z2 := (m_cells hk7).2 0; have z3 := (m_cells hk7).2 1)
         obtain ⟨a7, c7, rfl⟩ := hr7.shape
         have HR7 := Lib.hid hr7
         have HB7 := Lib.hid hb7
         clear hr7 k7 hb7 HMA _hh)
      | (have _hh := HMB
         refine step_on EItm.laid rfl _ _ 27 27 Tryz.underlying27 Tryz.underlying27 rfl _ L rfl (HR6.out) (HB6.out.trans ((show Below w6.heap.size w6 _ from (by repeat (first | exact Below.refl _ _ | assumption | (refine Below.drew ?_) | (refine below_drewN ?_ _) | (refine Below.alloc ?_ (by simp; done) _) | (refine Below.alloc ?_ (by simp; omega) _)))).mono HB6.out.size)) (Nat.le_refl _) _ [(⟨d, ⟨e.name, e.node, e.dir, next, e.short⟩⟩ : Itm)] rfl ?e1 ?e2 ?e3 ?_
         case e1 => exact HX6.out
         case e2 => (show (L.length + 1) * 56 ≤ _; omega)
         case e3 => (show L.length + 1 ≤ maxLen; unfold maxLen; omega)
         intro v7 w7 hr7 hb7 k7
         (have hk7 := (hb7.block _ (m_lt HK.out)).trans HK.out; have z0 : w7.cell? ⟨w.heap.size + 1 + 1, 0, none⟩ = some (.slice none 0 0) := (m_cells hk7).1 0; have z1 : w7.cell? ⟨w.heap.size + 1 + 1, 1, none⟩ = some (.int .i64 0) := (m_cells hk7).1 1; have z2 := (m_cells hk7).2 0; have z3 := (m_cells hk7).2 1)
         obtain ⟨a7, c7, rfl⟩ := hr7.shape
         have HR7 := Lib.hid hr7
         have HB7 := Lib.hid hb7
         clear hr7 k7 hb7 HMB _hh)
      | (have _hh := MARK
         refine step_on (w0 := W) (B := (W).heap.size) EItm.laid rfl _ _ 27 27 Tryz.underlying27 Tryz.underlying27 rfl _ [] rfl (Row.new W (W).heap.size #[] [] (Nat.le_refl _) rfl (Nat.zero_le _)) (by repeat (first | exact Below.refl _ _ | assumption | (refine Below.drew ?_) | (refine below_drewN ?_ _) | (refine Below.alloc ?_ (by simp; done) _) | (refine Below.alloc ?_ (by simp; omega) _))) (Nat.le_refl _) _ L rfl ?e1 ?e2 ?e3 ?_
         case e1 => exact (HA.out).below (by repeat (first | exact Below.refl _ _ | assumption | (refine Below.drew ?_) | (refine below_drewN ?_ _) | (refine Below.alloc ?_ (by simp; done) _) | (refine Below.alloc ?_ (by simp; omega) _)))
         case e2 => (show (0 + L.length) * 56 ≤ _; omega)
         case e3 => (show 0 + L.length ≤ maxLen; unfold maxLen; omega)
         intro v6 w6 hr6 hb6 k6
         skip
         (try have c0e := cell_later hb6 c0)
         (try have c1e := cell_later hb6 c1)
         (try have c2e := cell_later hb6 c2)
         (try have c3e := cell_later hb6 c3)
         (try have c4e := cell_later hb6 c4)
         (try have c5e := cell_later hb6 c5)
         (try have c6e := cell_later hb6 c6)
         obtain ⟨a6, c6', rfl⟩ := hr6.shape
         rw [List.nil_append] at hr6 ⊢
         have HR6 := Lib.hid hr6
         have HB6 := Lib.hid hb6
         have HMA : True := trivial
         clear hr6 k6 hb6 MARK _hh)
      | (have _hh := MARK
         have hx : Arg EItm (((W).alloc (.cells #[] 116)).alloc (.cells #[.int .i64 d, .string e.name, .int .i64 e.node, .bool e.dir, .int .i64 next, .int .i64 e.short] 116)).drew (.slice (some ⟨(W).heap.size + 1, 0, none⟩) 1 1) [(⟨d, ⟨e.name, e.node, e.dir, next, e.short⟩⟩ : Itm)] := Arg.blk (m_alloc ((W).alloc (.cells #[] 116)) _ _ (by simp)) [(⟨d, ⟨e.name, e.node, e.dir, next, e.short⟩⟩ : Itm)] rfl 1
         refine step_on (w0 := W) (B := (W).heap.size) EItm.laid rfl _ _ 27 27 Tryz.underlying27 Tryz.underlying27 rfl _ [] rfl ((Row.new W (W).heap.size #[] [] (Nat.le_refl _) rfl (Nat.zero_le _)).alloc (.cells #[.int .i64 d, .string e.name, .int .i64 e.node, .bool e.dir, .int .i64 next, .int .i64 e.short] 116)) (by repeat (first | exact Below.refl _ _ | assumption | (refine Below.drew ?_) | (refine below_drewN ?_ _) | (refine Below.alloc ?_ (by simp; done) _) | (refine Below.alloc ?_ (by simp; omega) _))) (Nat.le_refl _) _ L rfl ?e1 ?e2 ?e3 ?_
         case e1 => exact (HA.out).below (by repeat (first | exact Below.refl _ _ | assumption | (refine Below.drew ?_) | (refine below_drewN ?_ _) | (refine Below.alloc ?_ (by simp; done) _) | (refine Below.alloc ?_ (by simp; omega) _)))
         case e2 => (show (0 + L.length) * 56 ≤ _; omega)
         case e3 => (show 0 + L.length ≤ maxLen; unfold maxLen; omega)
         intro v6 w6 hr6 hb6 k6
         skip
         have HX6 := Lib.hid (hx.keep k6 (fun i q e => by (have a := Option.some.inj q; have b := Option.some.inj e; simp at a b; omega)))
         obtain ⟨a6, c6', rfl⟩ := hr6.shape
         rw [List.nil_append] at hr6 ⊢
         have HR6 := Lib.hid hr6
         have HB6 := Lib.hid hb6
         have HMB : True := trivial
         clear hx
         clear hr6 k6 hb6 MARK _hh)
      | (have _hh := MARK
         have hrow : Row EItm (((W).alloc (.cells #[.int .i64 d, .string e.name, .int .i64 e.node, .bool e.dir, .int .i64 next, .int .i64 e.short] 116)).alloc (.cells #[] 116)) (W).heap.size (.slice (some ⟨(W).heap.size + 1, 0, none⟩) 0 0) [] := by (have := Row.new (E := EItm) ((W).alloc (.cells #[.int .i64 d, .string e.name, .int .i64 e.node, .bool e.dir, .int .i64 next, .int .i64 e.short] 116)) (W).heap.size #[] [] (by simp) rfl (Nat.zero_le _); rw [World.size_alloc] at this; exact this)
         have hx : Arg EItm (((W).alloc (.cells #[.int .i64 d, .string e.name, .int .i64 e.node, .bool e.dir, .int .i64 next, .int .i64 e.short] 116)).alloc (.cells #[] 116)).drew (.slice (some ⟨(W).heap.size, 0, none⟩) 1 1) [(⟨d, ⟨e.name, e.node, e.dir, next, e.short⟩⟩ : Itm)] := Arg.blk (m_old _ (m_alloc W _ _ rfl)) [(⟨d, ⟨e.name, e.node, e.dir, next, e.short⟩⟩ : Itm)] rfl 1
         refine step_on (w0 := W) (B := (W).heap.size) EItm.laid rfl _ _ 27 27 Tryz.underlying27 Tryz.underlying27 rfl _ [] rfl hrow (by repeat (first | exact Below.refl _ _ | assumption | (refine Below.drew ?_) | (refine below_drewN ?_ _) | (refine Below.alloc ?_ (by simp; done) _) | (refine Below.alloc ?_ (by simp; omega) _))) (Nat.le_refl _) _ L rfl ?e1 ?e2 ?e3 ?_
         case e1 => exact (HA.out).below (by repeat (first | exact Below.refl _ _ | assumption | (refine Below.drew ?_) | (refine below_drewN ?_ _) | (refine Below.alloc ?_ (by simp; done) _) | (refine Below.alloc ?_ (by simp; omega) _)))
         case e2 => (show (0 + L.length) * 56 ≤ _; omega)
         case e3 => (show 0 + L.length ≤ maxLen; unfold maxLen; omega)
         intro v6 w6 hr6 hb6 k6
         skip
         have HX6 := Lib.hid (hx.keep k6 (fun i q e => by (have a := Option.some.inj q; have b := Option.some.inj e; simp at a b; omega)))
         obtain ⟨a6, c6', rfl⟩ := hr6.shape
         rw [List.nil_append] at hr6 ⊢
         have HR6 := Lib.hid hr6
         have HB6 := Lib.hid hb6
         have HMB : True := trivial
         clear hx
         clear hr6 k6 hb6 MARK _hh))
  all_goals
    go_wp2_with fail
    have hg := m_set (m_set hk7 0 (.slice a7 (L.length + 1) c7)) 1 (.int .i64 (next + 1))
    have hr := HR7.out
    rw [List.length_append] at hr
    refine bodyPost_ret (v := .agg #[.slice a7 (L.length + 1) c7, .int .i64 (next + 1)]) (results_cell_row (p := 6) (ty := 29) rfl _ _ (w.heap.size + 1 + 1) 29 _ (0, 0) _ rfl hg Tryz.underlying29 rfl (by kernel_rfl)) rfl ⟨_, rfl, ?_, ?_⟩
    · exact ((hr.kept (fun k q => by rw [Below.heap_setCell _ _ _ _ (by have := hr.ge q; show k ≠ w.heap.size + 1 + 1; omega), Below.heap_setCell _ _ _ _ (by have := hr.ge q; show k ≠ w.heap.size + 1 + 1; omega)])).mono HBW.out.size)
    · exact ((HBW.out.trans (HB7.out.mono HBW.out.size)).setCell (by show w.heap.size ≤ w.heap.size + 1 + 1; omega) _).setCell (by show w.heap.size ≤ w.heap.size + 1 + 1; omega) _
end Go.Proofs.YtolilbcpfdnkjaaGreat

/- the reference's tree, by value: drop. -/
namespace Go.Proofs.YtolilbcpfdnkjaaGreat
open Go.RowKit
set_option linter.unusedSimpArgs false
set_option linter.unusedVariables false
theorem dropT_take (L : List Itm) (d : Int) (name : ByteArray) (i : Nat) (x : Itm) (hx : L[i]? = some x) : dropT (L.take (i + 1)) d name = dropT (L.take i) d name ++ if isAt d name x = true then [] else [x] := by
  rw [show L.take (i + 1) = L.take i ++ [x] from by rw [List.take_add_one, hx]; rfl]
  unfold dropT
  rw [List.filter_append]
  cases h : isAt d name x <;> simp [h]
def DropRel (w W : World) (B : Nat) (L : List Itm) (d : Int) (name : ByteArray) (next : Int) (iv : Value) (wr : World) : Prop :=
  ∃ (i : Nat) (v : Value), iv = .int .i64 i ∧ i ≤ L.length ∧ wr.heap[B]? = some (.cells #[v, .int .i64 next] 29 (0, 0)) ∧ Row EItm wr W.heap.size v (dropT (L.take i) d name) ∧ Below B W wr
set_option maxRecDepth 100000 in
set_option maxHeartbeats 2000000 in
theorem rdrop_any {v : Value} {L : List Itm} (w : World) (next d : Int) (name : ByteArray) (h : Arg EItm w v L) (hl : L.length ≤ 1000) :
    Calls Tryz.prog 78 #[.agg #[v, .int .i64 next], .int .i64 d, .string name] w fun r w' => ∃ v', r = .returned (.agg #[v', .int .i64 next]) ∧ Row EItm w' w.heap.size v' (dropT L d name) ∧ Below w.heap.size w w' := by
  obtain ⟨a, c, rfl⟩ := h.shape
  have k1 := m_old (.cells #[.slice none 0 0, .int .i64 next] 29) (m_old (.cells #[.slice none 0 0, .int .i64 0] 29) (m_alloc w (.cells #[.slice a L.length c, .int .i64 next] 29) w.heap.size rfl))
  have k2 := m_old (.cells #[.slice none 0 0, .int .i64 next] 29) (m_alloc (w.alloc (.cells #[.slice a L.length c, .int .i64 next] 29)) (.cells #[.slice none 0 0, .int .i64 0] 29) (w.heap.size + 1) (by simp))
  have k3 := m_alloc ((w.alloc (.cells #[.slice a L.length c, .int .i64 next] 29)).alloc (.cells #[.slice none 0 0, .int .i64 0] 29)) (.cells #[.slice none 0 0, .int .i64 next] 29) (w.heap.size + 1 + 1) (by simp)
  have hbw : Below w.heap.size w (((w.alloc (.cells #[.slice a L.length c, .int .i64 next] 29)).alloc (.cells #[.slice none 0 0, .int .i64 0] 29)).alloc (.cells #[.slice none 0 0, .int .i64 next] 29)) := (((Below.refl _ w).alloc (Nat.le_refl _) _).alloc (by simp) _).alloc (by simp; omega) _
  have H0 := Lib.hid h
  have hsz : (((w.alloc (.cells #[.slice a L.length c, .int .i64 next] 29)).alloc (.cells #[.slice none 0 0, .int .i64 0] 29)).alloc (.cells #[.slice none 0 0, .int .i64 next] 29)).heap.size = w.heap.size + 1 + 1 + 1 := by simp
  obtain ⟨W, hW⟩ : ∃ W, ((w.alloc (.cells #[.slice a L.length c, .int .i64 next] 29)).alloc (.cells #[.slice none 0 0, .int .i64 0] 29)).alloc (.cells #[.slice none 0 0, .int .i64 next] 29) = W := ⟨_, rfl⟩
  rw [hW] at k1 k2 k3 hbw hsz
  have HBW := Lib.hid hbw
  have HK1 := Lib.hid k1
  have HK2 := Lib.hid k2
  have HK3 := Lib.hid k3
  clear h hbw k1 k2 k3
  go_enter Tryz.func78, Tryz.ntmps78
  go_wp2_with fail
  clear hW
  obtain ⟨B, hB⟩ : ∃ B, w.heap.size + 1 + 1 = B := ⟨_, rfl⟩
  rw [hB] at HK3
  rw [hB]
  have HBB := Lib.hid hB
  have hbx : w.heap.size + 1 < B := by omega
  have hby : B < W.heap.size := by omega
  have hbz : B ≤ W.heap.size := by omega
  have hwB : w.heap.size < B := by omega
  clear hB hsz
  go_loopw [8] (fun iv wr => DropRel w W B L d name next iv wr) (fun iv _ => L.length - (intOf iv).toNat)
  case atStart => exact ⟨0, .slice none 0 0, rfl, Nat.zero_le _, HK3.out, Row.nil _ _ _, Below.refl _ _⟩
  case round =>
    obtain ⟨i, v, rfl, hi, hk, hr, hb⟩ := hrel
    obtain ⟨av, cv, rfl⟩ := hr.shape
    have t0 : wr.cell? ⟨w.heap.size, 0, none⟩ = some (.slice a L.length c) := (hb.cell (by show w.heap.size < B; omega)).trans ((m_cells HK1.out).1 0)
    have o0 : wr.cell? ⟨B, 0, none⟩ = some (.slice av (dropT (L.take i) d name).length cv) := (m_cells hk).1 0
    have o1 : wr.cell? ⟨B, 1, none⟩ = some (.int .i64 next) := (m_cells hk).1 1
    have f0 : wr.frozen? ⟨B, 0, none⟩ = false := (m_cells hk).2 0
    have hk2 := (hb.block (w.heap.size + 1) (by omega)).trans HK2.out
    have r0 : wr.cell? ⟨w.heap.size + 1, 0, none⟩ = some (.slice none 0 0) := (m_cells hk2).1 0
    have r1 : wr.cell? ⟨w.heap.size + 1, 1, none⟩ = some (.int .i64 0) := (m_cells hk2).1 1
    have r2 : wr.frozen? ⟨w.heap.size + 1, 0, none⟩ = false := (m_cells hk2).2 0
    have r3 : wr.frozen? ⟨w.heap.size + 1, 1, none⟩ = false := (m_cells hk2).2 1
    have HRK := Lib.hid hk2
    clear hk2
    have HK := Lib.hid hk
    have HR := Lib.hid hr
    have HB := Lib.hid hb
    have hbs := hb.size
    have HBX := Lib.hid (show Below w.heap.size w wr from HBW.out.trans (hb.mono (by omega)))
    have hel : (dropT (L.take i) d name).length ≤ 1000 := Nat.le_trans (List.length_filter_le _ _) (by rw [List.length_take]; omega)
    clear hk hr hb
    by_cases hlt : i < L.length
    · have i1 : (i : Int) < L.length := by omega
      obtain ⟨x, hx⟩ : ∃ x, L[i]? = some x := ⟨_, List.getElem?_eq_getElem hlt⟩
      obtain ⟨g, off, rfl, -, c0, c1, c2, c3, c4, c5⟩ := itm_cells H0.out i x hx
      have c0 := cell_later HBX.out c0
      have c1 := cell_later HBX.out c1
      have c2 := cell_later HBX.out c2
      have c3 := cell_later HBX.out c3
      have c4 := cell_later HBX.out c4
      have c5 := cell_later HBX.out c5
      have HT := Lib.hid (dropT_take L d name i x hx)
      clear hx
      obtain ⟨A, hA⟩ : ∃ A, dropT (L.take i) d name = A := ⟨_, rfl⟩
      rw [hA] at HR hel HT o0 HK
      clear hA
      have go : isAt d name x = false → (x.d != d || !(x.e.name.toList == name.toList)) = true → True := fun _ _ => trivial
      cases hat : isAt d name x
      · have HT2 := Lib.hid (show dropT (L.take (i + 1)) d name = A ++ [x] from by rw [HT.out, hat]; rfl)
        by_cases hd : x.d = d
        · have hn : ¬ x.e.name = name := fun q => by unfold isAt at hat; simp [hd, q] at hat
          have n1 : (x.e.name.toList == name.toList) = false := by rw [Bool.eq_false_iff, ne_eq, bstr_eq_iff]; exact hn
          have d1 : (x.d == d) = true := by simpa using hd
          have d2 : (x.d != d) = false := by simpa using hd
          clear hd hn hat go HT
          go_wp2_with fail
          have o0d := cell_drew o0
          have o0f := cell_allocd o0
          have o0g := cell_alloc1 o0
          have c0d := cell_drew c0
          have c1d := cell_drew c1
          have c2d := cell_drew c2
          have c3d := cell_drew c3
          have c4d := cell_drew c4
          have c5d := cell_drew c5
          go_region_law (first
            | (refine step_on (B := W.heap.size) (w0 := wr) EItm.laid rfl _ _ 27 27 Tryz.underlying27 Tryz.underlying27 rfl _ A rfl (HR.out.alloc _) ((show Below wr.heap.size wr _ from (by repeat (first | exact Below.refl _ _ | assumption | (refine Below.drew ?_) | (refine below_drewN ?_ _) | (refine Below.alloc ?_ (by simp; done) _) | (refine Below.alloc ?_ (by simp; omega) _)))).mono hbs) hbs _ [x] rfl ?e1 ?e2 ?e3 ?_
               case e1 => exact Arg.blk (m_alloc _ _ _ rfl) [x] rfl 1
               case e2 => (show (A.length + 1) * 56 ≤ _; omega)
               case e3 => (show A.length + 1 ≤ maxLen; unfold maxLen; omega)
               intro v6 w6 hr6 hb6 kk6
               have HR6 := Lib.hid hr6
               have HB6 := Lib.hid hb6
               have hk6 := (hb6.block B (by omega)).trans HK.out
               have o6 : w6.cell? ⟨B, 0, none⟩ = some (.slice av A.length cv) := (m_cells hk6).1 0
               have f6 : w6.frozen? ⟨B, 0, none⟩ = false := (m_cells hk6).2 0
               obtain ⟨a6, c6', rfl⟩ := hr6.shape
               clear hr6 hb6 kk6))
          all_goals
            go_wp2_with fail
            refine ⟨⟨i + 1, _, by go_num, hlt, m_set hk6 0 _, ?_, ?_⟩, by simp [intOf]; omega⟩
            · have z := HR6.out
              rw [HT2.out]
              rw [List.length_append] at z
              exact z.kept (fun k q => Below.heap_setCell _ _ _ _ (by have := z.ge q; show k ≠ B; omega))
            · exact (HB.out.trans (HB6.out.mono (by omega))).setCell (Nat.le_refl _) _
        · have d1 : (x.d == d) = false := by simpa using hd
          have d2 : (x.d != d) = true := by simpa using hd
          clear hd hat go HT
          go_wp2_with fail
          have o0d := cell_drew o0
          have o0f := cell_allocd o0
          have o0g := cell_alloc1 o0
          have c0d := cell_drew c0
          have c1d := cell_drew c1
          have c2d := cell_drew c2
          have c3d := cell_drew c3
          have c4d := cell_drew c4
          have c5d := cell_drew c5
          go_region_law (first
            | (refine step_on (B := W.heap.size) (w0 := wr) EItm.laid rfl _ _ 27 27 Tryz.underlying27 Tryz.underlying27 rfl _ A rfl (HR.out.alloc _) ((show Below wr.heap.size wr _ from (by repeat (first | exact Below.refl _ _ | assumption | (refine Below.drew ?_) | (refine below_drewN ?_ _) | (refine Below.alloc ?_ (by simp; done) _) | (refine Below.alloc ?_ (by simp; omega) _)))).mono hbs) hbs _ [x] rfl ?e1 ?e2 ?e3 ?_
               case e1 => exact Arg.blk (m_alloc _ _ _ rfl) [x] rfl 1
               case e2 => (show (A.length + 1) * 56 ≤ _; omega)
               case e3 => (show A.length + 1 ≤ maxLen; unfold maxLen; omega)
               intro v6 w6 hr6 hb6 kk6
               have HR6 := Lib.hid hr6
               have HB6 := Lib.hid hb6
               have hk6 := (hb6.block B (by omega)).trans HK.out
               have o6 : w6.cell? ⟨B, 0, none⟩ = some (.slice av A.length cv) := (m_cells hk6).1 0
               have f6 : w6.frozen? ⟨B, 0, none⟩ = false := (m_cells hk6).2 0
               obtain ⟨a6, c6', rfl⟩ := hr6.shape
               clear hr6 hb6 kk6))
          all_goals
            go_wp2_with fail
            refine ⟨⟨i + 1, _, by go_num, hlt, m_set hk6 0 _, ?_, ?_⟩, by simp [intOf]; omega⟩
            · have z := HR6.out
              rw [HT2.out]
              rw [List.length_append] at z
              exact z.kept (fun k q => Below.heap_setCell _ _ _ _ (by have := z.ge q; show k ≠ B; omega))
            · exact (HB.out.trans (HB6.out.mono (by omega))).setCell (Nat.le_refl _) _
      · have HT2 := Lib.hid (show dropT (L.take (i + 1)) d name = A from by rw [HT.out, hat]; simp)
        obtain ⟨hd, hn⟩ : x.d = d ∧ x.e.name = name := by unfold isAt at hat; simpa using hat
        have n1 : (x.e.name.toList == name.toList) = true := (bstr_eq_iff _ _).2 hn
        have d1 : (x.d == d) = true := by simpa using hd
        have d2 : (x.d != d) = false := by simpa using hd
        clear hd hn hat go HT
        go_wp2_with fail
        refine ⟨⟨i + 1, _, by go_num, hlt, HK.out, by rw [HT2.out]; exact HR.out, HB.out⟩, by simp [intOf]; omega⟩
    · have ei : i = L.length := by omega
      subst ei
      have i2 : ¬ ((L.length : Int) < L.length) := by omega
      rw [List.take_length] at HR HK o0
      go_wp2_with fail
      have hg := m_set (m_set HRK.out 0 (.slice av (dropT L d name).length cv)) 1 (.int .i64 next)
      refine bodyPost_ret (v := .agg #[.slice av (dropT L d name).length cv, .int .i64 next]) (results_cell_row (p := 6) (ty := 29) rfl _ _ (w.heap.size + 1) 29 _ (0, 0) _ rfl hg Tryz.underlying29 rfl (by kernel_rfl)) rfl ⟨_, rfl, ?_, ?_⟩
      · exact ((HR.out.kept (fun k q => by rw [Below.heap_setCell _ _ _ _ (by have := HR.out.ge q; show k ≠ w.heap.size + 1; omega), Below.heap_setCell _ _ _ _ (by have := HR.out.ge q; show k ≠ w.heap.size + 1; omega)])).mono HBW.out.size)
      · exact ((HBX.out).setCell (by show w.heap.size ≤ w.heap.size + 1; omega) _).setCell (by show w.heap.size ≤ w.heap.size + 1; omega) _
end Go.Proofs.YtolilbcpfdnkjaaGreat

/- the reference's Good, bad. -/
namespace Go.Proofs.YtolilbcpfdnkjaaGreat
open Go.RowKit
set_option linter.unusedSimpArgs false
set_option linter.unusedVariables false
theorem bytes_nil_iff (x : ByteArray) : (x.toList == []) = decide (x.size = 0) := by
  rw [Bool.eq_iff_iff, beq_iff_eq, ByteArray.toList_eq, decide_eq_true_iff]
  have : x.size = x.data.toList.length := by simp
  constructor
  · intro h; rw [this, h]; rfl
  · intro h; exact List.eq_nil_of_length_eq_zero (by omega)
set_option maxRecDepth 100000 in
set_option maxHeartbeats 2000000 in
theorem rgood_any (s : ByteArray) (w : World) (hs : s.size ≤ maxLen) :
    Calls Tryz.prog 102 #[.string s] w fun e w' => e = .returned (.bool (goodB s)) ∧ w' = w := by
  unfold maxLen at hs
  go_enter Tryz.func102, Tryz.ntmps102
  go_wp2_with fail
  go_loopw [3] (fun iv wr => ∃ i : Nat, iv = .int .i64 i ∧ i ≤ s.size ∧ noneBad s i ∧ wr = w) (fun iv _ => s.size - (intOf iv).toNat)
  case atStart => exact ⟨0, rfl, Nat.zero_le _, fun j c hj => absurd hj (Nat.not_lt_zero _), rfl⟩
  case round =>
    obtain ⟨i, rfl, hi, hall, rfl⟩ := hrel
    have HALL := Lib.hid hall
    clear hall
    by_cases hlt : i < s.size
    · have i1 : (i : Int) < s.size := by omega
      have HC := Lib.hid (show s.data[i]? = some s[i] from Array.getElem?_eq_getElem hlt)
      by_cases h0 : s[i].toNat = 0
      · have e0 : ((s[i].toNat : Int) == 0) = true := by rw [beq_iff_eq]; omega
        have HG := Lib.hid (show goodB s = false from by unfold goodB; rw [hasBad_some HC.out (by unfold badc; simp [h0])]; simp)
        clear h0
        go_wp2_with fail
        go_ret
        exact ⟨ret_bool HG.out.symm, rfl⟩
      · have e0 : ((s[i].toNat : Int) == 0) = false := by rw [beq_eq_false_iff_ne]; omega
        by_cases h47 : s[i].toNat = 47
        · have e4 : ((s[i].toNat : Int) == 47) = true := by rw [beq_iff_eq]; omega
          have HG := Lib.hid (show goodB s = false from by unfold goodB; rw [hasBad_some HC.out (by unfold badc; simp [h47])]; simp)
          clear h0 h47
          go_wp2_with fail
          go_ret
          exact ⟨ret_bool HG.out.symm, rfl⟩
        · have e4 : ((s[i].toNat : Int) == 47) = false := by rw [beq_eq_false_iff_ne]; omega
          have HB := Lib.hid (show badc s[i] = false from by unfold badc; simp [h0, h47])
          clear h0 h47
          go_wp2_with fail
          exact ⟨⟨i + 1, by go_num, hlt, noneBad_succ HALL.out HC.out HB.out, trivial⟩, by simp [intOf]; omega⟩
    · have ei : i = s.size := by omega
      subst ei
      have i2 : ¬ ((s.size : Int) < s.size) := by omega
      have HNB := Lib.hid (hasBad_none HALL.out)
      have n1 := bytes_nil_iff s
      have e1 : decide (s ≠ dot1) = !(s.toList == [46]) := dot_ne s dot1 [46] (by decide +kernel)
      have e2 : decide (s ≠ dot2) = !(s.toList == [46, 46]) := dot_ne s dot2 [46, 46] (by decide +kernel)
      obtain ⟨b1, hb1⟩ : ∃ b, (s.toList == [46]) = b := ⟨_, rfl⟩
      obtain ⟨b2, hb2⟩ : ∃ b, (s.toList == [46, 46]) = b := ⟨_, rfl⟩
      rw [hb1] at e1
      rw [hb2] at e2
      by_cases h1 : s.size = 0
      · rw [decide_eq_true h1] at n1
        have HG := Lib.hid (show goodB s = false from by unfold goodB; rw [decide_eq_false (show ¬ 1 ≤ s.size by omega)]; rfl)
        clear e1 e2 hb1 hb2
        go_wp2_with fail
        go_ret
        exact ⟨ret_bool HG.out.symm, rfl⟩
      · rw [decide_eq_false h1] at n1
        by_cases h2 : s.size ≤ 255
        · have d2 : decide ((s.size : Int) ≤ 255) = true := decide_eq_true (by omega)
          have HG := Lib.hid (show goodB s = (!b1 && !b2) by unfold goodB; rw [decide_eq_true (show 1 ≤ s.size by omega), decide_eq_true h2, HNB.out, e1, e2]; rfl)
          clear e1 e2 h1 h2
          cases b1 <;> cases b2
          all_goals
            go_wp2_with fail
            go_ret
            exact ⟨ret_bool HG.out.symm, rfl⟩
        · have d2 : decide ((s.size : Int) ≤ 255) = false := decide_eq_false (by omega)
          have HG := Lib.hid (show goodB s = false from by unfold goodB; rw [decide_eq_false h2]; simp)
          clear e1 e2 hb1 hb2
          go_wp2_with fail
          go_ret
          exact ⟨ret_bool HG.out.symm, rfl⟩
set_option maxRecDepth 100000 in
set_option maxHeartbeats 1000000 in
theorem rbad_any (name : ByteArray) (short : Int) (w : World) (hs : name.size ≤ maxLen) :
    Calls Tryz.prog 74 #[.string name, .int .i64 short] w fun e w' => e = .returned (.int .i64 (mayErr name short)) ∧ w' = w := by
  have hg := fun w => rgood_any name w hs
  obtain ⟨b, hb⟩ : ∃ b, goodB name = b := ⟨_, rfl⟩
  rw [hb] at hg
  have HG := Lib.hid hg
  have HM := Lib.hid (show mayErr name short = if b = false then 3 else if short < 0 ∨ 1000000 < short then 1 else 0 by unfold mayErr; rw [hb])
  clear hg hb
  go_enter Tryz.func74, Tryz.ntmps74
  go_wp2_with fail
  refine (HG.out _).mono ?_
  rintro e w1 ⟨rfl, rfl⟩
  cases b
  · go_wp2_with fail
    go_ret
    exact ⟨ret_int HM.out.symm, rfl⟩
  · by_cases h1 : short < 0
    · have d1 : decide (short < 0) = true := decide_eq_true h1
      go_wp2_with fail
      go_ret
      exact ⟨ret_int (by rw [HM.out, if_neg (by decide), if_pos (Or.inl h1)]), rfl⟩
    · have d1 : decide (short < 0) = false := decide_eq_false h1
      by_cases h2 : 1000000 < short
      · have d2 : decide (1000000 < short) = true := decide_eq_true h2
        go_wp2_with fail
        go_ret
        exact ⟨ret_int (by rw [HM.out, if_neg (by decide), if_pos (Or.inr h2)]), rfl⟩
      · have d2 : decide (1000000 < short) = false := decide_eq_false h2
        go_wp2_with fail
        go_ret
        exact ⟨ret_int (by rw [HM.out, if_neg (by decide), if_neg (by omega)]), rfl⟩
end Go.Proofs.YtolilbcpfdnkjaaGreat
