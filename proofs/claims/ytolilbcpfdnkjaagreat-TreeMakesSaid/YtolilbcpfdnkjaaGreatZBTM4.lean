/- TreeMakes: the reference's formed. -/
import Derived.Test.YtolilbcpfdnkjaaGreatZBTM1
import Derived.Test.YtolilbcpfdnkjaaGreatZBY7
import Derived.Deep.RegionHeld3
namespace Go.Proofs.YtolilbcpfdnkjaaGreat
open Go.RowKit
set_option linter.unusedSimpArgs false
set_option linter.unusedVariables false
def FormedPost (w : World) (cookie : Int) (D : List (Int × DE)) (K : List Int) (e : Ending) (w' : World) : Prop :=
  ∃ b, e = .returned (.bool b) ∧ (b = true ↔ Asked cookie D K ∧ ∃ M, Bfs (itemsOf D K) M ∧ (∀ d ∈ M, ∀ x ∈ itemsOf D K, x.d = d → x.e.dir = true → x.e.node ∈ M) ∧ ∀ n ∈ K, n ∈ mkeys D → n ∈ M) ∧ Below w.heap.size w w'
def keysK (ds : List Int) (other : Int) : List Int := if other ∈ ds then ds else ds ++ [other]
/-- The three lists of formed, each in a block of its own. -/
structure FK (w wr : World) (kv : Value) (ks : List Int) (av : Value) (all : List Itm) (tv : Value) (there : List Int) : Prop where
  k : Row EInt wr w.heap.size kv ks
  a : Row EItm wr w.heap.size av all
  t : Row EInt wr w.heap.size tv there
  d1 : ∀ i, av.ownBlock = some i → kv.ownBlock ≠ some i ∧ tv.ownBlock ≠ some i
  d2 : ∀ i, tv.ownBlock = some i → kv.ownBlock ≠ some i
  b : Below w.heap.size w wr
section
variable {w wr wr' : World} {kv av tv av' tv' : Value} {ks there T' : List Int} {all A' : List Itm}
theorem FK.start (hk : Row EInt wr w.heap.size kv ks) (hb : Below w.heap.size w wr) : FK w wr kv ks (.slice none 0 0) [] (.slice none 0 0) [] :=
  ⟨hk, Row.nil _ _ _, Row.nil _ _ _, fun i q => (by cases q), fun i q => (by cases q), hb⟩
theorem FK.below (h : FK w wr kv ks av all tv there) (hb : Below wr.heap.size wr wr') : FK w wr' kv ks av all tv there :=
  ⟨h.k.below hb, h.a.below hb, h.t.below hb, h.d1, h.d2, h.b.trans (hb.mono h.b.size)⟩
theorem FK.appA (h : FK w wr kv ks av all tv there) (hr : Row EItm wr' w.heap.size av' A') (hv : ∀ k, av'.ownBlock = some k → av.ownBlock = some k ∨ wr.heap.size ≤ k) (hk : Keep (fun k => some k = av.ownBlock) wr wr') : FK w wr' kv ks av' A' tv there := by
  refine ⟨h.k.keep hk (fun i q z => (h.d1 i z.symm).1 q), hr, h.t.keep hk (fun i q z => (h.d1 i z.symm).2 q), fun i q => ?_, h.d2, h.b.trans (h.a.keepBelow hk h.b.size)⟩
  rcases hv i q with z | z
  · exact h.d1 i z
  · exact ⟨fun y => by have := h.k.lt y; omega, fun y => by have := h.t.lt y; omega⟩
theorem FK.appT (h : FK w wr kv ks av all tv there) (hr : Row EInt wr' w.heap.size tv' T') (hv : ∀ k, tv'.ownBlock = some k → tv.ownBlock = some k ∨ wr.heap.size ≤ k) (hk : Keep (fun k => some k = tv.ownBlock) wr wr') : FK w wr' kv ks av all tv' T' := by
  refine ⟨h.k.keep hk (fun i q z => (h.d2 i z.symm) q), h.a.keep hk (fun i q z => (h.d1 i q).2 z.symm), hr, fun i q => ⟨(h.d1 i q).1, fun z => ?_⟩, fun i q => ?_, h.b.trans (h.t.keepBelow hk h.b.size)⟩
  · rcases hv i z with y | y
    · exact (h.d1 i q).2 y
    · have := h.a.lt q; omega
  · rcases hv i q with z | z
    · exact h.d2 i z
    · exact fun y => by have := h.k.lt y; omega
end
theorem items_len (D : List (Int × DE)) (hl : ∀ n, (dget D n).length ≤ 200) : ∀ K : List Int, (itemsOf D K).length ≤ K.length * 200 := by
  intro K
  induction K with
  | nil => simp [itemsOf]
  | cons d K ih =>
    have := hl d
    have e : itemsOf D (d :: K) = (dget D d).map (fun e => (⟨d, e⟩ : Itm)) ++ itemsOf D K := by unfold itemsOf; rw [List.flatMap_cons]
    rw [e, List.length_append, List.length_map, List.length_cons]; omega
theorem items_snoc (D : List (Int × DE)) (K : List Int) (d : Int) : itemsOf D (K ++ [d]) = itemsOf D K ++ (dget D d).map (fun e => (⟨d, e⟩ : Itm)) := by
  unfold itemsOf; rw [List.flatMap_append]; simp
theorem rising_snoc {l : List Ent} {x : Ent} (h : Rising l) (hx : ∀ y, l[l.length - 1]? = some y → l ≠ [] → y.cookie < x.cookie) : Rising (l ++ [x]) := by
  intro i a b ha hb
  by_cases e : i + 1 < l.length
  · rw [List.getElem?_append_left (by omega)] at ha
    rw [List.getElem?_append_left e] at hb
    exact h i a b ha hb
  · have hl := (List.getElem?_eq_some_iff.1 hb).1
    rw [List.length_append, List.length_singleton] at hl
    have e1 : i + 1 = l.length := by omega
    rw [List.getElem?_append_left (by omega)] at ha
    rw [List.getElem?_append_right (by omega), e1] at hb
    simp at hb; subst hb
    exact hx a (by rw [← ha]; congr 1; omega) (fun q => by rw [q] at e1; simp at e1)
theorem dlook2 {w0 : World} {bd : Nat} {D : List (Int × DE)} (hD : IMap encDE w0 bd D) (hr : ∀ x ∈ D, Arg EEnt w0 x.2.1 x.2.2) (n : Int) :
    ∃ v, Arg EEnt w0 v (dget D n) ∧ ∀ W, Below w0.heap.size w0 W → (Instr.lookup 53 (.map (some bd)) (.int .i64 n) true).run Tryz.prog W = .ok (.tuple #[v, .bool (decide (n ∈ mkeys D))]) W := by
  have key : ∀ W, Below w0.heap.size w0 W → _ := fun W hb => (hD.keep (Keep.below hb) (fun q => by have := hD.lt; omega)).lookup (P := Tryz.prog) Tryz.underlying53 Tryz.underlying3 zero_ents n true
  cases hm : mget D n with
  | none =>
    refine ⟨.slice none 0 0, ?_, fun W hb => ?_⟩
    · unfold dget; rw [hm]; exact Arg.nil _ _
    · have := key W hb
      rw [hm] at this
      rw [decide_eq_false (fun q => (mget_none_iff D n).1 hm q)]
      exact this
  | some x =>
    refine ⟨x.1, ?_, fun W hb => ?_⟩
    · unfold dget; rw [hm]; exact hr _ (mget_mem hm)
    · have := key W hb
      rw [hm] at this
      rw [decide_eq_true (show n ∈ mkeys D from Classical.byContradiction fun q => by rw [(mget_none_iff D n).2 q] at hm; cases hm)]
      exact this
theorem link_new (name : ByteArray) (short : Int) : linkT [] 1 0 name false short = if mayErr name short = 0 then ⟨[⟨0, ⟨name, 1, false, 1, short⟩⟩], 2, 1, 0⟩ else ⟨[], 1, 0, mayErr name short⟩ := by
  have h0 : listErr [] 0 = 0 := by unfold listErr isDirB; simp
  have h1 : linkErr [] 0 name short = mayErr name short := by
    unfold linkErr
    rw [if_neg (by rw [h0]; decide)]
    have : findE [] 0 name = none := by unfold findE entries; simp
    rw [this]
    by_cases e : mayErr name short = 0
    · rw [if_neg (by rw [e]; decide), if_neg (by simp), e]
    · rw [if_pos e]
  have h2 : freeN (nodes []) = 1 := freeN_eq ⟨Nat.le_refl _, by simp [nodes], fun m h1 h2 => by omega⟩
  unfold linkT
  rw [h1, h2]
  by_cases e : mayErr name short = 0
  · rw [if_neg (by rw [e]; decide), if_pos (by decide), if_pos e]; rfl
  · rw [if_pos e, if_neg e]
/-- Behind a Link on a new tree, its answers named. -/
def MidNL (W : World) (R : LR) (s20 s21 s22 : Value) (wz : World) : Prop :=
  ∃ (X : Nat) (a : Option Addr) (c : Nat), s20 = .pointer (some ⟨X, 0, none⟩) ∧ s21 = .int .i64 R.node ∧ s22 = .int .i64 R.err ∧ wz.heap[X]? = some (.cells #[.slice a R.L.length c, .int .i64 R.next] 29 (0, 0)) ∧ Below W.heap.size W wz
theorem midnl1 {W w7 : World} {R : LR} {a : Option Addr} {c : Nat} (hb : Below W.heap.size W w7) : MidNL W R (.pointer (some ⟨w7.heap.size, 0, none⟩)) (.int .i64 R.node) (.int .i64 R.err) (w7.alloc (.cells #[.slice a R.L.length c, .int .i64 R.next] 29)) :=
  ⟨_, a, c, rfl, rfl, rfl, m_alloc _ _ _ rfl, hb.alloc hb.size _⟩
theorem midnl2 {W w7 : World} {R : LR} {a : Option Addr} {c B : Nat} (hb : Below W.heap.size W w7) (hB : W.heap.size ≤ B) (hx : w7.heap[B]? = some (.cells #[.slice none 0 0, .int .i64 0] 29 (0, 0))) :
    MidNL W R (.pointer (some ⟨B, 0, none⟩)) (.int .i64 R.node) (.int .i64 R.err) ((w7.setCell ⟨B, 0, none⟩ (.slice a R.L.length c)).setCell ⟨B, 1, none⟩ (.int .i64 R.next)) :=
  ⟨_, a, c, rfl, rfl, rfl, m_set (m_set hx 0 _) 1 _, (hb.setCell hB _).setCell hB _⟩
theorem bfs_sub {all : List Itm} {M M0 : List Int} (h : Bfs all M) (h0 : 0 ∈ M0) (hc : ∀ d ∈ M0, ∀ x ∈ all, x.d = d → x.e.dir = true → x.e.node ∈ M0) : ∀ d ∈ M, d ∈ M0 := by
  have key : ∀ n, ∀ P Q, P.length = n → M = P ++ Q → ∀ d ∈ P, d ∈ M0 := by
    intro n
    induction n with
    | zero => intro P Q hP _ d hd; rw [List.length_eq_zero_iff.1 hP] at hd; cases hd
    | succ n ih =>
      intro P Q hP hM d hd
      rcases List.eq_nil_or_concat P with q | ⟨P', x, q⟩
      · rw [q] at hd; cases hd
      · rw [List.concat_eq_append] at q
        subst q
        rw [List.length_append, List.length_singleton] at hP
        have hM' : M = P' ++ x :: Q := by rw [hM, List.append_assoc]; rfl
        have h1 := ih P' (x :: Q) (by omega) hM'
        rcases List.mem_append.1 hd with z | z
        · exact h1 d z
        · rw [List.mem_singleton.1 z]
          rcases h.ch P' x Q hM' with e | ⟨y, hy, h2, h3, h4⟩
          · rw [e]; exact h0
          · rw [← h4]; exact hc _ (h1 _ h2) y hy rfl h3
  exact key _ M [] rfl (by simp)
theorem tinv_nil : TInv [] 1 := ⟨by simp [nodes], fun i h => (by cases h), fun i h => (by cases h), fun d => by simp [entries], by simp, fun i h => (by cases h), by omega, ⟨fun _ => 0, rfl, fun i h => (by cases h)⟩, fun i h => (by cases h)⟩
def ChkT (w wr : World) (cookie : Int) (M : List Int) (all : List Itm) (iv : Value) (wx : World) : Prop :=
  ∃ i : Nat, iv = .int .i64 i ∧ i ≤ all.length ∧ (∀ x ∈ all.take i, ItmOk cookie M x) ∧ (all.take i).Pairwise Apart ∧ Below wr.heap.size wr wx
def KeysT (w : World) (cookie : Int) (D : List (Int × DE)) (kv : Value) (ks : List Int) (av tv iv : Value) (wr : World) : Prop :=
  ∃ i : Nat, iv = .int .i64 i ∧ i ≤ ks.length ∧ FK w wr kv ks av (itemsOf D (ks.take i)) tv ((ks.take i).filter (fun n => decide (n ∈ mkeys D))) ∧ ∀ n ∈ ks.take i, Rising (dget D n)
def KeyI (w : World) (D : List (Int × DE)) (kv : Value) (ks : List Int) (A : List Itm) (tv : Value) (T : List Int) (n : Int) (l : List Ent) (av iv : Value) (wr : World) : Prop :=
  ∃ k : Nat, iv = .int .i64 k ∧ k ≤ l.length ∧ FK w wr kv ks av (A ++ (l.take k).map (fun e => (⟨n, e⟩ : Itm))) tv T ∧ Rising (l.take k)
set_option maxRecDepth 100000 in
set_option maxHeartbeats 40000000 in
theorem formed_walk {w : World} {bd : Nat} {cookie other : Int} {vd : Value} {ds : List Int} {D : List (Int × DE)} (hD : IMap encDE w bd D) (hr : ∀ x ∈ D, Arg EEnt w x.2.1 x.2.2) (hl : ∀ x ∈ D, x.2.2.length ≤ 200 ∧ ∀ e ∈ x.2.2, e.name.size ≤ maxLen) (hd : Arg EInt w vd ds) (hdl : ds.length ≤ 300) (hK : ∀ n ∈ mkeys D, n ∈ keysK ds other) :
    Calls Tryz.prog 28 #[.int .i64 cookie, .map (some bd), vd, .int .i64 other] w (FormedPost w cookie D (keysK ds other)) := by
  obtain ⟨va, vc, rfl⟩ := hd.shape
  have HD := Lib.hid hd
  have hb1 : Below w.heap.size w (w.alloc (.cells #[] 3)) := (Below.refl _ w).alloc (Nat.le_refl _) _
  have hnil : Row EInt (w.alloc (.cells #[] 3)) w.heap.size (.slice (some ⟨w.heap.size, 0, none⟩) 0 0) [] := Row.new (E := EInt) w w.heap.size #[] [] (Nat.le_refl _) rfl (by decide)
  have HB1 := Lib.hid hb1
  have HNIL := Lib.hid hnil
  have HD1 := Lib.hid (hd.below hb1)
  clear hd hb1 hnil
  have hkl : (keysK ds other).length ≤ 301 := by unfold keysK; split <;> (try simp) <;> omega
  obtain ⟨ks, hks⟩ : ∃ ks, keysK ds other = ks := ⟨_, rfl⟩
  rw [hks] at hK hkl ⊢
  have HKS := Lib.hid hks
  clear hks
  go_enter Tryz.func28, Tryz.ntmps28
  go_wp2_with (first
    | (refine app_on EInt.laid rfl _ _ 54 54 Tryz.underlying54 Tryz.underlying54 rfl _ [] rfl HNIL.out HB1.out (Nat.le_refl _) _ ds rfl HD1.out ?e2 ?e3 ?_
       case e2 => (show (0 + ds.length) * 8 ≤ _; omega)
       case e3 => (show 0 + ds.length ≤ maxLen; unfold maxLen; omega)
       intro v2 w2 hr2 hb2
       have HR2 := Lib.hid (show Row EInt w2 w.heap.size v2 ds from by simpa using hr2)
       have HB2 := Lib.hid hb2
       obtain ⟨ka, kc, rfl⟩ := HR2.out.shape
       clear hr2 hb2))
  clear HNIL HB1 HD1
  go_loopw [10, 11] (fun kv iv wr => ∃ i : Nat, iv = .int .i64 i ∧ kv = .bool (decide (other ∈ ds.take i)) ∧ i ≤ ds.length ∧ wr = w2) (fun _ iv _ => ds.length - (intOf iv).toNat)
  case atStart => exact ⟨0, rfl, by simp, Nat.zero_le _, rfl⟩
  case round =>
    obtain ⟨i, rfl, rfl, hi, rfl⟩ := hrel
    by_cases hlt : i < ds.length
    · have i1 : (i : Int) < ds.length := by omega
      obtain ⟨y, hy⟩ : ∃ y, ds[i]? = some y := ⟨_, List.getElem?_eq_getElem hlt⟩
      obtain ⟨g1, o1, rfl, c0⟩ := int_cell (HD.out.below HB2.out) i y hy
      have HX := Lib.hid (show ds.take (i + 1) = ds.take i ++ [y] from by rw [List.take_add_one, hy]; rfl)
      clear hy
      by_cases hk : other ∈ ds.take i
      · have dk : decide (other ∈ ds.take i) = true := decide_eq_true hk
        have DK := Lib.hid hk
        rw [dk]
        clear hk dk
        go_wp2_with fail
        exact ⟨⟨i + 1, by go_num, by rw [HX.out, decide_eq_true (List.mem_append_left _ DK.out)], hlt, trivial⟩, by simp [intOf]; omega⟩
      · have dk : decide (other ∈ ds.take i) = false := decide_eq_false hk
        have DK := Lib.hid hk
        rw [dk]
        clear hk dk
        by_cases e : y = other
        · have e1 : (y == other) = true := by simpa using e
          have HE := Lib.hid e
          clear e
          go_wp2_with fail
          exact ⟨⟨i + 1, by go_num, by rw [HX.out, HE.out]; simp, hlt, trivial⟩, by simp [intOf]; omega⟩
        · have e1 : (y == other) = false := by simpa using e
          have HE := Lib.hid e
          clear e
          go_wp2_with fail
          exact ⟨⟨i + 1, by go_num, by rw [HX.out, decide_eq_false (fun q => (List.mem_append.1 q).elim DK.out (fun z => HE.out (List.mem_singleton.1 z).symm))], hlt, trivial⟩, by simp [intOf]; omega⟩
    · have ei : i = ds.length := by omega
      subst ei
      have i2 : ¬ ((ds.length : Int) < ds.length) := by omega
      rw [List.take_length]
      obtain ⟨kb, hkb⟩ : ∃ kb, decide (other ∈ ds) = kb := ⟨_, rfl⟩
      rw [hkb]
      (iterate 26 (first | go_values | go_skip | go_guarded | go_step | go_upon | go_back | go_simp))
      go_cut [9] from 1000 (fun s9 wx => Row EInt wx w.heap.size s9 ks ∧ Below w.heap.size w wx)
      case first =>
        cases kb
        · have HE := Lib.hid (show ks = ds ++ [other] from by rw [← HKS.out]; unfold keysK; rw [if_neg (of_decide_eq_false hkb)])
          clear hkb
          go_wp2_with (first
            | (refine app_on EInt.laid rfl _ _ 54 54 Tryz.underlying54 Tryz.underlying54 rfl _ ds rfl ((HR2.out).alloc _) ((HB2.out).alloc (HB2.out).size _) (Nat.le_refl _) _ [other] rfl ?e1 ?e2 ?e3 ?_
               case e1 => exact Arg.blk (m_alloc _ _ _ rfl) [other] rfl 1
               case e2 => (show (ds.length + 1) * 8 ≤ _; omega)
               case e3 => (show ds.length + 1 ≤ maxLen; unfold maxLen; omega)
               intro v6 w6 hr6 hb6
               have HR6 := Lib.hid hr6
               have HB6 := Lib.hid hb6
               obtain ⟨a6, c6', rfl⟩ := hr6.shape
               clear hr6 hb6))
          go_meet
          case rel => exact ⟨by have z := HR6.out; rw [List.length_append] at z; rw [HE.out]; exact z, HB6.out⟩
        · have HE := Lib.hid (show ks = ds from by rw [← HKS.out]; unfold keysK; rw [if_pos (of_decide_eq_true hkb)])
          clear hkb
          go_wp2_with fail
          go_meet
          case rel => exact ⟨by rw [HE.out]; exact HR2.out, HB2.out⟩
      case rest =>
        rename World => W1
        obtain ⟨hk1, hb1⟩ := hcut
        clear hkb HR2 HB2 hlt i2
        obtain ⟨k1a, k1c, rfl⟩ := hk1.shape
        have HDG := Lib.hid (show ∀ n, (dget D n).length ≤ 200 ∧ ∀ e ∈ dget D n, e.name.size ≤ maxLen from fun n => by
          unfold dget
          cases hm : mget D n with
          | none => exact ⟨Nat.zero_le _, fun e he => by cases he⟩
          | some x => exact hl _ (mget_mem hm))
        have HLK := Lib.hid (fun n => dlook2 hD hr n)
        have HKK := Lib.hid hK
        have HFK := Lib.hid (FK.start hk1 hb1)
        clear hk1 hb1 hl hr hK
        go_wp2_with fail
        go_loopw [12, 13, 14] (fun av tv iv wr => KeysT w cookie D (.slice k1a ks.length k1c) ks av tv iv wr) (fun _ _ iv _ => ks.length - (intOf iv).toNat)
        case atStart => exact ⟨0, rfl, Nat.zero_le _, HFK.out, fun n hn => by simp at hn⟩
        case round =>
          clear HFK
          obtain ⟨i, rfl, hi, hf, hri⟩ := hrel
          have HF := Lib.hid hf
          have HRI := Lib.hid hri
          obtain ⟨avA, avC, rfl⟩ := hf.a.shape
          obtain ⟨tvA, tvC, rfl⟩ := hf.t.shape
          clear hf hri
          by_cases hlt : i < ks.length
          · have i1 : (i : Int) < ks.length := by omega
            obtain ⟨n, hn⟩ : ∃ n, ks[i]? = some n := ⟨_, List.getElem?_eq_getElem hlt⟩
            obtain ⟨g1, o1, rfl, c0⟩ := int_cell HF.out.k.arg i n hn
            have HTK := Lib.hid (show ks.take (i + 1) = ks.take i ++ [n] from by rw [List.take_add_one, hn]; rfl)
            obtain ⟨lv, hla, hlk⟩ := HLK.out n
            have hrun := hlk wr HF.out.b
            obtain ⟨la, lc, rfl⟩ := hla.shape
            have HLA := Lib.hid hla
            have hll := HDG.out n
            obtain ⟨l, hdl⟩ : ∃ l, dget D n = l := ⟨_, rfl⟩
            rw [hdl] at hll HLA hrun
            have HDL := Lib.hid hdl
            have HLL := Lib.hid hll
            have hlen := hll.1
            obtain ⟨A, hA⟩ : ∃ A, itemsOf D (ks.take i) = A := ⟨_, rfl⟩
            obtain ⟨T, hT⟩ : ∃ T, (ks.take i).filter (fun n => decide (n ∈ mkeys D)) = T := ⟨_, rfl⟩
            have hAl : A.length ≤ 301 * 200 := by
              have := items_len D (fun n => (HDG.out n).1) (ks.take i)
              rw [hA, List.length_take] at this
              have h1 : min i ks.length * 200 ≤ 301 * 200 := Nat.mul_le_mul_right _ (by omega)
              omega
            have hTl : T.length ≤ 301 := by
              rw [← hT]; exact Nat.le_trans (List.length_filter_le _ _) (by rw [List.length_take]; omega)
            rw [hA, hT] at HF ⊢
            obtain ⟨bk, hbk⟩ : ∃ bk, decide (n ∈ mkeys D) = bk := ⟨_, rfl⟩
            rw [hbk] at hrun
            have HBK := Lib.hid hbk
            have HN := Lib.hid hn
            have HAA := Lib.hid hA
            have HTT := Lib.hid hT
            have HAA := Lib.hid hA
            have HTT := Lib.hid hT
            have HAA := Lib.hid hA
            have HTT := Lib.hid hT
            clear hn hla hlk hll hdl hbk hA hT
            (iterate 64 (first | go_values | go_skip | go_guarded | go_step | go_upon | go_back | go_simp))
            go_cut [13] from 1000 (fun s13 wx => FK w wx (.slice (some ⟨g1, o1, none⟩) ks.length k1c) ks (.slice avA A.length avC) A s13 (T ++ if bk then [n] else []))
            case first =>
              cases bk
              · go_wp2_with fail
                go_meet
                case rel => simpa using HF.out
              · go_wp2_with (first
                  | (refine app_row EInt.laid rfl _ _ 54 54 Tryz.underlying54 Tryz.underlying54 rfl (.slice tvA T.length tvC) T rfl (HF.out.t.alloc _) _ [n] rfl ?e1 ?e2 ?e3 ?e4 ?_
                     case e1 => exact Arg.blk (m_alloc _ _ _ rfl) [n] rfl 1
                     case e2 => (show (T.length + 1) * 8 ≤ _; omega)
                     case e3 => (show T.length + 1 ≤ maxLen; unfold maxLen; omega)
                     case e4 => (show w.heap.size ≤ (wr.alloc _).heap.size; have := HF.out.b.size; simp; omega)
                     intro v6 w6 hr6 hv6 k6
                     obtain ⟨a6, c6', rfl⟩ := hr6.shape
                     have HR6 := Lib.hid hr6
                     have HV6 := Lib.hid hv6
                     have HK6 := Lib.hid k6
                     clear hr6 hv6 k6))
                go_meet
                case rel =>
                  have k' : Keep (fun k => some k = (Value.slice tvA T.length tvC).ownBlock) wr _ := ((Keep.refl _ wr).alloc (.cells #[.int .i64 n] 3)).trans HK6.out
                  have z := HF.out.appT HR6.out (fun k q => (HV6.out k q).imp id (fun e => by simp at e; omega)) k'
                  simpa using z
            case rest =>
              rename World => W2
              obtain ⟨T2, hT2⟩ : ∃ T2, T ++ (if bk then [n] else []) = T2 := ⟨_, rfl⟩
              rw [hT2] at hcut
              obtain ⟨t2a, t2c, rfl⟩ := hcut.t.shape
              have HT2 := Lib.hid hT2
              have HST := Lib.hid (show KeyI w D (.slice (some ⟨g1, o1, none⟩) ks.length k1c) ks A (.slice t2a T2.length t2c) T2 n l (.slice avA A.length avC) (.int .i64 (0 : Nat)) W2 from ⟨0, rfl, Nat.zero_le _, by simpa using hcut, fun i x y hx => by simp at hx⟩)
              clear hT2 HF c0
              go_wp2_with fail
              go_loopw [12, 17] (fun av kv wr => KeyI w D (.slice (some ⟨g1, o1, none⟩) ks.length k1c) ks A (.slice t2a T2.length t2c) T2 n l av kv wr) (fun _ kv _ => l.length - (intOf kv).toNat)
              case atStart => exact HST.out
              case round =>
                rename World => wq
                obtain ⟨k, rfl, hk, hf, hrk⟩ := hrel
                clear HST
                have HFK := Lib.hid hf
                have HRK := Lib.hid hrk
                obtain ⟨aqA, aqC, rfl⟩ := hf.a.shape
                obtain ⟨A2, hA2⟩ : ∃ A2, A ++ (l.take k).map (fun e => (⟨n, e⟩ : Itm)) = A2 := ⟨_, rfl⟩
                rw [hA2] at HFK ⊢
                have hA2l : A2.length ≤ 301 * 200 + 200 := by
                  rw [← hA2, List.length_append, List.length_map, List.length_take]; omega
                have HA2 := Lib.hid hA2
                clear hf hrk hA2
                by_cases hkl2 : k < l.length
                · have k1 : (k : Int) < l.length := by omega
                  obtain ⟨x, hx⟩ : ∃ x, l[k]? = some x := ⟨_, List.getElem?_eq_getElem hkl2⟩
                  obtain ⟨g2, o2, rfl, -, d0, d1, d2, d3, d4⟩ := ent_cells HLA.out k x hx
                  have HX := Lib.hid hx
                  have HS := Lib.hid (show ∀ w', Keep (fun k => some k = (Value.slice aqA A2.length aqC).ownBlock) wq w' → (w'.cell? ⟨g1, o1 + i, none⟩ = some (.int .i64 n) ∧ w'.cell? ⟨g2, o2 + k * 5, none⟩ = some (.string x.name) ∧ w'.cell? ⟨g2, o2 + k * 5 + 1, none⟩ = some (.int .i64 x.node) ∧ w'.cell? ⟨g2, o2 + k * 5 + 2, none⟩ = some (.bool x.dir) ∧ w'.cell? ⟨g2, o2 + k * 5 + 3, none⟩ = some (.int .i64 x.cookie) ∧ w'.cell? ⟨g2, o2 + k * 5 + 4, none⟩ = some (.int .i64 x.short)) from fun w' kk => by
                    have hb : Below w.heap.size w w' := HFK.out.b.trans (HFK.out.a.keepBelow kk HFK.out.b.size)
                    obtain ⟨_, _, e, c0⟩ := int_cell (HFK.out.k.keep kk (fun i q z => (HFK.out.d1 i z.symm).1 q)).arg i n HN.out
                    cases e
                    exact ⟨c0, cell_later hb d0, cell_later hb d1, cell_later hb d2, cell_later hb d3, cell_later hb d4⟩)
                  have HD3 := Lib.hid d3
                  clear hx d0 d1 d2 d3 d4
                  go_wp2_with fail
                  go_region_held3 (fun w' => w'.cell? ⟨g1, o1 + i, none⟩ = some (.int .i64 n) ∧ w'.cell? ⟨g2, o2 + k * 5, none⟩ = some (.string x.name) ∧ w'.cell? ⟨g2, o2 + k * 5 + 1, none⟩ = some (.int .i64 x.node) ∧ w'.cell? ⟨g2, o2 + k * 5 + 2, none⟩ = some (.bool x.dir) ∧ w'.cell? ⟨g2, o2 + k * 5 + 3, none⟩ = some (.int .i64 x.cookie) ∧ w'.cell? ⟨g2, o2 + k * 5 + 4, none⟩ = some (.int .i64 x.short))
                    (first | exact HS.out _ HK7.out | exact HS.out _ (show Keep (fun k => some k = (Value.slice aqA A2.length aqC).ownBlock) wq _ from (by repeat (first | exact Keep.refl _ _ | assumption | (refine Keep.drew ?_) | (refine Keep.alloc ?_ _)))))
                    (first
                      | (refine step_app EItm.laid rfl _ _ 27 27 Tryz.underlying27 Tryz.underlying27 rfl (.slice aqA A2.length aqC) A2 rfl (HFK.out.a.alloc _) _ [(⟨n, x⟩ : Itm)] rfl ?e1 ?e2 ?e3 ?e4 ?_
                         case e1 => exact Arg.blk (m_alloc _ _ _ rfl) [(⟨n, x⟩ : Itm)] rfl 1
                         case e2 => (show (A2.length + 1) * 56 ≤ _; omega)
                         case e3 => (show A2.length + 1 ≤ maxLen; unfold maxLen; omega)
                         case e4 => (show w.heap.size ≤ (wq.alloc _).heap.size; have := HFK.out.b.size; simp; omega)
                         intro v7 w7 hr7 hv7 k7
                         have k7' : Keep (fun k => some k = (Value.slice aqA A2.length aqC).ownBlock) wq w7 := Keep.trans (show Keep (fun k => some k = (Value.slice aqA A2.length aqC).ownBlock) wq _ from (by repeat (first | exact Keep.refl _ _ | assumption | (refine Keep.drew ?_) | (refine Keep.alloc ?_ _)))) k7
                         obtain ⟨a7, c7, rfl⟩ := hr7.shape
                         have HR7 := Lib.hid hr7
                         have HV7 := Lib.hid (show ∀ k, _ → (Value.slice aqA A2.length aqC).ownBlock = some k ∨ wq.heap.size ≤ k from fun k q => (hv7 k q).imp id (fun e => (by simp at e; omega)))
                         have HK7 := Lib.hid k7'
                         clear hr7 hv7 k7 k7'))
                  all_goals
                    rw [List.length_append, List.length_singleton] at HR7 HV7
                    have HF7 := Lib.hid (show FK w w7 (.slice (some ⟨g1, o1, none⟩) ks.length k1c) ks (.slice a7 (A2.length + 1) c7) (A2 ++ [⟨n, x⟩]) (.slice t2a T2.length t2c) T2 from HFK.out.appA HR7.out HV7.out HK7.out)
                    have HB7 := Lib.hid HF7.out.b
                    have hbq : Below w7.heap.size w7 w7.drew := (Below.refl _ w7).drew
                    have HEND := Lib.hid (show ∀ wz, Below w7.heap.size w7 wz → (∀ y, (l.take k)[(l.take k).length - 1]? = some y → l.take k ≠ [] → y.cookie < x.cookie) → KeyI w D (.slice (some ⟨g1, o1, none⟩) ks.length k1c) ks A (.slice t2a T2.length t2c) T2 n l (.slice a7 (A2.length + 1) c7) (.int .i64 ((k : Int) + 1)) wz from fun wz hz hy => by
                      have e : l.take (k + 1) = l.take k ++ [x] := by rw [List.take_add_one, HX.out]; rfl
                      refine ⟨k + 1, by go_num, hkl2, ?_, ?_⟩
                      · rw [e, List.map_append, ← List.append_assoc, HA2.out]
                        exact HF7.out.below hz
                      · rw [e]; exact rising_snoc HRK.out hy)
                    have d3 := cell_later HB7.out HD3.out
                    clear HR7 HV7 HK7 HFK
                    -- P1
                    by_cases hk0 : 0 < k
                    · have hk1 : (0 : Int) < k := by omega
                      obtain ⟨j, hj⟩ : ∃ j, k - 1 = j := ⟨_, rfl⟩
                      have hw : IntKind.i64.wrap ((k : Int) - 1) = (j : Int) := by rw [IntKind.wrap_i64] <;> omega
                      have hjl : j < l.length := by omega
                      have j1 : (j : Int) < l.length := by omega
                      obtain ⟨y, hy⟩ : ∃ y, l[j]? = some y := ⟨_, List.getElem?_eq_getElem hjl⟩
                      obtain ⟨_, _, e, -, -, -, -, y3, -⟩ := ent_cells (HLA.out.below HB7.out) j y hy
                      cases e
                      have HY := Lib.hid hy
                      have HJ := Lib.hid hj
                      clear hy hj
                      have HS7 := Lib.hid (show w7.drew.cell? ⟨g2, o2 + k * 5 + 3, none⟩ = some (.int .i64 x.cookie) ∧ w7.drew.cell? ⟨g2, o2 + j * 5 + 3, none⟩ = some (.int .i64 y.cookie) from ⟨d3, y3⟩)
                      clear d3 y3
                      by_cases hge : x.cookie ≤ y.cookie
                      · as_aux_lemma =>
                          go_wp2_with fail
                          refine wp_region_held_drew (S := fun w' => w'.cell? ⟨g2, o2 + k * 5 + 3, none⟩ = some (.int .i64 x.cookie) ∧ w'.cell? ⟨g2, o2 + j * 5 + 3, none⟩ = some (.int .i64 y.cookie)) (by kernel_rfl) HS7.out (fun hHeld => ?_)
                          first | (refine take_off 0 89 rfl rfl (by kernel_rfl) (by kernel_rfl) (by kernel_rfl) (fun _ _ _ h => h) (by rfl) (by assumption) ?_) | (refine take_on 0 89 (v := ?tv485) rfl rfl (by kernel_rfl) (by kernel_rfl) (by kernel_rfl) (fun _ _ _ h => h) (by rfl) ?ty485 (by assumption) ?tr485; case ty485 => (intro w hSw; (try dsimp only at hSw); go_simp; (try with_reducible rfl)))
                          try simp only [Act.put, List.setIfInBounds_toArray, List.set_cons_zero, List.set_cons_succ]
                          first | (refine take_off 1 90 rfl rfl (by kernel_rfl) (by kernel_rfl) (by kernel_rfl) (fun _ _ _ h => h) (by rfl) (by assumption) ?_) | (refine take_on 1 90 (v := ?tv486) rfl rfl (by kernel_rfl) (by kernel_rfl) (by kernel_rfl) (fun _ _ _ h => h) (by rfl) ?ty486 (by assumption) ?tr486; case ty486 => (intro w hSw; (try dsimp only at hSw); go_simp; (try with_reducible rfl)))
                          try simp only [Act.put, List.setIfInBounds_toArray, List.set_cons_zero, List.set_cons_succ]
                          first | (refine take_off 2 91 rfl rfl (by kernel_rfl) (by kernel_rfl) (by kernel_rfl) (fun _ _ _ h => h) (by rfl) (by assumption) ?_) | (refine take_on 2 91 (v := ?tv487) rfl rfl (by kernel_rfl) (by kernel_rfl) (by kernel_rfl) (fun _ _ _ h => h) (by rfl) ?ty487 (by assumption) ?tr487; case ty487 => (intro w hSw; (try dsimp only at hSw); go_simp; (try with_reducible rfl)))
                          try simp only [Act.put, List.setIfInBounds_toArray, List.set_cons_zero, List.set_cons_succ]
                          first | (refine take_off 3 92 rfl rfl (by kernel_rfl) (by kernel_rfl) (by kernel_rfl) (fun _ _ _ h => h) (by rfl) (by assumption) ?_) | (refine take_on 3 92 (v := ?tv488) rfl rfl (by kernel_rfl) (by kernel_rfl) (by kernel_rfl) (fun _ _ _ h => h) (by rfl) ?ty488 (by assumption) ?tr488; case ty488 => (intro w hSw; (try dsimp only at hSw); go_simp; (try with_reducible rfl)))
                          try simp only [Act.put, List.setIfInBounds_toArray, List.set_cons_zero, List.set_cons_succ]
                          first | (refine take_off 4 93 rfl rfl (by kernel_rfl) (by kernel_rfl) (by kernel_rfl) (fun _ _ _ h => h) (by rfl) (by assumption) ?_) | (refine take_on 4 93 (v := ?tv489) rfl rfl (by kernel_rfl) (by kernel_rfl) (by kernel_rfl) (fun _ _ _ h => h) (by rfl) ?ty489 (by assumption) ?tr489; case ty489 => (intro w hSw; (try dsimp only at hSw); go_simp; (try with_reducible rfl)))
                          try simp only [Act.put, List.setIfInBounds_toArray, List.set_cons_zero, List.set_cons_succ]
                          first | (refine take_off 5 94 rfl rfl (by kernel_rfl) (by kernel_rfl) (by kernel_rfl) (fun _ _ _ h => h) (by rfl) (by assumption) ?_) | (refine take_on 5 94 (v := ?tv490) rfl rfl (by kernel_rfl) (by kernel_rfl) (by kernel_rfl) (fun _ _ _ h => h) (by rfl) ?ty490 (by assumption) ?tr490; case ty490 => (intro w hSw; (try dsimp only at hSw); go_simp; (try with_reducible rfl)))
                          try simp only [Act.put, List.setIfInBounds_toArray, List.set_cons_zero, List.set_cons_succ]
                          first | (refine take_off 6 95 rfl rfl (by kernel_rfl) (by kernel_rfl) (by kernel_rfl) (fun _ _ _ h => h) (by rfl) (by assumption) ?_) | (refine take_on 6 95 (v := ?tv491) rfl rfl (by kernel_rfl) (by kernel_rfl) (by kernel_rfl) (fun _ _ _ h => h) (by rfl) ?ty491 (by assumption) ?tr491; case ty491 => (intro w hSw; (try dsimp only at hSw); go_simp; (try with_reducible rfl)))
                          try simp only [Act.put, List.setIfInBounds_toArray, List.set_cons_zero, List.set_cons_succ]
                          first | (refine take_off 7 96 rfl rfl (by kernel_rfl) (by kernel_rfl) (by kernel_rfl) (fun _ _ _ h => h) (by rfl) (by assumption) ?_) | (refine take_on 7 96 (v := ?tv492) rfl rfl (by kernel_rfl) (by kernel_rfl) (by kernel_rfl) (fun _ _ _ h => h) (by rfl) ?ty492 (by assumption) ?tr492; case ty492 => (intro w hSw; (try dsimp only at hSw); go_simp; (try with_reducible rfl)))
                          try simp only [Act.put, List.setIfInBounds_toArray, List.set_cons_zero, List.set_cons_succ]
                          first | (refine take_off 8 97 rfl rfl (by kernel_rfl) (by kernel_rfl) (by kernel_rfl) (fun _ _ _ h => h) (by rfl) (by assumption) ?_) | (refine take_on 8 97 (v := ?tv493) rfl rfl (by kernel_rfl) (by kernel_rfl) (by kernel_rfl) (fun _ _ _ h => h) (by rfl) ?ty493 (by assumption) ?tr493; case ty493 => (intro w hSw; (try dsimp only at hSw); go_simp; (try with_reducible rfl)))
                          try simp only [Act.put, List.setIfInBounds_toArray, List.set_cons_zero, List.set_cons_succ]
                          first | (refine take_off 9 98 rfl rfl (by kernel_rfl) (by kernel_rfl) (by kernel_rfl) (fun _ _ _ h => h) (by rfl) (by assumption) ?_) | (refine take_on 9 98 (v := ?tv494) rfl rfl (by kernel_rfl) (by kernel_rfl) (by kernel_rfl) (fun _ _ _ h => h) (by rfl) ?ty494 (by assumption) ?tr494; case ty494 => (intro w hSw; (try dsimp only at hSw); go_simp; (try with_reducible rfl)))
                          try simp only [Act.put, List.setIfInBounds_toArray, List.set_cons_zero, List.set_cons_succ]
                          first | (refine take_off 10 99 rfl rfl (by kernel_rfl) (by kernel_rfl) (by kernel_rfl) (fun _ _ _ h => h) (by rfl) (by assumption) ?_) | (refine take_on 10 99 (v := ?tv495) rfl rfl (by kernel_rfl) (by kernel_rfl) (by kernel_rfl) (fun _ _ _ h => h) (by rfl) ?ty495 (by assumption) ?tr495; case ty495 => (intro w hSw; (try dsimp only at hSw); go_simp; (try with_reducible rfl)))
                          try simp only [Act.put, List.setIfInBounds_toArray, List.set_cons_zero, List.set_cons_succ]
                          first | (refine take_off 11 100 rfl rfl (by kernel_rfl) (by kernel_rfl) (by kernel_rfl) (fun _ _ _ h => h) (by rfl) (by assumption) ?_) | (refine take_on 11 100 (v := ?tv496) rfl rfl (by kernel_rfl) (by kernel_rfl) (by kernel_rfl) (fun _ _ _ h => h) (by rfl) ?ty496 (by assumption) ?tr496; case ty496 => (intro w hSw; (try dsimp only at hSw); go_simp; (try with_reducible rfl)))
                          try simp only [Act.put, List.setIfInBounds_toArray, List.set_cons_zero, List.set_cons_succ]
                          first | (refine take_off 12 101 rfl rfl (by kernel_rfl) (by kernel_rfl) (by kernel_rfl) (fun _ _ _ h => h) (by rfl) (by assumption) ?_) | (refine take_on 12 101 (v := ?tv497) rfl rfl (by kernel_rfl) (by kernel_rfl) (by kernel_rfl) (fun _ _ _ h => h) (by rfl) ?ty497 (by assumption) ?tr497; case ty497 => (intro w hSw; (try dsimp only at hSw); go_simp; (try with_reducible rfl)))
                          try simp only [Act.put, List.setIfInBounds_toArray, List.set_cons_zero, List.set_cons_succ]
                          first | (refine take_off 13 102 rfl rfl (by kernel_rfl) (by kernel_rfl) (by kernel_rfl) (fun _ _ _ h => h) (by rfl) (by assumption) ?_) | (refine take_on 13 102 (v := ?tv498) rfl rfl (by kernel_rfl) (by kernel_rfl) (by kernel_rfl) (fun _ _ _ h => h) (by rfl) ?ty498 (by assumption) ?tr498; case ty498 => (intro w hSw; (try dsimp only at hSw); go_simp; (try with_reducible rfl)))
                          try simp only [Act.put, List.setIfInBounds_toArray, List.set_cons_zero, List.set_cons_succ]
                          first | (refine take_off 14 103 rfl rfl (by kernel_rfl) (by kernel_rfl) (by kernel_rfl) (fun _ _ _ h => h) (by rfl) (by assumption) ?_) | (refine take_on 14 103 (v := ?tv499) rfl rfl (by kernel_rfl) (by kernel_rfl) (by kernel_rfl) (fun _ _ _ h => h) (by rfl) ?ty499 (by assumption) ?tr499; case ty499 => (intro w hSw; (try dsimp only at hSw); go_simp; (try with_reducible rfl)))
                          try simp only [Act.put, List.setIfInBounds_toArray, List.set_cons_zero, List.set_cons_succ]
                          first | (refine take_off 15 104 rfl rfl (by kernel_rfl) (by kernel_rfl) (by kernel_rfl) (fun _ _ _ h => h) (by rfl) (by assumption) ?_) | (refine take_on 15 104 (v := ?tv500) rfl rfl (by kernel_rfl) (by kernel_rfl) (by kernel_rfl) (fun _ _ _ h => h) (by rfl) ?ty500 (by assumption) ?tr500; case ty500 => (intro w hSw; (try dsimp only at hSw); go_simp; (try with_reducible rfl)))
                          try simp only [Act.put, List.setIfInBounds_toArray, List.set_cons_zero, List.set_cons_succ]
                          refine wpAnyH_done (by kernel_rfl) ?_ _
                          go_wp2_with fail
                          go_ret
                          refine ⟨false, ret_bool rfl, ⟨fun q => (by cases q), fun q => ?_⟩, HB7.out.trans (hbq.mono HB7.out.size)⟩
                          have := q.1.a n (List.mem_of_getElem? HN.out) j y x (by rw [HDL.out]; exact HY.out) (by rw [HDL.out, show j + 1 = k from by have := HJ.out; omega]; exact HX.out)
                          omega
                      · as_aux_lemma =>
                          go_wp2_with fail
                          refine wp_region_held_drew (S := fun w' => w'.cell? ⟨g2, o2 + k * 5 + 3, none⟩ = some (.int .i64 x.cookie) ∧ w'.cell? ⟨g2, o2 + j * 5 + 3, none⟩ = some (.int .i64 y.cookie)) (by kernel_rfl) HS7.out (fun hHeld => ?_)
                          first | (refine take_off 0 89 rfl rfl (by kernel_rfl) (by kernel_rfl) (by kernel_rfl) (fun _ _ _ h => h) (by rfl) (by assumption) ?_) | (refine take_on 0 89 (v := ?tv501) rfl rfl (by kernel_rfl) (by kernel_rfl) (by kernel_rfl) (fun _ _ _ h => h) (by rfl) ?ty501 (by assumption) ?tr501; case ty501 => (intro w hSw; (try dsimp only at hSw); go_simp; (try with_reducible rfl)))
                          try simp only [Act.put, List.setIfInBounds_toArray, List.set_cons_zero, List.set_cons_succ]
                          first | (refine take_off 1 90 rfl rfl (by kernel_rfl) (by kernel_rfl) (by kernel_rfl) (fun _ _ _ h => h) (by rfl) (by assumption) ?_) | (refine take_on 1 90 (v := ?tv502) rfl rfl (by kernel_rfl) (by kernel_rfl) (by kernel_rfl) (fun _ _ _ h => h) (by rfl) ?ty502 (by assumption) ?tr502; case ty502 => (intro w hSw; (try dsimp only at hSw); go_simp; (try with_reducible rfl)))
                          try simp only [Act.put, List.setIfInBounds_toArray, List.set_cons_zero, List.set_cons_succ]
                          first | (refine take_off 2 91 rfl rfl (by kernel_rfl) (by kernel_rfl) (by kernel_rfl) (fun _ _ _ h => h) (by rfl) (by assumption) ?_) | (refine take_on 2 91 (v := ?tv503) rfl rfl (by kernel_rfl) (by kernel_rfl) (by kernel_rfl) (fun _ _ _ h => h) (by rfl) ?ty503 (by assumption) ?tr503; case ty503 => (intro w hSw; (try dsimp only at hSw); go_simp; (try with_reducible rfl)))
                          try simp only [Act.put, List.setIfInBounds_toArray, List.set_cons_zero, List.set_cons_succ]
                          first | (refine take_off 3 92 rfl rfl (by kernel_rfl) (by kernel_rfl) (by kernel_rfl) (fun _ _ _ h => h) (by rfl) (by assumption) ?_) | (refine take_on 3 92 (v := ?tv504) rfl rfl (by kernel_rfl) (by kernel_rfl) (by kernel_rfl) (fun _ _ _ h => h) (by rfl) ?ty504 (by assumption) ?tr504; case ty504 => (intro w hSw; (try dsimp only at hSw); go_simp; (try with_reducible rfl)))
                          try simp only [Act.put, List.setIfInBounds_toArray, List.set_cons_zero, List.set_cons_succ]
                          first | (refine take_off 4 93 rfl rfl (by kernel_rfl) (by kernel_rfl) (by kernel_rfl) (fun _ _ _ h => h) (by rfl) (by assumption) ?_) | (refine take_on 4 93 (v := ?tv505) rfl rfl (by kernel_rfl) (by kernel_rfl) (by kernel_rfl) (fun _ _ _ h => h) (by rfl) ?ty505 (by assumption) ?tr505; case ty505 => (intro w hSw; (try dsimp only at hSw); go_simp; (try with_reducible rfl)))
                          try simp only [Act.put, List.setIfInBounds_toArray, List.set_cons_zero, List.set_cons_succ]
                          first | (refine take_off 5 94 rfl rfl (by kernel_rfl) (by kernel_rfl) (by kernel_rfl) (fun _ _ _ h => h) (by rfl) (by assumption) ?_) | (refine take_on 5 94 (v := ?tv506) rfl rfl (by kernel_rfl) (by kernel_rfl) (by kernel_rfl) (fun _ _ _ h => h) (by rfl) ?ty506 (by assumption) ?tr506; case ty506 => (intro w hSw; (try dsimp only at hSw); go_simp; (try with_reducible rfl)))
                          try simp only [Act.put, List.setIfInBounds_toArray, List.set_cons_zero, List.set_cons_succ]
                          first | (refine take_off 6 95 rfl rfl (by kernel_rfl) (by kernel_rfl) (by kernel_rfl) (fun _ _ _ h => h) (by rfl) (by assumption) ?_) | (refine take_on 6 95 (v := ?tv507) rfl rfl (by kernel_rfl) (by kernel_rfl) (by kernel_rfl) (fun _ _ _ h => h) (by rfl) ?ty507 (by assumption) ?tr507; case ty507 => (intro w hSw; (try dsimp only at hSw); go_simp; (try with_reducible rfl)))
                          try simp only [Act.put, List.setIfInBounds_toArray, List.set_cons_zero, List.set_cons_succ]
                          first | (refine take_off 7 96 rfl rfl (by kernel_rfl) (by kernel_rfl) (by kernel_rfl) (fun _ _ _ h => h) (by rfl) (by assumption) ?_) | (refine take_on 7 96 (v := ?tv508) rfl rfl (by kernel_rfl) (by kernel_rfl) (by kernel_rfl) (fun _ _ _ h => h) (by rfl) ?ty508 (by assumption) ?tr508; case ty508 => (intro w hSw; (try dsimp only at hSw); go_simp; (try with_reducible rfl)))
                          try simp only [Act.put, List.setIfInBounds_toArray, List.set_cons_zero, List.set_cons_succ]
                          first | (refine take_off 8 97 rfl rfl (by kernel_rfl) (by kernel_rfl) (by kernel_rfl) (fun _ _ _ h => h) (by rfl) (by assumption) ?_) | (refine take_on 8 97 (v := ?tv509) rfl rfl (by kernel_rfl) (by kernel_rfl) (by kernel_rfl) (fun _ _ _ h => h) (by rfl) ?ty509 (by assumption) ?tr509; case ty509 => (intro w hSw; (try dsimp only at hSw); go_simp; (try with_reducible rfl)))
                          try simp only [Act.put, List.setIfInBounds_toArray, List.set_cons_zero, List.set_cons_succ]
                          first | (refine take_off 9 98 rfl rfl (by kernel_rfl) (by kernel_rfl) (by kernel_rfl) (fun _ _ _ h => h) (by rfl) (by assumption) ?_) | (refine take_on 9 98 (v := ?tv510) rfl rfl (by kernel_rfl) (by kernel_rfl) (by kernel_rfl) (fun _ _ _ h => h) (by rfl) ?ty510 (by assumption) ?tr510; case ty510 => (intro w hSw; (try dsimp only at hSw); go_simp; (try with_reducible rfl)))
                          try simp only [Act.put, List.setIfInBounds_toArray, List.set_cons_zero, List.set_cons_succ]
                          first | (refine take_off 10 99 rfl rfl (by kernel_rfl) (by kernel_rfl) (by kernel_rfl) (fun _ _ _ h => h) (by rfl) (by assumption) ?_) | (refine take_on 10 99 (v := ?tv511) rfl rfl (by kernel_rfl) (by kernel_rfl) (by kernel_rfl) (fun _ _ _ h => h) (by rfl) ?ty511 (by assumption) ?tr511; case ty511 => (intro w hSw; (try dsimp only at hSw); go_simp; (try with_reducible rfl)))
                          try simp only [Act.put, List.setIfInBounds_toArray, List.set_cons_zero, List.set_cons_succ]
                          first | (refine take_off 11 100 rfl rfl (by kernel_rfl) (by kernel_rfl) (by kernel_rfl) (fun _ _ _ h => h) (by rfl) (by assumption) ?_) | (refine take_on 11 100 (v := ?tv512) rfl rfl (by kernel_rfl) (by kernel_rfl) (by kernel_rfl) (fun _ _ _ h => h) (by rfl) ?ty512 (by assumption) ?tr512; case ty512 => (intro w hSw; (try dsimp only at hSw); go_simp; (try with_reducible rfl)))
                          try simp only [Act.put, List.setIfInBounds_toArray, List.set_cons_zero, List.set_cons_succ]
                          first | (refine take_off 12 101 rfl rfl (by kernel_rfl) (by kernel_rfl) (by kernel_rfl) (fun _ _ _ h => h) (by rfl) (by assumption) ?_) | (refine take_on 12 101 (v := ?tv513) rfl rfl (by kernel_rfl) (by kernel_rfl) (by kernel_rfl) (fun _ _ _ h => h) (by rfl) ?ty513 (by assumption) ?tr513; case ty513 => (intro w hSw; (try dsimp only at hSw); go_simp; (try with_reducible rfl)))
                          try simp only [Act.put, List.setIfInBounds_toArray, List.set_cons_zero, List.set_cons_succ]
                          first | (refine take_off 13 102 rfl rfl (by kernel_rfl) (by kernel_rfl) (by kernel_rfl) (fun _ _ _ h => h) (by rfl) (by assumption) ?_) | (refine take_on 13 102 (v := ?tv514) rfl rfl (by kernel_rfl) (by kernel_rfl) (by kernel_rfl) (fun _ _ _ h => h) (by rfl) ?ty514 (by assumption) ?tr514; case ty514 => (intro w hSw; (try dsimp only at hSw); go_simp; (try with_reducible rfl)))
                          try simp only [Act.put, List.setIfInBounds_toArray, List.set_cons_zero, List.set_cons_succ]
                          first | (refine take_off 14 103 rfl rfl (by kernel_rfl) (by kernel_rfl) (by kernel_rfl) (fun _ _ _ h => h) (by rfl) (by assumption) ?_) | (refine take_on 14 103 (v := ?tv515) rfl rfl (by kernel_rfl) (by kernel_rfl) (by kernel_rfl) (fun _ _ _ h => h) (by rfl) ?ty515 (by assumption) ?tr515; case ty515 => (intro w hSw; (try dsimp only at hSw); go_simp; (try with_reducible rfl)))
                          try simp only [Act.put, List.setIfInBounds_toArray, List.set_cons_zero, List.set_cons_succ]
                          first | (refine take_off 15 104 rfl rfl (by kernel_rfl) (by kernel_rfl) (by kernel_rfl) (fun _ _ _ h => h) (by rfl) (by assumption) ?_) | (refine take_on 15 104 (v := ?tv516) rfl rfl (by kernel_rfl) (by kernel_rfl) (by kernel_rfl) (fun _ _ _ h => h) (by rfl) ?ty516 (by assumption) ?tr516; case ty516 => (intro w hSw; (try dsimp only at hSw); go_simp; (try with_reducible rfl)))
                          try simp only [Act.put, List.setIfInBounds_toArray, List.set_cons_zero, List.set_cons_succ]
                          refine wpAnyH_done (by kernel_rfl) ?_ _
                          go_wp2_with fail
                          refine ⟨HEND.out _ hbq (fun z hz _ => ?_), by simp [intOf]; omega⟩
                          rw [List.length_take, show min k l.length - 1 = j from by have := HJ.out; omega, List.getElem?_take, if_pos (by have := HJ.out; omega), HY.out] at hz
                          cases hz; omega
                    · have hk1 : ¬ ((0 : Int) < k) := by omega
                      have HK0 := Lib.hid (show k = 0 from by omega)
                      clear hk0
                      as_aux_lemma =>
                        go_wp2_with fail
                        refine wp_region_held_drew (S := fun w' => w'.cell? ⟨g2, o2 + k * 5 + 3, none⟩ = some (.int .i64 x.cookie)) (by kernel_rfl) d3 (fun hHeld => ?_)
                        have dk : (k : Int) = 0 := by omega
                        first | (refine take_off 0 89 rfl rfl (by kernel_rfl) (by kernel_rfl) (by kernel_rfl) (fun _ _ _ h => h) (by rfl) (by assumption) ?_) | (refine take_on 0 89 (v := ?tv517) rfl rfl (by kernel_rfl) (by kernel_rfl) (by kernel_rfl) (fun _ _ _ h => h) (by rfl) ?ty517 (by assumption) ?tr517; case ty517 => (intro w hSw; (try dsimp only at hSw); go_simp; (try with_reducible rfl)))
                        try simp only [Act.put, List.setIfInBounds_toArray, List.set_cons_zero, List.set_cons_succ]
                        first | (refine take_off 1 90 rfl rfl (by kernel_rfl) (by kernel_rfl) (by kernel_rfl) (fun _ _ _ h => h) (by rfl) (by assumption) ?_) | (refine take_on 1 90 (v := ?tv518) rfl rfl (by kernel_rfl) (by kernel_rfl) (by kernel_rfl) (fun _ _ _ h => h) (by rfl) ?ty518 (by assumption) ?tr518; case ty518 => (intro w hSw; (try dsimp only at hSw); go_simp; (try with_reducible rfl)))
                        try simp only [Act.put, List.setIfInBounds_toArray, List.set_cons_zero, List.set_cons_succ]
                        first | (refine take_off 2 91 rfl rfl (by kernel_rfl) (by kernel_rfl) (by kernel_rfl) (fun _ _ _ h => h) (by rfl) (by assumption) ?_) | (refine take_on 2 91 (v := ?tv519) rfl rfl (by kernel_rfl) (by kernel_rfl) (by kernel_rfl) (fun _ _ _ h => h) (by rfl) ?ty519 (by assumption) ?tr519; case ty519 => (intro w hSw; (try dsimp only at hSw); go_simp; (try with_reducible rfl)))
                        try simp only [Act.put, List.setIfInBounds_toArray, List.set_cons_zero, List.set_cons_succ]
                        clear dk
                        first | (refine take_off 3 92 rfl rfl (by kernel_rfl) (by kernel_rfl) (by kernel_rfl) (fun _ _ _ h => h) (by rfl) (by assumption) ?_) | (refine take_on 3 92 (v := ?tv520) rfl rfl (by kernel_rfl) (by kernel_rfl) (by kernel_rfl) (fun _ _ _ h => h) (by rfl) ?ty520 (by assumption) ?tr520; case ty520 => (intro w hSw; (try dsimp only at hSw); go_simp; (try with_reducible rfl)))
                        try simp only [Act.put, List.setIfInBounds_toArray, List.set_cons_zero, List.set_cons_succ]
                        first | (refine take_off 4 93 rfl rfl (by kernel_rfl) (by kernel_rfl) (by kernel_rfl) (fun _ _ _ h => h) (by rfl) (by assumption) ?_) | (refine take_on 4 93 (v := ?tv521) rfl rfl (by kernel_rfl) (by kernel_rfl) (by kernel_rfl) (fun _ _ _ h => h) (by rfl) ?ty521 (by assumption) ?tr521; case ty521 => (intro w hSw; (try dsimp only at hSw); go_simp; (try with_reducible rfl)))
                        try simp only [Act.put, List.setIfInBounds_toArray, List.set_cons_zero, List.set_cons_succ]
                        first | (refine take_off 5 94 rfl rfl (by kernel_rfl) (by kernel_rfl) (by kernel_rfl) (fun _ _ _ h => h) (by rfl) (by assumption) ?_) | (refine take_on 5 94 (v := ?tv522) rfl rfl (by kernel_rfl) (by kernel_rfl) (by kernel_rfl) (fun _ _ _ h => h) (by rfl) ?ty522 (by assumption) ?tr522; case ty522 => (intro w hSw; (try dsimp only at hSw); go_simp; (try with_reducible rfl)))
                        try simp only [Act.put, List.setIfInBounds_toArray, List.set_cons_zero, List.set_cons_succ]
                        first | (refine take_off 6 95 rfl rfl (by kernel_rfl) (by kernel_rfl) (by kernel_rfl) (fun _ _ _ h => h) (by rfl) (by assumption) ?_) | (refine take_on 6 95 (v := ?tv523) rfl rfl (by kernel_rfl) (by kernel_rfl) (by kernel_rfl) (fun _ _ _ h => h) (by rfl) ?ty523 (by assumption) ?tr523; case ty523 => (intro w hSw; (try dsimp only at hSw); go_simp; (try with_reducible rfl)))
                        try simp only [Act.put, List.setIfInBounds_toArray, List.set_cons_zero, List.set_cons_succ]
                        first | (refine take_off 7 96 rfl rfl (by kernel_rfl) (by kernel_rfl) (by kernel_rfl) (fun _ _ _ h => h) (by rfl) (by assumption) ?_) | (refine take_on 7 96 (v := ?tv524) rfl rfl (by kernel_rfl) (by kernel_rfl) (by kernel_rfl) (fun _ _ _ h => h) (by rfl) ?ty524 (by assumption) ?tr524; case ty524 => (intro w hSw; (try dsimp only at hSw); go_simp; (try with_reducible rfl)))
                        try simp only [Act.put, List.setIfInBounds_toArray, List.set_cons_zero, List.set_cons_succ]
                        first | (refine take_off 8 97 rfl rfl (by kernel_rfl) (by kernel_rfl) (by kernel_rfl) (fun _ _ _ h => h) (by rfl) (by assumption) ?_) | (refine take_on 8 97 (v := ?tv525) rfl rfl (by kernel_rfl) (by kernel_rfl) (by kernel_rfl) (fun _ _ _ h => h) (by rfl) ?ty525 (by assumption) ?tr525; case ty525 => (intro w hSw; (try dsimp only at hSw); go_simp; (try with_reducible rfl)))
                        try simp only [Act.put, List.setIfInBounds_toArray, List.set_cons_zero, List.set_cons_succ]
                        first | (refine take_off 9 98 rfl rfl (by kernel_rfl) (by kernel_rfl) (by kernel_rfl) (fun _ _ _ h => h) (by rfl) (by assumption) ?_) | (refine take_on 9 98 (v := ?tv526) rfl rfl (by kernel_rfl) (by kernel_rfl) (by kernel_rfl) (fun _ _ _ h => h) (by rfl) ?ty526 (by assumption) ?tr526; case ty526 => (intro w hSw; (try dsimp only at hSw); go_simp; (try with_reducible rfl)))
                        try simp only [Act.put, List.setIfInBounds_toArray, List.set_cons_zero, List.set_cons_succ]
                        first | (refine take_off 10 99 rfl rfl (by kernel_rfl) (by kernel_rfl) (by kernel_rfl) (fun _ _ _ h => h) (by rfl) (by assumption) ?_) | (refine take_on 10 99 (v := ?tv527) rfl rfl (by kernel_rfl) (by kernel_rfl) (by kernel_rfl) (fun _ _ _ h => h) (by rfl) ?ty527 (by assumption) ?tr527; case ty527 => (intro w hSw; (try dsimp only at hSw); go_simp; (try with_reducible rfl)))
                        try simp only [Act.put, List.setIfInBounds_toArray, List.set_cons_zero, List.set_cons_succ]
                        first | (refine take_off 11 100 rfl rfl (by kernel_rfl) (by kernel_rfl) (by kernel_rfl) (fun _ _ _ h => h) (by rfl) (by assumption) ?_) | (refine take_on 11 100 (v := ?tv528) rfl rfl (by kernel_rfl) (by kernel_rfl) (by kernel_rfl) (fun _ _ _ h => h) (by rfl) ?ty528 (by assumption) ?tr528; case ty528 => (intro w hSw; (try dsimp only at hSw); go_simp; (try with_reducible rfl)))
                        try simp only [Act.put, List.setIfInBounds_toArray, List.set_cons_zero, List.set_cons_succ]
                        first | (refine take_off 12 101 rfl rfl (by kernel_rfl) (by kernel_rfl) (by kernel_rfl) (fun _ _ _ h => h) (by rfl) (by assumption) ?_) | (refine take_on 12 101 (v := ?tv529) rfl rfl (by kernel_rfl) (by kernel_rfl) (by kernel_rfl) (fun _ _ _ h => h) (by rfl) ?ty529 (by assumption) ?tr529; case ty529 => (intro w hSw; (try dsimp only at hSw); go_simp; (try with_reducible rfl)))
                        try simp only [Act.put, List.setIfInBounds_toArray, List.set_cons_zero, List.set_cons_succ]
                        first | (refine take_off 13 102 rfl rfl (by kernel_rfl) (by kernel_rfl) (by kernel_rfl) (fun _ _ _ h => h) (by rfl) (by assumption) ?_) | (refine take_on 13 102 (v := ?tv530) rfl rfl (by kernel_rfl) (by kernel_rfl) (by kernel_rfl) (fun _ _ _ h => h) (by rfl) ?ty530 (by assumption) ?tr530; case ty530 => (intro w hSw; (try dsimp only at hSw); go_simp; (try with_reducible rfl)))
                        try simp only [Act.put, List.setIfInBounds_toArray, List.set_cons_zero, List.set_cons_succ]
                        first | (refine take_off 14 103 rfl rfl (by kernel_rfl) (by kernel_rfl) (by kernel_rfl) (fun _ _ _ h => h) (by rfl) (by assumption) ?_) | (refine take_on 14 103 (v := ?tv531) rfl rfl (by kernel_rfl) (by kernel_rfl) (by kernel_rfl) (fun _ _ _ h => h) (by rfl) ?ty531 (by assumption) ?tr531; case ty531 => (intro w hSw; (try dsimp only at hSw); go_simp; (try with_reducible rfl)))
                        try simp only [Act.put, List.setIfInBounds_toArray, List.set_cons_zero, List.set_cons_succ]
                        first | (refine take_off 15 104 rfl rfl (by kernel_rfl) (by kernel_rfl) (by kernel_rfl) (fun _ _ _ h => h) (by rfl) (by assumption) ?_) | (refine take_on 15 104 (v := ?tv532) rfl rfl (by kernel_rfl) (by kernel_rfl) (by kernel_rfl) (fun _ _ _ h => h) (by rfl) ?ty532 (by assumption) ?tr532; case ty532 => (intro w hSw; (try dsimp only at hSw); go_simp; (try with_reducible rfl)))
                        try simp only [Act.put, List.setIfInBounds_toArray, List.set_cons_zero, List.set_cons_succ]
                        refine wpAnyH_done (by kernel_rfl) ?_ _
                        go_wp2_with fail
                        exact ⟨HEND.out _ hbq (fun z hz hne => absurd (by rw [HK0.out]; rfl) hne), by simp [intOf]; omega⟩
                -- P2
                · have ek : k = l.length := by omega
                  subst ek
                  have i2 : ¬ ((l.length : Int) < l.length) := by omega
                  have HFIN := Lib.hid (show KeysT w cookie D (.slice (some ⟨g1, o1, none⟩) ks.length k1c) ks (.slice aqA A2.length aqC) (.slice t2a T2.length t2c) (.int .i64 ((i : Int) + 1)) wq from by
                    have HA := HA2.out
                    have HR := HRK.out
                    rw [List.take_length] at HA HR
                    refine ⟨i + 1, by go_num, hlt, ?_, fun m hm => ?_⟩
                    · rw [HTK.out, items_snoc, HDL.out, HAA.out, HA, List.filter_append, HTT.out]
                      have : [n].filter (fun n => decide (n ∈ mkeys D)) = if bk then [n] else [] := by
                        rw [← HBK.out]; simp [List.filter_cons]
                      rw [this, HT2.out]
                      exact HFK.out
                    · rw [HTK.out] at hm
                      rcases List.mem_append.1 hm with q | q
                      · exact HRI.out m q
                      · simp at q; subst q; rw [HDL.out]; exact HR)
                  clear HFK HRK HA2
                  go_wp2_with fail
                  exact ⟨HFIN.out, by simp [intOf]; omega⟩
          · have ei : i = ks.length := by omega
            subst ei
            have i2 : ¬ ((ks.length : Int) < ks.length) := by omega
            rw [List.take_length] at HF HRI ⊢
            obtain ⟨all, hall⟩ : ∃ all, itemsOf D ks = all := ⟨_, rfl⟩
            obtain ⟨th, hth⟩ : ∃ th, ks.filter (fun n => decide (n ∈ mkeys D)) = th := ⟨_, rfl⟩
            rw [hall, hth] at HF ⊢
            have HMEM := Lib.hid (show ∀ n, n ∈ th ↔ n ∈ mkeys D from fun n => by
              rw [← hth, List.mem_filter]
              exact ⟨fun q => by simpa using q.2, fun q => ⟨HKK.out n q, by simpa using q⟩⟩)
            have hAl : all.length ≤ 301 * 200 := by
              have := items_len D (fun n => (HDG.out n).1) ks
              rw [hall] at this
              have h1 : ks.length * 200 ≤ 301 * 200 := Nat.mul_le_mul_right _ hkl
              omega
            have hTl : th.length ≤ 301 := by
              rw [← hth]; exact Nat.le_trans (List.length_filter_le _ _) hkl
            have HALL := Lib.hid hall
            have HB := Lib.hid HF.out.b
            have HAR := Lib.hid HF.out.a.arg
            have HTR := Lib.hid HF.out.t.arg
            have HHAS := Lib.hid (fun (W : World) (n : Int) (hb : Below wr.heap.size wr W) => has10_any W n (HTR.out.below hb) (by unfold maxLen; omega))
            clear hall hth HF
            by_cases hc : cookie < 1
            · go_wp2_with fail
              go_ret
              exact ⟨false, ret_bool rfl, ⟨fun q => (by cases q), fun q => absurd q.1.b.1 (by omega)⟩, HB.out⟩
            · go_wp2_with fail
              refine (HHAS.out _ 0 (Below.refl _ _)).mono ?_
              rintro e w5 ⟨rfl, hb5⟩
              obtain ⟨b0, hb0⟩ : ∃ b0, decide (0 ∈ th) = b0 := ⟨_, rfl⟩
              rw [hb0]
              have HB0 := Lib.hid hb0
              have HB5 := Lib.hid hb5
              clear hb0 hb5
              cases b0
              · go_wp2_with fail
                go_ret
                exact ⟨false, ret_bool rfl, ⟨fun q => (by cases q), fun q => absurd ((HMEM.out 0).2 q.1.b.2) (of_decide_eq_false HB0.out)⟩, HB.out.trans (HB5.out.mono HB.out.size)⟩
              · go_wp2_with fail
                go_loopw [18] (fun iv wx => ChkT w wr cookie (mkeys D) all iv wx) (fun iv _ => all.length - (intOf iv).toNat)
                case atStart => exact ⟨0, rfl, Nat.zero_le _, fun x hx => by simp at hx, by simp, HB5.out⟩
                case round =>
                  rename World => wx
                  obtain ⟨i, rfl, hi, hok, hap, hb⟩ := hrel
                  have HOK := Lib.hid hok
                  have HAP := Lib.hid hap
                  have HBX := Lib.hid hb
                  clear hok hap hb HB5
                  by_cases hil : i < all.length
                  · have i1 : (i : Int) < all.length := by omega
                    obtain ⟨x, hx⟩ : ∃ x, all[i]? = some x := ⟨_, List.getElem?_eq_getElem hil⟩
                    obtain ⟨ga, oa, rfl, -, d0, d1, d2, d3, d4, d5⟩ := itm_cells (HAR.out.below HBX.out) i x hx
                    have HX := Lib.hid hx
                    clear hx
                    go_wp2_with fail
                    obtain ⟨B, hB⟩ : ∃ B, wx.heap.size = B := ⟨_, rfl⟩
                    have hbw : Below wx.heap.size wx (wx.alloc (.cells #[.string x.e.name, .int .i64 x.e.node, .bool x.e.dir, .int .i64 x.e.cookie, .int .i64 x.e.short] 84)) := (Below.refl _ wx).alloc (Nat.le_refl _) _
                    have hkw := m_alloc wx (.cells #[.string x.e.name, .int .i64 x.e.node, .bool x.e.dir, .int .i64 x.e.cookie, .int .i64 x.e.short] 84) B hB
                    rw [hB]
                    generalize (wx.alloc (.cells #[.string x.e.name, .int .i64 x.e.node, .bool x.e.dir, .int .i64 x.e.cookie, .int .i64 x.e.short] 84)) = W at *
                    have HKW := Lib.hid hkw
                    have HBW := Lib.hid (HBX.out.trans (hbw.mono HBX.out.size))
                    have hnm : x.e.name.size ≤ maxLen := by
                      have := List.mem_of_getElem? HX.out
                      rw [← HALL.out] at this
                      exact (HDG.out _).2 _ (mem_itemsOf.1 this).2
                    obtain ⟨R, hR⟩ : ∃ R, linkT [] 1 0 x.e.name false x.e.short = R := ⟨_, rfl⟩
                    have HNEW := Lib.hid (fun (w' : World) => rnew_any w')
                    have HLNK := Lib.hid (show ∀ w' : World, Calls Tryz.prog 40 #[.agg #[.slice none 0 0, .int .i64 1], .int .i64 0, .string x.e.name, .bool false, .int .i64 x.e.short] w' (RPost w' (.slice none 0 0) R) from fun w' => by
                      rw [← hR]; exact rlink_any w' 1 0 x.e.name false x.e.short (Arg.nil _ _) tinv_nil (by omega) hnm)
                    have HR := Lib.hid hR
                    have HS := Lib.hid (show ∀ w', Below W.heap.size W w' → (w'.cell? ⟨B, 0, none⟩ = some (.string x.e.name) ∧ w'.cell? ⟨B, 4, none⟩ = some (.int .i64 x.e.short)) from fun w' k => by
                      have hk := (k.block _ (m_lt hkw)).trans hkw
                      exact ⟨(m_cells hk).1 0, (m_cells hk).1 4⟩)
                    clear hR hbw hkw hB d0 d1 d2 d3 d4 d5 hnm
                    go_cut [20, 21, 22] from 1000 (fun s20 s21 s22 wz => MidNL W R s20 s21 s22 wz)
                    case first =>
                      go_region_held3 (fun w' => w'.cell? ⟨B, 0, none⟩ = some (.string x.e.name) ∧ w'.cell? ⟨B, 4, none⟩ = some (.int .i64 x.e.short))
                        (first | exact HS.out _ ((HB7.out.setCell (Nat.le_refl _) _).setCell (Nat.le_refl _) _) | exact HS.out _ ((HB7.out.setCell HB6.out.size _).setCell HB6.out.size _) | exact HS.out _ (HB7.out.alloc HB7.out.size _) | exact HS.out _ HB7.out | exact HS.out _ (HB6.out.alloc HB6.out.size _) | exact HS.out _ HB6.out | exact HS.out _ (show Below W.heap.size W _ from (by repeat (first | exact Below.refl _ _ | assumption | (refine Below.drew ?_) | (refine below_drewN ?_ _) | (refine Below.alloc ?_ (by simp; done) _) | (refine Below.alloc ?_ (by simp; omega) _)))))
                        (first
                         | (go_at_call 11
                            with_reducible (show Calls _ _ _ W.drew _)
                            refine (HNEW.out W.drew).mono ?_
                            rintro e w6 ⟨rfl, hb6⟩
                            have HB6 := Lib.hid (show Below W.heap.size W w6 from (Below.refl _ W).drew.trans hb6)
                            have ONE : True := trivial
                            clear hb6)
                         | (go_at_call 11
                            refine (HNEW.out (W.alloc _).drew).mono ?_
                            rintro e w6 ⟨rfl, hb6⟩
                            have HB6 := Lib.hid (show Below W.heap.size W w6 from ((Below.refl _ W).alloc (Nat.le_refl _) _).drew.trans (hb6.mono (by simp [World.drew])))
                            have hx6 := (hb6.block W.heap.size (by simp [World.drew])).trans (m_alloc W (.cells #[.slice none 0 0, .int .i64 0] 29) W.heap.size rfl)
                            have HX6 := Lib.hid hx6
                            have TWO : True := trivial
                            clear hb6 hx6)
                         | (go_at_call 40
                            have _t := TWO
                            with_reducible (show Calls _ _ _ w6 _)
                            refine (HLNK.out w6).mono ?_
                            rintro e w7 ⟨v7, rfl, ha7, hw7, hb7⟩
                            have hx7 := (hb7.block _ (m_lt HX6.out)).trans HX6.out
                            have HX7 := Lib.hid hx7
                            obtain ⟨r0, r1, r2, r3⟩ := rfacts hx7
                            have HB7 := Lib.hid (show Below W.heap.size W w7 from HB6.out.trans (hb7.mono HB6.out.size))
                            obtain ⟨a7, c7, rfl⟩ := ha7.shape
                            clear ha7 hw7 hb7 hx7 TWO)
                         | (go_at_call 40
                            have _t := ONE
                            with_reducible (show Calls _ _ _ w6 _)
                            refine (HLNK.out w6).mono ?_
                            rintro e w7 ⟨v7, rfl, ha7, hw7, hb7⟩
                            have HB7 := Lib.hid (show Below W.heap.size W w7 from HB6.out.trans (hb7.mono HB6.out.size))
                            obtain ⟨a7, c7, rfl⟩ := ha7.shape
                            clear ha7 hw7 hb7 ONE)
                         | (go_at_call 40
                            have _t := ONE
                            refine (HLNK.out (w6.alloc _)).mono ?_
                            rintro e w7 ⟨v7, rfl, ha7, hw7, hb7⟩
                            have hx7 := (hb7.block w6.heap.size (by simp)).trans (m_alloc w6 (.cells #[.slice none 0 0, .int .i64 0] 29) w6.heap.size rfl)
                            have HX7 := Lib.hid hx7
                            obtain ⟨r0, r1, r2, r3⟩ := rfacts hx7
                            have HB7 := Lib.hid (show Below W.heap.size W w7 from (HB6.out.alloc HB6.out.size _).trans (hb7.mono (by have := HB6.out.size; simp; omega)))
                            obtain ⟨a7, c7, rfl⟩ := ha7.shape
                            clear ha7 hw7 hb7 hx7 ONE))
                      all_goals
                        go_wp2
                        go_meet
                        case rel => first | exact midnl1 HB7.out | exact midnl2 HB7.out (by have := HB6.out.size; omega) HX7.out | exact midnl2 HB7.out (Nat.le_refl _) HX7.out
                    case rest =>
                      rename World => wz
                      obtain ⟨X, xa, xc, rfl, rfl, rfl, hX, hbz⟩ := hcut
                      have HBZ := Lib.hid hbz
                      have HXZ := Lib.hid hX
                      clear hX hbz
                      go_wp2_with fail
                      obtain ⟨bh, hbh⟩ : ∃ bh, decide (x.e.node ∈ th) = bh := ⟨_, rfl⟩
                      have HBZR := Lib.hid (show Below wr.heap.size wr wz from HBW.out.trans (HBZ.out.mono HBW.out.size))
                      have HHX := Lib.hid (show ∀ W, Below wr.heap.size wr W → Calls Tryz.prog 59 #[.slice tvA th.length tvC, .int .i64 x.e.node] W (fun e w' => e = .returned (.bool bh) ∧ Below W.heap.size W w') from fun W hb => by
                        rw [← hbh]; exact HHAS.out W x.e.node hb)
                      have HBH := Lib.hid hbh
                      have HRE := Lib.hid (show R.err = mayErr x.e.name x.e.short from by rw [← HR.out, link_new]; split <;> simp_all)
                      have HRL := Lib.hid (show R.err = 0 → R.L.length = 1 from by rw [← HR.out, link_new]; split <;> simp_all)
                      have HNO := Lib.hid (show ∀ W, Below wz.heap.size wz W → ¬ ItmOk cookie (mkeys D) x → FormedPost w cookie D ks (.returned (.bool false)) W from fun W hb hn =>
                        ⟨false, rfl, ⟨fun q => (by cases q), fun q => absurd (q.1.c x (by rw [HALL.out]; exact List.mem_of_getElem? HX.out)) hn⟩, HB.out.trans ((HBZR.out.trans (hb.mono HBZR.out.size)).mono HB.out.size)⟩)
                      have HSZ := Lib.hid (show ∀ w', Below wz.heap.size wz w' → (w'.cell? ⟨B, 1, none⟩ = some (.int .i64 x.e.node) ∧ w'.cell? ⟨B, 2, none⟩ = some (.bool x.e.dir) ∧ w'.cell? ⟨B, 3, none⟩ = some (.int .i64 x.e.cookie) ∧ w'.cell? ⟨X, 0, none⟩ = some (.slice xa R.L.length xc)) from fun w' k => by
                        have hk := (k.block _ (m_lt ((HBZ.out.block _ (m_lt HKW.out)).trans HKW.out))).trans ((HBZ.out.block _ (m_lt HKW.out)).trans HKW.out)
                        have hx := (k.block _ (m_lt HXZ.out)).trans HXZ.out
                        exact ⟨(m_cells hk).1 1, (m_cells hk).1 2, (m_cells hk).1 3, (m_cells hx).1 0⟩)
                      clear hbh
                      by_cases e0 : R.err = 0
                      · have f0 : (R.err != 0) = false := by simp [e0]
                        have E0 := Lib.hid e0
                        have hl1 : R.L.length = 1 := HRL.out e0
                        clear e0
                        by_cases g2 : x.e.node < 1
                        · as_aux_lemma =>
                            refine wp_region_held_drew (S := fun w' => w'.cell? ⟨B, 1, none⟩ = some (.int .i64 x.e.node) ∧ w'.cell? ⟨B, 2, none⟩ = some (.bool x.e.dir) ∧ w'.cell? ⟨B, 3, none⟩ = some (.int .i64 x.e.cookie) ∧ w'.cell? ⟨X, 0, none⟩ = some (.slice xa R.L.length xc)) (by kernel_rfl) (HSZ.out _ (Below.refl _ wz).drew) (fun hHeld => ?_)
                            refine take_on 0 133 (v := ?tv1) rfl rfl (by kernel_rfl) (by kernel_rfl) (by kernel_rfl) (fun _ _ _ h => h) (by rfl) ?ty1 (by assumption) ?tr1
                            case ty1 => (intro w hSw; (try dsimp only at hSw); go_simp; (try with_reducible rfl))
                            try simp only [Act.put, List.setIfInBounds_toArray, List.set_cons_zero, List.set_cons_succ]
                            refine take_on 1 134 (v := ?tv2) rfl rfl (by kernel_rfl) (by kernel_rfl) (by kernel_rfl) (fun _ _ _ h => h) (by rfl) ?ty2 (by assumption) ?tr2
                            case ty2 => (intro w hSw; (try dsimp only at hSw); go_simp; (try with_reducible rfl))
                            try simp only [Act.put, List.setIfInBounds_toArray, List.set_cons_zero, List.set_cons_succ]
                            refine take_on 2 135 (v := ?tv3) rfl rfl (by kernel_rfl) (by kernel_rfl) (by kernel_rfl) (fun _ _ _ h => h) (by rfl) ?ty3 (by assumption) ?tr3
                            case ty3 => (intro w hSw; (try dsimp only at hSw); go_simp; (try with_reducible rfl))
                            try simp only [Act.put, List.setIfInBounds_toArray, List.set_cons_zero, List.set_cons_succ]
                            refine take_on 3 136 (v := ?tv4) rfl rfl (by kernel_rfl) (by kernel_rfl) (by kernel_rfl) (fun _ _ _ h => h) (by rfl) ?ty4 (by assumption) ?tr4
                            case ty4 => (intro w hSw; (try dsimp only at hSw); go_simp; (try with_reducible rfl))
                            try simp only [Act.put, List.setIfInBounds_toArray, List.set_cons_zero, List.set_cons_succ]
                            refine take_on 4 137 (v := ?tv5) rfl rfl (by kernel_rfl) (by kernel_rfl) (by kernel_rfl) (fun _ _ _ h => h) (by rfl) ?ty5 (by assumption) ?tr5
                            case ty5 => (intro w hSw; (try dsimp only at hSw); go_simp; (try with_reducible rfl))
                            try simp only [Act.put, List.setIfInBounds_toArray, List.set_cons_zero, List.set_cons_succ]
                            refine take_on 5 138 (v := ?tv6) rfl rfl (by kernel_rfl) (by kernel_rfl) (by kernel_rfl) (fun _ _ _ h => h) (by rfl) ?ty6 (by assumption) ?tr6
                            case ty6 => (intro w hSw; (try dsimp only at hSw); go_simp; (try with_reducible rfl))
                            try simp only [Act.put, List.setIfInBounds_toArray, List.set_cons_zero, List.set_cons_succ]
                            refine take_on 6 139 (v := ?tv7) rfl rfl (by kernel_rfl) (by kernel_rfl) (by kernel_rfl) (fun _ _ _ h => h) (by rfl) ?ty7 (by assumption) ?tr7
                            case ty7 => (intro w hSw; (try dsimp only at hSw); go_simp; (try with_reducible rfl))
                            try simp only [Act.put, List.setIfInBounds_toArray, List.set_cons_zero, List.set_cons_succ]
                            refine take_on 7 140 (v := ?tv8) rfl rfl (by kernel_rfl) (by kernel_rfl) (by kernel_rfl) (fun _ _ _ h => h) (by rfl) ?ty8 (by assumption) ?tr8
                            case ty8 => (intro w hSw; (try dsimp only at hSw); go_simp; (try with_reducible rfl))
                            try simp only [Act.put, List.setIfInBounds_toArray, List.set_cons_zero, List.set_cons_succ]
                            refine take_on 8 141 (v := ?tv9) rfl rfl (by kernel_rfl) (by kernel_rfl) (by kernel_rfl) (fun _ _ _ h => h) (by rfl) ?ty9 (by assumption) ?tr9
                            case ty9 => (intro w hSw; (try dsimp only at hSw); go_simp; (try with_reducible rfl))
                            try simp only [Act.put, List.setIfInBounds_toArray, List.set_cons_zero, List.set_cons_succ]
                            refine take_on 9 142 (v := ?tv10) rfl rfl (by kernel_rfl) (by kernel_rfl) (by kernel_rfl) (fun _ _ _ h => h) (by rfl) ?ty10 (by assumption) ?tr10
                            case ty10 => (intro w hSw; (try dsimp only at hSw); go_simp; (try with_reducible rfl))
                            try simp only [Act.put, List.setIfInBounds_toArray, List.set_cons_zero, List.set_cons_succ]
                            refine take_on 10 143 (v := ?tv11) rfl rfl (by kernel_rfl) (by kernel_rfl) (by kernel_rfl) (fun _ _ _ h => h) (by rfl) ?ty11 (by assumption) ?tr11
                            case ty11 => (intro w hSw; (try dsimp only at hSw); go_simp; (try with_reducible rfl))
                            try simp only [Act.put, List.setIfInBounds_toArray, List.set_cons_zero, List.set_cons_succ]
                            refine take_on 11 144 (v := ?tv12) rfl rfl (by kernel_rfl) (by kernel_rfl) (by kernel_rfl) (fun _ _ _ h => h) (by rfl) ?ty12 (by assumption) ?tr12
                            case ty12 => (intro w hSw; (try dsimp only at hSw); go_simp; (try with_reducible rfl))
                            try simp only [Act.put, List.setIfInBounds_toArray, List.set_cons_zero, List.set_cons_succ]
                            refine take_on 12 145 (v := ?tv13) rfl rfl (by kernel_rfl) (by kernel_rfl) (by kernel_rfl) (fun _ _ _ h => h) (by rfl) ?ty13 (by assumption) ?tr13
                            case ty13 => (intro w hSw; (try dsimp only at hSw); go_simp; (try with_reducible rfl))
                            try simp only [Act.put, List.setIfInBounds_toArray, List.set_cons_zero, List.set_cons_succ]
                            refine take_on 13 146 (v := ?tv14) rfl rfl (by kernel_rfl) (by kernel_rfl) (by kernel_rfl) (fun _ _ _ h => h) (by rfl) ?ty14 (by assumption) ?tr14
                            case ty14 => (intro w hSw; (try dsimp only at hSw); go_simp; (try with_reducible rfl))
                            try simp only [Act.put, List.setIfInBounds_toArray, List.set_cons_zero, List.set_cons_succ]
                            refine take_off 14 147 rfl rfl (by kernel_rfl) (by kernel_rfl) (by kernel_rfl) (fun _ _ _ h => h) (by rfl) (by assumption) ?_
                            try simp only [Act.put, List.setIfInBounds_toArray, List.set_cons_zero, List.set_cons_succ]
                            refine take_off 15 148 rfl rfl (by kernel_rfl) (by kernel_rfl) (by kernel_rfl) (fun _ _ _ h => h) (by rfl) (by assumption) ?_
                            try simp only [Act.put, List.setIfInBounds_toArray, List.set_cons_zero, List.set_cons_succ]
                            refine take_off 16 149 rfl rfl (by kernel_rfl) (by kernel_rfl) (by kernel_rfl) (fun _ _ _ h => h) (by rfl) (by assumption) ?_
                            try simp only [Act.put, List.setIfInBounds_toArray, List.set_cons_zero, List.set_cons_succ]
                            refine take_on 17 150 (v := ?tv18) rfl rfl (by kernel_rfl) (by kernel_rfl) (by kernel_rfl) (fun _ _ _ h => h) (by rfl) ?ty18 (by assumption) ?tr18
                            case ty18 => (intro w hSw; (try dsimp only at hSw); go_simp; (try with_reducible rfl))
                            try simp only [Act.put, List.setIfInBounds_toArray, List.set_cons_zero, List.set_cons_succ]
                            refine take_on 18 151 (v := ?tv19) rfl rfl (by kernel_rfl) (by kernel_rfl) (by kernel_rfl) (fun _ _ _ h => h) (by rfl) ?ty19 (by assumption) ?tr19
                            case ty19 => (intro w hSw; (try dsimp only at hSw); go_simp; (try with_reducible rfl))
                            try simp only [Act.put, List.setIfInBounds_toArray, List.set_cons_zero, List.set_cons_succ]
                            refine take_off 19 152 rfl rfl (by kernel_rfl) (by kernel_rfl) (by kernel_rfl) (fun _ _ _ h => h) (by rfl) (by assumption) ?_
                            try simp only [Act.put, List.setIfInBounds_toArray, List.set_cons_zero, List.set_cons_succ]
                            refine take_off 20 153 rfl rfl (by kernel_rfl) (by kernel_rfl) (by kernel_rfl) (fun _ _ _ h => h) (by rfl) (by assumption) ?_
                            try simp only [Act.put, List.setIfInBounds_toArray, List.set_cons_zero, List.set_cons_succ]
                            refine take_off 21 154 rfl rfl (by kernel_rfl) (by kernel_rfl) (by kernel_rfl) (fun _ _ _ h => h) (by rfl) (by assumption) ?_
                            try simp only [Act.put, List.setIfInBounds_toArray, List.set_cons_zero, List.set_cons_succ]
                            refine take_on 22 155 (v := ?tv23) rfl rfl (by kernel_rfl) (by kernel_rfl) (by kernel_rfl) (fun _ _ _ h => h) (by rfl) ?ty23 (by assumption) ?tr23
                            case ty23 => (intro w hSw; (try dsimp only at hSw); go_simp; (try with_reducible rfl))
                            try simp only [Act.put, List.setIfInBounds_toArray, List.set_cons_zero, List.set_cons_succ]
                            refine take_on 23 156 (v := ?tv24) rfl rfl (by kernel_rfl) (by kernel_rfl) (by kernel_rfl) (fun _ _ _ h => h) (by rfl) ?ty24 (by assumption) ?tr24
                            case ty24 => (intro w hSw; (try dsimp only at hSw); go_simp; (try with_reducible rfl))
                            try simp only [Act.put, List.setIfInBounds_toArray, List.set_cons_zero, List.set_cons_succ]
                            refine take_off 24 157 rfl rfl (by kernel_rfl) (by kernel_rfl) (by kernel_rfl) (fun _ _ _ h => h) (by rfl) (by assumption) ?_
                            try simp only [Act.put, List.setIfInBounds_toArray, List.set_cons_zero, List.set_cons_succ]
                            refine take_off 25 158 rfl rfl (by kernel_rfl) (by kernel_rfl) (by kernel_rfl) (fun _ _ _ h => h) (by rfl) (by assumption) ?_
                            try simp only [Act.put, List.setIfInBounds_toArray, List.set_cons_zero, List.set_cons_succ]
                            refine take_off 26 159 rfl rfl (by kernel_rfl) (by kernel_rfl) (by kernel_rfl) (fun _ _ _ h => h) (by rfl) (by assumption) ?_
                            try simp only [Act.put, List.setIfInBounds_toArray, List.set_cons_zero, List.set_cons_succ]
                            refine take_off 27 160 rfl rfl (by kernel_rfl) (by kernel_rfl) (by kernel_rfl) (fun _ _ _ h => h) (by rfl) (by assumption) ?_
                            try simp only [Act.put, List.setIfInBounds_toArray, List.set_cons_zero, List.set_cons_succ]
                            refine take_on 28 161 (v := ?tv29) rfl rfl (by kernel_rfl) (by kernel_rfl) (by kernel_rfl) (fun _ _ _ h => h) (by rfl) ?ty29 (by assumption) ?tr29
                            case ty29 => (intro w hSw; (try dsimp only at hSw); go_simp; (try with_reducible rfl))
                            try simp only [Act.put, List.setIfInBounds_toArray, List.set_cons_zero, List.set_cons_succ]
                            refine take_on 29 162 (v := ?tv30) rfl rfl (by kernel_rfl) (by kernel_rfl) (by kernel_rfl) (fun _ _ _ h => h) (by rfl) ?ty30 (by assumption) ?tr30
                            case ty30 => (intro w hSw; (try dsimp only at hSw); go_simp; (try with_reducible rfl))
                            try simp only [Act.put, List.setIfInBounds_toArray, List.set_cons_zero, List.set_cons_succ]
                            refine take_off 30 163 rfl rfl (by kernel_rfl) (by kernel_rfl) (by kernel_rfl) (fun _ _ _ h => h) (by rfl) (by assumption) ?_
                            try simp only [Act.put, List.setIfInBounds_toArray, List.set_cons_zero, List.set_cons_succ]
                            refine take_off 31 164 rfl rfl (by kernel_rfl) (by kernel_rfl) (by kernel_rfl) (fun _ _ _ h => h) (by rfl) (by assumption) ?_
                            try simp only [Act.put, List.setIfInBounds_toArray, List.set_cons_zero, List.set_cons_succ]
                            refine take_off 32 165 rfl rfl (by kernel_rfl) (by kernel_rfl) (by kernel_rfl) (fun _ _ _ h => h) (by rfl) (by assumption) ?_
                            try simp only [Act.put, List.setIfInBounds_toArray, List.set_cons_zero, List.set_cons_succ]
                            refine take_off 33 166 rfl rfl (by kernel_rfl) (by kernel_rfl) (by kernel_rfl) (fun _ _ _ h => h) (by rfl) (by assumption) ?_
                            try simp only [Act.put, List.setIfInBounds_toArray, List.set_cons_zero, List.set_cons_succ]
                            refine take_off 34 167 rfl rfl (by kernel_rfl) (by kernel_rfl) (by kernel_rfl) (fun _ _ _ h => h) (by rfl) (by assumption) ?_
                            try simp only [Act.put, List.setIfInBounds_toArray, List.set_cons_zero, List.set_cons_succ]
                            refine take_off 35 168 rfl rfl (by kernel_rfl) (by kernel_rfl) (by kernel_rfl) (fun _ _ _ h => h) (by rfl) (by assumption) ?_
                            try simp only [Act.put, List.setIfInBounds_toArray, List.set_cons_zero, List.set_cons_succ]
                            refine take_off 36 169 rfl rfl (by kernel_rfl) (by kernel_rfl) (by kernel_rfl) (fun _ _ _ h => h) (by rfl) (by assumption) ?_
                            try simp only [Act.put, List.setIfInBounds_toArray, List.set_cons_zero, List.set_cons_succ]
                            refine take_on 37 170 (v := ?tv38) rfl rfl (by kernel_rfl) (by kernel_rfl) (by kernel_rfl) (fun _ _ _ h => h) (by rfl) ?ty38 (by assumption) ?tr38
                            case ty38 => (intro w hSw; (try dsimp only at hSw); go_simp; (try with_reducible rfl))
                            try simp only [Act.put, List.setIfInBounds_toArray, List.set_cons_zero, List.set_cons_succ]
                            refine wpAnyH_done (by kernel_rfl) ?_ _
                            go_wp2_with fail
                            go_ret
                            exact HNO.out _ ((Below.refl _ wz).drew) (fun q => by have := q.2.1; omega)

                        · by_cases g3 : 200 < x.e.node
                          · as_aux_lemma =>
                              refine wp_region_held_drew (S := fun w' => w'.cell? ⟨B, 1, none⟩ = some (.int .i64 x.e.node) ∧ w'.cell? ⟨B, 2, none⟩ = some (.bool x.e.dir) ∧ w'.cell? ⟨B, 3, none⟩ = some (.int .i64 x.e.cookie) ∧ w'.cell? ⟨X, 0, none⟩ = some (.slice xa R.L.length xc)) (by kernel_rfl) (HSZ.out _ (Below.refl _ wz).drew) (fun hHeld => ?_)
                              refine take_on 0 133 (v := ?tv39) rfl rfl (by kernel_rfl) (by kernel_rfl) (by kernel_rfl) (fun _ _ _ h => h) (by rfl) ?ty39 (by assumption) ?tr39
                              case ty39 => (intro w hSw; (try dsimp only at hSw); go_simp; (try with_reducible rfl))
                              try simp only [Act.put, List.setIfInBounds_toArray, List.set_cons_zero, List.set_cons_succ]
                              refine take_on 1 134 (v := ?tv40) rfl rfl (by kernel_rfl) (by kernel_rfl) (by kernel_rfl) (fun _ _ _ h => h) (by rfl) ?ty40 (by assumption) ?tr40
                              case ty40 => (intro w hSw; (try dsimp only at hSw); go_simp; (try with_reducible rfl))
                              try simp only [Act.put, List.setIfInBounds_toArray, List.set_cons_zero, List.set_cons_succ]
                              refine take_on 2 135 (v := ?tv41) rfl rfl (by kernel_rfl) (by kernel_rfl) (by kernel_rfl) (fun _ _ _ h => h) (by rfl) ?ty41 (by assumption) ?tr41
                              case ty41 => (intro w hSw; (try dsimp only at hSw); go_simp; (try with_reducible rfl))
                              try simp only [Act.put, List.setIfInBounds_toArray, List.set_cons_zero, List.set_cons_succ]
                              refine take_on 3 136 (v := ?tv42) rfl rfl (by kernel_rfl) (by kernel_rfl) (by kernel_rfl) (fun _ _ _ h => h) (by rfl) ?ty42 (by assumption) ?tr42
                              case ty42 => (intro w hSw; (try dsimp only at hSw); go_simp; (try with_reducible rfl))
                              try simp only [Act.put, List.setIfInBounds_toArray, List.set_cons_zero, List.set_cons_succ]
                              refine take_on 4 137 (v := ?tv43) rfl rfl (by kernel_rfl) (by kernel_rfl) (by kernel_rfl) (fun _ _ _ h => h) (by rfl) ?ty43 (by assumption) ?tr43
                              case ty43 => (intro w hSw; (try dsimp only at hSw); go_simp; (try with_reducible rfl))
                              try simp only [Act.put, List.setIfInBounds_toArray, List.set_cons_zero, List.set_cons_succ]
                              refine take_on 5 138 (v := ?tv44) rfl rfl (by kernel_rfl) (by kernel_rfl) (by kernel_rfl) (fun _ _ _ h => h) (by rfl) ?ty44 (by assumption) ?tr44
                              case ty44 => (intro w hSw; (try dsimp only at hSw); go_simp; (try with_reducible rfl))
                              try simp only [Act.put, List.setIfInBounds_toArray, List.set_cons_zero, List.set_cons_succ]
                              refine take_on 6 139 (v := ?tv45) rfl rfl (by kernel_rfl) (by kernel_rfl) (by kernel_rfl) (fun _ _ _ h => h) (by rfl) ?ty45 (by assumption) ?tr45
                              case ty45 => (intro w hSw; (try dsimp only at hSw); go_simp; (try with_reducible rfl))
                              try simp only [Act.put, List.setIfInBounds_toArray, List.set_cons_zero, List.set_cons_succ]
                              refine take_on 7 140 (v := ?tv46) rfl rfl (by kernel_rfl) (by kernel_rfl) (by kernel_rfl) (fun _ _ _ h => h) (by rfl) ?ty46 (by assumption) ?tr46
                              case ty46 => (intro w hSw; (try dsimp only at hSw); go_simp; (try with_reducible rfl))
                              try simp only [Act.put, List.setIfInBounds_toArray, List.set_cons_zero, List.set_cons_succ]
                              refine take_on 8 141 (v := ?tv47) rfl rfl (by kernel_rfl) (by kernel_rfl) (by kernel_rfl) (fun _ _ _ h => h) (by rfl) ?ty47 (by assumption) ?tr47
                              case ty47 => (intro w hSw; (try dsimp only at hSw); go_simp; (try with_reducible rfl))
                              try simp only [Act.put, List.setIfInBounds_toArray, List.set_cons_zero, List.set_cons_succ]
                              refine take_on 9 142 (v := ?tv48) rfl rfl (by kernel_rfl) (by kernel_rfl) (by kernel_rfl) (fun _ _ _ h => h) (by rfl) ?ty48 (by assumption) ?tr48
                              case ty48 => (intro w hSw; (try dsimp only at hSw); go_simp; (try with_reducible rfl))
                              try simp only [Act.put, List.setIfInBounds_toArray, List.set_cons_zero, List.set_cons_succ]
                              refine take_on 10 143 (v := ?tv49) rfl rfl (by kernel_rfl) (by kernel_rfl) (by kernel_rfl) (fun _ _ _ h => h) (by rfl) ?ty49 (by assumption) ?tr49
                              case ty49 => (intro w hSw; (try dsimp only at hSw); go_simp; (try with_reducible rfl))
                              try simp only [Act.put, List.setIfInBounds_toArray, List.set_cons_zero, List.set_cons_succ]
                              refine take_on 11 144 (v := ?tv50) rfl rfl (by kernel_rfl) (by kernel_rfl) (by kernel_rfl) (fun _ _ _ h => h) (by rfl) ?ty50 (by assumption) ?tr50
                              case ty50 => (intro w hSw; (try dsimp only at hSw); go_simp; (try with_reducible rfl))
                              try simp only [Act.put, List.setIfInBounds_toArray, List.set_cons_zero, List.set_cons_succ]
                              refine take_on 12 145 (v := ?tv51) rfl rfl (by kernel_rfl) (by kernel_rfl) (by kernel_rfl) (fun _ _ _ h => h) (by rfl) ?ty51 (by assumption) ?tr51
                              case ty51 => (intro w hSw; (try dsimp only at hSw); go_simp; (try with_reducible rfl))
                              try simp only [Act.put, List.setIfInBounds_toArray, List.set_cons_zero, List.set_cons_succ]
                              refine take_on 13 146 (v := ?tv52) rfl rfl (by kernel_rfl) (by kernel_rfl) (by kernel_rfl) (fun _ _ _ h => h) (by rfl) ?ty52 (by assumption) ?tr52
                              case ty52 => (intro w hSw; (try dsimp only at hSw); go_simp; (try with_reducible rfl))
                              try simp only [Act.put, List.setIfInBounds_toArray, List.set_cons_zero, List.set_cons_succ]
                              refine take_on 14 147 (v := ?tv53) rfl rfl (by kernel_rfl) (by kernel_rfl) (by kernel_rfl) (fun _ _ _ h => h) (by rfl) ?ty53 (by assumption) ?tr53
                              case ty53 => (intro w hSw; (try dsimp only at hSw); go_simp; (try with_reducible rfl))
                              try simp only [Act.put, List.setIfInBounds_toArray, List.set_cons_zero, List.set_cons_succ]
                              refine take_on 15 148 (v := ?tv54) rfl rfl (by kernel_rfl) (by kernel_rfl) (by kernel_rfl) (fun _ _ _ h => h) (by rfl) ?ty54 (by assumption) ?tr54
                              case ty54 => (intro w hSw; (try dsimp only at hSw); go_simp; (try with_reducible rfl))
                              try simp only [Act.put, List.setIfInBounds_toArray, List.set_cons_zero, List.set_cons_succ]
                              refine take_on 16 149 (v := ?tv55) rfl rfl (by kernel_rfl) (by kernel_rfl) (by kernel_rfl) (fun _ _ _ h => h) (by rfl) ?ty55 (by assumption) ?tr55
                              case ty55 => (intro w hSw; (try dsimp only at hSw); go_simp; (try with_reducible rfl))
                              try simp only [Act.put, List.setIfInBounds_toArray, List.set_cons_zero, List.set_cons_succ]
                              refine take_on 17 150 (v := ?tv56) rfl rfl (by kernel_rfl) (by kernel_rfl) (by kernel_rfl) (fun _ _ _ h => h) (by rfl) ?ty56 (by assumption) ?tr56
                              case ty56 => (intro w hSw; (try dsimp only at hSw); go_simp; (try with_reducible rfl))
                              try simp only [Act.put, List.setIfInBounds_toArray, List.set_cons_zero, List.set_cons_succ]
                              refine take_on 18 151 (v := ?tv57) rfl rfl (by kernel_rfl) (by kernel_rfl) (by kernel_rfl) (fun _ _ _ h => h) (by rfl) ?ty57 (by assumption) ?tr57
                              case ty57 => (intro w hSw; (try dsimp only at hSw); go_simp; (try with_reducible rfl))
                              try simp only [Act.put, List.setIfInBounds_toArray, List.set_cons_zero, List.set_cons_succ]
                              refine take_off 19 152 rfl rfl (by kernel_rfl) (by kernel_rfl) (by kernel_rfl) (fun _ _ _ h => h) (by rfl) (by assumption) ?_
                              try simp only [Act.put, List.setIfInBounds_toArray, List.set_cons_zero, List.set_cons_succ]
                              refine take_off 20 153 rfl rfl (by kernel_rfl) (by kernel_rfl) (by kernel_rfl) (fun _ _ _ h => h) (by rfl) (by assumption) ?_
                              try simp only [Act.put, List.setIfInBounds_toArray, List.set_cons_zero, List.set_cons_succ]
                              refine take_off 21 154 rfl rfl (by kernel_rfl) (by kernel_rfl) (by kernel_rfl) (fun _ _ _ h => h) (by rfl) (by assumption) ?_
                              try simp only [Act.put, List.setIfInBounds_toArray, List.set_cons_zero, List.set_cons_succ]
                              refine take_on 22 155 (v := ?tv61) rfl rfl (by kernel_rfl) (by kernel_rfl) (by kernel_rfl) (fun _ _ _ h => h) (by rfl) ?ty61 (by assumption) ?tr61
                              case ty61 => (intro w hSw; (try dsimp only at hSw); go_simp; (try with_reducible rfl))
                              try simp only [Act.put, List.setIfInBounds_toArray, List.set_cons_zero, List.set_cons_succ]
                              refine take_on 23 156 (v := ?tv62) rfl rfl (by kernel_rfl) (by kernel_rfl) (by kernel_rfl) (fun _ _ _ h => h) (by rfl) ?ty62 (by assumption) ?tr62
                              case ty62 => (intro w hSw; (try dsimp only at hSw); go_simp; (try with_reducible rfl))
                              try simp only [Act.put, List.setIfInBounds_toArray, List.set_cons_zero, List.set_cons_succ]
                              refine take_off 24 157 rfl rfl (by kernel_rfl) (by kernel_rfl) (by kernel_rfl) (fun _ _ _ h => h) (by rfl) (by assumption) ?_
                              try simp only [Act.put, List.setIfInBounds_toArray, List.set_cons_zero, List.set_cons_succ]
                              refine take_off 25 158 rfl rfl (by kernel_rfl) (by kernel_rfl) (by kernel_rfl) (fun _ _ _ h => h) (by rfl) (by assumption) ?_
                              try simp only [Act.put, List.setIfInBounds_toArray, List.set_cons_zero, List.set_cons_succ]
                              refine take_off 26 159 rfl rfl (by kernel_rfl) (by kernel_rfl) (by kernel_rfl) (fun _ _ _ h => h) (by rfl) (by assumption) ?_
                              try simp only [Act.put, List.setIfInBounds_toArray, List.set_cons_zero, List.set_cons_succ]
                              refine take_off 27 160 rfl rfl (by kernel_rfl) (by kernel_rfl) (by kernel_rfl) (fun _ _ _ h => h) (by rfl) (by assumption) ?_
                              try simp only [Act.put, List.setIfInBounds_toArray, List.set_cons_zero, List.set_cons_succ]
                              refine take_on 28 161 (v := ?tv67) rfl rfl (by kernel_rfl) (by kernel_rfl) (by kernel_rfl) (fun _ _ _ h => h) (by rfl) ?ty67 (by assumption) ?tr67
                              case ty67 => (intro w hSw; (try dsimp only at hSw); go_simp; (try with_reducible rfl))
                              try simp only [Act.put, List.setIfInBounds_toArray, List.set_cons_zero, List.set_cons_succ]
                              refine take_on 29 162 (v := ?tv68) rfl rfl (by kernel_rfl) (by kernel_rfl) (by kernel_rfl) (fun _ _ _ h => h) (by rfl) ?ty68 (by assumption) ?tr68
                              case ty68 => (intro w hSw; (try dsimp only at hSw); go_simp; (try with_reducible rfl))
                              try simp only [Act.put, List.setIfInBounds_toArray, List.set_cons_zero, List.set_cons_succ]
                              refine take_off 30 163 rfl rfl (by kernel_rfl) (by kernel_rfl) (by kernel_rfl) (fun _ _ _ h => h) (by rfl) (by assumption) ?_
                              try simp only [Act.put, List.setIfInBounds_toArray, List.set_cons_zero, List.set_cons_succ]
                              refine take_off 31 164 rfl rfl (by kernel_rfl) (by kernel_rfl) (by kernel_rfl) (fun _ _ _ h => h) (by rfl) (by assumption) ?_
                              try simp only [Act.put, List.setIfInBounds_toArray, List.set_cons_zero, List.set_cons_succ]
                              refine take_off 32 165 rfl rfl (by kernel_rfl) (by kernel_rfl) (by kernel_rfl) (fun _ _ _ h => h) (by rfl) (by assumption) ?_
                              try simp only [Act.put, List.setIfInBounds_toArray, List.set_cons_zero, List.set_cons_succ]
                              refine take_off 33 166 rfl rfl (by kernel_rfl) (by kernel_rfl) (by kernel_rfl) (fun _ _ _ h => h) (by rfl) (by assumption) ?_
                              try simp only [Act.put, List.setIfInBounds_toArray, List.set_cons_zero, List.set_cons_succ]
                              refine take_off 34 167 rfl rfl (by kernel_rfl) (by kernel_rfl) (by kernel_rfl) (fun _ _ _ h => h) (by rfl) (by assumption) ?_
                              try simp only [Act.put, List.setIfInBounds_toArray, List.set_cons_zero, List.set_cons_succ]
                              refine take_off 35 168 rfl rfl (by kernel_rfl) (by kernel_rfl) (by kernel_rfl) (fun _ _ _ h => h) (by rfl) (by assumption) ?_
                              try simp only [Act.put, List.setIfInBounds_toArray, List.set_cons_zero, List.set_cons_succ]
                              refine take_off 36 169 rfl rfl (by kernel_rfl) (by kernel_rfl) (by kernel_rfl) (fun _ _ _ h => h) (by rfl) (by assumption) ?_
                              try simp only [Act.put, List.setIfInBounds_toArray, List.set_cons_zero, List.set_cons_succ]
                              refine take_on 37 170 (v := ?tv76) rfl rfl (by kernel_rfl) (by kernel_rfl) (by kernel_rfl) (fun _ _ _ h => h) (by rfl) ?ty76 (by assumption) ?tr76
                              case ty76 => (intro w hSw; (try dsimp only at hSw); go_simp; (try with_reducible rfl))
                              try simp only [Act.put, List.setIfInBounds_toArray, List.set_cons_zero, List.set_cons_succ]
                              refine wpAnyH_done (by kernel_rfl) ?_ _
                              go_wp2_with fail
                              go_ret
                              exact HNO.out _ ((Below.refl _ wz).drew) (fun q => by have := q.2.2.1; omega)

                          · by_cases g4 : x.e.cookie < 1
                            · as_aux_lemma =>
                                refine wp_region_held_drew (S := fun w' => w'.cell? ⟨B, 1, none⟩ = some (.int .i64 x.e.node) ∧ w'.cell? ⟨B, 2, none⟩ = some (.bool x.e.dir) ∧ w'.cell? ⟨B, 3, none⟩ = some (.int .i64 x.e.cookie) ∧ w'.cell? ⟨X, 0, none⟩ = some (.slice xa R.L.length xc)) (by kernel_rfl) (HSZ.out _ (Below.refl _ wz).drew) (fun hHeld => ?_)
                                refine take_on 0 133 (v := ?tv77) rfl rfl (by kernel_rfl) (by kernel_rfl) (by kernel_rfl) (fun _ _ _ h => h) (by rfl) ?ty77 (by assumption) ?tr77
                                case ty77 => (intro w hSw; (try dsimp only at hSw); go_simp; (try with_reducible rfl))
                                try simp only [Act.put, List.setIfInBounds_toArray, List.set_cons_zero, List.set_cons_succ]
                                refine take_on 1 134 (v := ?tv78) rfl rfl (by kernel_rfl) (by kernel_rfl) (by kernel_rfl) (fun _ _ _ h => h) (by rfl) ?ty78 (by assumption) ?tr78
                                case ty78 => (intro w hSw; (try dsimp only at hSw); go_simp; (try with_reducible rfl))
                                try simp only [Act.put, List.setIfInBounds_toArray, List.set_cons_zero, List.set_cons_succ]
                                refine take_on 2 135 (v := ?tv79) rfl rfl (by kernel_rfl) (by kernel_rfl) (by kernel_rfl) (fun _ _ _ h => h) (by rfl) ?ty79 (by assumption) ?tr79
                                case ty79 => (intro w hSw; (try dsimp only at hSw); go_simp; (try with_reducible rfl))
                                try simp only [Act.put, List.setIfInBounds_toArray, List.set_cons_zero, List.set_cons_succ]
                                refine take_on 3 136 (v := ?tv80) rfl rfl (by kernel_rfl) (by kernel_rfl) (by kernel_rfl) (fun _ _ _ h => h) (by rfl) ?ty80 (by assumption) ?tr80
                                case ty80 => (intro w hSw; (try dsimp only at hSw); go_simp; (try with_reducible rfl))
                                try simp only [Act.put, List.setIfInBounds_toArray, List.set_cons_zero, List.set_cons_succ]
                                refine take_on 4 137 (v := ?tv81) rfl rfl (by kernel_rfl) (by kernel_rfl) (by kernel_rfl) (fun _ _ _ h => h) (by rfl) ?ty81 (by assumption) ?tr81
                                case ty81 => (intro w hSw; (try dsimp only at hSw); go_simp; (try with_reducible rfl))
                                try simp only [Act.put, List.setIfInBounds_toArray, List.set_cons_zero, List.set_cons_succ]
                                refine take_on 5 138 (v := ?tv82) rfl rfl (by kernel_rfl) (by kernel_rfl) (by kernel_rfl) (fun _ _ _ h => h) (by rfl) ?ty82 (by assumption) ?tr82
                                case ty82 => (intro w hSw; (try dsimp only at hSw); go_simp; (try with_reducible rfl))
                                try simp only [Act.put, List.setIfInBounds_toArray, List.set_cons_zero, List.set_cons_succ]
                                refine take_on 6 139 (v := ?tv83) rfl rfl (by kernel_rfl) (by kernel_rfl) (by kernel_rfl) (fun _ _ _ h => h) (by rfl) ?ty83 (by assumption) ?tr83
                                case ty83 => (intro w hSw; (try dsimp only at hSw); go_simp; (try with_reducible rfl))
                                try simp only [Act.put, List.setIfInBounds_toArray, List.set_cons_zero, List.set_cons_succ]
                                refine take_on 7 140 (v := ?tv84) rfl rfl (by kernel_rfl) (by kernel_rfl) (by kernel_rfl) (fun _ _ _ h => h) (by rfl) ?ty84 (by assumption) ?tr84
                                case ty84 => (intro w hSw; (try dsimp only at hSw); go_simp; (try with_reducible rfl))
                                try simp only [Act.put, List.setIfInBounds_toArray, List.set_cons_zero, List.set_cons_succ]
                                refine take_on 8 141 (v := ?tv85) rfl rfl (by kernel_rfl) (by kernel_rfl) (by kernel_rfl) (fun _ _ _ h => h) (by rfl) ?ty85 (by assumption) ?tr85
                                case ty85 => (intro w hSw; (try dsimp only at hSw); go_simp; (try with_reducible rfl))
                                try simp only [Act.put, List.setIfInBounds_toArray, List.set_cons_zero, List.set_cons_succ]
                                refine take_on 9 142 (v := ?tv86) rfl rfl (by kernel_rfl) (by kernel_rfl) (by kernel_rfl) (fun _ _ _ h => h) (by rfl) ?ty86 (by assumption) ?tr86
                                case ty86 => (intro w hSw; (try dsimp only at hSw); go_simp; (try with_reducible rfl))
                                try simp only [Act.put, List.setIfInBounds_toArray, List.set_cons_zero, List.set_cons_succ]
                                refine take_on 10 143 (v := ?tv87) rfl rfl (by kernel_rfl) (by kernel_rfl) (by kernel_rfl) (fun _ _ _ h => h) (by rfl) ?ty87 (by assumption) ?tr87
                                case ty87 => (intro w hSw; (try dsimp only at hSw); go_simp; (try with_reducible rfl))
                                try simp only [Act.put, List.setIfInBounds_toArray, List.set_cons_zero, List.set_cons_succ]
                                refine take_on 11 144 (v := ?tv88) rfl rfl (by kernel_rfl) (by kernel_rfl) (by kernel_rfl) (fun _ _ _ h => h) (by rfl) ?ty88 (by assumption) ?tr88
                                case ty88 => (intro w hSw; (try dsimp only at hSw); go_simp; (try with_reducible rfl))
                                try simp only [Act.put, List.setIfInBounds_toArray, List.set_cons_zero, List.set_cons_succ]
                                refine take_on 12 145 (v := ?tv89) rfl rfl (by kernel_rfl) (by kernel_rfl) (by kernel_rfl) (fun _ _ _ h => h) (by rfl) ?ty89 (by assumption) ?tr89
                                case ty89 => (intro w hSw; (try dsimp only at hSw); go_simp; (try with_reducible rfl))
                                try simp only [Act.put, List.setIfInBounds_toArray, List.set_cons_zero, List.set_cons_succ]
                                refine take_on 13 146 (v := ?tv90) rfl rfl (by kernel_rfl) (by kernel_rfl) (by kernel_rfl) (fun _ _ _ h => h) (by rfl) ?ty90 (by assumption) ?tr90
                                case ty90 => (intro w hSw; (try dsimp only at hSw); go_simp; (try with_reducible rfl))
                                try simp only [Act.put, List.setIfInBounds_toArray, List.set_cons_zero, List.set_cons_succ]
                                refine take_on 14 147 (v := ?tv91) rfl rfl (by kernel_rfl) (by kernel_rfl) (by kernel_rfl) (fun _ _ _ h => h) (by rfl) ?ty91 (by assumption) ?tr91
                                case ty91 => (intro w hSw; (try dsimp only at hSw); go_simp; (try with_reducible rfl))
                                try simp only [Act.put, List.setIfInBounds_toArray, List.set_cons_zero, List.set_cons_succ]
                                refine take_on 15 148 (v := ?tv92) rfl rfl (by kernel_rfl) (by kernel_rfl) (by kernel_rfl) (fun _ _ _ h => h) (by rfl) ?ty92 (by assumption) ?tr92
                                case ty92 => (intro w hSw; (try dsimp only at hSw); go_simp; (try with_reducible rfl))
                                try simp only [Act.put, List.setIfInBounds_toArray, List.set_cons_zero, List.set_cons_succ]
                                refine take_on 16 149 (v := ?tv93) rfl rfl (by kernel_rfl) (by kernel_rfl) (by kernel_rfl) (fun _ _ _ h => h) (by rfl) ?ty93 (by assumption) ?tr93
                                case ty93 => (intro w hSw; (try dsimp only at hSw); go_simp; (try with_reducible rfl))
                                try simp only [Act.put, List.setIfInBounds_toArray, List.set_cons_zero, List.set_cons_succ]
                                refine take_on 17 150 (v := ?tv94) rfl rfl (by kernel_rfl) (by kernel_rfl) (by kernel_rfl) (fun _ _ _ h => h) (by rfl) ?ty94 (by assumption) ?tr94
                                case ty94 => (intro w hSw; (try dsimp only at hSw); go_simp; (try with_reducible rfl))
                                try simp only [Act.put, List.setIfInBounds_toArray, List.set_cons_zero, List.set_cons_succ]
                                refine take_on 18 151 (v := ?tv95) rfl rfl (by kernel_rfl) (by kernel_rfl) (by kernel_rfl) (fun _ _ _ h => h) (by rfl) ?ty95 (by assumption) ?tr95
                                case ty95 => (intro w hSw; (try dsimp only at hSw); go_simp; (try with_reducible rfl))
                                try simp only [Act.put, List.setIfInBounds_toArray, List.set_cons_zero, List.set_cons_succ]
                                refine take_on 19 152 (v := ?tv96) rfl rfl (by kernel_rfl) (by kernel_rfl) (by kernel_rfl) (fun _ _ _ h => h) (by rfl) ?ty96 (by assumption) ?tr96
                                case ty96 => (intro w hSw; (try dsimp only at hSw); go_simp; (try with_reducible rfl))
                                try simp only [Act.put, List.setIfInBounds_toArray, List.set_cons_zero, List.set_cons_succ]
                                refine take_on 20 153 (v := ?tv97) rfl rfl (by kernel_rfl) (by kernel_rfl) (by kernel_rfl) (fun _ _ _ h => h) (by rfl) ?ty97 (by assumption) ?tr97
                                case ty97 => (intro w hSw; (try dsimp only at hSw); go_simp; (try with_reducible rfl))
                                try simp only [Act.put, List.setIfInBounds_toArray, List.set_cons_zero, List.set_cons_succ]
                                refine take_on 21 154 (v := ?tv98) rfl rfl (by kernel_rfl) (by kernel_rfl) (by kernel_rfl) (fun _ _ _ h => h) (by rfl) ?ty98 (by assumption) ?tr98
                                case ty98 => (intro w hSw; (try dsimp only at hSw); go_simp; (try with_reducible rfl))
                                try simp only [Act.put, List.setIfInBounds_toArray, List.set_cons_zero, List.set_cons_succ]
                                refine take_on 22 155 (v := ?tv99) rfl rfl (by kernel_rfl) (by kernel_rfl) (by kernel_rfl) (fun _ _ _ h => h) (by rfl) ?ty99 (by assumption) ?tr99
                                case ty99 => (intro w hSw; (try dsimp only at hSw); go_simp; (try with_reducible rfl))
                                try simp only [Act.put, List.setIfInBounds_toArray, List.set_cons_zero, List.set_cons_succ]
                                refine take_on 23 156 (v := ?tv100) rfl rfl (by kernel_rfl) (by kernel_rfl) (by kernel_rfl) (fun _ _ _ h => h) (by rfl) ?ty100 (by assumption) ?tr100
                                case ty100 => (intro w hSw; (try dsimp only at hSw); go_simp; (try with_reducible rfl))
                                try simp only [Act.put, List.setIfInBounds_toArray, List.set_cons_zero, List.set_cons_succ]
                                refine take_off 24 157 rfl rfl (by kernel_rfl) (by kernel_rfl) (by kernel_rfl) (fun _ _ _ h => h) (by rfl) (by assumption) ?_
                                try simp only [Act.put, List.setIfInBounds_toArray, List.set_cons_zero, List.set_cons_succ]
                                refine take_off 25 158 rfl rfl (by kernel_rfl) (by kernel_rfl) (by kernel_rfl) (fun _ _ _ h => h) (by rfl) (by assumption) ?_
                                try simp only [Act.put, List.setIfInBounds_toArray, List.set_cons_zero, List.set_cons_succ]
                                refine take_off 26 159 rfl rfl (by kernel_rfl) (by kernel_rfl) (by kernel_rfl) (fun _ _ _ h => h) (by rfl) (by assumption) ?_
                                try simp only [Act.put, List.setIfInBounds_toArray, List.set_cons_zero, List.set_cons_succ]
                                refine take_off 27 160 rfl rfl (by kernel_rfl) (by kernel_rfl) (by kernel_rfl) (fun _ _ _ h => h) (by rfl) (by assumption) ?_
                                try simp only [Act.put, List.setIfInBounds_toArray, List.set_cons_zero, List.set_cons_succ]
                                refine take_on 28 161 (v := ?tv105) rfl rfl (by kernel_rfl) (by kernel_rfl) (by kernel_rfl) (fun _ _ _ h => h) (by rfl) ?ty105 (by assumption) ?tr105
                                case ty105 => (intro w hSw; (try dsimp only at hSw); go_simp; (try with_reducible rfl))
                                try simp only [Act.put, List.setIfInBounds_toArray, List.set_cons_zero, List.set_cons_succ]
                                refine take_on 29 162 (v := ?tv106) rfl rfl (by kernel_rfl) (by kernel_rfl) (by kernel_rfl) (fun _ _ _ h => h) (by rfl) ?ty106 (by assumption) ?tr106
                                case ty106 => (intro w hSw; (try dsimp only at hSw); go_simp; (try with_reducible rfl))
                                try simp only [Act.put, List.setIfInBounds_toArray, List.set_cons_zero, List.set_cons_succ]
                                refine take_off 30 163 rfl rfl (by kernel_rfl) (by kernel_rfl) (by kernel_rfl) (fun _ _ _ h => h) (by rfl) (by assumption) ?_
                                try simp only [Act.put, List.setIfInBounds_toArray, List.set_cons_zero, List.set_cons_succ]
                                refine take_off 31 164 rfl rfl (by kernel_rfl) (by kernel_rfl) (by kernel_rfl) (fun _ _ _ h => h) (by rfl) (by assumption) ?_
                                try simp only [Act.put, List.setIfInBounds_toArray, List.set_cons_zero, List.set_cons_succ]
                                refine take_off 32 165 rfl rfl (by kernel_rfl) (by kernel_rfl) (by kernel_rfl) (fun _ _ _ h => h) (by rfl) (by assumption) ?_
                                try simp only [Act.put, List.setIfInBounds_toArray, List.set_cons_zero, List.set_cons_succ]
                                refine take_off 33 166 rfl rfl (by kernel_rfl) (by kernel_rfl) (by kernel_rfl) (fun _ _ _ h => h) (by rfl) (by assumption) ?_
                                try simp only [Act.put, List.setIfInBounds_toArray, List.set_cons_zero, List.set_cons_succ]
                                refine take_off 34 167 rfl rfl (by kernel_rfl) (by kernel_rfl) (by kernel_rfl) (fun _ _ _ h => h) (by rfl) (by assumption) ?_
                                try simp only [Act.put, List.setIfInBounds_toArray, List.set_cons_zero, List.set_cons_succ]
                                refine take_off 35 168 rfl rfl (by kernel_rfl) (by kernel_rfl) (by kernel_rfl) (fun _ _ _ h => h) (by rfl) (by assumption) ?_
                                try simp only [Act.put, List.setIfInBounds_toArray, List.set_cons_zero, List.set_cons_succ]
                                refine take_off 36 169 rfl rfl (by kernel_rfl) (by kernel_rfl) (by kernel_rfl) (fun _ _ _ h => h) (by rfl) (by assumption) ?_
                                try simp only [Act.put, List.setIfInBounds_toArray, List.set_cons_zero, List.set_cons_succ]
                                refine take_on 37 170 (v := ?tv114) rfl rfl (by kernel_rfl) (by kernel_rfl) (by kernel_rfl) (fun _ _ _ h => h) (by rfl) ?ty114 (by assumption) ?tr114
                                case ty114 => (intro w hSw; (try dsimp only at hSw); go_simp; (try with_reducible rfl))
                                try simp only [Act.put, List.setIfInBounds_toArray, List.set_cons_zero, List.set_cons_succ]
                                refine wpAnyH_done (by kernel_rfl) ?_ _
                                go_wp2_with fail
                                go_ret
                                exact HNO.out _ ((Below.refl _ wz).drew) (fun q => by have := q.2.2.2.1; omega)

                            · by_cases g5 : cookie ≤ x.e.cookie
                              · as_aux_lemma =>
                                  refine wp_region_held_drew (S := fun w' => w'.cell? ⟨B, 1, none⟩ = some (.int .i64 x.e.node) ∧ w'.cell? ⟨B, 2, none⟩ = some (.bool x.e.dir) ∧ w'.cell? ⟨B, 3, none⟩ = some (.int .i64 x.e.cookie) ∧ w'.cell? ⟨X, 0, none⟩ = some (.slice xa R.L.length xc)) (by kernel_rfl) (HSZ.out _ (Below.refl _ wz).drew) (fun hHeld => ?_)
                                  refine take_on 0 133 (v := ?tv115) rfl rfl (by kernel_rfl) (by kernel_rfl) (by kernel_rfl) (fun _ _ _ h => h) (by rfl) ?ty115 (by assumption) ?tr115
                                  case ty115 => (intro w hSw; (try dsimp only at hSw); go_simp; (try with_reducible rfl))
                                  try simp only [Act.put, List.setIfInBounds_toArray, List.set_cons_zero, List.set_cons_succ]
                                  refine take_on 1 134 (v := ?tv116) rfl rfl (by kernel_rfl) (by kernel_rfl) (by kernel_rfl) (fun _ _ _ h => h) (by rfl) ?ty116 (by assumption) ?tr116
                                  case ty116 => (intro w hSw; (try dsimp only at hSw); go_simp; (try with_reducible rfl))
                                  try simp only [Act.put, List.setIfInBounds_toArray, List.set_cons_zero, List.set_cons_succ]
                                  refine take_on 2 135 (v := ?tv117) rfl rfl (by kernel_rfl) (by kernel_rfl) (by kernel_rfl) (fun _ _ _ h => h) (by rfl) ?ty117 (by assumption) ?tr117
                                  case ty117 => (intro w hSw; (try dsimp only at hSw); go_simp; (try with_reducible rfl))
                                  try simp only [Act.put, List.setIfInBounds_toArray, List.set_cons_zero, List.set_cons_succ]
                                  refine take_on 3 136 (v := ?tv118) rfl rfl (by kernel_rfl) (by kernel_rfl) (by kernel_rfl) (fun _ _ _ h => h) (by rfl) ?ty118 (by assumption) ?tr118
                                  case ty118 => (intro w hSw; (try dsimp only at hSw); go_simp; (try with_reducible rfl))
                                  try simp only [Act.put, List.setIfInBounds_toArray, List.set_cons_zero, List.set_cons_succ]
                                  refine take_on 4 137 (v := ?tv119) rfl rfl (by kernel_rfl) (by kernel_rfl) (by kernel_rfl) (fun _ _ _ h => h) (by rfl) ?ty119 (by assumption) ?tr119
                                  case ty119 => (intro w hSw; (try dsimp only at hSw); go_simp; (try with_reducible rfl))
                                  try simp only [Act.put, List.setIfInBounds_toArray, List.set_cons_zero, List.set_cons_succ]
                                  refine take_on 5 138 (v := ?tv120) rfl rfl (by kernel_rfl) (by kernel_rfl) (by kernel_rfl) (fun _ _ _ h => h) (by rfl) ?ty120 (by assumption) ?tr120
                                  case ty120 => (intro w hSw; (try dsimp only at hSw); go_simp; (try with_reducible rfl))
                                  try simp only [Act.put, List.setIfInBounds_toArray, List.set_cons_zero, List.set_cons_succ]
                                  refine take_on 6 139 (v := ?tv121) rfl rfl (by kernel_rfl) (by kernel_rfl) (by kernel_rfl) (fun _ _ _ h => h) (by rfl) ?ty121 (by assumption) ?tr121
                                  case ty121 => (intro w hSw; (try dsimp only at hSw); go_simp; (try with_reducible rfl))
                                  try simp only [Act.put, List.setIfInBounds_toArray, List.set_cons_zero, List.set_cons_succ]
                                  refine take_on 7 140 (v := ?tv122) rfl rfl (by kernel_rfl) (by kernel_rfl) (by kernel_rfl) (fun _ _ _ h => h) (by rfl) ?ty122 (by assumption) ?tr122
                                  case ty122 => (intro w hSw; (try dsimp only at hSw); go_simp; (try with_reducible rfl))
                                  try simp only [Act.put, List.setIfInBounds_toArray, List.set_cons_zero, List.set_cons_succ]
                                  refine take_on 8 141 (v := ?tv123) rfl rfl (by kernel_rfl) (by kernel_rfl) (by kernel_rfl) (fun _ _ _ h => h) (by rfl) ?ty123 (by assumption) ?tr123
                                  case ty123 => (intro w hSw; (try dsimp only at hSw); go_simp; (try with_reducible rfl))
                                  try simp only [Act.put, List.setIfInBounds_toArray, List.set_cons_zero, List.set_cons_succ]
                                  refine take_on 9 142 (v := ?tv124) rfl rfl (by kernel_rfl) (by kernel_rfl) (by kernel_rfl) (fun _ _ _ h => h) (by rfl) ?ty124 (by assumption) ?tr124
                                  case ty124 => (intro w hSw; (try dsimp only at hSw); go_simp; (try with_reducible rfl))
                                  try simp only [Act.put, List.setIfInBounds_toArray, List.set_cons_zero, List.set_cons_succ]
                                  refine take_on 10 143 (v := ?tv125) rfl rfl (by kernel_rfl) (by kernel_rfl) (by kernel_rfl) (fun _ _ _ h => h) (by rfl) ?ty125 (by assumption) ?tr125
                                  case ty125 => (intro w hSw; (try dsimp only at hSw); go_simp; (try with_reducible rfl))
                                  try simp only [Act.put, List.setIfInBounds_toArray, List.set_cons_zero, List.set_cons_succ]
                                  refine take_on 11 144 (v := ?tv126) rfl rfl (by kernel_rfl) (by kernel_rfl) (by kernel_rfl) (fun _ _ _ h => h) (by rfl) ?ty126 (by assumption) ?tr126
                                  case ty126 => (intro w hSw; (try dsimp only at hSw); go_simp; (try with_reducible rfl))
                                  try simp only [Act.put, List.setIfInBounds_toArray, List.set_cons_zero, List.set_cons_succ]
                                  refine take_on 12 145 (v := ?tv127) rfl rfl (by kernel_rfl) (by kernel_rfl) (by kernel_rfl) (fun _ _ _ h => h) (by rfl) ?ty127 (by assumption) ?tr127
                                  case ty127 => (intro w hSw; (try dsimp only at hSw); go_simp; (try with_reducible rfl))
                                  try simp only [Act.put, List.setIfInBounds_toArray, List.set_cons_zero, List.set_cons_succ]
                                  refine take_on 13 146 (v := ?tv128) rfl rfl (by kernel_rfl) (by kernel_rfl) (by kernel_rfl) (fun _ _ _ h => h) (by rfl) ?ty128 (by assumption) ?tr128
                                  case ty128 => (intro w hSw; (try dsimp only at hSw); go_simp; (try with_reducible rfl))
                                  try simp only [Act.put, List.setIfInBounds_toArray, List.set_cons_zero, List.set_cons_succ]
                                  refine take_on 14 147 (v := ?tv129) rfl rfl (by kernel_rfl) (by kernel_rfl) (by kernel_rfl) (fun _ _ _ h => h) (by rfl) ?ty129 (by assumption) ?tr129
                                  case ty129 => (intro w hSw; (try dsimp only at hSw); go_simp; (try with_reducible rfl))
                                  try simp only [Act.put, List.setIfInBounds_toArray, List.set_cons_zero, List.set_cons_succ]
                                  refine take_on 15 148 (v := ?tv130) rfl rfl (by kernel_rfl) (by kernel_rfl) (by kernel_rfl) (fun _ _ _ h => h) (by rfl) ?ty130 (by assumption) ?tr130
                                  case ty130 => (intro w hSw; (try dsimp only at hSw); go_simp; (try with_reducible rfl))
                                  try simp only [Act.put, List.setIfInBounds_toArray, List.set_cons_zero, List.set_cons_succ]
                                  refine take_on 16 149 (v := ?tv131) rfl rfl (by kernel_rfl) (by kernel_rfl) (by kernel_rfl) (fun _ _ _ h => h) (by rfl) ?ty131 (by assumption) ?tr131
                                  case ty131 => (intro w hSw; (try dsimp only at hSw); go_simp; (try with_reducible rfl))
                                  try simp only [Act.put, List.setIfInBounds_toArray, List.set_cons_zero, List.set_cons_succ]
                                  refine take_on 17 150 (v := ?tv132) rfl rfl (by kernel_rfl) (by kernel_rfl) (by kernel_rfl) (fun _ _ _ h => h) (by rfl) ?ty132 (by assumption) ?tr132
                                  case ty132 => (intro w hSw; (try dsimp only at hSw); go_simp; (try with_reducible rfl))
                                  try simp only [Act.put, List.setIfInBounds_toArray, List.set_cons_zero, List.set_cons_succ]
                                  refine take_on 18 151 (v := ?tv133) rfl rfl (by kernel_rfl) (by kernel_rfl) (by kernel_rfl) (fun _ _ _ h => h) (by rfl) ?ty133 (by assumption) ?tr133
                                  case ty133 => (intro w hSw; (try dsimp only at hSw); go_simp; (try with_reducible rfl))
                                  try simp only [Act.put, List.setIfInBounds_toArray, List.set_cons_zero, List.set_cons_succ]
                                  refine take_on 19 152 (v := ?tv134) rfl rfl (by kernel_rfl) (by kernel_rfl) (by kernel_rfl) (fun _ _ _ h => h) (by rfl) ?ty134 (by assumption) ?tr134
                                  case ty134 => (intro w hSw; (try dsimp only at hSw); go_simp; (try with_reducible rfl))
                                  try simp only [Act.put, List.setIfInBounds_toArray, List.set_cons_zero, List.set_cons_succ]
                                  refine take_on 20 153 (v := ?tv135) rfl rfl (by kernel_rfl) (by kernel_rfl) (by kernel_rfl) (fun _ _ _ h => h) (by rfl) ?ty135 (by assumption) ?tr135
                                  case ty135 => (intro w hSw; (try dsimp only at hSw); go_simp; (try with_reducible rfl))
                                  try simp only [Act.put, List.setIfInBounds_toArray, List.set_cons_zero, List.set_cons_succ]
                                  refine take_on 21 154 (v := ?tv136) rfl rfl (by kernel_rfl) (by kernel_rfl) (by kernel_rfl) (fun _ _ _ h => h) (by rfl) ?ty136 (by assumption) ?tr136
                                  case ty136 => (intro w hSw; (try dsimp only at hSw); go_simp; (try with_reducible rfl))
                                  try simp only [Act.put, List.setIfInBounds_toArray, List.set_cons_zero, List.set_cons_succ]
                                  refine take_on 22 155 (v := ?tv137) rfl rfl (by kernel_rfl) (by kernel_rfl) (by kernel_rfl) (fun _ _ _ h => h) (by rfl) ?ty137 (by assumption) ?tr137
                                  case ty137 => (intro w hSw; (try dsimp only at hSw); go_simp; (try with_reducible rfl))
                                  try simp only [Act.put, List.setIfInBounds_toArray, List.set_cons_zero, List.set_cons_succ]
                                  refine take_on 23 156 (v := ?tv138) rfl rfl (by kernel_rfl) (by kernel_rfl) (by kernel_rfl) (fun _ _ _ h => h) (by rfl) ?ty138 (by assumption) ?tr138
                                  case ty138 => (intro w hSw; (try dsimp only at hSw); go_simp; (try with_reducible rfl))
                                  try simp only [Act.put, List.setIfInBounds_toArray, List.set_cons_zero, List.set_cons_succ]
                                  refine take_on 24 157 (v := ?tv139) rfl rfl (by kernel_rfl) (by kernel_rfl) (by kernel_rfl) (fun _ _ _ h => h) (by rfl) ?ty139 (by assumption) ?tr139
                                  case ty139 => (intro w hSw; (try dsimp only at hSw); go_simp; (try with_reducible rfl))
                                  try simp only [Act.put, List.setIfInBounds_toArray, List.set_cons_zero, List.set_cons_succ]
                                  refine take_on 25 158 (v := ?tv140) rfl rfl (by kernel_rfl) (by kernel_rfl) (by kernel_rfl) (fun _ _ _ h => h) (by rfl) ?ty140 (by assumption) ?tr140
                                  case ty140 => (intro w hSw; (try dsimp only at hSw); go_simp; (try with_reducible rfl))
                                  try simp only [Act.put, List.setIfInBounds_toArray, List.set_cons_zero, List.set_cons_succ]
                                  refine take_on 26 159 (v := ?tv141) rfl rfl (by kernel_rfl) (by kernel_rfl) (by kernel_rfl) (fun _ _ _ h => h) (by rfl) ?ty141 (by assumption) ?tr141
                                  case ty141 => (intro w hSw; (try dsimp only at hSw); go_simp; (try with_reducible rfl))
                                  try simp only [Act.put, List.setIfInBounds_toArray, List.set_cons_zero, List.set_cons_succ]
                                  refine take_on 27 160 (v := ?tv142) rfl rfl (by kernel_rfl) (by kernel_rfl) (by kernel_rfl) (fun _ _ _ h => h) (by rfl) ?ty142 (by assumption) ?tr142
                                  case ty142 => (intro w hSw; (try dsimp only at hSw); go_simp; (try with_reducible rfl))
                                  try simp only [Act.put, List.setIfInBounds_toArray, List.set_cons_zero, List.set_cons_succ]
                                  refine take_on 28 161 (v := ?tv143) rfl rfl (by kernel_rfl) (by kernel_rfl) (by kernel_rfl) (fun _ _ _ h => h) (by rfl) ?ty143 (by assumption) ?tr143
                                  case ty143 => (intro w hSw; (try dsimp only at hSw); go_simp; (try with_reducible rfl))
                                  try simp only [Act.put, List.setIfInBounds_toArray, List.set_cons_zero, List.set_cons_succ]
                                  refine take_on 29 162 (v := ?tv144) rfl rfl (by kernel_rfl) (by kernel_rfl) (by kernel_rfl) (fun _ _ _ h => h) (by rfl) ?ty144 (by assumption) ?tr144
                                  case ty144 => (intro w hSw; (try dsimp only at hSw); go_simp; (try with_reducible rfl))
                                  try simp only [Act.put, List.setIfInBounds_toArray, List.set_cons_zero, List.set_cons_succ]
                                  refine take_off 30 163 rfl rfl (by kernel_rfl) (by kernel_rfl) (by kernel_rfl) (fun _ _ _ h => h) (by rfl) (by assumption) ?_
                                  try simp only [Act.put, List.setIfInBounds_toArray, List.set_cons_zero, List.set_cons_succ]
                                  refine take_off 31 164 rfl rfl (by kernel_rfl) (by kernel_rfl) (by kernel_rfl) (fun _ _ _ h => h) (by rfl) (by assumption) ?_
                                  try simp only [Act.put, List.setIfInBounds_toArray, List.set_cons_zero, List.set_cons_succ]
                                  refine take_off 32 165 rfl rfl (by kernel_rfl) (by kernel_rfl) (by kernel_rfl) (fun _ _ _ h => h) (by rfl) (by assumption) ?_
                                  try simp only [Act.put, List.setIfInBounds_toArray, List.set_cons_zero, List.set_cons_succ]
                                  refine take_off 33 166 rfl rfl (by kernel_rfl) (by kernel_rfl) (by kernel_rfl) (fun _ _ _ h => h) (by rfl) (by assumption) ?_
                                  try simp only [Act.put, List.setIfInBounds_toArray, List.set_cons_zero, List.set_cons_succ]
                                  refine take_off 34 167 rfl rfl (by kernel_rfl) (by kernel_rfl) (by kernel_rfl) (fun _ _ _ h => h) (by rfl) (by assumption) ?_
                                  try simp only [Act.put, List.setIfInBounds_toArray, List.set_cons_zero, List.set_cons_succ]
                                  refine take_off 35 168 rfl rfl (by kernel_rfl) (by kernel_rfl) (by kernel_rfl) (fun _ _ _ h => h) (by rfl) (by assumption) ?_
                                  try simp only [Act.put, List.setIfInBounds_toArray, List.set_cons_zero, List.set_cons_succ]
                                  refine take_off 36 169 rfl rfl (by kernel_rfl) (by kernel_rfl) (by kernel_rfl) (fun _ _ _ h => h) (by rfl) (by assumption) ?_
                                  try simp only [Act.put, List.setIfInBounds_toArray, List.set_cons_zero, List.set_cons_succ]
                                  refine take_on 37 170 (v := ?tv152) rfl rfl (by kernel_rfl) (by kernel_rfl) (by kernel_rfl) (fun _ _ _ h => h) (by rfl) ?ty152 (by assumption) ?tr152
                                  case ty152 => (intro w hSw; (try dsimp only at hSw); go_simp; (try with_reducible rfl))
                                  try simp only [Act.put, List.setIfInBounds_toArray, List.set_cons_zero, List.set_cons_succ]
                                  refine wpAnyH_done (by kernel_rfl) ?_ _
                                  go_wp2_with fail
                                  go_ret
                                  exact HNO.out _ ((Below.refl _ wz).drew) (fun q => by have := q.2.2.2.2.1; omega)

                              · by_cases e6 : bh = x.e.dir
                                · have f6 : (bh == x.e.dir) = true := by simp [e6]
                                  have E6 := Lib.hid e6
                                  clear e6
                                  refine wp_region_held_drew (S := fun w' => w'.cell? ⟨B, 1, none⟩ = some (.int .i64 x.e.node) ∧ w'.cell? ⟨B, 2, none⟩ = some (.bool x.e.dir) ∧ w'.cell? ⟨B, 3, none⟩ = some (.int .i64 x.e.cookie) ∧ w'.cell? ⟨X, 0, none⟩ = some (.slice xa R.L.length xc)) (by kernel_rfl) (HSZ.out _ (Below.refl _ wz).drew) (fun hHeld => ?_)
                                  refine take_on 0 133 (v := ?tv153) rfl rfl (by kernel_rfl) (by kernel_rfl) (by kernel_rfl) (fun _ _ _ h => h) (by rfl) ?ty153 (by assumption) ?tr153
                                  case ty153 => (intro w hSw; (try dsimp only at hSw); go_simp; (try with_reducible rfl))
                                  try simp only [Act.put, List.setIfInBounds_toArray, List.set_cons_zero, List.set_cons_succ]
                                  refine take_on 1 134 (v := ?tv154) rfl rfl (by kernel_rfl) (by kernel_rfl) (by kernel_rfl) (fun _ _ _ h => h) (by rfl) ?ty154 (by assumption) ?tr154
                                  case ty154 => (intro w hSw; (try dsimp only at hSw); go_simp; (try with_reducible rfl))
                                  try simp only [Act.put, List.setIfInBounds_toArray, List.set_cons_zero, List.set_cons_succ]
                                  refine take_on 2 135 (v := ?tv155) rfl rfl (by kernel_rfl) (by kernel_rfl) (by kernel_rfl) (fun _ _ _ h => h) (by rfl) ?ty155 (by assumption) ?tr155
                                  case ty155 => (intro w hSw; (try dsimp only at hSw); go_simp; (try with_reducible rfl))
                                  try simp only [Act.put, List.setIfInBounds_toArray, List.set_cons_zero, List.set_cons_succ]
                                  refine take_on 3 136 (v := ?tv156) rfl rfl (by kernel_rfl) (by kernel_rfl) (by kernel_rfl) (fun _ _ _ h => h) (by rfl) ?ty156 (by assumption) ?tr156
                                  case ty156 => (intro w hSw; (try dsimp only at hSw); go_simp; (try with_reducible rfl))
                                  try simp only [Act.put, List.setIfInBounds_toArray, List.set_cons_zero, List.set_cons_succ]
                                  refine take_on 4 137 (v := ?tv157) rfl rfl (by kernel_rfl) (by kernel_rfl) (by kernel_rfl) (fun _ _ _ h => h) (by rfl) ?ty157 (by assumption) ?tr157
                                  case ty157 => (intro w hSw; (try dsimp only at hSw); go_simp; (try with_reducible rfl))
                                  try simp only [Act.put, List.setIfInBounds_toArray, List.set_cons_zero, List.set_cons_succ]
                                  refine take_on 5 138 (v := ?tv158) rfl rfl (by kernel_rfl) (by kernel_rfl) (by kernel_rfl) (fun _ _ _ h => h) (by rfl) ?ty158 (by assumption) ?tr158
                                  case ty158 => (intro w hSw; (try dsimp only at hSw); go_simp; (try with_reducible rfl))
                                  try simp only [Act.put, List.setIfInBounds_toArray, List.set_cons_zero, List.set_cons_succ]
                                  refine take_on 6 139 (v := ?tv159) rfl rfl (by kernel_rfl) (by kernel_rfl) (by kernel_rfl) (fun _ _ _ h => h) (by rfl) ?ty159 (by assumption) ?tr159
                                  case ty159 => (intro w hSw; (try dsimp only at hSw); go_simp; (try with_reducible rfl))
                                  try simp only [Act.put, List.setIfInBounds_toArray, List.set_cons_zero, List.set_cons_succ]
                                  refine take_on 7 140 (v := ?tv160) rfl rfl (by kernel_rfl) (by kernel_rfl) (by kernel_rfl) (fun _ _ _ h => h) (by rfl) ?ty160 (by assumption) ?tr160
                                  case ty160 => (intro w hSw; (try dsimp only at hSw); go_simp; (try with_reducible rfl))
                                  try simp only [Act.put, List.setIfInBounds_toArray, List.set_cons_zero, List.set_cons_succ]
                                  refine take_on 8 141 (v := ?tv161) rfl rfl (by kernel_rfl) (by kernel_rfl) (by kernel_rfl) (fun _ _ _ h => h) (by rfl) ?ty161 (by assumption) ?tr161
                                  case ty161 => (intro w hSw; (try dsimp only at hSw); go_simp; (try with_reducible rfl))
                                  try simp only [Act.put, List.setIfInBounds_toArray, List.set_cons_zero, List.set_cons_succ]
                                  refine take_on 9 142 (v := ?tv162) rfl rfl (by kernel_rfl) (by kernel_rfl) (by kernel_rfl) (fun _ _ _ h => h) (by rfl) ?ty162 (by assumption) ?tr162
                                  case ty162 => (intro w hSw; (try dsimp only at hSw); go_simp; (try with_reducible rfl))
                                  try simp only [Act.put, List.setIfInBounds_toArray, List.set_cons_zero, List.set_cons_succ]
                                  refine take_on 10 143 (v := ?tv163) rfl rfl (by kernel_rfl) (by kernel_rfl) (by kernel_rfl) (fun _ _ _ h => h) (by rfl) ?ty163 (by assumption) ?tr163
                                  case ty163 => (intro w hSw; (try dsimp only at hSw); go_simp; (try with_reducible rfl))
                                  try simp only [Act.put, List.setIfInBounds_toArray, List.set_cons_zero, List.set_cons_succ]
                                  refine take_on 11 144 (v := ?tv164) rfl rfl (by kernel_rfl) (by kernel_rfl) (by kernel_rfl) (fun _ _ _ h => h) (by rfl) ?ty164 (by assumption) ?tr164
                                  case ty164 => (intro w hSw; (try dsimp only at hSw); go_simp; (try with_reducible rfl))
                                  try simp only [Act.put, List.setIfInBounds_toArray, List.set_cons_zero, List.set_cons_succ]
                                  refine take_on 12 145 (v := ?tv165) rfl rfl (by kernel_rfl) (by kernel_rfl) (by kernel_rfl) (fun _ _ _ h => h) (by rfl) ?ty165 (by assumption) ?tr165
                                  case ty165 => (intro w hSw; (try dsimp only at hSw); go_simp; (try with_reducible rfl))
                                  try simp only [Act.put, List.setIfInBounds_toArray, List.set_cons_zero, List.set_cons_succ]
                                  refine take_on 13 146 (v := ?tv166) rfl rfl (by kernel_rfl) (by kernel_rfl) (by kernel_rfl) (fun _ _ _ h => h) (by rfl) ?ty166 (by assumption) ?tr166
                                  case ty166 => (intro w hSw; (try dsimp only at hSw); go_simp; (try with_reducible rfl))
                                  try simp only [Act.put, List.setIfInBounds_toArray, List.set_cons_zero, List.set_cons_succ]
                                  refine take_on 14 147 (v := ?tv167) rfl rfl (by kernel_rfl) (by kernel_rfl) (by kernel_rfl) (fun _ _ _ h => h) (by rfl) ?ty167 (by assumption) ?tr167
                                  case ty167 => (intro w hSw; (try dsimp only at hSw); go_simp; (try with_reducible rfl))
                                  try simp only [Act.put, List.setIfInBounds_toArray, List.set_cons_zero, List.set_cons_succ]
                                  refine take_on 15 148 (v := ?tv168) rfl rfl (by kernel_rfl) (by kernel_rfl) (by kernel_rfl) (fun _ _ _ h => h) (by rfl) ?ty168 (by assumption) ?tr168
                                  case ty168 => (intro w hSw; (try dsimp only at hSw); go_simp; (try with_reducible rfl))
                                  try simp only [Act.put, List.setIfInBounds_toArray, List.set_cons_zero, List.set_cons_succ]
                                  refine take_on 16 149 (v := ?tv169) rfl rfl (by kernel_rfl) (by kernel_rfl) (by kernel_rfl) (fun _ _ _ h => h) (by rfl) ?ty169 (by assumption) ?tr169
                                  case ty169 => (intro w hSw; (try dsimp only at hSw); go_simp; (try with_reducible rfl))
                                  try simp only [Act.put, List.setIfInBounds_toArray, List.set_cons_zero, List.set_cons_succ]
                                  refine take_on 17 150 (v := ?tv170) rfl rfl (by kernel_rfl) (by kernel_rfl) (by kernel_rfl) (fun _ _ _ h => h) (by rfl) ?ty170 (by assumption) ?tr170
                                  case ty170 => (intro w hSw; (try dsimp only at hSw); go_simp; (try with_reducible rfl))
                                  try simp only [Act.put, List.setIfInBounds_toArray, List.set_cons_zero, List.set_cons_succ]
                                  refine take_on 18 151 (v := ?tv171) rfl rfl (by kernel_rfl) (by kernel_rfl) (by kernel_rfl) (fun _ _ _ h => h) (by rfl) ?ty171 (by assumption) ?tr171
                                  case ty171 => (intro w hSw; (try dsimp only at hSw); go_simp; (try with_reducible rfl))
                                  try simp only [Act.put, List.setIfInBounds_toArray, List.set_cons_zero, List.set_cons_succ]
                                  refine take_on 19 152 (v := ?tv172) rfl rfl (by kernel_rfl) (by kernel_rfl) (by kernel_rfl) (fun _ _ _ h => h) (by rfl) ?ty172 (by assumption) ?tr172
                                  case ty172 => (intro w hSw; (try dsimp only at hSw); go_simp; (try with_reducible rfl))
                                  try simp only [Act.put, List.setIfInBounds_toArray, List.set_cons_zero, List.set_cons_succ]
                                  refine take_on 20 153 (v := ?tv173) rfl rfl (by kernel_rfl) (by kernel_rfl) (by kernel_rfl) (fun _ _ _ h => h) (by rfl) ?ty173 (by assumption) ?tr173
                                  case ty173 => (intro w hSw; (try dsimp only at hSw); go_simp; (try with_reducible rfl))
                                  try simp only [Act.put, List.setIfInBounds_toArray, List.set_cons_zero, List.set_cons_succ]
                                  refine take_on 21 154 (v := ?tv174) rfl rfl (by kernel_rfl) (by kernel_rfl) (by kernel_rfl) (fun _ _ _ h => h) (by rfl) ?ty174 (by assumption) ?tr174
                                  case ty174 => (intro w hSw; (try dsimp only at hSw); go_simp; (try with_reducible rfl))
                                  try simp only [Act.put, List.setIfInBounds_toArray, List.set_cons_zero, List.set_cons_succ]
                                  refine take_on 22 155 (v := ?tv175) rfl rfl (by kernel_rfl) (by kernel_rfl) (by kernel_rfl) (fun _ _ _ h => h) (by rfl) ?ty175 (by assumption) ?tr175
                                  case ty175 => (intro w hSw; (try dsimp only at hSw); go_simp; (try with_reducible rfl))
                                  try simp only [Act.put, List.setIfInBounds_toArray, List.set_cons_zero, List.set_cons_succ]
                                  refine take_on 23 156 (v := ?tv176) rfl rfl (by kernel_rfl) (by kernel_rfl) (by kernel_rfl) (fun _ _ _ h => h) (by rfl) ?ty176 (by assumption) ?tr176
                                  case ty176 => (intro w hSw; (try dsimp only at hSw); go_simp; (try with_reducible rfl))
                                  try simp only [Act.put, List.setIfInBounds_toArray, List.set_cons_zero, List.set_cons_succ]
                                  refine take_on 24 157 (v := ?tv177) rfl rfl (by kernel_rfl) (by kernel_rfl) (by kernel_rfl) (fun _ _ _ h => h) (by rfl) ?ty177 (by assumption) ?tr177
                                  case ty177 => (intro w hSw; (try dsimp only at hSw); go_simp; (try with_reducible rfl))
                                  try simp only [Act.put, List.setIfInBounds_toArray, List.set_cons_zero, List.set_cons_succ]
                                  refine take_on 25 158 (v := ?tv178) rfl rfl (by kernel_rfl) (by kernel_rfl) (by kernel_rfl) (fun _ _ _ h => h) (by rfl) ?ty178 (by assumption) ?tr178
                                  case ty178 => (intro w hSw; (try dsimp only at hSw); go_simp; (try with_reducible rfl))
                                  try simp only [Act.put, List.setIfInBounds_toArray, List.set_cons_zero, List.set_cons_succ]
                                  refine take_on 26 159 (v := ?tv179) rfl rfl (by kernel_rfl) (by kernel_rfl) (by kernel_rfl) (fun _ _ _ h => h) (by rfl) ?ty179 (by assumption) ?tr179
                                  case ty179 => (intro w hSw; (try dsimp only at hSw); go_simp; (try with_reducible rfl))
                                  try simp only [Act.put, List.setIfInBounds_toArray, List.set_cons_zero, List.set_cons_succ]
                                  refine take_on 27 160 (v := ?tv180) rfl rfl (by kernel_rfl) (by kernel_rfl) (by kernel_rfl) (fun _ _ _ h => h) (by rfl) ?ty180 (by assumption) ?tr180
                                  case ty180 => (intro w hSw; (try dsimp only at hSw); go_simp; (try with_reducible rfl))
                                  try simp only [Act.put, List.setIfInBounds_toArray, List.set_cons_zero, List.set_cons_succ]
                                  refine take_on 28 161 (v := ?tv181) rfl rfl (by kernel_rfl) (by kernel_rfl) (by kernel_rfl) (fun _ _ _ h => h) (by rfl) ?ty181 (by assumption) ?tr181
                                  case ty181 => (intro w hSw; (try dsimp only at hSw); go_simp; (try with_reducible rfl))
                                  try simp only [Act.put, List.setIfInBounds_toArray, List.set_cons_zero, List.set_cons_succ]
                                  refine take_on 29 162 (v := ?tv182) rfl rfl (by kernel_rfl) (by kernel_rfl) (by kernel_rfl) (fun _ _ _ h => h) (by rfl) ?ty182 (by assumption) ?tr182
                                  case ty182 => (intro w hSw; (try dsimp only at hSw); go_simp; (try with_reducible rfl))
                                  try simp only [Act.put, List.setIfInBounds_toArray, List.set_cons_zero, List.set_cons_succ]
                                  refine take_on 30 163 (v := ?tv183) rfl rfl (by kernel_rfl) (by kernel_rfl) (by kernel_rfl) (fun _ _ _ h => h) (by rfl) ?ty183 (by assumption) ?tr183
                                  case ty183 => (intro w hSw; (try dsimp only at hSw); go_simp; (try with_reducible rfl))
                                  try simp only [Act.put, List.setIfInBounds_toArray, List.set_cons_zero, List.set_cons_succ]
                                  refine take_on 31 164 (v := ?tv184) rfl rfl (by kernel_rfl) (by kernel_rfl) (by kernel_rfl) (fun _ _ _ h => h) (by rfl) ?ty184 (by assumption) ?tr184
                                  case ty184 => (intro w hSw; (try dsimp only at hSw); go_simp; (try with_reducible rfl))
                                  try simp only [Act.put, List.setIfInBounds_toArray, List.set_cons_zero, List.set_cons_succ]
                                  refine take_on 32 165 (v := ?tv185) rfl rfl (by kernel_rfl) (by kernel_rfl) (by kernel_rfl) (fun _ _ _ h => h) (by rfl) ?ty185 (by assumption) ?tr185
                                  case ty185 => (intro w hSw; (try dsimp only at hSw); go_simp; (try with_reducible rfl))
                                  try simp only [Act.put, List.setIfInBounds_toArray, List.set_cons_zero, List.set_cons_succ]
                                  refine take_on 34 167 (v := ?tv186) rfl rfl (by kernel_rfl) (by kernel_rfl) (by kernel_rfl) (fun _ _ _ h => h) (by rfl) ?ty186 (by assumption) ?tr186
                                  case ty186 => (intro w hSw; (try dsimp only at hSw); go_simp; (try with_reducible rfl))
                                  try simp only [Act.put, List.setIfInBounds_toArray, List.set_cons_zero, List.set_cons_succ]
                                  refine take_on 35 168 (v := ?tv187) rfl rfl (by kernel_rfl) (by kernel_rfl) (by kernel_rfl) (fun _ _ _ h => h) (by rfl) ?ty187 (by assumption) ?tr187
                                  case ty187 => (intro w hSw; (try dsimp only at hSw); go_simp; (try with_reducible rfl))
                                  try simp only [Act.put, List.setIfInBounds_toArray, List.set_cons_zero, List.set_cons_succ]
                                  refine wpAnyH_ready (rs := [33]) (by kernel_rfl) (by simp) ?_
                                  refine AllReadyH.cons rfl (fun K hK => ?_) AllReadyH.nil
                                  go_simp
                                  refine (HHX.out wz.drew (HBZR.out.drew)).mono ?_
                                  rintro e w8 ⟨rfl, hb8⟩
                                  have HB8 := Lib.hid ((Below.refl _ wz).drew.trans hb8)
                                  clear hb8
                                  simp only []
                                  refine hK.out _ _ (HSZ.out _ HB8.out) (fun hHeld => ?_)
                                  clear hK K
                                  try simp only [Act.put, List.setIfInBounds_toArray, List.set_cons_zero, List.set_cons_succ]
                                  refine take_on 36 169 (v := ?tv188) rfl rfl (by kernel_rfl) (by kernel_rfl) (by kernel_rfl) (fun _ _ _ h => h) (by rfl) ?ty188 (by assumption) ?tr188
                                  case ty188 => (intro w hSw; (try dsimp only at hSw); go_simp; (try with_reducible rfl))
                                  try simp only [Act.put, List.setIfInBounds_toArray, List.set_cons_zero, List.set_cons_succ]
                                  refine take_on 37 170 (v := ?tv189) rfl rfl (by kernel_rfl) (by kernel_rfl) (by kernel_rfl) (fun _ _ _ h => h) (by rfl) ?ty189 (by assumption) ?tr189
                                  case ty189 => (intro w hSw; (try dsimp only at hSw); go_simp; (try with_reducible rfl))
                                  try simp only [Act.put, List.setIfInBounds_toArray, List.set_cons_zero, List.set_cons_succ]
                                  refine wpAnyH_done (by kernel_rfl) ?_ _
                                  go_wp2_with fail
                                  have HOKX := Lib.hid (show ItmOk cookie (mkeys D) x from ⟨by rw [← HRE.out]; exact E0.out, by omega, by omega, by omega, by omega, by rw [← E6.out, ← HBH.out]; congr 1; exact propext (HMEM.out _).symm⟩)
                                  have HBZ8 := Lib.hid (show Below wz.heap.size wz w8 from HB8.out)
                                  have HNO2 := Lib.hid (show ∀ W, Below wz.heap.size wz W → (∃ y ∈ all.take i, ¬ Apart y x) → FormedPost w cookie D ks (.returned (.bool false)) W from fun W hb hn =>
                                    ⟨false, rfl, ⟨fun q => (by cases q), fun q => by
                                      obtain ⟨y, hy, hn⟩ := hn
                                      have hp := q.1.d
                                      rw [HALL.out, ← List.take_append_drop i all, List.pairwise_append] at hp
                                      refine absurd (hp.2.2 y hy x ?_) hn
                                      have := HX.out
                                      rw [List.mem_iff_getElem?]
                                      exact ⟨0, by rw [List.getElem?_drop]; exact this⟩⟩, HB.out.trans ((HBZR.out.trans (hb.mono HBZR.out.size)).mono HB.out.size)⟩)
                                  clear HB8 HNO HSZ hHeld HHX HRL HRE HBH E6 f6 hl1 f0
                                  go_loopw [23] (fun kv wy => ∃ k : Nat, kv = .int .i64 k ∧ k ≤ i ∧ (∀ y ∈ all.take k, Apart y x) ∧ Below wz.heap.size wz wy) (fun kv _ => i - (intOf kv).toNat)
                                  case atStart => exact ⟨0, rfl, Nat.zero_le _, fun y hy => by simp at hy, HBZ8.out⟩
                                  case round =>
                                    clear HBZ8
                                    rename World => wy
                                    obtain ⟨k, rfl, hki, hay, hby⟩ := hrel
                                    have HAY := Lib.hid hay
                                    have HBY := Lib.hid hby
                                    clear hay hby
                                    by_cases hki2 : k < i
                                    · have k1 : (k : Int) < i := by omega
                                      have kl3 : k < all.length := by omega
                                      obtain ⟨y, hy⟩ : ∃ y, all[k]? = some y := ⟨_, List.getElem?_eq_getElem (by omega)⟩
                                      have hbr : Below wr.heap.size wr wy := HBZR.out.trans (HBY.out.mono HBZR.out.size)
                                      obtain ⟨_, _, e9, -, c0, c1, c2, -, c4, -⟩ := itm_cells (HAR.out.below hbr) k y hy
                                      cases e9
                                      obtain ⟨_, _, e9, -, x0, -⟩ := itm_cells (HAR.out.below hbr) i x HX.out
                                      cases e9
                                      have hkb := (HBY.out.block _ (m_lt ((HBZ.out.block _ (m_lt HKW.out)).trans HKW.out))).trans ((HBZ.out.block _ (m_lt HKW.out)).trans HKW.out)
                                      have HS3 := Lib.hid (show (fun w' : World => w'.cell? ⟨ga, oa + k * 6, none⟩ = some (.int .i64 y.d) ∧ w'.cell? ⟨ga, oa + k * 6 + 1, none⟩ = some (.string y.e.name) ∧ w'.cell? ⟨ga, oa + k * 6 + 2, none⟩ = some (.int .i64 y.e.node) ∧ w'.cell? ⟨ga, oa + k * 6 + 4, none⟩ = some (.int .i64 y.e.cookie) ∧ w'.cell? ⟨ga, oa + i * 6, none⟩ = some (.int .i64 x.d) ∧ w'.cell? ⟨B, 0, none⟩ = some (.string x.e.name) ∧ w'.cell? ⟨B, 1, none⟩ = some (.int .i64 x.e.node) ∧ w'.cell? ⟨B, 3, none⟩ = some (.int .i64 x.e.cookie)) wy.drew from ⟨c0, c1, c2, c4, x0, (m_cells hkb).1 0, (m_cells hkb).1 1, (m_cells hkb).1 3⟩)
                                      have HTY := Lib.hid (show all.take (k + 1) = all.take k ++ [y] from by rw [List.take_add_one, hy]; rfl)
                                      have HMY := Lib.hid (show y ∈ all.take i from by
                                        rw [List.mem_iff_getElem?]; exact ⟨k, by rw [List.getElem?_take, if_pos hki2]; exact hy⟩)
                                      have HNO3 := Lib.hid (fun q : ¬ Apart y x => (⟨y, HMY.out, q⟩ : ∃ y ∈ all.take i, ¬ Apart y x))
                                      clear hy hbr c0 c1 c2 c4 x0 hkb
                                      go_wp2_with fail
                                      by_cases e2 : y.e.node = x.e.node
                                      · have f2 : (y.e.node == x.e.node) = true := by simp [e2]
                                        have E2 := Lib.hid e2
                                        clear e2
                                        as_aux_lemma =>
                                          refine wp_region_held_drew (S := fun w' => w'.cell? ⟨ga, oa + k * 6, none⟩ = some (.int .i64 y.d) ∧ w'.cell? ⟨ga, oa + k * 6 + 1, none⟩ = some (.string y.e.name) ∧ w'.cell? ⟨ga, oa + k * 6 + 2, none⟩ = some (.int .i64 y.e.node) ∧ w'.cell? ⟨ga, oa + k * 6 + 4, none⟩ = some (.int .i64 y.e.cookie) ∧ w'.cell? ⟨ga, oa + i * 6, none⟩ = some (.int .i64 x.d) ∧ w'.cell? ⟨B, 0, none⟩ = some (.string x.e.name) ∧ w'.cell? ⟨B, 1, none⟩ = some (.int .i64 x.e.node) ∧ w'.cell? ⟨B, 3, none⟩ = some (.int .i64 x.e.cookie)) (by kernel_rfl) HS3.out (fun hHeld => ?_)
                                          refine take_on 0 176 (v := ?tv190) rfl rfl (by kernel_rfl) (by kernel_rfl) (by kernel_rfl) (fun _ _ _ h => h) (by rfl) ?ty190 (by assumption) ?tr190
                                          case ty190 => (intro w hSw; (try dsimp only at hSw); go_simp; (try with_reducible rfl))
                                          try simp only [Act.put, List.setIfInBounds_toArray, List.set_cons_zero, List.set_cons_succ]
                                          refine take_on 1 177 (v := ?tv191) rfl rfl (by kernel_rfl) (by kernel_rfl) (by kernel_rfl) (fun _ _ _ h => h) (by rfl) ?ty191 (by assumption) ?tr191
                                          case ty191 => (intro w hSw; (try dsimp only at hSw); go_simp; (try with_reducible rfl))
                                          try simp only [Act.put, List.setIfInBounds_toArray, List.set_cons_zero, List.set_cons_succ]
                                          refine take_on 2 178 (v := ?tv192) rfl rfl (by kernel_rfl) (by kernel_rfl) (by kernel_rfl) (fun _ _ _ h => h) (by rfl) ?ty192 (by assumption) ?tr192
                                          case ty192 => (intro w hSw; (try dsimp only at hSw); go_simp; (try with_reducible rfl))
                                          try simp only [Act.put, List.setIfInBounds_toArray, List.set_cons_zero, List.set_cons_succ]
                                          refine take_on 3 179 (v := ?tv193) rfl rfl (by kernel_rfl) (by kernel_rfl) (by kernel_rfl) (fun _ _ _ h => h) (by rfl) ?ty193 (by assumption) ?tr193
                                          case ty193 => (intro w hSw; (try dsimp only at hSw); go_simp; (try with_reducible rfl))
                                          try simp only [Act.put, List.setIfInBounds_toArray, List.set_cons_zero, List.set_cons_succ]
                                          refine take_on 4 180 (v := ?tv194) rfl rfl (by kernel_rfl) (by kernel_rfl) (by kernel_rfl) (fun _ _ _ h => h) (by rfl) ?ty194 (by assumption) ?tr194
                                          case ty194 => (intro w hSw; (try dsimp only at hSw); go_simp; (try with_reducible rfl))
                                          try simp only [Act.put, List.setIfInBounds_toArray, List.set_cons_zero, List.set_cons_succ]
                                          refine take_on 5 181 (v := ?tv195) rfl rfl (by kernel_rfl) (by kernel_rfl) (by kernel_rfl) (fun _ _ _ h => h) (by rfl) ?ty195 (by assumption) ?tr195
                                          case ty195 => (intro w hSw; (try dsimp only at hSw); go_simp; (try with_reducible rfl))
                                          try simp only [Act.put, List.setIfInBounds_toArray, List.set_cons_zero, List.set_cons_succ]
                                          refine take_on 6 182 (v := ?tv196) rfl rfl (by kernel_rfl) (by kernel_rfl) (by kernel_rfl) (fun _ _ _ h => h) (by rfl) ?ty196 (by assumption) ?tr196
                                          case ty196 => (intro w hSw; (try dsimp only at hSw); go_simp; (try with_reducible rfl))
                                          try simp only [Act.put, List.setIfInBounds_toArray, List.set_cons_zero, List.set_cons_succ]
                                          refine take_on 7 183 (v := ?tv197) rfl rfl (by kernel_rfl) (by kernel_rfl) (by kernel_rfl) (fun _ _ _ h => h) (by rfl) ?ty197 (by assumption) ?tr197
                                          case ty197 => (intro w hSw; (try dsimp only at hSw); go_simp; (try with_reducible rfl))
                                          try simp only [Act.put, List.setIfInBounds_toArray, List.set_cons_zero, List.set_cons_succ]
                                          refine take_on 8 184 (v := ?tv198) rfl rfl (by kernel_rfl) (by kernel_rfl) (by kernel_rfl) (fun _ _ _ h => h) (by rfl) ?ty198 (by assumption) ?tr198
                                          case ty198 => (intro w hSw; (try dsimp only at hSw); go_simp; (try with_reducible rfl))
                                          try simp only [Act.put, List.setIfInBounds_toArray, List.set_cons_zero, List.set_cons_succ]
                                          refine take_on 9 185 (v := ?tv199) rfl rfl (by kernel_rfl) (by kernel_rfl) (by kernel_rfl) (fun _ _ _ h => h) (by rfl) ?ty199 (by assumption) ?tr199
                                          case ty199 => (intro w hSw; (try dsimp only at hSw); go_simp; (try with_reducible rfl))
                                          try simp only [Act.put, List.setIfInBounds_toArray, List.set_cons_zero, List.set_cons_succ]
                                          refine take_off 10 186 rfl rfl (by kernel_rfl) (by kernel_rfl) (by kernel_rfl) (fun _ _ _ h => h) (by rfl) (by assumption) ?_
                                          try simp only [Act.put, List.setIfInBounds_toArray, List.set_cons_zero, List.set_cons_succ]
                                          refine take_off 11 187 rfl rfl (by kernel_rfl) (by kernel_rfl) (by kernel_rfl) (fun _ _ _ h => h) (by rfl) (by assumption) ?_
                                          try simp only [Act.put, List.setIfInBounds_toArray, List.set_cons_zero, List.set_cons_succ]
                                          refine take_off 12 188 rfl rfl (by kernel_rfl) (by kernel_rfl) (by kernel_rfl) (fun _ _ _ h => h) (by rfl) (by assumption) ?_
                                          try simp only [Act.put, List.setIfInBounds_toArray, List.set_cons_zero, List.set_cons_succ]
                                          refine take_off 13 189 rfl rfl (by kernel_rfl) (by kernel_rfl) (by kernel_rfl) (fun _ _ _ h => h) (by rfl) (by assumption) ?_
                                          try simp only [Act.put, List.setIfInBounds_toArray, List.set_cons_zero, List.set_cons_succ]
                                          refine take_off 14 190 rfl rfl (by kernel_rfl) (by kernel_rfl) (by kernel_rfl) (fun _ _ _ h => h) (by rfl) (by assumption) ?_
                                          try simp only [Act.put, List.setIfInBounds_toArray, List.set_cons_zero, List.set_cons_succ]
                                          refine take_off 15 191 rfl rfl (by kernel_rfl) (by kernel_rfl) (by kernel_rfl) (fun _ _ _ h => h) (by rfl) (by assumption) ?_
                                          try simp only [Act.put, List.setIfInBounds_toArray, List.set_cons_zero, List.set_cons_succ]
                                          refine take_off 16 192 rfl rfl (by kernel_rfl) (by kernel_rfl) (by kernel_rfl) (fun _ _ _ h => h) (by rfl) (by assumption) ?_
                                          try simp only [Act.put, List.setIfInBounds_toArray, List.set_cons_zero, List.set_cons_succ]
                                          refine take_off 17 193 rfl rfl (by kernel_rfl) (by kernel_rfl) (by kernel_rfl) (fun _ _ _ h => h) (by rfl) (by assumption) ?_
                                          try simp only [Act.put, List.setIfInBounds_toArray, List.set_cons_zero, List.set_cons_succ]
                                          refine take_off 18 194 rfl rfl (by kernel_rfl) (by kernel_rfl) (by kernel_rfl) (fun _ _ _ h => h) (by rfl) (by assumption) ?_
                                          try simp only [Act.put, List.setIfInBounds_toArray, List.set_cons_zero, List.set_cons_succ]
                                          refine take_on 19 195 (v := ?tv209) rfl rfl (by kernel_rfl) (by kernel_rfl) (by kernel_rfl) (fun _ _ _ h => h) (by rfl) ?ty209 (by assumption) ?tr209
                                          case ty209 => (intro w hSw; (try dsimp only at hSw); go_simp; (try with_reducible rfl))
                                          try simp only [Act.put, List.setIfInBounds_toArray, List.set_cons_zero, List.set_cons_succ]
                                          refine take_on 20 196 (v := ?tv210) rfl rfl (by kernel_rfl) (by kernel_rfl) (by kernel_rfl) (fun _ _ _ h => h) (by rfl) ?ty210 (by assumption) ?tr210
                                          case ty210 => (intro w hSw; (try dsimp only at hSw); go_simp; (try with_reducible rfl))
                                          try simp only [Act.put, List.setIfInBounds_toArray, List.set_cons_zero, List.set_cons_succ]
                                          refine take_off 21 197 rfl rfl (by kernel_rfl) (by kernel_rfl) (by kernel_rfl) (fun _ _ _ h => h) (by rfl) (by assumption) ?_
                                          try simp only [Act.put, List.setIfInBounds_toArray, List.set_cons_zero, List.set_cons_succ]
                                          refine take_off 22 198 rfl rfl (by kernel_rfl) (by kernel_rfl) (by kernel_rfl) (fun _ _ _ h => h) (by rfl) (by assumption) ?_
                                          try simp only [Act.put, List.setIfInBounds_toArray, List.set_cons_zero, List.set_cons_succ]
                                          refine take_off 23 199 rfl rfl (by kernel_rfl) (by kernel_rfl) (by kernel_rfl) (fun _ _ _ h => h) (by rfl) (by assumption) ?_
                                          try simp only [Act.put, List.setIfInBounds_toArray, List.set_cons_zero, List.set_cons_succ]
                                          refine take_off 24 200 rfl rfl (by kernel_rfl) (by kernel_rfl) (by kernel_rfl) (fun _ _ _ h => h) (by rfl) (by assumption) ?_
                                          try simp only [Act.put, List.setIfInBounds_toArray, List.set_cons_zero, List.set_cons_succ]
                                          refine take_off 25 201 rfl rfl (by kernel_rfl) (by kernel_rfl) (by kernel_rfl) (fun _ _ _ h => h) (by rfl) (by assumption) ?_
                                          try simp only [Act.put, List.setIfInBounds_toArray, List.set_cons_zero, List.set_cons_succ]
                                          refine take_off 26 202 rfl rfl (by kernel_rfl) (by kernel_rfl) (by kernel_rfl) (fun _ _ _ h => h) (by rfl) (by assumption) ?_
                                          try simp only [Act.put, List.setIfInBounds_toArray, List.set_cons_zero, List.set_cons_succ]
                                          refine take_off 27 203 rfl rfl (by kernel_rfl) (by kernel_rfl) (by kernel_rfl) (fun _ _ _ h => h) (by rfl) (by assumption) ?_
                                          try simp only [Act.put, List.setIfInBounds_toArray, List.set_cons_zero, List.set_cons_succ]
                                          refine take_off 28 204 rfl rfl (by kernel_rfl) (by kernel_rfl) (by kernel_rfl) (fun _ _ _ h => h) (by rfl) (by assumption) ?_
                                          try simp only [Act.put, List.setIfInBounds_toArray, List.set_cons_zero, List.set_cons_succ]
                                          refine take_off 29 205 rfl rfl (by kernel_rfl) (by kernel_rfl) (by kernel_rfl) (fun _ _ _ h => h) (by rfl) (by assumption) ?_
                                          try simp only [Act.put, List.setIfInBounds_toArray, List.set_cons_zero, List.set_cons_succ]
                                          refine take_off 30 206 rfl rfl (by kernel_rfl) (by kernel_rfl) (by kernel_rfl) (fun _ _ _ h => h) (by rfl) (by assumption) ?_
                                          try simp only [Act.put, List.setIfInBounds_toArray, List.set_cons_zero, List.set_cons_succ]
                                          refine take_off 31 207 rfl rfl (by kernel_rfl) (by kernel_rfl) (by kernel_rfl) (fun _ _ _ h => h) (by rfl) (by assumption) ?_
                                          try simp only [Act.put, List.setIfInBounds_toArray, List.set_cons_zero, List.set_cons_succ]
                                          refine take_off 32 208 rfl rfl (by kernel_rfl) (by kernel_rfl) (by kernel_rfl) (fun _ _ _ h => h) (by rfl) (by assumption) ?_
                                          try simp only [Act.put, List.setIfInBounds_toArray, List.set_cons_zero, List.set_cons_succ]
                                          refine take_off 33 209 rfl rfl (by kernel_rfl) (by kernel_rfl) (by kernel_rfl) (fun _ _ _ h => h) (by rfl) (by assumption) ?_
                                          try simp only [Act.put, List.setIfInBounds_toArray, List.set_cons_zero, List.set_cons_succ]
                                          refine take_off 34 210 rfl rfl (by kernel_rfl) (by kernel_rfl) (by kernel_rfl) (fun _ _ _ h => h) (by rfl) (by assumption) ?_
                                          try simp only [Act.put, List.setIfInBounds_toArray, List.set_cons_zero, List.set_cons_succ]
                                          refine take_off 35 211 rfl rfl (by kernel_rfl) (by kernel_rfl) (by kernel_rfl) (fun _ _ _ h => h) (by rfl) (by assumption) ?_
                                          try simp only [Act.put, List.setIfInBounds_toArray, List.set_cons_zero, List.set_cons_succ]
                                          refine take_off 36 212 rfl rfl (by kernel_rfl) (by kernel_rfl) (by kernel_rfl) (fun _ _ _ h => h) (by rfl) (by assumption) ?_
                                          try simp only [Act.put, List.setIfInBounds_toArray, List.set_cons_zero, List.set_cons_succ]
                                          refine take_off 37 213 rfl rfl (by kernel_rfl) (by kernel_rfl) (by kernel_rfl) (fun _ _ _ h => h) (by rfl) (by assumption) ?_
                                          try simp only [Act.put, List.setIfInBounds_toArray, List.set_cons_zero, List.set_cons_succ]
                                          refine take_off 38 214 rfl rfl (by kernel_rfl) (by kernel_rfl) (by kernel_rfl) (fun _ _ _ h => h) (by rfl) (by assumption) ?_
                                          try simp only [Act.put, List.setIfInBounds_toArray, List.set_cons_zero, List.set_cons_succ]
                                          refine take_off 39 215 rfl rfl (by kernel_rfl) (by kernel_rfl) (by kernel_rfl) (fun _ _ _ h => h) (by rfl) (by assumption) ?_
                                          try simp only [Act.put, List.setIfInBounds_toArray, List.set_cons_zero, List.set_cons_succ]
                                          refine take_off 40 216 rfl rfl (by kernel_rfl) (by kernel_rfl) (by kernel_rfl) (fun _ _ _ h => h) (by rfl) (by assumption) ?_
                                          try simp only [Act.put, List.setIfInBounds_toArray, List.set_cons_zero, List.set_cons_succ]
                                          refine take_off 41 217 rfl rfl (by kernel_rfl) (by kernel_rfl) (by kernel_rfl) (fun _ _ _ h => h) (by rfl) (by assumption) ?_
                                          try simp only [Act.put, List.setIfInBounds_toArray, List.set_cons_zero, List.set_cons_succ]
                                          refine take_off 42 218 rfl rfl (by kernel_rfl) (by kernel_rfl) (by kernel_rfl) (fun _ _ _ h => h) (by rfl) (by assumption) ?_
                                          try simp only [Act.put, List.setIfInBounds_toArray, List.set_cons_zero, List.set_cons_succ]
                                          refine take_on 43 219 (v := ?tv233) rfl rfl (by kernel_rfl) (by kernel_rfl) (by kernel_rfl) (fun _ _ _ h => h) (by rfl) ?ty233 (by assumption) ?tr233
                                          case ty233 => (intro w hSw; (try dsimp only at hSw); go_simp; (try with_reducible rfl))
                                          try simp only [Act.put, List.setIfInBounds_toArray, List.set_cons_zero, List.set_cons_succ]
                                          refine wpAnyH_done (by kernel_rfl) ?_ _
                                          go_wp2_with fail
                                          go_ret
                                          exact HNO2.out _ HBY.out.drew (HNO3.out (fun q => q.1 E2.out))

                                      · have f2 : (y.e.node == x.e.node) = false := by simp [e2]
                                        have E2 := Lib.hid e2
                                        clear e2
                                        by_cases e3 : y.e.cookie = x.e.cookie
                                        · have f3 : (y.e.cookie == x.e.cookie) = true := by simp [e3]
                                          have E3 := Lib.hid e3
                                          clear e3
                                          as_aux_lemma =>
                                            refine wp_region_held_drew (S := fun w' => w'.cell? ⟨ga, oa + k * 6, none⟩ = some (.int .i64 y.d) ∧ w'.cell? ⟨ga, oa + k * 6 + 1, none⟩ = some (.string y.e.name) ∧ w'.cell? ⟨ga, oa + k * 6 + 2, none⟩ = some (.int .i64 y.e.node) ∧ w'.cell? ⟨ga, oa + k * 6 + 4, none⟩ = some (.int .i64 y.e.cookie) ∧ w'.cell? ⟨ga, oa + i * 6, none⟩ = some (.int .i64 x.d) ∧ w'.cell? ⟨B, 0, none⟩ = some (.string x.e.name) ∧ w'.cell? ⟨B, 1, none⟩ = some (.int .i64 x.e.node) ∧ w'.cell? ⟨B, 3, none⟩ = some (.int .i64 x.e.cookie)) (by kernel_rfl) HS3.out (fun hHeld => ?_)
                                            refine take_on 0 176 (v := ?tv234) rfl rfl (by kernel_rfl) (by kernel_rfl) (by kernel_rfl) (fun _ _ _ h => h) (by rfl) ?ty234 (by assumption) ?tr234
                                            case ty234 => (intro w hSw; (try dsimp only at hSw); go_simp; (try with_reducible rfl))
                                            try simp only [Act.put, List.setIfInBounds_toArray, List.set_cons_zero, List.set_cons_succ]
                                            refine take_on 1 177 (v := ?tv235) rfl rfl (by kernel_rfl) (by kernel_rfl) (by kernel_rfl) (fun _ _ _ h => h) (by rfl) ?ty235 (by assumption) ?tr235
                                            case ty235 => (intro w hSw; (try dsimp only at hSw); go_simp; (try with_reducible rfl))
                                            try simp only [Act.put, List.setIfInBounds_toArray, List.set_cons_zero, List.set_cons_succ]
                                            refine take_on 2 178 (v := ?tv236) rfl rfl (by kernel_rfl) (by kernel_rfl) (by kernel_rfl) (fun _ _ _ h => h) (by rfl) ?ty236 (by assumption) ?tr236
                                            case ty236 => (intro w hSw; (try dsimp only at hSw); go_simp; (try with_reducible rfl))
                                            try simp only [Act.put, List.setIfInBounds_toArray, List.set_cons_zero, List.set_cons_succ]
                                            refine take_on 3 179 (v := ?tv237) rfl rfl (by kernel_rfl) (by kernel_rfl) (by kernel_rfl) (fun _ _ _ h => h) (by rfl) ?ty237 (by assumption) ?tr237
                                            case ty237 => (intro w hSw; (try dsimp only at hSw); go_simp; (try with_reducible rfl))
                                            try simp only [Act.put, List.setIfInBounds_toArray, List.set_cons_zero, List.set_cons_succ]
                                            refine take_on 4 180 (v := ?tv238) rfl rfl (by kernel_rfl) (by kernel_rfl) (by kernel_rfl) (fun _ _ _ h => h) (by rfl) ?ty238 (by assumption) ?tr238
                                            case ty238 => (intro w hSw; (try dsimp only at hSw); go_simp; (try with_reducible rfl))
                                            try simp only [Act.put, List.setIfInBounds_toArray, List.set_cons_zero, List.set_cons_succ]
                                            refine take_on 5 181 (v := ?tv239) rfl rfl (by kernel_rfl) (by kernel_rfl) (by kernel_rfl) (fun _ _ _ h => h) (by rfl) ?ty239 (by assumption) ?tr239
                                            case ty239 => (intro w hSw; (try dsimp only at hSw); go_simp; (try with_reducible rfl))
                                            try simp only [Act.put, List.setIfInBounds_toArray, List.set_cons_zero, List.set_cons_succ]
                                            refine take_on 6 182 (v := ?tv240) rfl rfl (by kernel_rfl) (by kernel_rfl) (by kernel_rfl) (fun _ _ _ h => h) (by rfl) ?ty240 (by assumption) ?tr240
                                            case ty240 => (intro w hSw; (try dsimp only at hSw); go_simp; (try with_reducible rfl))
                                            try simp only [Act.put, List.setIfInBounds_toArray, List.set_cons_zero, List.set_cons_succ]
                                            refine take_on 7 183 (v := ?tv241) rfl rfl (by kernel_rfl) (by kernel_rfl) (by kernel_rfl) (fun _ _ _ h => h) (by rfl) ?ty241 (by assumption) ?tr241
                                            case ty241 => (intro w hSw; (try dsimp only at hSw); go_simp; (try with_reducible rfl))
                                            try simp only [Act.put, List.setIfInBounds_toArray, List.set_cons_zero, List.set_cons_succ]
                                            refine take_on 8 184 (v := ?tv242) rfl rfl (by kernel_rfl) (by kernel_rfl) (by kernel_rfl) (fun _ _ _ h => h) (by rfl) ?ty242 (by assumption) ?tr242
                                            case ty242 => (intro w hSw; (try dsimp only at hSw); go_simp; (try with_reducible rfl))
                                            try simp only [Act.put, List.setIfInBounds_toArray, List.set_cons_zero, List.set_cons_succ]
                                            refine take_on 9 185 (v := ?tv243) rfl rfl (by kernel_rfl) (by kernel_rfl) (by kernel_rfl) (fun _ _ _ h => h) (by rfl) ?ty243 (by assumption) ?tr243
                                            case ty243 => (intro w hSw; (try dsimp only at hSw); go_simp; (try with_reducible rfl))
                                            try simp only [Act.put, List.setIfInBounds_toArray, List.set_cons_zero, List.set_cons_succ]
                                            refine take_on 10 186 (v := ?tv244) rfl rfl (by kernel_rfl) (by kernel_rfl) (by kernel_rfl) (fun _ _ _ h => h) (by rfl) ?ty244 (by assumption) ?tr244
                                            case ty244 => (intro w hSw; (try dsimp only at hSw); go_simp; (try with_reducible rfl))
                                            try simp only [Act.put, List.setIfInBounds_toArray, List.set_cons_zero, List.set_cons_succ]
                                            refine take_on 11 187 (v := ?tv245) rfl rfl (by kernel_rfl) (by kernel_rfl) (by kernel_rfl) (fun _ _ _ h => h) (by rfl) ?ty245 (by assumption) ?tr245
                                            case ty245 => (intro w hSw; (try dsimp only at hSw); go_simp; (try with_reducible rfl))
                                            try simp only [Act.put, List.setIfInBounds_toArray, List.set_cons_zero, List.set_cons_succ]
                                            refine take_on 12 188 (v := ?tv246) rfl rfl (by kernel_rfl) (by kernel_rfl) (by kernel_rfl) (fun _ _ _ h => h) (by rfl) ?ty246 (by assumption) ?tr246
                                            case ty246 => (intro w hSw; (try dsimp only at hSw); go_simp; (try with_reducible rfl))
                                            try simp only [Act.put, List.setIfInBounds_toArray, List.set_cons_zero, List.set_cons_succ]
                                            refine take_on 13 189 (v := ?tv247) rfl rfl (by kernel_rfl) (by kernel_rfl) (by kernel_rfl) (fun _ _ _ h => h) (by rfl) ?ty247 (by assumption) ?tr247
                                            case ty247 => (intro w hSw; (try dsimp only at hSw); go_simp; (try with_reducible rfl))
                                            try simp only [Act.put, List.setIfInBounds_toArray, List.set_cons_zero, List.set_cons_succ]
                                            refine take_on 14 190 (v := ?tv248) rfl rfl (by kernel_rfl) (by kernel_rfl) (by kernel_rfl) (fun _ _ _ h => h) (by rfl) ?ty248 (by assumption) ?tr248
                                            case ty248 => (intro w hSw; (try dsimp only at hSw); go_simp; (try with_reducible rfl))
                                            try simp only [Act.put, List.setIfInBounds_toArray, List.set_cons_zero, List.set_cons_succ]
                                            refine take_on 15 191 (v := ?tv249) rfl rfl (by kernel_rfl) (by kernel_rfl) (by kernel_rfl) (fun _ _ _ h => h) (by rfl) ?ty249 (by assumption) ?tr249
                                            case ty249 => (intro w hSw; (try dsimp only at hSw); go_simp; (try with_reducible rfl))
                                            try simp only [Act.put, List.setIfInBounds_toArray, List.set_cons_zero, List.set_cons_succ]
                                            refine take_on 16 192 (v := ?tv250) rfl rfl (by kernel_rfl) (by kernel_rfl) (by kernel_rfl) (fun _ _ _ h => h) (by rfl) ?ty250 (by assumption) ?tr250
                                            case ty250 => (intro w hSw; (try dsimp only at hSw); go_simp; (try with_reducible rfl))
                                            try simp only [Act.put, List.setIfInBounds_toArray, List.set_cons_zero, List.set_cons_succ]
                                            refine take_on 17 193 (v := ?tv251) rfl rfl (by kernel_rfl) (by kernel_rfl) (by kernel_rfl) (fun _ _ _ h => h) (by rfl) ?ty251 (by assumption) ?tr251
                                            case ty251 => (intro w hSw; (try dsimp only at hSw); go_simp; (try with_reducible rfl))
                                            try simp only [Act.put, List.setIfInBounds_toArray, List.set_cons_zero, List.set_cons_succ]
                                            refine take_on 18 194 (v := ?tv252) rfl rfl (by kernel_rfl) (by kernel_rfl) (by kernel_rfl) (fun _ _ _ h => h) (by rfl) ?ty252 (by assumption) ?tr252
                                            case ty252 => (intro w hSw; (try dsimp only at hSw); go_simp; (try with_reducible rfl))
                                            try simp only [Act.put, List.setIfInBounds_toArray, List.set_cons_zero, List.set_cons_succ]
                                            refine take_on 19 195 (v := ?tv253) rfl rfl (by kernel_rfl) (by kernel_rfl) (by kernel_rfl) (fun _ _ _ h => h) (by rfl) ?ty253 (by assumption) ?tr253
                                            case ty253 => (intro w hSw; (try dsimp only at hSw); go_simp; (try with_reducible rfl))
                                            try simp only [Act.put, List.setIfInBounds_toArray, List.set_cons_zero, List.set_cons_succ]
                                            refine take_on 20 196 (v := ?tv254) rfl rfl (by kernel_rfl) (by kernel_rfl) (by kernel_rfl) (fun _ _ _ h => h) (by rfl) ?ty254 (by assumption) ?tr254
                                            case ty254 => (intro w hSw; (try dsimp only at hSw); go_simp; (try with_reducible rfl))
                                            try simp only [Act.put, List.setIfInBounds_toArray, List.set_cons_zero, List.set_cons_succ]
                                            refine take_off 21 197 rfl rfl (by kernel_rfl) (by kernel_rfl) (by kernel_rfl) (fun _ _ _ h => h) (by rfl) (by assumption) ?_
                                            try simp only [Act.put, List.setIfInBounds_toArray, List.set_cons_zero, List.set_cons_succ]
                                            refine take_off 22 198 rfl rfl (by kernel_rfl) (by kernel_rfl) (by kernel_rfl) (fun _ _ _ h => h) (by rfl) (by assumption) ?_
                                            try simp only [Act.put, List.setIfInBounds_toArray, List.set_cons_zero, List.set_cons_succ]
                                            refine take_off 23 199 rfl rfl (by kernel_rfl) (by kernel_rfl) (by kernel_rfl) (fun _ _ _ h => h) (by rfl) (by assumption) ?_
                                            try simp only [Act.put, List.setIfInBounds_toArray, List.set_cons_zero, List.set_cons_succ]
                                            refine take_off 24 200 rfl rfl (by kernel_rfl) (by kernel_rfl) (by kernel_rfl) (fun _ _ _ h => h) (by rfl) (by assumption) ?_
                                            try simp only [Act.put, List.setIfInBounds_toArray, List.set_cons_zero, List.set_cons_succ]
                                            refine take_off 25 201 rfl rfl (by kernel_rfl) (by kernel_rfl) (by kernel_rfl) (fun _ _ _ h => h) (by rfl) (by assumption) ?_
                                            try simp only [Act.put, List.setIfInBounds_toArray, List.set_cons_zero, List.set_cons_succ]
                                            refine take_off 26 202 rfl rfl (by kernel_rfl) (by kernel_rfl) (by kernel_rfl) (fun _ _ _ h => h) (by rfl) (by assumption) ?_
                                            try simp only [Act.put, List.setIfInBounds_toArray, List.set_cons_zero, List.set_cons_succ]
                                            refine take_off 27 203 rfl rfl (by kernel_rfl) (by kernel_rfl) (by kernel_rfl) (fun _ _ _ h => h) (by rfl) (by assumption) ?_
                                            try simp only [Act.put, List.setIfInBounds_toArray, List.set_cons_zero, List.set_cons_succ]
                                            refine take_off 28 204 rfl rfl (by kernel_rfl) (by kernel_rfl) (by kernel_rfl) (fun _ _ _ h => h) (by rfl) (by assumption) ?_
                                            try simp only [Act.put, List.setIfInBounds_toArray, List.set_cons_zero, List.set_cons_succ]
                                            refine take_off 29 205 rfl rfl (by kernel_rfl) (by kernel_rfl) (by kernel_rfl) (fun _ _ _ h => h) (by rfl) (by assumption) ?_
                                            try simp only [Act.put, List.setIfInBounds_toArray, List.set_cons_zero, List.set_cons_succ]
                                            refine take_off 30 206 rfl rfl (by kernel_rfl) (by kernel_rfl) (by kernel_rfl) (fun _ _ _ h => h) (by rfl) (by assumption) ?_
                                            try simp only [Act.put, List.setIfInBounds_toArray, List.set_cons_zero, List.set_cons_succ]
                                            refine take_off 31 207 rfl rfl (by kernel_rfl) (by kernel_rfl) (by kernel_rfl) (fun _ _ _ h => h) (by rfl) (by assumption) ?_
                                            try simp only [Act.put, List.setIfInBounds_toArray, List.set_cons_zero, List.set_cons_succ]
                                            refine take_off 32 208 rfl rfl (by kernel_rfl) (by kernel_rfl) (by kernel_rfl) (fun _ _ _ h => h) (by rfl) (by assumption) ?_
                                            try simp only [Act.put, List.setIfInBounds_toArray, List.set_cons_zero, List.set_cons_succ]
                                            refine take_off 33 209 rfl rfl (by kernel_rfl) (by kernel_rfl) (by kernel_rfl) (fun _ _ _ h => h) (by rfl) (by assumption) ?_
                                            try simp only [Act.put, List.setIfInBounds_toArray, List.set_cons_zero, List.set_cons_succ]
                                            refine take_off 34 210 rfl rfl (by kernel_rfl) (by kernel_rfl) (by kernel_rfl) (fun _ _ _ h => h) (by rfl) (by assumption) ?_
                                            try simp only [Act.put, List.setIfInBounds_toArray, List.set_cons_zero, List.set_cons_succ]
                                            refine take_off 35 211 rfl rfl (by kernel_rfl) (by kernel_rfl) (by kernel_rfl) (fun _ _ _ h => h) (by rfl) (by assumption) ?_
                                            try simp only [Act.put, List.setIfInBounds_toArray, List.set_cons_zero, List.set_cons_succ]
                                            refine take_off 36 212 rfl rfl (by kernel_rfl) (by kernel_rfl) (by kernel_rfl) (fun _ _ _ h => h) (by rfl) (by assumption) ?_
                                            try simp only [Act.put, List.setIfInBounds_toArray, List.set_cons_zero, List.set_cons_succ]
                                            refine take_off 37 213 rfl rfl (by kernel_rfl) (by kernel_rfl) (by kernel_rfl) (fun _ _ _ h => h) (by rfl) (by assumption) ?_
                                            try simp only [Act.put, List.setIfInBounds_toArray, List.set_cons_zero, List.set_cons_succ]
                                            refine take_off 38 214 rfl rfl (by kernel_rfl) (by kernel_rfl) (by kernel_rfl) (fun _ _ _ h => h) (by rfl) (by assumption) ?_
                                            try simp only [Act.put, List.setIfInBounds_toArray, List.set_cons_zero, List.set_cons_succ]
                                            refine take_off 39 215 rfl rfl (by kernel_rfl) (by kernel_rfl) (by kernel_rfl) (fun _ _ _ h => h) (by rfl) (by assumption) ?_
                                            try simp only [Act.put, List.setIfInBounds_toArray, List.set_cons_zero, List.set_cons_succ]
                                            refine take_off 40 216 rfl rfl (by kernel_rfl) (by kernel_rfl) (by kernel_rfl) (fun _ _ _ h => h) (by rfl) (by assumption) ?_
                                            try simp only [Act.put, List.setIfInBounds_toArray, List.set_cons_zero, List.set_cons_succ]
                                            refine take_off 41 217 rfl rfl (by kernel_rfl) (by kernel_rfl) (by kernel_rfl) (fun _ _ _ h => h) (by rfl) (by assumption) ?_
                                            try simp only [Act.put, List.setIfInBounds_toArray, List.set_cons_zero, List.set_cons_succ]
                                            refine take_off 42 218 rfl rfl (by kernel_rfl) (by kernel_rfl) (by kernel_rfl) (fun _ _ _ h => h) (by rfl) (by assumption) ?_
                                            try simp only [Act.put, List.setIfInBounds_toArray, List.set_cons_zero, List.set_cons_succ]
                                            refine take_on 43 219 (v := ?tv277) rfl rfl (by kernel_rfl) (by kernel_rfl) (by kernel_rfl) (fun _ _ _ h => h) (by rfl) ?ty277 (by assumption) ?tr277
                                            case ty277 => (intro w hSw; (try dsimp only at hSw); go_simp; (try with_reducible rfl))
                                            try simp only [Act.put, List.setIfInBounds_toArray, List.set_cons_zero, List.set_cons_succ]
                                            refine wpAnyH_done (by kernel_rfl) ?_ _
                                            go_wp2_with fail
                                            go_ret
                                            exact HNO2.out _ HBY.out.drew (HNO3.out (fun q => q.2.1 E3.out))

                                        · have f3 : (y.e.cookie == x.e.cookie) = false := by simp [e3]
                                          have E3 := Lib.hid e3
                                          clear e3
                                          by_cases e4 : y.d = x.d
                                          · have f4 : (y.d == x.d) = true := by simp [e4]
                                            have E4 := Lib.hid e4
                                            clear e4
                                            by_cases e5 : y.e.name = x.e.name
                                            · have f5 : (y.e.name.toList == x.e.name.toList) = true := (bstr_eq_iff _ _).2 e5
                                              have E5 := Lib.hid e5
                                              clear e5
                                              as_aux_lemma =>
                                                refine wp_region_held_drew (S := fun w' => w'.cell? ⟨ga, oa + k * 6, none⟩ = some (.int .i64 y.d) ∧ w'.cell? ⟨ga, oa + k * 6 + 1, none⟩ = some (.string y.e.name) ∧ w'.cell? ⟨ga, oa + k * 6 + 2, none⟩ = some (.int .i64 y.e.node) ∧ w'.cell? ⟨ga, oa + k * 6 + 4, none⟩ = some (.int .i64 y.e.cookie) ∧ w'.cell? ⟨ga, oa + i * 6, none⟩ = some (.int .i64 x.d) ∧ w'.cell? ⟨B, 0, none⟩ = some (.string x.e.name) ∧ w'.cell? ⟨B, 1, none⟩ = some (.int .i64 x.e.node) ∧ w'.cell? ⟨B, 3, none⟩ = some (.int .i64 x.e.cookie)) (by kernel_rfl) HS3.out (fun hHeld => ?_)
                                                refine take_on 0 176 (v := ?tv278) rfl rfl (by kernel_rfl) (by kernel_rfl) (by kernel_rfl) (fun _ _ _ h => h) (by rfl) ?ty278 (by assumption) ?tr278
                                                case ty278 => (intro w hSw; (try dsimp only at hSw); go_simp; (try with_reducible rfl))
                                                try simp only [Act.put, List.setIfInBounds_toArray, List.set_cons_zero, List.set_cons_succ]
                                                refine take_on 1 177 (v := ?tv279) rfl rfl (by kernel_rfl) (by kernel_rfl) (by kernel_rfl) (fun _ _ _ h => h) (by rfl) ?ty279 (by assumption) ?tr279
                                                case ty279 => (intro w hSw; (try dsimp only at hSw); go_simp; (try with_reducible rfl))
                                                try simp only [Act.put, List.setIfInBounds_toArray, List.set_cons_zero, List.set_cons_succ]
                                                refine take_on 2 178 (v := ?tv280) rfl rfl (by kernel_rfl) (by kernel_rfl) (by kernel_rfl) (fun _ _ _ h => h) (by rfl) ?ty280 (by assumption) ?tr280
                                                case ty280 => (intro w hSw; (try dsimp only at hSw); go_simp; (try with_reducible rfl))
                                                try simp only [Act.put, List.setIfInBounds_toArray, List.set_cons_zero, List.set_cons_succ]
                                                refine take_on 3 179 (v := ?tv281) rfl rfl (by kernel_rfl) (by kernel_rfl) (by kernel_rfl) (fun _ _ _ h => h) (by rfl) ?ty281 (by assumption) ?tr281
                                                case ty281 => (intro w hSw; (try dsimp only at hSw); go_simp; (try with_reducible rfl))
                                                try simp only [Act.put, List.setIfInBounds_toArray, List.set_cons_zero, List.set_cons_succ]
                                                refine take_on 4 180 (v := ?tv282) rfl rfl (by kernel_rfl) (by kernel_rfl) (by kernel_rfl) (fun _ _ _ h => h) (by rfl) ?ty282 (by assumption) ?tr282
                                                case ty282 => (intro w hSw; (try dsimp only at hSw); go_simp; (try with_reducible rfl))
                                                try simp only [Act.put, List.setIfInBounds_toArray, List.set_cons_zero, List.set_cons_succ]
                                                refine take_on 5 181 (v := ?tv283) rfl rfl (by kernel_rfl) (by kernel_rfl) (by kernel_rfl) (fun _ _ _ h => h) (by rfl) ?ty283 (by assumption) ?tr283
                                                case ty283 => (intro w hSw; (try dsimp only at hSw); go_simp; (try with_reducible rfl))
                                                try simp only [Act.put, List.setIfInBounds_toArray, List.set_cons_zero, List.set_cons_succ]
                                                refine take_on 6 182 (v := ?tv284) rfl rfl (by kernel_rfl) (by kernel_rfl) (by kernel_rfl) (fun _ _ _ h => h) (by rfl) ?ty284 (by assumption) ?tr284
                                                case ty284 => (intro w hSw; (try dsimp only at hSw); go_simp; (try with_reducible rfl))
                                                try simp only [Act.put, List.setIfInBounds_toArray, List.set_cons_zero, List.set_cons_succ]
                                                refine take_on 7 183 (v := ?tv285) rfl rfl (by kernel_rfl) (by kernel_rfl) (by kernel_rfl) (fun _ _ _ h => h) (by rfl) ?ty285 (by assumption) ?tr285
                                                case ty285 => (intro w hSw; (try dsimp only at hSw); go_simp; (try with_reducible rfl))
                                                try simp only [Act.put, List.setIfInBounds_toArray, List.set_cons_zero, List.set_cons_succ]
                                                refine take_on 8 184 (v := ?tv286) rfl rfl (by kernel_rfl) (by kernel_rfl) (by kernel_rfl) (fun _ _ _ h => h) (by rfl) ?ty286 (by assumption) ?tr286
                                                case ty286 => (intro w hSw; (try dsimp only at hSw); go_simp; (try with_reducible rfl))
                                                try simp only [Act.put, List.setIfInBounds_toArray, List.set_cons_zero, List.set_cons_succ]
                                                refine take_on 9 185 (v := ?tv287) rfl rfl (by kernel_rfl) (by kernel_rfl) (by kernel_rfl) (fun _ _ _ h => h) (by rfl) ?ty287 (by assumption) ?tr287
                                                case ty287 => (intro w hSw; (try dsimp only at hSw); go_simp; (try with_reducible rfl))
                                                try simp only [Act.put, List.setIfInBounds_toArray, List.set_cons_zero, List.set_cons_succ]
                                                refine take_on 10 186 (v := ?tv288) rfl rfl (by kernel_rfl) (by kernel_rfl) (by kernel_rfl) (fun _ _ _ h => h) (by rfl) ?ty288 (by assumption) ?tr288
                                                case ty288 => (intro w hSw; (try dsimp only at hSw); go_simp; (try with_reducible rfl))
                                                try simp only [Act.put, List.setIfInBounds_toArray, List.set_cons_zero, List.set_cons_succ]
                                                refine take_on 11 187 (v := ?tv289) rfl rfl (by kernel_rfl) (by kernel_rfl) (by kernel_rfl) (fun _ _ _ h => h) (by rfl) ?ty289 (by assumption) ?tr289
                                                case ty289 => (intro w hSw; (try dsimp only at hSw); go_simp; (try with_reducible rfl))
                                                try simp only [Act.put, List.setIfInBounds_toArray, List.set_cons_zero, List.set_cons_succ]
                                                refine take_on 12 188 (v := ?tv290) rfl rfl (by kernel_rfl) (by kernel_rfl) (by kernel_rfl) (fun _ _ _ h => h) (by rfl) ?ty290 (by assumption) ?tr290
                                                case ty290 => (intro w hSw; (try dsimp only at hSw); go_simp; (try with_reducible rfl))
                                                try simp only [Act.put, List.setIfInBounds_toArray, List.set_cons_zero, List.set_cons_succ]
                                                refine take_on 13 189 (v := ?tv291) rfl rfl (by kernel_rfl) (by kernel_rfl) (by kernel_rfl) (fun _ _ _ h => h) (by rfl) ?ty291 (by assumption) ?tr291
                                                case ty291 => (intro w hSw; (try dsimp only at hSw); go_simp; (try with_reducible rfl))
                                                try simp only [Act.put, List.setIfInBounds_toArray, List.set_cons_zero, List.set_cons_succ]
                                                refine take_on 14 190 (v := ?tv292) rfl rfl (by kernel_rfl) (by kernel_rfl) (by kernel_rfl) (fun _ _ _ h => h) (by rfl) ?ty292 (by assumption) ?tr292
                                                case ty292 => (intro w hSw; (try dsimp only at hSw); go_simp; (try with_reducible rfl))
                                                try simp only [Act.put, List.setIfInBounds_toArray, List.set_cons_zero, List.set_cons_succ]
                                                refine take_on 15 191 (v := ?tv293) rfl rfl (by kernel_rfl) (by kernel_rfl) (by kernel_rfl) (fun _ _ _ h => h) (by rfl) ?ty293 (by assumption) ?tr293
                                                case ty293 => (intro w hSw; (try dsimp only at hSw); go_simp; (try with_reducible rfl))
                                                try simp only [Act.put, List.setIfInBounds_toArray, List.set_cons_zero, List.set_cons_succ]
                                                refine take_on 16 192 (v := ?tv294) rfl rfl (by kernel_rfl) (by kernel_rfl) (by kernel_rfl) (fun _ _ _ h => h) (by rfl) ?ty294 (by assumption) ?tr294
                                                case ty294 => (intro w hSw; (try dsimp only at hSw); go_simp; (try with_reducible rfl))
                                                try simp only [Act.put, List.setIfInBounds_toArray, List.set_cons_zero, List.set_cons_succ]
                                                refine take_on 17 193 (v := ?tv295) rfl rfl (by kernel_rfl) (by kernel_rfl) (by kernel_rfl) (fun _ _ _ h => h) (by rfl) ?ty295 (by assumption) ?tr295
                                                case ty295 => (intro w hSw; (try dsimp only at hSw); go_simp; (try with_reducible rfl))
                                                try simp only [Act.put, List.setIfInBounds_toArray, List.set_cons_zero, List.set_cons_succ]
                                                refine take_on 18 194 (v := ?tv296) rfl rfl (by kernel_rfl) (by kernel_rfl) (by kernel_rfl) (fun _ _ _ h => h) (by rfl) ?ty296 (by assumption) ?tr296
                                                case ty296 => (intro w hSw; (try dsimp only at hSw); go_simp; (try with_reducible rfl))
                                                try simp only [Act.put, List.setIfInBounds_toArray, List.set_cons_zero, List.set_cons_succ]
                                                refine take_on 19 195 (v := ?tv297) rfl rfl (by kernel_rfl) (by kernel_rfl) (by kernel_rfl) (fun _ _ _ h => h) (by rfl) ?ty297 (by assumption) ?tr297
                                                case ty297 => (intro w hSw; (try dsimp only at hSw); go_simp; (try with_reducible rfl))
                                                try simp only [Act.put, List.setIfInBounds_toArray, List.set_cons_zero, List.set_cons_succ]
                                                refine take_on 20 196 (v := ?tv298) rfl rfl (by kernel_rfl) (by kernel_rfl) (by kernel_rfl) (fun _ _ _ h => h) (by rfl) ?ty298 (by assumption) ?tr298
                                                case ty298 => (intro w hSw; (try dsimp only at hSw); go_simp; (try with_reducible rfl))
                                                try simp only [Act.put, List.setIfInBounds_toArray, List.set_cons_zero, List.set_cons_succ]
                                                refine take_on 21 197 (v := ?tv299) rfl rfl (by kernel_rfl) (by kernel_rfl) (by kernel_rfl) (fun _ _ _ h => h) (by rfl) ?ty299 (by assumption) ?tr299
                                                case ty299 => (intro w hSw; (try dsimp only at hSw); go_simp; (try with_reducible rfl))
                                                try simp only [Act.put, List.setIfInBounds_toArray, List.set_cons_zero, List.set_cons_succ]
                                                refine take_on 22 198 (v := ?tv300) rfl rfl (by kernel_rfl) (by kernel_rfl) (by kernel_rfl) (fun _ _ _ h => h) (by rfl) ?ty300 (by assumption) ?tr300
                                                case ty300 => (intro w hSw; (try dsimp only at hSw); go_simp; (try with_reducible rfl))
                                                try simp only [Act.put, List.setIfInBounds_toArray, List.set_cons_zero, List.set_cons_succ]
                                                refine take_on 23 199 (v := ?tv301) rfl rfl (by kernel_rfl) (by kernel_rfl) (by kernel_rfl) (fun _ _ _ h => h) (by rfl) ?ty301 (by assumption) ?tr301
                                                case ty301 => (intro w hSw; (try dsimp only at hSw); go_simp; (try with_reducible rfl))
                                                try simp only [Act.put, List.setIfInBounds_toArray, List.set_cons_zero, List.set_cons_succ]
                                                refine take_on 24 200 (v := ?tv302) rfl rfl (by kernel_rfl) (by kernel_rfl) (by kernel_rfl) (fun _ _ _ h => h) (by rfl) ?ty302 (by assumption) ?tr302
                                                case ty302 => (intro w hSw; (try dsimp only at hSw); go_simp; (try with_reducible rfl))
                                                try simp only [Act.put, List.setIfInBounds_toArray, List.set_cons_zero, List.set_cons_succ]
                                                refine take_on 25 201 (v := ?tv303) rfl rfl (by kernel_rfl) (by kernel_rfl) (by kernel_rfl) (fun _ _ _ h => h) (by rfl) ?ty303 (by assumption) ?tr303
                                                case ty303 => (intro w hSw; (try dsimp only at hSw); go_simp; (try with_reducible rfl))
                                                try simp only [Act.put, List.setIfInBounds_toArray, List.set_cons_zero, List.set_cons_succ]
                                                refine take_on 26 202 (v := ?tv304) rfl rfl (by kernel_rfl) (by kernel_rfl) (by kernel_rfl) (fun _ _ _ h => h) (by rfl) ?ty304 (by assumption) ?tr304
                                                case ty304 => (intro w hSw; (try dsimp only at hSw); go_simp; (try with_reducible rfl))
                                                try simp only [Act.put, List.setIfInBounds_toArray, List.set_cons_zero, List.set_cons_succ]
                                                refine take_on 27 203 (v := ?tv305) rfl rfl (by kernel_rfl) (by kernel_rfl) (by kernel_rfl) (fun _ _ _ h => h) (by rfl) ?ty305 (by assumption) ?tr305
                                                case ty305 => (intro w hSw; (try dsimp only at hSw); go_simp; (try with_reducible rfl))
                                                try simp only [Act.put, List.setIfInBounds_toArray, List.set_cons_zero, List.set_cons_succ]
                                                refine take_on 28 204 (v := ?tv306) rfl rfl (by kernel_rfl) (by kernel_rfl) (by kernel_rfl) (fun _ _ _ h => h) (by rfl) ?ty306 (by assumption) ?tr306
                                                case ty306 => (intro w hSw; (try dsimp only at hSw); go_simp; (try with_reducible rfl))
                                                try simp only [Act.put, List.setIfInBounds_toArray, List.set_cons_zero, List.set_cons_succ]
                                                refine take_on 29 205 (v := ?tv307) rfl rfl (by kernel_rfl) (by kernel_rfl) (by kernel_rfl) (fun _ _ _ h => h) (by rfl) ?ty307 (by assumption) ?tr307
                                                case ty307 => (intro w hSw; (try dsimp only at hSw); go_simp; (try with_reducible rfl))
                                                try simp only [Act.put, List.setIfInBounds_toArray, List.set_cons_zero, List.set_cons_succ]
                                                refine take_on 30 206 (v := ?tv308) rfl rfl (by kernel_rfl) (by kernel_rfl) (by kernel_rfl) (fun _ _ _ h => h) (by rfl) ?ty308 (by assumption) ?tr308
                                                case ty308 => (intro w hSw; (try dsimp only at hSw); go_simp; (try with_reducible rfl))
                                                try simp only [Act.put, List.setIfInBounds_toArray, List.set_cons_zero, List.set_cons_succ]
                                                refine take_on 31 207 (v := ?tv309) rfl rfl (by kernel_rfl) (by kernel_rfl) (by kernel_rfl) (fun _ _ _ h => h) (by rfl) ?ty309 (by assumption) ?tr309
                                                case ty309 => (intro w hSw; (try dsimp only at hSw); go_simp; (try with_reducible rfl))
                                                try simp only [Act.put, List.setIfInBounds_toArray, List.set_cons_zero, List.set_cons_succ]
                                                refine take_on 32 208 (v := ?tv310) rfl rfl (by kernel_rfl) (by kernel_rfl) (by kernel_rfl) (fun _ _ _ h => h) (by rfl) ?ty310 (by assumption) ?tr310
                                                case ty310 => (intro w hSw; (try dsimp only at hSw); go_simp; (try with_reducible rfl))
                                                try simp only [Act.put, List.setIfInBounds_toArray, List.set_cons_zero, List.set_cons_succ]
                                                refine take_on 33 209 (v := ?tv311) rfl rfl (by kernel_rfl) (by kernel_rfl) (by kernel_rfl) (fun _ _ _ h => h) (by rfl) ?ty311 (by assumption) ?tr311
                                                case ty311 => (intro w hSw; (try dsimp only at hSw); go_simp; (try with_reducible rfl))
                                                try simp only [Act.put, List.setIfInBounds_toArray, List.set_cons_zero, List.set_cons_succ]
                                                refine take_on 34 210 (v := ?tv312) rfl rfl (by kernel_rfl) (by kernel_rfl) (by kernel_rfl) (fun _ _ _ h => h) (by rfl) ?ty312 (by assumption) ?tr312
                                                case ty312 => (intro w hSw; (try dsimp only at hSw); go_simp; (try with_reducible rfl))
                                                try simp only [Act.put, List.setIfInBounds_toArray, List.set_cons_zero, List.set_cons_succ]
                                                refine take_on 35 211 (v := ?tv313) rfl rfl (by kernel_rfl) (by kernel_rfl) (by kernel_rfl) (fun _ _ _ h => h) (by rfl) ?ty313 (by assumption) ?tr313
                                                case ty313 => (intro w hSw; (try dsimp only at hSw); go_simp; (try with_reducible rfl))
                                                try simp only [Act.put, List.setIfInBounds_toArray, List.set_cons_zero, List.set_cons_succ]
                                                refine take_on 36 212 (v := ?tv314) rfl rfl (by kernel_rfl) (by kernel_rfl) (by kernel_rfl) (fun _ _ _ h => h) (by rfl) ?ty314 (by assumption) ?tr314
                                                case ty314 => (intro w hSw; (try dsimp only at hSw); go_simp; (try with_reducible rfl))
                                                try simp only [Act.put, List.setIfInBounds_toArray, List.set_cons_zero, List.set_cons_succ]
                                                refine take_on 37 213 (v := ?tv315) rfl rfl (by kernel_rfl) (by kernel_rfl) (by kernel_rfl) (fun _ _ _ h => h) (by rfl) ?ty315 (by assumption) ?tr315
                                                case ty315 => (intro w hSw; (try dsimp only at hSw); go_simp; (try with_reducible rfl))
                                                try simp only [Act.put, List.setIfInBounds_toArray, List.set_cons_zero, List.set_cons_succ]
                                                refine take_on 38 214 (v := ?tv316) rfl rfl (by kernel_rfl) (by kernel_rfl) (by kernel_rfl) (fun _ _ _ h => h) (by rfl) ?ty316 (by assumption) ?tr316
                                                case ty316 => (intro w hSw; (try dsimp only at hSw); go_simp; (try with_reducible rfl))
                                                try simp only [Act.put, List.setIfInBounds_toArray, List.set_cons_zero, List.set_cons_succ]
                                                refine take_on 39 215 (v := ?tv317) rfl rfl (by kernel_rfl) (by kernel_rfl) (by kernel_rfl) (fun _ _ _ h => h) (by rfl) ?ty317 (by assumption) ?tr317
                                                case ty317 => (intro w hSw; (try dsimp only at hSw); go_simp; (try with_reducible rfl))
                                                try simp only [Act.put, List.setIfInBounds_toArray, List.set_cons_zero, List.set_cons_succ]
                                                refine take_on 40 216 (v := ?tv318) rfl rfl (by kernel_rfl) (by kernel_rfl) (by kernel_rfl) (fun _ _ _ h => h) (by rfl) ?ty318 (by assumption) ?tr318
                                                case ty318 => (intro w hSw; (try dsimp only at hSw); go_simp; (try with_reducible rfl))
                                                try simp only [Act.put, List.setIfInBounds_toArray, List.set_cons_zero, List.set_cons_succ]
                                                refine take_on 41 217 (v := ?tv319) rfl rfl (by kernel_rfl) (by kernel_rfl) (by kernel_rfl) (fun _ _ _ h => h) (by rfl) ?ty319 (by assumption) ?tr319
                                                case ty319 => (intro w hSw; (try dsimp only at hSw); go_simp; (try with_reducible rfl))
                                                try simp only [Act.put, List.setIfInBounds_toArray, List.set_cons_zero, List.set_cons_succ]
                                                refine take_on 42 218 (v := ?tv320) rfl rfl (by kernel_rfl) (by kernel_rfl) (by kernel_rfl) (fun _ _ _ h => h) (by rfl) ?ty320 (by assumption) ?tr320
                                                case ty320 => (intro w hSw; (try dsimp only at hSw); go_simp; (try with_reducible rfl))
                                                try simp only [Act.put, List.setIfInBounds_toArray, List.set_cons_zero, List.set_cons_succ]
                                                refine take_on 43 219 (v := ?tv321) rfl rfl (by kernel_rfl) (by kernel_rfl) (by kernel_rfl) (fun _ _ _ h => h) (by rfl) ?ty321 (by assumption) ?tr321
                                                case ty321 => (intro w hSw; (try dsimp only at hSw); go_simp; (try with_reducible rfl))
                                                try simp only [Act.put, List.setIfInBounds_toArray, List.set_cons_zero, List.set_cons_succ]
                                                refine wpAnyH_done (by kernel_rfl) ?_ _
                                                go_wp2_with fail
                                                go_ret
                                                exact HNO2.out _ HBY.out.drew (HNO3.out (fun q => q.2.2 ⟨E4.out, E5.out⟩))

                                            · have f5 : (y.e.name.toList == x.e.name.toList) = false := by rw [Bool.eq_false_iff]; exact fun q => e5 ((bstr_eq_iff _ _).1 q)
                                              have E5 := Lib.hid e5
                                              clear e5
                                              as_aux_lemma =>
                                                refine wp_region_held_drew (S := fun w' => w'.cell? ⟨ga, oa + k * 6, none⟩ = some (.int .i64 y.d) ∧ w'.cell? ⟨ga, oa + k * 6 + 1, none⟩ = some (.string y.e.name) ∧ w'.cell? ⟨ga, oa + k * 6 + 2, none⟩ = some (.int .i64 y.e.node) ∧ w'.cell? ⟨ga, oa + k * 6 + 4, none⟩ = some (.int .i64 y.e.cookie) ∧ w'.cell? ⟨ga, oa + i * 6, none⟩ = some (.int .i64 x.d) ∧ w'.cell? ⟨B, 0, none⟩ = some (.string x.e.name) ∧ w'.cell? ⟨B, 1, none⟩ = some (.int .i64 x.e.node) ∧ w'.cell? ⟨B, 3, none⟩ = some (.int .i64 x.e.cookie)) (by kernel_rfl) HS3.out (fun hHeld => ?_)
                                                refine take_on 0 176 (v := ?tv322) rfl rfl (by kernel_rfl) (by kernel_rfl) (by kernel_rfl) (fun _ _ _ h => h) (by rfl) ?ty322 (by assumption) ?tr322
                                                case ty322 => (intro w hSw; (try dsimp only at hSw); go_simp; (try with_reducible rfl))
                                                try simp only [Act.put, List.setIfInBounds_toArray, List.set_cons_zero, List.set_cons_succ]
                                                refine take_on 1 177 (v := ?tv323) rfl rfl (by kernel_rfl) (by kernel_rfl) (by kernel_rfl) (fun _ _ _ h => h) (by rfl) ?ty323 (by assumption) ?tr323
                                                case ty323 => (intro w hSw; (try dsimp only at hSw); go_simp; (try with_reducible rfl))
                                                try simp only [Act.put, List.setIfInBounds_toArray, List.set_cons_zero, List.set_cons_succ]
                                                refine take_on 2 178 (v := ?tv324) rfl rfl (by kernel_rfl) (by kernel_rfl) (by kernel_rfl) (fun _ _ _ h => h) (by rfl) ?ty324 (by assumption) ?tr324
                                                case ty324 => (intro w hSw; (try dsimp only at hSw); go_simp; (try with_reducible rfl))
                                                try simp only [Act.put, List.setIfInBounds_toArray, List.set_cons_zero, List.set_cons_succ]
                                                refine take_on 3 179 (v := ?tv325) rfl rfl (by kernel_rfl) (by kernel_rfl) (by kernel_rfl) (fun _ _ _ h => h) (by rfl) ?ty325 (by assumption) ?tr325
                                                case ty325 => (intro w hSw; (try dsimp only at hSw); go_simp; (try with_reducible rfl))
                                                try simp only [Act.put, List.setIfInBounds_toArray, List.set_cons_zero, List.set_cons_succ]
                                                refine take_on 4 180 (v := ?tv326) rfl rfl (by kernel_rfl) (by kernel_rfl) (by kernel_rfl) (fun _ _ _ h => h) (by rfl) ?ty326 (by assumption) ?tr326
                                                case ty326 => (intro w hSw; (try dsimp only at hSw); go_simp; (try with_reducible rfl))
                                                try simp only [Act.put, List.setIfInBounds_toArray, List.set_cons_zero, List.set_cons_succ]
                                                refine take_on 5 181 (v := ?tv327) rfl rfl (by kernel_rfl) (by kernel_rfl) (by kernel_rfl) (fun _ _ _ h => h) (by rfl) ?ty327 (by assumption) ?tr327
                                                case ty327 => (intro w hSw; (try dsimp only at hSw); go_simp; (try with_reducible rfl))
                                                try simp only [Act.put, List.setIfInBounds_toArray, List.set_cons_zero, List.set_cons_succ]
                                                refine take_on 6 182 (v := ?tv328) rfl rfl (by kernel_rfl) (by kernel_rfl) (by kernel_rfl) (fun _ _ _ h => h) (by rfl) ?ty328 (by assumption) ?tr328
                                                case ty328 => (intro w hSw; (try dsimp only at hSw); go_simp; (try with_reducible rfl))
                                                try simp only [Act.put, List.setIfInBounds_toArray, List.set_cons_zero, List.set_cons_succ]
                                                refine take_on 7 183 (v := ?tv329) rfl rfl (by kernel_rfl) (by kernel_rfl) (by kernel_rfl) (fun _ _ _ h => h) (by rfl) ?ty329 (by assumption) ?tr329
                                                case ty329 => (intro w hSw; (try dsimp only at hSw); go_simp; (try with_reducible rfl))
                                                try simp only [Act.put, List.setIfInBounds_toArray, List.set_cons_zero, List.set_cons_succ]
                                                refine take_on 8 184 (v := ?tv330) rfl rfl (by kernel_rfl) (by kernel_rfl) (by kernel_rfl) (fun _ _ _ h => h) (by rfl) ?ty330 (by assumption) ?tr330
                                                case ty330 => (intro w hSw; (try dsimp only at hSw); go_simp; (try with_reducible rfl))
                                                try simp only [Act.put, List.setIfInBounds_toArray, List.set_cons_zero, List.set_cons_succ]
                                                refine take_on 9 185 (v := ?tv331) rfl rfl (by kernel_rfl) (by kernel_rfl) (by kernel_rfl) (fun _ _ _ h => h) (by rfl) ?ty331 (by assumption) ?tr331
                                                case ty331 => (intro w hSw; (try dsimp only at hSw); go_simp; (try with_reducible rfl))
                                                try simp only [Act.put, List.setIfInBounds_toArray, List.set_cons_zero, List.set_cons_succ]
                                                refine take_on 10 186 (v := ?tv332) rfl rfl (by kernel_rfl) (by kernel_rfl) (by kernel_rfl) (fun _ _ _ h => h) (by rfl) ?ty332 (by assumption) ?tr332
                                                case ty332 => (intro w hSw; (try dsimp only at hSw); go_simp; (try with_reducible rfl))
                                                try simp only [Act.put, List.setIfInBounds_toArray, List.set_cons_zero, List.set_cons_succ]
                                                refine take_on 11 187 (v := ?tv333) rfl rfl (by kernel_rfl) (by kernel_rfl) (by kernel_rfl) (fun _ _ _ h => h) (by rfl) ?ty333 (by assumption) ?tr333
                                                case ty333 => (intro w hSw; (try dsimp only at hSw); go_simp; (try with_reducible rfl))
                                                try simp only [Act.put, List.setIfInBounds_toArray, List.set_cons_zero, List.set_cons_succ]
                                                refine take_on 12 188 (v := ?tv334) rfl rfl (by kernel_rfl) (by kernel_rfl) (by kernel_rfl) (fun _ _ _ h => h) (by rfl) ?ty334 (by assumption) ?tr334
                                                case ty334 => (intro w hSw; (try dsimp only at hSw); go_simp; (try with_reducible rfl))
                                                try simp only [Act.put, List.setIfInBounds_toArray, List.set_cons_zero, List.set_cons_succ]
                                                refine take_on 13 189 (v := ?tv335) rfl rfl (by kernel_rfl) (by kernel_rfl) (by kernel_rfl) (fun _ _ _ h => h) (by rfl) ?ty335 (by assumption) ?tr335
                                                case ty335 => (intro w hSw; (try dsimp only at hSw); go_simp; (try with_reducible rfl))
                                                try simp only [Act.put, List.setIfInBounds_toArray, List.set_cons_zero, List.set_cons_succ]
                                                refine take_on 14 190 (v := ?tv336) rfl rfl (by kernel_rfl) (by kernel_rfl) (by kernel_rfl) (fun _ _ _ h => h) (by rfl) ?ty336 (by assumption) ?tr336
                                                case ty336 => (intro w hSw; (try dsimp only at hSw); go_simp; (try with_reducible rfl))
                                                try simp only [Act.put, List.setIfInBounds_toArray, List.set_cons_zero, List.set_cons_succ]
                                                refine take_on 15 191 (v := ?tv337) rfl rfl (by kernel_rfl) (by kernel_rfl) (by kernel_rfl) (fun _ _ _ h => h) (by rfl) ?ty337 (by assumption) ?tr337
                                                case ty337 => (intro w hSw; (try dsimp only at hSw); go_simp; (try with_reducible rfl))
                                                try simp only [Act.put, List.setIfInBounds_toArray, List.set_cons_zero, List.set_cons_succ]
                                                refine take_on 16 192 (v := ?tv338) rfl rfl (by kernel_rfl) (by kernel_rfl) (by kernel_rfl) (fun _ _ _ h => h) (by rfl) ?ty338 (by assumption) ?tr338
                                                case ty338 => (intro w hSw; (try dsimp only at hSw); go_simp; (try with_reducible rfl))
                                                try simp only [Act.put, List.setIfInBounds_toArray, List.set_cons_zero, List.set_cons_succ]
                                                refine take_on 17 193 (v := ?tv339) rfl rfl (by kernel_rfl) (by kernel_rfl) (by kernel_rfl) (fun _ _ _ h => h) (by rfl) ?ty339 (by assumption) ?tr339
                                                case ty339 => (intro w hSw; (try dsimp only at hSw); go_simp; (try with_reducible rfl))
                                                try simp only [Act.put, List.setIfInBounds_toArray, List.set_cons_zero, List.set_cons_succ]
                                                refine take_on 18 194 (v := ?tv340) rfl rfl (by kernel_rfl) (by kernel_rfl) (by kernel_rfl) (fun _ _ _ h => h) (by rfl) ?ty340 (by assumption) ?tr340
                                                case ty340 => (intro w hSw; (try dsimp only at hSw); go_simp; (try with_reducible rfl))
                                                try simp only [Act.put, List.setIfInBounds_toArray, List.set_cons_zero, List.set_cons_succ]
                                                refine take_on 19 195 (v := ?tv341) rfl rfl (by kernel_rfl) (by kernel_rfl) (by kernel_rfl) (fun _ _ _ h => h) (by rfl) ?ty341 (by assumption) ?tr341
                                                case ty341 => (intro w hSw; (try dsimp only at hSw); go_simp; (try with_reducible rfl))
                                                try simp only [Act.put, List.setIfInBounds_toArray, List.set_cons_zero, List.set_cons_succ]
                                                refine take_on 20 196 (v := ?tv342) rfl rfl (by kernel_rfl) (by kernel_rfl) (by kernel_rfl) (fun _ _ _ h => h) (by rfl) ?ty342 (by assumption) ?tr342
                                                case ty342 => (intro w hSw; (try dsimp only at hSw); go_simp; (try with_reducible rfl))
                                                try simp only [Act.put, List.setIfInBounds_toArray, List.set_cons_zero, List.set_cons_succ]
                                                refine take_on 21 197 (v := ?tv343) rfl rfl (by kernel_rfl) (by kernel_rfl) (by kernel_rfl) (fun _ _ _ h => h) (by rfl) ?ty343 (by assumption) ?tr343
                                                case ty343 => (intro w hSw; (try dsimp only at hSw); go_simp; (try with_reducible rfl))
                                                try simp only [Act.put, List.setIfInBounds_toArray, List.set_cons_zero, List.set_cons_succ]
                                                refine take_on 22 198 (v := ?tv344) rfl rfl (by kernel_rfl) (by kernel_rfl) (by kernel_rfl) (fun _ _ _ h => h) (by rfl) ?ty344 (by assumption) ?tr344
                                                case ty344 => (intro w hSw; (try dsimp only at hSw); go_simp; (try with_reducible rfl))
                                                try simp only [Act.put, List.setIfInBounds_toArray, List.set_cons_zero, List.set_cons_succ]
                                                refine take_on 23 199 (v := ?tv345) rfl rfl (by kernel_rfl) (by kernel_rfl) (by kernel_rfl) (fun _ _ _ h => h) (by rfl) ?ty345 (by assumption) ?tr345
                                                case ty345 => (intro w hSw; (try dsimp only at hSw); go_simp; (try with_reducible rfl))
                                                try simp only [Act.put, List.setIfInBounds_toArray, List.set_cons_zero, List.set_cons_succ]
                                                refine take_on 24 200 (v := ?tv346) rfl rfl (by kernel_rfl) (by kernel_rfl) (by kernel_rfl) (fun _ _ _ h => h) (by rfl) ?ty346 (by assumption) ?tr346
                                                case ty346 => (intro w hSw; (try dsimp only at hSw); go_simp; (try with_reducible rfl))
                                                try simp only [Act.put, List.setIfInBounds_toArray, List.set_cons_zero, List.set_cons_succ]
                                                refine take_on 25 201 (v := ?tv347) rfl rfl (by kernel_rfl) (by kernel_rfl) (by kernel_rfl) (fun _ _ _ h => h) (by rfl) ?ty347 (by assumption) ?tr347
                                                case ty347 => (intro w hSw; (try dsimp only at hSw); go_simp; (try with_reducible rfl))
                                                try simp only [Act.put, List.setIfInBounds_toArray, List.set_cons_zero, List.set_cons_succ]
                                                refine take_on 26 202 (v := ?tv348) rfl rfl (by kernel_rfl) (by kernel_rfl) (by kernel_rfl) (fun _ _ _ h => h) (by rfl) ?ty348 (by assumption) ?tr348
                                                case ty348 => (intro w hSw; (try dsimp only at hSw); go_simp; (try with_reducible rfl))
                                                try simp only [Act.put, List.setIfInBounds_toArray, List.set_cons_zero, List.set_cons_succ]
                                                refine take_on 27 203 (v := ?tv349) rfl rfl (by kernel_rfl) (by kernel_rfl) (by kernel_rfl) (fun _ _ _ h => h) (by rfl) ?ty349 (by assumption) ?tr349
                                                case ty349 => (intro w hSw; (try dsimp only at hSw); go_simp; (try with_reducible rfl))
                                                try simp only [Act.put, List.setIfInBounds_toArray, List.set_cons_zero, List.set_cons_succ]
                                                refine take_on 28 204 (v := ?tv350) rfl rfl (by kernel_rfl) (by kernel_rfl) (by kernel_rfl) (fun _ _ _ h => h) (by rfl) ?ty350 (by assumption) ?tr350
                                                case ty350 => (intro w hSw; (try dsimp only at hSw); go_simp; (try with_reducible rfl))
                                                try simp only [Act.put, List.setIfInBounds_toArray, List.set_cons_zero, List.set_cons_succ]
                                                refine take_on 29 205 (v := ?tv351) rfl rfl (by kernel_rfl) (by kernel_rfl) (by kernel_rfl) (fun _ _ _ h => h) (by rfl) ?ty351 (by assumption) ?tr351
                                                case ty351 => (intro w hSw; (try dsimp only at hSw); go_simp; (try with_reducible rfl))
                                                try simp only [Act.put, List.setIfInBounds_toArray, List.set_cons_zero, List.set_cons_succ]
                                                refine take_on 30 206 (v := ?tv352) rfl rfl (by kernel_rfl) (by kernel_rfl) (by kernel_rfl) (fun _ _ _ h => h) (by rfl) ?ty352 (by assumption) ?tr352
                                                case ty352 => (intro w hSw; (try dsimp only at hSw); go_simp; (try with_reducible rfl))
                                                try simp only [Act.put, List.setIfInBounds_toArray, List.set_cons_zero, List.set_cons_succ]
                                                refine take_on 31 207 (v := ?tv353) rfl rfl (by kernel_rfl) (by kernel_rfl) (by kernel_rfl) (fun _ _ _ h => h) (by rfl) ?ty353 (by assumption) ?tr353
                                                case ty353 => (intro w hSw; (try dsimp only at hSw); go_simp; (try with_reducible rfl))
                                                try simp only [Act.put, List.setIfInBounds_toArray, List.set_cons_zero, List.set_cons_succ]
                                                refine take_on 32 208 (v := ?tv354) rfl rfl (by kernel_rfl) (by kernel_rfl) (by kernel_rfl) (fun _ _ _ h => h) (by rfl) ?ty354 (by assumption) ?tr354
                                                case ty354 => (intro w hSw; (try dsimp only at hSw); go_simp; (try with_reducible rfl))
                                                try simp only [Act.put, List.setIfInBounds_toArray, List.set_cons_zero, List.set_cons_succ]
                                                refine take_on 33 209 (v := ?tv355) rfl rfl (by kernel_rfl) (by kernel_rfl) (by kernel_rfl) (fun _ _ _ h => h) (by rfl) ?ty355 (by assumption) ?tr355
                                                case ty355 => (intro w hSw; (try dsimp only at hSw); go_simp; (try with_reducible rfl))
                                                try simp only [Act.put, List.setIfInBounds_toArray, List.set_cons_zero, List.set_cons_succ]
                                                refine take_on 34 210 (v := ?tv356) rfl rfl (by kernel_rfl) (by kernel_rfl) (by kernel_rfl) (fun _ _ _ h => h) (by rfl) ?ty356 (by assumption) ?tr356
                                                case ty356 => (intro w hSw; (try dsimp only at hSw); go_simp; (try with_reducible rfl))
                                                try simp only [Act.put, List.setIfInBounds_toArray, List.set_cons_zero, List.set_cons_succ]
                                                refine take_on 35 211 (v := ?tv357) rfl rfl (by kernel_rfl) (by kernel_rfl) (by kernel_rfl) (fun _ _ _ h => h) (by rfl) ?ty357 (by assumption) ?tr357
                                                case ty357 => (intro w hSw; (try dsimp only at hSw); go_simp; (try with_reducible rfl))
                                                try simp only [Act.put, List.setIfInBounds_toArray, List.set_cons_zero, List.set_cons_succ]
                                                refine take_on 36 212 (v := ?tv358) rfl rfl (by kernel_rfl) (by kernel_rfl) (by kernel_rfl) (fun _ _ _ h => h) (by rfl) ?ty358 (by assumption) ?tr358
                                                case ty358 => (intro w hSw; (try dsimp only at hSw); go_simp; (try with_reducible rfl))
                                                try simp only [Act.put, List.setIfInBounds_toArray, List.set_cons_zero, List.set_cons_succ]
                                                refine take_on 37 213 (v := ?tv359) rfl rfl (by kernel_rfl) (by kernel_rfl) (by kernel_rfl) (fun _ _ _ h => h) (by rfl) ?ty359 (by assumption) ?tr359
                                                case ty359 => (intro w hSw; (try dsimp only at hSw); go_simp; (try with_reducible rfl))
                                                try simp only [Act.put, List.setIfInBounds_toArray, List.set_cons_zero, List.set_cons_succ]
                                                refine take_on 38 214 (v := ?tv360) rfl rfl (by kernel_rfl) (by kernel_rfl) (by kernel_rfl) (fun _ _ _ h => h) (by rfl) ?ty360 (by assumption) ?tr360
                                                case ty360 => (intro w hSw; (try dsimp only at hSw); go_simp; (try with_reducible rfl))
                                                try simp only [Act.put, List.setIfInBounds_toArray, List.set_cons_zero, List.set_cons_succ]
                                                refine take_on 39 215 (v := ?tv361) rfl rfl (by kernel_rfl) (by kernel_rfl) (by kernel_rfl) (fun _ _ _ h => h) (by rfl) ?ty361 (by assumption) ?tr361
                                                case ty361 => (intro w hSw; (try dsimp only at hSw); go_simp; (try with_reducible rfl))
                                                try simp only [Act.put, List.setIfInBounds_toArray, List.set_cons_zero, List.set_cons_succ]
                                                refine take_on 40 216 (v := ?tv362) rfl rfl (by kernel_rfl) (by kernel_rfl) (by kernel_rfl) (fun _ _ _ h => h) (by rfl) ?ty362 (by assumption) ?tr362
                                                case ty362 => (intro w hSw; (try dsimp only at hSw); go_simp; (try with_reducible rfl))
                                                try simp only [Act.put, List.setIfInBounds_toArray, List.set_cons_zero, List.set_cons_succ]
                                                refine take_on 41 217 (v := ?tv363) rfl rfl (by kernel_rfl) (by kernel_rfl) (by kernel_rfl) (fun _ _ _ h => h) (by rfl) ?ty363 (by assumption) ?tr363
                                                case ty363 => (intro w hSw; (try dsimp only at hSw); go_simp; (try with_reducible rfl))
                                                try simp only [Act.put, List.setIfInBounds_toArray, List.set_cons_zero, List.set_cons_succ]
                                                refine take_on 42 218 (v := ?tv364) rfl rfl (by kernel_rfl) (by kernel_rfl) (by kernel_rfl) (fun _ _ _ h => h) (by rfl) ?ty364 (by assumption) ?tr364
                                                case ty364 => (intro w hSw; (try dsimp only at hSw); go_simp; (try with_reducible rfl))
                                                try simp only [Act.put, List.setIfInBounds_toArray, List.set_cons_zero, List.set_cons_succ]
                                                refine take_on 43 219 (v := ?tv365) rfl rfl (by kernel_rfl) (by kernel_rfl) (by kernel_rfl) (fun _ _ _ h => h) (by rfl) ?ty365 (by assumption) ?tr365
                                                case ty365 => (intro w hSw; (try dsimp only at hSw); go_simp; (try with_reducible rfl))
                                                try simp only [Act.put, List.setIfInBounds_toArray, List.set_cons_zero, List.set_cons_succ]
                                                refine wpAnyH_done (by kernel_rfl) ?_ _
                                                go_wp2_with fail
                                                exact ⟨⟨k + 1, by go_num, hki2, by rw [HTY.out]; intro z hz; rcases List.mem_append.1 hz with q | q; exact HAY.out z q; rw [List.mem_singleton.1 q]; exact ⟨E2.out, E3.out, fun q => E5.out q.2⟩, HBY.out.drew⟩, by simp [intOf]; omega⟩

                                          · have f4 : (y.d == x.d) = false := by simp [e4]
                                            have E4 := Lib.hid e4
                                            clear e4
                                            as_aux_lemma =>
                                              refine wp_region_held_drew (S := fun w' => w'.cell? ⟨ga, oa + k * 6, none⟩ = some (.int .i64 y.d) ∧ w'.cell? ⟨ga, oa + k * 6 + 1, none⟩ = some (.string y.e.name) ∧ w'.cell? ⟨ga, oa + k * 6 + 2, none⟩ = some (.int .i64 y.e.node) ∧ w'.cell? ⟨ga, oa + k * 6 + 4, none⟩ = some (.int .i64 y.e.cookie) ∧ w'.cell? ⟨ga, oa + i * 6, none⟩ = some (.int .i64 x.d) ∧ w'.cell? ⟨B, 0, none⟩ = some (.string x.e.name) ∧ w'.cell? ⟨B, 1, none⟩ = some (.int .i64 x.e.node) ∧ w'.cell? ⟨B, 3, none⟩ = some (.int .i64 x.e.cookie)) (by kernel_rfl) HS3.out (fun hHeld => ?_)
                                              refine take_on 0 176 (v := ?tv366) rfl rfl (by kernel_rfl) (by kernel_rfl) (by kernel_rfl) (fun _ _ _ h => h) (by rfl) ?ty366 (by assumption) ?tr366
                                              case ty366 => (intro w hSw; (try dsimp only at hSw); go_simp; (try with_reducible rfl))
                                              try simp only [Act.put, List.setIfInBounds_toArray, List.set_cons_zero, List.set_cons_succ]
                                              refine take_on 1 177 (v := ?tv367) rfl rfl (by kernel_rfl) (by kernel_rfl) (by kernel_rfl) (fun _ _ _ h => h) (by rfl) ?ty367 (by assumption) ?tr367
                                              case ty367 => (intro w hSw; (try dsimp only at hSw); go_simp; (try with_reducible rfl))
                                              try simp only [Act.put, List.setIfInBounds_toArray, List.set_cons_zero, List.set_cons_succ]
                                              refine take_on 2 178 (v := ?tv368) rfl rfl (by kernel_rfl) (by kernel_rfl) (by kernel_rfl) (fun _ _ _ h => h) (by rfl) ?ty368 (by assumption) ?tr368
                                              case ty368 => (intro w hSw; (try dsimp only at hSw); go_simp; (try with_reducible rfl))
                                              try simp only [Act.put, List.setIfInBounds_toArray, List.set_cons_zero, List.set_cons_succ]
                                              refine take_on 3 179 (v := ?tv369) rfl rfl (by kernel_rfl) (by kernel_rfl) (by kernel_rfl) (fun _ _ _ h => h) (by rfl) ?ty369 (by assumption) ?tr369
                                              case ty369 => (intro w hSw; (try dsimp only at hSw); go_simp; (try with_reducible rfl))
                                              try simp only [Act.put, List.setIfInBounds_toArray, List.set_cons_zero, List.set_cons_succ]
                                              refine take_on 4 180 (v := ?tv370) rfl rfl (by kernel_rfl) (by kernel_rfl) (by kernel_rfl) (fun _ _ _ h => h) (by rfl) ?ty370 (by assumption) ?tr370
                                              case ty370 => (intro w hSw; (try dsimp only at hSw); go_simp; (try with_reducible rfl))
                                              try simp only [Act.put, List.setIfInBounds_toArray, List.set_cons_zero, List.set_cons_succ]
                                              refine take_on 5 181 (v := ?tv371) rfl rfl (by kernel_rfl) (by kernel_rfl) (by kernel_rfl) (fun _ _ _ h => h) (by rfl) ?ty371 (by assumption) ?tr371
                                              case ty371 => (intro w hSw; (try dsimp only at hSw); go_simp; (try with_reducible rfl))
                                              try simp only [Act.put, List.setIfInBounds_toArray, List.set_cons_zero, List.set_cons_succ]
                                              refine take_on 6 182 (v := ?tv372) rfl rfl (by kernel_rfl) (by kernel_rfl) (by kernel_rfl) (fun _ _ _ h => h) (by rfl) ?ty372 (by assumption) ?tr372
                                              case ty372 => (intro w hSw; (try dsimp only at hSw); go_simp; (try with_reducible rfl))
                                              try simp only [Act.put, List.setIfInBounds_toArray, List.set_cons_zero, List.set_cons_succ]
                                              refine take_on 7 183 (v := ?tv373) rfl rfl (by kernel_rfl) (by kernel_rfl) (by kernel_rfl) (fun _ _ _ h => h) (by rfl) ?ty373 (by assumption) ?tr373
                                              case ty373 => (intro w hSw; (try dsimp only at hSw); go_simp; (try with_reducible rfl))
                                              try simp only [Act.put, List.setIfInBounds_toArray, List.set_cons_zero, List.set_cons_succ]
                                              refine take_on 8 184 (v := ?tv374) rfl rfl (by kernel_rfl) (by kernel_rfl) (by kernel_rfl) (fun _ _ _ h => h) (by rfl) ?ty374 (by assumption) ?tr374
                                              case ty374 => (intro w hSw; (try dsimp only at hSw); go_simp; (try with_reducible rfl))
                                              try simp only [Act.put, List.setIfInBounds_toArray, List.set_cons_zero, List.set_cons_succ]
                                              refine take_on 9 185 (v := ?tv375) rfl rfl (by kernel_rfl) (by kernel_rfl) (by kernel_rfl) (fun _ _ _ h => h) (by rfl) ?ty375 (by assumption) ?tr375
                                              case ty375 => (intro w hSw; (try dsimp only at hSw); go_simp; (try with_reducible rfl))
                                              try simp only [Act.put, List.setIfInBounds_toArray, List.set_cons_zero, List.set_cons_succ]
                                              refine take_on 10 186 (v := ?tv376) rfl rfl (by kernel_rfl) (by kernel_rfl) (by kernel_rfl) (fun _ _ _ h => h) (by rfl) ?ty376 (by assumption) ?tr376
                                              case ty376 => (intro w hSw; (try dsimp only at hSw); go_simp; (try with_reducible rfl))
                                              try simp only [Act.put, List.setIfInBounds_toArray, List.set_cons_zero, List.set_cons_succ]
                                              refine take_on 11 187 (v := ?tv377) rfl rfl (by kernel_rfl) (by kernel_rfl) (by kernel_rfl) (fun _ _ _ h => h) (by rfl) ?ty377 (by assumption) ?tr377
                                              case ty377 => (intro w hSw; (try dsimp only at hSw); go_simp; (try with_reducible rfl))
                                              try simp only [Act.put, List.setIfInBounds_toArray, List.set_cons_zero, List.set_cons_succ]
                                              refine take_on 12 188 (v := ?tv378) rfl rfl (by kernel_rfl) (by kernel_rfl) (by kernel_rfl) (fun _ _ _ h => h) (by rfl) ?ty378 (by assumption) ?tr378
                                              case ty378 => (intro w hSw; (try dsimp only at hSw); go_simp; (try with_reducible rfl))
                                              try simp only [Act.put, List.setIfInBounds_toArray, List.set_cons_zero, List.set_cons_succ]
                                              refine take_on 13 189 (v := ?tv379) rfl rfl (by kernel_rfl) (by kernel_rfl) (by kernel_rfl) (fun _ _ _ h => h) (by rfl) ?ty379 (by assumption) ?tr379
                                              case ty379 => (intro w hSw; (try dsimp only at hSw); go_simp; (try with_reducible rfl))
                                              try simp only [Act.put, List.setIfInBounds_toArray, List.set_cons_zero, List.set_cons_succ]
                                              refine take_on 14 190 (v := ?tv380) rfl rfl (by kernel_rfl) (by kernel_rfl) (by kernel_rfl) (fun _ _ _ h => h) (by rfl) ?ty380 (by assumption) ?tr380
                                              case ty380 => (intro w hSw; (try dsimp only at hSw); go_simp; (try with_reducible rfl))
                                              try simp only [Act.put, List.setIfInBounds_toArray, List.set_cons_zero, List.set_cons_succ]
                                              refine take_on 15 191 (v := ?tv381) rfl rfl (by kernel_rfl) (by kernel_rfl) (by kernel_rfl) (fun _ _ _ h => h) (by rfl) ?ty381 (by assumption) ?tr381
                                              case ty381 => (intro w hSw; (try dsimp only at hSw); go_simp; (try with_reducible rfl))
                                              try simp only [Act.put, List.setIfInBounds_toArray, List.set_cons_zero, List.set_cons_succ]
                                              refine take_on 16 192 (v := ?tv382) rfl rfl (by kernel_rfl) (by kernel_rfl) (by kernel_rfl) (fun _ _ _ h => h) (by rfl) ?ty382 (by assumption) ?tr382
                                              case ty382 => (intro w hSw; (try dsimp only at hSw); go_simp; (try with_reducible rfl))
                                              try simp only [Act.put, List.setIfInBounds_toArray, List.set_cons_zero, List.set_cons_succ]
                                              refine take_on 17 193 (v := ?tv383) rfl rfl (by kernel_rfl) (by kernel_rfl) (by kernel_rfl) (fun _ _ _ h => h) (by rfl) ?ty383 (by assumption) ?tr383
                                              case ty383 => (intro w hSw; (try dsimp only at hSw); go_simp; (try with_reducible rfl))
                                              try simp only [Act.put, List.setIfInBounds_toArray, List.set_cons_zero, List.set_cons_succ]
                                              refine take_on 18 194 (v := ?tv384) rfl rfl (by kernel_rfl) (by kernel_rfl) (by kernel_rfl) (fun _ _ _ h => h) (by rfl) ?ty384 (by assumption) ?tr384
                                              case ty384 => (intro w hSw; (try dsimp only at hSw); go_simp; (try with_reducible rfl))
                                              try simp only [Act.put, List.setIfInBounds_toArray, List.set_cons_zero, List.set_cons_succ]
                                              refine take_on 19 195 (v := ?tv385) rfl rfl (by kernel_rfl) (by kernel_rfl) (by kernel_rfl) (fun _ _ _ h => h) (by rfl) ?ty385 (by assumption) ?tr385
                                              case ty385 => (intro w hSw; (try dsimp only at hSw); go_simp; (try with_reducible rfl))
                                              try simp only [Act.put, List.setIfInBounds_toArray, List.set_cons_zero, List.set_cons_succ]
                                              refine take_on 20 196 (v := ?tv386) rfl rfl (by kernel_rfl) (by kernel_rfl) (by kernel_rfl) (fun _ _ _ h => h) (by rfl) ?ty386 (by assumption) ?tr386
                                              case ty386 => (intro w hSw; (try dsimp only at hSw); go_simp; (try with_reducible rfl))
                                              try simp only [Act.put, List.setIfInBounds_toArray, List.set_cons_zero, List.set_cons_succ]
                                              refine take_on 21 197 (v := ?tv387) rfl rfl (by kernel_rfl) (by kernel_rfl) (by kernel_rfl) (fun _ _ _ h => h) (by rfl) ?ty387 (by assumption) ?tr387
                                              case ty387 => (intro w hSw; (try dsimp only at hSw); go_simp; (try with_reducible rfl))
                                              try simp only [Act.put, List.setIfInBounds_toArray, List.set_cons_zero, List.set_cons_succ]
                                              refine take_on 22 198 (v := ?tv388) rfl rfl (by kernel_rfl) (by kernel_rfl) (by kernel_rfl) (fun _ _ _ h => h) (by rfl) ?ty388 (by assumption) ?tr388
                                              case ty388 => (intro w hSw; (try dsimp only at hSw); go_simp; (try with_reducible rfl))
                                              try simp only [Act.put, List.setIfInBounds_toArray, List.set_cons_zero, List.set_cons_succ]
                                              refine take_on 23 199 (v := ?tv389) rfl rfl (by kernel_rfl) (by kernel_rfl) (by kernel_rfl) (fun _ _ _ h => h) (by rfl) ?ty389 (by assumption) ?tr389
                                              case ty389 => (intro w hSw; (try dsimp only at hSw); go_simp; (try with_reducible rfl))
                                              try simp only [Act.put, List.setIfInBounds_toArray, List.set_cons_zero, List.set_cons_succ]
                                              refine take_on 24 200 (v := ?tv390) rfl rfl (by kernel_rfl) (by kernel_rfl) (by kernel_rfl) (fun _ _ _ h => h) (by rfl) ?ty390 (by assumption) ?tr390
                                              case ty390 => (intro w hSw; (try dsimp only at hSw); go_simp; (try with_reducible rfl))
                                              try simp only [Act.put, List.setIfInBounds_toArray, List.set_cons_zero, List.set_cons_succ]
                                              refine take_on 25 201 (v := ?tv391) rfl rfl (by kernel_rfl) (by kernel_rfl) (by kernel_rfl) (fun _ _ _ h => h) (by rfl) ?ty391 (by assumption) ?tr391
                                              case ty391 => (intro w hSw; (try dsimp only at hSw); go_simp; (try with_reducible rfl))
                                              try simp only [Act.put, List.setIfInBounds_toArray, List.set_cons_zero, List.set_cons_succ]
                                              refine take_on 26 202 (v := ?tv392) rfl rfl (by kernel_rfl) (by kernel_rfl) (by kernel_rfl) (fun _ _ _ h => h) (by rfl) ?ty392 (by assumption) ?tr392
                                              case ty392 => (intro w hSw; (try dsimp only at hSw); go_simp; (try with_reducible rfl))
                                              try simp only [Act.put, List.setIfInBounds_toArray, List.set_cons_zero, List.set_cons_succ]
                                              refine take_on 27 203 (v := ?tv393) rfl rfl (by kernel_rfl) (by kernel_rfl) (by kernel_rfl) (fun _ _ _ h => h) (by rfl) ?ty393 (by assumption) ?tr393
                                              case ty393 => (intro w hSw; (try dsimp only at hSw); go_simp; (try with_reducible rfl))
                                              try simp only [Act.put, List.setIfInBounds_toArray, List.set_cons_zero, List.set_cons_succ]
                                              refine take_on 28 204 (v := ?tv394) rfl rfl (by kernel_rfl) (by kernel_rfl) (by kernel_rfl) (fun _ _ _ h => h) (by rfl) ?ty394 (by assumption) ?tr394
                                              case ty394 => (intro w hSw; (try dsimp only at hSw); go_simp; (try with_reducible rfl))
                                              try simp only [Act.put, List.setIfInBounds_toArray, List.set_cons_zero, List.set_cons_succ]
                                              refine take_on 29 205 (v := ?tv395) rfl rfl (by kernel_rfl) (by kernel_rfl) (by kernel_rfl) (fun _ _ _ h => h) (by rfl) ?ty395 (by assumption) ?tr395
                                              case ty395 => (intro w hSw; (try dsimp only at hSw); go_simp; (try with_reducible rfl))
                                              try simp only [Act.put, List.setIfInBounds_toArray, List.set_cons_zero, List.set_cons_succ]
                                              refine take_on 30 206 (v := ?tv396) rfl rfl (by kernel_rfl) (by kernel_rfl) (by kernel_rfl) (fun _ _ _ h => h) (by rfl) ?ty396 (by assumption) ?tr396
                                              case ty396 => (intro w hSw; (try dsimp only at hSw); go_simp; (try with_reducible rfl))
                                              try simp only [Act.put, List.setIfInBounds_toArray, List.set_cons_zero, List.set_cons_succ]
                                              refine take_on 31 207 (v := ?tv397) rfl rfl (by kernel_rfl) (by kernel_rfl) (by kernel_rfl) (fun _ _ _ h => h) (by rfl) ?ty397 (by assumption) ?tr397
                                              case ty397 => (intro w hSw; (try dsimp only at hSw); go_simp; (try with_reducible rfl))
                                              try simp only [Act.put, List.setIfInBounds_toArray, List.set_cons_zero, List.set_cons_succ]
                                              refine take_on 32 208 (v := ?tv398) rfl rfl (by kernel_rfl) (by kernel_rfl) (by kernel_rfl) (fun _ _ _ h => h) (by rfl) ?ty398 (by assumption) ?tr398
                                              case ty398 => (intro w hSw; (try dsimp only at hSw); go_simp; (try with_reducible rfl))
                                              try simp only [Act.put, List.setIfInBounds_toArray, List.set_cons_zero, List.set_cons_succ]
                                              refine take_off 33 209 rfl rfl (by kernel_rfl) (by kernel_rfl) (by kernel_rfl) (fun _ _ _ h => h) (by rfl) (by assumption) ?_
                                              try simp only [Act.put, List.setIfInBounds_toArray, List.set_cons_zero, List.set_cons_succ]
                                              refine take_off 34 210 rfl rfl (by kernel_rfl) (by kernel_rfl) (by kernel_rfl) (fun _ _ _ h => h) (by rfl) (by assumption) ?_
                                              try simp only [Act.put, List.setIfInBounds_toArray, List.set_cons_zero, List.set_cons_succ]
                                              refine take_off 35 211 rfl rfl (by kernel_rfl) (by kernel_rfl) (by kernel_rfl) (fun _ _ _ h => h) (by rfl) (by assumption) ?_
                                              try simp only [Act.put, List.setIfInBounds_toArray, List.set_cons_zero, List.set_cons_succ]
                                              refine take_off 36 212 rfl rfl (by kernel_rfl) (by kernel_rfl) (by kernel_rfl) (fun _ _ _ h => h) (by rfl) (by assumption) ?_
                                              try simp only [Act.put, List.setIfInBounds_toArray, List.set_cons_zero, List.set_cons_succ]
                                              refine take_off 37 213 rfl rfl (by kernel_rfl) (by kernel_rfl) (by kernel_rfl) (fun _ _ _ h => h) (by rfl) (by assumption) ?_
                                              try simp only [Act.put, List.setIfInBounds_toArray, List.set_cons_zero, List.set_cons_succ]
                                              refine take_off 38 214 rfl rfl (by kernel_rfl) (by kernel_rfl) (by kernel_rfl) (fun _ _ _ h => h) (by rfl) (by assumption) ?_
                                              try simp only [Act.put, List.setIfInBounds_toArray, List.set_cons_zero, List.set_cons_succ]
                                              refine take_off 39 215 rfl rfl (by kernel_rfl) (by kernel_rfl) (by kernel_rfl) (fun _ _ _ h => h) (by rfl) (by assumption) ?_
                                              try simp only [Act.put, List.setIfInBounds_toArray, List.set_cons_zero, List.set_cons_succ]
                                              refine take_off 40 216 rfl rfl (by kernel_rfl) (by kernel_rfl) (by kernel_rfl) (fun _ _ _ h => h) (by rfl) (by assumption) ?_
                                              try simp only [Act.put, List.setIfInBounds_toArray, List.set_cons_zero, List.set_cons_succ]
                                              refine take_off 41 217 rfl rfl (by kernel_rfl) (by kernel_rfl) (by kernel_rfl) (fun _ _ _ h => h) (by rfl) (by assumption) ?_
                                              try simp only [Act.put, List.setIfInBounds_toArray, List.set_cons_zero, List.set_cons_succ]
                                              refine take_on 42 218 (v := ?tv408) rfl rfl (by kernel_rfl) (by kernel_rfl) (by kernel_rfl) (fun _ _ _ h => h) (by rfl) ?ty408 (by assumption) ?tr408
                                              case ty408 => (intro w hSw; (try dsimp only at hSw); go_simp; (try with_reducible rfl))
                                              try simp only [Act.put, List.setIfInBounds_toArray, List.set_cons_zero, List.set_cons_succ]
                                              refine take_on 43 219 (v := ?tv409) rfl rfl (by kernel_rfl) (by kernel_rfl) (by kernel_rfl) (fun _ _ _ h => h) (by rfl) ?ty409 (by assumption) ?tr409
                                              case ty409 => (intro w hSw; (try dsimp only at hSw); go_simp; (try with_reducible rfl))
                                              try simp only [Act.put, List.setIfInBounds_toArray, List.set_cons_zero, List.set_cons_succ]
                                              refine wpAnyH_done (by kernel_rfl) ?_ _
                                              go_wp2_with fail
                                              exact ⟨⟨k + 1, by go_num, hki2, by rw [HTY.out]; intro z hz; rcases List.mem_append.1 hz with q | q; exact HAY.out z q; rw [List.mem_singleton.1 q]; exact ⟨E2.out, E3.out, fun q => E4.out q.1⟩, HBY.out.drew⟩, by simp [intOf]; omega⟩

                                    · have ek : k = i := by omega
                                      subst ek
                                      have k2 : ¬ ((k : Int) < k) := by omega
                                      go_wp2_with fail
                                      refine ⟨⟨k + 1, by go_num, hil, ?_, ?_, HBZR.out.trans (HBY.out.mono HBZR.out.size)⟩, by simp [intOf]; omega⟩
                                      · intro z hz
                                        rw [List.take_add_one, HX.out] at hz
                                        rcases List.mem_append.1 hz with q | q
                                        · exact HOK.out z q
                                        · have q' : z = x := by simpa using q
                                          rw [q']; exact HOKX.out
                                      · rw [List.take_add_one, HX.out, List.pairwise_append]
                                        refine ⟨HAP.out, by simp, fun a ha b hb => ?_⟩
                                        have q' : b = x := by simpa using hb
                                        rw [q']
                                        exact HAY.out a ha

                                · have f6 : (bh == x.e.dir) = false := by cases bh <;> cases hd : x.e.dir <;> simp_all
                                  have E6 := Lib.hid e6
                                  clear e6
                                  as_aux_lemma =>
                                    refine wp_region_held_drew (S := fun w' => w'.cell? ⟨B, 1, none⟩ = some (.int .i64 x.e.node) ∧ w'.cell? ⟨B, 2, none⟩ = some (.bool x.e.dir) ∧ w'.cell? ⟨B, 3, none⟩ = some (.int .i64 x.e.cookie) ∧ w'.cell? ⟨X, 0, none⟩ = some (.slice xa R.L.length xc)) (by kernel_rfl) (HSZ.out _ (Below.refl _ wz).drew) (fun hHeld => ?_)
                                    refine take_on 0 133 (v := ?tv410) rfl rfl (by kernel_rfl) (by kernel_rfl) (by kernel_rfl) (fun _ _ _ h => h) (by rfl) ?ty410 (by assumption) ?tr410
                                    case ty410 => (intro w hSw; (try dsimp only at hSw); go_simp; (try with_reducible rfl))
                                    try simp only [Act.put, List.setIfInBounds_toArray, List.set_cons_zero, List.set_cons_succ]
                                    refine take_on 1 134 (v := ?tv411) rfl rfl (by kernel_rfl) (by kernel_rfl) (by kernel_rfl) (fun _ _ _ h => h) (by rfl) ?ty411 (by assumption) ?tr411
                                    case ty411 => (intro w hSw; (try dsimp only at hSw); go_simp; (try with_reducible rfl))
                                    try simp only [Act.put, List.setIfInBounds_toArray, List.set_cons_zero, List.set_cons_succ]
                                    refine take_on 2 135 (v := ?tv412) rfl rfl (by kernel_rfl) (by kernel_rfl) (by kernel_rfl) (fun _ _ _ h => h) (by rfl) ?ty412 (by assumption) ?tr412
                                    case ty412 => (intro w hSw; (try dsimp only at hSw); go_simp; (try with_reducible rfl))
                                    try simp only [Act.put, List.setIfInBounds_toArray, List.set_cons_zero, List.set_cons_succ]
                                    refine take_on 3 136 (v := ?tv413) rfl rfl (by kernel_rfl) (by kernel_rfl) (by kernel_rfl) (fun _ _ _ h => h) (by rfl) ?ty413 (by assumption) ?tr413
                                    case ty413 => (intro w hSw; (try dsimp only at hSw); go_simp; (try with_reducible rfl))
                                    try simp only [Act.put, List.setIfInBounds_toArray, List.set_cons_zero, List.set_cons_succ]
                                    refine take_on 4 137 (v := ?tv414) rfl rfl (by kernel_rfl) (by kernel_rfl) (by kernel_rfl) (fun _ _ _ h => h) (by rfl) ?ty414 (by assumption) ?tr414
                                    case ty414 => (intro w hSw; (try dsimp only at hSw); go_simp; (try with_reducible rfl))
                                    try simp only [Act.put, List.setIfInBounds_toArray, List.set_cons_zero, List.set_cons_succ]
                                    refine take_on 5 138 (v := ?tv415) rfl rfl (by kernel_rfl) (by kernel_rfl) (by kernel_rfl) (fun _ _ _ h => h) (by rfl) ?ty415 (by assumption) ?tr415
                                    case ty415 => (intro w hSw; (try dsimp only at hSw); go_simp; (try with_reducible rfl))
                                    try simp only [Act.put, List.setIfInBounds_toArray, List.set_cons_zero, List.set_cons_succ]
                                    refine take_on 6 139 (v := ?tv416) rfl rfl (by kernel_rfl) (by kernel_rfl) (by kernel_rfl) (fun _ _ _ h => h) (by rfl) ?ty416 (by assumption) ?tr416
                                    case ty416 => (intro w hSw; (try dsimp only at hSw); go_simp; (try with_reducible rfl))
                                    try simp only [Act.put, List.setIfInBounds_toArray, List.set_cons_zero, List.set_cons_succ]
                                    refine take_on 7 140 (v := ?tv417) rfl rfl (by kernel_rfl) (by kernel_rfl) (by kernel_rfl) (fun _ _ _ h => h) (by rfl) ?ty417 (by assumption) ?tr417
                                    case ty417 => (intro w hSw; (try dsimp only at hSw); go_simp; (try with_reducible rfl))
                                    try simp only [Act.put, List.setIfInBounds_toArray, List.set_cons_zero, List.set_cons_succ]
                                    refine take_on 8 141 (v := ?tv418) rfl rfl (by kernel_rfl) (by kernel_rfl) (by kernel_rfl) (fun _ _ _ h => h) (by rfl) ?ty418 (by assumption) ?tr418
                                    case ty418 => (intro w hSw; (try dsimp only at hSw); go_simp; (try with_reducible rfl))
                                    try simp only [Act.put, List.setIfInBounds_toArray, List.set_cons_zero, List.set_cons_succ]
                                    refine take_on 9 142 (v := ?tv419) rfl rfl (by kernel_rfl) (by kernel_rfl) (by kernel_rfl) (fun _ _ _ h => h) (by rfl) ?ty419 (by assumption) ?tr419
                                    case ty419 => (intro w hSw; (try dsimp only at hSw); go_simp; (try with_reducible rfl))
                                    try simp only [Act.put, List.setIfInBounds_toArray, List.set_cons_zero, List.set_cons_succ]
                                    refine take_on 10 143 (v := ?tv420) rfl rfl (by kernel_rfl) (by kernel_rfl) (by kernel_rfl) (fun _ _ _ h => h) (by rfl) ?ty420 (by assumption) ?tr420
                                    case ty420 => (intro w hSw; (try dsimp only at hSw); go_simp; (try with_reducible rfl))
                                    try simp only [Act.put, List.setIfInBounds_toArray, List.set_cons_zero, List.set_cons_succ]
                                    refine take_on 11 144 (v := ?tv421) rfl rfl (by kernel_rfl) (by kernel_rfl) (by kernel_rfl) (fun _ _ _ h => h) (by rfl) ?ty421 (by assumption) ?tr421
                                    case ty421 => (intro w hSw; (try dsimp only at hSw); go_simp; (try with_reducible rfl))
                                    try simp only [Act.put, List.setIfInBounds_toArray, List.set_cons_zero, List.set_cons_succ]
                                    refine take_on 12 145 (v := ?tv422) rfl rfl (by kernel_rfl) (by kernel_rfl) (by kernel_rfl) (fun _ _ _ h => h) (by rfl) ?ty422 (by assumption) ?tr422
                                    case ty422 => (intro w hSw; (try dsimp only at hSw); go_simp; (try with_reducible rfl))
                                    try simp only [Act.put, List.setIfInBounds_toArray, List.set_cons_zero, List.set_cons_succ]
                                    refine take_on 13 146 (v := ?tv423) rfl rfl (by kernel_rfl) (by kernel_rfl) (by kernel_rfl) (fun _ _ _ h => h) (by rfl) ?ty423 (by assumption) ?tr423
                                    case ty423 => (intro w hSw; (try dsimp only at hSw); go_simp; (try with_reducible rfl))
                                    try simp only [Act.put, List.setIfInBounds_toArray, List.set_cons_zero, List.set_cons_succ]
                                    refine take_on 14 147 (v := ?tv424) rfl rfl (by kernel_rfl) (by kernel_rfl) (by kernel_rfl) (fun _ _ _ h => h) (by rfl) ?ty424 (by assumption) ?tr424
                                    case ty424 => (intro w hSw; (try dsimp only at hSw); go_simp; (try with_reducible rfl))
                                    try simp only [Act.put, List.setIfInBounds_toArray, List.set_cons_zero, List.set_cons_succ]
                                    refine take_on 15 148 (v := ?tv425) rfl rfl (by kernel_rfl) (by kernel_rfl) (by kernel_rfl) (fun _ _ _ h => h) (by rfl) ?ty425 (by assumption) ?tr425
                                    case ty425 => (intro w hSw; (try dsimp only at hSw); go_simp; (try with_reducible rfl))
                                    try simp only [Act.put, List.setIfInBounds_toArray, List.set_cons_zero, List.set_cons_succ]
                                    refine take_on 16 149 (v := ?tv426) rfl rfl (by kernel_rfl) (by kernel_rfl) (by kernel_rfl) (fun _ _ _ h => h) (by rfl) ?ty426 (by assumption) ?tr426
                                    case ty426 => (intro w hSw; (try dsimp only at hSw); go_simp; (try with_reducible rfl))
                                    try simp only [Act.put, List.setIfInBounds_toArray, List.set_cons_zero, List.set_cons_succ]
                                    refine take_on 17 150 (v := ?tv427) rfl rfl (by kernel_rfl) (by kernel_rfl) (by kernel_rfl) (fun _ _ _ h => h) (by rfl) ?ty427 (by assumption) ?tr427
                                    case ty427 => (intro w hSw; (try dsimp only at hSw); go_simp; (try with_reducible rfl))
                                    try simp only [Act.put, List.setIfInBounds_toArray, List.set_cons_zero, List.set_cons_succ]
                                    refine take_on 18 151 (v := ?tv428) rfl rfl (by kernel_rfl) (by kernel_rfl) (by kernel_rfl) (fun _ _ _ h => h) (by rfl) ?ty428 (by assumption) ?tr428
                                    case ty428 => (intro w hSw; (try dsimp only at hSw); go_simp; (try with_reducible rfl))
                                    try simp only [Act.put, List.setIfInBounds_toArray, List.set_cons_zero, List.set_cons_succ]
                                    refine take_on 19 152 (v := ?tv429) rfl rfl (by kernel_rfl) (by kernel_rfl) (by kernel_rfl) (fun _ _ _ h => h) (by rfl) ?ty429 (by assumption) ?tr429
                                    case ty429 => (intro w hSw; (try dsimp only at hSw); go_simp; (try with_reducible rfl))
                                    try simp only [Act.put, List.setIfInBounds_toArray, List.set_cons_zero, List.set_cons_succ]
                                    refine take_on 20 153 (v := ?tv430) rfl rfl (by kernel_rfl) (by kernel_rfl) (by kernel_rfl) (fun _ _ _ h => h) (by rfl) ?ty430 (by assumption) ?tr430
                                    case ty430 => (intro w hSw; (try dsimp only at hSw); go_simp; (try with_reducible rfl))
                                    try simp only [Act.put, List.setIfInBounds_toArray, List.set_cons_zero, List.set_cons_succ]
                                    refine take_on 21 154 (v := ?tv431) rfl rfl (by kernel_rfl) (by kernel_rfl) (by kernel_rfl) (fun _ _ _ h => h) (by rfl) ?ty431 (by assumption) ?tr431
                                    case ty431 => (intro w hSw; (try dsimp only at hSw); go_simp; (try with_reducible rfl))
                                    try simp only [Act.put, List.setIfInBounds_toArray, List.set_cons_zero, List.set_cons_succ]
                                    refine take_on 22 155 (v := ?tv432) rfl rfl (by kernel_rfl) (by kernel_rfl) (by kernel_rfl) (fun _ _ _ h => h) (by rfl) ?ty432 (by assumption) ?tr432
                                    case ty432 => (intro w hSw; (try dsimp only at hSw); go_simp; (try with_reducible rfl))
                                    try simp only [Act.put, List.setIfInBounds_toArray, List.set_cons_zero, List.set_cons_succ]
                                    refine take_on 23 156 (v := ?tv433) rfl rfl (by kernel_rfl) (by kernel_rfl) (by kernel_rfl) (fun _ _ _ h => h) (by rfl) ?ty433 (by assumption) ?tr433
                                    case ty433 => (intro w hSw; (try dsimp only at hSw); go_simp; (try with_reducible rfl))
                                    try simp only [Act.put, List.setIfInBounds_toArray, List.set_cons_zero, List.set_cons_succ]
                                    refine take_on 24 157 (v := ?tv434) rfl rfl (by kernel_rfl) (by kernel_rfl) (by kernel_rfl) (fun _ _ _ h => h) (by rfl) ?ty434 (by assumption) ?tr434
                                    case ty434 => (intro w hSw; (try dsimp only at hSw); go_simp; (try with_reducible rfl))
                                    try simp only [Act.put, List.setIfInBounds_toArray, List.set_cons_zero, List.set_cons_succ]
                                    refine take_on 25 158 (v := ?tv435) rfl rfl (by kernel_rfl) (by kernel_rfl) (by kernel_rfl) (fun _ _ _ h => h) (by rfl) ?ty435 (by assumption) ?tr435
                                    case ty435 => (intro w hSw; (try dsimp only at hSw); go_simp; (try with_reducible rfl))
                                    try simp only [Act.put, List.setIfInBounds_toArray, List.set_cons_zero, List.set_cons_succ]
                                    refine take_on 26 159 (v := ?tv436) rfl rfl (by kernel_rfl) (by kernel_rfl) (by kernel_rfl) (fun _ _ _ h => h) (by rfl) ?ty436 (by assumption) ?tr436
                                    case ty436 => (intro w hSw; (try dsimp only at hSw); go_simp; (try with_reducible rfl))
                                    try simp only [Act.put, List.setIfInBounds_toArray, List.set_cons_zero, List.set_cons_succ]
                                    refine take_on 27 160 (v := ?tv437) rfl rfl (by kernel_rfl) (by kernel_rfl) (by kernel_rfl) (fun _ _ _ h => h) (by rfl) ?ty437 (by assumption) ?tr437
                                    case ty437 => (intro w hSw; (try dsimp only at hSw); go_simp; (try with_reducible rfl))
                                    try simp only [Act.put, List.setIfInBounds_toArray, List.set_cons_zero, List.set_cons_succ]
                                    refine take_on 28 161 (v := ?tv438) rfl rfl (by kernel_rfl) (by kernel_rfl) (by kernel_rfl) (fun _ _ _ h => h) (by rfl) ?ty438 (by assumption) ?tr438
                                    case ty438 => (intro w hSw; (try dsimp only at hSw); go_simp; (try with_reducible rfl))
                                    try simp only [Act.put, List.setIfInBounds_toArray, List.set_cons_zero, List.set_cons_succ]
                                    refine take_on 29 162 (v := ?tv439) rfl rfl (by kernel_rfl) (by kernel_rfl) (by kernel_rfl) (fun _ _ _ h => h) (by rfl) ?ty439 (by assumption) ?tr439
                                    case ty439 => (intro w hSw; (try dsimp only at hSw); go_simp; (try with_reducible rfl))
                                    try simp only [Act.put, List.setIfInBounds_toArray, List.set_cons_zero, List.set_cons_succ]
                                    refine take_on 30 163 (v := ?tv440) rfl rfl (by kernel_rfl) (by kernel_rfl) (by kernel_rfl) (fun _ _ _ h => h) (by rfl) ?ty440 (by assumption) ?tr440
                                    case ty440 => (intro w hSw; (try dsimp only at hSw); go_simp; (try with_reducible rfl))
                                    try simp only [Act.put, List.setIfInBounds_toArray, List.set_cons_zero, List.set_cons_succ]
                                    refine take_on 31 164 (v := ?tv441) rfl rfl (by kernel_rfl) (by kernel_rfl) (by kernel_rfl) (fun _ _ _ h => h) (by rfl) ?ty441 (by assumption) ?tr441
                                    case ty441 => (intro w hSw; (try dsimp only at hSw); go_simp; (try with_reducible rfl))
                                    try simp only [Act.put, List.setIfInBounds_toArray, List.set_cons_zero, List.set_cons_succ]
                                    refine take_on 32 165 (v := ?tv442) rfl rfl (by kernel_rfl) (by kernel_rfl) (by kernel_rfl) (fun _ _ _ h => h) (by rfl) ?ty442 (by assumption) ?tr442
                                    case ty442 => (intro w hSw; (try dsimp only at hSw); go_simp; (try with_reducible rfl))
                                    try simp only [Act.put, List.setIfInBounds_toArray, List.set_cons_zero, List.set_cons_succ]
                                    refine take_on 34 167 (v := ?tv443) rfl rfl (by kernel_rfl) (by kernel_rfl) (by kernel_rfl) (fun _ _ _ h => h) (by rfl) ?ty443 (by assumption) ?tr443
                                    case ty443 => (intro w hSw; (try dsimp only at hSw); go_simp; (try with_reducible rfl))
                                    try simp only [Act.put, List.setIfInBounds_toArray, List.set_cons_zero, List.set_cons_succ]
                                    refine take_on 35 168 (v := ?tv444) rfl rfl (by kernel_rfl) (by kernel_rfl) (by kernel_rfl) (fun _ _ _ h => h) (by rfl) ?ty444 (by assumption) ?tr444
                                    case ty444 => (intro w hSw; (try dsimp only at hSw); go_simp; (try with_reducible rfl))
                                    try simp only [Act.put, List.setIfInBounds_toArray, List.set_cons_zero, List.set_cons_succ]
                                    refine wpAnyH_ready (rs := [33]) (by kernel_rfl) (by simp) ?_
                                    refine AllReadyH.cons rfl (fun K hK => ?_) AllReadyH.nil
                                    go_simp
                                    refine (HHX.out wz.drew (HBZR.out.drew)).mono ?_
                                    rintro e w8 ⟨rfl, hb8⟩
                                    have HB8 := Lib.hid ((Below.refl _ wz).drew.trans hb8)
                                    clear hb8
                                    simp only []
                                    refine hK.out _ _ (HSZ.out _ HB8.out) (fun hHeld => ?_)
                                    clear hK K
                                    try simp only [Act.put, List.setIfInBounds_toArray, List.set_cons_zero, List.set_cons_succ]
                                    refine take_on 36 169 (v := ?tv445) rfl rfl (by kernel_rfl) (by kernel_rfl) (by kernel_rfl) (fun _ _ _ h => h) (by rfl) ?ty445 (by assumption) ?tr445
                                    case ty445 => (intro w hSw; (try dsimp only at hSw); go_simp; (try with_reducible rfl))
                                    try simp only [Act.put, List.setIfInBounds_toArray, List.set_cons_zero, List.set_cons_succ]
                                    refine take_on 37 170 (v := ?tv446) rfl rfl (by kernel_rfl) (by kernel_rfl) (by kernel_rfl) (fun _ _ _ h => h) (by rfl) ?ty446 (by assumption) ?tr446
                                    case ty446 => (intro w hSw; (try dsimp only at hSw); go_simp; (try with_reducible rfl))
                                    try simp only [Act.put, List.setIfInBounds_toArray, List.set_cons_zero, List.set_cons_succ]
                                    refine wpAnyH_done (by kernel_rfl) ?_ _
                                    go_wp2_with fail
                                    go_ret
                                    exact HNO.out _ (HB8.out) (fun q => E6.out (by rw [← q.2.2.2.2.2, ← HBH.out]; congr 1; exact propext (HMEM.out _)))

                      · have f0 : (R.err != 0) = true := by simp [e0]
                        have E0 := Lib.hid e0
                        clear e0
                        as_aux_lemma =>
                          refine wp_region_held_drew (S := fun w' => w'.cell? ⟨B, 1, none⟩ = some (.int .i64 x.e.node) ∧ w'.cell? ⟨B, 2, none⟩ = some (.bool x.e.dir) ∧ w'.cell? ⟨B, 3, none⟩ = some (.int .i64 x.e.cookie) ∧ w'.cell? ⟨X, 0, none⟩ = some (.slice xa R.L.length xc)) (by kernel_rfl) (HSZ.out _ (Below.refl _ wz).drew) (fun hHeld => ?_)
                          refine take_on 0 133 (v := ?tv447) rfl rfl (by kernel_rfl) (by kernel_rfl) (by kernel_rfl) (fun _ _ _ h => h) (by rfl) ?ty447 (by assumption) ?tr447
                          case ty447 => (intro w hSw; (try dsimp only at hSw); go_simp; (try with_reducible rfl))
                          try simp only [Act.put, List.setIfInBounds_toArray, List.set_cons_zero, List.set_cons_succ]
                          refine take_on 1 134 (v := ?tv448) rfl rfl (by kernel_rfl) (by kernel_rfl) (by kernel_rfl) (fun _ _ _ h => h) (by rfl) ?ty448 (by assumption) ?tr448
                          case ty448 => (intro w hSw; (try dsimp only at hSw); go_simp; (try with_reducible rfl))
                          try simp only [Act.put, List.setIfInBounds_toArray, List.set_cons_zero, List.set_cons_succ]
                          refine take_on 2 135 (v := ?tv449) rfl rfl (by kernel_rfl) (by kernel_rfl) (by kernel_rfl) (fun _ _ _ h => h) (by rfl) ?ty449 (by assumption) ?tr449
                          case ty449 => (intro w hSw; (try dsimp only at hSw); go_simp; (try with_reducible rfl))
                          try simp only [Act.put, List.setIfInBounds_toArray, List.set_cons_zero, List.set_cons_succ]
                          refine take_off 3 136 rfl rfl (by kernel_rfl) (by kernel_rfl) (by kernel_rfl) (fun _ _ _ h => h) (by rfl) (by assumption) ?_
                          try simp only [Act.put, List.setIfInBounds_toArray, List.set_cons_zero, List.set_cons_succ]
                          refine take_off 4 137 rfl rfl (by kernel_rfl) (by kernel_rfl) (by kernel_rfl) (fun _ _ _ h => h) (by rfl) (by assumption) ?_
                          try simp only [Act.put, List.setIfInBounds_toArray, List.set_cons_zero, List.set_cons_succ]
                          refine take_off 5 138 rfl rfl (by kernel_rfl) (by kernel_rfl) (by kernel_rfl) (fun _ _ _ h => h) (by rfl) (by assumption) ?_
                          try simp only [Act.put, List.setIfInBounds_toArray, List.set_cons_zero, List.set_cons_succ]
                          refine take_off 6 139 rfl rfl (by kernel_rfl) (by kernel_rfl) (by kernel_rfl) (fun _ _ _ h => h) (by rfl) (by assumption) ?_
                          try simp only [Act.put, List.setIfInBounds_toArray, List.set_cons_zero, List.set_cons_succ]
                          refine take_on 7 140 (v := ?tv454) rfl rfl (by kernel_rfl) (by kernel_rfl) (by kernel_rfl) (fun _ _ _ h => h) (by rfl) ?ty454 (by assumption) ?tr454
                          case ty454 => (intro w hSw; (try dsimp only at hSw); go_simp; (try with_reducible rfl))
                          try simp only [Act.put, List.setIfInBounds_toArray, List.set_cons_zero, List.set_cons_succ]
                          refine take_on 8 141 (v := ?tv455) rfl rfl (by kernel_rfl) (by kernel_rfl) (by kernel_rfl) (fun _ _ _ h => h) (by rfl) ?ty455 (by assumption) ?tr455
                          case ty455 => (intro w hSw; (try dsimp only at hSw); go_simp; (try with_reducible rfl))
                          try simp only [Act.put, List.setIfInBounds_toArray, List.set_cons_zero, List.set_cons_succ]
                          refine take_off 9 142 rfl rfl (by kernel_rfl) (by kernel_rfl) (by kernel_rfl) (fun _ _ _ h => h) (by rfl) (by assumption) ?_
                          try simp only [Act.put, List.setIfInBounds_toArray, List.set_cons_zero, List.set_cons_succ]
                          refine take_off 10 143 rfl rfl (by kernel_rfl) (by kernel_rfl) (by kernel_rfl) (fun _ _ _ h => h) (by rfl) (by assumption) ?_
                          try simp only [Act.put, List.setIfInBounds_toArray, List.set_cons_zero, List.set_cons_succ]
                          refine take_off 11 144 rfl rfl (by kernel_rfl) (by kernel_rfl) (by kernel_rfl) (fun _ _ _ h => h) (by rfl) (by assumption) ?_
                          try simp only [Act.put, List.setIfInBounds_toArray, List.set_cons_zero, List.set_cons_succ]
                          refine take_on 12 145 (v := ?tv459) rfl rfl (by kernel_rfl) (by kernel_rfl) (by kernel_rfl) (fun _ _ _ h => h) (by rfl) ?ty459 (by assumption) ?tr459
                          case ty459 => (intro w hSw; (try dsimp only at hSw); go_simp; (try with_reducible rfl))
                          try simp only [Act.put, List.setIfInBounds_toArray, List.set_cons_zero, List.set_cons_succ]
                          refine take_on 13 146 (v := ?tv460) rfl rfl (by kernel_rfl) (by kernel_rfl) (by kernel_rfl) (fun _ _ _ h => h) (by rfl) ?ty460 (by assumption) ?tr460
                          case ty460 => (intro w hSw; (try dsimp only at hSw); go_simp; (try with_reducible rfl))
                          try simp only [Act.put, List.setIfInBounds_toArray, List.set_cons_zero, List.set_cons_succ]
                          refine take_off 14 147 rfl rfl (by kernel_rfl) (by kernel_rfl) (by kernel_rfl) (fun _ _ _ h => h) (by rfl) (by assumption) ?_
                          try simp only [Act.put, List.setIfInBounds_toArray, List.set_cons_zero, List.set_cons_succ]
                          refine take_off 15 148 rfl rfl (by kernel_rfl) (by kernel_rfl) (by kernel_rfl) (fun _ _ _ h => h) (by rfl) (by assumption) ?_
                          try simp only [Act.put, List.setIfInBounds_toArray, List.set_cons_zero, List.set_cons_succ]
                          refine take_off 16 149 rfl rfl (by kernel_rfl) (by kernel_rfl) (by kernel_rfl) (fun _ _ _ h => h) (by rfl) (by assumption) ?_
                          try simp only [Act.put, List.setIfInBounds_toArray, List.set_cons_zero, List.set_cons_succ]
                          refine take_on 17 150 (v := ?tv464) rfl rfl (by kernel_rfl) (by kernel_rfl) (by kernel_rfl) (fun _ _ _ h => h) (by rfl) ?ty464 (by assumption) ?tr464
                          case ty464 => (intro w hSw; (try dsimp only at hSw); go_simp; (try with_reducible rfl))
                          try simp only [Act.put, List.setIfInBounds_toArray, List.set_cons_zero, List.set_cons_succ]
                          refine take_on 18 151 (v := ?tv465) rfl rfl (by kernel_rfl) (by kernel_rfl) (by kernel_rfl) (fun _ _ _ h => h) (by rfl) ?ty465 (by assumption) ?tr465
                          case ty465 => (intro w hSw; (try dsimp only at hSw); go_simp; (try with_reducible rfl))
                          try simp only [Act.put, List.setIfInBounds_toArray, List.set_cons_zero, List.set_cons_succ]
                          refine take_off 19 152 rfl rfl (by kernel_rfl) (by kernel_rfl) (by kernel_rfl) (fun _ _ _ h => h) (by rfl) (by assumption) ?_
                          try simp only [Act.put, List.setIfInBounds_toArray, List.set_cons_zero, List.set_cons_succ]
                          refine take_off 20 153 rfl rfl (by kernel_rfl) (by kernel_rfl) (by kernel_rfl) (fun _ _ _ h => h) (by rfl) (by assumption) ?_
                          try simp only [Act.put, List.setIfInBounds_toArray, List.set_cons_zero, List.set_cons_succ]
                          refine take_off 21 154 rfl rfl (by kernel_rfl) (by kernel_rfl) (by kernel_rfl) (fun _ _ _ h => h) (by rfl) (by assumption) ?_
                          try simp only [Act.put, List.setIfInBounds_toArray, List.set_cons_zero, List.set_cons_succ]
                          refine take_on 22 155 (v := ?tv469) rfl rfl (by kernel_rfl) (by kernel_rfl) (by kernel_rfl) (fun _ _ _ h => h) (by rfl) ?ty469 (by assumption) ?tr469
                          case ty469 => (intro w hSw; (try dsimp only at hSw); go_simp; (try with_reducible rfl))
                          try simp only [Act.put, List.setIfInBounds_toArray, List.set_cons_zero, List.set_cons_succ]
                          refine take_on 23 156 (v := ?tv470) rfl rfl (by kernel_rfl) (by kernel_rfl) (by kernel_rfl) (fun _ _ _ h => h) (by rfl) ?ty470 (by assumption) ?tr470
                          case ty470 => (intro w hSw; (try dsimp only at hSw); go_simp; (try with_reducible rfl))
                          try simp only [Act.put, List.setIfInBounds_toArray, List.set_cons_zero, List.set_cons_succ]
                          refine take_off 24 157 rfl rfl (by kernel_rfl) (by kernel_rfl) (by kernel_rfl) (fun _ _ _ h => h) (by rfl) (by assumption) ?_
                          try simp only [Act.put, List.setIfInBounds_toArray, List.set_cons_zero, List.set_cons_succ]
                          refine take_off 25 158 rfl rfl (by kernel_rfl) (by kernel_rfl) (by kernel_rfl) (fun _ _ _ h => h) (by rfl) (by assumption) ?_
                          try simp only [Act.put, List.setIfInBounds_toArray, List.set_cons_zero, List.set_cons_succ]
                          refine take_off 26 159 rfl rfl (by kernel_rfl) (by kernel_rfl) (by kernel_rfl) (fun _ _ _ h => h) (by rfl) (by assumption) ?_
                          try simp only [Act.put, List.setIfInBounds_toArray, List.set_cons_zero, List.set_cons_succ]
                          refine take_off 27 160 rfl rfl (by kernel_rfl) (by kernel_rfl) (by kernel_rfl) (fun _ _ _ h => h) (by rfl) (by assumption) ?_
                          try simp only [Act.put, List.setIfInBounds_toArray, List.set_cons_zero, List.set_cons_succ]
                          refine take_on 28 161 (v := ?tv475) rfl rfl (by kernel_rfl) (by kernel_rfl) (by kernel_rfl) (fun _ _ _ h => h) (by rfl) ?ty475 (by assumption) ?tr475
                          case ty475 => (intro w hSw; (try dsimp only at hSw); go_simp; (try with_reducible rfl))
                          try simp only [Act.put, List.setIfInBounds_toArray, List.set_cons_zero, List.set_cons_succ]
                          refine take_on 29 162 (v := ?tv476) rfl rfl (by kernel_rfl) (by kernel_rfl) (by kernel_rfl) (fun _ _ _ h => h) (by rfl) ?ty476 (by assumption) ?tr476
                          case ty476 => (intro w hSw; (try dsimp only at hSw); go_simp; (try with_reducible rfl))
                          try simp only [Act.put, List.setIfInBounds_toArray, List.set_cons_zero, List.set_cons_succ]
                          refine take_off 30 163 rfl rfl (by kernel_rfl) (by kernel_rfl) (by kernel_rfl) (fun _ _ _ h => h) (by rfl) (by assumption) ?_
                          try simp only [Act.put, List.setIfInBounds_toArray, List.set_cons_zero, List.set_cons_succ]
                          refine take_off 31 164 rfl rfl (by kernel_rfl) (by kernel_rfl) (by kernel_rfl) (fun _ _ _ h => h) (by rfl) (by assumption) ?_
                          try simp only [Act.put, List.setIfInBounds_toArray, List.set_cons_zero, List.set_cons_succ]
                          refine take_off 32 165 rfl rfl (by kernel_rfl) (by kernel_rfl) (by kernel_rfl) (fun _ _ _ h => h) (by rfl) (by assumption) ?_
                          try simp only [Act.put, List.setIfInBounds_toArray, List.set_cons_zero, List.set_cons_succ]
                          refine take_off 33 166 rfl rfl (by kernel_rfl) (by kernel_rfl) (by kernel_rfl) (fun _ _ _ h => h) (by rfl) (by assumption) ?_
                          try simp only [Act.put, List.setIfInBounds_toArray, List.set_cons_zero, List.set_cons_succ]
                          refine take_off 34 167 rfl rfl (by kernel_rfl) (by kernel_rfl) (by kernel_rfl) (fun _ _ _ h => h) (by rfl) (by assumption) ?_
                          try simp only [Act.put, List.setIfInBounds_toArray, List.set_cons_zero, List.set_cons_succ]
                          refine take_off 35 168 rfl rfl (by kernel_rfl) (by kernel_rfl) (by kernel_rfl) (fun _ _ _ h => h) (by rfl) (by assumption) ?_
                          try simp only [Act.put, List.setIfInBounds_toArray, List.set_cons_zero, List.set_cons_succ]
                          refine take_off 36 169 rfl rfl (by kernel_rfl) (by kernel_rfl) (by kernel_rfl) (fun _ _ _ h => h) (by rfl) (by assumption) ?_
                          try simp only [Act.put, List.setIfInBounds_toArray, List.set_cons_zero, List.set_cons_succ]
                          refine take_on 37 170 (v := ?tv484) rfl rfl (by kernel_rfl) (by kernel_rfl) (by kernel_rfl) (fun _ _ _ h => h) (by rfl) ?ty484 (by assumption) ?tr484
                          case ty484 => (intro w hSw; (try dsimp only at hSw); go_simp; (try with_reducible rfl))
                          try simp only [Act.put, List.setIfInBounds_toArray, List.set_cons_zero, List.set_cons_succ]
                          refine wpAnyH_done (by kernel_rfl) ?_ _
                          go_wp2_with fail
                          go_ret
                          exact HNO.out _ ((Below.refl _ wz).drew) (fun q => E0.out (by have := q.1; rw [HRE.out]; exact this))
                  · have ei : i = all.length := by omega
                    subst ei
                    have i2 : ¬ ((all.length : Int) < all.length) := by omega
                    go_wp2_with fail
                    refine (reached_any _ (HAR.out.below HBX.out) (HTR.out.below HBX.out) (by omega) (by omega)).mono ?_
                    rintro e w9 ⟨M, rfl, hbf, hcl, hb9⟩
                    have HBF := Lib.hid hbf
                    have HCL := Lib.hid hcl
                    have HB9 := Lib.hid hb9
                    clear hbf hcl hb9
                    obtain ⟨br, hbr⟩ : ∃ br, decide (∀ n ∈ th, n ∈ M) = br := ⟨_, rfl⟩
                    rw [hbr]
                    have HBR := Lib.hid hbr
                    clear hbr
                    go_wp2_with fail
                    go_ret
                    refine ⟨br, ret_bool rfl, ?_, HB.out.trans ((HBX.out.trans (HB9.out.mono HBX.out.size)).mono HB.out.size)⟩
                    have hall := HALL.out
                    have hok := HOK.out
                    have hap := HAP.out
                    rw [List.take_length] at hok hap
                    constructor
                    · intro hq
                      rw [hq] at HBR
                      have hr := of_decide_eq_true HBR.out
                      refine ⟨⟨HRI.out, ⟨by omega, (HMEM.out 0).1 (of_decide_eq_true HB0.out)⟩, by rw [hall]; exact hok, by rw [hall]; exact hap⟩, M, by rw [hall]; exact HBF.out, by rw [hall]; exact HCL.out, fun n _ hn => hr n ((HMEM.out n).2 hn)⟩
                    · rintro ⟨-, M2, h1, h2, h3⟩
                      rw [hall] at h1 h2
                      rw [← HBR.out]
                      refine decide_eq_true (fun n hn => ?_)
                      obtain ⟨T, hT⟩ := HBF.out.hd
                      exact bfs_sub h1 (by rw [hT]; exact List.mem_cons_self ..) HCL.out n (h3 n (HKK.out n ((HMEM.out n).1 hn)) ((HMEM.out n).1 hn))
end Go.Proofs.YtolilbcpfdnkjaaGreat
