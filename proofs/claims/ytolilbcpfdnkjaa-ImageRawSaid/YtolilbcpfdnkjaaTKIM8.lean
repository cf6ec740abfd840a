/- image: what is written is read again, in plain Lean. -/
import Derived.Test.YtolilbcpfdnkjaaTKIM4
namespace Go.Proofs.Ytolilbcpfdnkjaa
open Go.RowKit
set_option linter.unusedSimpArgs false
set_option linter.unusedVariables false
/-- Bytes as they are read. -/
def bmk (l : List UInt8) : ByteArray := ⟨l.toArray⟩
theorem bmk_size (l : List UInt8) : (bmk l).size = l.length := by simp [bmk, ByteArray.size]
theorem take_mk (p q : List UInt8) (n : Nat) (h : p.length = n) : (IR.mk (bmk (p ++ q)) false).take n = (bmk p, ⟨bmk q, false⟩) := by
  subst h
  unfold IR.take
  have h1 : (bmk (p ++ q)).extract 0 p.length = bmk p := by
    apply ByteArray.ext
    rw [ByteArray.data_extract]
    apply Array.ext'
    simp [bmk]
  have h2 : (bmk (p ++ q)).extract p.length (bmk (p ++ q)).size = bmk q := by
    apply ByteArray.ext
    rw [ByteArray.data_extract, bmk_size]
    apply Array.ext'
    simp [bmk]
  rw [if_pos ⟨rfl, by rw [bmk_size, List.length_append]; omega⟩, h1, h2]
theorem beV_beB (n k : Nat) (h : n < 256 ^ k) : beV (beB n k) = n := by
  have key : ∀ (k n m : Nat), (beB n k).foldl (fun a c => a * 256 + c.toNat) m = m * 256 ^ k + n % 256 ^ k := by
    intro k
    induction k with
    | zero => intro n m; simp [beB, Nat.mod_one]
    | succ k ih =>
      intro n m
      rw [beB, List.foldl_cons, ih]
      have h1 : (UInt8.ofNat (n / 256 ^ k % 256)).toNat = n / 256 ^ k % 256 := by simp
      rw [h1]
      have h2 : n % 256 ^ (k + 1) = n / 256 ^ k % 256 * 256 ^ k + n % 256 ^ k := by
        rw [Nat.pow_succ, Nat.mod_mul, Nat.mul_comm (256 ^ k), Nat.add_comm]
      rw [h2, Nat.pow_succ, Nat.add_mul, Nat.mul_assoc, Nat.mul_comm 256, Nat.add_assoc]
  have := key k n 0
  unfold beV
  rw [this, Nat.zero_mul, Nat.zero_add, Nat.mod_eq_of_lt h]
theorem num_mk (n k : Nat) (q : List UInt8) (h : n < 256 ^ k) : (IR.mk (bmk (beB n k ++ q)) false).num k = (n, ⟨bmk q, false⟩) := by
  unfold IR.num
  rw [take_mk _ _ _ (beB_len n k)]
  have : (bmk (beB n k)).data.toList = beB n k := by simp [bmk]
  rw [this, beV_beB n k h]
/-- What an entry's numbers are, so that they are read as they were. -/
def EntIn (e : Ent) : Prop := e.name.size ≤ 255 ∧ 0 ≤ e.node ∧ e.node < 65536 ∧ 0 ≤ e.cookie ∧ e.cookie ≤ 9223372036854775807 ∧ 0 ≤ e.short ∧ e.short < 4294967296
theorem bmk_toList (s : ByteArray) : bmk s.data.toList = s := by
  apply ByteArray.ext; simp [bmk]
theorem entP_mk (e : Ent) (q : List UInt8) (h : EntIn e) : entP ⟨bmk (entB e ++ q), false⟩ = (e, ⟨bmk q, false⟩) := by
  obtain ⟨nm, nd, dr, ck, sh⟩ := e
  obtain ⟨h1, h2, h3, h4, h5, h6, h7⟩ := h
  dsimp only at h1 h2 h3 h4 h5 h6 h7
  have e1 : entB ⟨nm, nd, dr, ck, sh⟩ ++ q = beB nm.size 1 ++ (nm.data.toList ++ (beB nd.toNat 2 ++ (beB (if dr then 1 else 0) 1 ++ (beB ck.toNat 8 ++ (beB sh.toNat 4 ++ q))))) := by
    unfold entB; simp only [List.append_assoc]
  have hsz : nm.data.toList.length = nm.size := by rw [Array.length_toList]; rfl
  unfold entP
  rw [e1, num_mk _ _ _ (by omega)]
  dsimp only
  rw [take_mk _ _ _ hsz]
  dsimp only
  rw [num_mk _ _ _ (by omega)]
  dsimp only
  rw [num_mk _ _ _ (by cases dr <;> decide)]
  dsimp only
  rw [num_mk _ _ _ (by omega)]
  dsimp only
  rw [num_mk _ _ _ (by omega), bmk_toList]
  have a1 : ((nd.toNat : Nat) : Int) = nd := by omega
  have a2 : wrap64 ((ck.toNat : Nat) : Int) = ck := by unfold wrap64; omega
  have a3 : ((sh.toNat : Nat) : Int) = sh := by omega
  have a4 : decide ((if dr = true then 1 else 0) = 1) = dr := by cases dr <;> rfl
  rw [a1, a2, a3, a4]
theorem sevP_ents (es : List Ent) (q : List UInt8) (h : ∀ e ∈ es, EntIn e) : sevP entP es.length ⟨bmk (es.flatMap entB ++ q), false⟩ = (es, ⟨bmk q, false⟩) := by
  induction es with
  | nil => rfl
  | cons e es ih =>
    have h1 := h e (List.mem_cons_self ..)
    rw [List.flatMap_cons, List.append_assoc, List.length_cons, sevP, entP_mk e _ h1]
    dsimp only
    rw [ih (fun x hx => h x (List.mem_cons_of_mem _ hx))]
    rfl
theorem dirP_mk (d : Int) (es : List Ent) (q : List UInt8) (hd : 0 ≤ d) (hd2 : d < 65536) (hl : es.length < 65536) (h : ∀ e ∈ es, EntIn e) :
    dirP ⟨bmk (beB d.toNat 2 ++ beB es.length 2 ++ es.flatMap entB ++ q), false⟩ = ((d, es), ⟨bmk q, false⟩) := by
  unfold dirP
  rw [List.append_assoc, List.append_assoc, num_mk _ _ _ (by omega)]
  dsimp only
  rw [num_mk _ _ _ (by omega)]
  dsimp only
  rw [sevP_ents es q h]
  have a1 : ((d.toNat : Nat) : Int) = d := by omega
  rw [a1]
theorem ents_in {L : List Itm} {next : Int} (h : TInv L next) (hn : next ≤ 9223372036854775807) (d : Int) : ∀ e ∈ entries L d, EntIn e := fun e he => by
  have hm := mem_entries'.1 he
  have h1 := h.gd _ hm
  have h2 := h.rg _ hm
  have h3 := h.cb _ hm
  dsimp only at h1 h2 h3
  have h0 := (ents_fit h hn d e he).1
  unfold mayErr at h1
  split at h1
  · cases h1
  · split at h1
    · cases h1
    · exact ⟨h0, by omega, by omega, by omega, by omega, by omega, by omega⟩
theorem sevP_dirs {L : List Itm} {next : Int} (h : TInv L next) (hn : next ≤ 9223372036854775807) (ds : List Int) (hd : ∀ d ∈ ds, 0 ≤ d ∧ d < 65536) (q : List UInt8) :
    sevP dirP ds.length ⟨bmk (ds.flatMap (dirB L) ++ q), false⟩ = (ds.map (fun d => (d, entries L d)), ⟨bmk q, false⟩) := by
  induction ds with
  | nil => rfl
  | cons d ds ih =>
    have h1 := hd d (List.mem_cons_self ..)
    rw [List.flatMap_cons, List.append_assoc, List.length_cons, sevP]
    have e : dirB L d ++ (ds.flatMap (dirB L) ++ q) = beB d.toNat 2 ++ beB (entries L d).length 2 ++ (entries L d).flatMap entB ++ (ds.flatMap (dirB L) ++ q) := rfl
    rw [e, dirP_mk d (entries L d) _ h1.1 h1.2 (by have := ents_len h d; omega) (ents_in h hn d)]
    dsimp only
    rw [ih (fun x hx => hd x (List.mem_cons_of_mem _ hx))]
    rfl
/-- What is read of bytes: a cookie, directories, and whether something was bad. -/
def decC (b : ByteArray) : Int := wrap64 ((IR.mk b false).num 8).1
def decS (b : ByteArray) : List (Int × List Ent) × IR := sevP dirP (((IR.mk b false).num 8).2.num 2).1 (((IR.mk b false).num 8).2.num 2).2
theorem dec_img {L : List Itm} {next : Int} (h : TInv L next) (hn : next ≤ 9223372036854775807) : decC (bmk (imgB L next)) = next ∧ (decS (bmk (imgB L next))).1 = (dirsT L).map (fun d => (d, entries L d)) ∧ (decS (bmk (imgB L next))).2.bad = false := by
  have h0 := h.nx
  have hdl := dirsT_len L
  have e : imgB L next = beB next.toNat 8 ++ (beB (dirsT L).length 2 ++ ((dirsT L).flatMap (dirB L) ++ [])) := by
    unfold imgB; simp
  have hr : ∀ d ∈ dirsT L, 0 ≤ d ∧ d < 65536 := fun d hd => by
    rcases (isDirB_iff L d).1 ((dirsT_mem h d).1 hd) with q | ⟨i, hi, q, _⟩
    · omega
    · have := h.rg i hi; omega
  have hS : decS (bmk (imgB L next)) = ((dirsT L).map (fun d => (d, entries L d)), ⟨bmk [], false⟩) := by
    unfold decS
    rw [e, num_mk _ _ _ (by omega)]
    dsimp only
    rw [num_mk _ _ _ (by omega)]
    dsimp only
    rw [sevP_dirs h hn _ hr]
  refine ⟨?_, by rw [hS], by rw [hS]⟩
  unfold decC
  rw [e, num_mk _ _ _ (by omega)]
  dsimp only
  unfold wrap64; omega
end Go.Proofs.Ytolilbcpfdnkjaa
