/- tree: awake; a tree of a law's own. -/
import Derived.Test.YtolilbcpfdnkjaaUE
namespace Go.Proofs.Ytolilbcpfdnkjaa
open Go.RowKit
set_option linter.unusedSimpArgs false
set_option linter.unusedVariables false
theorem link_a : linkT [] 1 0 ⟨#[97]⟩ false 0 = ⟨[⟨0, ⟨⟨#[97]⟩, 1, false, 1, 0⟩⟩], 2, 1, 0⟩ := by
  have h1 : linkErr [] 0 ⟨#[97]⟩ 0 = 0 := by
    have a : listErr [] 0 = 0 := by decide
    have b : mayErr ⟨#[97]⟩ 0 = 0 := by decide
    have c : (findE [] 0 ⟨#[97]⟩).isSome = false := rfl
    unfold linkErr; rw [a, b, c]; rfl
  have h2 : freeN (nodes []) = 1 := freeN_eq ⟨Nat.le_refl _, by simp [nodes], fun m a b => by omega⟩
  unfold linkT
  rw [h1, h2]; rfl
/-- A law's own tree: all its blocks are new. -/
def OwnT (w0 w : World) (g : Nat) (L : List Itm) (next : Int) : Prop := ∃ F, TreeM w F g L next ∧ (∀ k, F k → w0.heap.size ≤ k) ∧ Below w0.heap.size w0 w
section
variable {w0 w w' : World} {g : Nat} {L L' : List Itm} {next next' : Int}
theorem OwnT.below (h : OwnT w0 w g L next) (hb : Below w.heap.size w w') : OwnT w0 w' g L next := by
  obtain ⟨F, h1, h2, h3⟩ := h
  exact ⟨F, h1.below hb, h2, h3.trans (hb.mono h3.size)⟩
theorem OwnT.step {F : Nat → Prop} (h1 : TreeM w F g L next) (h2 : ∀ k, F k → w0.heap.size ≤ k) (h3 : Below w0.heap.size w0 w) (hs : TStep w F g L' next' w') : OwnT w0 w' g L' next' := by
  obtain ⟨F', k1, k2, k3⟩ := hs
  exact ⟨F', k1, fun k q => (k2 k q).elim (h2 k) (fun q => Nat.le_trans h3.size q), h3.trans ((k3.toBelow h3.size h2))⟩
theorem own_new (w0 : World) (hb : Below w0.heap.size w0 w) : Calls Try.prog 12 #[] w fun e w' => ∃ g, e = .returned (.pointer (some ⟨g, 0, none⟩)) ∧ OwnT w0 w' g [] 1 :=
  (tnew_any w).mono fun e w' ⟨g, F, h1, h2, h3, h4⟩ => ⟨g, h1, F, h2, fun k q => Nat.le_trans hb.size (h3 k q), hb.trans (h4.mono hb.size)⟩
theorem own_link (h : OwnT w0 w g L next) (hi : TInv L next) (hn : next ≤ 1000000000) (dir : Int) (name : ByteArray) (isDir : Bool) (short : Int) (hs : name.size ≤ maxLen) :
    Calls Try.prog 15 #[.pointer (some ⟨g, 0, none⟩), .int .i64 dir, .string name, .bool isDir, .int .i64 short] w fun e w' =>
      e = .returned (.tuple #[.int .i64 (linkT L next dir name isDir short).node, .int .i64 (linkT L next dir name isDir short).err]) ∧ OwnT w0 w' g (linkT L next dir name isDir short).L (linkT L next dir name isDir short).next := by
  obtain ⟨F, h1, h2, h3⟩ := h
  exact (tlink_any dir name isDir short h1 hi hn hs).mono fun e w' ⟨a, b⟩ => ⟨a, .step h1 h2 h3 b⟩
theorem own_unlink (h : OwnT w0 w g L next) (hi : TInv L next) (hn : next ≤ 1000000000) (dir : Int) (name : ByteArray) (isDir : Bool) :
    Calls Try.prog 16 #[.pointer (some ⟨g, 0, none⟩), .int .i64 dir, .string name, .bool isDir] w fun e w' =>
      e = .returned (.int .i64 (unlinkT L dir name isDir).2) ∧ OwnT w0 w' g (unlinkT L dir name isDir).1 next := by
  obtain ⟨F, h1, h2, h3⟩ := h
  exact (tunlink_any dir name isDir h1 hi hn).mono fun e w' ⟨a, b⟩ => ⟨a, .step h1 h2 h3 b⟩
theorem own_move (h : OwnT w0 w g L next) (hi : TInv L next) (hn : next ≤ 1000000000) (dir : Int) (name : ByteArray) (to : Int) (as_ : ByteArray) (short : Int) (hs : as_.size ≤ maxLen) :
    Calls Try.prog 19 #[.pointer (some ⟨g, 0, none⟩), .int .i64 dir, .string name, .int .i64 to, .string as_, .int .i64 short] w fun e w' =>
      e = .returned (.int .i64 (moveT L next dir name to as_ short).err) ∧ OwnT w0 w' g (moveT L next dir name to as_ short).L (moveT L next dir name to as_ short).next := by
  obtain ⟨F, h1, h2, h3⟩ := h
  exact (tmove_any dir name to as_ short h1 hi hn hs).mono fun e w' ⟨a, b⟩ => ⟨a, .step h1 h2 h3 b⟩
theorem own_do (h : OwnT w0 w g L next) (hi : TInv L next) (hn : next ≤ 1000000000) (o : Op1) (hk : o.kind < 256) (h1 : o.name.size ≤ maxLen) (h2 : o.as_.size ≤ maxLen) :
    Calls Try.prog 13 #[.pointer (some ⟨g, 0, none⟩), o.val] w fun e w' =>
      e = .returned (.tuple #[.int .i64 (doT L next o).node, .int .i64 (doT L next o).err]) ∧ OwnT w0 w' g (doT L next o).L (doT L next o).next := by
  obtain ⟨F, k1, k2, k3⟩ := h
  exact (tdo_any o k1 hi hn hk h1 h2).mono fun e w' ⟨a, b⟩ => ⟨a, .step k1 k2 k3 b⟩
theorem own_list (h : OwnT w0 w g L next) (hi : TInv L next) (d : Int) :
    Calls Try.prog 14 #[.pointer (some ⟨g, 0, none⟩), .int .i64 d] w fun e w' => ∃ v l, e = .returned (.tuple #[v, .int .i64 (listErr L d)]) ∧ Row EEnt w' w.heap.size v l ∧ (listErr L d = 0 → l = entries L d) ∧ OwnT w0 w' g L next ∧ Below w.heap.size w w' := by
  have hl := hi.len
  have h0 := h
  obtain ⟨F, k1, k2, k3⟩ := h
  exact (tlist_any d k1 (by omega)).mono fun e w' ⟨v, l, a, b, c, hb⟩ => ⟨v, l, a, b, c, h0.below hb, hb⟩
theorem own_find (h : OwnT w0 w g L next) (hi : TInv L next) (d : Int) (name : ByteArray) :
    Calls Try.prog 18 #[.pointer (some ⟨g, 0, none⟩), .int .i64 d, .string name] w fun e w' => e = .returned (.tuple #[(findRes L d name).1.val, .int .i64 (findRes L d name).2]) ∧ OwnT w0 w' g L next ∧ Below w.heap.size w w' := by
  have hl := hi.len
  have h0 := h
  obtain ⟨F, k1, k2, k3⟩ := h
  exact (tfind_any d name k1 (by omega)).mono fun e w' ⟨a, hb⟩ => ⟨a, h0.below hb, hb⟩
theorem own_cookie (h : OwnT w0 w g L next) : Calls Try.prog 20 #[.pointer (some ⟨g, 0, none⟩)] w fun e w' => e = .returned (.int .i64 next) ∧ w = w' := by
  obtain ⟨F, k1, k2, k3⟩ := h
  exact tcookie_any k1
end
set_option maxRecDepth 100000 in
set_option maxHeartbeats 1000000 in
theorem awake10_any (w : World) : Calls Try.prog 10 #[] w fun e w' => e = .returned (.bool true) ∧ Below w.heap.size w w' := by
  have HN := Lib.hid (own_new w (Below.refl _ w))
  go_enter Try.func10, Try.ntmps10
  go_wp2_with fail
  refine HN.out.mono ?_
  rintro e w1 ⟨g, rfl, h1⟩
  have H1 := Lib.hid h1
  clear h1 HN
  go_wp2_with fail
  refine (own_link H1.out TInv.new (by decide) 0 ⟨#[97]⟩ false 0 (by decide)).mono ?_
  rw [link_a]
  rintro e w2 ⟨rfl, h2⟩
  have H2 := Lib.hid h2
  clear h2 H1
  go_wp2_with fail
  refine (own_cookie H2.out).mono ?_
  rintro e w3 ⟨rfl, rfl⟩
  go_wp2_with fail
  go_ret
  obtain ⟨F, k1, k2, k3⟩ := H2.out
  exact ⟨rfl, k3⟩
end Go.Proofs.Ytolilbcpfdnkjaa
