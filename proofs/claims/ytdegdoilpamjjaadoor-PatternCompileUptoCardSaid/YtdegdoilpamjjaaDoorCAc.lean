/- Contracts of the document's reader of patterns: fail, sees. Condition: no more than 2^30 ints. -/
import Derived.Test.YtdegdoilpamjjaaDoorCAb
namespace Go.Proofs.YtdegdoilpamjjaaDoor
open Go.RowKit
set_option linter.unusedVariables false
set_option linter.unusedSimpArgs false
def FbB (w : World) (rb pb : Nat) (sl : Option Addr) (n c : Nat) (a : Nat) (bad : Bool) : Prop :=
 w.heap[rb]? = some (.cells #[.pointer (some ⟨pb, 0, none⟩), .slice sl n c, .int .i64 a, .bool bad] 110 (0, 0))
structure FrM (w : World) (rb pb : Nat) (sl : Option Addr) (n c : Nat) (src : List Int) (a : Nat) (bad : Bool) : Prop where
 blk : FbB w rb pb sl n c a bad
 len : src.length = n
 src : IsInts w sl n (gl src)
 ne : ∀ x, sl = some x → x.block ≠ rb
 at' : a ≤ n
 n30 : n < 1073741824
theorem FrM.touch {w w' : World} {rb pb : Nat} {sl : Option Addr} {n c : Nat} {src : List Int} {a a' : Nat} {bad bad' : Bool} (h : FrM w rb pb sl n c src a bad) (ht : Touch (fun b => b = rb) w w') (hb : FbB w' rb pb sl n c a' bad') (hat : a' ≤ n) : FrM w' rb pb sl n c src a' bad' := by
 refine ⟨hb, h.len, ?_, h.ne, hat, h.n30⟩
 rcases h.src with h0 | ⟨b', o', e, hb', hc'⟩
 · exact .inl h0
 · exact .inr ⟨b', o', e, Nat.lt_of_lt_of_le hb' ht.size, fun i hi => (World.cell?_of_block (w := w) (ht.block b' hb' (h.ne _ e))).trans (hc' i hi)⟩
theorem FrM.later {w w' : World} {rb pb : Nat} {sl : Option Addr} {n c : Nat} {src : List Int} {a : Nat} {bad : Bool} (h : FrM w rb pb sl n c src a bad) (hb : Below w.heap.size w w') : FrM w' rb pb sl n c src a bad :=
 { h with blk := (hb.block _ (heap_lt h.blk)).trans h.blk, src := h.src.later hb }
theorem FrM.drewN {w : World} {rb pb : Nat} {sl : Option Addr} {n c : Nat} {src : List Int} {a : Nat} {bad : Bool} (h : FrM w rb pb sl n c src a bad) (m : Nat) : FrM (w.drewN m) rb pb sl n c src a bad := h.later (below_drewN (Below.refl _ _))
theorem FrM.step {w : World} {rb pb : Nat} {sl : Option Addr} {n c : Nat} {src : List Int} {a : Nat} {bad : Bool} (h : FrM w rb pb sl n c src a bad) (k : Nat) (hk : a + k ≤ n) : FrM (w.setCell ⟨rb, 2, none⟩ (.int .i64 ((a + k : Nat) : Int))) rb pb sl n c src (a + k) bad :=
 h.touch (Touch.setCell (fun b => b = rb) w (p := ⟨rb, 2, none⟩) rfl _) (by unfold FbB; rw [block_set _ h.blk]; rfl) hk
theorem FrM.fail {w : World} {rb pb : Nat} {sl : Option Addr} {n c : Nat} {src : List Int} {a : Nat} {bad : Bool} (h : FrM w rb pb sl n c src a bad) (k : Nat) (hk : k ≤ n) : FrM ((w.setCell ⟨rb, 3, none⟩ (.bool true)).setCell ⟨rb, 2, none⟩ (.int .i64 (k : Int))) rb pb sl n c src k true := by
 have h1 : (w.setCell ⟨rb, 3, none⟩ (.bool true)).heap[rb]? = _ := block_set (i := 3) (.bool true) h.blk
 refine h.touch ((Touch.setCell (fun b => b = rb) w (p := ⟨rb, 3, none⟩) rfl _).trans (Touch.setCell (fun b => b = rb) _ (p := ⟨rb, 2, none⟩) rfl _) (fun x hx => .inl hx)) ?_ hk
 unfold FbB
 rw [block_set _ h1]; rfl
def FrP {α : Type} (w : World) (rb pb : Nat) (sl : Option Addr) (n c : Nat) (src : List Int) (r : RR α) (V : α → Value → Prop) (VB : Value → Prop) (e : Ending) (w' : World) : Prop :=
 Touch (fun b => b = rb) w w' ∧ match r with
  | .error k => (∃ v, e = .returned v ∧ VB v) ∧ FrM w' rb pb sl n c src k true
  | .ok (x, s) => (∃ v, e = .returned v ∧ V x v) ∧ FrM w' rb pb sl n c src s.at' false
set_option maxRecDepth 100000 in
theorem fail_f (rb pb : Nat) (sl : Option Addr) (n c : Nat) (src : List Int) (a : Nat) (k : Nat) (hk : k ≤ n) (w : World) (h : FrM w rb pb sl n c src a false) :
  Calls Tryd.prog 51 #[.pointer (some ⟨rb, 0, none⟩), .int .i64 k] w fun e w' => e = .returned (.int .i64 0) ∧ Touch (fun b => b = rb) w w' ∧ FrM w' rb pb sl n c src k true := by
 have b3 : w.cell? ⟨rb, 3, none⟩ = some (.bool false) := block_cell h.blk
 have f3 : w.frozen? ⟨rb, 3, none⟩ = false := block_free h.blk
 have f2 : (w.setCell ⟨rb, 3, none⟩ (.bool true)).frozen? ⟨rb, 2, none⟩ = false := block_free (block_set (i := 3) (.bool true) h.blk)
 have h2 : (w.setCell ⟨rb, 3, none⟩ (.bool true)).heap[rb]? = _ := block_set (i := 3) (.bool true) h.blk
 have c2 : (w.setCell ⟨rb, 3, none⟩ (.bool true)).cell? ⟨rb, 2, none⟩ = some (.int .i64 a) := block_cell h2
 have HF := Lib.hid (h.fail k hk)
 clear h h2
 go_enter Tryd.func51, Tryd.ntmps51
 go_wp2
 go_ret
 exact ⟨rfl, (Touch.setCell (fun b => b = rb) w (p := ⟨rb, 3, none⟩) rfl _).trans (Touch.setCell (fun b => b = rb) _ (p := ⟨rb, 2, none⟩) rfl _) (fun x hx => .inl hx), HF.out⟩
def seesP (src : List Int) (a : Nat) (bad : Bool) (x y : Int) : Bool :=
 !bad && decide (a < src.length) && decide (srcAt src a = x) && (decide (y = 0) || (decide (a + 1 < src.length) && decide (srcAt src (a + 1) = y)))
theorem sees_one {src : List Int} {a : Nat} {x : Int} (hx : 0 ≤ x) : seesP src a false x 0 = decide (pk src a 0 = x) := by
 unfold seesP pk
 by_cases h : a < src.length
 · simp [h]
 ·
  have : ¬ (-4611686018427387904 : Int) = x := by omega
  simp [h, this]
theorem sees_two {src : List Int} {a : Nat} {y : Int} (hy : 0 < y) : seesP src a false 92 y = escB src a y := by
 unfold seesP escB pk
 have h0 : ¬ y = 0 := by omega
 by_cases h : a < src.length
 ·
  by_cases h1 : a + 1 < src.length
  · simp [h, h1, h0]
  · simp [h, h1, h0]
 ·
  have h1 : ¬ a + 1 < src.length := by omega
  simp [h, h1]
theorem sees_bad (src : List Int) (a : Nat) (x y : Int) : seesP src a true x y = false := rfl
set_option maxRecDepth 100000 in
set_option maxHeartbeats 4000000 in
theorem sees_f (rb pb : Nat) (sl : Option Addr) (n c : Nat) (src : List Int) (a : Nat) (bad : Bool) (x y : Int) (w : World) (h : FrM w rb pb sl n c src a bad) :
  Calls Tryd.prog 66 #[.pointer (some ⟨rb, 0, none⟩), .int .i64 x, .int .i64 y] w fun e w' => e = .returned (.bool (seesP src a bad x y)) ∧ ∃ m, w' = w.drewN m := by
 have b1 : w.cell? ⟨rb, 1, none⟩ = some (.slice sl n c) := block_cell h.blk
 have b2 : w.cell? ⟨rb, 2, none⟩ = some (.int .i64 a) := block_cell h.blk
 have b3 : w.cell? ⟨rb, 3, none⟩ = some (.bool bad) := block_cell h.blk
 have hat := h.at'
 have hn := h.n30
 have hl := h.len
 unfold seesP
 rw [hl]
 cases bad with
 | true =>
  clear h
  go_enter Tryd.func66, Tryd.ntmps66
  go_wp2_with fail
  go_quiet (fail)
  go_wp2
  go_ret
  first | exact ⟨rfl, _, rfl⟩ | exact ⟨rfl, _, World.drewN_drewN _ _ _⟩
 | false =>
  by_cases hlt : a < n
  ·
   obtain ⟨g, off, hg, c0⟩ := h.src.at (Below.refl _ _) hlt
   subst hg
   rw [show srcAt src a = gl src a from rfl]
   have q1 : ¬ (n : Int) ≤ (a : Int) := by omega
   have q2 : (0 : Int) ≤ (a : Int) := by omega
   have q3 : (a : Int) < (n : Int) := by omega
   have q4 : IntKind.i64.wrap ((a : Int) + 1) = ((a + 1 : Nat) : Int) := by rw [IntKind.wrap_i64]; omega
   by_cases hx : gl src a = x
   ·
    rw [hx] at c0 ⊢
    have e1 : decide (a < n) = true := decide_eq_true hlt
    by_cases hy : y = 0
    ·
     subst hy
     rw [show (!false && decide (a < n) && decide (x = x) && (decide ((0 : Int) = 0) || (decide (a + 1 < n) && decide (srcAt src (a + 1) = 0)))) = true from by simp [hlt]]
     clear h
     go_enter Tryd.func66, Tryd.ntmps66
     go_wp2_with fail
     go_quiet (fail)
     go_wp2_with fail
     go_quiet (fail)
     go_wp2
     go_ret
     first | exact ⟨rfl, _, rfl⟩ | exact ⟨rfl, _, World.drewN_drewN _ _ _⟩
    ·
     have hyb : (y == 0) = false := by simp [hy]
     by_cases hlt2 : a + 1 < n
     ·
      have c1 : w.cell? ⟨g, off + (a + 1), none⟩ = some (.int .i64 (gl src (a + 1))) := by
       rcases h.src with h0 | ⟨b', o', e, hb', hc'⟩
       · omega
       ·
        cases e
        exact hc' (a + 1) hlt2
      rw [show srcAt src (a + 1) = gl src (a + 1) from rfl]
      have q5 : ((a + 1 : Nat) : Int) < (n : Int) := by omega
      have q6 : (0 : Int) ≤ ((a + 1 : Nat) : Int) := by omega
      generalize gl src (a + 1) = z at c1 ⊢
      rw [show (!false && decide (a < n) && decide (x = x) && (decide (y = 0) || (decide (a + 1 < n) && decide (z = y)))) = decide (z = y) from by simp [hlt, hy, hlt2]]
      obtain ⟨a2, ha2⟩ : ∃ a2, a + 1 = a2 := ⟨_, rfl⟩
      rw [ha2] at c1 q4 q5 q6
      clear h hx
      go_enter Tryd.func66, Tryd.ntmps66
      go_wp2_with fail
      go_quiet (fail)
      go_wp2_with fail
      go_quiet (fail)
      go_wp2
      go_ret
      first | exact ⟨rfl, _, rfl⟩ | exact ⟨rfl, _, World.drewN_drewN _ _ _⟩
     ·
      rw [show (!false && decide (a < n) && decide (x = x) && (decide (y = 0) || (decide (a + 1 < n) && decide (srcAt src (a + 1) = y)))) = false from by simp [hlt2, hy]]
      have q5 : ¬ ((a + 1 : Nat) : Int) < (n : Int) := by omega
      obtain ⟨a2, ha2⟩ : ∃ a2, a + 1 = a2 := ⟨_, rfl⟩
      rw [ha2] at q4 q5
      have q6 : (n : Int) ≤ (a2 : Int) := by omega
      have q7 : ¬ a2 < n := by omega
      have q8 : n ≤ a2 := by omega
      clear h hx ha2
      go_enter Tryd.func66, Tryd.ntmps66
      go_wp2_with fail
      go_quiet (fail)
      go_wp2_with fail
      go_quiet (fail)
      go_wp2
      go_ret
      first | exact ⟨rfl, _, rfl⟩ | exact ⟨rfl, _, World.drewN_drewN _ _ _⟩
   ·
    generalize gl src a = z at c0 hx ⊢
    have hxb : (z == x) = false := by simp [hx]
    have hxc : (z != x) = true := by simp [hx]
    rw [show (!false && decide (a < n) && decide (z = x) && (decide (y = 0) || (decide (a + 1 < n) && decide (srcAt src (a + 1) = y)))) = false from by simp [hx]]
    clear h
    go_enter Tryd.func66, Tryd.ntmps66
    go_wp2_with fail
    go_quiet (fail)
    go_wp2
    go_ret
    first | exact ⟨rfl, _, rfl⟩ | exact ⟨rfl, _, World.drewN_drewN _ _ _⟩
  ·
   rw [show (!false && decide (a < n) && decide (srcAt src a = x) && (decide (y = 0) || (decide (a + 1 < n) && decide (srcAt src (a + 1) = y)))) = false from by simp [hlt]]
   have q1 : (n : Int) ≤ (a : Int) := by omega
   clear h
   go_enter Tryd.func66, Tryd.ntmps66
   go_wp2_with fail
   go_quiet (fail)
   go_wp2
   go_ret
   first | exact ⟨rfl, _, rfl⟩ | exact ⟨rfl, _, World.drewN_drewN _ _ _⟩
end Go.Proofs.YtdegdoilpamjjaaDoor
