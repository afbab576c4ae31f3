/- Contracts of the pattern's reader: peek, next, escaped, kind's letters. Condition: no more than 2^30 ints. -/
import Derived.Test.YtdegdoilpamjjaaDoorFb
import Derived.Test.YtdegdoilpamjjaaDoorBa
import Derived.Test.YtdegdoilpamjjaaDoorJa
import Derived.Test.YtdegdoilpamjjaaDoorJt
import Derived.BigQuiet
import Derived.Deep.DeepCutAuto
import Derived.Deep.CutBlock
import Derived.Deep.CutRange
import Derived.Deep.RegionHeld3
namespace Go.Proofs.YtdegdoilpamjjaaDoor
open Go.RowKit
set_option linter.unusedVariables false
set_option linter.unusedSimpArgs false
/-- the reader's block -/
def RdB (w : World) (rb : Nat) (sl : Option Addr) (n c : Nat) (s : RS) (fold : Bool) : Prop :=
  w.heap[rb]? = some (.cells #[.slice sl n c, .int .i64 s.at', .int .i64 s.groups, .bool fold] 72 (0, 0))
/-- the reader's block, and what it reads -/
structure RdM (w : World) (rb : Nat) (sl : Option Addr) (n c : Nat) (src : List Int) (s : RS) (fold : Bool) : Prop where
  blk : RdB w rb sl n c s fold
  len : src.length = n
  src : IsInts w sl n (gl src)
  ne : ∀ a, sl = some a → a.block ≠ rb
  at' : s.at' ≤ n
  n30 : n < 1073741824
/-- how the reader gives up -/
def wrongP (k : Nat) : PanicEntry := { v := .iface 68 (.int .i64 k), recovered := false }
theorem gl_srcAt (src : List Int) (i : Nat) : gl src i = srcAt src i := rfl
set_option maxRecDepth 100000 in
theorem peek_c (rb : Nat) (sl : Option Addr) (n c : Nat) (src : List Int) (s : RS) (fold : Bool) (k : Nat) (w : World) (h : RdM w rb sl n c src s fold) (hk : k < 1000) :
    Calls Tryd.prog 68 #[.pointer (some ⟨rb, 0, none⟩), .int .i64 k] w fun e w' => e = .returned (.int .i64 (pk src s.at' k)) ∧ ∃ m, w' = w.drewN m := by
  have b0 : w.cell? ⟨rb, 0, none⟩ = some (.slice sl n c) := block_cell h.blk
  have b1 : w.cell? ⟨rb, 1, none⟩ = some (.int .i64 s.at') := block_cell h.blk
  have hat := h.at'
  have hn := h.n30
  by_cases hlt : s.at' + k < n
  · obtain ⟨g, off, hg, c0⟩ := h.src.at (Below.refl _ _) hlt
    subst hg
    have hp : pk src s.at' k = gl src (s.at' + k) := if_pos (by rw [h.len]; exact hlt)
    rw [hp]
    generalize gl src (s.at' + k) = x at c0 ⊢
    obtain ⟨a, ha⟩ : ∃ a, s.at' = a := ⟨_, rfl⟩
    rw [ha] at b1 hlt c0 hat
    have q1 : ((a : Int) + (k : Int)) < (n : Int) := by omega
    have q2 : (0 : Int) ≤ (a : Int) + (k : Int) := by omega
    have q3 : IntKind.i64.wrap ((a : Int) + (k : Int)) = (a : Int) + (k : Int) := by rw [IntKind.wrap_i64]; omega
    clear h hp ha
    go_enter Tryd.func68, Tryd.ntmps68
    go_wp2_with fail
    go_quiet (fail)
    go_wp2_with fail
    go_quiet (fail)
    go_wp2
    go_ret
    first | exact ⟨rfl, _, rfl⟩ | exact ⟨rfl, _, World.drewN_drewN _ _ _⟩
  · have hp : pk src s.at' k = -4611686018427387904 := if_neg (by rw [h.len]; exact hlt)
    rw [hp]
    obtain ⟨a, ha⟩ : ∃ a, s.at' = a := ⟨_, rfl⟩
    rw [ha] at b1 hlt hat
    have q1 : ¬ ((a : Int) + (k : Int)) < (n : Int) := by omega
    have q3 : IntKind.i64.wrap ((a : Int) + (k : Int)) = (a : Int) + (k : Int) := by rw [IntKind.wrap_i64]; omega
    clear h hp ha
    go_enter Tryd.func68, Tryd.ntmps68
    go_wp2_with fail
    go_quiet (fail)
    go_wp2
    go_ret
    first | exact ⟨rfl, _, rfl⟩ | exact ⟨rfl, _, World.drewN_drewN _ _ _⟩
theorem RdM.later {w w' : World} {rb : Nat} {sl : Option Addr} {n c : Nat} {src : List Int} {s : RS} {fold : Bool} (h : RdM w rb sl n c src s fold) (hb : Below w.heap.size w w') : RdM w' rb sl n c src s fold :=
  { h with blk := (hb.block _ (heap_lt h.blk)).trans h.blk, src := h.src.later hb }
theorem RdM.drewN {w : World} {rb : Nat} {sl : Option Addr} {n c : Nat} {src : List Int} {s : RS} {fold : Bool} (h : RdM w rb sl n c src s fold) (m : Nat) : RdM (w.drewN m) rb sl n c src s fold := h.later (below_drewN (Below.refl _ _))
/-- what a function of the reader comes to -/
def RdP {α : Type} (w : World) (rb : Nat) (sl : Option Addr) (n c : Nat) (src : List Int) (fold : Bool) (r : RR α) (V : α → World → Value → Prop) (e : Ending) (w' : World) : Prop :=
  Touch (fun b => b = rb) w w' ∧ match r with
    | .error k => e = .panicked [wrongP k]
    | .ok (a, s) => (∃ v, e = .returned v ∧ V a w' v) ∧ RdM w' rb sl n c src s fold
set_option maxRecDepth 100000 in
theorem next_c (rb : Nat) (sl : Option Addr) (n c : Nat) (src : List Int) (s : RS) (fold : Bool) (w : World) (h : RdM w rb sl n c src s fold) :
    Calls Tryd.prog 80 #[.pointer (some ⟨rb, 0, none⟩)] w (RdP w rb sl n c src fold (nx src s) (fun x w' v => v = .int .i64 x)) := by
  have b0 : w.cell? ⟨rb, 0, none⟩ = some (.slice sl n c) := block_cell h.blk
  have b1 : w.cell? ⟨rb, 1, none⟩ = some (.int .i64 s.at') := block_cell h.blk
  have f1 : w.frozen? ⟨rb, 1, none⟩ = false := block_free h.blk
  have hat := h.at'
  have hn := h.n30
  have H := Lib.hid h
  by_cases hlt : s.at' < n
  · obtain ⟨g, off, hg, c0⟩ := h.src.at (Below.refl _ _) hlt
    have hne := h.ne _ hg
    subst hg
    have hp : nx src s = .ok (gl src s.at', { s with at' := s.at' + 1 }) := if_neg (by rw [h.len]; omega)
    rw [hp]
    generalize gl src s.at' = x at c0 ⊢
    obtain ⟨a, ha⟩ : ∃ a, s.at' = a := ⟨_, rfl⟩
    have hs1 : RdB (w.setCell ⟨rb, 1, none⟩ (.int .i64 ((a + 1 : Nat) : Int))) rb (some ⟨g, off, none⟩) n c { s with at' := a + 1 } fold := by
      unfold RdB; rw [block_set _ h.blk]; rfl
    have t1 := Touch.setCell (fun b => b = rb) w (p := ⟨rb, 1, none⟩) rfl (.int .i64 ((a + 1 : Nat) : Int))
    have HS1 := Lib.hid hs1
    have HT1 := Lib.hid t1
    rw [ha] at b1 hlt c0 hat ⊢
    have q1 : (a : Int) < (n : Int) := by omega
    have q2 : (0 : Int) ≤ (a : Int) := by omega
    have q3 : IntKind.i64.wrap ((a : Int) + 1) = (a : Int) + 1 := by rw [IntKind.wrap_i64]; omega
    have q5 : IntKind.i64.wrap ((a : Int) + 1 - 1) = (a : Int) := by rw [IntKind.wrap_i64]; omega
    have q6 : IntKind.i64.wrap (a : Int) = (a : Int) := by rw [IntKind.wrap_i64]; omega
    have q4 : decide (n ≤ a) = false := decide_eq_false (by omega)
    have hgb : g ≠ rb := hne
    have HNE := Lib.hid (show ∀ ad, some (⟨g, off, none⟩ : Addr) = some ad → ad.block ≠ rb from h.ne)
    have HSRC := Lib.hid (show IsInts (w.setCell ⟨rb, 1, none⟩ (.int .i64 ((a + 1 : Nat) : Int))) (some ⟨g, off, none⟩) n (gl src) from by
      rcases h.src with h0 | ⟨b', o', e, hb', hc'⟩
      · exact .inl h0
      · cases e
        exact .inr ⟨g, off, rfl, by simpa using hb', fun i hi => (World.cell?_of_block (w := w) (Below.heap_setCell _ _ _ _ hgb)).trans (hc' i hi)⟩)
    clear h hp hs1 t1 ha
    go_enter Tryd.func80, Tryd.ntmps80
    go_wp2_with fail
    go_quiet (fail)
    go_upto_region 4 with (fail)
    go_quiet (fail)
    go_wp2
    go_ret
    exact ⟨touch_drewN ((touch_drewN (Touch.refl (fun b => b = rb) w)).trans (Touch.setCell (fun b => b = rb) _ (p := ⟨rb, 1, none⟩) rfl _) (fun x hx => .inl hx)), ⟨_, rfl, rfl⟩, ⟨HS1.out, H.out.len, HSRC.out, HNE.out, by show a + 1 ≤ n; omega, hn⟩⟩
  · have hp : nx src s = .error src.length := if_pos (by rw [h.len]; omega)
    rw [hp]
    have hl := h.len
    have q1 : ((s.at' : Int)) ≥ (n : Int) := by omega
    clear h hp
    obtain ⟨a, ha⟩ : ∃ a, s.at' = a := ⟨_, rfl⟩
    rw [ha] at b1 q1 hlt hat
    clear ha
    go_enter Tryd.func80, Tryd.ntmps80
    go_wp2_with fail
    go_quiet (fail)
    go_wp2
    exact ⟨rfl, ⟨rfl, rfl, rfl, Nat.le_refl _, fun _ _ _ => rfl⟩, by rw [hl]; rfl⟩
set_option maxRecDepth 100000 in
set_option maxHeartbeats 2000000 in
theorem escaped_c (rb : Nat) (sl : Option Addr) (n c : Nat) (src : List Int) (s : RS) (fold : Bool) (k : Int) (w : World) (h : RdM w rb sl n c src s fold) :
    Calls Tryd.prog 53 #[.pointer (some ⟨rb, 0, none⟩), .int .i64 k] w fun e w' => e = .returned (.bool (escB src s.at' k)) ∧ ∃ m, w' = w.drewN m := by
  have b0 : w.cell? ⟨rb, 0, none⟩ = some (.slice sl n c) := block_cell h.blk
  have b1 : w.cell? ⟨rb, 1, none⟩ = some (.int .i64 s.at') := block_cell h.blk
  have hat := h.at'
  have hn := h.n30
  have HP0 : Hid (∀ m, Calls Tryd.prog 68 #[.pointer (some ⟨rb, 0, none⟩), .int .i64 0] (w.drewN m) fun e w' => e = .returned (.int .i64 (pk src s.at' 0)) ∧ ∃ m', w' = (w.drewN m).drewN m') := Lib.hid (fun m => peek_c rb sl n c src s fold 0 (w.drewN m) (h.drewN m) (by decide))
  have HP1 : Hid (∀ m, Calls Tryd.prog 68 #[.pointer (some ⟨rb, 0, none⟩), .int .i64 1] (w.drewN m) fun e w' => e = .returned (.int .i64 (pk src s.at' 1)) ∧ ∃ m', w' = (w.drewN m).drewN m') := Lib.hid (fun m => peek_c rb sl n c src s fold 1 (w.drewN m) (h.drewN m) (by decide))
  have HE := Lib.hid (show escB src s.at' k = (decide (pk src s.at' 0 = 92) && decide (s.at' + 1 < n) && decide (pk src s.at' 1 = k)) from by unfold escB; rw [h.len])
  generalize escB src s.at' k = E at HE ⊢
  generalize pk src s.at' 0 = p0 at HP0 HE
  generalize pk src s.at' 1 = p1 at HP1 HE
  obtain ⟨a, ha⟩ : ∃ a, s.at' = a := ⟨_, rfl⟩
  rw [ha] at b1 hat HE
  clear h ha
  have q3 : IntKind.i64.wrap ((a : Int) + 1) = (a : Int) + 1 := by rw [IntKind.wrap_i64]; omega
  by_cases h92 : p0 = 92
  · subst h92
    by_cases hlt : a + 1 < n
    · have q1 : ((a : Int) + 1) < (n : Int) := by omega
      have e1 : E = decide (p1 = k) := by rw [HE.out, decide_eq_true rfl, decide_eq_true hlt]; rfl
      subst e1
      go_enter Tryd.func53, Tryd.ntmps53
      go_wp2_with fail
      go_quiet (first | (go_at_call 68; first | with_reducible exact Calls.quiet_of (HP0.out _) | with_reducible exact Calls.quiet_of (HP1.out _)))
      go_wp2
      go_ret
      exact ⟨rfl, _, rfl⟩
    · have q1 : decide (((a : Int) + 1) < (n : Int)) = false := decide_eq_false (by omega)
      have q1b : decide (a + 1 < n) = false := decide_eq_false hlt
      have e1 : E = false := by rw [HE.out, decide_eq_false hlt, Bool.and_false, Bool.false_and]
      subst e1
      go_enter Tryd.func53, Tryd.ntmps53
      go_wp2_with fail
      go_quiet (first | (go_at_call 68; first | with_reducible exact Calls.quiet_of (HP0.out _) | with_reducible exact Calls.quiet_of (HP1.out _)))
      go_wp2
      go_ret
      exact ⟨rfl, _, rfl⟩
  · have q92 : (p0 == 92) = false := by rw [beq_eq_false_iff_ne]; exact h92
    have e1 : E = false := by rw [HE.out, decide_eq_false h92, Bool.false_and, Bool.false_and]
    subst e1
    go_enter Tryd.func53, Tryd.ntmps53
    go_wp2_with fail
    go_quiet (first | (go_at_call 68; first | with_reducible exact Calls.quiet_of (HP0.out _) | with_reducible exact Calls.quiet_of (HP1.out _)))
    go_wp2
    go_ret
    exact ⟨rfl, _, rfl⟩
end Go.Proofs.YtdegdoilpamjjaaDoor
