/- Contracts: package view's windows over whole numbers. No condition. -/
import Derived.Test.YtplgpnmahblhbaaProg
import Derived.WalkKit
import Derived.WalkSpells
import Derived.WalkLawsBesides
import Derived.Lib.Hide
import Derived.Test.YtplgpnmahblhbaaGb
namespace Go.Proofs.Ytplgpnmahblhbaa
open Go.RowKit
def wv (t h n : Int) : Value := .agg #[.int .i64 t, .int .i64 h, .int .i64 n]
def hF (height : Int) : Int := min (max height 1) 200
def nF (lines : Int) : Int := min (max lines 1) 1099511627776
def tF (top lines : Int) : Int := min (max top 0) (nF lines - 1)
def bF (height lines : Int) : Int := max (nF lines - hF height) 0
set_option maxHeartbeats 1000000 in
theorem line_any (t h n m : Int) (w : World) (hn : 1 ≤ n) (hn' : n ≤ 1099511627776) :
    Calls Try.prog 28 #[.agg #[.int .i64 t, .int .i64 h, .int .i64 n], .int .i64 m] w fun e w' => e = .returned (.int .i64 (min (max m 0) (n - 1))) ∧ Below w.heap.size w w' := by
  go_enter Try.func28, Try.ntmps28
  go_wp2
  all_goals
    go_ret
    exact ⟨ret_int (by omega), (Below.refl _ _).alloc (Nat.le_refl _) _⟩
set_option maxHeartbeats 1000000 in
theorem bottom_any (t h n : Int) (w : World) (hn : 1 ≤ n) (hn' : n ≤ 1099511627776) (hh : 1 ≤ h) (hh' : h ≤ 200) :
    Calls Try.prog 29 #[.agg #[.int .i64 t, .int .i64 h, .int .i64 n]] w fun e w' => e = .returned (.int .i64 (max (n - h) 0)) ∧ Below w.heap.size w w' := by
  go_enter Try.func29, Try.ntmps29
  go_wp2
  all_goals
    go_ret
    exact ⟨ret_int (by omega), (Below.refl _ _).alloc (Nat.le_refl _) _⟩
theorem nF_bd (l : Int) : 1 ≤ nF l ∧ nF l ≤ 1099511627776 := by unfold nF; omega
theorem hF_bd (h : Int) : 1 ≤ hF h ∧ hF h ≤ 200 := by unfold hF; omega
def IsWin (w : World) (b : Nat) (t h n : Int) : Prop := w.heap[b]? = some (.cells #[.int .i64 t, .int .i64 h, .int .i64 n] 46 (0, 0))
theorem v_heap_lt {w : World} {g : Nat} {o : Obj} (h : w.heap[g]? = some o) : g < w.heap.size := by
  refine Classical.byContradiction fun hn => ?_
  rw [Array.getElem?_eq_none (by omega)] at h; cases h
theorem v_cell {w : World} {b i : Nat} {c : Array Value} {t : TypeId} (h : w.heap[b]? = some (.cells c t (0, 0))) : w.cell? ⟨b, i, none⟩ = c[i]? := by simp [World.cell?, h]
theorem v_free {w : World} {b i : Nat} {c : Array Value} {t : TypeId} (h : w.heap[b]? = some (.cells c t (0, 0))) : w.frozen? ⟨b, i, none⟩ = false := by simp [World.frozen?, h]
theorem v_set {w : World} {b i : Nat} {c : Array Value} {t : TypeId} {f : Nat × Nat} (v : Value) (h : w.heap[b]? = some (.cells c t f)) : (w.setCell ⟨b, i, none⟩ v).heap[b]? = some (.cells (c.setIfInBounds i v) t f) := by
  show (w.heap.modify b _)[b]? = _
  rw [Array.getElem?_modify, if_pos rfl, h]; rfl
theorem IsWin.facts {w : World} {b : Nat} {t h n : Int} (k : IsWin w b t h n) :
    (w.cell? ⟨b, 0, none⟩ = some (.int .i64 t) ∧ w.cell? ⟨b, 1, none⟩ = some (.int .i64 h) ∧ w.cell? ⟨b, 2, none⟩ = some (.int .i64 n)) ∧
    (w.frozen? ⟨b, 0, none⟩ = false ∧ w.frozen? ⟨b, 1, none⟩ = false ∧ w.frozen? ⟨b, 2, none⟩ = false) :=
  ⟨⟨v_cell k, v_cell k, v_cell k⟩, ⟨v_free k, v_free k, v_free k⟩⟩
theorem IsWin.below {w w1 : World} {b : Nat} {t h n : Int} (k : IsWin w b t h n) (hb : Below w.heap.size w w1) : IsWin w1 b t h n := (hb.block b (v_heap_lt k)).trans k
theorem win_two (w : World) (t h n t' h' n' : Int) :
    IsWin ((w.alloc (.cells #[.int .i64 t, .int .i64 h, .int .i64 n] 46)).alloc (.cells #[.int .i64 t', .int .i64 h', .int .i64 n'] 46)) w.heap.size t h n ∧
    IsWin ((w.alloc (.cells #[.int .i64 t, .int .i64 h, .int .i64 n] 46)).alloc (.cells #[.int .i64 t', .int .i64 h', .int .i64 n'] 46)) (w.heap.size + 1) t' h' n' := by
  constructor
  · show ((w.heap.push _).push _)[w.heap.size]? = _
    simp [Array.getElem?_push]
  · show ((w.heap.push _).push _)[w.heap.size + 1]? = _
    rw [Array.getElem?_push, if_pos (by simp)]
theorem below_two (w : World) (o p : Obj) : Below w.heap.size w ((w.alloc o).alloc p) := ((Below.refl _ _).alloc (Nat.le_refl _) _).alloc (by simp) _
theorem win_one (w : World) (t h n : Int) : IsWin (w.alloc (.cells #[.int .i64 t, .int .i64 h, .int .i64 n] 46)) w.heap.size t h n := by
  show (w.heap.push _)[w.heap.size]? = _
  simp
theorem agg3 {a b c t h n : Int} (h1 : a = t) (h2 : b = h) (h3 : c = n) : Ending.returned (.agg #[.int .i64 a, .int .i64 b, .int .i64 c]) = .returned (.agg #[.int .i64 t, .int .i64 h, .int .i64 n]) := by rw [h1, h2, h3]
theorem win_set {w : World} {b : Nat} {t h n : Int} (k : IsWin w b t h n) (x y z : Int) :
    IsWin (((w.setCell ⟨b, 0, none⟩ (.int .i64 x)).setCell ⟨b, 1, none⟩ (.int .i64 y)).setCell ⟨b, 2, none⟩ (.int .i64 z)) b x y z := v_set _ (v_set _ (v_set _ k))
theorem win_other {w : World} {b c : Nat} {t h n : Int} (k : IsWin w b t h n) (hne : c ≠ b) (i : Nat) (u : Value) : IsWin (w.setCell ⟨c, i, none⟩ u) b t h n := by
  show (w.heap.modify c _)[b]? = _
  rw [Array.getElem?_modify, if_neg hne]; exact k
theorem vbelow_set {b c : Nat} {w w1 : World} (h : Below b w w1) (hc : b ≤ c) (i : Nat) (v : Value) : Below b w (w1.setCell ⟨c, i, none⟩ v) := h.setCell hc _
set_option maxHeartbeats 2000000 in
theorem window_any (top height lines : Int) (w : World) :
    Calls Try.prog 27 #[.int .i64 top, .int .i64 height, .int .i64 lines] w fun e w' => e = .returned (.agg #[.int .i64 (tF top lines), .int .i64 (hF height), .int .i64 (nF lines)]) ∧ Below w.heap.size w w' := by
  have H1 := nF_bd lines
  have H2 := hF_bd height
  have hh : hF height = min (max height 1) 200 := rfl
  have hn : nF lines = min (max lines 1) 1099511627776 := rfl
  have ht : tF top lines = min (max top 0) (nF lines - 1) := rfl
  have HT := Lib.hid ht
  generalize tF top lines = t at *
  generalize nF lines = n at *
  generalize hF height = h at *
  have HH := Lib.hid hh
  have HN := Lib.hid hn
  clear hh hn ht
  go_enter Try.func27, Try.ntmps27
  go_wp2_with fail
  all_goals
    refine (line_any _ _ _ _ _ (by omega) (by omega)).mono ?_
    rintro e w1 ⟨rfl, hb1⟩
    have k1 := (win_two w _ _ _ _ _ _).1.below hb1
    have k2 := (win_two w _ _ _ _ _ _).2.below hb1
    have HB := Lib.hid ((below_two w _ _).trans (hb1.mono (by simp; omega)))
    have K1 := Lib.hid k1
    have K2 := Lib.hid k2
    obtain ⟨⟨c0, c1, c2⟩, ⟨f0, f1, f2⟩⟩ := k1.facts
    obtain ⟨⟨d0, d1, d2⟩, ⟨g0, g1, g2⟩⟩ := k2.facts
    clear k1 k2 hb1
    go_wp2
    refine bodyPost_ret (results_cell_row (by rfl) _ _ _ _ _ _ _ (by rfl) (win_set (win_other K1.out (by omega) _ _) _ _ _) Try.underlying46 rfl (by kernel_rfl)) rfl ⟨agg3 ?_ ?_ ?_, ?_⟩
    · have := HT.out; have := HN.out; omega
    · have := HH.out; omega
    · have := HN.out; omega
    · exact vbelow_set (vbelow_set (vbelow_set (vbelow_set HB.out (by omega) _ _) (Nat.le_refl _) _ _) (Nat.le_refl _) _ _) (Nat.le_refl _) _ _
end Go.Proofs.Ytplgpnmahblhbaa
