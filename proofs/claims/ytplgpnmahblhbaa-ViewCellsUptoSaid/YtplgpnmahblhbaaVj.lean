/- Contracts: whole and asked of chapter 14 for the kinds 1 and 2; the walk of ViewLines. No condition. -/
import Derived.Test.YtplgpnmahblhbaaVi
import Derived.Test.YtplgpnmahblhbaaVe
namespace Go.Proofs.Ytplgpnmahblhbaa
open Go.RowKit
def IsAsk (w : World) (b o : Nat) (k A B C D : Int) (X V : Value) : Prop :=
  w.cell? ⟨b, o, none⟩ = some (.int .i64 k) ∧ w.cell? ⟨b, o + 1, none⟩ = some (.int .i64 A) ∧ w.cell? ⟨b, o + 2, none⟩ = some (.int .i64 B) ∧ w.cell? ⟨b, o + 3, none⟩ = some (.int .i64 C) ∧
  w.cell? ⟨b, o + 4, none⟩ = some (.int .i64 D) ∧ w.cell? ⟨b, o + 5, none⟩ = some X ∧ w.cell? ⟨b, o + 6, none⟩ = some V
theorem ask_new (w : World) (k A B C D : Int) (X V : Value) :
    IsAsk (w.alloc (.cells #[.int .i64 k, .int .i64 A, .int .i64 B, .int .i64 C, .int .i64 D, X, V] 44)) w.heap.size 0 k A B C D X V := by
  have h := one_new w (.cells #[.int .i64 k, .int .i64 A, .int .i64 B, .int .i64 C, .int .i64 D, X, V] 44)
  exact ⟨block_cell h, block_cell h, block_cell h, block_cell h, block_cell h, block_cell h, block_cell h⟩
theorem IsAsk.below {w w1 : World} {b o : Nat} {k A B C D : Int} {X V : Value} (h : IsAsk w b o k A B C D X V) (hb : Below w.heap.size w w1) : IsAsk w1 b o k A B C D X V := by
  obtain ⟨h0, h1, h2, h3, h4, h5, h6⟩ := h
  exact ⟨vcell_below h0 hb, vcell_below h1 hb, vcell_below h2 hb, vcell_below h3 hb, vcell_below h4 hb, vcell_below h5 hb, vcell_below h6 hb⟩
theorem below_new (w : World) (o : Obj) : Below w.heap.size w (w.alloc o) := (Below.refl _ _).alloc (Nat.le_refl _) _
set_option maxHeartbeats 2000000 in
theorem whole1_any (A B C D : Int) (X V : Value) (w : World) :
    Calls Try.prog 38 #[.agg #[.int .i64 1, .int .i64 A, .int .i64 B, .int .i64 C, .int .i64 D, X, V]] w fun e w' => e = .returned (.bool true) ∧ Below w.heap.size w w' := by
  have k1 := ask_new w 1 A B C D X V
  obtain ⟨c0, c1, c2, c3, c4, c5, c6⟩ := k1
  simp only [Nat.zero_add] at c1 c2 c3 c4 c5 c6
  have hB := below_new w (.cells #[.int .i64 1, .int .i64 A, .int .i64 B, .int .i64 C, .int .i64 D, X, V] 44)
  go_enter Try.func38, Try.ntmps38
  go_wp2_with fail
  go_region_held3 (fun w' => w'.cell? ⟨w.heap.size, 1, none⟩ = some (.int .i64 A) ∧ w'.cell? ⟨w.heap.size, 2, none⟩ = some (.int .i64 B) ∧ w'.cell? ⟨w.heap.size, 3, none⟩ = some (.int .i64 C) ∧ w'.cell? ⟨w.heap.size, 4, none⟩ = some (.int .i64 D) ∧ Below w.heap.size w w')
    (first | exact ⟨c1, c2, c3, c4, hB.drew⟩ | go_keep | (go_split_ands; exact ⟨vcell_below (by assumption) hb2, vcell_below (by assumption) hb2, vcell_below (by assumption) hb2, vcell_below (by assumption) hb2, vbt (by assumption) hb2⟩))
    (first | (go_at_call 15; refine (follow_any A B C D _).mono ?_; rintro e w2 ⟨rfl, hb2⟩) | (go_at_call 45; refine (rfollow_any A B C D _).mono ?_; rintro e w2 ⟨rfl, hb2⟩))
  all_goals
    have hh : Below w.heap.size w w2 := by (first | (rename_i h; exact h.2.2.2.2) | assumption)
    have HH := Lib.hid hh
    clear hh c0 c1 c2 c3 c4 c5 c6 hB
    go_wp2
    go_ret
    exact ⟨ret_bool (by simp), HH.out⟩
set_option maxHeartbeats 2000000 in
theorem whole2_any (A B C D : Int) (X V : Value) (w : World) :
    Calls Try.prog 38 #[.agg #[.int .i64 2, .int .i64 A, .int .i64 B, .int .i64 C, .int .i64 D, X, V]] w fun e w' => e = .returned (.bool true) ∧ Below w.heap.size w w' := by
  have k1 := ask_new w 2 A B C D X V
  obtain ⟨c0, c1, c2, c3, c4, c5, c6⟩ := k1
  simp only [Nat.zero_add] at c1 c2 c3 c4 c5 c6
  have hB := below_new w (.cells #[.int .i64 2, .int .i64 A, .int .i64 B, .int .i64 C, .int .i64 D, X, V] 44)
  go_enter Try.func38, Try.ntmps38
  go_wp2_with fail
  go_region_held3 (fun w' => w'.cell? ⟨w.heap.size, 1, none⟩ = some (.int .i64 A) ∧ w'.cell? ⟨w.heap.size, 2, none⟩ = some (.int .i64 B) ∧ w'.cell? ⟨w.heap.size, 3, none⟩ = some (.int .i64 C) ∧ w'.cell? ⟨w.heap.size, 4, none⟩ = some (.int .i64 D) ∧ Below w.heap.size w w')
    (first | exact ⟨c1, c2, c3, c4, hB.drew⟩ | go_keep | (go_split_ands; exact ⟨vcell_below (by assumption) hb2, vcell_below (by assumption) hb2, vcell_below (by assumption) hb2, vcell_below (by assumption) hb2, vbt (by assumption) hb2⟩))
    (first | (go_at_call 19; refine (scroll_any A B C D _).mono ?_; rintro e w2 ⟨rfl, hb2⟩) | (go_at_call 46; refine (rscroll_any A B C D _).mono ?_; rintro e w2 ⟨rfl, hb2⟩))
  all_goals
    have hh : Below w.heap.size w w2 := by (first | (rename_i h; exact h.2.2.2.2) | assumption)
    have HH := Lib.hid hh
    clear hh c0 c1 c2 c3 c4 c5 c6 hB
    go_wp2
    go_ret
    exact ⟨ret_bool (by simp), HH.out⟩
set_option maxHeartbeats 2000000 in
theorem asked_any (k A B C D : Int) (X V : Value) (w : World) (hk : k = 1 ∨ k = 2) (hx : ∃ x, X = .float .f64 x) (hv : ∃ s n c, V = .slice s n c) :
    Calls Try.prog 26 #[.agg #[.int .i64 k, .int .i64 A, .int .i64 B, .int .i64 C, .int .i64 D, X, V]] w fun e w' => e = .returned (.bool true) ∧ Below w.heap.size w w' := by
  obtain ⟨x, rfl⟩ := hx
  obtain ⟨s, n, c, rfl⟩ := hv
  have k1 := ask_new w k A B C D (.float .f64 x) (.slice s n c)
  obtain ⟨c0, c1, c2, c3, c4, c5, c6⟩ := k1
  simp only [Nat.zero_add] at c1 c2 c3 c4 c5 c6
  have HB := Lib.hid (below_new w (.cells #[.int .i64 k, .int .i64 A, .int .i64 B, .int .i64 C, .int .i64 D, .float .f64 x, .slice s n c] 44))
  rcases hk with rfl | rfl
  · go_enter Try.func26, Try.ntmps26
    go_wp2_with fail
    refine (whole1_any A B C D _ _ _).mono ?_
    rintro e w1 ⟨rfl, hb1⟩
    replace HB := Lib.hid (vbt HB.out hb1)
    clear hb1 c0 c1 c2 c3 c4 c5 c6
    go_wp2
    go_ret
    exact ⟨rfl, HB.out⟩
  · go_enter Try.func26, Try.ntmps26
    go_wp2_with fail
    refine (whole2_any A B C D _ _ _).mono ?_
    rintro e w1 ⟨rfl, hb1⟩
    replace HB := Lib.hid (vbt HB.out hb1)
    clear hb1 c0 c1 c2 c3 c4 c5 c6
    go_wp2
    go_ret
    exact ⟨rfl, HB.out⟩
end Go.Proofs.Ytplgpnmahblhbaa
