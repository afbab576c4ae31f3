/- Contract: asked of chapter 14 for the kinds 7 and 8. Condition: fewer than 2^30 atoms. -/
import Derived.Test.YtplgpnmahblhbaaOe
import Derived.Test.YtplgpnmahblhbaaOf
import Derived.Test.YtplgpnmahblhbaaVj
namespace Go.Proofs.Ytplgpnmahblhbaa
open Go.RowKit
/-- the fields of the ask that these kinds read -/
def AskAt (w : World) (b : Nat) (k A : Int) (V : Value) : Prop :=
  w.cell? ⟨b, 0, none⟩ = some (.int .i64 k) ∧ w.cell? ⟨b, 1, none⟩ = some (.int .i64 A) ∧ w.cell? ⟨b, 6, none⟩ = some V ∧ b < w.heap.size
theorem AskAt.below {w w' : World} {b B : Nat} {k A : Int} {V : Value} (h : AskAt w b k A V) (hb : Below B w w') (hB : b < B) : AskAt w' b k A V := by
  obtain ⟨h0, h1, h2, h3⟩ := h
  exact ⟨(hb.cell hB).trans h0, (hb.cell hB).trans h1, (hb.cell hB).trans h2, Nat.lt_of_lt_of_le h3 hb.size⟩
theorem AskAt.later {w w' : World} {b : Nat} {k A : Int} {V : Value} (h : AskAt w b k A V) (hb : Below w.heap.size w w') : AskAt w' b k A V := h.below hb h.2.2.2
/-- the own list 'now': nothing, or a row behind block c -/
def NowAt (w : World) (c n : Nat) (so : Option Addr) (Y : Nat → Int) : Prop := n = 0 ∨ ∃ g, so = some ⟨g, 0, none⟩ ∧ c < g ∧ IRow w g n Y
theorem NowAt.later {w w' : World} {c n : Nat} {so : Option Addr} {Y : Nat → Int} (h : NowAt w c n so Y) (hb : Below w.heap.size w w') : NowAt w' c n so Y := by
  rcases h with h | ⟨g, h1, h2, h3⟩
  · exact .inl h
  · exact .inr ⟨g, h1, h2, h3.later hb⟩
theorem NowAt.ints {w : World} {c n : Nat} {so : Option Addr} {Y : Nat → Int} (h : NowAt w c n so Y) : IsInts w so n Y := by
  rcases h with h | ⟨g, rfl, h2, h3⟩
  · exact .inl h
  · exact h3.ints (Nat.le_refl _)
theorem cell_self {w : World} {b i n : Nat} {f : Nat → Int} (h : IRow w b n f) (hi : i < n) (x : Int) : (w.setCell ⟨b, i, none⟩ (.int .i64 x)).cell? ⟨b, i, none⟩ = some (.int .i64 x) := by
  have := (h.set (g := fun j => if j = i then x else f j) i x (fun j _ => rfl)).cell hi
  rw [this, if_pos rfl]
theorem below_at {w : World} {B b i : Nat} {v : Value} (h : B ≤ b) : Below B w (w.setCell ⟨b, i, none⟩ v) := (Below.refl _ _).setCell (p := ⟨b, i, none⟩) h _
theorem run_make_ints (n : Nat) (hn : n < 1073741824) (w : World) :
    (Instr.makeSlice 32 (.int .i64 ((n : Int) + 100)) (.int .i64 ((n : Int) + 100))).run Try.prog w = .ok (.slice (some ⟨w.heap.size, 0, none⟩) (n + 100) (n + 100)) (w.alloc (.cells (madeCells #[.int .i64 0] (n + 100)) 3)) := by
  have h := run_make_row' (P := Try.prog) 32 3 (.int .i64 0) 8 Try.underlying32 Try.infoInt rfl .i64 .i64 (n + 100) (by omega) (by omega) w
  rw [Int.natCast_add] at h
  exact h
set_option maxRecDepth 100000 in
set_option maxHeartbeats 8000000 in
theorem asked78_any (k A B C D : Int) (x : Nat) (s : Option Addr) (n c : Nat) (f : Nat → Int) (w : World) (hk : k = 7 ∨ k = 8) (hn : n < 1073741824) (hr : IsInts w s n f) (hnil : s = none → n = 0 ∧ c = 0) :
    Calls Try.prog 26 #[.agg #[.int .i64 k, .int .i64 A, .int .i64 B, .int .i64 C, .int .i64 D, .float .f64 x, .slice s n c]] w fun e w' => e = .returned (.bool true) ∧ Below w.heap.size w w' := by
  have hmk := run_make_ints n hn
  have HR := Lib.hid hr
  have hask : AskAt (w.alloc (.cells #[.int .i64 k, .int .i64 A, .int .i64 B, .int .i64 C, .int .i64 D, .float .f64 x, .slice s n c] 44)) w.heap.size k A (.slice s n c) := by
    obtain ⟨c0, c1, c2, c3, c4, c5, c6⟩ := ask_new w k A B C D (.float .f64 x) (.slice s n c)
    simp only [Nat.zero_add] at c1 c6
    exact ⟨c0, c1, c6, by show w.heap.size < (w.heap.push _).size; simp⟩
  have HB := Lib.hid (below_new w (.cells #[.int .i64 k, .int .i64 A, .int .i64 B, .int .i64 C, .int .i64 D, .float .f64 x, .slice s n c] 44))
  have hsz : (w.alloc (.cells #[.int .i64 k, .int .i64 A, .int .i64 B, .int .i64 C, .int .i64 D, .float .f64 x, .slice s n c] 44)).heap.size = w.heap.size + 1 := by simp
  clear hr
  obtain ⟨c0, c1, c6, c7⟩ := hask
  have hkk : ¬ (k < 7) := by omega
  have hkk2 : ¬ (8 < k) := by omega
  have q1 : IntKind.i64.wrap ((n : Int) + 100) = (n : Int) + 100 := by rw [IntKind.wrap_i64]; omega
  have hrow0 : IRow ((w.alloc (.cells #[.int .i64 k, .int .i64 A, .int .i64 B, .int .i64 C, .int .i64 D, .float .f64 x, .slice s n c] 44)).alloc (.cells (madeCells #[.int .i64 0] (n + 100)) 3)) (w.heap.size + 1) (n + 100) (fun _ => 0) := by
    rw [← hsz]; exact row_made _ _
  have hb0 : Below w.heap.size w ((w.alloc (.cells #[.int .i64 k, .int .i64 A, .int .i64 B, .int .i64 C, .int .i64 D, .float .f64 x, .slice s n c] 44)).alloc (.cells (madeCells #[.int .i64 0] (n + 100)) 3)) := HB.out.alloc HB.out.size _
  have ha0 : AskAt ((w.alloc (.cells #[.int .i64 k, .int .i64 A, .int .i64 B, .int .i64 C, .int .i64 D, .float .f64 x, .slice s n c] 44)).alloc (.cells (madeCells #[.int .i64 0] (n + 100)) 3)) w.heap.size k A (.slice s n c) := AskAt.later ⟨c0, c1, c6, c7⟩ (below_new _ _)
  have HROW := Lib.hid hrow0
  have HB0 := Lib.hid hb0
  have HA0 := Lib.hid ha0
  clear hrow0 hb0 ha0
  go_enter Try.func26, Try.ntmps26
  go_wp2_with (first | (refine wpList_copy_list rfl _ _ rfl (w.heap.size + 1) n (n + 100) (n + 100) (fun _ => 0) s c f rfl rfl HROW.out (HR.out.later HB0.out) (by omega) ?_; intro w2 hrow hbw; replace HROW := Lib.hid hrow; replace HA0 := Lib.hid (HA0.out.below hbw (by omega)); replace HB := Lib.hid (HB0.out.trans (hbw.mono (by omega))); clear hrow hbw HB0 c0 c1 c6 c7))
  go_loopg [5] 100 (fun g iv wr => ∃ i : Nat, ∃ F : Nat → Int, i + g = n + 100 ∧ n ≤ i ∧ iv = .int .i64 i ∧ IRow wr (w.heap.size + 1) (n + 100) F ∧ (∀ j, n ≤ j → j < i → F j = 771 + (j : Int)) ∧ AskAt wr w.heap.size k A (.slice s n c) ∧ Below w.heap.size w wr)
  case atStart => exact ⟨n, _, by omega, Nat.le_refl _, rfl, HROW.out, fun j h1 h2 => by omega, HA0.out, HB.out⟩
  case round =>
    obtain ⟨i, F, hg, hni, rfl, hrow, hF, ha, hb⟩ := hrel
    replace HROW := Lib.hid hrow
    replace HA0 := Lib.hid ha
    replace HB := Lib.hid hb
    have HF := Lib.hid hF
    clear hrow ha hb hF
    by_cases hlt : i < n + 100
    · have hcell := HROW.out.cell hlt
      have hfree := HROW.out.free i
      have r1 : (i : Int) < (n : Int) + 100 := by omega
      go_wp2
      go_roundg (gk - 1)
      case measure => omega
      case rel =>
        refine ⟨i + 1, fun j => if j = i then 771 + (i : Int) else F j, by omega, by omega, by go_num, HROW.out.set i _ (fun j _ => rfl), fun j h1 h2 => ?_, HA0.out.below ((Below.refl (w.heap.size + 1) _).setCell (Nat.le_refl _) _) (by omega), HB.out.setCell (by show w.heap.size ≤ w.heap.size + 1; omega) _⟩
        show (if j = i then 771 + (i : Int) else F j) = _
        by_cases hji : j = i
        · rw [if_pos hji, hji]
        · rw [if_neg hji]; exact HF.out j h1 (by omega)
    · obtain rfl : i = n + 100 := by omega
      go_wp2_with fail
      go_loopg [6] 3 (fun g tv wr => ∃ t : Nat, ∃ F : Nat → Int, t + g = 3 ∧ tv = .int .i64 t ∧ IRow wr (w.heap.size + 1) (n + 100) F ∧ (∀ j, n ≤ j → j < n + 100 → F j = 771 + (j : Int)) ∧ AskAt wr w.heap.size k A (.slice s n c) ∧ Below w.heap.size w wr)
      case atStart => exact ⟨0, F, by omega, rfl, HROW.out, fun j h1 h2 => HF.out j h1 h2, HA0.out, HB.out⟩
      case round =>
        clear HROW HA0 HB HF
        obtain ⟨t, F, hg, rfl, hrow, hF, ha, hb⟩ := hrel
        have HROW := Lib.hid hrow
        have HA0 := Lib.hid ha
        have HB := Lib.hid hb
        have HF := Lib.hid hF
        clear hrow hb hF
        obtain ⟨c0, c1, c6, c7⟩ := ha
        have hgw : w.heap.size + 1 < wr.heap.size := HROW.out.lt
        by_cases ht : t < 3
        · have ht' : (t : Int) < 3 := by omega
          go_wp2_with (first | (at_builtin; refine wpList_append_all rfl _ _ rfl rfl s n c f rfl (HR.out.later HB.out) hnil (by omega) wr.heap.size (Nat.le_refl _) ?_; intro so co w3 ho hb2 hc hnl hi; have hnow : NowAt w3 (w.heap.size + 1) n so f := (by rcases ho.row with h | ⟨g, h1, h2, h3⟩; exact .inl h; exact .inr ⟨g, h1, by omega, h3⟩); replace HROW := Lib.hid (HROW.out.later hb2); replace HA0 := Lib.hid (HA0.out.later hb2); replace HB := Lib.hid (vbt HB.out hb2); have HNOW := Lib.hid hnow; clear ho hb2 hnl hi hnow c0 c1 c6 c7))
          go_loopg [8] n (fun g iv wr => ∃ i : Nat, ∃ F Y : Nat → Int, i + g = n ∧ iv = .int .i64 i ∧ IRow wr (w.heap.size + 1) (n + 100) F ∧ (∀ j, n ≤ j → j < n + 100 → F j = 771 + (j : Int)) ∧ NowAt wr (w.heap.size + 1) n so Y ∧ (∀ j, j < i → F j = Y j) ∧ AskAt wr w.heap.size k A (.slice s n c) ∧ Below w.heap.size w wr)
          case atStart => exact ⟨0, F, f, by omega, rfl, HROW.out, HF.out, HNOW.out, fun j h => by omega, HA0.out, HB.out⟩
          case round =>
            clear HROW HA0 HB HF HNOW
            obtain ⟨i, F, Y, hgi, rfl, hrow, hF, hnow, hFY, ha, hb⟩ := hrel
            have HROW := Lib.hid hrow
            have HA0 := Lib.hid ha
            have HB := Lib.hid hb
            have HF := Lib.hid hF
            have HNOW := Lib.hid hnow
            have HFY := Lib.hid hFY
            clear hrow hb hF hnow hFY
            obtain ⟨c0, c1, c6, c7⟩ := ha
            by_cases hlt : i < n
            · have hnow := HNOW.out
              rcases hnow with h0 | ⟨g, rfl, hg2, hrowY⟩
              · exfalso; omega
              · clear HNOW
                have HY := Lib.hid hrowY
                have d1 := hrowY.cell hlt
                have d2 := hrowY.free i
                have d3 := HROW.out.cell (show i < n + 100 by omega)
                have d4 := HROW.out.free i
                have d5 : ∀ x, (wr.setCell ⟨g, i, none⟩ (.int .i64 x)).cell? ⟨g, i, none⟩ = some (.int .i64 x) := cell_self hrowY hlt
                have d6 : ∀ v, (wr.setCell ⟨g, i, none⟩ v).cell? ⟨w.heap.size + 1, i, none⟩ = some (.int .i64 (F i)) := fun v => (HROW.out.other (by omega) v).cell (by omega)
                have d7 : ∀ v, (wr.setCell ⟨g, i, none⟩ v).frozen? ⟨w.heap.size + 1, i, none⟩ = false := fun v => (HROW.out.other (c := g) (i := i) (by omega) v).free i
                clear hrowY
                have e1 : (i : Int) < (n : Int) := by omega
                have e2 : (i : Int) < (n : Int) + 100 := by omega
                have done : ∀ (v : Int) (w4 : World), IRow w4 g n (fun j => if j = i then v else Y j) → IRow w4 (w.heap.size + 1) (n + 100) (fun j => if j = i then v else F j) → Below (w.heap.size + 1) wr w4 →
                    ∃ F Y : Nat → Int, IRow w4 (w.heap.size + 1) (n + 100) F ∧ (∀ j, n ≤ j → j < n + 100 → F j = 771 + (j : Int)) ∧ NowAt w4 (w.heap.size + 1) n (some ⟨g, 0, none⟩) Y ∧ (∀ j, j < i + 1 → F j = Y j) ∧ AskAt w4 w.heap.size k A (.slice s n c) ∧ Below w.heap.size w w4 := by
                  intro v w4 h1 h2 h3
                  refine ⟨_, _, h2, fun j hj hj2 => ?_, .inr ⟨g, rfl, hg2, h1⟩, fun j hj => ?_, HA0.out.below h3 (by omega), HB.out.trans (h3.mono (by omega))⟩
                  · show (if j = i then v else F j) = _
                    rw [if_neg (by omega)]; exact HF.out j hj hj2
                  · show (if j = i then v else F j) = (if j = i then v else Y j)
                    by_cases hji : j = i
                    · rw [if_pos hji, if_pos hji]
                    · rw [if_neg hji, if_neg hji]; exact HFY.out j (by omega)
                have DONE := Lib.hid done
                clear done
                have two : ∀ (v : Int), ∃ F' Y' : Nat → Int, IRow ((wr.setCell ⟨g, i, none⟩ (.int .i64 v)).setCell ⟨w.heap.size + 1, i, none⟩ (.int .i64 v)) (w.heap.size + 1) (n + 100) F' ∧ (∀ j, n ≤ j → j < n + 100 → F' j = 771 + (j : Int)) ∧ NowAt ((wr.setCell ⟨g, i, none⟩ (.int .i64 v)).setCell ⟨w.heap.size + 1, i, none⟩ (.int .i64 v)) (w.heap.size + 1) n (some ⟨g, 0, none⟩) Y' ∧ (∀ j, j < i + 1 → F' j = Y' j) ∧ AskAt ((wr.setCell ⟨g, i, none⟩ (.int .i64 v)).setCell ⟨w.heap.size + 1, i, none⟩ (.int .i64 v)) w.heap.size k A (.slice s n c) ∧ Below w.heap.size w ((wr.setCell ⟨g, i, none⟩ (.int .i64 v)).setCell ⟨w.heap.size + 1, i, none⟩ (.int .i64 v)) := by
                  intro v
                  refine DONE.out v _ ((HY.out.set i v (fun j _ => rfl)).other (by omega) _) (((HROW.out).other (by omega) _).set i v (fun j _ => rfl)) ?_
                  exact (below_at (by omega)).trans (below_at (Nat.le_refl _))
                have TWO := Lib.hid two
                clear two
                by_cases ht1 : t = 1
                · subst ht1
                  obtain ⟨m, hm⟩ : ∃ m : Nat, m + i + 1 = n := ⟨n - 1 - i, by omega⟩
                  have e3 : IntKind.i64.wrap ((n : Int) - 1) = (n : Int) - 1 := by rw [IntKind.wrap_i64]; omega
                  have e4 : IntKind.i64.wrap ((n : Int) - 1 - (i : Int)) = (m : Int) := by rw [IntKind.wrap_i64]; omega
                  have e5 : (m : Int) < (n : Int) := by omega
                  obtain ⟨lb, lo, rfl, d8⟩ := HR.out.at HB.out (show m < n by omega)
                  generalize f m = v at *
                  go_wp2
                  go_roundg (gk - 1)
                  case measure => omega
                  case rel =>
                    obtain ⟨F', Y', h⟩ := TWO.out v
                    exact ⟨i + 1, F', Y', by omega, by go_num, h⟩
                · by_cases ht2 : t = 2
                  · subst ht2
                    by_cases hy : Y i = 19968
                    · rw [hy] at d1
                      go_wp2
                      go_roundg (gk - 1)
                      case measure => omega
                      case rel =>
                        obtain ⟨F', Y', h⟩ := TWO.out 97
                        exact ⟨i + 1, F', Y', by omega, by go_num, h⟩
                    · have hy' : (Y i == 19968) = false := by simpa using hy
                      have hy2 : (Y i != 19968) = true := by simpa using hy
                      generalize Y i = y at *
                      go_wp2
                      go_roundg (gk - 1)
                      case measure => omega
                      case rel =>
                        obtain ⟨F', Y', h⟩ := TWO.out 19968
                        exact ⟨i + 1, F', Y', by omega, by go_num, h⟩
                  · have z1 : ((t : Int) == 1) = false := by simp; omega
                    have z2 : ((t : Int) == 2) = false := by simp; omega
                    have one := DONE.out (Y i) (wr.setCell ⟨w.heap.size + 1, i, none⟩ (.int .i64 (Y i))) (((HY.out).other (by omega) _).same (fun j _ => by by_cases h : j = i; rw [if_pos h, h]; rw [if_neg h])) (HROW.out.set i (Y i) (fun j _ => rfl)) (below_at (Nat.le_refl _))
                    have ONE := Lib.hid one
                    clear one
                    generalize Y i = y at *
                    go_wp2
                    go_roundg (gk - 1)
                    case measure => omega
                    case rel =>
                      obtain ⟨F', Y', h⟩ := ONE.out
                      exact ⟨i + 1, F', Y', by omega, by go_num, h⟩
            · obtain rfl : n = i := by omega
              have hrowF := HROW.out
              have hFY := HFY.out
              have hBr := Below.refl wr.heap.size wr
              have hI := (hrowF.ints (show n ≤ n + 100 by omega)).same hFY
              have r2 : (n : Int) ≤ ((n + 100 : Nat) : Int) := by omega
              have r3 : (n : Int) ≤ (n : Int) + 100 := by omega
              have r4 : (0 : Int) ≤ (n : Int) := by omega
              have r5 : n ≤ n + 100 := by omega
              clear hrowF hFY
              rcases hk with rfl | rfl
              · go_wp2_with fail
                go_region_held3 (fun w' => w'.cell? ⟨w.heap.size, 1, none⟩ = some (.int .i64 A) ∧ Below wr.heap.size wr w')
                  (first | exact ⟨c1, hBr.drew⟩ | go_keep | (go_split_ands; exact ⟨vcell_below (by assumption) hb2, vbt (by assumption) hb2⟩))
                  (first | (go_at_call 21; refine (cell_any (some ⟨w.heap.size + 1, 0, none⟩) n (n + 100) Y A _ (by omega) (by omega) (IsInts.later hI (by first | assumption | exact hBr.drew | (rename_i h; exact h.2)))).mono ?_; rintro e w4 ⟨rfl, hb2⟩))
                all_goals
                  have hh : Below wr.heap.size wr w4 := by (first | (rename_i h; exact h.2) | assumption)
                  have HROW4 := Lib.hid (HROW.out.later hh)
                  have HNOW4 := Lib.hid (HNOW.out.later hh)
                  have HA4 := Lib.hid (HA0.out.later hh)
                  have HB4 := Lib.hid (vbt HB.out hh)
                  clear hh hBr hI
                  obtain ⟨c0, c1, c6, c7⟩ := HA4.out
                  go_wp2_with fail
                  refine (rcell_c so n co Y A _ (by omega) HNOW4.out.ints).mono ?_
                  rintro e w5 ⟨rfl, hb5⟩
                  clear c0 c1 c6 c7
                  replace HROW4 := Lib.hid (HROW4.out.later hb5)
                  replace HNOW4 := Lib.hid (HNOW4.out.later hb5)
                  replace HA4 := Lib.hid (HA4.out.later hb5)
                  replace HB4 := Lib.hid (vbt HB4.out hb5)
                  clear hb5
                  generalize cellF Y n A = got at *
                  go_wp2_with fail
                  go_loopg [11] n (fun g iv wz => ∃ i : Nat, i + g = n ∧ iv = .int .i64 i ∧ IRow wz (w.heap.size + 1) (n + 100) F ∧ NowAt wz (w.heap.size + 1) n so Y ∧ AskAt wz w.heap.size 7 A (.slice s n c) ∧ Below w.heap.size w wz)
                  case atStart => exact ⟨0, by omega, rfl, HROW4.out, HNOW4.out, HA4.out, HB4.out⟩
                  case round =>
                    clear HROW4 HNOW4 HA4 HB4
                    obtain ⟨i, hgi, rfl, hrow, hnow, ha, hb⟩ := hrel
                    have HROW4 := Lib.hid hrow
                    have HNOW4 := Lib.hid hnow
                    have HA4 := Lib.hid ha
                    have HB4 := Lib.hid hb
                    clear hrow ha hb
                    by_cases hlt : i < n
                    · rcases hnow with h0 | ⟨g, rfl, hg2, hrowY⟩
                      · exfalso; omega
                      · have d1 := hrowY.cell hlt
                        have d2 := HROW4.out.cell (show i < n + 100 by omega)
                        rw [HFY.out i hlt] at d2
                        generalize Y i = y at d1 d2
                        have e1 : (i : Int) < (n : Int) := by omega
                        have e2 : (i : Int) < (n : Int) + 100 := by omega
                        have hBz := Below.refl wr.heap.size wr
                        clear hrowY
                        go_wp2_with fail
                        go_region_held3 (fun w' => w'.cell? ⟨w.heap.size + 1, i, none⟩ = some (.int .i64 y) ∧ w'.cell? ⟨g, i, none⟩ = some (.int .i64 y) ∧ Below wr.heap.size wr w')
                          (first | exact ⟨d2, d1, hBz.drew⟩ | go_keep) (fail)
                        have hd : Below wr.heap.size wr wr.drew := (Below.refl _ _).drew
                        replace HROW4 := Lib.hid (HROW4.out.later hd)
                        replace HNOW4 := Lib.hid (HNOW4.out.later hd)
                        replace HA4 := Lib.hid (HA4.out.later hd)
                        replace HB4 := Lib.hid (vbt HB4.out hd)
                        generalize wr.drew = wq at *
                        clear hd hBz d1 d2
                        go_wp2
                        go_roundg (gk - 1)
                        case measure => omega
                        case rel => exact ⟨i + 1, by omega, by go_num, HROW4.out, HNOW4.out, HA4.out, HB4.out⟩
                    · go_wp2
                      go_roundg (3 - (t + 1))
                      case measure => omega
                      case rel => exact ⟨t + 1, F, by omega, by go_num, HROW4.out, HF.out, HA4.out, HB4.out⟩
              · go_wp2_with fail
                go_region_held3 (fun w' => w'.cell? ⟨w.heap.size, 1, none⟩ = some (.int .i64 A) ∧ Below wr.heap.size wr w')
                  (first | exact ⟨c1, hBr.drew⟩ | go_keep | (go_split_ands; exact ⟨vcell_below (by assumption) hb2, vbt (by assumption) hb2⟩))
                  (first | (go_at_call 22; refine (at_any (some ⟨w.heap.size + 1, 0, none⟩) n (n + 100) Y A _ (by omega) (by omega) (IsInts.later hI (by first | assumption | exact hBr.drew | (rename_i h; exact h.2)))).mono ?_; rintro e w4 ⟨rfl, hb2⟩))
                all_goals
                  have hh : Below wr.heap.size wr w4 := by (first | (rename_i h; exact h.2) | assumption)
                  have HROW4 := Lib.hid (HROW.out.later hh)
                  have HNOW4 := Lib.hid (HNOW.out.later hh)
                  have HA4 := Lib.hid (HA0.out.later hh)
                  have HB4 := Lib.hid (vbt HB.out hh)
                  clear hh hBr hI
                  obtain ⟨c0, c1, c6, c7⟩ := HA4.out
                  go_wp2_with fail
                  refine (rat_c so n co Y A _ (by omega) HNOW4.out.ints).mono ?_
                  rintro e w5 ⟨rfl, hb5⟩
                  clear c0 c1 c6 c7
                  replace HROW4 := Lib.hid (HROW4.out.later hb5)
                  replace HNOW4 := Lib.hid (HNOW4.out.later hb5)
                  replace HA4 := Lib.hid (HA4.out.later hb5)
                  replace HB4 := Lib.hid (vbt HB4.out hb5)
                  clear hb5
                  generalize atF Y n A = got at *
                  go_wp2_with fail
                  go_loopg [11] n (fun g iv wz => ∃ i : Nat, i + g = n ∧ iv = .int .i64 i ∧ IRow wz (w.heap.size + 1) (n + 100) F ∧ NowAt wz (w.heap.size + 1) n so Y ∧ AskAt wz w.heap.size 8 A (.slice s n c) ∧ Below w.heap.size w wz)
                  case atStart => exact ⟨0, by omega, rfl, HROW4.out, HNOW4.out, HA4.out, HB4.out⟩
                  case round =>
                    clear HROW4 HNOW4 HA4 HB4
                    obtain ⟨i, hgi, rfl, hrow, hnow, ha, hb⟩ := hrel
                    have HROW4 := Lib.hid hrow
                    have HNOW4 := Lib.hid hnow
                    have HA4 := Lib.hid ha
                    have HB4 := Lib.hid hb
                    clear hrow ha hb
                    by_cases hlt : i < n
                    · rcases hnow with h0 | ⟨g, rfl, hg2, hrowY⟩
                      · exfalso; omega
                      · have d1 := hrowY.cell hlt
                        have d2 := HROW4.out.cell (show i < n + 100 by omega)
                        rw [HFY.out i hlt] at d2
                        generalize Y i = y at d1 d2
                        have e1 : (i : Int) < (n : Int) := by omega
                        have e2 : (i : Int) < (n : Int) + 100 := by omega
                        have hBz := Below.refl wr.heap.size wr
                        clear hrowY
                        go_wp2_with fail
                        go_region_held3 (fun w' => w'.cell? ⟨w.heap.size + 1, i, none⟩ = some (.int .i64 y) ∧ w'.cell? ⟨g, i, none⟩ = some (.int .i64 y) ∧ Below wr.heap.size wr w')
                          (first | exact ⟨d2, d1, hBz.drew⟩ | go_keep) (fail)
                        have hd : Below wr.heap.size wr wr.drew := (Below.refl _ _).drew
                        replace HROW4 := Lib.hid (HROW4.out.later hd)
                        replace HNOW4 := Lib.hid (HNOW4.out.later hd)
                        replace HA4 := Lib.hid (HA4.out.later hd)
                        replace HB4 := Lib.hid (vbt HB4.out hd)
                        generalize wr.drew = wq at *
                        clear hd hBz d1 d2
                        go_wp2
                        go_roundg (gk - 1)
                        case measure => omega
                        case rel => exact ⟨i + 1, by omega, by go_num, HROW4.out, HNOW4.out, HA4.out, HB4.out⟩
                    · go_wp2
                      go_roundg (3 - (t + 1))
                      case measure => omega
                      case rel => exact ⟨t + 1, F, by omega, by go_num, HROW4.out, HF.out, HA4.out, HB4.out⟩
        · have ht' : ¬ ((t : Int) < 3) := by omega
          go_wp2_with fail
          go_loopg [12] 100 (fun g iv wz => ∃ i : Nat, i + g = n + 100 ∧ n ≤ i ∧ iv = .int .i64 i ∧ IRow wz (w.heap.size + 1) (n + 100) F ∧ Below w.heap.size w wz)
          case atStart => exact ⟨n, by omega, Nat.le_refl _, rfl, HROW.out, HB.out⟩
          case round =>
            clear HROW HB HA0 c0 c1 c6 c7
            obtain ⟨i, hgi, hni, rfl, hrow, hb⟩ := hrel
            have HROW := Lib.hid hrow
            have HB := Lib.hid hb
            clear hrow hb
            by_cases hlt : i < n + 100
            · have d2 := HROW.out.cell hlt
              rw [HF.out i hni hlt] at d2
              have e2 : (i : Int) < (n : Int) + 100 := by omega
              have e3 : IntKind.i64.wrap (771 + (i : Int)) = 771 + (i : Int) := by rw [IntKind.wrap_i64]; omega
              go_wp2
              go_roundg (gk - 1)
              case measure => omega
              case rel => exact ⟨i + 1, by omega, by omega, by go_num, HROW.out, HB.out⟩
            · have e2 : ¬ ((i : Int) < (n : Int) + 100) := by omega
              go_wp2
              go_ret
              exact ⟨rfl, HB.out⟩
end Go.Proofs.Ytplgpnmahblhbaa
