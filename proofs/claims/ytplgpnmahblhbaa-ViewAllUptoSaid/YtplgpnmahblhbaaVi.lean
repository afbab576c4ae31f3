/- Contracts: copyistref14.within, Taken, Follow, Scroll. No condition. -/
import Derived.Test.YtplgpnmahblhbaaVb
import Derived.Deep.RegionWith
import Derived.Deep.RegionHeld3
namespace Go.Proofs.Ytplgpnmahblhbaa
open Go.RowKit
set_option maxHeartbeats 1000000 in
theorem within_any (n l m : Int) (w : World) :
    Calls Try.prog 57 #[.int .i64 n, .int .i64 l, .int .i64 m] w fun e w' => e = .returned (.int .i64 (max l (min n m))) ∧ w = w' := by
  go_enter Try.func57, Try.ntmps57
  go_wp2
  all_goals
    go_ret
    exact ⟨ret_int (by omega), rfl⟩
def IsFr (w : World) (b : Nat) (l h t : Int) : Prop := w.heap[b]? = some (.cells #[.int .i64 l, .int .i64 h, .int .i64 t] 62 (0, 0))
theorem IsFr.facts {w : World} {b : Nat} {t h n : Int} (k : IsFr w b t h n) :
    (w.cell? ⟨b, 0, none⟩ = some (.int .i64 t) ∧ w.cell? ⟨b, 1, none⟩ = some (.int .i64 h) ∧ w.cell? ⟨b, 2, none⟩ = some (.int .i64 n)) ∧
    (w.frozen? ⟨b, 0, none⟩ = false ∧ w.frozen? ⟨b, 1, none⟩ = false ∧ w.frozen? ⟨b, 2, none⟩ = false) :=
  ⟨⟨v_cell k, v_cell k, v_cell k⟩, ⟨v_free k, v_free k, v_free k⟩⟩
theorem fr_set {w : World} {b : Nat} {t h n : Int} (k : IsFr w b t h n) (x y z : Int) :
    IsFr (((w.setCell ⟨b, 0, none⟩ (.int .i64 x)).setCell ⟨b, 1, none⟩ (.int .i64 y)).setCell ⟨b, 2, none⟩ (.int .i64 z)) b x y z := v_set _ (v_set _ (v_set _ k))
theorem fr_one (w : World) (t h n : Int) : IsFr (w.alloc (.cells #[.int .i64 t, .int .i64 h, .int .i64 n] 62)) w.heap.size t h n := by
  show (w.heap.push _)[w.heap.size]? = _
  simp
theorem fr_two (w : World) (t h n t' h' n' : Int) : IsFr ((w.alloc (.cells #[.int .i64 t, .int .i64 h, .int .i64 n] 62)).alloc (.cells #[.int .i64 t', .int .i64 h', .int .i64 n'] 62)) w.heap.size t h n := by
  show ((w.heap.push _).push _)[w.heap.size]? = _
  simp [Array.getElem?_push]
set_option maxHeartbeats 2000000 in
theorem taken_any (height lines : Int) (w : World) :
    Calls Try.prog 56 #[.int .i64 height, .int .i64 lines] w fun e w' => e = .returned (.agg #[.int .i64 (nF lines), .int .i64 (hF height), .int .i64 (bF height lines)]) ∧ Below w.heap.size w w' := by
  have H1 := nF_bd lines
  have H2 := hF_bd height
  have hn : nF lines = max 1 (min lines 1099511627776) := by unfold nF; omega
  have hh : hF height = max 1 (min height 200) := by unfold hF; omega
  have hb : bF height lines = max (nF lines - hF height) 0 := rfl
  generalize bF height lines = b at *
  generalize hF height = h at *
  generalize nF lines = n at *
  have HN := Lib.hid hn
  have HH := Lib.hid hh
  have HBo := Lib.hid hb
  clear hn hh hb
  go_enter Try.func56, Try.ntmps56
  go_wp2_with (first | (go_at_call 57; refine (within_any _ _ _ _).mono ?_; rintro e w1 ⟨rfl, rfl⟩; first | rw [← HN.out] | rw [← HH.out]))
  all_goals
    refine bodyPost_ret (results_cell_row (by rfl) _ _ _ _ _ _ _ (by rfl) (fr_two w _ _ _ _ _ _) Try.underlying62 rfl (by kernel_rfl)) rfl ⟨agg3 rfl rfl ?_, below_two _ _ _⟩
    have := HBo.out; omega
set_option maxHeartbeats 4000000 in
theorem rfollow_any (top height lines line : Int) (w : World) :
    Calls Try.prog 45 #[.int .i64 top, .int .i64 height, .int .i64 lines, .int .i64 line] w fun e w' => e = .returned (.int .i64 (followF top height lines line)) ∧ Below w.heap.size w w' := by
  have H1 := nF_bd lines
  have H2 := hF_bd height
  have hl : tF line lines = max 0 (min line (nF lines - 1)) := by unfold tF; have := nF_bd lines; omega
  have ht : tF top lines = max 0 (min top (nF lines - 1)) := by unfold tF; have := nF_bd lines; omega
  have H3 := tF_bd top lines
  have H4 := tF_bd line lines
  have hr : followF top height lines line = max (max (tF line lines - hF height + 1) 0) (min (tF top lines) (tF line lines)) := by
    unfold followF
    have := hF_bd height
    split
    · omega
    · split <;> omega
  have hta := taken_any height lines w
  generalize followF top height lines line = r at *
  generalize tF top lines = t at *
  generalize tF line lines = l at *
  generalize bF height lines = b at *
  generalize hF height = h at *
  generalize nF lines = n at *
  have HT := Lib.hid ht
  have HL := Lib.hid hl
  have HR := Lib.hid hr
  have HTA := Lib.hid hta
  clear ht hl hr hta
  go_enter Try.func45, Try.ntmps45
  go_wp2_with fail
  refine HTA.out.mono ?_
  rintro e w1 ⟨rfl, hb1⟩
  have HB := Lib.hid hb1
  have k1 := fr_one w1 n h b
  obtain ⟨⟨c0, c1, c2⟩, ⟨f0, f1, f2⟩⟩ := k1.facts
  clear hb1 HTA k1
  go_wp2_with fail
  refine (within_any line 0 (n - 1) _).mono ?_
  rintro e w2 ⟨rfl, rfl⟩
  rw [← HL.out]
  have hB0 := HB.out.alloc HB.out.size (.cells #[.int .i64 n, .int .i64 h, .int .i64 b] 62)
  have q1 : IntKind.i64.wrap (l - h) = l - h := by rw [IntKind.wrap_i64]; omega
  have q2 : IntKind.i64.wrap (l - h + 1) = l - h + 1 := by rw [IntKind.wrap_i64]; omega
  have q3 : IntKind.i64.wrap (n - 1) = n - 1 := by rw [IntKind.wrap_i64]; omega
  by_cases hm : l - h + 1 < 0
  · have hr2 : r = max 0 (min t l) := by have := HR.out; omega
    have HR2 := Lib.hid hr2
    clear hr2
    go_wp2_with fail
    go_region_held3 (fun w' => w'.cell? ⟨w1.heap.size, 0, none⟩ = some (.int .i64 n) ∧ w'.cell? ⟨w1.heap.size, 1, none⟩ = some (.int .i64 h) ∧ Below w.heap.size w w')
      (first | exact ⟨c0, c1, hB0.drew⟩ | go_keep)
      (first | (go_at_call 57; refine (within_any _ _ _ _).mono ?_; rintro e w2 ⟨rfl, rfl⟩; first | rw [← HT.out] | rw [← HR2.out]))
    all_goals
      have HD := Lib.hid hB0.drew
      go_wp2
      go_ret
      exact ⟨rfl, HD.out⟩
  · have hm2 : 0 ≤ l - h + 1 := by omega
    have hr2 : r = max (if l - h + 1 < 0 then 0 else l - h + 1) (min t l) := by have := HR.out; rw [if_neg hm]; omega
    have hr3 : r = max (l - h + 1) (min t l) := by have := HR.out; omega
    have HR3 := Lib.hid hr3
    clear hr3
    have HR2 := Lib.hid hr2
    clear hr2
    go_wp2_with fail
    go_region_held3 (fun w' => w'.cell? ⟨w1.heap.size, 0, none⟩ = some (.int .i64 n) ∧ w'.cell? ⟨w1.heap.size, 1, none⟩ = some (.int .i64 h) ∧ Below w.heap.size w w')
      (first | exact ⟨c0, c1, hB0.drew⟩ | go_keep)
      (first | (go_at_call 57; refine (within_any _ _ _ _).mono ?_; rintro e w2 ⟨rfl, rfl⟩; first | rw [← HT.out] | rw [← HR2.out] | rw [← HR3.out]))
    all_goals
      have HD := Lib.hid hB0.drew
      go_wp2
      go_ret
      exact ⟨rfl, HD.out⟩
set_option maxHeartbeats 4000000 in
theorem rscroll_any (top by_ height lines : Int) (w : World) :
    Calls Try.prog 46 #[.int .i64 top, .int .i64 by_, .int .i64 height, .int .i64 lines] w fun e w' => e = .returned (.int .i64 (scrollF top by_ height lines)) ∧ Below w.heap.size w w' := by
  have H1 := nF_bd lines
  have H2 := hF_bd height
  have ht : tF top lines = max 0 (min top (nF lines - 1)) := by unfold tF; have := nF_bd lines; omega
  have H3 := tF_bd top lines
  have H4 := bF_bd height lines
  obtain ⟨sp, hsp⟩ : ∃ sp, max (-1099511627776) (min by_ 1099511627776) = sp := ⟨_, rfl⟩
  have hr : scrollF top by_ height lines = if sp < 0 then max (tF top lines + sp) 0 else max (min (tF top lines + sp) (bF height lines)) (tF top lines) := by
    unfold scrollF
    by_cases g1 : by_ < 0
    · have hs : sp < 0 := by omega
      rw [if_pos hs]
      by_cases g2 : by_ < -(tF top lines)
      · rw [if_pos ⟨g1, g2⟩]; omega
      · rw [if_neg (fun h => g2 h.2), if_pos g1]; omega
    · have hs : ¬ sp < 0 := by omega
      rw [if_neg hs, if_neg (fun h => g1 h.1), if_neg g1]
      by_cases g3 : bF height lines ≤ tF top lines
      · rw [if_pos g3]; omega
      · rw [if_neg g3]
        by_cases g4 : bF height lines - tF top lines < by_
        · rw [if_pos g4]; omega
        · rw [if_neg g4]; omega
  have hta := taken_any height lines w
  have hspb : -1099511627776 ≤ sp ∧ sp ≤ 1099511627776 := by omega
  generalize scrollF top by_ height lines = r at *
  generalize tF top lines = t at *
  generalize bF height lines = b at *
  generalize hF height = h at *
  generalize nF lines = n at *
  have HT := Lib.hid ht
  have HR := Lib.hid hr
  have HTA := Lib.hid hta
  have HSP := Lib.hid hsp
  clear ht hr hta hsp
  go_enter Try.func46, Try.ntmps46
  go_wp2_with fail
  refine HTA.out.mono ?_
  rintro e w1 ⟨rfl, hb1⟩
  have HB := Lib.hid (hb1.alloc hb1.size (.cells #[.int .i64 n, .int .i64 h, .int .i64 b] 62))
  have k1 := fr_one w1 n h b
  obtain ⟨⟨c0, c1, c2⟩, ⟨f0, f1, f2⟩⟩ := k1.facts
  clear hb1 HTA k1
  go_wp2_with fail
  refine (within_any top 0 (n - 1) _).mono ?_
  rintro e w2 ⟨rfl, rfl⟩
  rw [← HT.out]
  go_wp2_with fail
  refine (within_any by_ (-1099511627776) 1099511627776 _).mono ?_
  rintro e w2 ⟨rfl, rfl⟩
  rw [HSP.out]
  by_cases hs : sp < 0
  · have hr2 := HR.out
    rw [if_pos hs] at hr2
    have HR2 := Lib.hid hr2
    clear hr2
    go_wp2
    all_goals
      go_ret
      exact ⟨ret_int (by have := HR2.out; omega), HB.out⟩
  · have hr2 := HR.out
    rw [if_neg hs] at hr2
    have HR2 := Lib.hid hr2
    clear hr2
    go_wp2
    all_goals
      go_ret
      exact ⟨ret_int (by have := HR2.out; omega), HB.out⟩
end Go.Proofs.Ytplgpnmahblhbaa
