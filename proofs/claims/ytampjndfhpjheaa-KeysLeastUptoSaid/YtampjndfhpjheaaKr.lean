/- Contract: KeysBack. Condition: a register and an argument of 64 bits. -/
import Derived.Test.YtampjndfhpjheaaSj
import Derived.Test.YtampjndfhpjheaaLc
namespace Go.Proofs.Ytampjndfhpjheaa
open Go.RowKit
set_option linter.unusedVariables false
theorem spell_keys {sel : Bool} {c : Cmd} {l : List Int} (h : spellP sel c = some l) (hr : inKey c.reg) (ha : inKey c.arg) : ∀ x ∈ l, inKey x := by
  rcases (fold_best sel c (candsP sel c) none).1 l h with ⟨hm, _⟩ | h1
  · obtain ⟨r, hrr, hl⟩ := List.mem_flatMap.1 hm
    obtain ⟨hd, hh, rfl⟩ := List.mem_map.1 hl
    intro x hx
    have h2 := rowsP_ok sel c ha r hrr
    obtain ⟨h1, h2', e⟩ : ∃ h1 h2, headsP c = [h1, h2] := ⟨_, _, rfl⟩
    have h3 := heads_key e hr
    rw [e] at hh
    simp only [List.mem_cons, List.not_mem_nil, or_false] at hh
    rcases List.mem_append.1 hx with hx | hx
    · rcases hh with rfl | rfl
      · exact h3.1 x hx
      · exact h3.2 x hx
    · exact h2.2.2 x hx
  · cases h1
set_option maxRecDepth 100000 in
set_option maxHeartbeats 8000000 in
theorem back_c (mode : Int) (c : Cmd) (w : World) (hreg : inKey c.reg) (harg : inKey c.arg) : Calls Try.prog 6 #[.int .i64 mode, .agg c.cells] w fun e w' => e = .returned (.bool true) ∧ Below w.heap.size w w' := by
  have HRG := Lib.hid hreg
  have HAG := Lib.hid harg
  clear hreg harg
  obtain ⟨y1, y2, y3, y4, y5⟩ := c
  have hbn := below_new2 w (.cells #[.int .i64 y1, .int .i64 y2, .int .i64 y3, .int .i64 y4, .int .i64 y5] 44)
  have hk := one_new w (.cells #[.int .i64 y1, .int .i64 y2, .int .i64 y3, .int .i64 y4, .int .i64 y5] 44)
  have HB := Lib.hid hbn
  have HK := Lib.hid hk
  clear hbn hk
  show Calls Try.prog 6 #[.int .i64 mode, .agg #[.int .i64 y1, .int .i64 y2, .int .i64 y3, .int .i64 y4, .int .i64 y5]] w _
  go_enter Try.func6, Try.ntmps6
  go_wp2_with fail
  generalize w.alloc (.cells #[.int .i64 y1, .int .i64 y2, .int .i64 y3, .int .i64 y4, .int .i64 y5] 44) = w1 at HB HK ⊢
  refine (alive_c w1).mono ?_
  rintro e w2 ⟨rfl, hb2⟩
  have hk2 := (hb2.block _ (heap_lt HK.out)).trans HK.out
  have HB2 := Lib.hid (HB.out.trans (hb2.mono HB.out.size))
  have HK2 := Lib.hid hk2
  have m0 : w2.cell? ⟨w.heap.size, 0, none⟩ = some (.int .i64 y1) := block_cell hk2
  have m1 : w2.cell? ⟨w.heap.size, 1, none⟩ = some (.int .i64 y2) := block_cell hk2
  have m2 : w2.cell? ⟨w.heap.size, 2, none⟩ = some (.int .i64 y3) := block_cell hk2
  have m3 : w2.cell? ⟨w.heap.size, 3, none⟩ = some (.int .i64 y4) := block_cell hk2
  have m4 : w2.cell? ⟨w.heap.size, 4, none⟩ = some (.int .i64 y5) := block_cell hk2
  have hsp := spell_c mode ⟨y1, y2, y3, y4, y5⟩ w2 HRG.out HAG.out
  have HSP : Hid (Calls Try.prog 16 #[.int .i64 mode, .agg #[.int .i64 y1, .int .i64 y2, .int .i64 y3, .int .i64 y4, .int .i64 y5]] w2 (SpellIs w2 (spellP (selP mode) ⟨y1, y2, y3, y4, y5⟩))) := Lib.hid hsp
  clear hb2 hk2 hsp HB HK
  go_wp2_with fail
  refine HSP.out.mono ?_
  clear m0 m1 m2 m3 m4
  rintro e w4 ⟨v, rfl, hv, hb4⟩
  have hb24 := HB2.out.trans (hb4.mono HB2.out.size)
  have hk4 := (hb4.block _ (heap_lt HK2.out)).trans HK2.out
  have HB4 := Lib.hid hb24
  have HK4 := Lib.hid hk4
  have HV := Lib.hid hv
  clear hb4 hb24 hk4 hv HB2 HK2 HSP
  cases hs : spellP (selP mode) ⟨y1, y2, y3, y4, y5⟩ with
  | none =>
    rw [hs] at HV
    have hv2 : v = .slice none 0 0 := HV.out
    subst hv2
    clear hs
    go_wp2
    go_ret
    exact ⟨rfl, HB4.out⟩
  | some l =>
    rw [hs] at HV
    obtain ⟨g, k, rfl, hq, hgl, hll⟩ := HV.out
    have hsf := spell_fed hs
    have hfd := fed_c mode (some ⟨g, 0, none⟩) l.length k l w4 rfl (by omega) (qok_list hq) (fun a e => by cases e; exact hq.lt) (spell_keys hs HRG.out HAG.out)
    rw [hsf.2] at hfd
    have HFD : Hid (Calls Try.prog 14 #[.int .i64 mode, .slice (some ⟨g, 0, none⟩) l.length k] w4 fun e w' => e = .returned (.tuple #[.agg #[.int .i64 y1, .int .i64 y2, .int .i64 y3, .int .i64 y4, .int .i64 y5], .int .i64 1]) ∧ Below w4.heap.size w4 w') := Lib.hid hfd
    have hn0 : ((l.length : Int) == 0) = false := by
      rw [beq_eq_false_iff_ne]
      have := List.length_pos_iff.2 hsf.1
      omega
    clear hs hq hsf hfd HV
    go_wp2_with fail
    refine HFD.out.mono ?_
    rintro e w5 ⟨rfl, hb5⟩
    have hk5 := (hb5.block _ (heap_lt HK4.out)).trans HK4.out
    have hk6 := ((below_new2 w5 (.cells #[.int .i64 y1, .int .i64 y2, .int .i64 y3, .int .i64 y4, .int .i64 y5] 44)).block _ (heap_lt hk5)).trans hk5
    have m0 := block_cell (i := 0) hk6
    have m1 := block_cell (i := 1) hk6
    have m2 := block_cell (i := 2) hk6
    have m3 := block_cell (i := 3) hk6
    have m4 := block_cell (i := 4) hk6
    have HB6 := Lib.hid (HB4.out.trans ((bt hb5 (below_new2 w5 (.cells #[.int .i64 y1, .int .i64 y2, .int .i64 y3, .int .i64 y4, .int .i64 y5] 44))).mono HB4.out.size))
    clear hb5 hk5 hk6 HFD
    go_wp2
    go_ret
    exact ⟨rfl, HB6.out⟩
end Go.Proofs.Ytampjndfhpjheaa
