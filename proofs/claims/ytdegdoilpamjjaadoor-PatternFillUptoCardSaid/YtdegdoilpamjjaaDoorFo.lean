/- Contracts: what the document does behind a backslash; the ints of a line that it takes. Condition: fewer than a million ints are given. -/
import Derived.Test.YtdegdoilpamjjaaDoorFm
import Derived.Test.YtdegdoilpamjjaaDoorFn
namespace Go.Proofs.YtdegdoilpamjjaaDoor
open Go.RowKit
set_option linter.unusedVariables false
def REsc (w0 : World) (b : Nat) (s : FS) (line : List Int) (M : Nat → Int) (d : Int) (e : Ending) (w' : World) : Prop :=
  Below w0.heap.size w0 w' ∧ match escT d with
    | none => e = .returned (.bool false)
    | some t => e = .returned (.bool true) ∧ ∃ so no co, FillR w' w0.heap.size b (execD line M s t) so no co
theorem REsc.some {w0 w' : World} {b : Nat} {s : FS} {line : List Int} {M : Nat → Int} {d : Int} {t : Tok} (ht : escT d = some t) (hb : Below w0.heap.size w0 w') (hm : ∃ so no co, FillR w' w0.heap.size b (execD line M s t) so no co) : REsc w0 b s line M d (.returned (.bool true)) w' := by
  refine ⟨hb, ?_⟩
  rw [ht]
  exact ⟨rfl, hm⟩
set_option maxRecDepth 100000 in
set_option maxHeartbeats 4000000 in
theorem resc_g110 (w0 : World) (b : Nat) (s : FS) (so : Option Addr) (no co : Nat) (d : Int) (line : List Int) (M : Nat → Int) (w : World) (hb : Below w0.heap.size w0 w) (hm : FillR w w0.heap.size b s so no co) (hl : s.out.length < 1000000) (hd : d = 110) :
    Calls Tryd.prog 45 #[.pointer (some ⟨b, 0, none⟩), .int .i64 d] w (REsc w0 b s line M d) := by
  have d1 : w.cell? ⟨b, 1, none⟩ = some (.int .i64 (oD s.once)) := block_cell hm.blk
  have d2 : w.cell? ⟨b, 2, none⟩ = some (.int .i64 (sD s.stay)) := block_cell hm.blk
  have f0 : ∀ i, w.frozen? ⟨b, i, none⟩ = false := fun i => block_free hm.blk
  have HM := Lib.hid hm
  have HB := Lib.hid hb
  have HL := Lib.hid hl
  clear hm hb hl
  subst hd
  go_enter Tryd.func45, Tryd.ntmps45
  go_wp2_with (first | (go_at_call 43; refine (rgive_c w0 b s so no co _ w HB.out HM.out HL.out).mono ?_; rintro e w2 ⟨rfl, hb2, hm2⟩; have HM2 := Lib.hid hm2; have HB2 := Lib.hid hb2; clear hm2 hb2))
  go_ret
  exact REsc.some (t := .give 10) (by simp [escT]) HB2.out HM2.out
set_option maxRecDepth 100000 in
set_option maxHeartbeats 4000000 in
theorem resc_g114 (w0 : World) (b : Nat) (s : FS) (so : Option Addr) (no co : Nat) (d : Int) (line : List Int) (M : Nat → Int) (w : World) (hb : Below w0.heap.size w0 w) (hm : FillR w w0.heap.size b s so no co) (hl : s.out.length < 1000000) (hd : d = 114) :
    Calls Tryd.prog 45 #[.pointer (some ⟨b, 0, none⟩), .int .i64 d] w (REsc w0 b s line M d) := by
  have d1 : w.cell? ⟨b, 1, none⟩ = some (.int .i64 (oD s.once)) := block_cell hm.blk
  have d2 : w.cell? ⟨b, 2, none⟩ = some (.int .i64 (sD s.stay)) := block_cell hm.blk
  have f0 : ∀ i, w.frozen? ⟨b, i, none⟩ = false := fun i => block_free hm.blk
  have HM := Lib.hid hm
  have HB := Lib.hid hb
  have HL := Lib.hid hl
  clear hm hb hl
  subst hd
  go_enter Tryd.func45, Tryd.ntmps45
  go_wp2_with (first | (go_at_call 43; refine (rgive_c w0 b s so no co _ w HB.out HM.out HL.out).mono ?_; rintro e w2 ⟨rfl, hb2, hm2⟩; have HM2 := Lib.hid hm2; have HB2 := Lib.hid hb2; clear hm2 hb2))
  go_ret
  exact REsc.some (t := .give 10) (by simp [escT]) HB2.out HM2.out
set_option maxRecDepth 100000 in
set_option maxHeartbeats 4000000 in
theorem resc_g116 (w0 : World) (b : Nat) (s : FS) (so : Option Addr) (no co : Nat) (d : Int) (line : List Int) (M : Nat → Int) (w : World) (hb : Below w0.heap.size w0 w) (hm : FillR w w0.heap.size b s so no co) (hl : s.out.length < 1000000) (hd : d = 116) :
    Calls Tryd.prog 45 #[.pointer (some ⟨b, 0, none⟩), .int .i64 d] w (REsc w0 b s line M d) := by
  have d1 : w.cell? ⟨b, 1, none⟩ = some (.int .i64 (oD s.once)) := block_cell hm.blk
  have d2 : w.cell? ⟨b, 2, none⟩ = some (.int .i64 (sD s.stay)) := block_cell hm.blk
  have f0 : ∀ i, w.frozen? ⟨b, i, none⟩ = false := fun i => block_free hm.blk
  have HM := Lib.hid hm
  have HB := Lib.hid hb
  have HL := Lib.hid hl
  clear hm hb hl
  subst hd
  go_enter Tryd.func45, Tryd.ntmps45
  go_wp2_with (first | (go_at_call 43; refine (rgive_c w0 b s so no co _ w HB.out HM.out HL.out).mono ?_; rintro e w2 ⟨rfl, hb2, hm2⟩; have HM2 := Lib.hid hm2; have HB2 := Lib.hid hb2; clear hm2 hb2))
  go_ret
  exact REsc.some (t := .give 9) (by simp [escT]) HB2.out HM2.out
set_option maxRecDepth 100000 in
set_option maxHeartbeats 4000000 in
theorem resc_g101 (w0 : World) (b : Nat) (s : FS) (so : Option Addr) (no co : Nat) (d : Int) (line : List Int) (M : Nat → Int) (w : World) (hb : Below w0.heap.size w0 w) (hm : FillR w w0.heap.size b s so no co) (hl : s.out.length < 1000000) (hd : d = 101) :
    Calls Tryd.prog 45 #[.pointer (some ⟨b, 0, none⟩), .int .i64 d] w (REsc w0 b s line M d) := by
  have d1 : w.cell? ⟨b, 1, none⟩ = some (.int .i64 (oD s.once)) := block_cell hm.blk
  have d2 : w.cell? ⟨b, 2, none⟩ = some (.int .i64 (sD s.stay)) := block_cell hm.blk
  have f0 : ∀ i, w.frozen? ⟨b, i, none⟩ = false := fun i => block_free hm.blk
  have HM := Lib.hid hm
  have HB := Lib.hid hb
  have HL := Lib.hid hl
  clear hm hb hl
  subst hd
  go_enter Tryd.func45, Tryd.ntmps45
  go_wp2_with (first | (go_at_call 43; refine (rgive_c w0 b s so no co _ w HB.out HM.out HL.out).mono ?_; rintro e w2 ⟨rfl, hb2, hm2⟩; have HM2 := Lib.hid hm2; have HB2 := Lib.hid hb2; clear hm2 hb2))
  go_ret
  exact REsc.some (t := .give 27) (by simp [escT]) HB2.out HM2.out
set_option maxRecDepth 100000 in
set_option maxHeartbeats 4000000 in
theorem resc_s117 (w0 : World) (b : Nat) (s : FS) (so : Option Addr) (no co : Nat) (d : Int) (line : List Int) (M : Nat → Int) (w : World) (hb : Below w0.heap.size w0 w) (hm : FillR w w0.heap.size b s so no co) (hl : s.out.length < 1000000) (hd : d = 117) :
    Calls Tryd.prog 45 #[.pointer (some ⟨b, 0, none⟩), .int .i64 d] w (REsc w0 b s line M d) := by
  have d1 : w.cell? ⟨b, 1, none⟩ = some (.int .i64 (oD s.once)) := block_cell hm.blk
  have d2 : w.cell? ⟨b, 2, none⟩ = some (.int .i64 (sD s.stay)) := block_cell hm.blk
  have f0 : ∀ i, w.frozen? ⟨b, i, none⟩ = false := fun i => block_free hm.blk
  have HM := Lib.hid hm
  have HB := Lib.hid hb
  have HL := Lib.hid hl
  clear hm hb hl
  subst hd
  go_enter Tryd.func45, Tryd.ntmps45
  go_wp2
  go_ret
  exact REsc.some (t := .once 1) (by simp [escT]) (HB.out.setCell HM.out.ge _) ⟨_, _, _, HM.out.setO 1 (by omega) rfl⟩
set_option maxRecDepth 100000 in
set_option maxHeartbeats 4000000 in
theorem resc_s108 (w0 : World) (b : Nat) (s : FS) (so : Option Addr) (no co : Nat) (d : Int) (line : List Int) (M : Nat → Int) (w : World) (hb : Below w0.heap.size w0 w) (hm : FillR w w0.heap.size b s so no co) (hl : s.out.length < 1000000) (hd : d = 108) :
    Calls Tryd.prog 45 #[.pointer (some ⟨b, 0, none⟩), .int .i64 d] w (REsc w0 b s line M d) := by
  have d1 : w.cell? ⟨b, 1, none⟩ = some (.int .i64 (oD s.once)) := block_cell hm.blk
  have d2 : w.cell? ⟨b, 2, none⟩ = some (.int .i64 (sD s.stay)) := block_cell hm.blk
  have f0 : ∀ i, w.frozen? ⟨b, i, none⟩ = false := fun i => block_free hm.blk
  have HM := Lib.hid hm
  have HB := Lib.hid hb
  have HL := Lib.hid hl
  clear hm hb hl
  subst hd
  go_enter Tryd.func45, Tryd.ntmps45
  go_wp2
  go_ret
  exact REsc.some (t := .once 2) (by simp [escT]) (HB.out.setCell HM.out.ge _) ⟨_, _, _, HM.out.setO 2 (by omega) rfl⟩
set_option maxRecDepth 100000 in
set_option maxHeartbeats 4000000 in
theorem resc_s85 (w0 : World) (b : Nat) (s : FS) (so : Option Addr) (no co : Nat) (d : Int) (line : List Int) (M : Nat → Int) (w : World) (hb : Below w0.heap.size w0 w) (hm : FillR w w0.heap.size b s so no co) (hl : s.out.length < 1000000) (hd : d = 85) :
    Calls Tryd.prog 45 #[.pointer (some ⟨b, 0, none⟩), .int .i64 d] w (REsc w0 b s line M d) := by
  have d1 : w.cell? ⟨b, 1, none⟩ = some (.int .i64 (oD s.once)) := block_cell hm.blk
  have d2 : w.cell? ⟨b, 2, none⟩ = some (.int .i64 (sD s.stay)) := block_cell hm.blk
  have f0 : ∀ i, w.frozen? ⟨b, i, none⟩ = false := fun i => block_free hm.blk
  have HM := Lib.hid hm
  have HB := Lib.hid hb
  have HL := Lib.hid hl
  clear hm hb hl
  subst hd
  go_enter Tryd.func45, Tryd.ntmps45
  go_wp2
  go_ret
  exact REsc.some (t := .stay 1) (by simp [escT]) (HB.out.setCell HM.out.ge _) ⟨_, _, _, HM.out.setS 1 (by omega) rfl⟩
set_option maxRecDepth 100000 in
set_option maxHeartbeats 4000000 in
theorem resc_s76 (w0 : World) (b : Nat) (s : FS) (so : Option Addr) (no co : Nat) (d : Int) (line : List Int) (M : Nat → Int) (w : World) (hb : Below w0.heap.size w0 w) (hm : FillR w w0.heap.size b s so no co) (hl : s.out.length < 1000000) (hd : d = 76) :
    Calls Tryd.prog 45 #[.pointer (some ⟨b, 0, none⟩), .int .i64 d] w (REsc w0 b s line M d) := by
  have d1 : w.cell? ⟨b, 1, none⟩ = some (.int .i64 (oD s.once)) := block_cell hm.blk
  have d2 : w.cell? ⟨b, 2, none⟩ = some (.int .i64 (sD s.stay)) := block_cell hm.blk
  have f0 : ∀ i, w.frozen? ⟨b, i, none⟩ = false := fun i => block_free hm.blk
  have HM := Lib.hid hm
  have HB := Lib.hid hb
  have HL := Lib.hid hl
  clear hm hb hl
  subst hd
  go_enter Tryd.func45, Tryd.ntmps45
  go_wp2
  go_ret
  exact REsc.some (t := .stay 2) (by simp [escT]) (HB.out.setCell HM.out.ge _) ⟨_, _, _, HM.out.setS 2 (by omega) rfl⟩
set_option maxRecDepth 100000 in
set_option maxHeartbeats 4000000 in
theorem resc_s69 (w0 : World) (b : Nat) (s : FS) (so : Option Addr) (no co : Nat) (d : Int) (line : List Int) (M : Nat → Int) (w : World) (hb : Below w0.heap.size w0 w) (hm : FillR w w0.heap.size b s so no co) (hl : s.out.length < 1000000) (hd : d = 69) :
    Calls Tryd.prog 45 #[.pointer (some ⟨b, 0, none⟩), .int .i64 d] w (REsc w0 b s line M d) := by
  have d1 : w.cell? ⟨b, 1, none⟩ = some (.int .i64 (oD s.once)) := block_cell hm.blk
  have d2 : w.cell? ⟨b, 2, none⟩ = some (.int .i64 (sD s.stay)) := block_cell hm.blk
  have f0 : ∀ i, w.frozen? ⟨b, i, none⟩ = false := fun i => block_free hm.blk
  have HM := Lib.hid hm
  have HB := Lib.hid hb
  have HL := Lib.hid hl
  clear hm hb hl
  subst hd
  go_enter Tryd.func45, Tryd.ntmps45
  go_wp2
  go_ret
  exact REsc.some (t := .stay 0) (by simp [escT]) (HB.out.setCell HM.out.ge _) ⟨_, _, _, HM.out.setS 0 (by omega) rfl⟩
set_option maxRecDepth 100000 in
set_option maxHeartbeats 4000000 in
theorem resc_let (w0 : World) (b : Nat) (s : FS) (so : Option Addr) (no co : Nat) (d : Int) (line : List Int) (M : Nat → Int) (w : World) (hb : Below w0.heap.size w0 w) (hm : FillR w w0.heap.size b s so no co) (hl : s.out.length < 1000000) (h110 : d ≠ 110) (h114 : d ≠ 114) (h116 : d ≠ 116) (h101 : d ≠ 101) (h117 : d ≠ 117) (h108 : d ≠ 108) (h85 : d ≠ 85) (h76 : d ≠ 76) (h69 : d ≠ 69) (hdig : ¬ (48 ≤ d ∧ d ≤ 57)) (hlet : letB d = true) :
    Calls Tryd.prog 45 #[.pointer (some ⟨b, 0, none⟩), .int .i64 d] w (REsc w0 b s line M d) := by
  have d1 : w.cell? ⟨b, 1, none⟩ = some (.int .i64 (oD s.once)) := block_cell hm.blk
  have d2 : w.cell? ⟨b, 2, none⟩ = some (.int .i64 (sD s.stay)) := block_cell hm.blk
  have f0 : ∀ i, w.frozen? ⟨b, i, none⟩ = false := fun i => block_free hm.blk
  have HM := Lib.hid hm
  have HB := Lib.hid hb
  have HL := Lib.hid hl
  clear hm hb hl
  have n110 : (d == 110) = false := by rw [beq_eq_false_iff_ne]; omega
  have n114 : (d == 114) = false := by rw [beq_eq_false_iff_ne]; omega
  have n116 : (d == 116) = false := by rw [beq_eq_false_iff_ne]; omega
  have n101 : (d == 101) = false := by rw [beq_eq_false_iff_ne]; omega
  have n117 : (d == 117) = false := by rw [beq_eq_false_iff_ne]; omega
  have n108 : (d == 108) = false := by rw [beq_eq_false_iff_ne]; omega
  have n85 : (d == 85) = false := by rw [beq_eq_false_iff_ne]; omega
  have n76 : (d == 76) = false := by rw [beq_eq_false_iff_ne]; omega
  have n69 : (d == 69) = false := by rw [beq_eq_false_iff_ne]; omega
  have HTK := Lib.hid (show escT d = none by simp [escT, hdig, hlet, h110, h114, h116, h101, h117, h108, h85, h76, h69])
  have HLE := Lib.hid hlet
  clear hlet hdig h110 h114 h116 h101 h117 h108 h85 h76 h69
  go_enter Tryd.func45, Tryd.ntmps45
  go_wp2_with fail
  refine (letter_c d _).mono ?_
  rintro e w2 ⟨rfl, rfl⟩
  rw [HLE.out]
  go_wp2
  go_ret
  refine ⟨HB.out, ?_⟩
  rw [HTK.out]
  rfl
set_option maxRecDepth 100000 in
set_option maxHeartbeats 4000000 in
theorem resc_oth (w0 : World) (b : Nat) (s : FS) (so : Option Addr) (no co : Nat) (d : Int) (line : List Int) (M : Nat → Int) (w : World) (hb : Below w0.heap.size w0 w) (hm : FillR w w0.heap.size b s so no co) (hl : s.out.length < 1000000) (h110 : d ≠ 110) (h114 : d ≠ 114) (h116 : d ≠ 116) (h101 : d ≠ 101) (h117 : d ≠ 117) (h108 : d ≠ 108) (h85 : d ≠ 85) (h76 : d ≠ 76) (h69 : d ≠ 69) (hdig : ¬ (48 ≤ d ∧ d ≤ 57)) (hlet : letB d = false) :
    Calls Tryd.prog 45 #[.pointer (some ⟨b, 0, none⟩), .int .i64 d] w (REsc w0 b s line M d) := by
  have d1 : w.cell? ⟨b, 1, none⟩ = some (.int .i64 (oD s.once)) := block_cell hm.blk
  have d2 : w.cell? ⟨b, 2, none⟩ = some (.int .i64 (sD s.stay)) := block_cell hm.blk
  have f0 : ∀ i, w.frozen? ⟨b, i, none⟩ = false := fun i => block_free hm.blk
  have HM := Lib.hid hm
  have HB := Lib.hid hb
  have HL := Lib.hid hl
  clear hm hb hl
  have n110 : (d == 110) = false := by rw [beq_eq_false_iff_ne]; omega
  have n114 : (d == 114) = false := by rw [beq_eq_false_iff_ne]; omega
  have n116 : (d == 116) = false := by rw [beq_eq_false_iff_ne]; omega
  have n101 : (d == 101) = false := by rw [beq_eq_false_iff_ne]; omega
  have n117 : (d == 117) = false := by rw [beq_eq_false_iff_ne]; omega
  have n108 : (d == 108) = false := by rw [beq_eq_false_iff_ne]; omega
  have n85 : (d == 85) = false := by rw [beq_eq_false_iff_ne]; omega
  have n76 : (d == 76) = false := by rw [beq_eq_false_iff_ne]; omega
  have n69 : (d == 69) = false := by rw [beq_eq_false_iff_ne]; omega
  have HTK := Lib.hid (show escT d = some (.give d) by simp [escT, hdig, hlet, h110, h114, h116, h101, h117, h108, h85, h76, h69])
  have HLE := Lib.hid hlet
  clear hlet hdig h110 h114 h116 h101 h117 h108 h85 h76 h69
  go_enter Tryd.func45, Tryd.ntmps45
  go_wp2_with fail
  refine (letter_c d _).mono ?_
  rintro e w2 ⟨rfl, rfl⟩
  rw [HLE.out]
  go_wp2_with (first | (go_at_call 43; refine (rgive_c w0 b s so no co _ w HB.out HM.out HL.out).mono ?_; rintro e w2 ⟨rfl, hb2, hm2⟩; have HM2 := Lib.hid hm2; have HB2 := Lib.hid hb2; clear hm2 hb2))
  go_ret
  exact REsc.some HTK.out HB2.out HM2.out
theorem resc_c (w0 : World) (b : Nat) (s : FS) (so : Option Addr) (no co : Nat) (d : Int) (line : List Int) (M : Nat → Int) (w : World) (hb : Below w0.heap.size w0 w) (hm : FillR w w0.heap.size b s so no co) (hl : s.out.length < 1000000) (hdig : ¬ (48 ≤ d ∧ d ≤ 57)) :
    Calls Tryd.prog 45 #[.pointer (some ⟨b, 0, none⟩), .int .i64 d] w (REsc w0 b s line M d) := by
  by_cases h110 : d = 110
  · exact resc_g110 w0 b s so no co d line M w hb hm hl h110
  by_cases h114 : d = 114
  · exact resc_g114 w0 b s so no co d line M w hb hm hl h114
  by_cases h116 : d = 116
  · exact resc_g116 w0 b s so no co d line M w hb hm hl h116
  by_cases h101 : d = 101
  · exact resc_g101 w0 b s so no co d line M w hb hm hl h101
  by_cases h117 : d = 117
  · exact resc_s117 w0 b s so no co d line M w hb hm hl h117
  by_cases h108 : d = 108
  · exact resc_s108 w0 b s so no co d line M w hb hm hl h108
  by_cases h85 : d = 85
  · exact resc_s85 w0 b s so no co d line M w hb hm hl h85
  by_cases h76 : d = 76
  · exact resc_s76 w0 b s so no co d line M w hb hm hl h76
  by_cases h69 : d = 69
  · exact resc_s69 w0 b s so no co d line M w hb hm hl h69
  cases hlet : letB d with
  | true => exact resc_let w0 b s so no co d line M w hb hm hl h110 h114 h116 h101 h117 h108 h85 h76 h69 hdig hlet
  | false => exact resc_oth w0 b s so no co d line M w hb hm hl h110 h114 h116 h101 h117 h108 h85 h76 h69 hdig hlet
theorem lst_cons (f : Nat → Int) (m : Nat) : lst f (m + 1) = f 0 :: lst (fun j => f (j + 1)) m := by
  unfold lst
  rw [List.range_succ_eq_map, List.map_cons, List.map_map]
  rfl
theorem manyD_len (s : FS) (l : List Int) (B : Nat) (h : s.out.length ≤ B) (hB : 140001 ≤ B) : (manyD s l).out.length ≤ B := by
  induction l generalizing s with
  | nil => exact h
  | cons a l ih =>
    unfold manyD
    split
    · exact ih _ (by show (s.out ++ [_]).length ≤ B; simp; omega)
    · exact h
set_option maxRecDepth 100000 in
set_option maxHeartbeats 4000000 in
theorem taken_c (w0 : World) (b : Nat) (s : FS) (so : Option Addr) (no co : Nat) (sl : Option Addr) (n cap : Nat) (f : Nat → Int) (x y : Int) (w : World) (hn : n < 1073741824) (hb : Below w0.heap.size w0 w) (hm : FillR w w0.heap.size b s so no co) (hl : s.out.length < 900000) (hr : IsInts w0 sl n f) :
    Calls Tryd.prog 46 #[.pointer (some ⟨b, 0, none⟩), .slice sl n cap, .int .i64 x, .int .i64 y] w (RGive w0 b (manyD s (partL (lst f n) x y))) := by
  rw [partL_lst]
  obtain ⟨p, hp⟩ : ∃ p : Nat, x.toNat = p := ⟨_, rfl⟩
  obtain ⟨q, hq⟩ : ∃ q : Nat, min n y.toNat = q := ⟨_, rfl⟩
  rw [hp, hq]
  have hP : (if (0 : Int) < x then x else 0) = (p : Int) := by split <;> omega
  have hP2 : (if x < 0 then (0 : Int) else x) = (p : Int) := by split <;> omega
  have hQ : ∀ i : Nat, (i < q ↔ (i : Int) < y ∧ i < n) := fun i => by omega
  have HR := Lib.hid hr
  have HB := Lib.hid hb
  have HM := Lib.hid hm
  have HQ := Lib.hid hQ
  have HL := Lib.hid hl
  clear hr hb hm hp hq hQ hl
  go_enter Tryd.func46, Tryd.ntmps46
  go_wp2_with fail
  go_loopg [8] (q - p) (fun g iv wr => ∃ i : Nat, ∃ S so no co, g = q - i ∧ iv = .int .i64 (i : Int) ∧ FillR wr w0.heap.size b S so no co ∧ Below w0.heap.size w0 wr ∧ S.out.length < 900000 ∧ manyD S (lst (fun j => f (i + j)) (q - i)) = manyD s (lst (fun j => f (p + j)) (q - p)))
  case atStart => exact ⟨p, s, so, no, co, rfl, rfl, HM.out, HB.out, HL.out, rfl⟩
  case round =>
    clear HM HB HL
    obtain ⟨i, S, so, no, co, hg, rfl, hm, hb, hl, he⟩ := hrel
    have d0 : wr.cell? ⟨b, 0, none⟩ = some (.slice so no co) := block_cell hm.blk
    have HM := Lib.hid hm
    have HB := Lib.hid hb
    have HE := Lib.hid he
    have HL := Lib.hid hl
    have HG := Lib.hid hg
    clear hm hb he hl hg
    by_cases hiq : i < q
    · obtain ⟨hy, hin⟩ := (HQ.out i).1 hiq
      have q1 : (i : Int) < (n : Int) := by omega
      obtain ⟨bs, off, rfl, c0⟩ := HR.out.at HB.out hin
      obtain ⟨a, ha⟩ : ∃ a, f i = a := ⟨_, rfl⟩
      rw [ha] at c0
      have hsplit : lst (fun j => f (i + j)) (q - i) = a :: lst (fun j => f (i + 1 + j)) (q - (i + 1)) := by
        rw [show q - i = (q - (i + 1)) + 1 from by omega, lst_cons]
        rw [Nat.add_zero, ha]
        congr 1
        exact lst_congr (fun j _ => by rw [show i + (j + 1) = i + 1 + j from by omega])
      have HSP := Lib.hid hsplit
      have hno := HM.out.n_eq
      by_cases hfull : no ≤ 140000
      · have q2 : ¬ (140000 : Int) < (no : Int) := by omega
        have q3 : (no : Int) ≤ 140000 := by omega
        have HNX := Lib.hid (show manyD (giveD S a) (lst (fun j => f (i + 1 + j)) (q - (i + 1))) = manyD s (lst (fun j => f (p + j)) (q - p)) by
          rw [← HE.out, HSP.out]
          show _ = manyD S (a :: _)
          rw [manyD, if_pos (by omega)])
        have HNO := Lib.hid hno
        have HLT := Lib.hid (show S.out.length < 1000000 by have := HL.out; omega)
        have HL2 := Lib.hid (show (giveD S a).out.length < 900000 by show (S.out ++ [_]).length < 900000; simp; omega)
        have HMEA := Lib.hid (show q - (i + 1) < gk by have := HG.out; omega)
        clear hsplit ha hno
        go_wp2_with (first | (go_at_call 43; refine (rgive_c w0 b S so no co a wr HB.out HM.out HLT.out).mono ?_; rintro e w2 ⟨rfl, hb2, hm2⟩; have HM2 := Lib.hid hm2; have HB2 := Lib.hid hb2; clear hm2 hb2))
        go_roundg (q - (i + 1))
        case measure => exact HMEA.out
        case rel =>
          obtain ⟨so2, no2, co2, hm2⟩ := HM2.out
          exact ⟨i + 1, giveD S a, so2, no2, co2, rfl, by go_num, hm2, HB2.out, HL2.out, HNX.out⟩
      · have q2 : (140000 : Int) < (no : Int) := by omega
        have q3 : ¬ (no : Int) ≤ 140000 := by omega
        have HEND := Lib.hid (show manyD s (lst (fun j => f (p + j)) (q - p)) = S by
          rw [← HE.out, HSP.out]
          show manyD S (a :: _) = S
          rw [manyD, if_neg (by omega)])
        clear hsplit ha hno c0
        go_wp2
        first | go_end0 | refine bodyPost_ret (results_none rfl _ _ _) rfl ?_
        exact ⟨rfl, HB.out, so, no, co, by rw [HEND.out]; exact HM.out⟩
    · have HEND := Lib.hid (show manyD s (lst (fun j => f (p + j)) (q - p)) = S by
        rw [← HE.out, show q - i = 0 from by omega]; rfl)
      have hor : ¬ (i : Int) < y ∨ ¬ i < n := by
        by_cases h1 : (i : Int) < y
        · exact .inr (fun h2 => hiq ((HQ.out i).2 ⟨h1, h2⟩))
        · exact .inl h1
      rcases hor with h1 | h1
      · have q1 : y ≤ (i : Int) := by omega
        go_wp2
        first | go_end0 | refine bodyPost_ret (results_none rfl _ _ _) rfl ?_
        exact ⟨rfl, HB.out, so, no, co, by rw [HEND.out]; exact HM.out⟩
      · have q1 : ¬ (i : Int) < (n : Int) := by omega
        by_cases h2 : (i : Int) < y
        · go_wp2
          first | go_end0 | refine bodyPost_ret (results_none rfl _ _ _) rfl ?_
          exact ⟨rfl, HB.out, so, no, co, by rw [HEND.out]; exact HM.out⟩
        · go_wp2
          first | go_end0 | refine bodyPost_ret (results_none rfl _ _ _) rfl ?_
          exact ⟨rfl, HB.out, so, no, co, by rw [HEND.out]; exact HM.out⟩
end Go.Proofs.YtdegdoilpamjjaaDoor
