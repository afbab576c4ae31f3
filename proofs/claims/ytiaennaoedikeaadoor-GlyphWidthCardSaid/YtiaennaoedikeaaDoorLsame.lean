/- The walks of GlyphClass, GlyphConjunct, GlyphWord, GlyphWidth: each answers true, for every list. No condition. -/
import Derived.Test.YtiaennaoedikeaaDoorRc
namespace Go.Proofs.YtiaennaoedikeaaDoor
open Go.RowKit
theorem law_class (s : Option Addr) (len cap : Nat) (f : Nat → Int) (w : World) (hl : len ≤ maxLen) (hr : IsInts w s len f) :
    Calls Tryd.prog 4 #[.slice s len cap] w fun e w' => e = .returned (.bool true) ∧ Below w.heap.size w w' := by
  have HL := Lib.hid hl
  have HR := Lib.hid hr
  clear hl hr
  go_enter Tryd.func4, Tryd.ntmps4
  go_wp2_with fail
  refine (all_any 1 44032 classF given_class wanted_class _ _ _ _ _ HL.out HR.out).mono ?_
  rintro e w1 ⟨rfl, hb1⟩
  have HB1 := Lib.hid (hb1)
  clear hb1
  go_wp2
  go_ret
  exact ⟨rfl, HB1.out⟩
theorem law_conj (s : Option Addr) (len cap : Nat) (f : Nat → Int) (w : World) (hl : len ≤ maxLen) (hr : IsInts w s len f) :
    Calls Tryd.prog 5 #[.slice s len cap] w fun e w' => e = .returned (.bool true) ∧ Below w.heap.size w w' := by
  have HL := Lib.hid hl
  have HR := Lib.hid hr
  clear hl hr
  go_enter Tryd.func5, Tryd.ntmps5
  go_wp2_with fail
  refine (all_any 2 2381 conjF given_conj wanted_conj _ _ _ _ _ HL.out HR.out).mono ?_
  rintro e w1 ⟨rfl, hb1⟩
  have HB1 := Lib.hid (hb1)
  clear hb1
  go_wp2
  go_ret
  exact ⟨rfl, HB1.out⟩
theorem law_word (s : Option Addr) (len cap : Nat) (f : Nat → Int) (w : World) (hl : len ≤ maxLen) (hr : IsInts w s len f) :
    Calls Tryd.prog 6 #[.slice s len cap] w fun e w' => e = .returned (.bool true) ∧ Below w.heap.size w w' := by
  have HL := Lib.hid hl
  have HR := Lib.hid hr
  clear hl hr
  go_enter Tryd.func6, Tryd.ntmps6
  go_wp2_with fail
  refine (all_any 3 97 wordF given_word wanted_word _ _ _ _ _ HL.out HR.out).mono ?_
  rintro e w1 ⟨rfl, hb1⟩
  have HB1 := Lib.hid (hb1)
  clear hb1
  go_wp2
  go_ret
  exact ⟨rfl, HB1.out⟩
theorem law_width (s : Option Addr) (len cap : Nat) (f : Nat → Int) (w : World) (hl : len ≤ maxLen) (hr : IsInts w s len f) :
    Calls Tryd.prog 8 #[.slice s len cap] w fun e w' => e = .returned (.bool true) ∧ Below w.heap.size w w' := by
  have HL := Lib.hid hl
  have HR := Lib.hid hr
  clear hl hr
  go_enter Tryd.func8, Tryd.ntmps8
  go_wp2_with fail
  refine (all_any 7 97 widthF given_width wanted_width _ _ _ _ _ HL.out HR.out).mono ?_
  rintro e w1 ⟨rfl, hb1⟩
  have HB1 := Lib.hid (hb1)
  clear hb1
  go_wp2
  go_ret
  exact ⟨rfl, HB1.out⟩
end Go.Proofs.YtiaennaoedikeaaDoor
