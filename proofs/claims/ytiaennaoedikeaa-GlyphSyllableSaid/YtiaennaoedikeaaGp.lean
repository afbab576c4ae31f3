/- Plain law: what the calls of package glyph answer, as Lean functions over the tables, and facts on them. No condition. -/
import Derived.Test.YtiaennaoedikeaaTb
namespace Go.Proofs.Ytiaennaoedikeaa
def scalarB (a : Int) : Bool := decide (0 ≤ a ∧ a < 55296 ∨ 57343 < a ∧ a ≤ 1114111)
theorem scalar_bd {a : Int} (h : scalarB a = true) : 0 ≤ a ∧ a ≤ 1114111 := by unfold scalarB at h; simp at h; omega
def classF (a : Int) : Int := if scalarB a = false then 3 else if 44032 ≤ a ∧ a < 55204 then (if (a - 44032) % 28 = 0 then 12 else 13) else sot classT a
/-- a fact of every int of a stretch, by the kernel -/
theorem all_range (lo : Int) (n : Nat) (p : Int → Bool) (h : ((List.range n).all fun i => p (lo + i)) = true) (a : Int) (h1 : lo ≤ a) (h2 : a < lo + n) : p a = true := by
  rw [List.all_eq_true] at h
  have := h (a - lo).toNat (List.mem_range.2 (by omega))
  rw [show lo + ((a - lo).toNat : Int) = a from by omega] at this
  exact this
theorem class_lead (a : Int) (h1 : 4352 ≤ a) (h2 : a < 4371) : classF a = 9 :=
  of_decide_eq_true (all_range 4352 19 (fun a => decide (classF a = 9)) (by decide +kernel) a h1 h2)
theorem class_vowel (a : Int) (h1 : 4449 ≤ a) (h2 : a < 4470) : classF a = 10 :=
  of_decide_eq_true (all_range 4449 21 (fun a => decide (classF a = 10)) (by decide +kernel) a h1 h2)
theorem class_tail (a : Int) (h1 : 4520 ≤ a) (h2 : a < 4547) : classF a = 11 :=
  of_decide_eq_true (all_range 4520 27 (fun a => decide (classF a = 11)) (by decide +kernel) a h1 h2)
theorem class_lv (a : Int) (h1 : 44032 ≤ a) (h2 : a < 55204) (h3 : (a - 44032) % 28 = 0) : classF a = 12 := by
  unfold classF; rw [if_neg (by unfold scalarB; simp; omega), if_pos ⟨h1, h2⟩, if_pos h3]
theorem class_lvt (a : Int) (h1 : 44032 ≤ a) (h2 : a < 55204) (h3 : (a - 44032) % 28 ≠ 0) : classF a = 13 := by
  unfold classF; rw [if_neg (by unfold scalarB; simp; omega), if_pos ⟨h1, h2⟩, if_neg h3]
end Go.Proofs.Ytiaennaoedikeaa
