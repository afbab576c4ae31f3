/- Plain law: what the calls of package glyph answer, as Lean functions over the tables, and facts on them. No condition. -/
import Derived.Test.YtdegdoilpamjjaaDoorTb
namespace Go.Proofs.YtdegdoilpamjjaaDoor
def scalarB (a : Int) : Bool := decide (0 ≤ a ∧ a < 55296 ∨ 57343 < a ∧ a ≤ 1114111)
theorem scalar_bd {a : Int} (h : scalarB a = true) : 0 ≤ a ∧ a ≤ 1114111 := by unfold scalarB at h; simp at h; omega
def classF (a : Int) : Int := if scalarB a = false then 3 else if 44032 ≤ a ∧ a < 55204 then (if (a - 44032) % 28 = 0 then 12 else 13) else sot classT a
/-- a fact of every int of a stretch, by the kernel -/
theorem all_range (lo : Int) (n : Nat) (p : Int → Bool) (h : ((List.range n).all fun i => p (lo + i)) = true) (a : Int) (h1 : lo ≤ a) (h2 : a < lo + n) : p a = true := by
  rw [List.all_eq_true] at h
  have := h (a - lo).toNat (List.mem_range.2 (by omega))
  rw [show lo + ((a - lo).toNat : Int) = a from by omega] at this
  exact this
theorem class_lead (a : Int) (h1 : 4352 ≤ a) (h2 : a < 4371) : classF a = 9 :=
  of_decide_eq_true (all_range 4352 19 (fun a => decide (classF a = 9)) (by decide +kernel) a h1 h2)
theorem class_vowel (a : Int) (h1 : 4449 ≤ a) (h2 : a < 4470) : classF a = 10 :=
  of_decide_eq_true (all_range 4449 21 (fun a => decide (classF a = 10)) (by decide +kernel) a h1 h2)
theorem class_tail (a : Int) (h1 : 4520 ≤ a) (h2 : a < 4547) : classF a = 11 :=
  of_decide_eq_true (all_range 4520 27 (fun a => decide (classF a = 11)) (by decide +kernel) a h1 h2)
theorem class_lv (a : Int) (h1 : 44032 ≤ a) (h2 : a < 55204) (h3 : (a - 44032) % 28 = 0) : classF a = 12 := by
  unfold classF; rw [if_neg (by unfold scalarB; simp; omega), if_pos ⟨h1, h2⟩, if_pos h3]
theorem class_lvt (a : Int) (h1 : 44032 ≤ a) (h2 : a < 55204) (h3 : (a - 44032) % 28 ≠ 0) : classF a = 13 := by
  unfold classF; rw [if_neg (by unfold scalarB; simp; omega), if_pos ⟨h1, h2⟩, if_neg h3]
def isLinker (a : Int) : Bool := decide (a = 2381 ∨ a = 2509 ∨ a = 2765 ∨ a = 2893 ∨ a = 3149 ∨ a = 3405)
def conjF (a : Int) : Int :=
  if isLinker a then 3 else if a = 8204 then 0 else
    if classF a = 4 ∨ classF a = 5 then 2 else if classF a = 0 ∧ scalarB a = true then sot conjT a else 0
def wordF (a : Int) : Int := if scalarB a = false then 1 else if sot wordT a = 2 then 2 else if sot wordT a = 1 then 0 else 1
def zeroClass (c : Int) : Bool := decide (c = 1 ∨ c = 2 ∨ c = 4 ∨ c = 5 ∨ c = 10 ∨ c = 11)
def widthF (a : Int) : Int :=
  if -256 ≤ a ∧ a < 0 then 4 else if 55296 ≤ a ∧ a ≤ 57343 then 6 else if scalarB a = false ∨ a = 9 then 0 else
    if zeroClass (classF a) then 0 else if classF a = 3 then (if a ≤ 159 then 2 else 1) else 1 + sot wideT a
/-- the numbers of a table are small -/
theorem sot_bd (t : List Row) (k : Int) (h0 : 0 ≤ k) (h : (t.all fun r => decide (0 ≤ r.2.2) && decide (r.2.2 ≤ k)) = true) (a : Int) : 0 ≤ sot t a ∧ sot t a ≤ k := by
  have key : ∀ f lo hi, 0 ≤ soughtR f t a lo hi ∧ soughtR f t a lo hi ≤ k := by
    intro f
    induction f with
    | zero => intro lo hi; exact ⟨Int.le_refl _, h0⟩
    | succ f ih =>
      intro lo hi
      unfold soughtR
      split
      · split
        · exact ih _ _
        · split
          · exact ih _ _
          · generalize (lo + hi) / 2 = m
            by_cases hm : m < t.length
            · rw [List.all_eq_true] at h
              have := h _ (List.getElem_mem hm)
              simp at this
              rw [List.getD_eq_getElem?_getD, List.getElem?_eq_getElem hm]
              exact this
            · rw [List.getD_eq_getElem?_getD, List.getElem?_eq_none (by omega)]
              exact ⟨Int.le_refl _, h0⟩
      · exact ⟨Int.le_refl _, h0⟩
  exact key _ _ _
theorem class_bd (a : Int) : 0 ≤ classF a ∧ classF a ≤ 14 := by
  unfold classF
  have := sot_bd classT 14 (by omega) (by decide +kernel) a
  repeat' split
  all_goals omega
theorem wide_bd (a : Int) : 0 ≤ sot wideT a ∧ sot wideT a ≤ 1 := sot_bd wideT 1 (by omega) (by decide +kernel) a
end Go.Proofs.YtdegdoilpamjjaaDoor
