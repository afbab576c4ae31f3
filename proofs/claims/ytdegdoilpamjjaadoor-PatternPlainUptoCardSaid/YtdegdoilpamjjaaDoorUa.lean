/- Plain law: the cases of letters as Lean functions over the three tables. No condition. -/
import Derived.Test.YtdegdoilpamjjaaDoorGp
import Derived.Test.YtdegdoilpamjjaaDoorWit
namespace Go.Proofs.YtdegdoilpamjjaaDoor
/-- the first number from k on, of n, of which p holds -/
def seek (p : Nat → Bool) : Nat → Nat → Option Nat
  | 0, _ => none
  | n + 1, k => if p k then some k else seek p n (k + 1)
theorem seek_hit {p : Nat → Bool} {n k : Nat} (hn : k < n) (h : p k = true) : seek p (n - k) k = some k := by
  obtain ⟨m, hm⟩ : ∃ m, n - k = m + 1 := ⟨n - k - 1, by omega⟩
  rw [hm, seek, if_pos h]
theorem seek_miss {p : Nat → Bool} {n k : Nat} (hn : k < n) (h : p k = false) : seek p (n - k) k = seek p (n - (k + 1)) (k + 1) := by
  obtain ⟨m, hm⟩ : ∃ m, n - k = m + 1 := ⟨n - k - 1, by omega⟩
  rw [hm, seek, if_neg (by rw [h]; decide), show n - (k + 1) = m from by omega]
theorem seek_end {p : Nat → Bool} {n : Nat} : seek p (n - n) n = none := by rw [Nat.sub_self]; rfl
def L0 (j : Nat) : Int := oneWayL.getD j 0
def L1 (j : Nat) : Int := distancesL.getD j 0
def L2 (j : Nat) : Int := pairsL.getD j 0
theorem L_bd (l : List Int) (lo hi : Int) (h0 : lo ≤ 0) (h1 : 0 ≤ hi) (h : (l.all fun v => decide (lo ≤ v) && decide (v ≤ hi)) = true) (j : Nat) : lo ≤ l.getD j 0 ∧ l.getD j 0 ≤ hi := by
  by_cases hj : j < l.length
  · rw [List.all_eq_true] at h
    have := h _ (List.getElem_mem hj)
    simp at this
    rw [List.getD_eq_getElem?_getD, List.getElem?_eq_getElem hj]
    exact this
  · rw [List.getD_eq_getElem?_getD, List.getElem?_eq_none (by omega)]
    exact ⟨h0, h1⟩
theorem L0_bd (j : Nat) : 0 ≤ L0 j ∧ L0 j ≤ 8491 := L_bd oneWayL 0 8491 (by omega) (by omega) (by decide +kernel) j
theorem L1_bd (j : Nat) : -121 ≤ L1 j ∧ L1 j ≤ 66599 := L_bd distancesL (-121) 66599 (by omega) (by omega) (by decide +kernel) j
theorem L2_bd (j : Nat) : 0 ≤ L2 j ∧ L2 j ≤ 7935 := L_bd pairsL 0 7935 (by omega) (by omega) (by decide +kernel) j
def one0 (a : Int) (k : Nat) : Bool := L0 (k * 3) == a
def dist1 (a : Int) (k : Nat) : Bool := decide (L1 (k * 3) ≤ a - L1 (k * 3 + 2)) && decide (a - L1 (k * 3 + 2) ≤ L1 (k * 3 + 1))
def dist2 (a : Int) (k : Nat) : Bool := decide (L1 (k * 3) ≤ a) && decide (a ≤ L1 (k * 3 + 1))
def pair1 (a : Int) (k : Nat) : Bool := decide (L2 (k * 2) ≤ a) && decide (a ≤ L2 (k * 2 + 1)) && ((a - L2 (k * 2)) % 2 == 1)
def pair2 (a : Int) (k : Nat) : Bool := decide (L2 (k * 2) ≤ a) && decide (a ≤ L2 (k * 2 + 1)) && ((a - L2 (k * 2)) % 2 == 0)
def greatF (a : Int) : Int :=
  match seek (one0 a) 9 0 with
  | some k => L0 (k * 3 + 1)
  | none => match seek (dist1 a) 19 0 with
    | some k => a - L1 (k * 3 + 2)
    | none => match seek (pair1 a) 19 0 with
      | some _ => a - 1
      | none => a
def smallF (a : Int) : Int :=
  match seek (one0 a) 9 0 with
  | some k => L0 (k * 3 + 2)
  | none => match seek (dist2 a) 19 0 with
    | some k => a + L1 (k * 3 + 2)
    | none => match seek (pair2 a) 19 0 with
      | some _ => a + 1
      | none => a
def upperF (a : Int) : Int := if scalarB a then greatF a else a
def lowerF (a : Int) : Int := if scalarB a then smallF a else a
def turnF (a : Int) : Int := if upperF a = a then lowerF a else upperF a
theorem greatF_one {a : Int} {k : Nat} (h : seek (one0 a) 9 0 = some k) : greatF a = L0 (k * 3 + 1) := by unfold greatF; rw [h]
theorem greatF_dist {a : Int} {k : Nat} (h0 : seek (one0 a) 9 0 = none) (h : seek (dist1 a) 19 0 = some k) : greatF a = a - L1 (k * 3 + 2) := by unfold greatF; rw [h0, h]
theorem greatF_pair {a : Int} {k : Nat} (h0 : seek (one0 a) 9 0 = none) (h1 : seek (dist1 a) 19 0 = none) (h : seek (pair1 a) 19 0 = some k) : greatF a = a - 1 := by unfold greatF; rw [h0, h1, h]
theorem greatF_none {a : Int} (h0 : seek (one0 a) 9 0 = none) (h1 : seek (dist1 a) 19 0 = none) (h : seek (pair1 a) 19 0 = none) : greatF a = a := by unfold greatF; rw [h0, h1, h]
theorem smallF_one {a : Int} {k : Nat} (h : seek (one0 a) 9 0 = some k) : smallF a = L0 (k * 3 + 2) := by unfold smallF; rw [h]
theorem smallF_dist {a : Int} {k : Nat} (h0 : seek (one0 a) 9 0 = none) (h : seek (dist2 a) 19 0 = some k) : smallF a = a + L1 (k * 3 + 2) := by unfold smallF; rw [h0, h]
theorem smallF_pair {a : Int} {k : Nat} (h0 : seek (one0 a) 9 0 = none) (h1 : seek (dist2 a) 19 0 = none) (h : seek (pair2 a) 19 0 = some k) : smallF a = a + 1 := by unfold smallF; rw [h0, h1, h]
theorem smallF_none {a : Int} (h0 : seek (one0 a) 9 0 = none) (h1 : seek (dist2 a) 19 0 = none) (h : seek (pair2 a) 19 0 = none) : smallF a = a := by unfold smallF; rw [h0, h1, h]
end Go.Proofs.YtdegdoilpamjjaaDoor
