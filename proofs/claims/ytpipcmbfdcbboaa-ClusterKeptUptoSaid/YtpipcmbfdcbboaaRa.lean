/- Contracts and plain laws: the document's tables of chapter 2 (package copyistref2) say what the program's say. No condition. -/
import Derived.Test.YtpipcmbfdcbboaaGe
namespace Go.Proofs.Ytpipcmbfdcbboaa
open Go.RowKit
theorem class1_sx (a : Int) (w : World) : Calls Try.prog 64 #[.int .i64 a] w fun e w' => e = .returned (.int .i64 ((sxFn Try.f64).int a)) ∧ w = w' := by
  rw [← DT.den_int a _ (by kernel_rfl)]
  exact calls_of_sx Try.func64 (of_decide_eq_true (by kernel_rfl)) (by kernel_rfl) a w
theorem class2_sx (a : Int) (w : World) : Calls Try.prog 65 #[.int .i64 a] w fun e w' => e = .returned (.int .i64 ((sxFn Try.f65).int a)) ∧ w = w' := by
  rw [← DT.den_int a _ (by kernel_rfl)]
  exact calls_of_sx Try.func65 (of_decide_eq_true (by kernel_rfl)) (by kernel_rfl) a w
theorem class3_sx (a : Int) (w : World) : Calls Try.prog 66 #[.int .i64 a] w fun e w' => e = .returned (.int .i64 ((sxFn Try.f66).int a)) ∧ w = w' := by
  rw [← DT.den_int a _ (by kernel_rfl)]
  exact calls_of_sx Try.func66 (of_decide_eq_true (by kernel_rfl)) (by kernel_rfl) a w
theorem consonant_sx (a : Int) (w : World) : Calls Try.prog 70 #[.int .i64 a] w fun e w' => e = .returned (.bool (decide ((sxFn Try.f70).int a = 1))) ∧ w = w' := by
  rw [← DT.den_bool a _ (by kernel_rfl)]
  exact calls_of_sx Try.func70 (of_decide_eq_true (by kernel_rfl)) (by kernel_rfl) a w
theorem class1_eq (a : Int) (h0 : 0 ≤ a) (h1 : a ≤ 3075) : (sxFn Try.f64).int a = sot classT a := by
  obtain ⟨l, h, hl, hh, hc⟩ := (sxFn Try.f64).each_ok 0 3075 (fun l h v => (sotD classT).each l h (fun _ _ u => u == v)) (by kernel_rfl) a h0 h1
  obtain ⟨_, _, _, _, hu⟩ := (sotD classT).each_ok l h _ hc a hl hh
  rw [sotD_int] at hu
  exact (beq_iff_eq.1 hu).symm
theorem class2_eq (a : Int) (h0 : 3076 ≤ a) (h1 : a ≤ 8504) : (sxFn Try.f65).int a = sot classT a := by
  obtain ⟨l, h, hl, hh, hc⟩ := (sxFn Try.f65).each_ok 3076 8504 (fun l h v => (sotD classT).each l h (fun _ _ u => u == v)) (by kernel_rfl) a h0 h1
  obtain ⟨_, _, _, _, hu⟩ := (sotD classT).each_ok l h _ hc a hl hh
  rw [sotD_int] at hu
  exact (beq_iff_eq.1 hu).symm
theorem class3_eq (a : Int) (h0 : 8505 ≤ a) (h1 : a ≤ 1114111) : (sxFn Try.f66).int a = sot classT a := by
  obtain ⟨l, h, hl, hh, hc⟩ := (sxFn Try.f66).each_ok 8505 1114111 (fun l h v => (sotD classT).each l h (fun _ _ u => u == v)) (by kernel_rfl) a h0 h1
  obtain ⟨_, _, _, _, hu⟩ := (sotD classT).each_ok l h _ hc a hl hh
  rw [sotD_int] at hu
  exact (beq_iff_eq.1 hu).symm
theorem consonant_far (a : Int) (h : a < 0 ∨ 1114111 < a) : (sxFn Try.f70).int a = 0 := by
  rcases h with h | h
  · rw [DT.lowB_int (m := -1) (by omega) _ (by kernel_rfl)]; kernel_rfl
  · rw [DT.highB_int (m := 1114112) (by omega) _ (by kernel_rfl)]; kernel_rfl
/-- where the class is Other the two tables of consonants agree -/
theorem consonant_eq (a : Int) (h0 : 0 ≤ a) (h1 : a ≤ 1114111) (hc : sot classT a = 0) : (sxFn Try.f70).int a = sot conjT a := by
  obtain ⟨l, h, hl, hh, hk⟩ := (sxFn Try.f70).each_ok 0 1114111 (fun l h v => (sotD conjT).each l h (fun l h u => (u == v) || (sotD classT).each l h (fun _ _ c => c != 0))) (by kernel_rfl) a h0 h1
  obtain ⟨l', h', hl', hh', hk'⟩ := (sotD conjT).each_ok l h _ hk a hl hh
  rw [sotD_int] at hk'
  rw [Bool.or_eq_true] at hk'
  rcases hk' with hk' | hk'
  · exact (beq_iff_eq.1 hk').symm
  · obtain ⟨_, _, _, _, hu⟩ := (sotD classT).each_ok l' h' _ hk' a hl' hh'
    rw [sotD_int, hc] at hu
    simp at hu
/-- a consonant's class is Other -/
theorem consonant_other (a : Int) (hc : (sxFn Try.f70).int a = 1) : classF a = 0 := by
  by_cases hf : a < 0 ∨ 1114111 < a
  · rw [consonant_far a hf] at hc; cases hc
  · have h0 : 0 ≤ a := by omega
    have h1 : a ≤ 1114111 := by omega
    obtain ⟨l, h, hl, hh, hk⟩ := (sxFn Try.f70).each_ok 0 1114111 (fun l h v => (v != 1) || (decide (h < 44032) && (sotD classT).each l h (fun _ _ c => c == 0))) (by kernel_rfl) a h0 h1
    rw [Bool.or_eq_true] at hk
    rcases hk with hk | hk
    · rw [hc] at hk; simp at hk
    · rw [Bool.and_eq_true] at hk
      obtain ⟨_, _, _, _, hu⟩ := (sotD classT).each_ok l h _ hk.2 a hl hh
      rw [sotD_int] at hu
      have := of_decide_eq_true hk.1
      unfold classF
      rw [if_neg (by unfold scalarB; simp; omega), if_neg (by omega)]
      exact beq_iff_eq.1 hu
end Go.Proofs.Ytpipcmbfdcbboaa
