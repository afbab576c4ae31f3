/- Contracts and plain laws: the document's tables of chapter 2 (package copyistref2) say what the program's say. No condition. -/
import Derived.Test.YtiaennaoedikeaaDoorGw
namespace Go.Proofs.YtiaennaoedikeaaDoor
open Go.RowKit
theorem class1_sx (a : Int) (w : World) : Calls Tryd.prog 34 #[.int .i64 a] w fun e w' => e = .returned (.int .i64 ((sxFn Tryd.f34).int a)) ∧ w = w' := by
  rw [← DT.den_int a _ (by kernel_rfl)]
  exact calls_of_sx Tryd.func34 (of_decide_eq_true (by kernel_rfl)) (by kernel_rfl) a w
theorem class2_sx (a : Int) (w : World) : Calls Tryd.prog 35 #[.int .i64 a] w fun e w' => e = .returned (.int .i64 ((sxFn Tryd.f35).int a)) ∧ w = w' := by
  rw [← DT.den_int a _ (by kernel_rfl)]
  exact calls_of_sx Tryd.func35 (of_decide_eq_true (by kernel_rfl)) (by kernel_rfl) a w
theorem class3_sx (a : Int) (w : World) : Calls Tryd.prog 36 #[.int .i64 a] w fun e w' => e = .returned (.int .i64 ((sxFn Tryd.f36).int a)) ∧ w = w' := by
  rw [← DT.den_int a _ (by kernel_rfl)]
  exact calls_of_sx Tryd.func36 (of_decide_eq_true (by kernel_rfl)) (by kernel_rfl) a w
theorem consonant_sx (a : Int) (w : World) : Calls Tryd.prog 37 #[.int .i64 a] w fun e w' => e = .returned (.bool (decide ((sxFn Tryd.f37).int a = 1))) ∧ w = w' := by
  rw [← DT.den_bool a _ (by kernel_rfl)]
  exact calls_of_sx Tryd.func37 (of_decide_eq_true (by kernel_rfl)) (by kernel_rfl) a w
theorem blank_sx (a : Int) (w : World) : Calls Tryd.prog 38 #[.int .i64 a] w fun e w' => e = .returned (.bool (decide ((sxFn Tryd.f38).int a = 1))) ∧ w = w' := by
  rw [← DT.den_bool a _ (by kernel_rfl)]
  exact calls_of_sx Tryd.func38 (of_decide_eq_true (by kernel_rfl)) (by kernel_rfl) a w
theorem letter_sx (a : Int) (w : World) : Calls Tryd.prog 39 #[.int .i64 a] w fun e w' => e = .returned (.bool (decide ((sxFn Tryd.f39).int a = 1))) ∧ w = w' := by
  rw [← DT.den_bool a _ (by kernel_rfl)]
  exact calls_of_sx Tryd.func39 (of_decide_eq_true (by kernel_rfl)) (by kernel_rfl) a w
theorem wide_sx (a : Int) (w : World) : Calls Tryd.prog 45 #[.int .i64 a] w fun e w' => e = .returned (.bool (decide ((sxFn Tryd.f45).int a = 1))) ∧ w = w' := by
  rw [← DT.den_bool a _ (by kernel_rfl)]
  exact calls_of_sx Tryd.func45 (of_decide_eq_true (by kernel_rfl)) (by kernel_rfl) a w
theorem class1_eq (a : Int) (h0 : 0 ≤ a) (h1 : a ≤ 3075) : (sxFn Tryd.f34).int a = sot classT a := by
  obtain ⟨l, h, hl, hh, hc⟩ := (sxFn Tryd.f34).each_ok 0 3075 (fun l h v => (sotD classT).each l h (fun _ _ u => u == v)) (by kernel_rfl) a h0 h1
  obtain ⟨_, _, _, _, hu⟩ := (sotD classT).each_ok l h _ hc a hl hh
  rw [sotD_int] at hu
  exact (beq_iff_eq.1 hu).symm
theorem class2_eq (a : Int) (h0 : 3076 ≤ a) (h1 : a ≤ 8504) : (sxFn Tryd.f35).int a = sot classT a := by
  obtain ⟨l, h, hl, hh, hc⟩ := (sxFn Tryd.f35).each_ok 3076 8504 (fun l h v => (sotD classT).each l h (fun _ _ u => u == v)) (by kernel_rfl) a h0 h1
  obtain ⟨_, _, _, _, hu⟩ := (sotD classT).each_ok l h _ hc a hl hh
  rw [sotD_int] at hu
  exact (beq_iff_eq.1 hu).symm
theorem class3_eq (a : Int) (h0 : 8505 ≤ a) (h1 : a ≤ 1114111) : (sxFn Tryd.f36).int a = sot classT a := by
  obtain ⟨l, h, hl, hh, hc⟩ := (sxFn Tryd.f36).each_ok 8505 1114111 (fun l h v => (sotD classT).each l h (fun _ _ u => u == v)) (by kernel_rfl) a h0 h1
  obtain ⟨_, _, _, _, hu⟩ := (sotD classT).each_ok l h _ hc a hl hh
  rw [sotD_int] at hu
  exact (beq_iff_eq.1 hu).symm
theorem consonant_far (a : Int) (h : a < 0 ∨ 1114111 < a) : (sxFn Tryd.f37).int a = 0 := by
  rcases h with h | h
  · rw [DT.lowB_int (m := -1) (by omega) _ (by kernel_rfl)]; kernel_rfl
  · rw [DT.highB_int (m := 1114112) (by omega) _ (by kernel_rfl)]; kernel_rfl
theorem blank_far (a : Int) (h : a < 0 ∨ 1114111 < a) : (sxFn Tryd.f38).int a = 0 := by
  rcases h with h | h
  · rw [DT.lowB_int (m := -1) (by omega) _ (by kernel_rfl)]; kernel_rfl
  · rw [DT.highB_int (m := 1114112) (by omega) _ (by kernel_rfl)]; kernel_rfl
theorem letter_far (a : Int) (h : a < 0 ∨ 1114111 < a) : (sxFn Tryd.f39).int a = 0 := by
  rcases h with h | h
  · rw [DT.lowB_int (m := -1) (by omega) _ (by kernel_rfl)]; kernel_rfl
  · rw [DT.highB_int (m := 1114112) (by omega) _ (by kernel_rfl)]; kernel_rfl
theorem wide_far (a : Int) (h : a < 0 ∨ 1114111 < a) : (sxFn Tryd.f45).int a = 0 := by
  rcases h with h | h
  · rw [DT.lowB_int (m := -1) (by omega) _ (by kernel_rfl)]; kernel_rfl
  · rw [DT.highB_int (m := 1114112) (by omega) _ (by kernel_rfl)]; kernel_rfl
/-- where the class is Other the two tables of consonants agree -/
theorem consonant_eq (a : Int) (h0 : 0 ≤ a) (h1 : a ≤ 1114111) (hc : sot classT a = 0) : (sxFn Tryd.f37).int a = sot conjT a := by
  obtain ⟨l, h, hl, hh, hk⟩ := (sxFn Tryd.f37).each_ok 0 1114111 (fun l h v => (sotD conjT).each l h (fun l h u => (u == v) || (sotD classT).each l h (fun _ _ c => c != 0))) (by kernel_rfl) a h0 h1
  obtain ⟨l', h', hl', hh', hk'⟩ := (sotD conjT).each_ok l h _ hk a hl hh
  rw [sotD_int] at hk'
  rw [Bool.or_eq_true] at hk'
  rcases hk' with hk' | hk'
  · exact (beq_iff_eq.1 hk').symm
  · obtain ⟨_, _, _, _, hu⟩ := (sotD classT).each_ok l' h' _ hk' a hl' hh'
    rw [sotD_int, hc] at hu
    simp at hu
/-- a consonant's class is Other -/
theorem consonant_other (a : Int) (hc : (sxFn Tryd.f37).int a = 1) : classF a = 0 := by
  by_cases hf : a < 0 ∨ 1114111 < a
  · rw [consonant_far a hf] at hc; cases hc
  · have h0 : 0 ≤ a := by omega
    have h1 : a ≤ 1114111 := by omega
    obtain ⟨l, h, hl, hh, hk⟩ := (sxFn Tryd.f37).each_ok 0 1114111 (fun l h v => (v != 1) || (decide (h < 44032) && (sotD classT).each l h (fun _ _ c => c == 0))) (by kernel_rfl) a h0 h1
    rw [Bool.or_eq_true] at hk
    rcases hk with hk | hk
    · rw [hc] at hk; simp at hk
    · rw [Bool.and_eq_true] at hk
      obtain ⟨_, _, _, _, hu⟩ := (sotD classT).each_ok l h _ hk.2 a hl hh
      rw [sotD_int] at hu
      have := of_decide_eq_true hk.1
      unfold classF
      rw [if_neg (by unfold scalarB; simp; omega), if_neg (by omega)]
      exact beq_iff_eq.1 hu
/-- blank and letter -/
theorem word_tables (a : Int) (h0 : 0 ≤ a) (h1 : a ≤ 1114111) : ((sxFn Tryd.f38).int a = 1 ↔ sot wordT a = 1) ∧ ((sxFn Tryd.f39).int a = 1 ↔ sot wordT a = 2) := by
  constructor
  · obtain ⟨l, h, hl, hh, hk⟩ := (sxFn Tryd.f38).each_ok 0 1114111 (fun l h v => (sotD wordT).each l h (fun _ _ u => (u == 1) == (v == 1))) (by kernel_rfl) a h0 h1
    obtain ⟨_, _, _, _, hu⟩ := (sotD wordT).each_ok l h _ hk a hl hh
    rw [sotD_int] at hu
    have := beq_iff_eq.1 hu
    rw [Bool.eq_iff_iff] at this
    exact ⟨fun e => beq_iff_eq.1 (this.2 (beq_iff_eq.2 e)), fun e => beq_iff_eq.1 (this.1 (beq_iff_eq.2 e))⟩
  · obtain ⟨l, h, hl, hh, hk⟩ := (sxFn Tryd.f39).each_ok 0 1114111 (fun l h v => (sotD wordT).each l h (fun _ _ u => (u == 2) == (v == 1))) (by kernel_rfl) a h0 h1
    obtain ⟨_, _, _, _, hu⟩ := (sotD wordT).each_ok l h _ hk a hl hh
    rw [sotD_int] at hu
    have := beq_iff_eq.1 hu
    rw [Bool.eq_iff_iff] at this
    exact ⟨fun e => beq_iff_eq.1 (this.2 (beq_iff_eq.2 e)), fun e => beq_iff_eq.1 (this.1 (beq_iff_eq.2 e))⟩
/-- beyond the scalars there are no letters and no blanks -/
theorem word_tables_out (a : Int) (h : scalarB a = false) : (sxFn Tryd.f38).int a = 0 ∧ (sxFn Tryd.f39).int a = 0 := by
  have hn : ¬ (0 ≤ a ∧ a < 55296 ∨ 57343 < a ∧ a ≤ 1114111) := by unfold scalarB at h; exact of_decide_eq_false h
  by_cases hf : a < 0 ∨ 1114111 < a
  · exact ⟨blank_far a hf, letter_far a hf⟩
  · constructor
    · obtain ⟨_, _, _, _, hk⟩ := (sxFn Tryd.f38).each_ok 55296 57343 (fun _ _ v => v == 0) (by kernel_rfl) a (by omega) (by omega)
      exact beq_iff_eq.1 hk
    · obtain ⟨_, _, _, _, hk⟩ := (sxFn Tryd.f39).each_ok 55296 57343 (fun _ _ v => v == 0) (by kernel_rfl) a (by omega) (by omega)
      exact beq_iff_eq.1 hk
theorem wide_eq (a : Int) (h0 : 0 ≤ a) (h1 : a ≤ 1114111) : (sxFn Tryd.f45).int a = sot wideT a := by
  obtain ⟨l, h, hl, hh, hc⟩ := (sxFn Tryd.f45).each_ok 0 1114111 (fun l h v => (sotD wideT).each l h (fun _ _ u => u == v)) (by kernel_rfl) a h0 h1
  obtain ⟨_, _, _, _, hu⟩ := (sotD wideT).each_ok l h _ hc a hl hh
  rw [sotD_int] at hu
  exact (beq_iff_eq.1 hu).symm
end Go.Proofs.YtiaennaoedikeaaDoor
