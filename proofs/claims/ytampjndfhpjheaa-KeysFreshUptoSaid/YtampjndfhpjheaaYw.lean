/- Plain: the steps of the reader's prefixes. No program. -/
import Derived.Test.YtampjndfhpjheaaYb
namespace Go.Proofs.Ytampjndfhpjheaa
/-- what the prefixes come to, one after another -/
theorem pref_step (f : Nat) (r c : Int) (l : List Int) : prefP (f + 1) r c l = match (numP c l).2 with
    | [] => (0, 0, 0, [])
    | x :: t => if x = 34 then (match t with | [] => (0, 0, 0, []) | y :: u => if y = 0 then (2, 0, 0, []) else prefP f y (numP c l).1 u) else (1, r, (numP c l).1, x :: t) := rfl
theorem runN_len (n : Int) (l : List Int) : (runN n l).2.length ≤ l.length := by
  induction l generalizing n with
  | nil => exact Nat.le_refl _
  | cons x t ih =>
    unfold runN
    split
    · exact Nat.le_trans (ih _) (by simp)
    · exact Nat.le_refl _
theorem numP_len (c : Int) (l : List Int) : (numP c l).2.length ≤ l.length := by
  unfold numP
  split
  · exact Nat.le_refl _
  · split
    · exact runN_len _ _
    · exact Nat.le_refl _
theorem runN_sub (n : Int) (l : List Int) : ∀ x ∈ (runN n l).2, x ∈ l := by
  induction l generalizing n with
  | nil => exact fun x hx => hx
  | cons y t ih =>
    unfold runN
    split
    · exact fun x hx => List.mem_cons_of_mem _ (ih _ x hx)
    · exact fun x hx => hx
theorem numP_sub (c : Int) (l : List Int) : ∀ x ∈ (numP c l).2, x ∈ l := by
  unfold numP
  split
  · exact fun x hx => hx
  · split
    · exact runN_sub _ _
    · exact fun x hx => hx
theorem runN_bd {n : Int} (h0 : 0 ≤ n) (h1 : n ≤ 9999) (l : List Int) : 0 ≤ (runN n l).1 ∧ (runN n l).1 ≤ 9999 := by
  induction l generalizing n with
  | nil => exact ⟨h0, h1⟩
  | cons y t ih =>
    unfold runN
    split
    · rename_i hd
      unfold digB at hd
      rw [Bool.and_eq_true, decide_eq_true_eq, decide_eq_true_eq] at hd
      exact ih (by omega) (by omega)
    · exact ⟨h0, h1⟩
theorem numP_bd {c : Int} (h0 : 0 ≤ c) (h1 : c ≤ 9999) (l : List Int) : 0 ≤ (numP c l).1 ∧ (numP c l).1 ≤ 9999 := by
  unfold numP
  split
  · exact ⟨h0, h1⟩
  · split
    · rename_i x t _
      have := runN_bd (n := 0) (by omega) (by omega) (x :: t)
      refine ⟨?_, by omega⟩
      have h2 : 0 ≤ max c 1 * (runN 0 (x :: t)).1 := Int.mul_nonneg (by omega) this.1
      omega
    · exact ⟨h0, h1⟩
/-- a fuel that is enough is as good as another -/
theorem pref_fuel : ∀ (f g : Nat) (r c : Int) (l : List Int), l.length < f → l.length < g → prefP f r c l = prefP g r c l
  | 0, _, _, _, _, h, _ => by omega
  | _ + 1, 0, _, _, _, _, h => by omega
  | f + 1, g + 1, r, c, l, hf, hg => by
    rw [pref_step, pref_step]
    have hl := numP_len c l
    generalize numP c l = q at hl
    obtain ⟨c2, l2⟩ := q
    match l2, hl with
    | [], _ => rfl
    | x :: t, hl =>
      simp only
      split
      · match t, hl with
        | [], _ => rfl
        | y :: u, hl =>
          simp only
          split
          · rfl
          · simp at hl
            exact pref_fuel f g y c2 u (by omega) (by omega)
      · rfl
end Go.Proofs.Ytampjndfhpjheaa
