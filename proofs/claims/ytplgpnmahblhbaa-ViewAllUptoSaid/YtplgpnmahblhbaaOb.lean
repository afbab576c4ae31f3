/- Plain law: the cell at an offset and the cluster at a cell, by the boundaries. No condition. -/
import Derived.Test.YtplgpnmahblhbaaVg
namespace Go.Proofs.Ytplgpnmahblhbaa
theorem bx_zero (f : Nat → Int) (n : Nat) : bx f n 0 = 0 := by unfold bx; rw [allB_bounds]; rfl
theorem bx_mono (f : Nat → Int) (n : Nat) : ∀ i j, i ≤ j → j < bnv f n → bx f n i ≤ bx f n j := by
  intro i j hij
  induction j with
  | zero => intro _; obtain rfl : i = 0 := by omega
            exact Nat.le_refl _
  | succ j ih =>
    intro hj
    rcases Nat.lt_or_eq_of_le hij with h | rfl
    · have := ih (by omega) (by omega); have := bx_up f n j hj; omega
    · exact Nat.le_refl _
theorem bx_last (f : Nat → Int) (n : Nat) : bx f n (bnv f n - 1) = n := by
  have hm : n ∈ allB f n := v_allB_mem.2 ⟨Nat.le_refl _, isB_end f n⟩
  obtain ⟨i, hi, he⟩ := List.mem_iff_getElem.1 hm
  have hb : bx f n i = n := by unfold bx; rw [List.getD_eq_getElem?_getD, List.getElem?_eq_getElem hi]; exact he
  have h1 := bx_mono f n i (bnv f n - 1) (by unfold bnv; omega) (by have := bnv_bd f n; omega)
  have h2 := bx_bd f n (bnv f n - 1) (by have := bnv_bd f n; omega)
  omega
theorem cellAt_mono (f : Nat → Int) (n : Nat) : ∀ i j, i ≤ j → cellAt f n i ≤ cellAt f n j := by
  intro i j hij
  induction j with
  | zero => obtain rfl : i = 0 := by omega
            exact Int.le_refl _
  | succ j ih =>
    rcases Nat.lt_or_eq_of_le hij with h | rfl
    · have h1 := ih (by omega)
      have h2 := cellW_bd (fun k => f (k + bx f n j)) (bx f n (j + 1) - bx f n j) (cellAt f n j)
      have h3 : cellAt f n (j + 1) = cellAt f n j + cellW (fun k => f (k + bx f n j)) (bx f n (j + 1) - bx f n j) (cellAt f n j) := rfl
      omega
    · exact Int.le_refl _
theorem runI_cell (f : Nat → Int) (n j : Nat) (a : Int) (hj : j < bnv f n) (h1 : ∀ i, i < j → (bx f n (i + 1) : Int) ≤ a) (h2 : j + 1 < bnv f n → a < (bx f n (j + 1) : Int)) :
    ∀ m i, i + m = bnv f n - 1 → i ≤ j → runI (cellY f n a) m i (cellAt f n i) = cellAt f n j := by
  intro m
  induction m with
  | zero => intro i hm hi; obtain rfl : i = j := by omega
            rfl
  | succ m ih =>
    intro i hm hi
    unfold runI
    by_cases ha : a < (bx f n (i + 1) : Int)
    · have hY : cellY f n a (cellAt f n i) i = (cellAt f n i, false) := by unfold cellY; rw [if_pos ha]
      rw [hY]
      rcases Nat.lt_or_eq_of_le hi with h | rfl
      · have := h1 i h; omega
      · rfl
    · have hY : cellY f n a (cellAt f n i) i = (cellAt f n (i + 1), true) := by unfold cellY; rw [if_neg ha]
      rw [hY]
      refine ih (i + 1) (by omega) ?_
      rcases Nat.lt_or_eq_of_le hi with h | rfl
      · exact h
      · exact absurd (h2 (by omega)) ha
theorem cellF_at (f : Nat → Int) (n j : Nat) (a : Int) (hj : j < bnv f n) (h1 : j = 0 ∨ (bx f n j : Int) ≤ a) (h2 : j + 1 < bnv f n → a < (bx f n (j + 1) : Int)) : cellF f n a = cellAt f n j := by
  unfold cellF
  refine runI_cell f n j a hj (fun i hi => ?_) h2 (bnv f n - 1) 0 (by omega) (Nat.zero_le _)
  have := bx_mono f n (i + 1) j (by omega) hj
  rcases h1 with h | h <;> omega
theorem runI_at (f : Nat → Int) (n j : Nat) (c : Int) (hj : j + 1 < bnv f n) (h1 : cellAt f n j ≤ c) (h2 : c < cellAt f n (j + 1)) :
    ∀ m i s, i + m = bnv f n - 1 → i ≤ j → runI (atY f n c) m i s = bx f n j := by
  intro m
  induction m with
  | zero => intro i s hm hi; omega
  | succ m ih =>
    intro i s hm hi
    unfold runI
    rcases Nat.lt_or_eq_of_le hi with h | rfl
    · have hn : ¬ (cellAt f n i ≤ c ∧ c < cellAt f n (i + 1)) := by
        rintro ⟨_, h3⟩
        have := cellAt_mono f n (i + 1) j (by omega)
        omega
      have hY : atY f n c s i = (s, true) := by unfold atY; rw [if_neg hn]
      rw [hY]
      exact ih (i + 1) s (by omega) (by omega)
    · have hY : atY f n c s i = (bx f n i, false) := by unfold atY; rw [if_pos ⟨h1, h2⟩]
      rw [hY]; rfl
theorem atF_at (f : Nat → Int) (n j : Nat) (c : Int) (hj : j + 1 < bnv f n) (h1 : cellAt f n j ≤ c) (h2 : c < cellAt f n (j + 1)) : atF f n c = bx f n j := by
  have := cellAt_bd f n j
  unfold atF
  rw [if_neg (by omega)]
  exact runI_at f n j c hj h1 h2 _ 0 n (by omega) (Nat.zero_le _)
theorem runI_out (f : Nat → Int) (n : Nat) (c : Int) (h : cellAt f n (bnv f n - 1) ≤ c) : ∀ m i s, i + m = bnv f n - 1 → runI (atY f n c) m i s = s := by
  intro m
  induction m with
  | zero => intro i s _; rfl
  | succ m ih =>
    intro i s hm
    unfold runI
    have hn : ¬ (cellAt f n i ≤ c ∧ c < cellAt f n (i + 1)) := by
      rintro ⟨_, h3⟩
      have := cellAt_mono f n (i + 1) (bnv f n - 1) (by omega)
      omega
    have hY : atY f n c s i = (s, true) := by unfold atY; rw [if_neg hn]
    rw [hY]
    exact ih (i + 1) s (by omega)
theorem atF_out (f : Nat → Int) (n : Nat) (c : Int) (h : cellAt f n (bnv f n - 1) ≤ c) : atF f n c = n := by
  have := cellAt_bd f n (bnv f n - 1)
  unfold atF
  rw [if_neg (by omega)]
  exact runI_out f n c h _ 0 n (by omega)
theorem atF_neg (f : Nat → Int) (n : Nat) (c : Int) (h : c < 0) : atF f n c = 0 := by unfold atF; rw [if_pos h]
/-- what ViewCover asks of the cells -/
theorem cellF_low (f : Nat → Int) (n : Nat) (a : Int) (h : a ≤ 0) : cellF f n a = 0 := by
  have hb := bnv_bd f n
  refine cellF_at f n 0 a (by omega) (.inl rfl) (fun h1 => ?_)
  have := bx_up f n 0 h1
  rw [bx_zero] at this
  omega
theorem cellF_bx (f : Nat → Int) (n j : Nat) (hj : j < bnv f n) : cellF f n (bx f n j : Nat) = cellAt f n j :=
  cellF_at f n j _ hj (.inr (Int.le_refl _)) (fun h => by have := bx_up f n j h; omega)
theorem cellF_pre (f : Nat → Int) (n j : Nat) (hj : j + 1 < bnv f n) : cellF f n ((bx f n (j + 1) : Nat) - 1 : Int) = cellAt f n j := by
  have := bx_up f n j hj
  exact cellF_at f n j _ (by omega) (.inr (by omega)) (fun _ => by omega)
theorem cellF_end (f : Nat → Int) (n : Nat) (a : Int) (h : (n : Int) ≤ a) : cellF f n a = cellAt f n (bnv f n - 1) := by
  have hb := bnv_bd f n
  refine cellF_at f n _ a (by omega) (.inr ?_) (fun h1 => by omega)
  rw [bx_last]; exact h
theorem cellAt_next (f : Nat → Int) (n j : Nat) : cellAt f n (j + 1) = cellAt f n j + cellOf f n j := rfl
end Go.Proofs.Ytplgpnmahblhbaa
