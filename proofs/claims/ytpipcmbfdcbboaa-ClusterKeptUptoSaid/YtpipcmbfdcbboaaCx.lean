/- Plain laws: columns and offsets belong together. No condition. -/
import Derived.Test.YtpipcmbfdcbboaaCv
namespace Go.Proofs.Ytpipcmbfdcbboaa
open Go.RowKit
def leL (a : Int) (l : List Nat) : List Nat := l.filter fun (k : Nat) => decide ((k : Int) ≤ a)
theorem leL_none {a : Int} {l : List Nat} (h : ∀ k ∈ l, a < (k : Int)) : leL a l = [] := by
  unfold leL; rw [List.filter_eq_nil_iff]; intro k hk; have := h k hk; simp; omega
theorem leL_yes {a : Int} {k : Nat} {l : List Nat} (h : (k : Int) ≤ a) : leL a (k :: l) = k :: leL a l := by
  unfold leL; rw [List.filter_cons, if_pos (by simpa using h)]
theorem leL_no {a : Int} {k : Nat} {l : List Nat} (h : ¬ (k : Int) ≤ a) : leL a (k :: l) = leL a l := by
  unfold leL; rw [List.filter_cons, if_neg (by simpa using h)]
theorem leL_take (a : Int) : ∀ (l : List Nat), l.Pairwise (· < ·) → leL a l = l.take (leL a l).length := by
  intro l
  induction l with
  | nil => intro _; rfl
  | cons k r ih =>
    intro hs
    rw [List.pairwise_cons] at hs
    by_cases h : (k : Int) ≤ a
    · rw [leL_yes h, List.length_cons, List.take_succ_cons, ← ih hs.2]
    · rw [leL_no h, leL_none (fun j hj => by have := hs.1 j hj; omega)]; rfl
theorem leL_at : ∀ (l : List Nat) (i : Nat) (h : i < l.length), l.Pairwise (· < ·) → (leL (l[i] : Nat) l).length = i + 1 := by
  intro l
  induction l with
  | nil => intro i h; exact absurd h (Nat.not_lt_zero _)
  | cons k r ih =>
    intro i h hs
    rw [List.pairwise_cons] at hs
    cases i with
    | zero =>
      show (leL (k : Int) (k :: r)).length = 1
      rw [leL_yes (Int.le_refl _), leL_none (fun j hj => by have := hs.1 j hj; simp; omega)]; rfl
    | succ i =>
      have hi : i < r.length := by simpa using h
      have := hs.1 r[i] (List.getElem_mem hi)
      rw [leL_yes (by simp; omega), List.length_cons]
      rw [show (k :: r)[i + 1] = r[i] from rfl, ih i hi hs.2]
theorem col_leL (f : Nat → Int) (n : Nat) (a : Int) (h : 0 ≤ a) : (leL a (allB f n)).length = colF f n a + 1 := by
  rw [allB_bounds, leL_yes (by omega), List.length_cons]; rfl
theorem col_neg (f : Nat → Int) (n : Nat) (a : Int) (h : a < 0) : colF f n a = 0 := by
  show (leL a (bounds f n 0)).length = 0
  rw [leL_none (fun k _ => by omega)]; rfl
def cn (f : Nat → Int) (n : Nat) : Nat := (bounds f n 0).length
theorem cn_bn (f : Nat → Int) (n : Nat) : bn f n = cn f n + 1 := by unfold bn cn; rw [allB_bounds, List.length_cons]
theorem cn_bd (f : Nat → Int) (n : Nat) : cn f n ≤ n := by have := bounds_length f n 0 (by omega) rfl; unfold cn; omega
theorem cn_pos (f : Nat → Int) (n : Nat) (h : 0 < n) : 0 < cn f n := by
  have hm : n ∈ bounds f n 0 := (bounds_mem (by omega) rfl n).2 ⟨h, Nat.le_refl _, isB_end f n⟩
  unfold cn
  cases hb : bounds f n 0 with
  | nil => rw [hb] at hm; cases hm
  | cons _ _ => simp
theorem col_le (f : Nat → Int) (n : Nat) (a : Int) : colF f n a ≤ cn f n := by
  show (List.filter _ _).length ≤ _; exact List.length_filter_le _ _
theorem off_get (f : Nat → Int) (n : Nat) (c : Int) : ∃ h : min c.toNat (cn f n) < (allB f n).length, offF f n c = (allB f n)[min c.toNat (cn f n)] := by
  have hb := cn_bn f n
  have h : min c.toNat (cn f n) < (allB f n).length := by show _ < bn f n; omega
  refine ⟨h, ?_⟩
  show (allB f n).getD (min c.toNat (cn f n)) 0 = _
  rw [List.getD_eq_getElem?_getD, List.getElem?_eq_getElem h]; rfl
theorem off_is (f : Nat → Int) (n : Nat) (c : Int) : offF f n c ≤ n ∧ isB f n (offF f n c) = true := by
  obtain ⟨h, e⟩ := off_get f n c
  rw [e]; exact allB_mem.1 (List.getElem_mem h)
theorem col_off (f : Nat → Int) (n : Nat) (c : Int) : colF f n (offF f n c : Nat) = min c.toNat (cn f n) := by
  obtain ⟨h, e⟩ := off_get f n c
  have := leL_at (allB f n) _ h (allB_sorted f n)
  rw [← e, col_leL f n _ (by omega)] at this
  omega
theorem off_col (f : Nat → Int) (n : Nat) (a : Int) : offF f n (colF f n a : Nat) = snapF f n a := by
  have hc := col_le f n a
  obtain ⟨h, e⟩ := off_get f n (colF f n a : Nat)
  have hmin : min ((colF f n a : Nat) : Int).toNat (cn f n) = colF f n a := by omega
  by_cases ha : a < 0
  · have hz : colF f n a = 0 := col_neg f n a ha
    unfold snapF
    rw [show min a.toNat n = 0 from by omega]
    show _ = 0
    unfold offF
    rw [hz, allB_bounds]; simp
  · have hl := col_leL f n a (by omega)
    have ht := leL_take a (allB f n) (allB_sorted f n)
    rw [hl] at ht
    have hbn := cn_bn f n
    have hlt : colF f n a < (allB f n).length := by show _ < bn f n; omega
    have e2 : offF f n (colF f n a : Nat) = (allB f n)[colF f n a] := by rw [e]; congr 1
    have hmem : (allB f n)[colF f n a] ∈ leL a (allB f n) := by
      rw [ht, List.mem_take_iff_getElem]
      exact ⟨colF f n a, by omega, rfl⟩
    unfold leL at hmem
    rw [List.mem_filter] at hmem
    have hle : ((allB f n)[colF f n a] : Int) ≤ a := by simpa using hmem.2
    have hin := allB_mem.1 hmem.1
    rw [e2]
    unfold snapF
    symm
    refine snapN_eq (by omega) hin.2 ?_
    intro j hj hbj
    have hjm : j ∈ leL a (allB f n) := by
      unfold leL; rw [List.mem_filter]
      exact ⟨allB_mem.2 ⟨by omega, hbj⟩, by simp; omega⟩
    rw [ht, List.mem_take_iff_getElem] at hjm
    obtain ⟨i, hi, rfl⟩ := hjm
    by_cases hic : i = colF f n a
    · subst hic; exact Nat.le_refl _
    · exact Nat.le_of_lt (List.pairwise_iff_getElem.1 (allB_sorted f n) i (colF f n a) (by omega) hlt (by omega))
theorem isF_off (f : Nat → Int) (n : Nat) (c : Int) : isF f n (offF f n c : Nat) = true := by
  rw [isF_nat (off_is f n c).1]; exact (off_is f n c).2
theorem isF_zero (f : Nat → Int) (n : Nat) : isF f n 0 = true := by
  have := @isF_nat f n 0 (Nat.zero_le _); exact this
end Go.Proofs.Ytpipcmbfdcbboaa
