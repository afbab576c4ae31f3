/- Plain law: what the calls of package cluster come to, out of the list of boundaries. No condition. -/
import Derived.Test.YtpipcmbfdcbboaaCp
namespace Go.Proofs.Ytpipcmbfdcbboaa
open Go.RowKit
theorem isB_zero (f : Nat → Int) (n : Nat) : isB f n 0 = true := rfl
theorem isB_end (f : Nat → Int) (n : Nat) : isB f n n = true := by unfold isB; simp
theorem isB_brk {f : Nat → Int} {n k : Nat} (h : k < n) : isB f n k = brkB f k := by
  unfold isB
  cases k with
  | zero => rfl
  | succ k => rw [decide_eq_false (by omega), decide_eq_false (by omega), decide_eq_true h]; simp
theorem isB_out {f : Nat → Int} {n k : Nat} (h : n < k) : isB f n k = false := by
  unfold isB; rw [decide_eq_false (by omega), decide_eq_false (by omega), decide_eq_false (by omega)]; rfl
theorem bounds_filter {f : Nat → Int} {n i : Nat} (hi : i ≤ n) (hb : isB f n i = true) : bounds f n i = (List.range' (i + 1) (n - i)).filter (isB f n) := by
  by_cases h : i < n
  · rw [isB_brk h] at hb
    rw [bounds_above f n n i (by omega) h hb]
    unfold above
    rw [show n - i = (n - (i + 1)) + 1 from by omega, List.range'_concat, List.filter_append]
    congr 1
    · apply List.filter_congr
      intro k hk
      rw [List.mem_range'_1] at hk
      exact (isB_brk (by omega)).symm
    · rw [List.filter_cons, if_pos]
      · simp
      · rw [show i + 1 + 1 * (n - (i + 1)) = n from by omega]; exact isB_end f n
  · rw [show n - i = 0 from by omega, bounds_end f n i (by omega)]; rfl
theorem bounds_mem {f : Nat → Int} {n i : Nat} (hi : i ≤ n) (hb : isB f n i = true) (k : Nat) : k ∈ bounds f n i ↔ i < k ∧ k ≤ n ∧ isB f n k = true := by
  rw [bounds_filter hi hb, List.mem_filter, List.mem_range'_1]
  constructor
  · rintro ⟨h, h2⟩; exact ⟨by omega, by omega, h2⟩
  · rintro ⟨h, h2, h3⟩; exact ⟨by omega, h3⟩
theorem bounds_sorted {f : Nat → Int} {n i : Nat} (hi : i ≤ n) (hb : isB f n i = true) : (bounds f n i).Pairwise (· < ·) := by
  rw [bounds_filter hi hb]; exact List.Pairwise.filter _ List.pairwise_lt_range'
theorem bounds_length (f : Nat → Int) (n i : Nat) (hi : i ≤ n) (hb : isB f n i = true) : (bounds f n i).length ≤ n - i := by
  rw [bounds_filter hi hb]; exact Nat.le_trans (List.length_filter_le _ _) (by simp)
/-- the greatest boundary up to k -/
def snapN (f : Nat → Int) (n : Nat) : Nat → Nat
  | 0 => 0
  | k + 1 => if isB f n (k + 1) then k + 1 else snapN f n k
theorem snapN_spec (f : Nat → Int) (n : Nat) : ∀ k, snapN f n k ≤ k ∧ isB f n (snapN f n k) = true ∧ ∀ j, j ≤ k → isB f n j = true → j ≤ snapN f n k := by
  intro k
  induction k with
  | zero => exact ⟨Nat.le_refl _, rfl, fun j h _ => h⟩
  | succ k ih =>
    unfold snapN
    split
    · rename_i h; exact ⟨Nat.le_refl _, h, fun j hj _ => hj⟩
    · rename_i h
      refine ⟨by omega, ih.2.1, fun j hj hb => ?_⟩
      by_cases e : j = k + 1
      · subst e; exact absurd hb h
      · exact ih.2.2 j (by omega) hb
theorem snapN_eq {f : Nat → Int} {n k r : Nat} (h1 : r ≤ k) (h2 : isB f n r = true) (h3 : ∀ j, j ≤ k → isB f n j = true → j ≤ r) : snapN f n k = r := by
  have := snapN_spec f n k
  have a := this.2.2 r h1 h2
  have b := h3 _ this.1 this.2.1
  omega
theorem snapN_self {f : Nat → Int} {n k : Nat} : snapN f n k = k ↔ isB f n k = true := by
  constructor
  · intro h; have := (snapN_spec f n k).2.1; rw [h] at this; exact this
  · intro h; exact snapN_eq (Nat.le_refl _) h (fun j hj _ => hj)
def snapF (f : Nat → Int) (n : Nat) (a : Int) : Nat := snapN f n (min a.toNat n)
/-- the least boundary above k -/
def nextN (f : Nat → Int) (n k : Nat) : Nat := ((List.range' (k + 1) (n - k)).find? (isB f n)).getD n
def nextF (f : Nat → Int) (n : Nat) (a : Int) : Nat := if a < 0 then 0 else nextN f n (min a.toNat n)
def prevF (f : Nat → Int) (n : Nat) (a : Int) : Nat := if a ≤ 0 then 0 else if (n : Int) < a then n else snapF f n (a - 1)
def colF (f : Nat → Int) (n : Nat) (a : Int) : Nat := ((bounds f n 0).filter fun (k : Nat) => decide ((k : Int) ≤ a)).length
def offF (f : Nat → Int) (n : Nat) (c : Int) : Nat := (allB f n).getD (min c.toNat (bounds f n 0).length) 0
def isF (f : Nat → Int) (n : Nat) (a : Int) : Bool := decide (0 ≤ a) && decide (a ≤ n) && isB f n a.toNat
/-- callers that are told the boundaries -/
def countY (n : Int) (_ : Nat) : Int × Bool := (wrap64 (n + 1), true)
def columnY (a n : Int) (k : Nat) : Int × Bool := (if (k : Int) ≤ a then wrap64 (n + 1) else n, decide ((k : Int) < a))
def offsetY (c : Int) (s : Int × Nat) (k : Nat) : (Int × Nat) × Bool := (if s.1 < c then (wrap64 (s.1 + 1), k) else s, decide ((if s.1 < c then wrap64 (s.1 + 1) else s.1) < c))
def nextY (a : Int) (r : Nat) (k : Nat) : Nat × Bool := (if a < k then k else r, decide ((k : Int) ≤ a))
def snapY (a : Int) (r : Nat) (k : Nat) : Nat × Bool := (if (k : Int) ≤ a then k else r, decide ((k : Int) < a))
theorem wrap_small {n : Int} (h0 : 0 ≤ n) (h : n < 9223372036854775808) : wrap64 n = n := by unfold wrap64; omega
theorem runY_cons {σ : Type} (Y : σ → Nat → σ × Bool) (s : σ) (k : Nat) (r : List Nat) : runY Y s (k :: r) = if (Y s k).2 then runY Y (Y s k).1 r else (Y s k).1 := rfl
theorem count_run : ∀ (l : List Nat) (n : Int), 0 ≤ n → n + l.length < 9223372036854775808 → runY countY n l = n + l.length := by
  intro l
  induction l with
  | nil => intro n _ _; simp [runY]
  | cons k r ih =>
    intro n h0 h
    simp only [List.length_cons] at h ⊢
    have hw := wrap_small (n := n + 1) (by omega) (by omega)
    have e : countY n k = (n + 1, true) := by unfold countY; rw [hw]
    rw [runY_cons, e, if_pos rfl, ih (n + 1) (by omega) (by omega)]
    omega
theorem column_run (a : Int) : ∀ (l : List Nat) (n : Int), l.Pairwise (· < ·) → 0 ≤ n → n + l.length < 9223372036854775808 → runY (columnY a) n l = n + (l.filter fun (k : Nat) => decide ((k : Int) ≤ a)).length := by
  intro l
  induction l with
  | nil => intro n _ _ _; simp [runY]
  | cons k r ih =>
    intro n hs h0 h
    simp only [List.length_cons] at h
    rw [List.pairwise_cons] at hs
    have hw := wrap_small (n := n + 1) (by omega) (by omega)
    have e : columnY a n k = (if (k : Int) ≤ a then n + 1 else n, decide ((k : Int) < a)) := by unfold columnY; rw [hw]
    rw [runY_cons, e]
    by_cases h1 : (k : Int) < a
    · rw [if_pos (decide_eq_true h1), if_pos (by omega), ih (n + 1) hs.2 (by omega) (by omega), List.filter_cons, if_pos (by simp; omega), List.length_cons]
      omega
    · rw [if_neg (by simpa using h1)]
      have hr : (r.filter fun (k : Nat) => decide ((k : Int) ≤ a)) = [] := by
        rw [List.filter_eq_nil_iff]
        intro j hj
        have := hs.1 j hj
        simp; omega
      rw [List.filter_cons, hr]
      by_cases h2 : (k : Int) ≤ a
      · rw [if_pos h2, if_pos (by simpa using h2)]; simp
      · rw [if_neg h2, if_neg (by simpa using h2)]; simp
theorem offset_run (c : Int) : ∀ (l : List Nat) (n : Int) (r : Nat), 0 ≤ n → n + l.length < 9223372036854775808 → (runY (offsetY c) (n, r) l).2 = (r :: l).getD (min (c - n).toNat l.length) 0 := by
  intro l
  induction l with
  | nil => intro n r _ _; simp [runY]
  | cons k l ih =>
    intro n r h0 h
    simp only [List.length_cons] at h ⊢
    have hw := wrap_small (n := n + 1) (by omega) (by omega)
    have e : offsetY c (n, r) k = (if n < c then (n + 1, k) else (n, r), decide ((if n < c then n + 1 else n) < c)) := by unfold offsetY; rw [hw]
    rw [runY_cons, e]
    by_cases h1 : n < c
    · rw [if_pos h1, if_pos h1]
      by_cases h2 : n + 1 < c
      · rw [if_pos (decide_eq_true h2), ih (n + 1) k (by omega) (by omega)]
        rw [show min (c - n).toNat (l.length + 1) = min (c - (n + 1)).toNat l.length + 1 from by omega]
        rfl
      · rw [if_neg (by simpa using h2), show min (c - n).toNat (l.length + 1) = 1 from by omega]
        rfl
    · rw [if_neg h1, if_neg h1, if_neg (by simpa using h1), show min (c - n).toNat (l.length + 1) = 0 from by omega]
      rfl
theorem next_run (a : Int) : ∀ (l : List Nat) (r : Nat), runY (nextY a) r l = (l.find? fun (k : Nat) => decide (a < (k : Int))).getD r := by
  intro l
  induction l with
  | nil => intro r; rfl
  | cons k l ih =>
    intro r
    show (if (nextY a r k).2 then runY (nextY a) (nextY a r k).1 l else (nextY a r k).1) = _
    unfold nextY
    dsimp only
    by_cases h1 : a < k
    · rw [if_pos h1, if_neg (by rw [decide_eq_false (by omega)]; decide), List.find?_cons_of_pos (by simpa using h1)]; rfl
    · rw [if_neg h1, if_pos (decide_eq_true (by omega)), List.find?_cons_of_neg (by simpa using h1)]
      exact ih r
theorem snap_run (a : Int) : ∀ (l : List Nat) (r : Nat), l.Pairwise (· < ·) → (∀ k ∈ l, r < k) → (r : Int) ≤ a → (runY (snapY a) r l = r ∨ runY (snapY a) r l ∈ l) ∧ ((runY (snapY a) r l : Nat) : Int) ≤ a ∧ ∀ k ∈ l, (k : Int) ≤ a → k ≤ runY (snapY a) r l := by
  intro l
  induction l with
  | nil => intro r _ _ h; exact ⟨.inl rfl, h, fun k hk => absurd hk (by simp)⟩
  | cons k l ih =>
    intro r hs hr ha
    rw [List.pairwise_cons] at hs
    have e : runY (snapY a) r (k :: l) = if (k : Int) < a then runY (snapY a) k l else if (k : Int) ≤ a then k else r := by
      show (if (snapY a r k).2 then runY (snapY a) (snapY a r k).1 l else (snapY a r k).1) = _
      unfold snapY
      dsimp only
      by_cases h1 : (k : Int) < a
      · rw [if_pos (decide_eq_true h1), if_pos h1, if_pos (by omega)]
      · rw [if_neg (by simpa using h1), if_neg h1]
    rw [e]
    by_cases h1 : (k : Int) < a
    · rw [if_pos h1]
      obtain ⟨i1, i2, i3⟩ := ih k hs.2 hs.1 (by omega)
      refine ⟨.inr ?_, i2, fun j hj hja => ?_⟩
      · rcases i1 with h | h
        · rw [h]; simp
        · exact List.mem_cons_of_mem _ h
      · rcases List.mem_cons.1 hj with h | h
        · subst h
          rcases i1 with h | h
          · omega
          · have := hs.1 _ h; omega
        · exact i3 j h hja
    · rw [if_neg h1]
      by_cases h2 : (k : Int) ≤ a
      · rw [if_pos h2]
        refine ⟨.inr (by simp), h2, fun j hj hja => ?_⟩
        rcases List.mem_cons.1 hj with h | h
        · omega
        · have := hs.1 j h; omega
      · rw [if_neg h2]
        refine ⟨.inl rfl, ha, fun j hj hja => ?_⟩
        rcases List.mem_cons.1 hj with h | h
        · omega
        · have := hs.1 j h; omega
theorem snap_whole {f : Nat → Int} {n i a : Nat} (hi : i ≤ a) (ha : a ≤ n) (hb : isB f n i = true) : runY (snapY a) i (bounds f n i) = snapN f n a := by
  obtain ⟨h1, h2, h3⟩ := snap_run a (bounds f n i) i (bounds_sorted (by omega) hb) (fun k hk => ((bounds_mem (by omega) hb k).1 hk).1) (by omega)
  symm
  refine snapN_eq (by omega) ?_ ?_
  · rcases h1 with h | h
    · rw [h]; exact hb
    · exact ((bounds_mem (by omega) hb _).1 h).2.2
  · intro j hj hbj
    by_cases hij : i < j
    · exact h3 j ((bounds_mem (by omega) hb j).2 ⟨hij, by omega, hbj⟩) (by omega)
    · rcases h1 with h | h
      · omega
      · have := ((bounds_mem (by omega) hb _).1 h).1; omega
theorem find_range (p : Nat → Bool) : ∀ (m i j : Nat), (∀ k, i ≤ k → k < j → p k = false) → i ≤ j → j ≤ i + m → ((List.range' i m).find? p) = (List.range' j (i + m - j)).find? p := by
  intro m
  induction m with
  | zero => intro i j h1 h2 h3; rw [show i + 0 - j = 0 from by omega]; rfl
  | succ m ih =>
    intro i j h1 h2 h3
    by_cases e : i = j
    · subst e; rw [show i + (m + 1) - i = m + 1 from by omega]
    · rw [List.range'_succ, List.find?_cons_of_neg (by rw [h1 i (Nat.le_refl _) (by omega)]; decide), ih (i + 1) j (fun k hk => h1 k (by omega)) (by omega) (by omega)]
      rw [show i + 1 + m - j = i + (m + 1) - j from by omega]
theorem next_whole {f : Nat → Int} {n i a : Nat} (hi : i ≤ a) (ha : a ≤ n) (hb : isB f n i = true) : runY (nextY a) n (bounds f n i) = nextN f n a := by
  rw [next_run, bounds_filter (by omega) hb]
  unfold nextN
  congr 1
  rw [List.find?_filter]
  rw [find_range _ (n - i) (i + 1) (a + 1) (fun k hk hk' => by simp; intro _; omega) (by omega) (by omega)]
  rw [show i + 1 + (n - i) - (a + 1) = n - a from by omega]
  have key : ∀ m j, a < j → (List.range' j m).find? (fun k => isB f n k && decide ((a : Int) < (k : Int))) = (List.range' j m).find? (isB f n) := by
    intro m
    induction m with
    | zero => intro j _; rfl
    | succ m ih =>
      intro j hj
      rw [List.range'_succ, List.find?_cons, List.find?_cons, ih (j + 1) (by omega), decide_eq_true (by omega), Bool.and_true]
  first
    | exact key _ _ (by omega)
    | (rw [← key _ _ (by omega)]; congr 1; funext k; simp [Bool.and_comm])
/-- an offset whose two neighbours make a boundary certain -/
theorem sure_brk {f : Nat → Int} {n k : Nat} (hk : 0 < k) (hn : k < n) (h : apartB (classF (f (k - 1))) = true ∨ apartB (classF (f k)) = true) (h2 : ¬ (classF (f (k - 1)) = 1 ∧ classF (f k) = 2)) : isB f n k = true := by
  rw [isB_brk hn]
  obtain ⟨j, rfl⟩ : ∃ j, k = j + 1 := ⟨k - 1, by omega⟩
  rw [brk_succ]
  rw [show j + 1 - 1 = j from rfl] at h h2
  have hl : (stG f j).last = classF (f j) := by
    cases j with
    | zero => rfl
    | succ j => rw [stG_succ]; split <;> rfl
  unfold joinsB
  rw [hl, if_neg h2, if_pos h]; rfl
end Go.Proofs.Ytpipcmbfdcbboaa
