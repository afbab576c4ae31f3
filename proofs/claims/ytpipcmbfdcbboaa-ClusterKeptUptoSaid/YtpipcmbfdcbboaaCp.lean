/- Plain law: a boundary of clusters as one automaton over the whole list, the same as the rules say that look back; the list of the boundaries. No condition. -/
import Derived.Test.YtpipcmbfdcbboaaCd
namespace Go.Proofs.Ytpipcmbfdcbboaa
/-- what the class says of the part of a conjunct -/
def Parts (f : Nat → Int) : Prop := ∀ k, (conjF (f k) = 2 ∨ conjF (f k) = 3 → classF (f k) = 4 ∨ classF (f k) = 5) ∧ (conjF (f k) = 1 → classF (f k) = 0)
/-- what is known behind the atom k -/
def stG (f : Nat → Int) : Nat → Sc
  | 0 => beginF (f 0)
  | k + 1 => if joinsB (stG f k) (classF (f (k + 1))) (conjF (f (k + 1))) then noteF (stG f k) (classF (f (k + 1))) (conjF (f (k + 1))) else beginF (f (k + 1))
def brkB (f : Nat → Int) : Nat → Bool
  | 0 => true
  | k + 1 => !joinsB (stG f k) (classF (f (k + 1))) (conjF (f (k + 1)))
theorem brk_succ (f : Nat → Int) (k : Nat) : brkB f (k + 1) = !joinsB (stG f k) (classF (f (k + 1))) (conjF (f (k + 1))) := rfl
theorem stG_succ (f : Nat → Int) (k : Nat) : stG f (k + 1) = if joinsB (stG f k) (classF (f (k + 1))) (conjF (f (k + 1))) then noteF (stG f k) (classF (f (k + 1))) (conjF (f (k + 1))) else beginF (f (k + 1)) := rfl
theorem stG_brk {f : Nat → Int} {k : Nat} (h : brkB f k = true) : stG f k = beginF (f k) := by
  cases k with
  | zero => rfl
  | succ k =>
    unfold brkB at h
    unfold stG
    rw [if_neg (by simpa using h)]
/-- rules that look back -/
def linkR (f : Nat → Int) : Nat → Bool → Bool
  | 0, _ => false
  | i + 1, b => if conjF (f i) = 3 then linkR f i true else if conjF (f i) = 2 then linkR f i b else b && decide (conjF (f i) = 1)
def joinR (f : Nat → Int) : Nat → Bool
  | 0 => false
  | i + 1 => if classF (f i) = 4 then joinR f i else decide (classF (f i) = 14)
def flagR (f : Nat → Int) : Nat → Nat
  | 0 => 0
  | i + 1 => if classF (f i) = 6 then flagR f i + 1 else 0
structure StOk (f : Nat → Int) (k : Nat) (s : Sc) : Prop where
  last : s.last = classF (f k)
  fl0 : 0 ≤ s.flags
  fl : s.flags % 2 = ((flagR f (k + 1) : Nat) : Int) % 2
  p0 : 0 ≤ s.pict ∧ s.pict ≤ 2
  p1 : s.pict = 1 ↔ joinR f (k + 1) = true
  p2 : s.pict = 2 ↔ classF (f k) = 5 ∧ joinR f k = true
  c0 : 0 ≤ s.conj ∧ s.conj ≤ 2
  c1 : 1 ≤ s.conj ↔ linkR f (k + 1) true = true
  c2 : s.conj = 2 ↔ linkR f (k + 1) false = true
theorem flagR_not {f : Nat → Int} {k : Nat} (h : classF (f k) ≠ 6) : flagR f (k + 1) = 0 := by unfold flagR; rw [if_neg h]
theorem joinR_not {f : Nat → Int} {k : Nat} (h : classF (f k) ≠ 4) (h2 : classF (f k) ≠ 14) : joinR f (k + 1) = false := by
  unfold joinR; rw [if_neg h]; exact decide_eq_false h2
theorem linkR_not {f : Nat → Int} {k : Nat} (b : Bool) (h : conjF (f k) ≠ 3) (h2 : conjF (f k) ≠ 2) (h1 : conjF (f k) ≠ 1) : linkR f (k + 1) b = false := by
  unfold linkR; rw [if_neg h, if_neg h2, decide_eq_false h1, Bool.and_false]
theorem stOk_begin {f : Nat → Int} {k : Nat} (hfl : classF (f k) = 6 → flagR f k % 2 = 0) (hp : classF (f k) = 4 ∨ classF (f k) = 5 → joinR f k = false)
    (hc : conjF (f k) = 2 ∨ conjF (f k) = 3 → linkR f k true = false ∧ linkR f k false = false) : StOk f k (beginF (f k)) := by
  have e1 : flagR f (k + 1) = if classF (f k) = 6 then flagR f k + 1 else 0 := rfl
  have e2 : joinR f (k + 1) = if classF (f k) = 4 then joinR f k else decide (classF (f k) = 14) := rfl
  have e3 : ∀ b, linkR f (k + 1) b = if conjF (f k) = 3 then linkR f k true else if conjF (f k) = 2 then linkR f k b else b && decide (conjF (f k) = 1) := fun _ => rfl
  constructor
  · rfl
  · unfold beginF noteF; dsimp only; split <;> omega
  · rw [e1]; unfold beginF noteF; dsimp only
    split
    · rename_i h; have := hfl h; omega
    · rfl
  · unfold beginF noteF; dsimp only; simp only [show ¬ ((0 : Int) = 1) by omega, false_and, if_false]; split <;> omega
  · rw [e2]; unfold beginF noteF; dsimp only; simp only [show ¬ ((0 : Int) = 1) by omega, false_and, if_false]
    by_cases h4 : classF (f k) = 4
    · rw [if_pos h4, hp (.inl h4), if_neg (by omega)]; simp
    · rw [if_neg h4]; by_cases h14 : classF (f k) = 14 <;> simp [h14]
  · unfold beginF noteF; dsimp only; simp only [show ¬ ((0 : Int) = 1) by omega, false_and, if_false]
    constructor
    · intro h; split at h <;> omega
    · rintro ⟨h, h'⟩; rw [hp (.inr h)] at h'; exact absurd h' (by decide)
  · unfold beginF noteF; dsimp only; simp only [show ¬ ((0 : Int) < 0) by omega, false_and, if_false]; split <;> omega
  · rw [e3]; unfold beginF noteF; dsimp only; simp only [show ¬ ((0 : Int) < 0) by omega, false_and, if_false]
    by_cases h1 : conjF (f k) = 1
    · simp [h1]
    · rw [if_neg h1]
      by_cases h3 : conjF (f k) = 3
      · rw [if_pos h3, (hc (.inr h3)).1]; simp
      · rw [if_neg h3]
        by_cases h2 : conjF (f k) = 2
        · rw [if_pos h2, (hc (.inl h2)).1]; simp
        · simp [h1, h2]
  · rw [e3]; unfold beginF noteF; dsimp only; simp only [show ¬ ((0 : Int) < 0) by omega, false_and, if_false]
    by_cases h1 : conjF (f k) = 1
    · simp [h1]
    · rw [if_neg h1]
      by_cases h3 : conjF (f k) = 3
      · rw [if_pos h3, (hc (.inr h3)).1]; simp
      · rw [if_neg h3]
        by_cases h2 : conjF (f k) = 2
        · rw [if_pos h2, (hc (.inl h2)).2]; simp
        · simp [h2]
theorem stOk_note {f : Nat → Int} {k : Nat} {s : Sc} (h : StOk f k s) : StOk f (k + 1) (noteF s (classF (f (k + 1))) (conjF (f (k + 1)))) := by
  have e1 : flagR f (k + 1 + 1) = if classF (f (k + 1)) = 6 then flagR f (k + 1) + 1 else 0 := rfl
  have e2 : joinR f (k + 1 + 1) = if classF (f (k + 1)) = 4 then joinR f (k + 1) else decide (classF (f (k + 1)) = 14) := rfl
  have e3 : ∀ b, linkR f (k + 1 + 1) b = if conjF (f (k + 1)) = 3 then linkR f (k + 1) true else if conjF (f (k + 1)) = 2 then linkR f (k + 1) b else b && decide (conjF (f (k + 1)) = 1) := fun _ => rfl
  obtain ⟨g1, g2, g3, g4, g5, g6, g7, g8, g9⟩ := h
  have e25 : joinR f (k + 1) = true → classF (f k) = 5 → False := by
    intro hj h5
    unfold joinR at hj
    rw [if_neg (by omega)] at hj
    have := of_decide_eq_true hj
    omega
  constructor
  · rfl
  · unfold noteF; dsimp only; split <;> omega
  · rw [e1]; unfold noteF; dsimp only; split <;> omega
  · unfold noteF; dsimp only; repeat' split
    all_goals omega
  · rw [e2]; unfold noteF; dsimp only
    by_cases h14 : classF (f (k + 1)) = 14
    · simp [h14]
    · rw [if_neg h14]
      by_cases h4 : classF (f (k + 1)) = 4
      · rw [if_pos h4, if_neg (by omega), ← g5]
        by_cases hp1 : s.pict = 1
        · rw [if_pos ⟨hp1, h4⟩]
        · rw [if_neg (by omega)]; simp [hp1]
      · rw [if_neg h4]
        simp only [h14, decide_false]
        constructor
        · intro hh; repeat' split at hh
          all_goals omega
        · intro hh; exact absurd hh (by decide)
  · unfold noteF; dsimp only; rw [← g5]
    by_cases h14 : classF (f (k + 1)) = 14
    · rw [if_pos h14]; omega
    · rw [if_neg h14]
      constructor
      · intro hh; repeat' split at hh
        all_goals omega
      · rintro ⟨h5, hp⟩; rw [if_pos ⟨hp, h5⟩]
  · unfold noteF; dsimp only; repeat' split
    all_goals omega
  · rw [e3]; unfold noteF; dsimp only
    by_cases h1 : conjF (f (k + 1)) = 1
    · simp [h1]
    · rw [if_neg h1]
      by_cases h3 : conjF (f (k + 1)) = 3
      · rw [if_pos h3, ← g8]
        by_cases hs : 0 < s.conj
        · rw [if_pos ⟨hs, h3⟩]; omega
        · rw [if_neg (by omega), if_neg (by omega)]; omega
      · rw [if_neg h3, if_neg (by omega)]
        by_cases h2 : conjF (f (k + 1)) = 2
        · rw [if_pos h2, ← g8]
          by_cases hs : 0 < s.conj
          · rw [if_pos ⟨hs, h2⟩]
          · rw [if_neg (by omega)]; omega
        · rw [if_neg (by omega), if_neg h2]; simp [h1]
  · rw [e3]; unfold noteF; dsimp only
    by_cases h1 : conjF (f (k + 1)) = 1
    · simp [h1]
    · rw [if_neg h1]
      by_cases h3 : conjF (f (k + 1)) = 3
      · rw [if_pos h3, ← g8]
        by_cases hs : 0 < s.conj
        · rw [if_pos ⟨hs, h3⟩]; omega
        · rw [if_neg (by omega), if_neg (by omega)]; omega
      · rw [if_neg h3, if_neg (by omega)]
        by_cases h2 : conjF (f (k + 1)) = 2
        · rw [if_pos h2, ← g9]
          by_cases hs : 0 < s.conj
          · rw [if_pos ⟨hs, h2⟩]
          · rw [if_neg (by omega)]; omega
        · rw [if_neg (by omega), if_neg h2]; simp
/-- what joinsB says where the classes do not decide -/
theorem joins_no {s : Sc} {c p : Int} (h : joinsB s c p = false) : ¬ (s.last = 1 ∧ c = 2) ∧ ((s.last = 1 ∨ s.last = 2 ∨ s.last = 3 ∨ c = 1 ∨ c = 2 ∨ c = 3) ∨
    c ≠ 4 ∧ c ≠ 5 ∧ (c = 6 → s.flags % 2 = 0 ∨ s.flags % 2 ≠ 1)) := by
  unfold joinsB apartB at h
  simp only [decide_eq_true_eq] at h
  repeat' split at h
  all_goals (first | (exact absurd h (by decide)) | skip)
  all_goals (refine ⟨by assumption, ?_⟩)
  · omega
  · right; omega
  · simp at h; right; omega
  · right; omega
theorem stOk_all {f : Nat → Int} (hp : Parts f) (k : Nat) : StOk f k (stG f k) := by
  induction k with
  | zero =>
    refine stOk_begin ?_ ?_ ?_
    · intro _; rfl
    · intro _; rfl
    · intro _; exact ⟨rfl, rfl⟩
  | succ k ih =>
    unfold stG
    cases hj : joinsB (stG f k) (classF (f (k + 1))) (conjF (f (k + 1)))
    · rw [if_neg (by decide)]
      obtain ⟨_, h2⟩ := joins_no hj
      have hl := ih.last
      rw [hl] at h2
      have hpk := hp k
      have hpk1 := hp (k + 1)
      refine stOk_begin ?_ ?_ ?_
      · intro h6
        by_cases hk6 : classF (f k) = 6
        · have := ih.fl; omega
        · rw [flagR_not hk6]
      · intro h45
        exact joinR_not (by omega) (by omega)
      · intro h23
        have := hpk1.1 h23
        exact ⟨linkR_not _ (by omega) (by omega) (by omega), linkR_not _ (by omega) (by omega) (by omega)⟩
    · rw [if_pos rfl]
      exact stOk_note ih
/-- the document's answer at an offset within -/
def refIn (f : Nat → Int) (k : Nat) : Bool :=
  if classF (f (k - 1)) = 1 ∧ classF (f k) = 2 then false
  else if apartB (classF (f (k - 1))) = true ∨ apartB (classF (f k)) = true then true
  else if hangulB (classF (f (k - 1))) (classF (f k)) = true ∨ classF (f k) = 4 ∨ classF (f k) = 5 ∨ classF (f k) = 8 ∨ classF (f (k - 1)) = 7 then false
  else !(decide (conjF (f k) = 1) && linkR f k false) && !(decide (classF (f k) = 14 ∧ classF (f (k - 1)) = 5) && joinR f (k - 1)) && !(decide (classF (f k) = 6 ∧ flagR f k % 2 = 1))
theorem ref_brk {f : Nat → Int} (hp : Parts f) (k : Nat) : refIn f (k + 1) = brkB f (k + 1) := by
  have h := stOk_all hp k
  obtain ⟨g1, g2, g3, g4, g5, g6, g7, g8, g9⟩ := h
  rw [brk_succ]
  unfold refIn joinsB
  rw [g1]
  show (if classF (f k) = 1 ∧ _ then _ else _) = _
  by_cases h12 : classF (f k) = 1 ∧ classF (f (k + 1)) = 2
  · rw [if_pos h12, if_pos h12]; rfl
  · rw [if_neg h12, if_neg h12]
    show (if apartB (classF (f k)) = true ∨ _ then _ else _) = _
    by_cases ha : apartB (classF (f k)) = true ∨ apartB (classF (f (k + 1))) = true
    · rw [if_pos ha, if_pos ha]; rfl
    · rw [if_neg ha, if_neg ha]
      show (if hangulB (classF (f k)) _ = true ∨ _ ∨ _ ∨ _ ∨ classF (f k) = 7 then _ else _) = _
      by_cases hr : classF (f (k + 1)) = 4 ∨ classF (f (k + 1)) = 5 ∨ classF (f (k + 1)) = 8 ∨ classF (f k) = 7
      · rw [if_pos (.inr hr), if_pos hr]; rfl
      · rw [if_neg hr]
        by_cases hh : hangulB (classF (f k)) (classF (f (k + 1))) = true
        · rw [if_pos (.inl hh), if_pos hh]; rfl
        · rw [if_neg (by intro h; exact h.elim hh hr), if_neg hh]
          show (!(decide (conjF (f (k + 1)) = 1) && linkR f (k + 1) false) && !(decide (classF (f (k + 1)) = 14 ∧ classF (f k) = 5) && joinR f k) && _) = _
          by_cases hc : conjF (f (k + 1)) = 1 ∧ (stG f k).conj = 2
          · rw [if_pos hc, g9.1 hc.2, hc.1]; simp
          · rw [if_neg hc]
            have e1 : (decide (conjF (f (k + 1)) = 1) && linkR f (k + 1) false) = false := by
              rw [Bool.and_eq_false_iff]
              by_cases h1 : conjF (f (k + 1)) = 1
              · right
                cases hl : linkR f (k + 1) false
                · rfl
                · exact absurd ⟨h1, g9.2 hl⟩ hc
              · left; exact decide_eq_false h1
            rw [e1]
            by_cases h14 : classF (f (k + 1)) = 14
            · rw [if_pos h14, h14]
              by_cases h5 : classF (f k) = 5 ∧ joinR f k = true
              · rw [g6.2 h5, h5.1, h5.2]; rfl
              · have : ((stG f k).pict == 2) = false := by rw [beq_eq_false_iff_ne]; exact fun h => h5 (g6.1 h)
                rw [this]
                by_cases h5' : classF (f k) = 5
                · have : joinR f k = false := by
                    cases hj : joinR f k
                    · rfl
                    · exact absurd ⟨h5', hj⟩ h5
                  rw [this]; simp
                · simp [h5']
            · rw [if_neg h14]
              by_cases h6 : classF (f (k + 1)) = 6
              · rw [if_pos h6, h6]
                have : ((stG f k).flags % 2 == 1) = decide (flagR f (k + 1) % 2 = 1) := by
                  rw [Bool.eq_iff_iff]; simp only [beq_iff_eq, decide_eq_true_eq]; omega
                rw [this]; simp
              · rw [if_neg h6]; simp [h14, h6]
/-- the boundaries above k, of m atoms more -/
def above (f : Nat → Int) (m k : Nat) : List Nat := (List.range' (k + 1) m).filter (brkB f) ++ [k + 1 + m]
theorem ext_above (f : Nat → Int) : ∀ m k, above f m k = extK f m (stG f k) (k + 1) :: (if extK f m (stG f k) (k + 1) < k + 1 + m then above f (k + 1 + m - (extK f m (stG f k) (k + 1) + 1)) (extK f m (stG f k) (k + 1)) else []) ∧
    (extK f m (stG f k) (k + 1) < k + 1 + m → brkB f (extK f m (stG f k) (k + 1)) = true) := by
  intro m
  induction m with
  | zero => intro k; unfold extK above; simp
  | succ m ih =>
    intro k
    have hab : above f (m + 1) k = (if brkB f (k + 1) = true then [k + 1] else []) ++ above f m (k + 1) := by
      unfold above
      rw [List.range'_succ, List.filter_cons]
      rw [show k + 1 + 1 + m = k + 1 + (m + 1) from by omega]
      split <;> rfl
    unfold extK
    cases hj : joinsB (stG f k) (classF (f (k + 1))) (conjF (f (k + 1)))
    · rw [if_neg (by decide)]
      have hb : brkB f (k + 1) = true := by rw [brk_succ, hj]; rfl
      refine ⟨?_, fun _ => hb⟩
      rw [hab, if_pos hb, if_pos (by omega), show k + 1 + (m + 1) - (k + 1 + 1) = m from by omega]; rfl
    · rw [if_pos rfl]
      have hb : brkB f (k + 1) = false := by rw [brk_succ, hj]; rfl
      have hst : takeF (stG f k) (f (k + 1)) = stG f (k + 1) := by
        unfold takeF; rw [hj, if_pos rfl]
        rw [stG_succ, hj, if_pos rfl]
      rw [hst, hab, if_neg (by rw [hb]; decide), List.nil_append]
      have := ih (k + 1)
      rw [show k + 1 + 1 + m = k + 1 + (m + 1) from by omega] at this
      exact this
theorem bounds_above (f : Nat → Int) (n : Nat) : ∀ g i, n - i ≤ g → i < n → brkB f i = true → bounds f n i = above f (n - (i + 1)) i := by
  intro g
  induction g with
  | zero => intro i h1 h2; omega
  | succ g ih =>
    intro i h1 h2 hb
    have h := ext_above f (n - (i + 1)) i
    rw [stG_brk hb, show i + 1 + (n - (i + 1)) = n from by omega] at h
    have he : extK f (n - (i + 1)) (beginF (f i)) (i + 1) = nextB f n i := rfl
    rw [he] at h
    have hbd := nextB_bd f n i h2
    rw [bounds_step f n i h2, h.1]
    congr 1
    by_cases hlt : nextB f n i < n
    · rw [if_pos hlt]; exact ih _ (by omega) hlt (h.2 hlt)
    · rw [if_neg hlt]; exact bounds_end f n _ (by omega)
/-- is a boundary at k, of n atoms -/
def isB (f : Nat → Int) (n k : Nat) : Bool := decide (k = 0) || decide (k = n) || decide (k < n) && brkB f k
/-- all boundaries -/
def allB (f : Nat → Int) (n : Nat) : List Nat := (List.range (n + 1)).filter (isB f n)
theorem allB_bounds (f : Nat → Int) (n : Nat) : allB f n = 0 :: bounds f n 0 := by
  unfold allB
  rw [List.range_eq_range', List.range'_succ, List.filter_cons, if_pos (by rfl)]
  congr 1
  cases n with
  | zero => rfl
  | succ n =>
    rw [bounds_above f (n + 1) (n + 1) 0 (by omega) (by omega) rfl]
    unfold above
    rw [List.range'_concat, List.filter_append]
    congr 1
    · apply List.filter_congr
      intro k hk
      rw [List.mem_range'_1] at hk
      unfold isB
      rw [decide_eq_false (by omega), decide_eq_false (by omega), decide_eq_true (by omega)]
      simp
    · rw [List.filter_cons, if_pos (by unfold isB; simp; omega)]
      simp
end Go.Proofs.Ytpipcmbfdcbboaa
