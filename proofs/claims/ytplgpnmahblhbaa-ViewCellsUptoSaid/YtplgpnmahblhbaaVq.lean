/- Plain law: 64-bit floats that are not negative, as whole multiples of 2^-1074: rounding is monotone and exact at what a float holds; the sum, the product, the quotient of whole numbers, the order, the cut to an int. No condition beyond those of each theorem. -/
import Derived.Laws.FloatArith
namespace Go.Proofs.Ytplgpnmahblhbaa
/-- a number of halves cut to the nearest, the even one between two -/
def cF (n G : Nat) : Nat := n / G + (if G < 2 * (n % G) ∨ (G = 2 * (n % G) ∧ n / G % 2 = 1) then 1 else 0)
theorem cut_cF (neg : Bool) (n drop : Nat) : Ieee.Toward.even.cut neg n drop = cF n (2 ^ drop) := by
  unfold Ieee.Toward.cut cF
  simp only [Nat.one_shiftLeft]
  by_cases h : drop ≤ n.log2 + 2
  · rw [Nat.min_eq_left h]
    congr 1
    by_cases h1 : 2 ^ drop < 2 * (n % 2 ^ drop)
    · rw [if_pos (.inl h1)]; simp [h1]
    · by_cases h2 : 2 ^ drop = 2 * (n % 2 ^ drop) ∧ n / 2 ^ drop % 2 = 1
      · rw [if_pos (.inr h2)]; simp [← h2.1, h2.2]
      · rw [if_neg (by rintro (h3 | h3); exact h1 h3; exact h2 h3)]
        by_cases h3 : 2 ^ drop = 2 * (n % 2 ^ drop)
        · have h4 : ¬ (n / 2 ^ drop % 2 = 1) := fun h4 => h2 ⟨h3, h4⟩
          simp [h1, h4]
        · simp [h1, h3]
  · rw [Nat.min_eq_right (by omega)]
    have h1 : n < 2 ^ (n.log2 + 1) := Nat.lt_log2_self
    have h2 : 2 ^ (n.log2 + 2) = 2 * 2 ^ (n.log2 + 1) := by rw [Nat.pow_succ 2 (n.log2 + 1)]; omega
    have h3 : 2 ^ (n.log2 + 2) ≤ 2 ^ drop := Nat.pow_le_pow_right (by omega) (by omega)
    have g1 : n / 2 ^ (n.log2 + 2) = 0 := Nat.div_eq_of_lt (by omega)
    have g2 : n % 2 ^ (n.log2 + 2) = n := Nat.mod_eq_of_lt (by omega)
    have g3 : n / 2 ^ drop = 0 := Nat.div_eq_of_lt (by omega)
    have g4 : n % 2 ^ drop = n := Nat.mod_eq_of_lt (by omega)
    have e1 : ¬ (2 ^ (n.log2 + 2) < 2 * n) := by omega
    have e2 : ¬ (2 ^ drop < 2 * n) := by omega
    rw [g1, g2, g3, g4, if_neg (by rintro (h5 | h5); exact e2 h5; exact absurd h5.2 (by decide))]
    simp [e1]
theorem cF_mono {n m G : Nat} (hG : 0 < G) (h : n ≤ m) : cF n G ≤ cF m G := by
  unfold cF
  have h1 := Nat.div_add_mod n G
  have h2 := Nat.div_add_mod m G
  have h3 := Nat.mod_lt n hG
  have h4 := Nat.mod_lt m hG
  have h5 : n / G ≤ m / G := Nat.div_le_div_right h
  rcases Nat.lt_or_eq_of_le h5 with h6 | h6
  · split <;> split <;> omega
  · rw [h6] at h1 ⊢
    have h7 : n % G ≤ m % G := by omega
    split <;> split <;> omega
theorem cF_scale {n G k : Nat} (hk : 0 < k) : cF (n * k) (G * k) = cF n G := by
  unfold cF
  rw [Nat.mul_div_mul_right _ _ hk, Nat.mul_mod_mul_right]
  have e1 : (G * k < 2 * (n % G * k)) ↔ (G < 2 * (n % G)) := by
    rw [← Nat.mul_assoc]; exact Nat.mul_lt_mul_right hk
  have e2 : (G * k = 2 * (n % G * k)) ↔ (G = 2 * (n % G)) := by
    rw [← Nat.mul_assoc]; exact Nat.mul_left_inj (by omega)
  simp only [e1, e2]
theorem cF_exact {n G : Nat} (hG : 0 < G) : cF (n * G) G = n := by
  unfold cF
  rw [Nat.mul_div_cancel _ hG, Nat.mul_mod_left]
  rw [if_neg (by omega)]; rfl
theorem cF_le {n t G : Nat} (hG : 0 < G) (h : n ≤ t * G) : cF n G ≤ t := by
  have := cF_mono hG h; rwa [cF_exact hG] at this
theorem le_cF {n t G : Nat} (hG : 0 < G) (h : t * G ≤ n) : t ≤ cF n G := by
  have := cF_mono hG h; rwa [cF_exact hG] at this
theorem two_pos (k : Nat) : 0 < 2 ^ k := Nat.pow_pos (by omega)
/-- both ways of writing 'n * 2 ^ i, cut at the place last' over a low base -/
theorem cF_base (m : Nat) (i last base : Int) (h1 : base ≤ i) (h2 : base ≤ last) :
    cF (m * 2 ^ (i - last).toNat) (2 ^ (last - i).toNat) = cF (m * 2 ^ (i - base).toNat) (2 ^ (last - base).toNat) := by
  rcases Int.le_total last i with h | h
  · rw [show (last - i).toNat = 0 from by omega, show (i - base).toNat = (i - last).toNat + (last - base).toNat from by omega, Nat.pow_add, ← Nat.mul_assoc]
    have := cF_scale (n := m * 2 ^ (i - last).toNat) (G := 2 ^ 0) (two_pos (last - base).toNat)
    rw [Nat.pow_zero, Nat.one_mul] at this
    rw [Nat.pow_zero, this]
  · rw [show (i - last).toNat = 0 from by omega, show (last - base).toNat = (last - i).toNat + (i - base).toNat from by omega, Nat.pow_add, Nat.pow_zero, Nat.mul_one]
    exact (cF_scale (two_pos _)).symm
def lastF (m : Nat) (i : Int) : Int := max (i + (m.log2 : Int) - 52) (-1074)
/-- the greatest rung, infinity's -/
def infF : Nat := 2047 * 2 ^ 52
theorem near_eq {m : Nat} (h : 0 < m) (i : Int) :
    Ieee.double.nearest false m i = min ((lastF m i + 1074).toNat * 2 ^ 52 + cF (m * 2 ^ (i - lastF m i).toNat) (2 ^ (lastF m i - i).toNat)) infF := by
  unfold Ieee.Format.nearest
  rw [if_neg (by omega)]
  have hf : Ieee.double.fractionBits = 52 := rfl
  have hp : Ieee.double.leastPlace = -1074 := by decide
  have hb : Ieee.double.binade = 2 ^ 52 := rfl
  have hi : Ieee.double.infRung = infF := by decide
  have hl : max (i + (m.log2 : Int) - ((52 : Nat) : Int)) (-1074) = lastF m i := rfl
  simp only [hf, hp, hb, hi, hl, cut_cF, Nat.shiftLeft_eq]
  unfold Ieee.Format.word
  rw [if_neg (by decide), show lastF m i - -1074 = lastF m i + 1074 from by omega]
theorem near_zero (i : Int) : Ieee.double.nearest false 0 i = 0 := by
  unfold Ieee.Format.nearest
  rw [if_pos rfl]; rfl
theorem log2_eq {n l : Nat} (h1 : 2 ^ l ≤ n) (h2 : n < 2 ^ (l + 1)) : n.log2 = l := by
  have h0 : n ≠ 0 := by have := two_pos l; omega
  have h3 : l ≤ n.log2 := (Nat.le_log2 h0).2 h1
  have h4 : n.log2 < l + 1 := (Nat.log2_lt h0).2 h2
  omega
theorem log2_mul {m : Nat} (h : 0 < m) (k : Nat) : (m * 2 ^ k).log2 = m.log2 + k := by
  have h1 : 2 ^ m.log2 ≤ m := Nat.log2_self_le (by omega)
  have h2 : m < 2 ^ (m.log2 + 1) := Nat.lt_log2_self
  apply log2_eq
  · rw [Nat.pow_add]; exact Nat.mul_le_mul_right _ h1
  · rw [show m.log2 + k + 1 = (m.log2 + 1) + k from by omega, Nat.pow_add]; exact Nat.mul_lt_mul_of_pos_right h2 (two_pos k)
theorem near_inv (m k : Nat) (i : Int) : Ieee.double.nearest false (m * 2 ^ k) (i - k) = Ieee.double.nearest false m i := by
  rcases Nat.eq_zero_or_pos m with rfl | h
  · rw [Nat.zero_mul, near_zero, near_zero]
  · have h' : 0 < m * 2 ^ k := Nat.mul_pos h (two_pos k)
    have hl : lastF (m * 2 ^ k) (i - k) = lastF m i := by unfold lastF; rw [log2_mul h]; omega
    rw [near_eq h', near_eq h, hl]
    generalize lastF m i = last
    rw [cF_base (m * 2 ^ k) (i - k) last (min (i - k) last) (by omega) (by omega), cF_base m i last (min (i - k) last) (by omega) (by omega)]
    rw [show (i - min (i - k) last).toNat = k + (i - k - min (i - k) last).toNat from by omega, Nat.pow_add, ← Nat.mul_assoc]
theorem near_inv' (m k : Nat) (i j : Int) (h : j = i - k) : Ieee.double.nearest false (m * 2 ^ k) j = Ieee.double.nearest false m i := by
  rw [h]; exact near_inv m k i
theorem min_mono {x y z : Nat} (h : x ≤ y) : min x z ≤ min y z := by omega
theorem rung_mono {c d x y z : Nat} (h1 : c + 1 ≤ d) (h2 : x ≤ 2 ^ 53) (h3 : 2 ^ 52 ≤ y) : min (c * 2 ^ 52 + x) z ≤ min (d * 2 ^ 52 + y) z := by
  apply min_mono
  have h4 := Nat.mul_le_mul_right (2 ^ 52) h1
  rw [Nat.succ_mul] at h4
  have h5 : 2 ^ 53 = 2 ^ 52 + 2 ^ 52 := rfl
  rw [h5] at h2
  generalize 2 ^ 52 = B at *
  omega
theorem near_mono {m n : Nat} (h : m ≤ n) (i : Int) : Ieee.double.nearest false m i ≤ Ieee.double.nearest false n i := by
  rcases Nat.eq_zero_or_pos m with rfl | hm
  · rw [near_zero]; omega
  · have hn : 0 < n := by omega
    have m2 : m < 2 ^ (m.log2 + 1) := Nat.lt_log2_self
    have n1 : 2 ^ n.log2 ≤ n := Nat.log2_self_le (by omega)
    have m1 : 2 ^ m.log2 ≤ m := Nat.log2_self_le (by omega)
    have hlog : m.log2 ≤ n.log2 := (Nat.le_log2 (by omega)).2 (by omega)
    have hL : lastF m i ≤ lastF n i := by unfold lastF; omega
    have hm1 : lastF m i = max (i + (m.log2 : Int) - 52) (-1074) := rfl
    have hn1 : lastF n i = max (i + (n.log2 : Int) - 52) (-1074) := rfl
    rw [near_eq hm, near_eq hn]
    generalize lastF m i = a at *
    generalize lastF n i = b at *
    rcases Int.lt_or_eq_of_le hL with hlt | rfl
    · have k1 : cF (m * 2 ^ (i - a).toNat) (2 ^ (a - i).toNat) ≤ 2 ^ 53 := by
        rw [cF_base m i a (min i a) (by omega) (by omega)]
        apply cF_le (two_pos _)
        have e : 2 ^ (m.log2 + 1) * 2 ^ (i - min i a).toNat ≤ 2 ^ 53 * 2 ^ (a - min i a).toNat := by
          rw [← Nat.pow_add, ← Nat.pow_add]
          exact Nat.pow_le_pow_right (by omega) (by omega)
        exact Nat.le_trans (Nat.mul_le_mul_right _ (Nat.le_of_lt m2)) e
      have k2 : 2 ^ 52 ≤ cF (n * 2 ^ (i - b).toNat) (2 ^ (b - i).toNat) := by
        rw [cF_base n i b (min i b) (by omega) (by omega)]
        apply le_cF (two_pos _)
        have e : 2 ^ 52 * 2 ^ (b - min i b).toNat ≤ 2 ^ n.log2 * 2 ^ (i - min i b).toNat := by
          rw [← Nat.pow_add, ← Nat.pow_add]
          exact Nat.pow_le_pow_right (by omega) (by omega)
        exact Nat.le_trans e (Nat.mul_le_mul_right _ n1)
      exact rung_mono (by omega) k1 k2
    · have := cF_mono (two_pos (a - i).toNat) (Nat.mul_le_mul_right (2 ^ (i - a).toNat) h)
      exact min_mono (Nat.add_le_add_left this _)
/-- what a rung stands for, in units of 2 ^ -1074 -/
def uF (r : Nat) : Nat := if r < 2 ^ 52 then r else (2 ^ 52 + r % 2 ^ 52) * 2 ^ (r / 2 ^ 52 - 1)
theorem near_uF {r : Nat} (h : r < infF) : Ieee.double.nearest false (uF r) (-1074) = r := by
  unfold infF at h
  by_cases h1 : r < 2 ^ 52
  · have hu : uF r = r := by unfold uF; rw [if_pos h1]
    rw [hu]
    rcases Nat.eq_zero_or_pos r with rfl | h0
    · exact near_zero _
    · have hl : r.log2 < 52 := (Nat.log2_lt (by omega)).2 h1
      have hL : lastF r (-1074) = -1074 := by unfold lastF; omega
      rw [near_eq h0, hL]
      rw [show ((-1074 : Int) - -1074).toNat = 0 from rfl, show ((-1074 : Int) + 1074).toNat = 0 from rfl]
      rw [Nat.pow_zero, cF_exact (by omega)]
      unfold infF; omega
  · have hu : uF r = (2 ^ 52 + r % 2 ^ 52) * 2 ^ (r / 2 ^ 52 - 1) := by unfold uF; rw [if_neg h1]
    have h2 : r % 2 ^ 52 < 2 ^ 52 := Nat.mod_lt _ (two_pos 52)
    have h3 : 0 < r / 2 ^ 52 := Nat.div_pos (by omega) (two_pos 52)
    have h4 := Nat.div_add_mod r (2 ^ 52)
    rw [hu]
    generalize r % 2 ^ 52 = f at *
    generalize hd : r / 2 ^ 52 = e at *
    have hpos : 0 < (2 ^ 52 + f) * 2 ^ (e - 1) := Nat.mul_pos (by have := two_pos 52; omega) (two_pos _)
    have hlf : (2 ^ 52 + f).log2 = 52 := log2_eq (by omega) (by have : 2 ^ (52 + 1) = 2 ^ 52 + 2 ^ 52 := rfl; omega)
    have hL : lastF ((2 ^ 52 + f) * 2 ^ (e - 1)) (-1074) = -1074 + ((e - 1 : Nat) : Int) := by
      unfold lastF; rw [log2_mul (by have := two_pos 52; omega), hlf]; omega
    rw [near_eq hpos, hL]
    rw [show (-1074 - (-1074 + ((e - 1 : Nat) : Int))).toNat = 0 from by omega, show (-1074 + ((e - 1 : Nat) : Int) - -1074).toNat = e - 1 from by omega, show (-1074 + ((e - 1 : Nat) : Int) + 1074).toNat = e - 1 from by omega]
    rw [Nat.pow_zero, Nat.mul_one, cF_exact (two_pos _)]
    unfold infF
    omega
theorem uF_lt {r s : Nat} (h : r < s) (hs : s < infF) : uF r < uF s := by
  rcases Nat.lt_or_ge (uF r) (uF s) with h1 | h1
  · exact h1
  · have := near_mono h1 (-1074)
    rw [near_uF hs, near_uF (by omega)] at this
    omega
theorem uF_le {r s : Nat} (h : r ≤ s) (hs : s < infF) : uF r ≤ uF s := by
  rcases Nat.lt_or_eq_of_le h with h1 | rfl
  · exact Nat.le_of_lt (uF_lt h1 hs)
  · exact Nat.le_refl _
theorem uF_inj {r s : Nat} (hr : r < infF) (hs : s < infF) (h : uF r = uF s) : r = s := by
  rw [← near_uF hr, ← near_uF hs, h]
/-- a number of at most 53 digits is held exactly -/
theorem uF_rep (m k : Nat) (hm : m < 2 ^ 53) (hk : m.log2 + k ≤ 2097) :
    Ieee.double.nearest false (m * 2 ^ k) (-1074) < infF ∧ uF (Ieee.double.nearest false (m * 2 ^ k) (-1074)) = m * 2 ^ k := by
  have key : ∃ r, r < infF ∧ uF r = m * 2 ^ k := by
    unfold infF
    rcases Nat.eq_zero_or_pos m with rfl | h0
    · exact ⟨0, by decide, by rw [Nat.zero_mul]; rfl⟩
    · by_cases h : m * 2 ^ k < 2 ^ 52
      · exact ⟨m * 2 ^ k, by omega, by unfold uF; rw [if_pos h]⟩
      · have hl : (m * 2 ^ k).log2 = m.log2 + k := log2_mul h0 k
        have hm' : m.log2 < 53 := (Nat.log2_lt (by omega)).2 hm
        have m1 : 2 ^ m.log2 ≤ m := Nat.log2_self_le (by omega)
        have m2 : m < 2 ^ (m.log2 + 1) := Nat.lt_log2_self
        have hge : 52 ≤ m.log2 + k := by
          rcases Nat.lt_or_ge (m.log2 + k) 52 with h1 | h1
          · exfalso; apply h
            have : m * 2 ^ k < 2 ^ (m.log2 + 1) * 2 ^ k := Nat.mul_lt_mul_of_pos_right m2 (two_pos k)
            rw [← Nat.pow_add] at this
            exact Nat.lt_of_lt_of_le this (Nat.pow_le_pow_right (by omega) (by omega))
          · exact h1
        -- the significand of 53 digits
        have s1 : 2 ^ 52 ≤ m * 2 ^ (52 - m.log2) := by
          have := Nat.mul_le_mul_right (2 ^ (52 - m.log2)) m1
          rw [← Nat.pow_add, show m.log2 + (52 - m.log2) = 52 from by omega] at this
          exact this
        have s2 : m * 2 ^ (52 - m.log2) < 2 ^ 53 := by
          have := Nat.mul_lt_mul_of_pos_right m2 (two_pos (52 - m.log2))
          rw [← Nat.pow_add, show m.log2 + 1 + (52 - m.log2) = 53 from by omega] at this
          exact this
        have e : m * 2 ^ k = m * 2 ^ (52 - m.log2) * 2 ^ (m.log2 + k - 52) := by
          rw [Nat.mul_assoc, ← Nat.pow_add]; congr 2; omega
        rw [e]
        generalize m * 2 ^ (52 - m.log2) = s at *
        generalize m.log2 + k = l at *
        refine ⟨(l - 51) * 2 ^ 52 + (s - 2 ^ 52), by omega, ?_⟩
        unfold uF
        rw [if_neg (by omega)]
        have e1 : ((l - 51) * 2 ^ 52 + (s - 2 ^ 52)) % 2 ^ 52 = s - 2 ^ 52 := by omega
        have e2 : ((l - 51) * 2 ^ 52 + (s - 2 ^ 52)) / 2 ^ 52 = l - 51 := by omega
        rw [e1, e2, show 2 ^ 52 + (s - 2 ^ 52) = s from by omega, show l - 51 - 1 = l - 52 from by omega]
  obtain ⟨r, hr, hu⟩ := key
  rw [← hu, near_uF hr]
  exact ⟨hr, rfl⟩
/-- a whole number below 2^53 as a float -/
theorem ofInt_near (a : Nat) : floatOfInt .f64 (a : Int) = Ieee.double.nearest false (a * 2 ^ 1074) (-1074) := by
  rw [near_inv' a 1074 0 (-1074) (by omega)]
  show Ieee.double.write (.number (decide ((a : Int) < 0)) (a : Int).natAbs 0) = _
  rw [decide_eq_false (by omega), Int.natAbs_natCast]; rfl
theorem ofInt_u {a : Nat} (h : a < 2 ^ 53) : floatOfInt .f64 (a : Int) < infF ∧ uF (floatOfInt .f64 (a : Int)) = a * 2 ^ 1074 := by
  rw [ofInt_near]
  refine uF_rep a 1074 h ?_
  rcases Nat.eq_zero_or_pos a with rfl | h0
  · decide
  · have : a.log2 < 53 := (Nat.log2_lt (by omega)).2 h
    omega
theorem read_u {r : Nat} (h : r < infF) : ∃ (M : Nat) (P : Int), Ieee.double.read r = .number false M P ∧ -1074 ≤ P ∧ M * 2 ^ (P + 1074).toNat = uF r ∧ M < 2 ^ 53 := by
  have h' := h
  unfold infF at h
  unfold Ieee.Format.read
  have hb : Ieee.double.binade = 2 ^ 52 := rfl
  have hp : Ieee.double.leastPlace = -1074 := by decide
  have hi : Ieee.double.infRung = infF := by decide
  have hs : Ieee.double.signWeight = 2 ^ 63 := rfl
  simp only [hb, hp, hi, hs]
  have hlt : r < 2 ^ 63 := by omega
  rw [Nat.div_eq_of_lt hlt, Nat.mod_eq_of_lt hlt]
  by_cases h1 : r < 2 ^ 52
  · rw [if_pos h1]
    refine ⟨r, -1074, rfl, by omega, ?_, by omega⟩
    unfold uF
    rw [if_pos h1, show ((-1074 : Int) + 1074).toNat = 0 from rfl, Nat.pow_zero, Nat.mul_one]
  · rw [if_neg h1, if_pos h']
    refine ⟨2 ^ 52 + r % 2 ^ 52, -1074 + ((r / 2 ^ 52 - 1 : Nat) : Int), rfl, by omega, ?_, by have := Nat.mod_lt r (two_pos 52); omega⟩
    unfold uF
    rw [if_neg h1, show (-1074 + ((r / 2 ^ 52 - 1 : Nat) : Int) + 1074).toNat = r / 2 ^ 52 - 1 from by omega]
end Go.Proofs.Ytplgpnmahblhbaa
