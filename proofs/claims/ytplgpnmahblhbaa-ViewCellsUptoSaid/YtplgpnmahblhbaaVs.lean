/- Plain law: percents, shares, drags and parts of a window in 64-bit floats: the percent is the whole quotient; a share dragged stands where it stood; a drag and a part rise with the share and stay within their bounds. Condition: up to 2^40 lines. -/
import Derived.Test.YtplgpnmahblhbaaVr
namespace Go.Proofs.Ytplgpnmahblhbaa
/-- 1 and 1/2 as floats -/
def oneW : Nat := 4607182418800017408
def halfW : Nat := 4602678819172646912
theorem oneW_u : oneW < infF ∧ uF oneW = 2 ^ 1074 := by
  refine ⟨by decide, ?_⟩
  unfold uF oneW
  rw [if_neg (by decide)]
  decide +kernel
theorem halfW_u : halfW < infF ∧ uF halfW = 2 ^ 1073 := by
  refine ⟨by decide, ?_⟩
  unfold uF halfW
  rw [if_neg (by decide)]
  decide +kernel
theorem near_unit (u k j : Nat) (h : 1074 = j + k) : Ieee.double.nearest false u (-(k : Int)) = Ieee.double.nearest false (u * 2 ^ j) (-1074) := (near_inv' u j (-(k : Int)) (-1074) (by omega)).symm
theorem rep_unit {u : Nat} (k j : Nat) (h : 1074 = j + k) (hu : u < 2 ^ 53) : Ieee.double.nearest false u (-(k : Int)) < infF ∧ uF (Ieee.double.nearest false u (-(k : Int))) = u * 2 ^ j := by
  rw [near_unit u k j h]
  refine uF_rep u j hu ?_
  rcases Nat.eq_zero_or_pos u with rfl | h0
  · have : Nat.log2 0 = 0 := by decide
    omega
  · have : u.log2 < 53 := (Nat.log2_lt (by omega)).2 hu
    omega
theorem lt_scale {x y : Nat} (k : Nat) (h : x < y) : x * 2 ^ k < y * 2 ^ k := Nat.mul_lt_mul_of_pos_right h (Nat.pow_pos (by omega))
theorem log2_mono {a b : Nat} (h : a ≤ b) : a.log2 ≤ b.log2 := by
  rcases Nat.eq_zero_or_pos a with rfl | h0
  · have : Nat.log2 0 = 0 := by decide
    omega
  · exact (Nat.le_log2 (by omega)).2 (Nat.le_trans (Nat.log2_self_le (by omega)) h)
theorem pow_split {a : Nat} (b c : Nat) (h : a = b + c) : 2 ^ a = 2 ^ b * 2 ^ c := by rw [h, Nat.pow_add]
theorem four_split (a c : Nat) (h : a = 2 + c) : 2 ^ a = 4 * 2 ^ c := by rw [h, Nat.pow_add]
theorem dbl_split (a c : Nat) (h : a = 1 + c) : 2 ^ a = 2 * 2 ^ c := by rw [h, Nat.pow_add]
theorem unit_split (x k j n : Nat) (h : n = k + j) : x * 2 ^ n = x * 2 ^ k * 2 ^ j := by rw [h, Nat.mul_assoc, ← Nat.pow_add]
theorem mul_pow_split (x a b c : Nat) (h : c = a + b) : x * 2 ^ c = x * 2 ^ a * 2 ^ b := by rw [h, Nat.pow_add, Nat.mul_assoc]
theorem unit_sq (b x z : Nat) (h : z = x + x) : 2 ^ x * (b * 2 ^ x) = b * 2 ^ z := by rw [h, Nat.pow_add]; ac_rfl
theorem half_eq (b a c : Nat) (h : a = 1 + c) : b * 2 ^ a + 2 ^ c = (2 * b + 1) * 2 ^ c := by
  rw [h, Nat.pow_add, Nat.add_mul, Nat.one_mul, Nat.pow_one]; congr 1; ac_rfl
theorem half_lt (b a c : Nat) (h : a = 1 + c) : (2 * b + 1) * 2 ^ c < b.succ * 2 ^ a := by
  rw [h, Nat.pow_add, Nat.pow_one, ← Nat.mul_assoc]
  exact Nat.mul_lt_mul_of_pos_right (by omega) (Nat.pow_pos (by omega))
theorem half_div (h a c : Nat) (e : a = 1 + c) : h * 2 ^ c / 2 ^ a = h / 2 := by
  rw [e, Nat.pow_add, Nat.pow_one, Nat.mul_div_mul_right _ _ (Nat.pow_pos (by omega))]
theorem mid_split (a b x y z : Nat) (h : z = x + y) : a * b * 2 ^ z = a * 2 ^ x * (b * 2 ^ y) := by rw [h, Nat.pow_add]; ac_rfl
theorem le_swap {x : Nat} (h k : Nat) (e : x ≤ h * 2 ^ k) : x ≤ 2 ^ k * h := by rw [Nat.mul_comm]; exact e
theorem half_lo {x y u v K : Nat} (h : x * K ≤ u) (e : y = x + 2) (hv : v = 2 * K) : y * K ≤ u + v := by
  rw [hv, e, Nat.add_mul]; exact Nat.add_le_add_right h _
theorem half_hi {x y u v K : Nat} (h : u ≤ x * K) (e : y = x + 2) (hv : v = 2 * K) : u + v ≤ y * K := by
  rw [hv, e, Nat.add_mul]; exact Nat.add_le_add_right h _
theorem four_le {a v K : Nat} (h : v = 4 * K) : a * v ≤ (4 * a + 1) * K := by
  rw [h, ← Nat.mul_assoc, Nat.mul_comm a 4]; exact Nat.mul_le_mul_right _ (by omega)
theorem four_lt {a v K : Nat} (h : v = 4 * K) (hK : 0 < K) : (4 * a + 3) * K < (a + 1) * v := by
  rw [h, ← Nat.mul_assoc]; exact Nat.mul_lt_mul_of_pos_right (by omega) hK
theorem le_unit {a v K L : Nat} (h : v = a * K) (hv : v ≤ L * K) (hK : 0 < K) : a ≤ L := by
  rw [h] at hv; exact Nat.le_of_mul_le_mul_right hv hK
theorem mul_mid (a b c d : Nat) : a * b * (c * d) = a * c * (b * d) := by ac_rfl
theorem mul_last (a b c : Nat) : a * (b * c) = a * c * b := by ac_rfl
theorem pct_bd {A n Q : Nat} (B : Nat) (hdm : n * Q + A % n = A) (hmod : A % n < n) (hn : n ≤ B) : A * B ≤ ((Q + 1) * B - 1) * n := by
  rw [Nat.sub_mul, Nat.one_mul]
  have : (A + 1) * B ≤ (Q + 1) * B * n := by
    rw [show (Q + 1) * B * n = (n * (Q + 1)) * B from by ac_rfl, Nat.mul_succ]
    exact Nat.mul_le_mul_right _ (by omega)
  rw [Nat.succ_mul] at this
  omega
theorem percent_law {A n : Nat} (hA : 0 < A) (hn : 0 < n) (hn' : n ≤ 2 ^ 40) (h : A ≤ 100 * n) :
    ∃ q, floatBits .quo .f64 (floatOfInt .f64 (A : Int)) (floatOfInt .f64 (n : Int)) = some q ∧ floatToIntVal .f64 q .i64 = some ((A / n : Nat) : Int) := by
  obtain ⟨x1, x2⟩ := ofInt_u (a := A) (by have : 2 ^ 53 = 8192 * 2 ^ 40 := rfl; omega)
  obtain ⟨y1, y2⟩ := ofInt_u (a := n) (by have : 2 ^ 53 = 8192 * 2 ^ 40 := rfl; omega)
  have p74 := two_pos 1074
  obtain ⟨q, hq, hup, hlo⟩ := div_u x1 y1 (by rw [x2]; exact Nat.mul_pos hA p74) (by rw [y2]; exact Nat.mul_pos hn p74)
  refine ⟨q, hq, ?_⟩
  rw [x2, y2, log2_mul hA 1074, log2_mul hn 1074] at hup hlo
  have hlog : A.log2 ≤ n.log2 + 7 := by
    rw [← log2_mul hn]; exact log2_mono (by have : 2 ^ 7 = 128 := rfl; omega)
  have hQ : A / n ≤ 100 := Nat.div_le_of_le_mul (by rw [Nat.mul_comm]; exact h)
  have hdm := Nat.div_add_mod A n
  have hmod := Nat.mod_lt A hn
  have l1 := hlo (A / n) 0 (by omega) (by
    rw [Nat.pow_zero, Nat.mul_one, ← Nat.mul_assoc]
    exact Nat.mul_le_mul_right _ (Nat.div_mul_le_self A n))
  have l2 := hup ((A / n + 1) * 2 ^ 40 - 1) 40 (by omega) (by
    have e : A * 2 ^ 40 ≤ ((A / n + 1) * 2 ^ 40 - 1) * n := pct_bd _ hdm hmod hn'
    rw [Nat.mul_right_comm A, ← Nat.mul_assoc]
    exact Nat.mul_le_mul_right _ e)
  obtain ⟨r1, r2⟩ := rep_unit (u := A / n) 0 1074 rfl (by omega)
  obtain ⟨s1, s2⟩ := rep_unit (u := (A / n + 1) * 2 ^ 40 - 1) 40 1034 rfl (by have : 2 ^ 53 = 8192 * 2 ^ 40 := rfl; omega)
  have hqi : q < infF := Nat.lt_of_le_of_lt l2 s1
  have m1 := uF_le l1 hqi
  have m2 := uF_le l2 s1
  rw [r2] at m1
  rw [s2] at m2
  have hcut : uF q / 2 ^ 1074 = A / n := by
    apply Nat.div_eq_of_lt_le
    · exact m1
    · apply Nat.lt_of_le_of_lt m2
      refine Nat.lt_of_lt_of_eq ?_ (unit_split (A / n + 1) 40 1034 1074 rfl).symm
      exact lt_scale 1034 (by have := two_pos 40; omega)
  rw [← hcut]
  exact cut_u hqi (by rw [hcut]; omega)
/-- a share: the quotient of two whole numbers -/
def quoN (a b : Nat) : Nat := (floatBits .quo .f64 (floatOfInt .f64 (a : Int)) (floatOfInt .f64 (b : Int))).getD 0
theorem ofInt_zero : floatOfInt .f64 ((0 : Nat) : Int) = 0 := by decide +kernel
theorem quoN_zero {b : Nat} (hb : 0 < b) (hb' : b ≤ 2 ^ 40) : floatBits .quo .f64 (floatOfInt .f64 ((0 : Nat) : Int)) (floatOfInt .f64 (b : Int)) = some 0 := by
  obtain ⟨y1, y2⟩ := ofInt_u (a := b) (by have : 2 ^ 53 = 8192 * 2 ^ 40 := rfl; omega)
  rw [ofInt_zero]
  exact div_zero_u y1 (by rw [y2]; exact Nat.mul_pos hb (two_pos 1074))
theorem quoN_pos {a b : Nat} (ha : 0 < a) (hab : a ≤ b) (hb' : b ≤ 2 ^ 40) :
    floatBits .quo .f64 (floatOfInt .f64 (a : Int)) (floatOfInt .f64 (b : Int)) = some (quoN a b) ∧ quoN a b ≤ oneW ∧
    (∀ u, u < 2 ^ 53 → a * 2 ^ 52 ≤ u * b → quoN a b ≤ Ieee.double.nearest false u (-52)) ∧
    (∀ u, u < 2 ^ 53 → u * b ≤ a * 2 ^ 52 → Ieee.double.nearest false u (-52) ≤ quoN a b) := by
  have hb : 0 < b := by omega
  obtain ⟨x1, x2⟩ := ofInt_u (a := a) (by have : 2 ^ 53 = 8192 * 2 ^ 40 := rfl; omega)
  obtain ⟨y1, y2⟩ := ofInt_u (a := b) (by have : 2 ^ 53 = 8192 * 2 ^ 40 := rfl; omega)
  have p74 := two_pos 1074
  obtain ⟨q, hq, hup, hlo⟩ := div_u x1 y1 (by rw [x2]; exact Nat.mul_pos ha p74) (by rw [y2]; exact Nat.mul_pos hb p74)
  have e : quoN a b = q := by unfold quoN; rw [hq]; rfl
  rw [e]
  rw [x2, y2, log2_mul ha 1074, log2_mul hb 1074] at hup hlo
  have hlog : a.log2 ≤ b.log2 := log2_mono hab
  refine ⟨hq, ?_, fun u _ hu => ?_, fun u _ hu => ?_⟩
  · have := hup 1 0 (by omega) (by rw [Nat.pow_zero, Nat.mul_one, Nat.one_mul]; exact Nat.mul_le_mul_right _ hab)
    rwa [show Ieee.double.nearest false 1 (-((0 : Nat) : Int)) = oneW from by decide +kernel] at this
  · exact hup u 52 (by omega) (by
      rw [Nat.mul_right_comm a, ← Nat.mul_assoc]
      exact Nat.mul_le_mul_right _ hu)
  · exact hlo u 52 (by omega) (by
      rw [Nat.mul_right_comm a, ← Nat.mul_assoc]
      exact Nat.mul_le_mul_right _ hu)
/-- the share times the lines, a half more -/
def mulN (x b : Nat) : Nat := Ieee.double.nearest false (uF x * uF (floatOfInt .f64 (b : Int))) (-2148)
def halfN (p : Nat) : Nat := Ieee.double.nearest false (uF p + uF halfW) (-1074)
def dragN (x b : Nat) : Nat := uF (halfN (mulN x b)) / 2 ^ 1074
theorem mulN_mono {x y b : Nat} (h : x ≤ y) (hy : y < infF) : mulN x b ≤ mulN y b := near_mono (Nat.mul_le_mul_right _ (uF_le h hy)) _
theorem halfN_mono {p q : Nat} (h : p ≤ q) (hq : q < infF) : halfN p ≤ halfN q := near_mono (Nat.add_le_add_right (uF_le h hq) _) _
theorem near_2148 (u k j : Nat) (h : k = j + 1074) : Ieee.double.nearest false (u * 2 ^ k) (-2148) = Ieee.double.nearest false (u * 2 ^ j) (-1074) := by
  rw [h, Nat.pow_add, ← Nat.mul_assoc]
  exact near_inv' _ 1074 (-1074) (-2148) (by omega)
theorem pow_add' (a b : Nat) : 2 ^ a * 2 ^ b = 2 ^ (a + b) := (Nat.pow_add 2 a b).symm
theorem log53 {u : Nat} (hu : u < 2 ^ 53) : u.log2 ≤ 52 := by
  rcases Nat.eq_zero_or_pos u with rfl | h0
  · decide
  · have : u.log2 < 53 := (Nat.log2_lt (by omega)).2 hu
    omega
theorem mulN_one {b : Nat} (hb : b ≤ 2 ^ 40) : mulN oneW b < infF ∧ uF (mulN oneW b) = b * 2 ^ 1074 := by
  have h53 : b < 2 ^ 53 := by have : 2 ^ 53 = 8192 * 2 ^ 40 := rfl; omega
  obtain ⟨y1, y2⟩ := ofInt_u h53
  have e0 : uF oneW * uF (floatOfInt .f64 (b : Int)) = b * 2 ^ 2148 := by
    rw [oneW_u.2, y2]
    exact unit_sq b 1074 2148 rfl
  have e1 : mulN oneW b = Ieee.double.nearest false (b * 2 ^ 1074) (-1074) := by
    unfold mulN
    rw [e0]
    exact near_2148 b 2148 1074 rfl
  rw [e1]
  exact uF_rep b 1074 h53 (by have := log53 h53; omega)
theorem halfN_b {b : Nat} (hb : b ≤ 2 ^ 40) : halfN (mulN oneW b) < infF ∧ uF (halfN (mulN oneW b)) = (2 * b + 1) * 2 ^ 1073 := by
  have h53 : 2 * b + 1 < 2 ^ 53 := by have : 2 ^ 53 = 8192 * 2 ^ 40 := rfl; omega
  unfold halfN
  rw [(mulN_one hb).2, halfW_u.2]
  have e : b * 2 ^ 1074 + 2 ^ 1073 = (2 * b + 1) * 2 ^ 1073 := by
    exact half_eq b 1074 1073 rfl
  rw [e]
  exact uF_rep (2 * b + 1) 1073 h53 (by have := log53 h53; omega)
/-- what a drag asks of the floats, and its bounds -/
theorem drag_law {x b : Nat} (hx : x ≤ oneW) (hb : b ≤ 2 ^ 40) :
    floatBits .mul .f64 x (floatOfInt .f64 (b : Int)) = some (mulN x b) ∧
    floatBits .add .f64 (mulN x b) halfW = some (halfN (mulN x b)) ∧
    floatToIntVal .f64 (halfN (mulN x b)) .i64 = some ((dragN x b : Nat) : Int) ∧ dragN x b ≤ b := by
  have h53 : b < 2 ^ 53 := by have : 2 ^ 53 = 8192 * 2 ^ 40 := rfl; omega
  have hxi : x < infF := Nat.lt_of_le_of_lt hx oneW_u.1
  have m1 : mulN x b ≤ mulN oneW b := mulN_mono hx oneW_u.1
  have m2 : mulN x b < infF := Nat.lt_of_le_of_lt m1 (mulN_one hb).1
  have m3 : halfN (mulN x b) ≤ halfN (mulN oneW b) := halfN_mono m1 (mulN_one hb).1
  have m4 : halfN (mulN x b) < infF := Nat.lt_of_le_of_lt m3 (halfN_b hb).1
  have m5 := uF_le m3 (halfN_b hb).1
  rw [(halfN_b hb).2] at m5
  have m6 : dragN x b ≤ b := by
    unfold dragN
    apply Nat.le_of_lt_succ
    rw [Nat.div_lt_iff_lt_mul (two_pos 1074)]
    apply Nat.lt_of_le_of_lt m5
    exact half_lt b 1074 1073 rfl
  exact ⟨mul_u hxi (ofInt_u h53).1, add_u m2 halfW_u.1, cut_u m4 (by
    have : dragN x b < 2 ^ 63 := Nat.lt_of_le_of_lt m6 (by have : 2 ^ 63 = 8388608 * 2 ^ 40 := rfl; omega)
    exact this), m6⟩
theorem dragN_mono {x y b : Nat} (h : x ≤ y) (hy : y ≤ oneW) (hb : b ≤ 2 ^ 40) : dragN x b ≤ dragN y b := by
  have h1 : mulN y b ≤ mulN oneW b := mulN_mono hy oneW_u.1
  have h2 : mulN y b < infF := Nat.lt_of_le_of_lt h1 (mulN_one hb).1
  have h3 : halfN (mulN y b) < infF := Nat.lt_of_le_of_lt (halfN_mono h1 (mulN_one hb).1) (halfN_b hb).1
  exact Nat.div_le_div_right (uF_le (halfN_mono (mulN_mono h (Nat.lt_of_le_of_lt hy oneW_u.1)) h2) h3)
/-- a window dragged to its share stands where it stood -/
theorem round_law {a b : Nat} (ha : 0 < a) (hab : a ≤ b) (hb : b ≤ 2 ^ 40) : dragN (quoN a b) b = a ∧ (quoN a b = oneW → a = b) ∧ 0 < quoN a b := by
  have h53 : b < 2 ^ 53 := by have : 2 ^ 53 = 8192 * 2 ^ 40 := rfl; omega
  obtain ⟨hq, hone, hup, hlo⟩ := quoN_pos ha hab hb
  have hqi : quoN a b < infF := Nat.lt_of_le_of_lt hone oneW_u.1
  have hdm := Nat.div_add_mod (a * 2 ^ 52) b
  have hmod := Nat.mod_lt (a * 2 ^ 52) (show 0 < b by omega)
  have hL : a * 2 ^ 52 / b ≤ 2 ^ 52 := Nat.div_le_of_le_mul (Nat.mul_le_mul_right _ hab)
  generalize a * 2 ^ 52 / b = L at *
  generalize a * 2 ^ 52 % b = R at *
  have hLu : L + 1 < 2 ^ 53 := by have : 2 ^ 53 = 2 ^ 52 + 2 ^ 52 := rfl; have := two_pos 52; have : 2 ^ 52 = 4503599627370496 := rfl; omega
  have u1 := hlo L (by omega) (by rw [Nat.mul_comm L b]; omega)
  have u2 := hup (L + 1) hLu (by rw [Nat.add_mul L 1, Nat.one_mul, Nat.mul_comm L b]; omega)
  obtain ⟨r1, r2⟩ := rep_unit (u := L) 52 1022 rfl (by omega)
  obtain ⟨s1, s2⟩ := rep_unit (u := L + 1) 52 1022 rfl hLu
  have v1 := uF_le u1 hqi
  have v2 := uF_le u2 s1
  rw [show Ieee.double.nearest false L (-52) = Ieee.double.nearest false L (-((52 : Nat) : Int)) from rfl, r2] at v1
  rw [show Ieee.double.nearest false (L + 1) (-52) = Ieee.double.nearest false (L + 1) (-((52 : Nat) : Int)) from rfl, s2] at v2
  clear u1 u2 r1 r2 s1 s2 hup hlo
  have y2 := (ofInt_u h53).2
  have hbL : b * L ≤ a * 2 ^ 52 := by omega
  have hbL2 : a * 2 ^ 52 ≤ b * L + b := by omega
  -- the product
  have hb40 : b ≤ 2 ^ 50 := by have : 2 ^ 50 = 1024 * 2 ^ 40 := rfl; omega
  have p1 : (4 * a - 1) * 2 ^ 2146 ≤ uF (quoN a b) * uF (floatOfInt .f64 (b : Int)) := by
    rw [y2]
    have e : (4 * a - 1) * 2 ^ 50 ≤ L * b := by
      rw [Nat.sub_mul, Nat.one_mul, show 4 * a * 2 ^ 50 = a * 2 ^ 52 from by omega, Nat.mul_comm L b]
      omega
    calc (4 * a - 1) * 2 ^ 2146 = (4 * a - 1) * 2 ^ 50 * 2 ^ 2096 := mul_pow_split _ 50 2096 2146 rfl
      _ ≤ L * b * 2 ^ 2096 := Nat.mul_le_mul_right _ e
      _ = L * 2 ^ 1022 * (b * 2 ^ 1074) := mid_split L b 1022 1074 2096 rfl
      _ ≤ _ := Nat.mul_le_mul_right _ v1
  have p2 : uF (quoN a b) * uF (floatOfInt .f64 (b : Int)) ≤ (4 * a + 1) * 2 ^ 2146 := by
    rw [y2]
    have e : (L + 1) * b ≤ (4 * a + 1) * 2 ^ 50 := by
      rw [Nat.add_mul (4 * a), Nat.one_mul, show 4 * a * 2 ^ 50 = a * 2 ^ 52 from by omega, Nat.succ_mul, Nat.mul_comm L b]
      omega
    calc uF (quoN a b) * (b * 2 ^ 1074) ≤ (L + 1) * 2 ^ 1022 * (b * 2 ^ 1074) := Nat.mul_le_mul_right _ v2
      _ = (L + 1) * b * 2 ^ 2096 := (mid_split (L + 1) b 1022 1074 2096 rfl).symm
      _ ≤ (4 * a + 1) * 2 ^ 50 * 2 ^ 2096 := Nat.mul_le_mul_right _ e
      _ = _ := (mul_pow_split _ 50 2096 2146 rfl).symm
  have ha53 : 4 * a + 3 < 2 ^ 53 := by have : 2 ^ 53 = 8192 * 2 ^ 40 := rfl; omega
  have lg : ∀ u, u ≤ 4 * a + 3 → u < 2 ^ 53 ∧ u.log2 + 1072 ≤ 2097 := fun u hu => ⟨by omega, by have := log53 (u := u) (by omega); omega⟩
  have m1 := near_mono p1 (-2148)
  have m2 := near_mono p2 (-2148)
  rw [near_2148 _ 2146 1072 rfl] at m1 m2
  change _ ≤ mulN (quoN a b) b at m1
  change mulN (quoN a b) b ≤ _ at m2
  obtain ⟨t1, t2⟩ := uF_rep (4 * a - 1) 1072 (lg _ (by omega)).1 (lg _ (by omega)).2
  obtain ⟨w1, w2⟩ := uF_rep (4 * a + 1) 1072 (lg _ (by omega)).1 (lg _ (by omega)).2
  obtain ⟨z1, z2⟩ := uF_rep (4 * a + 3) 1072 (lg _ (by omega)).1 (lg _ (by omega)).2
  have hmi : mulN (quoN a b) b < infF := Nat.lt_of_le_of_lt m2 w1
  have n1 := uF_le m1 hmi
  have n2 := uF_le m2 w1
  rw [t2] at n1
  rw [w2] at n2
  clear m1 m2 p1 p2 t1 t2
  have e73 : 2 ^ 1073 = 2 * 2 ^ 1072 := by rw [pow_split (a := 1073) 1 1072 (by omega), Nat.pow_one]
  have k1 : (4 * a + 1) * 2 ^ 1072 ≤ uF (mulN (quoN a b) b) + uF halfW := half_lo n1 (show 4 * a + 1 = 4 * a - 1 + 2 by omega) (halfW_u.2.trans e73)
  have k2 : uF (mulN (quoN a b) b) + uF halfW ≤ (4 * a + 3) * 2 ^ 1072 := half_hi n2 (show 4 * a + 3 = 4 * a + 1 + 2 by omega) (halfW_u.2.trans e73)
  have j1 := near_mono k1 (-1074)
  have j2 := near_mono k2 (-1074)
  change _ ≤ halfN (mulN (quoN a b) b) at j1
  change halfN (mulN (quoN a b) b) ≤ _ at j2
  have hhi : halfN (mulN (quoN a b) b) < infF := Nat.lt_of_le_of_lt j2 z1
  have i1 := uF_le j1 hhi
  have i2 := uF_le j2 z1
  rw [w2] at i1
  rw [z2] at i2
  have e74 : 2 ^ 1074 = 4 * 2 ^ 1072 := by exact four_split 1074 1072 rfl
  refine ⟨?_, fun ho => ?_, ?_⟩
  · unfold dragN
    apply Nat.div_eq_of_lt_le
    · refine Nat.le_trans ?_ i1
      exact four_le e74
    · apply Nat.lt_of_le_of_lt i2
      exact four_lt e74 (two_pos 1072)
  · rw [ho, oneW_u.2] at v2
    have : 2 ^ 52 ≤ L + 1 := le_unit (pow_split (a := 1074) 52 1022 rfl) v2 (two_pos 1022)
    have h1 : 2 ^ 52 * b ≤ (L + 1) * b := Nat.mul_le_mul_right _ this
    rw [Nat.add_mul L 1, Nat.one_mul, Nat.mul_comm L b] at h1
    have h2 : b * 2 ^ 52 ≤ a * 2 ^ 52 + b := by rw [Nat.mul_comm b]; omega
    rcases Nat.lt_or_eq_of_le hab with h3 | h3
    · exfalso
      have h4 : (a + 1) * 2 ^ 52 ≤ b * 2 ^ 52 := Nat.mul_le_mul_right _ h3
      rw [Nat.succ_mul] at h4
      have : 2 ^ 52 = 4096 * 2 ^ 40 := rfl
      have := two_pos 40
      omega
    · exact h3
  · rcases Nat.eq_zero_or_pos (quoN a b) with h0 | h0
    · exfalso
      rw [h0, show uF 0 = 0 from by decide] at v1
      have hz : L = 0 := by
        rcases Nat.mul_eq_zero.1 (Nat.le_zero.1 v1) with h | h
        · exact h
        · have := two_pos 1022; omega
      rw [hz] at hbL2
      have : 1 * 2 ^ 52 ≤ a * 2 ^ 52 := Nat.mul_le_mul_right _ ha
      have : 2 ^ 52 = 4096 * 2 ^ 40 := rfl
      have := two_pos 40
      omega
    · exact h0
/-- a share rises with the top -/
theorem share_mono {a c b : Nat} (ha : 0 < a) (hac : a < c) (hcb : c ≤ b) (hb : b ≤ 2 ^ 40) : quoN a b < quoN c b := by
  obtain ⟨_, _, hup, _⟩ := quoN_pos ha (by omega) hb
  obtain ⟨_, _, _, hlo⟩ := quoN_pos (show 0 < c by omega) hcb hb
  have hdm := Nat.div_add_mod (a * 2 ^ 52) b
  have hmod := Nat.mod_lt (a * 2 ^ 52) (show 0 < b by omega)
  have hL : a * 2 ^ 52 / b ≤ 2 ^ 52 := Nat.div_le_of_le_mul (Nat.mul_le_mul_right _ (by omega))
  generalize a * 2 ^ 52 / b = L at *
  generalize a * 2 ^ 52 % b = R at *
  have hLu : L + 1 < 2 ^ 53 := by have : 2 ^ 53 = 2 ^ 52 + 2 ^ 52 := rfl; have := two_pos 52; have : 2 ^ 52 = 4503599627370496 := rfl; omega
  have h1 := hup (L + 1) hLu (by rw [Nat.add_mul L 1, Nat.one_mul, Nat.mul_comm L b]; omega)
  have h2 := hlo (L + 1) hLu (by
    have h4 : (a + 1) * 2 ^ 52 ≤ c * 2 ^ 52 := Nat.mul_le_mul_right _ hac
    rw [Nat.succ_mul] at h4
    rw [Nat.succ_mul, Nat.mul_comm L b]
    have : 2 ^ 52 = 4096 * 2 ^ 40 := rfl
    omega)
  rcases Nat.lt_or_eq_of_le (Nat.le_trans h1 h2) with h | h
  · exact h
  · have r1 := (round_law ha (by omega) hb).1
    have r2 := (round_law (show 0 < c by omega) hcb hb).1
    rw [h, r2] at r1
    omega
/-- a part of a number of rows -/
def partN (h x : Nat) : Nat := uF (Ieee.double.nearest false (uF (floatOfInt .f64 (h : Int)) * uF x) (-2148)) / 2 ^ 1074
theorem part_eq (h x : Nat) : Ieee.double.nearest false (uF (floatOfInt .f64 (h : Int)) * uF x) (-2148) = mulN x h := by unfold mulN; rw [Nat.mul_comm]
theorem part_law {h x : Nat} (hx : x ≤ oneW) (hh : h ≤ 2 ^ 40) :
    floatBits .mul .f64 (floatOfInt .f64 (h : Int)) x = some (mulN x h) ∧ floatToIntVal .f64 (mulN x h) .i64 = some ((partN h x : Nat) : Int) ∧ partN h x ≤ h := by
  have h53 : h < 2 ^ 53 := by have : 2 ^ 53 = 8192 * 2 ^ 40 := rfl; omega
  have hxi : x < infF := Nat.lt_of_le_of_lt hx oneW_u.1
  have m1 : mulN x h ≤ mulN oneW h := mulN_mono hx oneW_u.1
  have m2 : mulN x h < infF := Nat.lt_of_le_of_lt m1 (mulN_one hh).1
  have m3 := uF_le m1 (mulN_one hh).1
  rw [(mulN_one hh).2] at m3
  have m4 : partN h x ≤ h := by
    unfold partN
    rw [part_eq]
    exact Nat.div_le_of_le_mul (le_swap h 1074 m3)
  refine ⟨?_, ?_, m4⟩
  · rw [mul_u (ofInt_u h53).1 hxi, part_eq]
  · unfold partN
    rw [part_eq]
    refine cut_u m2 ?_
    unfold partN at m4
    rw [part_eq] at m4
    exact Nat.lt_of_le_of_lt m4 (by have : 2 ^ 63 = 8388608 * 2 ^ 40 := rfl; omega)
theorem partN_mono {x y h : Nat} (hxy : x ≤ y) (hy : y ≤ oneW) (hh : h ≤ 2 ^ 40) : partN h x ≤ partN h y := by
  unfold partN
  rw [part_eq, part_eq]
  have h1 : mulN y h ≤ mulN oneW h := mulN_mono hy oneW_u.1
  exact Nat.div_le_div_right (uF_le (mulN_mono hxy (Nat.lt_of_le_of_lt hy oneW_u.1)) (Nat.lt_of_le_of_lt h1 (mulN_one hh).1))
theorem part_half {h : Nat} (hh : h ≤ 2 ^ 40) : partN h halfW = h / 2 := by
  have h53 : h < 2 ^ 53 := by have : 2 ^ 53 = 8192 * 2 ^ 40 := rfl; omega
  have e0 : uF (floatOfInt .f64 (h : Int)) * uF halfW = h * 2 ^ 2147 := by
    rw [(ofInt_u h53).2, halfW_u.2]
    exact (mul_pow_split h 1074 1073 2147 rfl).symm
  have e1 : Ieee.double.nearest false (uF (floatOfInt .f64 (h : Int)) * uF halfW) (-2148) = Ieee.double.nearest false (h * 2 ^ 1073) (-1074) := by
    rw [e0]
    exact near_2148 h 2147 1073 rfl
  unfold partN
  rw [e1, (uF_rep h 1073 h53 (by have := log53 h53; omega)).2]
  exact half_div h 1074 1073 rfl
end Go.Proofs.Ytplgpnmahblhbaa
