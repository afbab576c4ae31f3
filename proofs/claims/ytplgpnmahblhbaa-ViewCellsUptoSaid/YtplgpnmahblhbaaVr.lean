/- Plain law: the operations on 64-bit floats that are not negative, over what they stand for in units of 2^-1074; the order of all floats; the quotient between bounds. -/
import Derived.Test.YtplgpnmahblhbaaVq
namespace Go.Proofs.Ytplgpnmahblhbaa
theorem mul_u {x y : Nat} (hx : x < infF) (hy : y < infF) : floatBits .mul .f64 x y = some (Ieee.double.nearest false (uF x * uF y) (-2148)) := by
  obtain ⟨M, P, hr, hp, hu, _⟩ := read_u hx
  obtain ⟨N, Q, hr', hq, hu', _⟩ := read_u hy
  show ((Ieee.double.read x).product (Ieee.double.read y)).map Ieee.double.write = _
  rw [hr, hr', ← hu, ← hu']
  show some (Ieee.double.nearest (false ^^ false) (M * N) (P + Q)) = _
  rw [show (false ^^ false) = false from rfl]
  congr 1
  rw [show M * 2 ^ (P + 1074).toNat * (N * 2 ^ (Q + 1074).toNat) = M * N * 2 ^ ((P + 1074).toNat + (Q + 1074).toNat) from by rw [Nat.pow_add]; ac_rfl]
  exact (near_inv' _ _ _ _ (by omega)).symm
theorem add_u {x y : Nat} (hx : x < infF) (hy : y < infF) : floatBits .add .f64 x y = some (Ieee.double.nearest false (uF x + uF y) (-1074)) := by
  obtain ⟨M, P, hr, hp, hu, _⟩ := read_u hx
  obtain ⟨N, Q, hr', hq, hu', _⟩ := read_u hy
  show ((Ieee.double.read x).sum (Ieee.double.read y)).map Ieee.double.write = _
  rw [hr, hr', ← hu, ← hu']
  have e : (Ieee.Datum.number false M P).sum (Ieee.Datum.number false N Q) = some (.number false (M * 2 ^ (P - min P Q).toNat + N * 2 ^ (Q - min P Q).toNat) (min P Q)) := by
    show some (Ieee.Datum.number _ _ _) = _
    have t : Ieee.signed false M (P - min P Q).toNat + Ieee.signed false N (Q - min P Q).toNat = ((M * 2 ^ (P - min P Q).toNat + N * 2 ^ (Q - min P Q).toNat : Nat) : Int) := by
      unfold Ieee.signed
      rw [if_neg (by decide), if_neg (by decide), Nat.shiftLeft_eq, Nat.shiftLeft_eq]
      exact (Int.natCast_add _ _).symm
    rw [t, Int.natAbs_natCast]
    have n : ¬ (((M * 2 ^ (P - min P Q).toNat + N * 2 ^ (Q - min P Q).toNat : Nat) : Int) < 0) := by omega
    congr 2
    split
    · rfl
    · exact decide_eq_false n
  rw [e]
  show some (Ieee.double.nearest false _ _) = _
  congr 1
  have k1 : M * 2 ^ (P + 1074).toNat = M * 2 ^ (P - min P Q).toNat * 2 ^ (min P Q + 1074).toNat := by
    rw [Nat.mul_assoc, ← Nat.pow_add]; congr 2; omega
  have k2 : N * 2 ^ (Q + 1074).toNat = N * 2 ^ (Q - min P Q).toNat * 2 ^ (min P Q + 1074).toNat := by
    rw [Nat.mul_assoc, ← Nat.pow_add]; congr 2; omega
  rw [k1, k2, ← Nat.add_mul]
  exact (near_inv' _ _ _ _ (by omega)).symm
theorem cmp_lt {a b : Nat} (h : a < b) : compare (a : Int) (b : Int) = .lt := by
  show compareOfLessAndEq (a : Int) (b : Int) = _
  unfold compareOfLessAndEq
  rw [if_pos (by omega)]
theorem cmp_gt {a b : Nat} (h : b < a) : compare (a : Int) (b : Int) = .gt := by
  show compareOfLessAndEq (a : Int) (b : Int) = _
  unfold compareOfLessAndEq
  rw [if_neg (by omega), if_neg (by omega)]
theorem cmp_eq {a b : Nat} (h : a = b) : compare (a : Int) (b : Int) = .eq := by
  show compareOfLessAndEq (a : Int) (b : Int) = _
  unfold compareOfLessAndEq
  rw [if_neg (by omega), if_pos (by omega)]
theorem read_inf : Ieee.double.read infF = .infinity false := by decide +kernel
/-- the order of floats that are not negative is the one of their rungs -/
theorem order_u {x y : Nat} (hx : x ≤ infF) (hy : y ≤ infF) : Ieee.double.order x y = some (compare (x : Int) (y : Int)) := by
  show (Ieee.double.read x).order (Ieee.double.read y) = _
  rcases Nat.lt_or_eq_of_le hx with h1 | rfl
  · obtain ⟨M, P, hr, hp, hu, _⟩ := read_u h1
    rcases Nat.lt_or_eq_of_le hy with h2 | rfl
    · obtain ⟨N, Q, hr', hq, hu', _⟩ := read_u h2
      rw [hr, hr']
      show some (compare (Ieee.signed false M (P - min P Q).toNat) (Ieee.signed false N (Q - min P Q).toNat)) = _
      unfold Ieee.signed
      rw [if_neg (by decide), if_neg (by decide), Nat.shiftLeft_eq, Nat.shiftLeft_eq]
      have k1 : uF x = M * 2 ^ (P - min P Q).toNat * 2 ^ (min P Q + 1074).toNat := by
        rw [← hu, Nat.mul_assoc, ← Nat.pow_add]; congr 2; omega
      have k2 : uF y = N * 2 ^ (Q - min P Q).toNat * 2 ^ (min P Q + 1074).toNat := by
        rw [← hu', Nat.mul_assoc, ← Nat.pow_add]; congr 2; omega
      have hpos := two_pos (min P Q + 1074).toNat
      rcases Nat.lt_trichotomy x y with h | h | h
      · have := uF_lt h h2
        rw [k1, k2] at this
        rw [cmp_lt h, cmp_lt (Nat.lt_of_mul_lt_mul_right this)]
      · have : uF x = uF y := by rw [h]
        rw [k1, k2] at this
        rw [cmp_eq h, cmp_eq (Nat.eq_of_mul_eq_mul_right hpos this)]
      · have := uF_lt h h1
        rw [k1, k2] at this
        rw [cmp_gt h, cmp_gt (Nat.lt_of_mul_lt_mul_right this)]
    · rw [hr, read_inf, cmp_lt h1]; rfl
  · rcases Nat.lt_or_eq_of_le hy with h2 | rfl
    · obtain ⟨N, Q, hr', hq, hu', _⟩ := read_u h2
      rw [hr', read_inf, cmp_gt h2]; rfl
    · rw [read_inf, cmp_eq rfl]; rfl
/-- below zero, minus zero too -/
theorem read_neg {r : Nat} (h : r ≤ infF) : (∃ M P, Ieee.double.read (2 ^ 63 + r) = .number true M P ∧ (M = 0 → r = 0) ∧ -1074 ≤ P) ∨ (Ieee.double.read (2 ^ 63 + r) = .infinity true ∧ r = infF) := by
  unfold infF at h
  unfold Ieee.Format.read
  have hb : Ieee.double.binade = 2 ^ 52 := rfl
  have hp : Ieee.double.leastPlace = -1074 := by decide
  have hi : Ieee.double.infRung = 2047 * 2 ^ 52 := by decide
  have hs : Ieee.double.signWeight = 2 ^ 63 := rfl
  simp only [hb, hp, hi, hs]
  have e1 : (2 ^ 63 + r) / 2 ^ 63 = 1 := by omega
  have e2 : (2 ^ 63 + r) % 2 ^ 63 = r := by omega
  rw [e1, e2]
  by_cases h1 : r < 2 ^ 52
  · rw [if_pos h1]; exact .inl ⟨_, _, rfl, id, by omega⟩
  · rw [if_neg h1]
    by_cases h2 : r < 2047 * 2 ^ 52
    · rw [if_pos h2]; exact .inl ⟨_, _, rfl, fun _ => by have := two_pos 52; omega, by omega⟩
    · rw [if_neg h2, if_pos (by omega)]; exact .inr ⟨rfl, by unfold infF; omega⟩
theorem read_nan {x : Nat} (h1 : infF < x % 2 ^ 63) : ∃ s f, Ieee.double.read x = .nan s f := by
  unfold infF at h1
  unfold Ieee.Format.read
  have hb : Ieee.double.binade = 2 ^ 52 := rfl
  have hp : Ieee.double.leastPlace = -1074 := by decide
  have hi : Ieee.double.infRung = 2047 * 2 ^ 52 := by decide
  have hs : Ieee.double.signWeight = 2 ^ 63 := rfl
  simp only [hb, hp, hi, hs]
  rw [if_neg (by omega), if_neg (by omega), if_neg (by omega)]
  exact ⟨_, _, rfl⟩
theorem order_nan {x : Nat} (y : Nat) (h1 : infF < x % 2 ^ 63) : Ieee.double.order x y = none ∧ Ieee.double.order y x = none := by
  obtain ⟨s, f, hr⟩ := read_nan h1
  constructor
  · show (Ieee.double.read x).order (Ieee.double.read y) = _
    rw [hr]; rfl
  · show (Ieee.double.read y).order (Ieee.double.read x) = _
    rw [hr]
    cases Ieee.double.read y <;> rfl
/-- a negative float is not above zero, and below every float that is above zero -/
theorem order_neg {r y : Nat} (h : r ≤ infF) (hy : y ≤ infF) : (Ieee.double.order (2 ^ 63 + r) y = some .lt ∧ Ieee.double.order y (2 ^ 63 + r) = some .gt) ∨ (r = 0 ∧ y = 0 ∧ Ieee.double.order (2 ^ 63 + r) y = some .eq ∧ Ieee.double.order y (2 ^ 63 + r) = some .eq) := by
  have hO : ∀ a b, Ieee.double.order a b = (Ieee.double.read a).order (Ieee.double.read b) := fun _ _ => rfl
  rw [hO, hO]
  rcases read_neg h with ⟨M, P, hr, h0, hp⟩ | ⟨hr, rfl⟩
  · rw [hr]
    rcases Nat.lt_or_eq_of_le hy with h2 | rfl
    · obtain ⟨N, Q, hr', hq, hu', _⟩ := read_u h2
      rw [hr']
      have o1 : (Ieee.Datum.number true M P).order (Ieee.Datum.number false N Q) = some (compare (-((M * 2 ^ (P - min P Q).toNat : Nat) : Int)) ((N * 2 ^ (Q - min P Q).toNat : Nat) : Int)) := by
        show some (compare (Ieee.signed true M (P - min P Q).toNat) (Ieee.signed false N (Q - min P Q).toNat)) = _
        unfold Ieee.signed
        rw [if_pos rfl, if_neg (by decide), Nat.shiftLeft_eq, Nat.shiftLeft_eq]
      have o2 : (Ieee.Datum.number false N Q).order (Ieee.Datum.number true M P) = some (compare ((N * 2 ^ (Q - min P Q).toNat : Nat) : Int) (-((M * 2 ^ (P - min P Q).toNat : Nat) : Int))) := by
        show some (compare (Ieee.signed false N (Q - min Q P).toNat) (Ieee.signed true M (P - min Q P).toNat)) = _
        unfold Ieee.signed
        rw [if_pos rfl, if_neg (by decide), Nat.shiftLeft_eq, Nat.shiftLeft_eq, show min Q P = min P Q from by omega]
      rw [o1, o2]
      have p1 := two_pos (P - min P Q).toNat
      have p2 := two_pos (Q - min P Q).toNat
      have p3 := two_pos (Q + 1074).toNat
      by_cases hz : M * 2 ^ (P - min P Q).toNat = 0 ∧ N * 2 ^ (Q - min P Q).toNat = 0
      · right
        have hM : M = 0 := by rcases Nat.mul_eq_zero.1 hz.1 with h | h; exact h; omega
        have hN : N = 0 := by rcases Nat.mul_eq_zero.1 hz.2 with h | h; exact h; omega
        rw [hz.1, hz.2]
        refine ⟨h0 hM, ?_, rfl, rfl⟩
        subst hN
        rw [Nat.zero_mul] at hu'
        exact uF_inj h2 (by decide) (hu'.symm.trans (by decide))
      · left
        generalize M * 2 ^ (P - min P Q).toNat = A at *
        generalize N * 2 ^ (Q - min P Q).toNat = B at *
        constructor
        · show some (compareOfLessAndEq _ _) = _
          unfold compareOfLessAndEq
          rw [if_pos (by omega)]
        · show some (compareOfLessAndEq _ _) = _
          unfold compareOfLessAndEq
          rw [if_neg (by omega), if_neg (by omega)]
    · rw [read_inf]; exact .inl ⟨rfl, rfl⟩
  · rw [hr]
    rcases Nat.lt_or_eq_of_le hy with h2 | rfl
    · obtain ⟨N, Q, hr', hq, hu', _⟩ := read_u h2
      rw [hr']; exact .inl ⟨rfl, rfl⟩
    · rw [read_inf]; exact .inl ⟨rfl, rfl⟩
theorem order_self_neg {r : Nat} (h : r ≤ infF) : Ieee.double.order (2 ^ 63 + r) (2 ^ 63 + r) = some .eq := by
  have hO : ∀ a b, Ieee.double.order a b = (Ieee.double.read a).order (Ieee.double.read b) := fun _ _ => rfl
  rw [hO]
  rcases read_neg h with ⟨M, P, hr, _, _⟩ | ⟨hr, _⟩
  · rw [hr]
    show some (compareOfLessAndEq _ _) = _
    unfold compareOfLessAndEq
    rw [if_neg (by omega), if_pos rfl]
  · rw [hr]; rfl
/-- cut to an int -/
theorem cut_u {x : Nat} (hx : x < infF) (hb : uF x / 2 ^ 1074 < 2 ^ 63) : floatToIntVal .f64 x .i64 = some ((uF x / 2 ^ 1074 : Nat) : Int) := by
  obtain ⟨M, P, hr, hp, hu, _⟩ := read_u hx
  have key : Ieee.Toward.zero.cut false (M <<< P.toNat) (-P).toNat = uF x / 2 ^ 1074 := by
    unfold Ieee.Toward.cut
    simp only [Bool.toNat_false, Nat.add_zero, Nat.shiftLeft_eq, Nat.one_mul]
    have e : M * 2 ^ P.toNat / 2 ^ (-P).toNat = uF x / 2 ^ 1074 := by
      rw [← hu]
      rcases Int.le_total 0 P with h | h
      · rw [show (-P).toNat = 0 from by omega, show (P + 1074).toNat = P.toNat + 1074 from by omega, Nat.pow_add, ← Nat.mul_assoc, Nat.mul_div_cancel _ (two_pos 1074), Nat.pow_zero, Nat.div_one]
      · rw [show P.toNat = 0 from by omega, Nat.pow_zero, Nat.mul_one]
        have : (1074 : Nat) = (-P).toNat + (P + 1074).toNat := by omega
        rw [this, Nat.pow_add, Nat.mul_div_mul_right _ _ (two_pos _)]
    by_cases hd : (-P).toNat ≤ (M * 2 ^ P.toNat).log2 + 2
    · rw [Nat.min_eq_left hd, e]
    · rw [Nat.min_eq_right (by omega), ← e]
      have h1 : M * 2 ^ P.toNat < 2 ^ ((M * 2 ^ P.toNat).log2 + 1) := Nat.lt_log2_self
      have h2 : 2 ^ ((M * 2 ^ P.toNat).log2 + 1) ≤ 2 ^ ((M * 2 ^ P.toNat).log2 + 2) := Nat.pow_le_pow_right (by omega) (by omega)
      have h3 : 2 ^ ((M * 2 ^ P.toNat).log2 + 2) ≤ 2 ^ (-P).toNat := Nat.pow_le_pow_right (by omega) (by omega)
      rw [Nat.div_eq_of_lt (Nat.lt_of_lt_of_le h1 h2), Nat.div_eq_of_lt (Nat.lt_of_lt_of_le h1 (Nat.le_trans h2 h3))]
  have hi : (FloatKind.f64.decode x).toInt .zero = some ((uF x / 2 ^ 1074 : Nat) : Int) := by
    show (Ieee.double.read x).toInt .zero = _
    rw [hr]
    show some (Ieee.signed false (Ieee.Toward.zero.cut false (M <<< P.toNat) (-P).toNat) 0) = _
    rw [key]
    unfold Ieee.signed
    rw [if_neg (by decide), Nat.shiftLeft_zero]
  unfold floatToIntVal
  rw [hi]
  generalize uF x / 2 ^ 1074 = z at *
  show (if IntKind.i64.min ≤ (z : Int) ∧ (z : Int) ≤ IntKind.i64.max then some (z : Int) else none) = _
  have e1 : IntKind.i64.min = -9223372036854775808 := by decide
  have e2 : IntKind.i64.max = 9223372036854775807 := by decide
  rw [e1, e2, if_pos (by omega)]
theorem quo_le {D N t : Nat} (h : D ≤ t * N) : 2 * (D / N) + (D % N != 0).toNat ≤ 2 * t := by
  have h1 := Nat.div_add_mod D N
  by_cases h2 : D % N = 0
  · have : D / N ≤ t := Nat.div_le_of_le_mul (by rw [Nat.mul_comm]; exact h)
    rw [h2]; simp; omega
  · have h3 : D / N < t := by
      rcases Nat.lt_or_ge (D / N) t with h4 | h4
      · exact h4
      · have := Nat.mul_le_mul_left N h4
        rw [Nat.mul_comm N t] at this
        omega
    have h4 : (D % N != 0).toNat ≤ 1 := Bool.toNat_le _
    omega
theorem le_quo {D N t : Nat} (hN : 0 < N) (h : t * N ≤ D) : 2 * t ≤ 2 * (D / N) + (D % N != 0).toNat := by
  have : t ≤ D / N := (Nat.le_div_iff_mul_le hN).2 h
  omega
/-- the quotient lies between all bounds 'u / 2 ^ k' that are not too fine -/
theorem div_u {x y : Nat} (hx : x < infF) (hy : y < infF) (h0 : 0 < uF x) (h1 : 0 < uF y) : ∃ q, floatBits .quo .f64 x y = some q ∧
    (∀ u k : Nat, k + (uF x).log2 ≤ 54 + (uF y).log2 → uF x * 2 ^ k ≤ u * uF y → q ≤ Ieee.double.nearest false u (-(k : Int))) ∧
    (∀ u k : Nat, k + (uF x).log2 ≤ 54 + (uF y).log2 → u * uF y ≤ uF x * 2 ^ k → Ieee.double.nearest false u (-(k : Int)) ≤ q) := by
  obtain ⟨M, P, hr, hp, hu, hM⟩ := read_u hx
  obtain ⟨N, Q, hr', hq, hu', hN⟩ := read_u hy
  have m0 : 0 < M := by
    rcases Nat.eq_zero_or_pos M with rfl | h
    · rw [Nat.zero_mul] at hu; omega
    · exact h
  have n0 : 0 < N := by
    rcases Nat.eq_zero_or_pos N with rfl | h
    · rw [Nat.zero_mul] at hu'; omega
    · exact h
  have lM : M.log2 < 53 := (Nat.log2_lt (by omega)).2 hM
  have lx : (uF x).log2 = M.log2 + (P + 1074).toNat := by rw [← hu, log2_mul m0]
  have ly : (uF y).log2 = N.log2 + (Q + 1074).toNat := by rw [← hu', log2_mul n0]
  have hf : Ieee.double.fractionBits + 2 = 54 := rfl
  have e : floatBits .quo .f64 x y = some (Ieee.double.nearest false (2 * (M <<< (54 + N.log2 - M.log2) / N) + (M <<< (54 + N.log2 - M.log2) % N != 0).toNat) (P - Q - ((54 + N.log2 - M.log2 : Nat) : Int) - 1)) := by
    show ((Ieee.double.read x).quotient (Ieee.double.fractionBits + 2) (Ieee.double.read y)).map Ieee.double.write = _
    rw [hr, hr', hf]
    show Option.map _ (if N = 0 then (if M = 0 then none else some (Ieee.Datum.infinity (false ^^ false))) else _) = _
    rw [if_neg (by omega)]
    rfl
  have hmore : ∃ g, 54 + N.log2 - M.log2 = g ∧ g + M.log2 = 54 + N.log2 := ⟨_, rfl, by omega⟩
  obtain ⟨g, hg, hg'⟩ := hmore
  rw [hg, Nat.shiftLeft_eq] at e
  refine ⟨_, e, fun u k hk hle => ?_, fun u k hk hle => ?_⟩
  all_goals
    rw [lx, ly] at hk
    obtain ⟨j, hj⟩ : ∃ j : Nat, (j : Int) = (g : Int) + Q - P - k := ⟨((g : Int) + Q - P - k).toNat, by omega⟩
    have hin := near_inv' u (j + 1) (-(k : Int)) (P - Q - (g : Int) - 1) (by omega)
    rw [← hin]
    apply near_mono
    rw [show u * 2 ^ (j + 1) = 2 * (u * 2 ^ j) from by rw [Nat.pow_succ]; ac_rfl]
    rw [← hu, ← hu'] at hle
    have e1 : 2 ^ g * 2 ^ ((P + 1074).toNat + k) = 2 ^ (P + 1074).toNat * 2 ^ k * 2 ^ g := by rw [Nat.pow_add]; ac_rfl
    have e2 : 2 ^ j * 2 ^ ((P + 1074).toNat + k) = 2 ^ (Q + 1074).toNat * 2 ^ g := by
      rw [← Nat.pow_add, ← Nat.pow_add]; congr 1; omega
  · apply quo_le
    apply Nat.le_of_mul_le_mul_right (c := 2 ^ ((P + 1074).toNat + k)) _ (two_pos _)
    calc M * 2 ^ g * 2 ^ ((P + 1074).toNat + k) = M * 2 ^ (P + 1074).toNat * 2 ^ k * 2 ^ g := by rw [Nat.mul_assoc, e1]; ac_rfl
      _ ≤ u * (N * 2 ^ (Q + 1074).toNat) * 2 ^ g := Nat.mul_le_mul_right _ hle
      _ = u * 2 ^ j * N * 2 ^ ((P + 1074).toNat + k) := by
        rw [show u * 2 ^ j * N * 2 ^ ((P + 1074).toNat + k) = u * N * (2 ^ j * 2 ^ ((P + 1074).toNat + k)) from by ac_rfl, e2]; ac_rfl
  · apply le_quo n0
    apply Nat.le_of_mul_le_mul_right (c := 2 ^ ((P + 1074).toNat + k)) _ (two_pos _)
    calc u * 2 ^ j * N * 2 ^ ((P + 1074).toNat + k) = u * (N * 2 ^ (Q + 1074).toNat) * 2 ^ g := by
          rw [show u * 2 ^ j * N * 2 ^ ((P + 1074).toNat + k) = u * N * (2 ^ j * 2 ^ ((P + 1074).toNat + k)) from by ac_rfl, e2]; ac_rfl
      _ ≤ M * 2 ^ (P + 1074).toNat * 2 ^ k * 2 ^ g := Nat.mul_le_mul_right _ hle
      _ = M * 2 ^ g * 2 ^ ((P + 1074).toNat + k) := by rw [Nat.mul_assoc M (2 ^ g), e1]; ac_rfl
theorem div_zero_u {y : Nat} (hy : y < infF) (h1 : 0 < uF y) : floatBits .quo .f64 0 y = some 0 := by
  obtain ⟨M, P, hr, hp, hu, hM⟩ := read_u (show 0 < infF by decide)
  obtain ⟨N, Q, hr', hq, hu', hN⟩ := read_u hy
  have n0 : 0 < N := by
    rcases Nat.eq_zero_or_pos N with rfl | h
    · rw [Nat.zero_mul] at hu'; omega
    · exact h
  have m0 : M = 0 := by
    have : uF 0 = 0 := by decide
    rw [this] at hu
    rcases Nat.mul_eq_zero.1 hu with h | h
    · exact h
    · have := two_pos (P + 1074).toNat; omega
  subst m0
  show ((Ieee.double.read 0).quotient (Ieee.double.fractionBits + 2) (Ieee.double.read y)).map Ieee.double.write = _
  rw [hr, hr']
  show Option.map _ (if N = 0 then (if 0 = 0 then none else some (Ieee.Datum.infinity (false ^^ false))) else _) = _
  rw [if_neg (by omega)]
  show some (Ieee.double.nearest false (2 * (0 <<< _ / N) + (0 <<< _ % N != 0).toNat) _) = _
  rw [Nat.zero_shiftLeft, Nat.zero_div, Nat.zero_mod]
  show some (Ieee.double.nearest false 0 _) = _
  rw [near_zero]
end Go.Proofs.Ytplgpnmahblhbaa
