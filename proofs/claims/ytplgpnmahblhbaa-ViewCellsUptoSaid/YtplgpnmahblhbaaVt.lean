/- Contract: view.Percent answers the whole quotient; no walk of a law here. No condition. -/
import Derived.Test.YtplgpnmahblhbaaVs
import Derived.Test.YtplgpnmahblhbaaVe
namespace Go.Proofs.Ytplgpnmahblhbaa
open Go.RowKit
/-- the percent -/
def pctF (line lines : Int) : Int := 100 * (tF line lines + 1) / nF lines
theorem percent_c (line lines : Int) (w : World) :
    Calls Try.prog 16 #[.int .i64 line, .int .i64 lines] w fun e w' => e = .returned (.int .i64 (pctF line lines)) ∧ Below w.heap.size w w' := by
  have H1 := nF_bd lines
  have H3 := tF_bd line lines
  obtain ⟨q, hq, hr⟩ := percent_law (A := (100 * (tF line lines + 1)).toNat) (n := (nF lines).toNat) (by omega) (by omega) (by have : (2 : Nat) ^ 40 = 1099511627776 := rfl; omega) (by omega)
  have e1 : (((100 * (tF line lines + 1)).toNat : Nat) : Int) = 100 * (tF line lines + 1) := by omega
  have e2 : (((nF lines).toNat : Nat) : Int) = nF lines := by omega
  rw [e1, e2] at hq
  have e3 : (((100 * (tF line lines + 1)).toNat / (nF lines).toNat : Nat) : Int) = pctF line lines := by
    rw [Int.natCast_ediv, e1, e2]; rfl
  rw [e3] at hr
  exact percent_any line lines q _ w hq hr
theorem pctF_facts (line lines : Int) : 0 ≤ pctF line lines ∧ pctF line lines ≤ 100 ∧ pctF line lines * nF lines ≤ 100 * (tF line lines + 1) ∧ 100 * (tF line lines + 1) < (pctF line lines + 1) * nF lines ∧
    (pctF line lines = 100 ↔ tF line lines = nF lines - 1) ∧ 0 ≤ pctF line lines * nF lines := by
  have H1 := nF_bd lines
  have H3 := tF_bd line lines
  unfold pctF
  generalize tF line lines = t at *
  generalize nF lines = n at *
  have h1 := Int.emod_add_mul_ediv (100 * (t + 1)) n
  have h2 := Int.emod_lt_of_pos (100 * (t + 1)) (show 0 < n by omega)
  have h3 := Int.emod_nonneg (100 * (t + 1)) (show n ≠ 0 by omega)
  have h4 : 0 ≤ 100 * (t + 1) / n := Int.ediv_nonneg (by omega) (by omega)
  have h5 : 100 * (t + 1) / n ≤ 100 := by
    apply Int.le_of_lt_add_one
    rw [Int.ediv_lt_iff_lt_mul (by omega)]
    omega
  generalize 100 * (t + 1) % n = r at *
  generalize 100 * (t + 1) / n = p at *
  have c1 : n * p = p * n := Int.mul_comm _ _
  rw [c1] at h1
  have c2 : (p + 1) * n = p * n + n := by rw [Int.add_mul, Int.one_mul]
  rw [c2]
  refine ⟨h4, h5, by omega, by omega, ⟨fun hp => ?_, fun ht => ?_⟩, Int.mul_nonneg h4 (by omega)⟩
  · subst hp; omega
  · rcases Int.lt_or_eq_of_le h5 with h | h
    · exfalso
      have : p * n ≤ 99 * n := Int.mul_le_mul_of_nonneg_right (by omega) (by omega)
      omega
    · exact h
end Go.Proofs.Ytplgpnmahblhbaa
