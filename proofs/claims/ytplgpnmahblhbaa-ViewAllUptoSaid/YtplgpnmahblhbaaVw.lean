/- The walk of ViewRound. No condition. -/
import Derived.Test.YtplgpnmahblhbaaVu
namespace Go.Proofs.Ytplgpnmahblhbaa
open Go.RowKit
theorem quoN_self {b : Nat} (h : 0 < b) (hb : b ≤ 2 ^ 40) : quoN b b = oneW := by
  obtain ⟨_, h1, _, h2⟩ := quoN_pos h (Nat.le_refl b) hb
  have := h2 (2 ^ 52) (by decide) (by rw [Nat.mul_comm]; exact Nat.le_refl _)
  rw [show Ieee.double.nearest false (2 ^ 52) (-52) = oneW from by decide +kernel] at this
  omega
/-- a share as a number of rows: 0 at the top, 1 at the bottom and below it, between the two elsewhere -/
theorem share_facts (top height lines : Int) :
    (bF height lines = 0 ∧ shareF top height lines = 0) ∨ (0 < bF height lines ∧ tF top lines = 0 ∧ shareF top height lines = 0) ∨
    (0 < tF top lines ∧ tF top lines < bF height lines ∧ 0 < shareF top height lines ∧ shareF top height lines < oneW ∧ shareF top height lines = quoN (tF top lines).toNat (bF height lines).toNat ∧ dragN (shareF top height lines) (bF height lines).toNat = (tF top lines).toNat) ∨
    (0 < bF height lines ∧ bF height lines ≤ tF top lines ∧ shareF top height lines = oneW) := by
  have H1 := nF_bd lines
  have H2 := hF_bd height
  have H3 := tF_bd top lines
  have H4 : bF height lines = max (nF lines - hF height) 0 := rfl
  have hp : (2 : Nat) ^ 40 = 1099511627776 := rfl
  unfold shareF
  generalize bF height lines = b at *
  generalize tF top lines = t at *
  by_cases h0 : b = 0
  · exact .inl ⟨h0, by rw [if_pos h0]⟩
  · rw [if_neg h0]
    by_cases h1 : t = 0
    · exact .inr (.inl ⟨by omega, h1, by rw [if_pos h1]⟩)
    · rw [if_neg h1]
      by_cases h2 : t < b
      · rw [show min t b = t from by omega]
        obtain ⟨r1, r2, r3⟩ := round_law (a := t.toNat) (b := b.toNat) (by omega) (by omega) (by omega)
        have r4 := (quoN_pos (a := t.toNat) (b := b.toNat) (by omega) (by omega) (by omega)).2.1
        have r5 : quoN t.toNat b.toNat ≠ oneW := fun e => by have := r2 e; omega
        exact .inr (.inr (.inl ⟨by omega, h2, r3, by omega, rfl, r1⟩))
      · rw [show min t b = b from by omega]
        exact .inr (.inr (.inr ⟨by omega, by omega, quoN_self (by omega) (by omega)⟩))
theorem share_le (top height lines : Int) : shareF top height lines ≤ oneW := by
  have : 0 < oneW := by decide
  rcases share_facts top height lines with h | h | h | h <;> omega
theorem share_two {top other height lines : Int} (h : tF top lines < tF other lines) (h2 : tF other lines ≤ bF height lines) : shareF top height lines < shareF other height lines := by
  have hp : (2 : Nat) ^ 40 = 1099511627776 := rfl
  have ho : 0 < oneW := by decide
  have H1 := nF_bd lines
  have H2 := hF_bd height
  have H3 := tF_bd top lines
  have H4 : bF height lines = max (nF lines - hF height) 0 := rfl
  rcases share_facts top height lines with a | a | a | a <;> rcases share_facts other height lines with b | b | b | b <;> first | omega | skip
  obtain ⟨a1, a2, a3, a4, a5, a6⟩ := a
  obtain ⟨b1, b2, b3, b4, b5, b6⟩ := b
  rw [a5, b5]
  exact share_mono (by omega) (by omega) (by omega) (by omega)
theorem share_up {top other height lines : Int} (h : tF top lines < tF other lines) : shareF top height lines ≤ shareF other height lines := by
  by_cases h2 : tF other lines ≤ bF height lines
  · exact Nat.le_of_lt (share_two h h2)
  · have H1 := nF_bd lines
    have H2 := hF_bd height
    have H4 : bF height lines = max (nF lines - hF height) 0 := rfl
    have := share_le top height lines
    rcases share_facts other height lines with b | b | b | b <;> rcases share_facts top height lines with a | a | a | a <;> omega
theorem share_drag (top height lines : Int) : dragF (shareF top height lines) height lines = min (tF top lines) (bF height lines) := by
  have H1 := nF_bd lines
  have H2 := hF_bd height
  have H3 := tF_bd top lines
  have H4 : bF height lines = max (nF lines - hF height) 0 := rfl
  have hp0 : ¬ isPos 0 := fun h => absurd h.1 (by decide)
  rcases share_facts top height lines with a | a | a | a
  · rw [a.2, drag_low _ _ hp0]; omega
  · rw [a.2.2, drag_low _ _ hp0]; omega
  · obtain ⟨a1, a2, a3, a4, a5, a6⟩ := a
    rw [drag_mid height lines a3 a4, a6]; omega
  · rw [a.2.2, drag_top _ _ (Nat.le_refl _) oneW_le]; omega
end Go.Proofs.Ytplgpnmahblhbaa
