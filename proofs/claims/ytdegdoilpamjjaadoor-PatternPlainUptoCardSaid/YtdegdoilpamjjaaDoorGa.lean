/- Plain law: the hexadecimal reader of the glyph tables, and the search by halves, as Lean functions. No condition. -/
import Derived.WalkKit
namespace Go.Proofs.YtdegdoilpamjjaaDoor
/-- one digit -/
def hexD (c : UInt8) : Int := if 57 < (c.toNat : Int) then (c.toNat : Int) - 65 + 10 else (c.toNat : Int) - 48
def hexN (l : List UInt8) : Int := l.foldl (fun n c => n * 16 + hexD c) 0
def hexOk (l : List UInt8) : Bool := l.all fun c => decide (48 ≤ c.toNat) && decide (c.toNat ≤ 70)
theorem hexN_snoc (l : List UInt8) (c : UInt8) : hexN (l ++ [c]) = hexN l * 16 + hexD c := by
  simp [hexN, List.foldl_append]
theorem hexD_bd (c : UInt8) (h : 48 ≤ c.toNat) (h' : c.toNat ≤ 70) : 0 ≤ hexD c ∧ hexD c ≤ 15 := by
  unfold hexD; split <;> omega
theorem hexOk_get {l : List UInt8} (h : hexOk l = true) (i : Nat) (hi : i < l.length) : 48 ≤ (l[i]).toNat ∧ (l[i]).toNat ≤ 70 := by
  have := List.all_eq_true.1 h _ (List.getElem_mem hi)
  simpa using this
theorem hexOk_take {l : List UInt8} (h : hexOk l = true) (n : Nat) : hexOk (l.take n) = true := by
  unfold hexOk at *; rw [List.all_eq_true] at *
  intro x hx; exact h x (List.mem_of_mem_take hx)
theorem hexOk_drop {l : List UInt8} (h : hexOk l = true) (n : Nat) : hexOk (l.drop n) = true := by
  unfold hexOk at *; rw [List.all_eq_true] at *
  intro x hx; exact h x (List.mem_of_mem_drop hx)
theorem hexN_bd : ∀ (n : Nat) (l : List UInt8), l.length = n → hexOk l = true → 0 ≤ hexN l ∧ hexN l < 16 ^ n := by
  intro n
  induction n with
  | zero => intro l hl _; rw [List.length_eq_zero_iff.1 hl]; simp [hexN]
  | succ n ih =>
    intro l hl hk
    have hl' : l = l.take n ++ [l[n]'(by omega)] := by
      rw [← List.take_succ_eq_append_getElem (by omega)]; exact (List.take_of_length_le (by omega)).symm
    have h1 := ih (l.take n) (by simp; omega) (hexOk_take hk n)
    have h2 := hexOk_get hk n (by omega)
    have h3 := hexD_bd _ h2.1 h2.2
    rw [hl', hexN_snoc, Int.pow_succ]
    omega
theorem hexN_bd5 {l : List UInt8} (h : l.length ≤ 5) (hk : hexOk l = true) : 0 ≤ hexN l ∧ hexN l ≤ 1048575 := by
  have h1 := hexN_bd l.length l rfl hk
  have : l.length = 0 ∨ l.length = 1 ∨ l.length = 2 ∨ l.length = 3 ∨ l.length = 4 ∨ l.length = 5 := by omega
  rcases this with e | e | e | e | e | e <;> rw [e] at h1 <;> simp at h1 <;> omega
/-- the search by halves among rows of eleven letters -/
def rowFst (l : List UInt8) (m : Nat) : Int := hexN ((l.drop (m * 11)).take 5)
def rowLst (l : List UInt8) (m : Nat) : Int := hexN ((l.drop (m * 11 + 5)).take 5)
def rowNum (l : List UInt8) (m : Nat) : Int := hexN ((l.drop (m * 11 + 10)).take 1)
def soughtF : Nat → List UInt8 → Int → Nat → Nat → Int
  | 0, _, _, _, _ => 0
  | f + 1, l, a, lo, hi =>
    if lo < hi then
      if a < rowFst l ((lo + hi) / 2) then soughtF f l a lo ((lo + hi) / 2)
      else if rowLst l ((lo + hi) / 2) < a then soughtF f l a ((lo + hi) / 2 + 1) hi
      else rowNum l ((lo + hi) / 2)
    else 0
theorem soughtF_end (f : Nat) (l : List UInt8) (a : Int) (lo hi : Nat) (h : ¬ lo < hi) : soughtF f l a lo hi = 0 := by
  cases f <;> simp [soughtF, h]
theorem extr (s : ByteArray) (a b : Nat) : (s.extract a b).data.toList = (s.data.toList.take b).drop a := by
  simp [List.drop_take]
theorem extr_size (s : ByteArray) (a b : Nat) : (s.extract a b).size = min b s.size - a := by simp
theorem ba_ext {a b : ByteArray} (h : a.data.toList = b.data.toList) : a = b := by
  cases a; cases b; simp at h; rw [h]
theorem row_sub (s : ByteArray) (m a b : Nat) (hb : b ≤ 11) :
    ((s.extract (m * 11) ((m + 1) * 11)).extract a b).data.toList = (s.data.toList.drop (m * 11 + a)).take (b - a) := by
  rw [extr, extr, List.take_drop, List.drop_drop, List.take_take, List.take_drop]
  have h1 : m * 11 + b = min (m * 11 + b) ((m + 1) * 11) := by omega
  by_cases hab : a ≤ b
  · rw [← h1, show m * 11 + a + (b - a) = m * 11 + b from by omega]
  · rw [← h1, List.drop_eq_nil_of_le (by simp; omega), List.drop_eq_nil_of_le (by simp; omega)]
theorem row_sub_size (s : ByteArray) (m a b : Nat) (hb : b ≤ 11) (hab : a ≤ b) (hm : 11 * (m + 1) ≤ s.size) :
    ((s.extract (m * 11) ((m + 1) * 11)).extract a b).size = b - a := by
  simp; omega
end Go.Proofs.YtdegdoilpamjjaaDoor
