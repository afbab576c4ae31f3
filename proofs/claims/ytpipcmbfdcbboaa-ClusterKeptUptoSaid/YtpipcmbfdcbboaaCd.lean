/- Plain law: where clusters end, and what a caller that is told the boundaries one by one comes to. No condition. -/
import Derived.Test.YtpipcmbfdcbboaaCa
namespace Go.Proofs.Ytpipcmbfdcbboaa
/-- the end of a cluster, of which the atoms below k are known, of m atoms more -/
def extK (f : Nat → Int) : Nat → Sc → Nat → Nat
  | 0, _, k => k
  | m + 1, s, k => if joinsB s (classF (f k)) (conjF (f k)) then extK f m (takeF s (f k)) (k + 1) else k
def nextB (f : Nat → Int) (n i : Nat) : Nat := extK f (n - (i + 1)) (beginF (f i)) (i + 1)
theorem extK_bd (f : Nat → Int) : ∀ m s k, k ≤ extK f m s k ∧ extK f m s k ≤ k + m := by
  intro m
  induction m with
  | zero => intro s k; exact ⟨Nat.le_refl _, Nat.le_refl _⟩
  | succ m ih =>
    intro s k
    unfold extK
    split
    · have := ih (takeF s (f k)) (k + 1); omega
    · omega
theorem nextB_bd (f : Nat → Int) (n i : Nat) (h : i < n) : i < nextB f n i ∧ nextB f n i ≤ n := by
  have := extK_bd f (n - (i + 1)) (beginF (f i)) (i + 1)
  unfold nextB; omega
/-- the boundaries above i -/
def walkL (f : Nat → Int) (n : Nat) : Nat → Nat → List Nat
  | 0, _ => []
  | m + 1, i => if i < n then nextB f n i :: walkL f n m (nextB f n i) else []
theorem walkL_fuel (f : Nat → Int) (n : Nat) : ∀ m m' i, n - i ≤ m → n - i ≤ m' → walkL f n m i = walkL f n m' i := by
  intro m
  induction m with
  | zero =>
    intro m' i h h'
    cases m' with
    | zero => rfl
    | succ m' => unfold walkL; rw [if_neg (by omega)]
  | succ m ih =>
    intro m' i h h'
    cases m' with
    | zero => unfold walkL; rw [if_neg (by omega)]
    | succ m' =>
      unfold walkL
      by_cases hi : i < n
      · have := nextB_bd f n i hi
        rw [if_pos hi, if_pos hi, ih m' _ (by omega) (by omega)]
      · rw [if_neg hi, if_neg hi]
/-- the boundaries above i, whole -/
def bounds (f : Nat → Int) (n i : Nat) : List Nat := walkL f n (n - i) i
theorem bounds_step (f : Nat → Int) (n i : Nat) (h : i < n) : bounds f n i = nextB f n i :: bounds f n (nextB f n i) := by
  have hb := nextB_bd f n i h
  unfold bounds
  rw [walkL_fuel f n (n - i) (n - i - 1 + 1) i (by omega) (by omega)]
  rw [walkL, if_pos h, walkL_fuel f n (n - i - 1) (n - nextB f n i) _ (by omega) (by omega)]
theorem bounds_end (f : Nat → Int) (n i : Nat) (h : n ≤ i) : bounds f n i = [] := by
  unfold bounds; rw [show n - i = 0 from by omega]; rfl
def runY {σ : Type} (Y : σ → Nat → σ × Bool) : σ → List Nat → σ
  | s, [] => s
  | s, k :: r => if (Y s k).2 then runY Y (Y s k).1 r else (Y s k).1
end Go.Proofs.Ytpipcmbfdcbboaa
