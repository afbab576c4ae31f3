/- Contracts: the lists that the statements of chapter 3 make. Condition: fewer than 2^32 members. -/
import Derived.Test.YtplgpnmahblhbaaCh
namespace Go.Proofs.Ytplgpnmahblhbaa
open Go.RowKit
/-- the members of a list that came in -/
def lst (f : Nat → Int) (n : Nat) : List Int := (List.range n).map f
theorem lst_succ (f : Nat → Int) (n : Nat) : lst f (n + 1) = lst f n ++ [f n] := by unfold lst; rw [List.range_succ, List.map_append]; rfl
theorem lst_len (f : Nat → Int) (n : Nat) : (lst f n).length = n := by simp [lst]
theorem lst_get (l : List Int) : lst (fun i => l.getD i 0) l.length = l := by
  apply List.ext_getElem
  · simp [lst]
  · intro i h1 h2
    simp [lst, List.getElem?_eq_getElem h2]
theorem lst_congr {f g : Nat → Int} {n : Nat} (h : ∀ i, i < n → f i = g i) : lst f n = lst g n := by
  unfold lst; apply List.map_congr_left; intro i hi; exact h i (List.mem_range.1 hi)
theorem lst_getD (f : Nat → Int) (n i : Nat) (h : i < n) : (lst f n).getD i 0 = f i := by
  rw [List.getD_eq_getElem?_getD, List.getElem?_eq_getElem (by rw [lst_len]; exact h)]; simp [lst]
theorem lst_ext {f g : Nat → Int} {n : Nat} (h : lst f n = lst g n) (i : Nat) (hi : i < n) : f i = g i := by
  rw [← lst_getD f n i hi, ← lst_getD g n i hi, h]
theorem own_push2 {w w1 : World} {base : Nat} {v v' : Value} {l : List Int} {k : Int} (ho : OwnInts w base v l)
    (hown : w1.ownsRow base 3 1 v' (l.length + 1) (l.map (Value.int .i64) ++ [.int .i64 k])) (hgrow : (w.alloc (.cells #[.int .i64 k] 3)).grownBy w1 v.ownBlock) (hbase : base ≤ w.heap.size) :
    OwnInts w1 base v' (l ++ [k]) ∧ Below base w w1 ∧ (∀ b t u, IsBox w b t u → t ≠ 3 → IsBox w1 b t u) ∧ ∃ s n c, v' = .slice s n c ∧ n = l.length + 1 := by
  obtain ⟨h1, h2, h3, s, c, h4⟩ := own_push ho hown hgrow hbase
  exact ⟨h1, h2, h3, s, _, c, h4, rfl⟩
end Go.Proofs.Ytplgpnmahblhbaa
