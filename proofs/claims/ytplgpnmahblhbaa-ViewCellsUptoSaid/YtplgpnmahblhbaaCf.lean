/- Contracts: cluster.Count, Column, Offset and what they hand to walk. No condition. -/
import Derived.Test.YtplgpnmahblhbaaCe
import Derived.Test.YtplgpnmahblhbaaCq
import Derived.Shelf.Abstract
namespace Go.Proofs.Ytplgpnmahblhbaa
open Go.RowKit
def IsBox (w : World) (b : Nat) (t : TypeId) (v : Value) : Prop := w.heap[b]? = some (.cells #[v] t (0, 0))
theorem IsBox.below {w w1 : World} {b : Nat} {t : TypeId} {v : Value} (h : IsBox w b t v) (hb : Below w.heap.size w w1) : IsBox w1 b t v := (hb.block b (heap_lt h)).trans h
theorem IsBox.cell {w : World} {b : Nat} {t : TypeId} {v : Value} (h : IsBox w b t v) : w.cell? ⟨b, 0, none⟩ = some v ∧ w.frozen? ⟨b, 0, none⟩ = false := ⟨block_cell h, block_free h⟩
theorem IsBox.set {w : World} {b : Nat} {t : TypeId} {v : Value} (h : IsBox w b t v) (u : Value) : IsBox (w.setCell ⟨b, 0, none⟩ u) b t u := block_set _ h
theorem IsBox.other {w : World} {b c : Nat} {t : TypeId} {v : Value} (h : IsBox w b t v) (hne : c ≠ b) (u : Value) : IsBox (w.setCell ⟨c, 0, none⟩ u) b t v := by
  show (w.heap.modify c _)[b]? = _
  rw [Array.getElem?_modify, if_neg hne]; exact h
theorem IsBox.new (w : World) (t : TypeId) (v : Value) : IsBox (w.alloc (.cells #[v] t)) w.heap.size t v := one_new w _
theorem IsBox.alloc {w : World} {b : Nat} {t : TypeId} {v : Value} (h : IsBox w b t v) (o : Obj) : IsBox (w.alloc o) b t v := by
  have := heap_lt h
  show (w.heap.push o)[b]? = _
  rw [Array.getElem?_push, if_neg (by omega)]; exact h
theorem below_boxset {b c : Nat} {w w1 : World} (h : Below b w w1) (hc : b ≤ c) (v : Value) : Below b w (w1.setCell ⟨c, 0, none⟩ v) := h.setCell hc _
theorem boxes3 (w : World) (a b c : Value) :
    let w3 := ((w.alloc (.cells #[a] 3)).alloc (.cells #[b] 3)).alloc (.cells #[c] 3)
    (IsBox w3 w.heap.size 3 a ∧ IsBox w3 (w.heap.size + 1) 3 b ∧ IsBox w3 (w.heap.size + 1 + 1) 3 c) ∧ Below w.heap.size w w3 := by
  have h1 := IsBox.new w 3 a
  have h2 := IsBox.new (w.alloc (.cells #[a] 3)) 3 b
  have h3 := IsBox.new ((w.alloc (.cells #[a] 3)).alloc (.cells #[b] 3)) 3 c
  rw [show (w.alloc (.cells #[a] 3)).heap.size = w.heap.size + 1 from by simp] at h2
  rw [show ((w.alloc (.cells #[a] 3)).alloc (.cells #[b] 3)).heap.size = w.heap.size + 1 + 1 from by simp] at h3
  exact ⟨⟨(h1.alloc _).alloc _, h2.alloc _, h3⟩, (((Below.refl _ _).alloc (Nat.le_refl _) _).alloc (by simp) _).alloc (by simp; omega) _⟩
theorem boxes2 (w : World) (a b : Value) :
    let w3 := (w.alloc (.cells #[a] 3)).alloc (.cells #[b] 3)
    (IsBox w3 w.heap.size 3 a ∧ IsBox w3 (w.heap.size + 1) 3 b) ∧ Below w.heap.size w w3 := by
  have h1 := IsBox.new w 3 a
  have h2 := IsBox.new (w.alloc (.cells #[a] 3)) 3 b
  rw [show (w.alloc (.cells #[a] 3)).heap.size = w.heap.size + 1 from by simp] at h2
  exact ⟨⟨h1.alloc _, h2⟩, ((Below.refl _ _).alloc (Nat.le_refl _) _).alloc (by simp) _⟩
end Go.Proofs.Ytplgpnmahblhbaa
