/- What a step leaves alone: blocks outside a set. No walk. -/
import Derived.Test.YtdegdoilpamjjaaDoorBa
import Derived.Below
namespace Go.Proofs.YtdegdoilpamjjaaDoor
open Go.RowKit
structure Touch (O : Nat → Prop) (w w' : World) : Prop where
  os : w'.os = w.os
  tape : w'.tape = w.tape
  output : w'.output = w.output
  size : w.heap.size ≤ w'.heap.size
  block : ∀ k, k < w.heap.size → ¬ O k → w'.heap[k]? = w.heap[k]?
theorem Touch.refl (O : Nat → Prop) (w : World) : Touch O w w := ⟨rfl, rfl, rfl, Nat.le_refl _, fun _ _ _ => rfl⟩
theorem Touch.of {O : Nat → Prop} {w w' : World} (h : Below w.heap.size w w') : Touch O w w' := ⟨h.os, h.tape, h.output, h.size, fun k hk _ => h.block k hk⟩
theorem Touch.trans {O O' : Nat → Prop} {a b c : World} (h : Touch O a b) (k : Touch O' b c) (hO : ∀ x, O' x → O x ∨ a.heap.size ≤ x) : Touch O a c :=
  ⟨k.os.trans h.os, k.tape.trans h.tape, k.output.trans h.output, Nat.le_trans h.size k.size, fun x hx hn => (k.block x (Nat.lt_of_lt_of_le hx h.size) (fun e => (hO x e).elim hn (fun h => by omega))).trans (h.block x hx hn)⟩
theorem Touch.below {O : Nat → Prop} {w w' : World} {B : Nat} (h : Touch O w w') (hO : ∀ b, O b → B ≤ b) (hB : B ≤ w.heap.size) : Below B w w' :=
  ⟨h.os, h.tape, h.output, h.size, fun k hk => h.block k (by omega) (fun e => by have := hO k e; omega)⟩
theorem Touch.wide {O O' : Nat → Prop} {w w' : World} (h : Touch O w w') (hO : ∀ b, b < w.heap.size → O b → O' b) : Touch O' w w' := ⟨h.os, h.tape, h.output, h.size, fun k hk hn => h.block k hk (fun e => hn (hO k hk e))⟩
theorem Touch.grown {O : Nat → Prop} {w w' : World} {row : Option Nat} (h : w.grownBy w' row) (hO : ∀ b, row = some b → O b) : Touch O w w' :=
  ⟨h.os, h.tape, h.output, h.size, fun k hk hn => h.block k hk (fun e => hn (hO k e.symm))⟩
theorem Touch.setCell (O : Nat → Prop) (w : World) {p : Addr} (hp : O p.block) (u : Value) : Touch O w (w.setCell p u) :=
  ⟨rfl, rfl, rfl, by simp [World.setCell], fun k hk hn => Below.heap_setCell _ _ _ _ (fun e => hn (e ▸ hp))⟩
theorem Touch.alloc (O : Nat → Prop) (w : World) (o : Obj) : Touch O w (w.alloc o) := Touch.of ((Below.refl _ _).alloc (Nat.le_refl _) o)
theorem type_ne {w : World} {b c : Nat} {x y : Array Value} {t u : TypeId} (h : w.heap[b]? = some (.cells x t (0, 0))) (k : w.heap[c]? = some (.cells y u (0, 0))) (hn : t ≠ u) : b ≠ c := by
  intro e
  subst e
  rw [h] at k
  injection k with k
  injection k with _ k
  exact hn k
theorem below_newJ (w : World) (o : Obj) : Below w.heap.size w (w.alloc o) := (Below.refl _ _).alloc (Nat.le_refl _) _
theorem below_drewN {B n : Nat} {a w : World} (h : Below B a w) : Below B a (w.drewN n) := ⟨h.os, h.tape, h.output, h.size, h.block⟩
theorem touch_drewN {O : Nat → Prop} {n : Nat} {a w : World} (h : Touch O a w) : Touch O a (w.drewN n) := ⟨h.os, h.tape, h.output, h.size, h.block⟩
end Go.Proofs.YtdegdoilpamjjaaDoor
