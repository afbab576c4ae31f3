/- Plain law: what is known of a cluster so far, and whether the next atom belongs to it, as Lean functions. No condition. -/
import Derived.Test.YtpipcmbfdcbboaaGp
namespace Go.Proofs.Ytpipcmbfdcbboaa
structure Sc where
  last : Int
  flags : Int
  pict : Int
  conj : Int
def noteF (s : Sc) (c p : Int) : Sc where
  last := c
  flags := if c = 6 then s.flags + 1 else 0
  pict := if c = 14 then 1 else if s.pict = 1 ∧ c = 5 then 2 else if s.pict = 1 ∧ c = 4 then s.pict else 0
  conj := if p = 1 then 1 else if 0 < s.conj ∧ p = 3 then 2 else if 0 < s.conj ∧ p = 2 then s.conj else 0
def apartB (c : Int) : Bool := decide (c = 1 ∨ c = 2 ∨ c = 3)
def hangulB (l r : Int) : Bool :=
  decide ((r = 9 ∨ r = 12 ∨ r = 13) ∧ l = 9 ∨ r = 10 ∧ (l = 9 ∨ l = 12 ∨ l = 10) ∨ r = 11 ∧ (l = 12 ∨ l = 10 ∨ l = 13 ∨ l = 11))
def joinsB (s : Sc) (c p : Int) : Bool :=
  if s.last = 1 ∧ c = 2 then true
  else if apartB s.last = true ∨ apartB c = true then false
  else if c = 4 ∨ c = 5 ∨ c = 8 ∨ s.last = 7 then true
  else if hangulB s.last c = true then true
  else if p = 1 ∧ s.conj = 2 then true
  else if c = 14 then (s.pict == 2)
  else if c = 6 then (s.flags % 2 == 1)
  else false
def beginF (a : Int) : Sc := noteF ⟨0, 0, 0, 0⟩ (classF a) (conjF a)
def takeF (s : Sc) (a : Int) : Sc := if joinsB s (classF a) (conjF a) then noteF s (classF a) (conjF a) else s
end Go.Proofs.Ytpipcmbfdcbboaa
