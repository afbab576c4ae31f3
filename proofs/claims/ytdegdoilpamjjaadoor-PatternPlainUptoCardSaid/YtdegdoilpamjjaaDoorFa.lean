/- Plain law: what stands in a match's place: the program's way (what is given is cut) and the document's (it is not given) answer alike. No program. -/
import Derived.Test.YtdegdoilpamjjaaDoorBa
import Derived.Test.YtdegdoilpamjjaaDoorUa
namespace Go.Proofs.YtdegdoilpamjjaaDoor
/-- what is given so far; once, stay: 0 nothing, 1 great, 2 small -/
structure FS where
  out : List Int
  once : Nat
  stay : Nat
/-- an int by a way -/
def caseF (how : Nat) (a : Int) : Int := if how = 1 then upperF a else if how = 2 then lowerF a else a
def howS (s : FS) : Nat := if s.once = 0 then s.stay else s.once
/-- the program's: cut -/
def giveP (s : FS) (a : Int) : FS := ⟨(s.out ++ [caseF (howS s) a]).take 140001, 0, s.stay⟩
/-- the document's -/
def giveD (s : FS) (a : Int) : FS := ⟨s.out ++ [caseF (howS s) a], 0, s.stay⟩
def manyP (s : FS) (l : List Int) : FS := l.foldl giveP s
/-- the document's: no more than enough -/
def manyD (s : FS) : List Int → FS
  | [] => s
  | a :: l => if s.out.length ≤ 140000 then manyD (giveD s a) l else s
/-- the ints of a line between two offsets -/
def partL (l : List Int) (a b : Int) : List Int := (l.take b.toNat).drop a.toNat
/-- a hexadecimal digit; -1: none -/
def hexV (c : Int) : Int := if 48 ≤ c ∧ c ≤ 57 then c - 48 else if 97 ≤ c ∧ c ≤ 102 then c - 87 else if 65 ≤ c ∧ c ≤ 70 then c - 55 else -1
theorem hexV_le (c : Int) : -1 ≤ hexV c ∧ hexV c ≤ 15 := by unfold hexV; repeat' split <;> omega
def letB (c : Int) : Bool := decide (48 ≤ c ∧ c ≤ 57 ∨ 97 ≤ c ∧ c ≤ 122 ∨ 65 ≤ c ∧ c ≤ 90)
inductive Tok where
  | give (c : Int)
  | group (g : Nat)
  | once (k : Nat)
  | stay (k : Nat)
/-- what stands behind a backslash, but x: none: it may not -/
def escT (d : Int) : Option Tok :=
  if 48 ≤ d ∧ d ≤ 57 then some (.group (d - 48).toNat)
  else if d = 110 ∨ d = 114 then some (.give 10)
  else if d = 116 then some (.give 9)
  else if d = 101 then some (.give 27)
  else if d = 117 then some (.once 1)
  else if d = 108 then some (.once 2)
  else if d = 85 then some (.stay 1)
  else if d = 76 then some (.stay 2)
  else if d = 69 then some (.stay 0)
  else if letB d = true then none
  else some (.give d)
/-- the first sign, and how many ints it has; none: it may not stand there -/
def tok : List Int → Option (Tok × Nat)
  | [] => none
  | c :: r =>
    if c = 38 then some (.group 0, 1)
    else if c = 92 then
      match r with
      | [] => none
      | d :: r' =>
        if d = 120 then
          match r' with
          | x :: y :: _ => if hexV x < 0 ∨ hexV y < 0 then none else some (.give (-1 - 16 * hexV x - hexV y), 4)
          | _ => none
        else (escT d).map fun t => (t, 2)
    else some (.give c, 1)
def execP (line : List Int) (m : Nat → Int) (s : FS) : Tok → FS
  | .give c => giveP s c
  | .group g => manyP s (partL line (m (2 * g)) (m (2 * g + 1)))
  | .once k => { s with once := k }
  | .stay k => { s with stay := k }
def execD (line : List Int) (m : Nat → Int) (s : FS) : Tok → FS
  | .give c => giveD s c
  | .group g => manyD s (partL line (m (2 * g)) (m (2 * g + 1)))
  | .once k => { s with once := k }
  | .stay k => { s with stay := k }
/-- all signs; none: one may not stand where it stands -/
def fillGo (ex : FS → Tok → FS) : Nat → List Int → FS → Option FS
  | _, [], s => some s
  | 0, _ :: _, s => some s
  | n + 1, c :: r, s => match tok (c :: r) with
    | none => none
    | some (t, k) => fillGo ex n ((c :: r).drop k) (ex s t)
def ansF : Option FS → List Int × Int
  | none => ([], 102)
  | some s => if 140000 < s.out.length then ([], 3) else (s.out, 0)
def FS0 : FS := ⟨[], 0, 0⟩
def fillF (rep line : List Int) (m : Nat → Int) : List Int × Int :=
  if 256 < rep.length then ([], 3) else ansF (fillGo (execP line m) rep.length rep FS0)
/-- the two ways side by side -/
def Sim (p d : FS) : Prop := p.stay = d.stay ∧ (p.out = d.out ∧ p.once = d.once ∧ d.out.length ≤ 140000 ∨ 140000 < p.out.length ∧ 140000 < d.out.length)
theorem Sim.give {p d : FS} (h : Sim p d) (a : Int) : Sim (giveP p a) (giveD d a) := by
  obtain ⟨h1, h2⟩ := h
  refine ⟨h1, ?_⟩
  rcases h2 with ⟨e1, e2, e3⟩ | ⟨e1, e2⟩
  · have hh : howS p = howS d := by unfold howS; rw [e2, h1]
    have ht : (p.out ++ [caseF (howS p) a]).take 140001 = d.out ++ [caseF (howS d) a] := by
      rw [hh, e1, List.take_of_length_le (by simp; omega)]
    by_cases hl : d.out.length + 1 ≤ 140000
    · exact .inl ⟨ht, rfl, by simp [giveD]; omega⟩
    · refine .inr ⟨?_, by simp [giveD]; omega⟩
      show 140000 < ((p.out ++ [caseF (howS p) a]).take 140001).length
      rw [ht]; simp; omega
  · refine .inr ⟨?_, by simp [giveD]; omega⟩
    show 140000 < ((p.out ++ [caseF (howS p) a]).take 140001).length
    rw [List.length_take]; simp; omega
theorem manyP_big {p : FS} (l : List Int) (h : 140000 < p.out.length) : 140000 < (manyP p l).out.length ∧ (manyP p l).stay = p.stay := by
  induction l generalizing p with
  | nil => exact ⟨h, rfl⟩
  | cons a l ih =>
    have : 140000 < (giveP p a).out.length := by
      show 140000 < ((p.out ++ [caseF (howS p) a]).take 140001).length
      rw [List.length_take]; simp; omega
    exact ih this
theorem Sim.many {p d : FS} (h : Sim p d) (l : List Int) : Sim (manyP p l) (manyD d l) := by
  induction l generalizing p d with
  | nil => exact h
  | cons a l ih =>
    unfold manyD
    split
    · exact ih (h.give a)
    · rename_i hn
      obtain ⟨h1, h2⟩ := h
      rcases h2 with ⟨_, _, e3⟩ | ⟨e1, e2⟩
      · exact absurd e3 hn
      · obtain ⟨g1, g2⟩ := manyP_big (a :: l) e1
        exact ⟨g2.trans h1, .inr ⟨g1, e2⟩⟩
theorem Sim.exec {p d : FS} (h : Sim p d) (line : List Int) (m : Nat → Int) (t : Tok) : Sim (execP line m p t) (execD line m d t) := by
  cases t with
  | give c => exact h.give c
  | group g => exact h.many _
  | once k =>
    obtain ⟨h1, h2⟩ := h
    refine ⟨h1, ?_⟩
    rcases h2 with ⟨e1, _, e3⟩ | h2
    · exact .inl ⟨e1, rfl, e3⟩
    · exact .inr h2
  | stay k =>
    obtain ⟨h1, h2⟩ := h
    exact ⟨rfl, h2⟩
theorem sim_go {line : List Int} {m : Nat → Int} : ∀ (n : Nat) (rep : List Int) (p d : FS), Sim p d → ansF (fillGo (execP line m) n rep p) = ansF (fillGo (execD line m) n rep d) := by
  have base : ∀ p d : FS, Sim p d → ansF (some p) = ansF (some d) := by
    intro p d ⟨_, h2⟩
    show (if 140000 < p.out.length then (([] : List Int), (3 : Int)) else (p.out, 0)) = (if 140000 < d.out.length then ([], 3) else (d.out, 0))
    rcases h2 with ⟨e1, _, e3⟩ | ⟨e1, e2⟩
    · rw [e1]
    · rw [if_pos e1, if_pos e2]
  intro n
  induction n with
  | zero =>
    intro rep p d h
    cases rep <;> exact base p d h
  | succ n ih =>
    intro rep p d h
    cases rep with
    | nil => exact base p d h
    | cons c r =>
      unfold fillGo
      cases tok (c :: r) with
      | none => rfl
      | some x => exact ih _ _ _ (h.exec line m x.1)
theorem fill_doc (rep line : List Int) (m : Nat → Int) : fillF rep line m = if 256 < rep.length then ([], 3) else ansF (fillGo (execD line m) rep.length rep FS0) := by
  unfold fillF
  split
  · rfl
  · exact sim_go _ _ _ _ ⟨rfl, .inl ⟨rfl, rfl, by simp [FS0]⟩⟩
theorem giveP_len (s : FS) (a : Int) : (giveP s a).out.length ≤ 140001 := by
  show ((s.out ++ [caseF (howS s) a]).take 140001).length ≤ 140001
  rw [List.length_take]; omega
theorem tok_pos {c : Int} {r : List Int} {t : Tok} {k : Nat} (h : tok (c :: r) = some (t, k)) : 1 ≤ k ∧ k ≤ (c :: r).length := by
  simp only [tok] at h
  by_cases h1 : c = 38
  · rw [if_pos h1] at h; cases h; simp
  · rw [if_neg h1] at h
    by_cases h2 : c = 92
    · rw [if_pos h2] at h
      cases r with
      | nil => cases h
      | cons d r' =>
        simp only at h
        by_cases h3 : d = 120
        · rw [if_pos h3] at h
          match r', h with
          | x :: y :: z, h =>
            simp only at h
            by_cases h4 : hexV x < 0 ∨ hexV y < 0
            · rw [if_pos h4] at h; cases h
            · rw [if_neg h4] at h; cases h; simp
        · rw [if_neg h3] at h
          cases he : escT d with
          | none => rw [he] at h; cases h
          | some x => rw [he] at h; cases h; simp
    · rw [if_neg h2] at h; cases h; simp
end Go.Proofs.YtdegdoilpamjjaaDoor
