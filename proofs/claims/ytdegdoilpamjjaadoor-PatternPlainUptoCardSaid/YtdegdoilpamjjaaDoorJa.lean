/- Chapter 10, plain: the program's nodes, its reader (what it reads, or the place where it gives up), the parts of a node. No program in sight. -/
namespace Go.Proofs.YtdegdoilpamjjaaDoor
/-- a node of a pattern; the kinds of a set by their letter -/
inductive Nd where
  | set (ranges : List (Int × Int)) (kinds : List Int) (not fold : Bool)
  | edge (what : Int)
  | row (l : List Nd)
  | choice (l : List Nd)
  | group (n : Nd) (number : Int)
  | again (n : Nd) (least most : Int) (lazy : Bool)
/-- the reader's state: the place, and how many groups have begun -/
structure RS where
  at' : Nat
  groups : Nat
deriving DecidableEq
abbrev RR (α : Type) := Except Nat (α × RS)
def srcAt (src : List Int) (i : Nat) : Int := src.getD i 0
def pk (src : List Int) (at' k : Nat) : Int := if at' + k < src.length then srcAt src (at' + k) else -4611686018427387904
def nx (src : List Int) (s : RS) : RR Int := if src.length ≤ s.at' then .error src.length else .ok (srcAt src s.at', { s with at' := s.at' + 1 })
def escB (src : List Int) (at' : Nat) (c : Int) : Bool := decide (pk src at' 0 = 92) && decide (at' + 1 < src.length) && decide (pk src at' 1 = c)
def digP (c : Int) : Int := if 48 ≤ c ∧ c ≤ 57 then c - 48 else if 97 ≤ c ∧ c ≤ 102 then c - 87 else if 65 ≤ c ∧ c ≤ 70 then c - 55 else -1
def letP (c : Int) : Bool := decide (48 ≤ c ∧ c ≤ 57) || decide (97 ≤ c ∧ c ≤ 122) || decide (65 ≤ c ∧ c ≤ 90)
/-- i hexadecimal digits more, of a number that has come to n -/
def hexP (src : List Int) (top : Int) : Nat → Int → RS → RR Int
  | 0, n, s => .ok (n, s)
  | i + 1, n, s => match nx src s with
    | .error e => .error e
    | .ok (c, s1) => if digP c < 0 ∨ top < (n * 16 + digP c) * 16 ^ i then .error (s1.at' - 1) else hexP src top i (n * 16 + digP c) s1
/-- digits: the number; -1: there are none -/
def numR (src : List Int) : Nat → Int → RS → RR Int
  | 0, n, s => .ok (n, s)
  | f + 1, n, s => if 48 ≤ pk src s.at' 0 ∧ pk src s.at' 0 ≤ 57 then
      (if 255 < max n 0 * 10 + pk src s.at' 0 - 48 then .error s.at' else numR src f (max n 0 * 10 + pk src s.at' 0 - 48) { s with at' := s.at' + 1 })
    else .ok (n, s)
def numP' (src : List Int) (s : RS) : RR Int := numR src (src.length + 1) (-1) s
/-- one of a class: an int, or the letter of a list -/
def signP (src : List Int) (s : RS) : RR (Int × Option Int) := match nx src s with
  | .error e => .error e
  | .ok (c, s1) => if c ≠ 92 then .ok ((c, none), s1) else match nx src s1 with
    | .error e => .error e
    | .ok (c, s2) =>
      if c = 92 ∨ c = 93 ∨ c = 94 ∨ c = 45 then .ok ((c, none), s2)
      else if c = 116 then .ok ((9, none), s2)
      else if c = 101 then .ok ((27, none), s2)
      else if c = 120 then (match hexP src 255 2 0 s2 with
        | .error e => .error e
        | .ok (v, s3) => .ok ((-1 - v, none), s3))
      else if c = 100 ∨ c = 115 ∨ c = 119 ∨ c = 108 ∨ c = 117 then .ok ((0, some c), s2)
      else .error (s2.at' - 1)
def rawB (a : Int) : Bool := decide (-256 ≤ a ∧ a < 0)
def classR (src : List Int) : Nat → Bool → List (Int × Int) → List Int → RS → RR (List (Int × Int) × List Int)
  | 0, _, rs, ks, s => .ok ((rs, ks), s)
  | f + 1, first, rs, ks, s => if first = false ∧ pk src s.at' 0 = 93 then .ok ((rs, ks), { s with at' := s.at' + 1 }) else match signP src s with
    | .error e => .error e
    | .ok ((_, some k), s1) => classR src f false rs (ks ++ [k]) s1
    | .ok ((lo, none), s1) =>
      if pk src s1.at' 0 = 45 ∧ s1.at' + 1 < src.length ∧ pk src s1.at' 1 ≠ 93 then match signP src { s1 with at' := s1.at' + 1 } with
        | .error e => .error e
        | .ok ((_, some _), s2) => .error (s2.at' - 1)
        | .ok ((hi, none), s2) =>
          if 0 ≤ lo ∧ lo ≤ hi then classR src f false (rs ++ [(lo, hi)]) ks s2
          else if rawB lo = true ∧ rawB hi = true ∧ hi ≤ lo then classR src f false (rs ++ [(hi, lo)]) ks s2
          else .error (s2.at' - 1)
      else classR src f false (rs ++ [(lo, lo)]) ks s1
def classP (src : List Int) (fold : Bool) (s : RS) : RR Nd :=
  let nt := decide (pk src s.at' 0 = 94)
  match classR src (src.length + 2) true [] [] (if nt then { s with at' := s.at' + 1 } else s) with
  | .error e => .error e
  | .ok ((rs, ks), s1) => .ok (.set rs ks nt fold, s1)
def oneN (fold : Bool) (c : Int) : Nd := .set [(c, c)] [] false fold
/-- how often a thing is taken -/
def bracesP (src : List Int) (x : Nd) (s : RS) : RR Nd :=
  let lz := decide (pk src s.at' 0 = 45)
  match numP' src (if lz then { s with at' := s.at' + 1 } else s) with
  | .error e => .error e
  | .ok (least, s1) =>
    match (if pk src s1.at' 0 = 44 then numP' src { s1 with at' := s1.at' + 1 } else .ok (least, s1)) with
    | .error e => .error e
    | .ok (most, s2) => match nx src s2 with
      | .error e => .error e
      | .ok (c, s3) => if c ≠ 125 ∨ (0 ≤ most ∧ most < least) then .error (s3.at' - 1) else .ok (.again x (max least 0) most lz, s3)
def timesP (src : List Int) (x : Nd) (s : RS) : RR Nd :=
  if pk src s.at' 0 = 42 then .ok (.again x 0 (-1) false, { s with at' := s.at' + 1 })
  else if escB src s.at' 43 then .ok (.again x 1 (-1) false, { s with at' := s.at' + 2 })
  else if escB src s.at' 63 then .ok (.again x 0 1 false, { s with at' := s.at' + 2 })
  else if escB src s.at' 123 then bracesP src x { s with at' := s.at' + 2 }
  else .ok (x, s)
mutual
/-- rows with \| between them -/
def patP (src : List Int) (fold : Bool) : Nat → List Nd → RS → RR Nd
  | 0, _, _ => .error 0
  | f + 1, acc, s => match memsP src fold f [] s with
    | .error e => .error e
    | .ok (ms, s1) => if escB src s1.at' 124 then patP src fold f (acc ++ [.row ms]) { s1 with at' := s1.at' + 2 } else .ok (.choice (acc ++ [.row ms]), s1)
def memsP (src : List Int) (fold : Bool) : Nat → List Nd → RS → RR (List Nd)
  | 0, _, _ => .error 0
  | f + 1, acc, s => if s.at' < src.length ∧ escB src s.at' 124 = false ∧ escB src s.at' 41 = false then match memP src fold f s with
      | .error e => .error e
      | .ok (m, s1) => memsP src fold f (acc ++ [m]) s1
    else .ok (acc, s)
def memP (src : List Int) (fold : Bool) : Nat → RS → RR Nd
  | 0, _ => .error 0
  | f + 1, s => if pk src s.at' 0 = 94 ∨ pk src s.at' 0 = 36 then .ok (.edge (pk src s.at' 0), { s with at' := s.at' + 1 })
    else if escB src s.at' 60 = true ∨ escB src s.at' 62 = true then .ok (.edge (srcAt src (s.at' + 1)), { s with at' := s.at' + 2 })
    else match thingP src fold f s with
      | .error e => .error e
      | .ok (x, s1) => timesP src x s1
def insP (src : List Int) (fold : Bool) : Nat → Int → RS → RR Nd
  | 0, _, _ => .error 0
  | f + 1, number, s => match patP src fold f [] s with
    | .error e => .error e
    | .ok (x, s1) => if escB src s1.at' 41 then .ok (.group x number, { s1 with at' := s1.at' + 2 }) else .error src.length
def thingP (src : List Int) (fold : Bool) : Nat → RS → RR Nd
  | 0, _ => .error 0
  | f + 1, s => match nx src s with
    | .error e => .error e
    | .ok (c, s1) =>
      if c = 42 then .error (s1.at' - 1)
      else if c = 46 then .ok (.set [] [] true false, s1)
      else if c = 91 then classP src fold s1
      else if c ≠ 92 then .ok (oneN fold c, s1)
      else match nx src s1 with
        | .error e => .error e
        | .ok (c, s2) =>
          if c = 40 then (if s2.groups = 9 then .error (s2.at' - 1) else insP src fold f (s2.groups + 1 : Nat) { s2 with groups := s2.groups + 1 })
          else if c = 100 ∨ c = 115 ∨ c = 119 ∨ c = 108 ∨ c = 117 then .ok (.set [] [c] false fold, s2)
          else if c = 68 ∨ c = 83 ∨ c = 87 then .ok (.set [] [c + 32] true fold, s2)
          else if c = 116 then .ok (oneN fold 9, s2)
          else if c = 101 then .ok (oneN fold 27, s2)
          else if c = 120 then (match hexP src 255 2 0 s2 with
            | .error e => .error e
            | .ok (v, s3) => .ok (oneN fold (-1 - v), s3))
          else if c = 37 then (match nx src s2 with
            | .error e => .error e
            | .ok (c, s3) =>
              if c = 40 then insP src fold f 0 s3
              else if c = 117 then (match hexP src 65535 4 0 s3 with
                | .error e => .error e
                | .ok (v, s4) => .ok (oneN fold v, s4))
              else if c = 85 then (match hexP src 1114111 6 0 s3 with
                | .error e => .error e
                | .ok (v, s4) => .ok (oneN fold v, s4))
              else .error (s3.at' - 1))
          else if c = 41 ∨ c = 124 ∨ c = 43 ∨ c = 63 ∨ c = 123 ∨ c = 60 ∨ c = 62 then .error (s2.at' - 1)
          else if letP c then .error (s2.at' - 1)
          else .ok (oneN fold c, s2)
end
/-- sums of parts do not grow beyond this -/
def lidP (n : Int) : Int := min n 4097
mutual
def partsP : Nd → Int
  | .set _ _ _ _ => 1
  | .edge _ => 1
  | .row l => totalP l 0
  | .choice l => lidP (totalP l 0 + l.length - 1)
  | .group n k => if k = 0 then partsP n else lidP (partsP n + 2)
  | .again n least most _ => lidP (max (if most < 0 then least + 1 else most) 1 * partsP n + 1)
def totalP : List Nd → Int → Int
  | [], t => t
  | n :: l, t => totalP l (lidP (t + partsP n))
end
/-- what Compile answers: a place, too great, or the pattern -/
inductive CP where
  | long
  | bad (place : Nat)
  | big
  | ok (n : Nd) (groups : Nat)
def compileP (src : List Int) (ignore : Bool) : CP :=
  if 256 < src.length then .long else
  match patP src ignore (4 * src.length + 8) [] ⟨0, 0⟩ with
  | .error e => .bad e
  | .ok (n, s) => if s.at' < src.length then .bad (s.at' + 1) else if 4096 < partsP n then .big else .ok n s.groups
end Go.Proofs.YtdegdoilpamjjaaDoor
