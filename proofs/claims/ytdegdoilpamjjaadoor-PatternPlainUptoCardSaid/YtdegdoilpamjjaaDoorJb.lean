/- Chapter 10, plain: the acts that a node is compiled to, and the runner. No program in sight. -/
import Derived.Test.YtdegdoilpamjjaaDoorJa
namespace Go.Proofs.YtdegdoilpamjjaaDoor
/-- what a set is -/
structure SetD where
  ranges : List (Int × Int)
  kinds : List Int
  not : Bool
  fold : Bool
/-- an act: 0 take, 1 stand, 2 fork, 3 note, 4 enter, 5 check, 6 match -/
structure ActD where
  kind : Int
  x : Int := 0
  y : Int := 0
  s : Option SetD := none
/-- so many times -/
def timesN (n : Int) : Nat := n.toNat
mutual
/-- how many acts -/
def sizeA : Nd → Nat
  | .set _ _ _ _ => 1
  | .edge _ => 1
  | .row l => sizeL l
  | .choice l => sizeL l + 2 * (l.length - 1)
  | .group n k => if 0 < k then sizeA n + 2 else sizeA n
  | .again n least most _ => timesN least * sizeA n + (if most < 0 then sizeA n + 4 else timesN (most - least) * (sizeA n + 3))
def sizeL : List Nd → Nat
  | [] => 0
  | n :: l => sizeA n + sizeL l
end
mutual
/-- how deep things that are taken again lie in one another -/
def deepA (d : Nat) : Nd → Nat
  | .set _ _ _ _ => d
  | .edge _ => d
  | .row l => deepL d l
  | .choice l => deepL d l
  | .group n _ => deepA d n
  | .again n least most _ => max d (max (if 0 < least then deepA d n else d) (if most < 0 ∨ least < most then deepA (d + 1) n else d))
def deepL (d : Nat) : List Nd → Nat
  | [] => d
  | n :: l => max (deepA d n) (deepL d l)
end
/-- k copies, one behind the other -/
def copiesA (g : Nat → List ActD) (sz : Nat) : Nat → Nat → List ActD
  | 0, _ => []
  | k + 1, b => g b ++ copiesA g sz k (b + sz)
/-- ways into a thing that may be taken, or out (to the end) -/
def waysA (g : Nat → List ActD) (sz : Nat) (lz : Bool) (out : Nat) : Nat → Nat → List ActD
  | 0, _ => []
  | k + 1, b => (if lz then ⟨2, out, (b + 1 : Nat), none⟩ else ⟨2, (b + 1 : Nat), out, none⟩) :: ⟨4, 0, 0, none⟩ :: (g (b + 2) ++ ⟨5, 0, 0, none⟩ :: waysA g sz lz out k (b + sz + 3))
mutual
/-- the acts of a node, the first of which is number b -/
def genA : Nd → Nat → List ActD
  | .set r k nt f, _ => [⟨0, 0, 0, some ⟨r, k, nt, f⟩⟩]
  | .edge w, _ => [⟨1, w, 0, none⟩]
  | .row l, b => genR l b
  | .choice l, b => genC l b (b + (sizeL l + 2 * (l.length - 1)))
  | .group n k, b => if 0 < k then ⟨3, 2 * k, 0, none⟩ :: (genA n (b + 1) ++ [⟨3, 2 * k + 1, 0, none⟩]) else genA n b
  | .again n least most lz, b =>
    let sz := sizeA n
    let b1 := b + timesN least * sz
    copiesA (genA n) sz (timesN least) b ++
      (if most < 0 then waysA (genA n) sz lz (b1 + sz + 4) 1 b1 ++ [⟨2, b1, -1, none⟩]
       else waysA (genA n) sz lz (b1 + timesN (most - least) * (sz + 3)) (timesN (most - least)) b1)
def genR : List Nd → Nat → List ActD
  | [], _ => []
  | n :: l, b => genA n b ++ genR l (b + sizeA n)
def genC : List Nd → Nat → Nat → List ActD
  | [], _, _ => []
  | [n], b, _ => genA n b
  | n :: l, b, e => ⟨2, (b + 1 : Nat), (b + sizeA n + 2 : Nat), none⟩ :: (genA n (b + 1) ++ ⟨2, e, -1, none⟩ :: genC l (b + sizeA n + 2) e)
end
def progA (n : Nd) : List ActD := genA n 0 ++ [⟨6, 0, 0, none⟩]
/-- a way that is gone: where it is, where it began, what it noted (the last first) -/
structure ThD where
  act : Nat
  from' : Int
  notes : List (Int × Int)
structure ToD where
  act : Int
  idle : Nat
  notes : List (Int × Int)
/-- does an edge stand at a place (word: is the atom at a place a letter?) -/
def standsP (word : Int → Bool) (len : Nat) (at' : Nat) (what : Int) : Bool :=
  if what = 94 then decide (at' = 0) else if what = 36 then decide (at' = len) else if what = 60 then word at' && !word (at' - 1) else !word at' && word (at' - 1)
/-- one way on, up to an act that takes an atom, or to the match: (marks, ways that wait, ways that are to do) -/
def goOnP (acts : List ActD) (deep : Nat) (stand : Int → Bool) (at' : Nat) (from' : Int) : Nat → ToD → (Nat → Nat) → List ThD → List ToD → (Nat → Nat) × List ThD × List ToD
  | 0, _, seen, th, st => (seen, th, st)
  | f + 1, t, seen, th, st =>
    if t.act < 0 then (seen, th, st) else
    let k := t.act.toNat * (deep + 1) + t.idle
    if seen k = at' + 1 then (seen, th, st) else
    let seen' := fun i => if i = k then at' + 1 else seen i
    let a := acts.getD t.act.toNat ⟨6, 0, 0, none⟩
    if a.kind = 0 ∨ a.kind = 6 then (seen', th ++ [⟨t.act.toNat, from', t.notes⟩], st)
    else if a.kind = 1 then (if stand a.x then goOnP acts deep stand at' from' f { t with act := t.act + 1 } seen' th st else (seen', th, st))
    else if a.kind = 2 then goOnP acts deep stand at' from' f { t with act := a.x } seen' th (⟨a.y, t.idle, t.notes⟩ :: st)
    else if a.kind = 3 then goOnP acts deep stand at' from' f { t with act := t.act + 1, notes := (a.x, (at' : Int)) :: t.notes } seen' th st
    else if a.kind = 4 then goOnP acts deep stand at' from' f { t with act := t.act + 1, idle := t.idle + 1 } seen' th st
    else (if 0 < t.idle then (seen', th, st) else goOnP acts deep stand at' from' f { t with act := t.act + 1 } seen' th st)
def addP' (acts : List ActD) (deep : Nat) (stand : Int → Bool) (at' : Nat) (from' : Int) : Nat → (Nat → Nat) → List ThD → List ToD → (Nat → Nat) × List ThD
  | 0, seen, th, _ => (seen, th)
  | _ + 1, seen, th, [] => (seen, th)
  | f + 1, seen, th, t :: st => match goOnP acts deep stand at' from' (acts.length * (deep + 1) + 2) t seen th st with
    | (seen', th', st') => addP' acts deep stand at' from' f seen' th' st'
def noteIn (notes : List (Int × Int)) (slot : Int) : Int := match notes.find? (fun p => decide (p.1 = slot)) with | some p => p.2 | none => -1
/-- what the runner knows of glyphs -/
structure GlyD where
  word : Int → Int
  upper : Int → Int
  lower : Int → Int
def kindP (G : GlyD) (c a : Int) : Bool :=
  if c = 100 then decide (48 ≤ a ∧ a ≤ 57) else if c = 115 then decide (a = 32 ∨ a = 9) else if c = 119 then decide (G.word a = 2) else if c = 108 then decide (G.upper a ≠ a) else decide (G.lower a ≠ a)
def hasP (G : GlyD) (s : SetD) (a : Int) : Bool := (s.ranges.any fun x => decide (x.1 ≤ a ∧ a ≤ x.2)) || s.kinds.any fun c => kindP G c a
def takesP (G : GlyD) (s : SetD) (a : Int) : Bool := (hasP G s a || (s.fold && (hasP G s (G.lower a) || hasP G s (G.upper a)))) != s.not
/-- a match: where it begins and ends, what it noted -/
structure BestD where
  from' : Int
  to' : Nat
  notes : List (Int × Int)
def wordAt (G : GlyD) (line : List Int) (i : Int) : Bool := decide (0 ≤ i ∧ i < line.length) && decide (G.word (line.getD i.toNat 0) = 2)
def addAll (G : GlyD) (acts : List ActD) (deep : Nat) (line : List Int) (at' : Nat) (act : Int) (from' : Int) (notes : List (Int × Int)) (seen : Nat → Nat) (th : List ThD) : (Nat → Nat) × List ThD :=
  addP' acts deep (standsP (wordAt G line) line.length at') at' from' (acts.length * (deep + 1) + 2) seen th [⟨act, 0, notes⟩]
/-- the ways that have come to an offset, the better ones first -/
def stepP' (G : GlyD) (acts : List ActD) (deep : Nat) (line : List Int) (here : Nat) : List ThD → (Nat → Nat) → List ThD → Option BestD → (Nat → Nat) × List ThD × Option BestD
  | [], seen, th, best => (seen, th, best)
  | t :: old, seen, th, best =>
    let a := acts.getD t.act ⟨6, 0, 0, none⟩
    if a.kind = 6 then (seen, th, some ⟨t.from', here, t.notes⟩)
    else if a.kind = 0 ∧ here < line.length ∧ takesP G (a.s.getD ⟨[], [], false, false⟩) (line.getD here 0) = true then
      (match addAll G acts deep line (here + 1) (t.act + 1 : Nat) t.from' t.notes seen th with
      | (seen', th') => stepP' G acts deep line here old seen' th' best)
    else stepP' G acts deep line here old seen th best
def runR (G : GlyD) (acts : List ActD) (deep : Nat) (line : List Int) : Nat → Nat → (Nat → Nat) → List ThD → Option BestD → Option BestD
  | 0, _, _, _, best => best
  | f + 1, at', seen, th, best =>
    if line.length < at' then best else
    match (if best.isNone then addAll G acts deep line at' 0 (at' : Int) [] seen th else (seen, th)) with
    | (seen1, th1) => if th1.isEmpty && best.isSome then best else
      match stepP' G acts deep line at' th1 seen1 [] best with
      | (seen2, th2, best2) => runR G acts deep line f (at' + 1) seen2 th2 best2
/-- the first match from an offset on: twenty offsets -/
def runP (G : GlyD) (acts : List ActD) (deep : Nat) (line : List Int) (at' : Nat) : Option (List Int) :=
  match runR G acts deep line (line.length + 2) at' (fun _ => 0) [] none with
  | none => none
  | some b => some (b.from' :: (b.to' : Int) :: (List.range 18).map fun k => noteIn b.notes ((k + 2 : Nat) : Int))
end Go.Proofs.YtdegdoilpamjjaaDoor
