/- A symbolic run of code that compares one int with constants and answers constants: its decision tree, and that the call answers what the tree says. No condition. Plain law: the hexadecimal reader of the glyph tables, and the search by halves, as Lean functions. No condition. Chapter 10, plain: the program's nodes, its reader (what it reads, or the place where it gives up), the parts of a node. No program in sight. What the bound of the second form gives: how many values a reading holds. No condition. Chapter 10, plain: the acts that a node is compiled to, and the runner. No program in sight. Chapter 10, plain: a list quoted as a pattern; the way in which the runner finds a plain word. No program in sight. Plain law: decision trees over one int as lists of stretches on which they stand still; tables of rows searched by halves. No condition. The rows of the glyph tables as lists of (first, last, number); printed by gen_tables.py. Plain law: what the calls of package glyph answer, as Lean functions over the tables, and facts on them. No condition. Contracts: glyph.scalar, glyph.number, over the seat's program. Conditions: number reads at most five hexadecimal letters. The base of lists of ints: those that came in, those of the call's own. Condition: fewer than 2^32 members. The tables of the cases as lists; a world in which the program's variables hold them; slices of ints that came in. No condition. Contract: glyph.sought. Conditions: the text is rows of eleven hexadecimal letters, at most a thousand. Plain law: the cases of letters as Lean functions over the three tables. No condition. What a step leaves alone: blocks outside a set. No walk. -/
import Derived.WalkKit
import Derived.Test.YtdegdoilpamjjaaDoorRows
import Derived.Test.YtdegdoilpamjjaaDoorProg
import Derived.WalkSpells
import Derived.WalkLawsBesides
import Derived.Deep.LoopGhost
import Derived.Lib.Hide
import Derived.Laws.AppendOwn
import Derived.Laws.OwnMore
import Derived.OwnWalk
import Derived.OneCell
import Derived.Laws.AppendOwnNone
import Derived.Deep.OwnRows
import Derived.Laws.CopyOwn
import Derived.Maps.AppendAt
import Derived.ProofKit
import Derived.OpenShut
import Derived.Below
namespace Go.Proofs.YtdegdoilpamjjaaDoor
inductive BE where
 | tt | ff
 | eq (k : Int) | ge (k : Int) | le (k : Int)
 | not (a : BE) | and (a b : BE) | or (a b : BE)
 deriving DecidableEq
def BE.den (x : Int) : BE → Bool
 | .tt => true
 | .ff => false
 | .eq k => x == k
 | .ge k => decide (k ≤ x)
 | .le k => decide (x ≤ k)
 | .not a => !a.den x
 | .and a b => a.den x && b.den x
 | .or a b => a.den x || b.den x
inductive SV where
 | x | int (n : Int) | bool (b : BE)
def SV.den (x : Int) : SV → Value
 | .x => .int .i64 x
 | .int n => .int .i64 n
 | .bool b => .bool (b.den x)
structure En where
 c : BE
 v : SV
abbrev Env := List (Nat × En)
def look (e : Env) (t : Nat) : Option En :=
 match e with
 | [] => none
 | (u, v) :: r => if u == t then some v else look r t
inductive DT where
 | ret (v : SV)
 | ite (b : BE) (t e : DT)
 | fail
def DT.ok : DT → Bool
 | .ret _ => true
 | .ite _ t e => t.ok && e.ok
 | .fail => false
def DT.den (x : Int) : DT → Value
 | .ret v => v.den x
 | .ite b t e => if b.den x then t.den x else e.den x
 | .fail => undef
structure Mods (n : Nat) (env : Env) (a : Act) (x : Int) : Prop where
 defers : a.defers = []
 size : a.tmps.size = n
 arg : a.tmps[0]? = some (.int .i64 x)
 rest : ∀ t e, look env t = some e → e.c.den x = true → a.tmps[t]? = some (e.v.den x)
theorem Mods.put {n : Nat} {env : Env} {a : Act} {x : Int} (m : Mods n env a x) {d : Nat} {e : En} {v : Value} (h0 : d ≠ 0) (hn : d < n) (hv : e.c.den x = true → v = e.v.den x) :
  Mods n ((d, e) :: env) (a.put (some d) v) x := by
 refine ⟨m.defers, by simp [Act.put, m.size], ?_, ?_⟩
 ·
  simp only [Act.put]
  rw [Array.getElem?_setIfInBounds_ne h0]; exact m.arg
 ·
  intro t e' hl hc
  simp only [look] at hl
  simp only [Act.put]
  split at hl
  ·
   rename_i ht
   simp at ht hl; subst ht; subst hl
   rw [Array.getElem?_setIfInBounds_self_of_lt (by rw [m.size]; exact hn), hv hc]
  ·
   rename_i ht
   simp at ht
   rw [Array.getElem?_setIfInBounds_ne ht]; exact m.rest t e' hl hc
end Go.Proofs.YtdegdoilpamjjaaDoor
namespace Go.Proofs.YtdegdoilpamjjaaDoor
def hexD (c : UInt8) : Int := if 57 < (c.toNat : Int) then (c.toNat : Int) - 65 + 10 else (c.toNat : Int) - 48
def hexN (l : List UInt8) : Int := l.foldl (fun n c => n * 16 + hexD c) 0
def hexOk (l : List UInt8) : Bool := l.all fun c => decide (48 ≤ c.toNat) && decide (c.toNat ≤ 70)
theorem hexN_snoc (l : List UInt8) (c : UInt8) : hexN (l ++ [c]) = hexN l * 16 + hexD c := by
 simp [hexN, List.foldl_append]
theorem hexD_bd (c : UInt8) (h : 48 ≤ c.toNat) (h' : c.toNat ≤ 70) : 0 ≤ hexD c ∧ hexD c ≤ 15 := by
 unfold hexD; split <;> omega
theorem hexOk_get {l : List UInt8} (h : hexOk l = true) (i : Nat) (hi : i < l.length) : 48 ≤ (l[i]).toNat ∧ (l[i]).toNat ≤ 70 := by
 have := List.all_eq_true.1 h _ (List.getElem_mem hi)
 simpa using this
theorem hexOk_take {l : List UInt8} (h : hexOk l = true) (n : Nat) : hexOk (l.take n) = true := by
 unfold hexOk at *; rw [List.all_eq_true] at *
 intro x hx; exact h x (List.mem_of_mem_take hx)
theorem hexOk_drop {l : List UInt8} (h : hexOk l = true) (n : Nat) : hexOk (l.drop n) = true := by
 unfold hexOk at *; rw [List.all_eq_true] at *
 intro x hx; exact h x (List.mem_of_mem_drop hx)
theorem hexN_bd : ∀ (n : Nat) (l : List UInt8), l.length = n → hexOk l = true → 0 ≤ hexN l ∧ hexN l < 16 ^ n := by
 intro n
 induction n with
 | zero => intro l hl _; rw [List.length_eq_zero_iff.1 hl]; simp [hexN]
 | succ n ih =>
  intro l hl hk
  have hl' : l = l.take n ++ [l[n]'(by omega)] := by
   rw [← List.take_succ_eq_append_getElem (by omega)]; exact (List.take_of_length_le (by omega)).symm
  have h1 := ih (l.take n) (by simp; omega) (hexOk_take hk n)
  have h2 := hexOk_get hk n (by omega)
  have h3 := hexD_bd _ h2.1 h2.2
  rw [hl', hexN_snoc, Int.pow_succ]
  omega
theorem hexN_bd5 {l : List UInt8} (h : l.length ≤ 5) (hk : hexOk l = true) : 0 ≤ hexN l ∧ hexN l ≤ 1048575 := by
 have h1 := hexN_bd l.length l rfl hk
 have : l.length = 0 ∨ l.length = 1 ∨ l.length = 2 ∨ l.length = 3 ∨ l.length = 4 ∨ l.length = 5 := by omega
 rcases this with e | e | e | e | e | e <;> rw [e] at h1 <;> simp at h1 <;> omega
def rowFst (l : List UInt8) (m : Nat) : Int := hexN ((l.drop (m * 11)).take 5)
def rowLst (l : List UInt8) (m : Nat) : Int := hexN ((l.drop (m * 11 + 5)).take 5)
def rowNum (l : List UInt8) (m : Nat) : Int := hexN ((l.drop (m * 11 + 10)).take 1)
def soughtF : Nat → List UInt8 → Int → Nat → Nat → Int
 | 0, _, _, _, _ => 0
 | f + 1, l, a, lo, hi =>
  if lo < hi then
   if a < rowFst l ((lo + hi) / 2) then soughtF f l a lo ((lo + hi) / 2)
   else if rowLst l ((lo + hi) / 2) < a then soughtF f l a ((lo + hi) / 2 + 1) hi
   else rowNum l ((lo + hi) / 2)
  else 0
theorem soughtF_end (f : Nat) (l : List UInt8) (a : Int) (lo hi : Nat) (h : ¬ lo < hi) : soughtF f l a lo hi = 0 := by
 cases f <;> simp [soughtF, h]
theorem extr (s : ByteArray) (a b : Nat) : (s.extract a b).data.toList = (s.data.toList.take b).drop a := by
 simp [List.drop_take]
theorem row_sub (s : ByteArray) (m a b : Nat) (hb : b ≤ 11) :
  ((s.extract (m * 11) ((m + 1) * 11)).extract a b).data.toList = (s.data.toList.drop (m * 11 + a)).take (b - a) := by
 rw [extr, extr, List.take_drop, List.drop_drop, List.take_take, List.take_drop]
 have h1 : m * 11 + b = min (m * 11 + b) ((m + 1) * 11) := by omega
 by_cases hab : a ≤ b
 · rw [← h1, show m * 11 + a + (b - a) = m * 11 + b from by omega]
 · rw [← h1, List.drop_eq_nil_of_le (by simp; omega), List.drop_eq_nil_of_le (by simp; omega)]
theorem row_sub_size (s : ByteArray) (m a b : Nat) (hb : b ≤ 11) (hab : a ≤ b) (hm : 11 * (m + 1) ≤ s.size) :
  ((s.extract (m * 11) ((m + 1) * 11)).extract a b).size = b - a := by
 simp; omega
end Go.Proofs.YtdegdoilpamjjaaDoor
namespace Go.Proofs.YtdegdoilpamjjaaDoor
inductive Nd where
 | set (ranges : List (Int × Int)) (kinds : List Int) (not fold : Bool)
 | edge (what : Int)
 | row (l : List Nd)
 | choice (l : List Nd)
 | group (n : Nd) (number : Int)
 | again (n : Nd) (least most : Int) (lazy : Bool)
structure RS where
 at' : Nat
 groups : Nat
deriving DecidableEq
abbrev RR (α : Type) := Except Nat (α × RS)
def srcAt (src : List Int) (i : Nat) : Int := src.getD i 0
def pk (src : List Int) (at' k : Nat) : Int := if at' + k < src.length then srcAt src (at' + k) else -4611686018427387904
def nx (src : List Int) (s : RS) : RR Int := if src.length ≤ s.at' then .error src.length else .ok (srcAt src s.at', { s with at' := s.at' + 1 })
def escB (src : List Int) (at' : Nat) (c : Int) : Bool := decide (pk src at' 0 = 92) && decide (at' + 1 < src.length) && decide (pk src at' 1 = c)
def digP (c : Int) : Int := if 48 ≤ c ∧ c ≤ 57 then c - 48 else if 97 ≤ c ∧ c ≤ 102 then c - 87 else if 65 ≤ c ∧ c ≤ 70 then c - 55 else -1
def letP (c : Int) : Bool := decide (48 ≤ c ∧ c ≤ 57) || decide (97 ≤ c ∧ c ≤ 122) || decide (65 ≤ c ∧ c ≤ 90)
def hexP (src : List Int) (top : Int) : Nat → Int → RS → RR Int
 | 0, n, s => .ok (n, s)
 | i + 1, n, s => match nx src s with
  | .error e => .error e
  | .ok (c, s1) => if digP c < 0 ∨ top < (n * 16 + digP c) * 16 ^ i then .error (s1.at' - 1) else hexP src top i (n * 16 + digP c) s1
def numR (src : List Int) : Nat → Int → RS → RR Int
 | 0, n, s => .ok (n, s)
 | f + 1, n, s => if 48 ≤ pk src s.at' 0 ∧ pk src s.at' 0 ≤ 57 then
   (if 255 < max n 0 * 10 + pk src s.at' 0 - 48 then .error s.at' else numR src f (max n 0 * 10 + pk src s.at' 0 - 48) { s with at' := s.at' + 1 })
  else .ok (n, s)
def numP' (src : List Int) (s : RS) : RR Int := numR src (src.length + 1) (-1) s
def signP (src : List Int) (s : RS) : RR (Int × Option Int) := match nx src s with
 | .error e => .error e
 | .ok (c, s1) => if c ≠ 92 then .ok ((c, none), s1) else match nx src s1 with
  | .error e => .error e
  | .ok (c, s2) =>
   if c = 92 ∨ c = 93 ∨ c = 94 ∨ c = 45 then .ok ((c, none), s2)
   else if c = 116 then .ok ((9, none), s2)
   else if c = 101 then .ok ((27, none), s2)
   else if c = 120 then (match hexP src 255 2 0 s2 with
    | .error e => .error e
    | .ok (v, s3) => .ok ((-1 - v, none), s3))
   else if c = 100 ∨ c = 115 ∨ c = 119 ∨ c = 108 ∨ c = 117 then .ok ((0, some c), s2)
   else .error (s2.at' - 1)
def rawB (a : Int) : Bool := decide (-256 ≤ a ∧ a < 0)
def classR (src : List Int) : Nat → Bool → List (Int × Int) → List Int → RS → RR (List (Int × Int) × List Int)
 | 0, _, rs, ks, s => .ok ((rs, ks), s)
 | f + 1, first, rs, ks, s => if first = false ∧ pk src s.at' 0 = 93 then .ok ((rs, ks), { s with at' := s.at' + 1 }) else match signP src s with
  | .error e => .error e
  | .ok ((_, some k), s1) => classR src f false rs (ks ++ [k]) s1
  | .ok ((lo, none), s1) =>
   if pk src s1.at' 0 = 45 ∧ s1.at' + 1 < src.length ∧ pk src s1.at' 1 ≠ 93 then match signP src { s1 with at' := s1.at' + 1 } with
    | .error e => .error e
    | .ok ((_, some _), s2) => .error (s2.at' - 1)
    | .ok ((hi, none), s2) =>
     if 0 ≤ lo ∧ lo ≤ hi then classR src f false (rs ++ [(lo, hi)]) ks s2
     else if rawB lo = true ∧ rawB hi = true ∧ hi ≤ lo then classR src f false (rs ++ [(hi, lo)]) ks s2
     else .error (s2.at' - 1)
   else classR src f false (rs ++ [(lo, lo)]) ks s1
def classP (src : List Int) (fold : Bool) (s : RS) : RR Nd :=
 let nt := decide (pk src s.at' 0 = 94)
 match classR src (src.length + 2) true [] [] (if nt then { s with at' := s.at' + 1 } else s) with
 | .error e => .error e
 | .ok ((rs, ks), s1) => .ok (.set rs ks nt fold, s1)
def oneN (fold : Bool) (c : Int) : Nd := .set [(c, c)] [] false fold
def bracesP (src : List Int) (x : Nd) (s : RS) : RR Nd :=
 let lz := decide (pk src s.at' 0 = 45)
 match numP' src (if lz then { s with at' := s.at' + 1 } else s) with
 | .error e => .error e
 | .ok (least, s1) =>
  match (if pk src s1.at' 0 = 44 then numP' src { s1 with at' := s1.at' + 1 } else .ok (least, s1)) with
  | .error e => .error e
  | .ok (most, s2) => match nx src s2 with
   | .error e => .error e
   | .ok (c, s3) => if c ≠ 125 ∨ (0 ≤ most ∧ most < least) then .error (s3.at' - 1) else .ok (.again x (max least 0) most lz, s3)
def timesP (src : List Int) (x : Nd) (s : RS) : RR Nd :=
 if pk src s.at' 0 = 42 then .ok (.again x 0 (-1) false, { s with at' := s.at' + 1 })
 else if escB src s.at' 43 then .ok (.again x 1 (-1) false, { s with at' := s.at' + 2 })
 else if escB src s.at' 63 then .ok (.again x 0 1 false, { s with at' := s.at' + 2 })
 else if escB src s.at' 123 then bracesP src x { s with at' := s.at' + 2 }
 else .ok (x, s)
mutual
def patP (src : List Int) (fold : Bool) : Nat → List Nd → RS → RR Nd
 | 0, _, _ => .error 0
 | f + 1, acc, s => match memsP src fold f [] s with
  | .error e => .error e
  | .ok (ms, s1) => if escB src s1.at' 124 then patP src fold f (acc ++ [.row ms]) { s1 with at' := s1.at' + 2 } else .ok (.choice (acc ++ [.row ms]), s1)
def memsP (src : List Int) (fold : Bool) : Nat → List Nd → RS → RR (List Nd)
 | 0, _, _ => .error 0
 | f + 1, acc, s => if s.at' < src.length ∧ escB src s.at' 124 = false ∧ escB src s.at' 41 = false then match memP src fold f s with
   | .error e => .error e
   | .ok (m, s1) => memsP src fold f (acc ++ [m]) s1
  else .ok (acc, s)
def memP (src : List Int) (fold : Bool) : Nat → RS → RR Nd
 | 0, _ => .error 0
 | f + 1, s => if pk src s.at' 0 = 94 ∨ pk src s.at' 0 = 36 then .ok (.edge (pk src s.at' 0), { s with at' := s.at' + 1 })
  else if escB src s.at' 60 = true ∨ escB src s.at' 62 = true then .ok (.edge (srcAt src (s.at' + 1)), { s with at' := s.at' + 2 })
  else match thingP src fold f s with
   | .error e => .error e
   | .ok (x, s1) => timesP src x s1
def insP (src : List Int) (fold : Bool) : Nat → Int → RS → RR Nd
 | 0, _, _ => .error 0
 | f + 1, number, s => match patP src fold f [] s with
  | .error e => .error e
  | .ok (x, s1) => if escB src s1.at' 41 then .ok (.group x number, { s1 with at' := s1.at' + 2 }) else .error src.length
def thingP (src : List Int) (fold : Bool) : Nat → RS → RR Nd
 | 0, _ => .error 0
 | f + 1, s => match nx src s with
  | .error e => .error e
  | .ok (c, s1) =>
   if c = 42 then .error (s1.at' - 1)
   else if c = 46 then .ok (.set [] [] true false, s1)
   else if c = 91 then classP src fold s1
   else if c ≠ 92 then .ok (oneN fold c, s1)
   else match nx src s1 with
    | .error e => .error e
    | .ok (c, s2) =>
     if c = 40 then (if s2.groups = 9 then .error (s2.at' - 1) else insP src fold f (s2.groups + 1 : Nat) { s2 with groups := s2.groups + 1 })
     else if c = 100 ∨ c = 115 ∨ c = 119 ∨ c = 108 ∨ c = 117 then .ok (.set [] [c] false fold, s2)
     else if c = 68 ∨ c = 83 ∨ c = 87 then .ok (.set [] [c + 32] true fold, s2)
     else if c = 116 then .ok (oneN fold 9, s2)
     else if c = 101 then .ok (oneN fold 27, s2)
     else if c = 120 then (match hexP src 255 2 0 s2 with
      | .error e => .error e
      | .ok (v, s3) => .ok (oneN fold (-1 - v), s3))
     else if c = 37 then (match nx src s2 with
      | .error e => .error e
      | .ok (c, s3) =>
       if c = 40 then insP src fold f 0 s3
       else if c = 117 then (match hexP src 65535 4 0 s3 with
        | .error e => .error e
        | .ok (v, s4) => .ok (oneN fold v, s4))
       else if c = 85 then (match hexP src 1114111 6 0 s3 with
        | .error e => .error e
        | .ok (v, s4) => .ok (oneN fold v, s4))
       else .error (s3.at' - 1))
     else if c = 41 ∨ c = 124 ∨ c = 43 ∨ c = 63 ∨ c = 123 ∨ c = 60 ∨ c = 62 then .error (s2.at' - 1)
     else if letP c then .error (s2.at' - 1)
     else .ok (oneN fold c, s2)
end
def lidP (n : Int) : Int := min n 4097
mutual
def partsP : Nd → Int
 | .set _ _ _ _ => 1
 | .edge _ => 1
 | .row l => totalP l 0
 | .choice l => lidP (totalP l 0 + l.length - 1)
 | .group n k => if k = 0 then partsP n else lidP (partsP n + 2)
 | .again n least most _ => lidP (max (if most < 0 then least + 1 else most) 1 * partsP n + 1)
def totalP : List Nd → Int → Int
 | [], t => t
 | n :: l, t => totalP l (lidP (t + partsP n))
end
inductive CP where
 | long
 | bad (place : Nat)
 | big
 | ok (n : Nd) (groups : Nat)
def compileP (src : List Int) (ignore : Bool) : CP :=
 if 256 < src.length then .long else
 match patP src ignore (4 * src.length + 8) [] ⟨0, 0⟩ with
 | .error e => .bad e
 | .ok (n, s) => if s.at' < src.length then .bad (s.at' + 1) else if 4096 < partsP n then .big else .ok n s.groups
end Go.Proofs.YtdegdoilpamjjaaDoor
namespace Go.Proofs.YtdegdoilpamjjaaDoor.bulks
theorem one_le {H : Type} (d : DataW H) : 1 ≤ Rows.uptoBulk d := by
 cases d with
 | lit l => cases l <;> simp [Rows.uptoBulk]
 | nil => simp [Rows.uptoBulk]
 | ptr d => simp [Rows.uptoBulk]
 | slice elems spare => simp [Rows.uptoBulk]
 | agg parts => simp [Rows.uptoBulk]
 | iface t d => simp [Rows.uptoBulk]
 | map entries => simp [Rows.uptoBulk]
 | held h => simp [Rows.uptoBulk]
theorem part_le {H : Type} {d : DataW H} {l : List (DataW H)} (h : d ∈ l) : Rows.uptoBulk d ≤ Rows.uptoBulkAll l := by
 induction l with
 | nil => cases h
 | cons x r ih =>
  simp only [Rows.uptoBulkAll]
  cases List.mem_cons.1 h with
  | inl e => subst e; omega
  | inr e => have := ih e; omega
theorem append {H : Type} (l r : List (DataW H)) : Rows.uptoBulkAll (l ++ r) = Rows.uptoBulkAll l + Rows.uptoBulkAll r := by
 induction l with
 | nil => simp [Rows.uptoBulkAll]
 | cons x l ih => simp only [List.cons_append, Rows.uptoBulkAll, ih]; omega
theorem length_le {H : Type} (l : List (DataW H)) : l.length ≤ Rows.uptoBulkAll l := by
 induction l with
 | nil => simp [Rows.uptoBulkAll]
 | cons x r ih => have := one_le x; simp only [Rows.uptoBulkAll, List.length_cons]; omega
theorem slice_le {H : Type} (elems spare : List (DataW H)) : elems.length + spare.length + 1 ≤ Rows.uptoBulk (.slice elems spare) := by
 have h1 := length_le elems
 have h2 := length_le spare
 simp only [Rows.uptoBulk]
 omega
theorem bound {H : Type} {l : List (DataW H)} (hk : Rows.uptoSmall H l = true) : Rows.uptoBulkAll l ≤ 1048576 := of_decide_eq_true hk
end Go.Proofs.YtdegdoilpamjjaaDoor.bulks
namespace Go.Proofs.YtdegdoilpamjjaaDoor
structure SetD where
 ranges : List (Int × Int)
 kinds : List Int
 not : Bool
 fold : Bool
structure ActD where
 kind : Int
 x : Int := 0
 y : Int := 0
 s : Option SetD := none
def timesN (n : Int) : Nat := n.toNat
mutual
def sizeA : Nd → Nat
 | .set _ _ _ _ => 1
 | .edge _ => 1
 | .row l => sizeL l
 | .choice l => sizeL l + 2 * (l.length - 1)
 | .group n k => if 0 < k then sizeA n + 2 else sizeA n
 | .again n least most _ => timesN least * sizeA n + (if most < 0 then sizeA n + 4 else timesN (most - least) * (sizeA n + 3))
def sizeL : List Nd → Nat
 | [] => 0
 | n :: l => sizeA n + sizeL l
end
mutual
def deepA (d : Nat) : Nd → Nat
 | .set _ _ _ _ => d
 | .edge _ => d
 | .row l => deepL d l
 | .choice l => deepL d l
 | .group n _ => deepA d n
 | .again n least most _ => max d (max (if 0 < least then deepA d n else d) (if most < 0 ∨ least < most then deepA (d + 1) n else d))
def deepL (d : Nat) : List Nd → Nat
 | [] => d
 | n :: l => max (deepA d n) (deepL d l)
end
def copiesA (g : Nat → List ActD) (sz : Nat) : Nat → Nat → List ActD
 | 0, _ => []
 | k + 1, b => g b ++ copiesA g sz k (b + sz)
def waysA (g : Nat → List ActD) (sz : Nat) (lz : Bool) (out : Nat) : Nat → Nat → List ActD
 | 0, _ => []
 | k + 1, b => (if lz then ⟨2, out, (b + 1 : Nat), none⟩ else ⟨2, (b + 1 : Nat), out, none⟩) :: ⟨4, 0, 0, none⟩ :: (g (b + 2) ++ ⟨5, 0, 0, none⟩ :: waysA g sz lz out k (b + sz + 3))
mutual
def genA : Nd → Nat → List ActD
 | .set r k nt f, _ => [⟨0, 0, 0, some ⟨r, k, nt, f⟩⟩]
 | .edge w, _ => [⟨1, w, 0, none⟩]
 | .row l, b => genR l b
 | .choice l, b => genC l b (b + (sizeL l + 2 * (l.length - 1)))
 | .group n k, b => if 0 < k then ⟨3, 2 * k, 0, none⟩ :: (genA n (b + 1) ++ [⟨3, 2 * k + 1, 0, none⟩]) else genA n b
 | .again n least most lz, b =>
  let sz := sizeA n
  let b1 := b + timesN least * sz
  copiesA (genA n) sz (timesN least) b ++
   (if most < 0 then waysA (genA n) sz lz (b1 + sz + 4) 1 b1 ++ [⟨2, b1, -1, none⟩]
    else waysA (genA n) sz lz (b1 + timesN (most - least) * (sz + 3)) (timesN (most - least)) b1)
def genR : List Nd → Nat → List ActD
 | [], _ => []
 | n :: l, b => genA n b ++ genR l (b + sizeA n)
def genC : List Nd → Nat → Nat → List ActD
 | [], _, _ => []
 | [n], b, _ => genA n b
 | n :: l, b, e => ⟨2, (b + 1 : Nat), (b + sizeA n + 2 : Nat), none⟩ :: (genA n (b + 1) ++ ⟨2, e, -1, none⟩ :: genC l (b + sizeA n + 2) e)
end
def progA (n : Nd) : List ActD := genA n 0 ++ [⟨6, 0, 0, none⟩]
structure ThD where
 act : Nat
 from' : Int
 notes : List (Int × Int)
structure ToD where
 act : Int
 idle : Nat
 notes : List (Int × Int)
def standsP (word : Int → Bool) (len : Nat) (at' : Nat) (what : Int) : Bool :=
 if what = 94 then decide (at' = 0) else if what = 36 then decide (at' = len) else if what = 60 then word at' && !word (at' - 1) else !word at' && word (at' - 1)
def goOnP (acts : List ActD) (deep : Nat) (stand : Int → Bool) (at' : Nat) (from' : Int) : Nat → ToD → (Nat → Nat) → List ThD → List ToD → (Nat → Nat) × List ThD × List ToD
 | 0, _, seen, th, st => (seen, th, st)
 | f + 1, t, seen, th, st =>
  if t.act < 0 then (seen, th, st) else
  let k := t.act.toNat * (deep + 1) + t.idle
  if seen k = at' + 1 then (seen, th, st) else
  let seen' := fun i => if i = k then at' + 1 else seen i
  let a := acts.getD t.act.toNat ⟨6, 0, 0, none⟩
  if a.kind = 0 ∨ a.kind = 6 then (seen', th ++ [⟨t.act.toNat, from', t.notes⟩], st)
  else if a.kind = 1 then (if stand a.x then goOnP acts deep stand at' from' f { t with act := t.act + 1 } seen' th st else (seen', th, st))
  else if a.kind = 2 then goOnP acts deep stand at' from' f { t with act := a.x } seen' th (⟨a.y, t.idle, t.notes⟩ :: st)
  else if a.kind = 3 then goOnP acts deep stand at' from' f { t with act := t.act + 1, notes := (a.x, (at' : Int)) :: t.notes } seen' th st
  else if a.kind = 4 then goOnP acts deep stand at' from' f { t with act := t.act + 1, idle := t.idle + 1 } seen' th st
  else (if 0 < t.idle then (seen', th, st) else goOnP acts deep stand at' from' f { t with act := t.act + 1 } seen' th st)
def addP' (acts : List ActD) (deep : Nat) (stand : Int → Bool) (at' : Nat) (from' : Int) : Nat → (Nat → Nat) → List ThD → List ToD → (Nat → Nat) × List ThD
 | 0, seen, th, _ => (seen, th)
 | _ + 1, seen, th, [] => (seen, th)
 | f + 1, seen, th, t :: st => match goOnP acts deep stand at' from' (acts.length * (deep + 1) + 2) t seen th st with
  | (seen', th', st') => addP' acts deep stand at' from' f seen' th' st'
def noteIn (notes : List (Int × Int)) (slot : Int) : Int := match notes.find? (fun p => decide (p.1 = slot)) with | some p => p.2 | none => -1
structure GlyD where
 word : Int → Int
 upper : Int → Int
 lower : Int → Int
def kindP (G : GlyD) (c a : Int) : Bool :=
 if c = 100 then decide (48 ≤ a ∧ a ≤ 57) else if c = 115 then decide (a = 32 ∨ a = 9) else if c = 119 then decide (G.word a = 2) else if c = 108 then decide (G.upper a ≠ a) else decide (G.lower a ≠ a)
def hasP (G : GlyD) (s : SetD) (a : Int) : Bool := (s.ranges.any fun x => decide (x.1 ≤ a ∧ a ≤ x.2)) || s.kinds.any fun c => kindP G c a
def takesP (G : GlyD) (s : SetD) (a : Int) : Bool := (hasP G s a || (s.fold && (hasP G s (G.lower a) || hasP G s (G.upper a)))) != s.not
structure BestD where
 from' : Int
 to' : Nat
 notes : List (Int × Int)
def wordAt (G : GlyD) (line : List Int) (i : Int) : Bool := decide (0 ≤ i ∧ i < line.length) && decide (G.word (line.getD i.toNat 0) = 2)
def addAll (G : GlyD) (acts : List ActD) (deep : Nat) (line : List Int) (at' : Nat) (act : Int) (from' : Int) (notes : List (Int × Int)) (seen : Nat → Nat) (th : List ThD) : (Nat → Nat) × List ThD :=
 addP' acts deep (standsP (wordAt G line) line.length at') at' from' (acts.length * (deep + 1) + 2) seen th [⟨act, 0, notes⟩]
def stepP' (G : GlyD) (acts : List ActD) (deep : Nat) (line : List Int) (here : Nat) : List ThD → (Nat → Nat) → List ThD → Option BestD → (Nat → Nat) × List ThD × Option BestD
 | [], seen, th, best => (seen, th, best)
 | t :: old, seen, th, best =>
  let a := acts.getD t.act ⟨6, 0, 0, none⟩
  if a.kind = 6 then (seen, th, some ⟨t.from', here, t.notes⟩)
  else if a.kind = 0 ∧ here < line.length ∧ takesP G (a.s.getD ⟨[], [], false, false⟩) (line.getD here 0) = true then
   (match addAll G acts deep line (here + 1) (t.act + 1 : Nat) t.from' t.notes seen th with
   | (seen', th') => stepP' G acts deep line here old seen' th' best)
  else stepP' G acts deep line here old seen th best
def runR (G : GlyD) (acts : List ActD) (deep : Nat) (line : List Int) : Nat → Nat → (Nat → Nat) → List ThD → Option BestD → Option BestD
 | 0, _, _, _, best => best
 | f + 1, at', seen, th, best =>
  if line.length < at' then best else
  match (if best.isNone then addAll G acts deep line at' 0 (at' : Int) [] seen th else (seen, th)) with
  | (seen1, th1) => if th1.isEmpty && best.isSome then best else
   match stepP' G acts deep line at' th1 seen1 [] best with
   | (seen2, th2, best2) => runR G acts deep line f (at' + 1) seen2 th2 best2
end Go.Proofs.YtdegdoilpamjjaaDoor
namespace Go.Proofs.YtdegdoilpamjjaaDoor
def spc (c : Int) : Bool := c == 92 || c == 46 || c == 91 || c == 42 || c == 94 || c == 36
def qc (c : Int) : List Int := if spc c then [92, c] else [c]
def qd (l : List Int) : List Int := l.flatMap qc
def posQ (l : List Int) (k : Nat) : Nat := (qd (l.take k)).length
theorem posQ_all (l : List Int) : posQ l l.length = (qd l).length := by unfold posQ; rw [List.take_length]
structure QE (src : List Int) (p : Nat) : Prop where
 star : pk src p 0 ≠ 42
 esc : pk src p 0 = 92 → p + 1 < src.length ∧ spc (pk src p 1) = true
inductive QP (src : List Int) (p : Nat) (c : Int) : Nat → Prop
 | plain (h : p < src.length) (hc : spc c = false) (h0 : pk src p 0 = c) : QP src p c (p + 1)
 | esc (h : p + 1 < src.length) (hc : spc c = true) (h0 : pk src p 0 = 92) (h1 : pk src p 1 = c) : QP src p c (p + 2)
def preM (L W : List Int) (f j : Nat) : Prop := ∀ i, i < j → f + i < L.length ∧ L.getD (f + i) 0 = W.getD i 0
def goesF (L W : List Int) (a f : Nat) : Bool := decide (a < L.length) && decide (L.getD a 0 = W.getD (a - f) 0)
structure FOk (L W : List Int) (start a : Nat) (F : List Nat) : Prop where
 mem : ∀ f, f ∈ F ↔ start ≤ f ∧ f < a ∧ a - f ≤ W.length ∧ preM L W f (a - f)
 srt : F.Pairwise (· < ·)
theorem FOk.nil (L W : List Int) (start : Nat) : FOk L W start start [] := ⟨fun f => ⟨fun h => (List.not_mem_nil h).elim, fun h => by omega⟩, .nil⟩
theorem FOk.add {L W : List Int} {start a : Nat} {F : List Nat} (h : FOk L W start a F) : (F ++ [a]).Pairwise (· < ·) := by
 rw [List.pairwise_append]
 exact ⟨h.srt, List.pairwise_singleton _ _, fun x hx y hy => by rw [List.mem_singleton] at hy; subst hy; exact ((h.mem x).1 hx).2.1⟩
theorem FOk.mem1 {L W : List Int} {start a : Nat} {F : List Nat} (h : FOk L W start a F) (hs : start ≤ a) (f : Nat) : f ∈ F ++ [a] ↔ start ≤ f ∧ f ≤ a ∧ a - f ≤ W.length ∧ preM L W f (a - f) := by
 rw [List.mem_append, List.mem_singleton, h.mem]
 constructor
 ·
  rintro (⟨h1, h2, h3, h4⟩ | rfl)
  · exact ⟨h1, by omega, h3, h4⟩
  · exact ⟨hs, Nat.le_refl _, by omega, fun i hi => by omega⟩
 ·
  rintro ⟨h1, h2, h3, h4⟩
  by_cases e : f = a
  · exact .inr e
  · exact .inl ⟨h1, by omega, h3, h4⟩
theorem FOk.step {L W : List Int} {start a : Nat} {F : List Nat} (h : FOk L W start a F) (hs : start ≤ a) (hno : ∀ f ∈ F ++ [a], a - f ≠ W.length) :
  FOk L W start (a + 1) ((F ++ [a]).filter (goesF L W a)) := by
 refine ⟨fun f => ?_, h.add.filter _⟩
 rw [List.mem_filter]
 constructor
 ·
  rintro ⟨h1, h2⟩
  have h3 := hno f h1
  obtain ⟨k1, k2, k3, k4⟩ := (h.mem1 hs f).1 h1
  unfold goesF at h2
  rw [Bool.and_eq_true, decide_eq_true_eq, decide_eq_true_eq] at h2
  refine ⟨k1, by omega, by omega, fun i hi => ?_⟩
  by_cases hi2 : i < a - f
  · exact k4 i hi2
  ·
   obtain rfl : i = a - f := by omega
   rw [show f + (a - f) = a from by omega]
   exact h2
 ·
  rintro ⟨k1, k2, k3, k4⟩
  refine ⟨(h.mem1 hs f).2 ⟨k1, by omega, by omega, fun i hi => k4 i (by omega)⟩, ?_⟩
  have := k4 (a - f) (by omega)
  rw [show f + (a - f) = a from by omega] at this
  unfold goesF
  rw [Bool.and_eq_true, decide_eq_true_eq, decide_eq_true_eq]
  exact this
end Go.Proofs.YtdegdoilpamjjaaDoor
namespace Go.Proofs.YtdegdoilpamjjaaDoor
def SV.toI : SV → Int
 | .int n => n
 | .bool .tt => 1
 | _ => 0
def DT.int (x : Int) : DT → Int
 | .ret v => v.toI
 | .ite b t e => if b.den x then t.int x else e.int x
 | .fail => 0
def BE.split : BE → Int → Int → List (Int × Int × Bool)
 | .tt, l, h => [(l, h, true)]
 | .ff, l, h => [(l, h, false)]
 | .eq k, l, h => if k < l || h < k then [(l, h, false)] else (if l < k then [(l, k - 1, false)] else []) ++ (k, k, true) :: (if k < h then [(k + 1, h, false)] else [])
 | .ge k, l, h => if k ≤ l then [(l, h, true)] else if h < k then [(l, h, false)] else [(l, k - 1, false), (k, h, true)]
 | .le k, l, h => if h ≤ k then [(l, h, true)] else if k < l then [(l, h, false)] else [(l, k, true), (k + 1, h, false)]
 | .not a, l, h => (a.split l h).map fun p => (p.1, p.2.1, !p.2.2)
 | .and a b, l, h => (a.split l h).flatMap fun p => if p.2.2 then b.split p.1 p.2.1 else [p]
 | .or a b, l, h => (a.split l h).flatMap fun p => if p.2.2 then [p] else b.split p.1 p.2.1
def BE.lowB (m : Int) : BE → Bool
 | .tt => true
 | .ff => true
 | .eq k => decide (m < k)
 | .ge k => decide (m < k)
 | .le k => decide (m ≤ k)
 | .not a => a.lowB m
 | .and a b => a.lowB m && b.lowB m
 | .or a b => a.lowB m && b.lowB m
def BE.highB (m : Int) : BE → Bool
 | .tt => true
 | .ff => true
 | .eq k => decide (k < m)
 | .ge k => decide (k ≤ m)
 | .le k => decide (k < m)
 | .not a => a.highB m
 | .and a b => a.highB m && b.highB m
 | .or a b => a.highB m && b.highB m
def DT.lowB (m : Int) : DT → Bool
 | .ite b t e => b.lowB m && t.lowB m && e.lowB m
 | _ => true
def DT.highB (m : Int) : DT → Bool
 | .ite b t e => b.highB m && t.highB m && e.highB m
 | _ => true
abbrev Row := Int × Int × Int
def rowsC : Nat → List UInt8 → List Row
 | 0, _ => []
 | n + 1, l => (hexN (l.take 5), hexN ((l.drop 5).take 5), hexN ((l.drop 10).take 1)) :: rowsC n (l.drop 11)
theorem rowsC_get : ∀ (n : Nat) (l : List UInt8) (m : Nat), m < n → (rowsC n l).getD m (0, 0, 0) = (rowFst l m, rowLst l m, rowNum l m) := by
 intro n
 induction n with
 | zero => intro l m h; omega
 | succ n ih =>
  intro l m h
  cases m with
  | zero => simp [rowsC, rowFst, rowLst, rowNum]
  | succ m =>
   have := ih (l.drop 11) m (by omega)
   simp only [rowsC, List.getD_cons_succ, this, rowFst, rowLst, rowNum, List.drop_drop]
   simp only [Nat.add_mul, Nat.add_comm, Nat.add_left_comm, Nat.one_mul]
def soughtR : Nat → List Row → Int → Nat → Nat → Int
 | 0, _, _, _, _ => 0
 | f + 1, t, a, lo, hi =>
  if lo < hi then
   if a < (t.getD ((lo + hi) / 2) (0, 0, 0)).1 then soughtR f t a lo ((lo + hi) / 2)
   else if (t.getD ((lo + hi) / 2) (0, 0, 0)).2.1 < a then soughtR f t a ((lo + hi) / 2 + 1) hi
   else (t.getD ((lo + hi) / 2) (0, 0, 0)).2.2
  else 0
theorem soughtF_rows (n : Nat) (l : List UInt8) (a : Int) : ∀ (f lo hi : Nat), hi ≤ n → soughtF f l a lo hi = soughtR f (rowsC n l) a lo hi := by
 intro f
 induction f with
 | zero => intro lo hi _; rfl
 | succ f ih =>
  intro lo hi h
  unfold soughtF soughtR
  by_cases hlt : lo < hi
  ·
   rw [if_pos hlt, if_pos hlt, rowsC_get n l _ (by omega)]
   simp only
   rw [ih lo _ (by omega), ih _ hi h]
  · rw [if_neg hlt, if_neg hlt]
def sot (t : List Row) (a : Int) : Int := soughtR t.length t a 0 t.length
theorem soughtF_sot {n : Nat} {l : List UInt8} {t : List Row} (h : rowsC n l = t) (hn : t.length = n) (a : Int) : soughtF n l a 0 n = sot t a := by
 unfold sot; rw [soughtF_rows n l a n 0 n (Nat.le_refl _), h, hn]
end Go.Proofs.YtdegdoilpamjjaaDoor
namespace Go.Proofs.YtdegdoilpamjjaaDoor
set_option maxRecDepth 20000
def wordT0 : List Row := [(9, 13, 1), (32, 32, 1), (48, 57, 2), (65, 90, 2), (95, 95, 2), (97, 122, 2), (133, 133, 1), (160, 160, 1), (170, 170, 2), (181, 181, 2), (186, 186, 2), (192, 214, 2), (216, 246, 2), (248, 705, 2), (768, 884, 2), (886, 893, 2), (895, 895, 2), (902, 902, 2), (904, 1013, 2), (1015, 1153, 2), (1155, 1327, 2), (1329, 1366, 2), (1376, 1416, 2), (1425, 1469, 2), (1488, 1514, 2), (1552, 1562, 2), (1568, 1641, 2), (1646, 1747, 2), (1749, 1756, 2), (1759, 1768, 2), (1770, 1788, 2), (1808, 1866, 2), (2304, 2403, 2), (2406, 2415, 2), (2417, 3571, 2), (3585, 3642, 2), (3648, 3662, 2), (3664, 3673, 2), (3713, 3807, 2), (3864, 3897, 2)]
def wordT1 : List Row := [(3904, 3972, 2), (3984, 4028, 2), (4096, 4169, 2), (4176, 4253, 2), (4256, 4346, 2), (4348, 4607, 2), (4608, 4959, 2), (5760, 5760, 1), (6016, 6099, 2), (7680, 8188, 2), (8192, 8202, 1), (8232, 8233, 1), (8239, 8239, 1), (8287, 8287, 1), (8486, 8486, 2), (8490, 8491, 2), (8544, 8584, 2), (12288, 12288, 1), (12293, 12295, 2), (12321, 12335, 2), (12353, 12438, 2), (12441, 12442, 2), (12445, 12447, 2), (12449, 12538, 2), (12540, 12543, 2), (12549, 12591, 2), (12593, 12686, 2), (13312, 19903, 2), (19968, 40959, 2), (43360, 43388, 2), (44032, 55203, 2), (55216, 55291, 2), (63744, 64255, 2), (64285, 64335, 2), (65296, 65305, 2), (65313, 65338, 2), (65345, 65370, 2), (65382, 65500, 2), (66560, 66639, 2), (131072, 195103, 2)]
def wordT2 : List Row := [(196608, 205743, 2)]
def wordT : List Row := wordT0 ++ wordT1 ++ wordT2
theorem wordT_len : wordT.length = 81 := by decide +kernel
end Go.Proofs.YtdegdoilpamjjaaDoor
namespace Go.Proofs.YtdegdoilpamjjaaDoor
def scalarB (a : Int) : Bool := decide (0 ≤ a ∧ a < 55296 ∨ 57343 < a ∧ a ≤ 1114111)
theorem scalar_bd {a : Int} (h : scalarB a = true) : 0 ≤ a ∧ a ≤ 1114111 := by unfold scalarB at h; simp at h; omega
def wordF (a : Int) : Int := if scalarB a = false then 1 else if sot wordT a = 2 then 2 else if sot wordT a = 1 then 0 else 1
end Go.Proofs.YtdegdoilpamjjaaDoor
namespace Go.Proofs.YtdegdoilpamjjaaDoor
open Go.RowKit
theorem ret_bool {a b : Bool} (h : a = b) : Ending.returned (.bool a) = .returned (.bool b) := by rw [h]
theorem ret_int {k : IntKind} {a b : Int} (h : a = b) : Ending.returned (.int k a) = .returned (.int k b) := by rw [h]
def IsInts (w : World) (s : Option Addr) (len : Nat) (f : Nat → Int) : Prop :=
 len = 0 ∨ ∃ b off, s = some ⟨b, off, none⟩ ∧ b < w.heap.size ∧ ∀ i, i < len → w.cell? ⟨b, off + i, none⟩ = some (.int .i64 (f i))
theorem IsInts.at {w w1 : World} {s : Option Addr} {len : Nat} {f : Nat → Int} (h : IsInts w s len f) (hb : Below w.heap.size w w1) {k : Nat} (hk : k < len) :
  ∃ b off, s = some ⟨b, off, none⟩ ∧ w1.cell? ⟨b, off + k, none⟩ = some (.int .i64 (f k)) := by
 rcases h with h | ⟨b, off, hs, hlt, hc⟩
 · omega
 · exact ⟨b, off, hs, (hb.cell (p := ⟨b, off + k, none⟩) hlt).trans (hc k hk)⟩
theorem IsInts.later {w w1 : World} {s : Option Addr} {len : Nat} {f : Nat → Int} (h : IsInts w s len f) (hb : Below w.heap.size w w1) : IsInts w1 s len f := by
 rcases h with h | ⟨b, off, hs, hlt, hc⟩
 · exact .inl h
 · exact .inr ⟨b, off, hs, Nat.lt_of_lt_of_le hlt hb.size, fun k hk => (hb.cell (p := ⟨b, off + k, none⟩) hlt).trans (hc k hk)⟩
set_option maxHeartbeats 400000 in
theorem scalar_any (a : Int) (w : World) :
  Calls Tryd.prog 72 #[.int .i64 a] w fun e w' => e = .returned (.bool (scalarB a)) ∧ w = w' := by
 go_enter Tryd.func72, Tryd.ntmps72
 go_wp2
 all_goals
  go_ret
  exact ⟨ret_bool (by unfold scalarB; rw [Bool.eq_iff_iff]; simp; try omega), rfl⟩
set_option maxHeartbeats 400000 in
theorem number_any (s : ByteArray) (w : World) (hs : s.size ≤ 5) (hk : hexOk s.data.toList = true) :
  Calls Tryd.prog 104 #[.string s] w fun e w' => e = .returned (.int .i64 (hexN s.data.toList)) ∧ w.iter s s.size = w' := by
 have HK := Lib.hid hk
 clear hk
 go_enter Tryd.func104, Tryd.ntmps104
 go_wp2
 go_loopg [3] s.size (fun g n wr => ∃ k : Nat, k ≤ s.size ∧ g = s.size - k ∧ wr = w.iter s k ∧ n = .int .i64 (hexN (s.data.toList.take k)))
 case atStart => exact ⟨0, Nat.zero_le _, rfl, rfl, rfl⟩
 case round =>
  obtain ⟨k, hle, rfl, rfl, rfl⟩ := hrel
  by_cases hlt : k < s.size
  ·
   have hd0 := hexOk_get HK.out k (by simpa using hlt)
   have hd1 : 48 ≤ s[k].toNat := hd0.1
   have hd2 : s[k].toNat ≤ 70 := hd0.2
   clear hd0
   have hb := hexN_bd5 (l := s.data.toList.take k) (by simp; omega) (hexOk_take HK.out k)
   have hnx := fun ty => run_next_ascii (P := Tryd.prog) w s k ty hlt (by omega)
   have hsn : hexN (s.data.toList.take (k + 1)) = hexN (s.data.toList.take k) * 16 + hexD s[k] := by
    rw [List.take_succ_eq_append_getElem (by simpa using hlt), hexN_snoc]; rfl
   have HS := Lib.hid hsn
   clear hsn
   go_wp2
   all_goals
    go_roundg (s.size - (k + 1))
    case measure => omega
    case rel =>
     refine ⟨k + 1, by omega, rfl, rfl, ?_⟩
     rw [HS.out]; unfold hexD
     first | rw [if_pos ‹_›] | rw [if_neg (by omega)]
  ·
   have hnx := fun ty => run_next_end (P := Tryd.prog) w s k ty hlt
   go_wp2
   go_ret
   exact ⟨ret_int (by rw [List.take_of_length_le (by simp; omega)]), by rw [show k = s.size from by omega]⟩
end Go.Proofs.YtdegdoilpamjjaaDoor
namespace Go.Proofs.YtdegdoilpamjjaaDoor
open Go.RowKit
theorem heap_lt {w : World} {g : Nat} {o : Obj} (h : w.heap[g]? = some o) : g < w.heap.size := by
 refine Classical.byContradiction fun hn => ?_
 rw [Array.getElem?_eq_none (by omega)] at h; cases h
theorem block_cell {w : World} {b i : Nat} {c : Array Value} {t : TypeId} (h : w.heap[b]? = some (.cells c t (0, 0))) : w.cell? ⟨b, i, none⟩ = c[i]? := by simp [World.cell?, h]
theorem block_free {w : World} {b i : Nat} {c : Array Value} {t : TypeId} (h : w.heap[b]? = some (.cells c t (0, 0))) : w.frozen? ⟨b, i, none⟩ = false := by simp [World.frozen?, h]
theorem block_set {w : World} {b i : Nat} {c : Array Value} {t : TypeId} {f : Nat × Nat} (v : Value) (h : w.heap[b]? = some (.cells c t f)) : (w.setCell ⟨b, i, none⟩ v).heap[b]? = some (.cells (c.setIfInBounds i v) t f) := by
 show (w.heap.modify b _)[b]? = _
 rw [Array.getElem?_modify, if_pos rfl, h]; rfl
theorem one_new (w : World) (o : Obj) : (w.alloc o).heap[w.heap.size]? = some o := by
 show (w.heap.push o)[w.heap.size]? = _
 simp
def IsBox (w : World) (b : Nat) (t : TypeId) (v : Value) : Prop := w.heap[b]? = some (.cells #[v] t (0, 0))
theorem IsBox.below {w w1 : World} {b : Nat} {t : TypeId} {v : Value} (h : IsBox w b t v) (hb : Below w.heap.size w w1) : IsBox w1 b t v := (hb.block b (heap_lt h)).trans h
theorem IsBox.cell {w : World} {b : Nat} {t : TypeId} {v : Value} (h : IsBox w b t v) : w.cell? ⟨b, 0, none⟩ = some v ∧ w.frozen? ⟨b, 0, none⟩ = false := ⟨block_cell h, block_free h⟩
theorem IsBox.set {w : World} {b : Nat} {t : TypeId} {v : Value} (h : IsBox w b t v) (u : Value) : IsBox (w.setCell ⟨b, 0, none⟩ u) b t u := block_set _ h
theorem IsBox.other {w : World} {b c : Nat} {t : TypeId} {v : Value} (h : IsBox w b t v) (hne : c ≠ b) (u : Value) : IsBox (w.setCell ⟨c, 0, none⟩ u) b t v := by
 show (w.heap.modify c _)[b]? = _
 rw [Array.getElem?_modify, if_neg hne]; exact h
theorem IsBox.new (w : World) (t : TypeId) (v : Value) : IsBox (w.alloc (.cells #[v] t)) w.heap.size t v := one_new w _
theorem IsBox.alloc {w : World} {b : Nat} {t : TypeId} {v : Value} (h : IsBox w b t v) (o : Obj) : IsBox (w.alloc o) b t v := by
 have := heap_lt h
 show (w.heap.push o)[b]? = _
 rw [Array.getElem?_push, if_neg (by omega)]; exact h
def OwnInts (w : World) (base : Nat) (v : Value) (l : List Int) : Prop := w.ownsRow base 3 1 v l.length (l.map (Value.int .i64))
theorem Tryd.infoInt : (Tryd.prog.info? 3).map (fun i => (i.zero, i.size, i.bytes)) = some (some (.int .i64 0), 1, 8) := by kernel_rfl
theorem OwnInts.later {w w1 : World} {base : Nat} {v : Value} {l : List Int} (h : OwnInts w base v l) (hb : Below w.heap.size w w1) : OwnInts w1 base v l := by
 refine ⟨h.1, ?_⟩
 rcases h.2 with hn | ⟨g, cap, cur, rfl, hg, hgg, rest⟩
 · exact .inl hn
 · exact .inr ⟨g, cap, cur, rfl, hg, (hb.block g (heap_lt hgg)).trans hgg, rest⟩
theorem OwnInts.mono {w : World} {base base' : Nat} {v : Value} {l : List Int} (h : OwnInts w base v l) (hb : base' ≤ base) : OwnInts w base' v l := by
 refine ⟨h.1, ?_⟩
 rcases h.2 with hn | ⟨g, cap, cur, rfl, hg, rest⟩
 · exact .inl hn
 · exact .inr ⟨g, cap, cur, rfl, Nat.le_trans hb hg, rest⟩
theorem OwnInts.isInts {w : World} {base : Nat} {v : Value} {l : List Int} (h : OwnInts w base v l) : ∃ sa cap, v = .slice sa l.length cap ∧ IsInts w sa l.length (fun i => l.getD i 0) ∧ l.length ≤ maxLen := by
 have h' := h
 rcases h.2 with ⟨rfl, hn⟩ | ⟨g, cap, cur, rfl, hg, hgg, hnc, hcm, hcs, htake⟩
 · exact ⟨none, 0, by rw [hn], .inl hn, by rw [hn]; exact Nat.zero_le _⟩
 ·
  refine ⟨some ⟨g, 0, none⟩, cap, rfl, .inr ⟨g, 0, rfl, heap_lt hgg, fun i hi => ?_⟩, Nat.le_trans hnc hcm⟩
  have := World.ownsRow.cellAt h' i (by omega)
  rw [Nat.zero_add, this]
  show _ = some (Value.int .i64 (l.getD i 0))
  rw [List.getElem?_map, List.getD_eq_getElem?_getD, List.getElem?_eq_getElem hi]; rfl
theorem OwnInts.shape {w : World} {base : Nat} {v : Value} {l : List Int} (h : OwnInts w base v l) : ∃ sa n cap, v = .slice sa n cap ∧ n = l.length ∧ IsInts w sa n (fun i => l.getD i 0) := by
 obtain ⟨sa, cap, hv, h1, _⟩ := h.isInts
 exact ⟨sa, _, cap, hv, rfl, h1⟩
theorem OwnInts.nil (w : World) (base : Nat) : OwnInts w base (.slice none 0 0) [] := World.ownsRow_nil w base _ 1
theorem OwnInts.as {w : World} {base : Nat} {v : Value} {l l' : List Int} (h : OwnInts w base v l) (e : l = l') : OwnInts w base v l' := e ▸ h
theorem own_box_ne {w : World} {base : Nat} {v : Value} {l : List Int} {b : Nat} {t : TypeId} {u : Value} (h : OwnInts w base v l) (hx : IsBox w b t u) (ht : t ≠ 3) : v.ownBlock ≠ some b := by
 intro hv
 rcases h.2 with ⟨rfl, _⟩ | ⟨g, cap, cur, rfl, _, hgg, _⟩
 · simp [Value.ownBlock] at hv
 ·
  simp [Value.ownBlock] at hv
  subst hv
  unfold IsBox at hx
  rw [hx] at hgg
  simp at hgg
  exact ht hgg.2
theorem IsBox.grown {w w1 : World} {b : Nat} {t : TypeId} {u : Value} {row : Option Nat} (h : IsBox w b t u) (hg : w.grownBy w1 row) (hne : row ≠ some b) : IsBox w1 b t u :=
 (hg.block b (heap_lt h) (fun e => hne e.symm)).trans h
theorem own_push {w w1 : World} {base : Nat} {v v' : Value} {l : List Int} {k : Int} (ho : OwnInts w base v l)
  (hown : w1.ownsRow base 3 1 v' (l.length + 1) (l.map (Value.int .i64) ++ [.int .i64 k])) (hgrow : (w.alloc (.cells #[.int .i64 k] 3)).grownBy w1 v.ownBlock) (hbase : base ≤ w.heap.size) :
  OwnInts w1 base v' (l ++ [k]) ∧ Below base w w1 ∧ (∀ b t u, IsBox w b t u → t ≠ 3 → IsBox w1 b t u) ∧ ∃ s c, v' = .slice s (l.length + 1) c := by
 have h1 : OwnInts w1 base v' (l ++ [k]) := by
  unfold OwnInts
  rw [List.length_append, List.map_append]; exact hown
 refine ⟨h1, ?_, ?_, ?_⟩
 ·
  refine Below.grown ((Below.refl _ _).alloc hbase _) hgrow (by simp; omega) ?_
  intro k' hk'
  exact (ho.lt k' hk').1
 ·
  intro b t u hx ht
  exact (hx.alloc _).grown hgrow (own_box_ne ho hx ht)
 ·
  rcases hown.2 with ⟨rfl, hn⟩ | ⟨g, cap, cur, rfl, _⟩
  · exact absurd hn (by omega)
  · exact ⟨_, _, rfl⟩
def lst (f : Nat → Int) (n : Nat) : List Int := (List.range n).map f
theorem lst_succ (f : Nat → Int) (n : Nat) : lst f (n + 1) = lst f n ++ [f n] := by unfold lst; rw [List.range_succ, List.map_append]; rfl
theorem lst_len (f : Nat → Int) (n : Nat) : (lst f n).length = n := by simp [lst]
theorem lst_get (l : List Int) : lst (fun i => l.getD i 0) l.length = l := by
 apply List.ext_getElem
 · simp [lst]
 ·
  intro i h1 h2
  simp [lst, List.getElem?_eq_getElem h2]
theorem lst_congr {f g : Nat → Int} {n : Nat} (h : ∀ i, i < n → f i = g i) : lst f n = lst g n := by
 unfold lst; apply List.map_congr_left; intro i hi; exact h i (List.mem_range.1 hi)
theorem lst_getD (f : Nat → Int) (n i : Nat) (h : i < n) : (lst f n).getD i 0 = f i := by
 rw [List.getD_eq_getElem?_getD, List.getElem?_eq_getElem (by rw [lst_len]; exact h)]; simp [lst]
theorem lst_ext {f g : Nat → Int} {n : Nat} (h : lst f n = lst g n) (i : Nat) (hi : i < n) : f i = g i := by
 rw [← lst_getD f n i hi, ← lst_getD g n i hi, h]
theorem own_push2 {w w1 : World} {base : Nat} {v v' : Value} {l : List Int} {k : Int} (ho : OwnInts w base v l)
  (hown : w1.ownsRow base 3 1 v' (l.length + 1) (l.map (Value.int .i64) ++ [.int .i64 k])) (hgrow : (w.alloc (.cells #[.int .i64 k] 3)).grownBy w1 v.ownBlock) (hbase : base ≤ w.heap.size) :
  OwnInts w1 base v' (l ++ [k]) ∧ Below base w w1 ∧ (∀ b t u, IsBox w b t u → t ≠ 3 → IsBox w1 b t u) ∧ ∃ s n c, v' = .slice s n c ∧ n = l.length + 1 := by
 obtain ⟨h1, h2, h3, s, c, h4⟩ := own_push ho hown hgrow hbase
 exact ⟨h1, h2, h3, s, _, c, h4, rfl⟩
theorem IsInts.same {w : World} {s : Option Addr} {n : Nat} {f g : Nat → Int} (h : IsInts w s n f) (he : ∀ i, i < n → f i = g i) : IsInts w s n g := by
 rcases h with h | ⟨b, off, hs, hb, hc⟩
 · exact .inl h
 · exact .inr ⟨b, off, hs, hb, fun i hi => by rw [← he i hi]; exact hc i hi⟩
theorem OwnInts.list {w : World} {base : Nat} {v : Value} {f : Nat → Int} {n : Nat} (h : OwnInts w base v (lst f n)) : ∃ s c, v = .slice s n c ∧ n ≤ c ∧ (s = none → n = 0 ∧ c = 0) ∧ IsInts w s n f := by
 have hc : ∃ s c, v = .slice s n c ∧ n ≤ c ∧ (s = none → n = 0 ∧ c = 0) := by
  rcases h.2 with ⟨h1, h2⟩ | ⟨g, cap, cur, h1, _, _, h2, _⟩
  · rw [lst_len] at h2; exact ⟨none, 0, by rw [h1, h2], by omega, fun _ => ⟨h2, rfl⟩⟩
  · rw [lst_len] at h1 h2; exact ⟨_, cap, h1, h2, fun h => by cases h⟩
 obtain ⟨s, c, rfl, h1, h2⟩ := hc
 obtain ⟨s', c', hv, hi, _⟩ := h.isInts
 obtain ⟨rfl, _, rfl⟩ := Value.slice.inj hv
 rw [lst_len] at hi
 exact ⟨s, c, rfl, h1, h2, hi.same fun i hi => lst_getD f n i hi⟩
theorem ints_one (l : List Int) : ∀ u ∈ l.map (Value.int .i64), u.oneCell' = true := by
 intro u hu
 obtain ⟨x, _, rfl⟩ := List.mem_map.1 hu
 rfl
theorem wpList_append_all {w : World} {ops : Array Oper} {rest : List Oper} {o : Oper} {a : Act} {Q : Exit → Act → World → Prop} (hgd : o.guard = none) (s x : Operand)
  (ho : o.op = .call { callee := .builtin .append, args := #[s, x], argTypes := #[22, 22] })
  (hs : a.eval s = .slice none 0 0) (sa : Option Addr) (len cap : Nat) (f : Nat → Int) (hx : a.eval x = .slice sa len cap) (hr : IsInts w sa len f) (hnil : sa = none → len = 0 ∧ cap = 0) (hl : len < 4294967296) (base : Nat) (hbase : base ≤ w.heap.size)
  (h : ∀ s' c' w', OwnInts w' base (.slice s' len c') (lst f len) → Below base w w' → len ≤ c' → (s' = none → len = 0 ∧ c' = 0) → IsInts w' s' len f → wpList Tryd.prog ops Q rest (a.put o.dst (.slice s' len c')) w') : wpList Tryd.prog ops Q (o :: rest) a w := by
 obtain ⟨i0, hi, hz0, hz1, hz2⟩ := info_parts Tryd.infoInt
 have hown : w.ownsRow base 3 1 (.slice none 0 0) 0 [] := World.ownsRow_nil w base _ 1
 cases sa with
 | none =>
  obtain ⟨rfl, rfl⟩ := hnil rfl
  refine wpList_append_own_none hgd s x 22 ho base 3 i0 1 Tryd.underlying22 hi _ 0 [] hs hown hx ?_
  exact h none 0 w (OwnInts.nil w base) (Below.refl _ _) (Nat.le_refl _) (fun _ => ⟨rfl, rfl⟩) hr
 | some ad =>
  refine wpList_append_own w hgd s x 22 ho base 3 i0 (.int .i64 0) 1 8 Tryd.underlying22 hi hz0 hz1 hz2 rfl (by decide) _ 0 [] hs hown ad len cap ((lst f len).map (Value.int .i64)) hx (by rw [List.length_map, lst_len, Nat.mul_one]) ?_ (ints_one _) (by unfold maxLen; omega) (by omega) hbase ?_
  ·
   intro j u hu
   rw [List.getElem?_map] at hu
   rcases hr with h0 | ⟨b, off, he, hb, hc⟩
   · subst h0; simp [lst] at hu
   ·
    cases he
    by_cases hj : j < len
    ·
     rw [List.getElem?_eq_getElem (by rw [lst_len]; exact hj)] at hu
     simp [lst] at hu
     rw [Go.WideShapes.add_plain, ← hu]
     exact hc j hj
    · rw [List.getElem?_eq_none (by rw [lst_len]; omega)] at hu; cases hu
  ·
   intro v' w' hown' hgrow _
   have hO : OwnInts w' base v' (lst f len) := by
    unfold OwnInts
    rw [lst_len]
    rw [Nat.zero_add, List.nil_append] at hown'
    exact hown'
   obtain ⟨s', c', rfl, h1, h2, h3⟩ := hO.list
   exact h s' c' w' hO (Below.grown (Below.refl _ _) hgrow hbase (fun k hk => by simp [Value.ownBlock] at hk)) h1 h2 h3
def IRow (w : World) (b n : Nat) (f : Nat → Int) : Prop := ∃ cs : Array Value, w.heap[b]? = some (.cells cs 3 (0, 0)) ∧ n ≤ cs.size ∧ ∀ i, i < n → cs[i]? = some (.int .i64 (f i))
theorem IRow.lt {w : World} {b n : Nat} {f : Nat → Int} (h : IRow w b n f) : b < w.heap.size := by
 obtain ⟨cs, h1, _⟩ := h
 exact heap_lt h1
theorem IRow.cell {w : World} {b n : Nat} {f : Nat → Int} (h : IRow w b n f) {i : Nat} (hi : i < n) : w.cell? ⟨b, i, none⟩ = some (.int .i64 (f i)) := by
 obtain ⟨cs, h1, h2, h3⟩ := h
 rw [← h3 i hi]
 simp [World.cell?, h1]
theorem IRow.free {w : World} {b n : Nat} {f : Nat → Int} (h : IRow w b n f) (i : Nat) : w.frozen? ⟨b, i, none⟩ = false := by
 obtain ⟨cs, h1, h2, h3⟩ := h
 simp [World.frozen?, h1]
theorem IRow.same {w : World} {b n : Nat} {f g : Nat → Int} (h : IRow w b n f) (e : ∀ i, i < n → f i = g i) : IRow w b n g := by
 obtain ⟨cs, h1, h2, h3⟩ := h
 exact ⟨cs, h1, h2, fun i hi => by rw [← e i hi]; exact h3 i hi⟩
theorem IRow.block {w w' : World} {b n : Nat} {f : Nat → Int} (h : IRow w b n f) (e : w'.heap[b]? = w.heap[b]?) : IRow w' b n f := by
 obtain ⟨cs, h1, h2, h3⟩ := h
 exact ⟨cs, e.trans h1, h2, h3⟩
theorem IRow.below {w w' : World} {b n B : Nat} {f : Nat → Int} (h : IRow w b n f) (hb : Below B w w') (hB : b < B) : IRow w' b n f := h.block (hb.block b hB)
theorem IRow.later {w w' : World} {b n : Nat} {f : Nat → Int} (h : IRow w b n f) (hb : Below w.heap.size w w') : IRow w' b n f := h.below hb h.lt
theorem IRow.other {w : World} {b n c i : Nat} {f : Nat → Int} (h : IRow w b n f) (hne : b ≠ c) (v : Value) : IRow (w.setCell ⟨c, i, none⟩ v) b n f := h.block (Below.heap_setCell w ⟨c, i, none⟩ v b hne)
theorem IRow.set {w : World} {b n : Nat} {f g : Nat → Int} (h : IRow w b n f) (i : Nat) (x : Int) (hg : ∀ j, j < n → g j = if j = i then x else f j) : IRow (w.setCell ⟨b, i, none⟩ (.int .i64 x)) b n g := by
 obtain ⟨cs, h1, h2, h3⟩ := h
 refine ⟨cs.setIfInBounds i (.int .i64 x), ?_, by simpa using h2, fun j hj => ?_⟩
 ·
  show (w.heap.modify b _)[b]? = _
  rw [Array.getElem?_modify, if_pos rfl, h1]; rfl
 ·
  rw [hg j hj, Array.getElem?_setIfInBounds]
  by_cases hji : j = i
  ·
   subst hji
   rw [if_pos rfl, if_pos (by omega), if_pos rfl]
  · rw [if_neg (by omega), if_neg hji]; exact h3 j hj
theorem IRow.ints {w : World} {b n m : Nat} {f : Nat → Int} (h : IRow w b n f) (hm : m ≤ n) : IsInts w (some ⟨b, 0, none⟩) m f := by
 by_cases h0 : m = 0
 · exact .inl h0
 ·
  refine .inr ⟨b, 0, rfl, h.lt, fun i hi => ?_⟩
  rw [Nat.zero_add]
  exact h.cell (by omega)
theorem OwnInts.row {w : World} {base n c : Nat} {s : Option Addr} {f : Nat → Int} (h : OwnInts w base (.slice s n c) (lst f n)) : n = 0 ∨ ∃ g, s = some ⟨g, 0, none⟩ ∧ base ≤ g ∧ IRow w g n f := by
 rcases h.2 with ⟨h1, h2⟩ | ⟨g, cap, cur, h1, hg, hgg, hnc, hcm, hcs, htake⟩
 · rw [lst_len] at h2; exact .inl h2
 ·
  by_cases h0 : n = 0
  · exact .inl h0
  ·
   have h' := h
   rw [lst_len] at h1 hnc
   obtain ⟨rfl, _, rfl⟩ := Value.slice.inj h1
   refine .inr ⟨g, rfl, hg, cur, hgg, by omega, fun i hi => ?_⟩
   unfold OwnInts at h'
   rw [lst_len] at h'
   have hc := World.ownsRow.cellAt h' i (by omega)
   have hc2 : w.cell? ⟨g, i, none⟩ = cur[i]? := by simp [World.cell?, hgg]
   rw [← hc2, hc, List.getElem?_map, List.getElem?_eq_getElem (by rw [lst_len]; exact hi)]
   simp [lst]
theorem row_made (w : World) (n : Nat) : IRow (w.alloc (.cells (madeCells #[.int .i64 0] n) 3)) w.heap.size n (fun _ => 0) := by
 have h := World.rowIs_made w (.int .i64 0) n 3
 have hh : (w.alloc (.cells (madeCells #[.int .i64 0] n) 3)).heap[w.heap.size]? = some (.cells (madeCells #[.int .i64 0] n) 3 (0, 0)) := by
  show (w.heap.push _)[w.heap.size]? = _
  simp
 have hc : ∀ i, i < n → (madeCells #[.int .i64 0] n)[i]? = some (.int .i64 0) := by
  intro i hi
  have := h.cell hi
  rw [World.cell?, hh] at this
  simpa using this
 refine ⟨_, hh, ?_, hc⟩
 by_cases h0 : n = 0
 · omega
 ·
  have := hc (n - 1) (by omega)
  have h2 : n - 1 < (madeCells #[.int .i64 0] n).size := by
   rcases Nat.lt_or_ge (n - 1) (madeCells #[.int .i64 0] n).size with h3 | h3
   · exact h3
   · rw [Array.getElem?_eq_none h3] at this; cases this
  omega
theorem OwnInts.len {w : World} {base : Nat} {sl : Option Addr} {j c : Nat} {l : List Int} (h : OwnInts w base (.slice sl j c) l) : j = l.length := by
 rcases h.2 with ⟨h1, h2⟩ | ⟨g, cap, cur, h1, _⟩
 · rw [(Value.slice.inj h1).2.1, h2]
 · exact (Value.slice.inj h1).2.1
theorem OwnInts.kept {w w' : World} {base : Nat} {v : Value} {l : List Int} (h : OwnInts w base v l) (e : ∀ b, b < w.heap.size → v.ownBlock = some b → w'.heap[b]? = w.heap[b]?) : OwnInts w' base v l := by
 refine ⟨h.1, ?_⟩
 rcases h.2 with hn | ⟨g, cap, cur, rfl, hg, hgg, rest⟩
 · exact .inl hn
 · exact .inr ⟨g, cap, cur, rfl, hg, (e g (heap_lt hgg) rfl).trans hgg, rest⟩
def gl (l : List Int) (i : Nat) : Int := l.getD i 0
theorem OwnInts.is {w : World} {base : Nat} {sl : Option Addr} {j c : Nat} {l : List Int} (h : OwnInts w base (.slice sl j c) l) : IsInts w sl j (gl l) := by
 obtain ⟨s, n, c', hv, hn, hi⟩ := h.shape
 obtain ⟨rfl, rfl, rfl⟩ := Value.slice.inj hv
 exact hi
def Apart (v u : Value) : Prop := ∀ b, v.ownBlock = some b → u.ownBlock ≠ some b
theorem Apart.symm {v u : Value} (h : Apart v u) : Apart u v := fun b h1 h2 => h b h2 h1
theorem wpList_push3 {w : World} {ops : Array Oper} {rest : List Oper} {o : Oper} {a : Act} {Q : Exit → Act → World → Prop} (k : Int) (hgd : o.guard = none) (s x : Operand)
  (ho : o.op = .call { callee := .builtin .append, args := #[s, x], argTypes := #[22, 22] })
  (base : Nat) (sl : Option Addr) (j c : Nat) (l : List Int) (hs : a.eval s = .slice sl j c) (hx : a.eval x = .slice (some ⟨w.heap.size, 0, none⟩) 1 1) (hown : OwnInts w base (.slice sl j c) l) (hj : j < 4294967296) (hbase : base ≤ w.heap.size)
  (h : ∀ s' c' w', OwnInts w' base (.slice s' (j + 1) c') (l ++ [k]) → w.grownBy w' (Value.slice sl j c).ownBlock → ((Value.slice s' (j + 1) c').ownBlock = (Value.slice sl j c).ownBlock ∨ ∃ b, (Value.slice s' (j + 1) c').ownBlock = some b ∧ w.heap.size ≤ b) → wpList Tryd.prog ops Q rest (a.put o.dst (.slice s' (j + 1) c')) w') :
  wpList Tryd.prog ops Q (o :: rest) a (w.alloc (.cells #[.int .i64 k] 3)) := by
 obtain rfl := hown.len
 obtain ⟨i0, hi, hz0, hz1, hz2⟩ := info_parts Tryd.infoInt
 refine wpList_append_own_at _ hgd s x 22 ho base 3 i0 (.int .i64 0) 1 8 Tryd.underlying22 hi hz0 hz1 hz2 rfl (by decide) _ _ _ hs (hown.alloc _) ⟨w.heap.size, 0, none⟩ 1 1 [.int .i64 k] hx rfl (cell_one_new _ _ _) (ints_oneCell _ [k]) (by unfold maxLen; omega) (by omega) (by simp; omega) ?_
 intro v' w1 hown' hgrow _ hat
 obtain ⟨hp1, hp2, hp3, s', n2, c', rfl, hn2⟩ := own_push2 hown hown' hgrow hbase
 subst hn2
 refine h s' c' w1 hp1 (World.grownBy.trans (World.grownBy_alloc w _ _) hgrow) ?_
 rcases hat with e | e
 · exact .inl e
 · exact .inr ⟨_, e, by simp⟩
theorem IsInts.cell {w : World} {b off n : Nat} {f : Nat → Int} (h : IsInts w (some ⟨b, off, none⟩) n f) {i : Nat} (hi : i < n) : w.cell? ⟨b, off + i, none⟩ = some (.int .i64 (f i)) := by
 rcases h with h | ⟨b', off', hs, hlt, hc⟩
 · omega
 · cases hs; exact hc i hi
end Go.Proofs.YtdegdoilpamjjaaDoor
namespace Go.Proofs.YtdegdoilpamjjaaDoor
open Go.ChangeShapes Go.WideShapes Go.ChangeAt Go.RowKit
def i64s (l : List Int) : Array Value := (l.map fun n => Value.int .i64 n).toArray
def distancesL : List Int := [65, 90, 32, 192, 214, 32, 216, 222, 32, 904, 906, 37, 913, 929, 32, 931, 939, 32, 1024, 1039, 80, 1040, 1071, 32, 1329, 1366, 48, 8544, 8559, 16, 9398, 9423, 26, 65313, 65338, 32, 66560, 66599, 40, 376, 376, (-121), 902, 902, 38, 908, 908, 64, 910, 911, 63, 975, 975, 8, 1216, 1216, 15]
def pairsL : List Int := [256, 303, 306, 311, 313, 328, 330, 375, 377, 382, 461, 476, 478, 495, 504, 543, 546, 563, 582, 591, 880, 883, 886, 887, 984, 1007, 1120, 1153, 1162, 1215, 1217, 1230, 1232, 1327, 7680, 7829, 7840, 7935]
def oneWayL : List Int := [181, 924, 181, 305, 73, 305, 383, 83, 383, 962, 931, 962, 304, 304, 105, 7838, 7838, 223, 8486, 8486, 969, 8490, 8490, 107, 8491, 8491, 229]
def holdAt (g : Nat) (l : List Int) (w : World) : World := { w with heap := w.heap.modify g fun
 | .cells _ t frozen => .cells (i64s l) t frozen
 | o => o }
noncomputable def laidWorld (os : Os) : World :=
 holdAt 0 oneWayL (holdAt 1 distancesL (holdAt 2 pairsL (World.holding Tryd.prog os ⟨#[], #[], []⟩)))
theorem isInts_of {W : World} {x : Addr} {zs : List Int} {len : Nat} (h : ∀ i, i < zs.length → W.cell? (x.add i) = some (.int .i64 (zs.getD i 0))) (hl : len ≤ zs.length) : IsInts W (some x) len (fun i => zs.getD i 0) := by
 by_cases h0 : len = 0
 · exact .inl h0
 ·
  obtain ⟨b, off, rfl, hc⟩ := ints_at h (by omega)
  refine .inr ⟨b, off, rfl, ?_, fun i hi => hc i (by omega)⟩
  exact World.block_lt_of_cell? W _ (hc 0 (by omega))
end Go.Proofs.YtdegdoilpamjjaaDoor
namespace Go.Proofs.YtdegdoilpamjjaaDoor
open Go.RowKit
theorem num_row (s : ByteArray) (m a b : Nat) (w : World) (hb : b ≤ 11) (hab : a ≤ b) (h5 : b - a ≤ 5) (hm : 11 * (m + 1) ≤ s.size) (hk : hexOk s.data.toList = true) :
  Calls Tryd.prog 104 #[.string ((s.extract (m * 11) ((m + 1) * 11)).extract a b)] w fun e w' =>
   e = .returned (.int .i64 (hexN ((s.data.toList.drop (m * 11 + a)).take (b - a)))) ∧ Below w.heap.size w w' := by
 refine (number_any _ w (by rw [row_sub_size s m a b hb hab hm]; exact h5) (by rw [row_sub s m a b hb]; exact hexOk_take (hexOk_drop hk _) _)).mono ?_
 rintro e w' ⟨rfl, rfl⟩
 rw [row_sub s m a b hb]
 exact ⟨rfl, (Below.refl _ _).alloc (Nat.le_refl _) _⟩
theorem num_fst (s : ByteArray) (m : Nat) (w : World) (hm : 11 * (m + 1) ≤ s.size) (hk : hexOk s.data.toList = true) :
  Calls Tryd.prog 104 #[.string ((s.extract (m * 11) ((m + 1) * 11)).extract 0 5)] w fun e w' =>
   e = .returned (.int .i64 (rowFst s.data.toList m)) ∧ Below w.heap.size w w' :=
 num_row s m 0 5 w (by omega) (by omega) (by omega) hm hk
theorem num_lst (s : ByteArray) (m : Nat) (w : World) (hm : 11 * (m + 1) ≤ s.size) (hk : hexOk s.data.toList = true) :
  Calls Tryd.prog 104 #[.string ((s.extract (m * 11) ((m + 1) * 11)).extract 5 10)] w fun e w' =>
   e = .returned (.int .i64 (rowLst s.data.toList m)) ∧ Below w.heap.size w w' :=
 num_row s m 5 10 w (by omega) (by omega) (by omega) hm hk
theorem num_num (s : ByteArray) (m : Nat) (w : World) (hm : 11 * (m + 1) ≤ s.size) (hk : hexOk s.data.toList = true) :
  Calls Tryd.prog 104 #[.string ((s.extract (m * 11) ((m + 1) * 11)).extract 10 11)] w fun e w' =>
   e = .returned (.int .i64 (rowNum s.data.toList m)) ∧ Below w.heap.size w w' :=
 num_row s m 10 11 w (by omega) (by omega) (by omega) hm hk
set_option maxHeartbeats 400000 in
theorem sought_any (s : ByteArray) (a : Int) (n : Nat) (w : World) (hs : s.size = 11 * n) (hn : n ≤ 1000) (hk : hexOk s.data.toList = true) :
  Calls Tryd.prog 100 #[.string s, .int .i64 a] w fun e w' => e = .returned (.int .i64 (soughtF n s.data.toList a 0 n)) ∧ Below w.heap.size w w' := by
 have HK := Lib.hid hk
 clear hk
 have hs1 : s.size ≤ 11 * n := by omega
 have hs2 : 11 * n ≤ s.size := by omega
 clear hs
 go_enter Tryd.func100, Tryd.ntmps100
 go_wp2
 go_loopg [5, 6] n (fun g lo hi wr => ∃ l h f : Nat, l ≤ h ∧ h ≤ n ∧ g = h - l ∧ h - l ≤ f ∧ soughtF f s.data.toList a l h = soughtF n s.data.toList a 0 n ∧ Below w.heap.size w wr ∧ lo = .int .i64 l ∧ hi = .int .i64 h)
 case atStart => exact ⟨0, n, n, by omega, by omega, by omega, by omega, rfl, Below.refl _ _, rfl, by rw [show (s.size : Int) / 11 = n from by omega]⟩
 case round =>
  obtain ⟨l, h, f, h1, h2, rfl, h3, h4, hb, rfl, rfl⟩ := hrel
  have H4 := Lib.hid h4
  have HB := Lib.hid hb
  clear h4 hb
  by_cases hlt : l < h
  ·
   have hm : 11 * ((l + h) / 2 + 1) ≤ s.size := by omega
   go_wp2_with fail
   refine (num_fst s ((l + h) / 2) _ hm HK.out).mono ?_
   rintro e w1 ⟨rfl, hb1⟩
   have HB1 := Lib.hid (HB.out.trans (hb1.mono HB.out.size))
   clear hb1
   obtain ⟨f, rfl⟩ : ∃ f', f = f' + 1 := ⟨f - 1, by omega⟩
   go_wp2_with fail
   ·
    have h5 : a < rowFst s.data.toList ((l + h) / 2) := by assumption
    go_roundg ((l + h) / 2 - l)
    case measure => omega
    case rel =>
     refine ⟨l, (l + h) / 2, f, by omega, by omega, rfl, by omega, ?_, HB1.out, rfl, rfl⟩
     rw [← H4.out, soughtF, if_pos hlt, if_pos h5]
   ·
    have h5 : rowFst s.data.toList ((l + h) / 2) ≤ a := by assumption
    refine (num_lst s ((l + h) / 2) _ hm HK.out).mono ?_
    rintro e w2 ⟨rfl, hb2⟩
    have HB2 := Lib.hid (HB1.out.trans (hb2.mono HB1.out.size))
    clear hb2
    go_wp2_with fail
    ·
     have h6 : rowLst s.data.toList ((l + h) / 2) < a := by assumption
     go_roundg (h - ((l + h) / 2 + 1))
     case measure => omega
     case rel =>
      refine ⟨(l + h) / 2 + 1, h, f, by omega, by omega, rfl, by omega, ?_, HB2.out, by go_num, rfl⟩
      rw [← H4.out, soughtF, if_pos hlt, if_neg (Int.not_lt.2 h5), if_pos h6]
    ·
     have h6 : a ≤ rowLst s.data.toList ((l + h) / 2) := by assumption
     rw [show min (((l + h) / 2 + 1) * 11) s.size - (l + h) / 2 * 11 = 11 from by omega]
     refine (num_num s ((l + h) / 2) _ hm HK.out).mono ?_
     rintro e w3 ⟨rfl, hb3⟩
     have HB3 := Lib.hid (HB2.out.trans (hb3.mono HB2.out.size))
     clear hb3
     go_wp2
     go_ret
     exact ⟨ret_int (by rw [← H4.out, soughtF, if_pos hlt, if_neg (Int.not_lt.2 h5), if_neg (Int.not_lt.2 h6)]), HB3.out⟩
  ·
   go_wp2
   go_ret
   exact ⟨ret_int (by rw [← H4.out, soughtF_end _ _ _ _ _ hlt]), HB.out⟩
end Go.Proofs.YtdegdoilpamjjaaDoor
namespace Go.Proofs.YtdegdoilpamjjaaDoor
def seek (p : Nat → Bool) : Nat → Nat → Option Nat
 | 0, _ => none
 | n + 1, k => if p k then some k else seek p n (k + 1)
theorem seek_hit {p : Nat → Bool} {n k : Nat} (hn : k < n) (h : p k = true) : seek p (n - k) k = some k := by
 obtain ⟨m, hm⟩ : ∃ m, n - k = m + 1 := ⟨n - k - 1, by omega⟩
 rw [hm, seek, if_pos h]
theorem seek_miss {p : Nat → Bool} {n k : Nat} (hn : k < n) (h : p k = false) : seek p (n - k) k = seek p (n - (k + 1)) (k + 1) := by
 obtain ⟨m, hm⟩ : ∃ m, n - k = m + 1 := ⟨n - k - 1, by omega⟩
 rw [hm, seek, if_neg (by rw [h]; decide), show n - (k + 1) = m from by omega]
theorem seek_end {p : Nat → Bool} {n : Nat} : seek p (n - n) n = none := by rw [Nat.sub_self]; rfl
def L0 (j : Nat) : Int := oneWayL.getD j 0
def L1 (j : Nat) : Int := distancesL.getD j 0
def L2 (j : Nat) : Int := pairsL.getD j 0
theorem L_bd (l : List Int) (lo hi : Int) (h0 : lo ≤ 0) (h1 : 0 ≤ hi) (h : (l.all fun v => decide (lo ≤ v) && decide (v ≤ hi)) = true) (j : Nat) : lo ≤ l.getD j 0 ∧ l.getD j 0 ≤ hi := by
 by_cases hj : j < l.length
 ·
  rw [List.all_eq_true] at h
  have := h _ (List.getElem_mem hj)
  simp at this
  rw [List.getD_eq_getElem?_getD, List.getElem?_eq_getElem hj]
  exact this
 ·
  rw [List.getD_eq_getElem?_getD, List.getElem?_eq_none (by omega)]
  exact ⟨h0, h1⟩
theorem L1_bd (j : Nat) : -121 ≤ L1 j ∧ L1 j ≤ 66599 := L_bd distancesL (-121) 66599 (by omega) (by omega) (by decide +kernel) j
theorem L2_bd (j : Nat) : 0 ≤ L2 j ∧ L2 j ≤ 7935 := L_bd pairsL 0 7935 (by omega) (by omega) (by decide +kernel) j
def one0 (a : Int) (k : Nat) : Bool := L0 (k * 3) == a
def dist1 (a : Int) (k : Nat) : Bool := decide (L1 (k * 3) ≤ a - L1 (k * 3 + 2)) && decide (a - L1 (k * 3 + 2) ≤ L1 (k * 3 + 1))
def dist2 (a : Int) (k : Nat) : Bool := decide (L1 (k * 3) ≤ a) && decide (a ≤ L1 (k * 3 + 1))
def pair1 (a : Int) (k : Nat) : Bool := decide (L2 (k * 2) ≤ a) && decide (a ≤ L2 (k * 2 + 1)) && ((a - L2 (k * 2)) % 2 == 1)
def pair2 (a : Int) (k : Nat) : Bool := decide (L2 (k * 2) ≤ a) && decide (a ≤ L2 (k * 2 + 1)) && ((a - L2 (k * 2)) % 2 == 0)
def greatF (a : Int) : Int :=
 match seek (one0 a) 9 0 with
 | some k => L0 (k * 3 + 1)
 | none => match seek (dist1 a) 19 0 with
  | some k => a - L1 (k * 3 + 2)
  | none => match seek (pair1 a) 19 0 with
   | some _ => a - 1
   | none => a
def smallF (a : Int) : Int :=
 match seek (one0 a) 9 0 with
 | some k => L0 (k * 3 + 2)
 | none => match seek (dist2 a) 19 0 with
  | some k => a + L1 (k * 3 + 2)
  | none => match seek (pair2 a) 19 0 with
   | some _ => a + 1
   | none => a
def upperF (a : Int) : Int := if scalarB a then greatF a else a
def lowerF (a : Int) : Int := if scalarB a then smallF a else a
theorem greatF_one {a : Int} {k : Nat} (h : seek (one0 a) 9 0 = some k) : greatF a = L0 (k * 3 + 1) := by unfold greatF; rw [h]
theorem greatF_dist {a : Int} {k : Nat} (h0 : seek (one0 a) 9 0 = none) (h : seek (dist1 a) 19 0 = some k) : greatF a = a - L1 (k * 3 + 2) := by unfold greatF; rw [h0, h]
theorem greatF_pair {a : Int} {k : Nat} (h0 : seek (one0 a) 9 0 = none) (h1 : seek (dist1 a) 19 0 = none) (h : seek (pair1 a) 19 0 = some k) : greatF a = a - 1 := by unfold greatF; rw [h0, h1, h]
theorem greatF_none {a : Int} (h0 : seek (one0 a) 9 0 = none) (h1 : seek (dist1 a) 19 0 = none) (h : seek (pair1 a) 19 0 = none) : greatF a = a := by unfold greatF; rw [h0, h1, h]
theorem smallF_one {a : Int} {k : Nat} (h : seek (one0 a) 9 0 = some k) : smallF a = L0 (k * 3 + 2) := by unfold smallF; rw [h]
theorem smallF_dist {a : Int} {k : Nat} (h0 : seek (one0 a) 9 0 = none) (h : seek (dist2 a) 19 0 = some k) : smallF a = a + L1 (k * 3 + 2) := by unfold smallF; rw [h0, h]
theorem smallF_pair {a : Int} {k : Nat} (h0 : seek (one0 a) 9 0 = none) (h1 : seek (dist2 a) 19 0 = none) (h : seek (pair2 a) 19 0 = some k) : smallF a = a + 1 := by unfold smallF; rw [h0, h1, h]
theorem smallF_none {a : Int} (h0 : seek (one0 a) 9 0 = none) (h1 : seek (dist2 a) 19 0 = none) (h : seek (pair2 a) 19 0 = none) : smallF a = a := by unfold smallF; rw [h0, h1, h]
end Go.Proofs.YtdegdoilpamjjaaDoor
namespace Go.Proofs.YtdegdoilpamjjaaDoor
open Go.RowKit
structure Touch (O : Nat → Prop) (w w' : World) : Prop where
 os : w'.os = w.os
 tape : w'.tape = w.tape
 output : w'.output = w.output
 size : w.heap.size ≤ w'.heap.size
 block : ∀ k, k < w.heap.size → ¬ O k → w'.heap[k]? = w.heap[k]?
theorem Touch.refl (O : Nat → Prop) (w : World) : Touch O w w := ⟨rfl, rfl, rfl, Nat.le_refl _, fun _ _ _ => rfl⟩
theorem Touch.of {O : Nat → Prop} {w w' : World} (h : Below w.heap.size w w') : Touch O w w' := ⟨h.os, h.tape, h.output, h.size, fun k hk _ => h.block k hk⟩
theorem Touch.trans {O O' : Nat → Prop} {a b c : World} (h : Touch O a b) (k : Touch O' b c) (hO : ∀ x, O' x → O x ∨ a.heap.size ≤ x) : Touch O a c :=
 ⟨k.os.trans h.os, k.tape.trans h.tape, k.output.trans h.output, Nat.le_trans h.size k.size, fun x hx hn => (k.block x (Nat.lt_of_lt_of_le hx h.size) (fun e => (hO x e).elim hn (fun h => by omega))).trans (h.block x hx hn)⟩
theorem Touch.below {O : Nat → Prop} {w w' : World} {B : Nat} (h : Touch O w w') (hO : ∀ b, O b → B ≤ b) (hB : B ≤ w.heap.size) : Below B w w' :=
 ⟨h.os, h.tape, h.output, h.size, fun k hk => h.block k (by omega) (fun e => by have := hO k e; omega)⟩
theorem Touch.wide {O O' : Nat → Prop} {w w' : World} (h : Touch O w w') (hO : ∀ b, b < w.heap.size → O b → O' b) : Touch O' w w' := ⟨h.os, h.tape, h.output, h.size, fun k hk hn => h.block k hk (fun e => hn (hO k hk e))⟩
theorem Touch.grown {O : Nat → Prop} {w w' : World} {row : Option Nat} (h : w.grownBy w' row) (hO : ∀ b, row = some b → O b) : Touch O w w' :=
 ⟨h.os, h.tape, h.output, h.size, fun k hk hn => h.block k hk (fun e => hn (hO k e.symm))⟩
theorem Touch.setCell (O : Nat → Prop) (w : World) {p : Addr} (hp : O p.block) (u : Value) : Touch O w (w.setCell p u) :=
 ⟨rfl, rfl, rfl, by simp [World.setCell], fun k hk hn => Below.heap_setCell _ _ _ _ (fun e => hn (e ▸ hp))⟩
theorem Touch.alloc (O : Nat → Prop) (w : World) (o : Obj) : Touch O w (w.alloc o) := Touch.of ((Below.refl _ _).alloc (Nat.le_refl _) o)
theorem type_ne {w : World} {b c : Nat} {x y : Array Value} {t u : TypeId} (h : w.heap[b]? = some (.cells x t (0, 0))) (k : w.heap[c]? = some (.cells y u (0, 0))) (hn : t ≠ u) : b ≠ c := by
 intro e
 subst e
 rw [h] at k
 injection k with k
 injection k with _ k
 exact hn k
theorem below_newJ (w : World) (o : Obj) : Below w.heap.size w (w.alloc o) := (Below.refl _ _).alloc (Nat.le_refl _) _
theorem below_drewN {B n : Nat} {a w : World} (h : Below B a w) : Below B a (w.drewN n) := ⟨h.os, h.tape, h.output, h.size, h.block⟩
theorem touch_drewN {O : Nat → Prop} {n : Nat} {a w : World} (h : Touch O a w) : Touch O a (w.drewN n) := ⟨h.os, h.tape, h.output, h.size, h.block⟩
end Go.Proofs.YtdegdoilpamjjaaDoor
