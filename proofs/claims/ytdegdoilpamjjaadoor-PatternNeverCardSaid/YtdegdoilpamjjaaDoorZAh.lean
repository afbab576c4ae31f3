/- The law of PatternNever, plain: the first family: the runner over a row of one letter, in numbers that the kernel reckons. No program in sight. The law of PatternNever, plain: the second family: stars in stars. No program in sight. The law of PatternNever, plain: the first family, reckoned by the kernel from 1 to 36. The law of PatternNever, plain: the first family, reckoned by the kernel from 37 to 47. The law of PatternNever, plain: the first family, reckoned by the kernel from 48 to 56. The law of PatternNever, plain: the first family, reckoned by the kernel from 57 to 64. Contract: pattern.Compile at a quoted list. Condition: no more than 128 ints. Sets that thing of the reader makes, in memory; one. Condition: no more than 2^30 ints. -/
import Derived.Defers
import Derived.Recover
import Derived.Test.YtdegdoilpamjjaaDoorZAg
import Derived.Test.YtdegdoilpamjjaaDoorZAf
import Derived.Test.YtdegdoilpamjjaaDoorZAe
namespace Go.Proofs.YtdegdoilpamjjaaDoor
set_option linter.unusedVariables false
/-! The runner over a row of one letter, in numbers: marks are the bits of a number, offsets are noted one too great (0: none). -/
structure ThZ where
 act : Nat
 fr : Nat
 n2 : Nat
 n3 : Nat
deriving DecidableEq
structure ToZ where
 act : Nat
 idle : Nat
 n2 : Nat
 n3 : Nat
abbrev GoZ := Nat → Nat → Nat → Nat → Nat → List ThZ → List ToZ → Nat × List ThZ × List ToZ
def goOnZ (k at' fr : Nat) (f : Nat) : GoZ :=
 Nat.rec (motive := fun _ => GoZ) (fun _ _ _ _ S th st => (S, th, st)) (fun _ ih a id n2 n3 S th st =>
  bif Nat.beq (Nat.land 1 (Nat.shiftRight S (Nat.add (Nat.mul 2 a) id))) 1 then (S, th, st) else
  bif Nat.ble (Nat.mul 6 k) a then (Nat.lor S (Nat.shiftLeft 1 (Nat.add (Nat.mul 2 a) id)), ⟨a, fr, n2, n3⟩ :: th, st) else
  bif Nat.beq (Nat.mod a 6) 0 then ih (Nat.succ a) id (Nat.succ at') n3 (Nat.lor S (Nat.shiftLeft 1 (Nat.add (Nat.mul 2 a) id))) th st
  else bif Nat.beq (Nat.mod a 6) 1 then ih (Nat.succ a) id n2 n3 (Nat.lor S (Nat.shiftLeft 1 (Nat.add (Nat.mul 2 a) id))) th (⟨Nat.add a 4, id, n2, n3⟩ :: st)
  else bif Nat.beq (Nat.mod a 6) 2 then ih (Nat.succ a) (Nat.succ id) n2 n3 (Nat.lor S (Nat.shiftLeft 1 (Nat.add (Nat.mul 2 a) id))) th st
  else bif Nat.beq (Nat.mod a 6) 3 then (Nat.lor S (Nat.shiftLeft 1 (Nat.add (Nat.mul 2 a) id)), ⟨a, fr, n2, n3⟩ :: th, st)
  else bif Nat.beq (Nat.mod a 6) 4 then bif Nat.ble 1 id then (Nat.lor S (Nat.shiftLeft 1 (Nat.add (Nat.mul 2 a) id)), th, st) else ih (Nat.succ a) id n2 n3 (Nat.lor S (Nat.shiftLeft 1 (Nat.add (Nat.mul 2 a) id))) th st
  else ih (Nat.succ a) id n2 (Nat.succ at') (Nat.lor S (Nat.shiftLeft 1 (Nat.add (Nat.mul 2 a) id))) th st) f
abbrev AdZ := Nat → List ThZ → List ToZ → Nat × List ThZ
def addZ (k at' fr F : Nat) (f : Nat) : AdZ :=
 Nat.rec (motive := fun _ => AdZ) (fun S th _ => (S, th)) (fun _ ih S th st =>
  match st with
  | [] => (S, th)
  | t :: st => match goOnZ k at' fr F t.act t.idle t.n2 t.n3 S th st with
   | (S', th', st') => ih S' th' st') f
def stepZ (k here F : Nat) : List ThZ → Nat → List ThZ → Nat × List ThZ
 | [], S, th => (S, th)
 | t :: old, S, th =>
  bif Nat.ble (7 * k) t.act then (S, th) else
  bif Nat.ble (6 * k) t.act || Nat.beq (t.act % 6) 3 then match addZ k (here + 1) t.fr F F S th [⟨t.act + 1, 0, t.n2, t.n3⟩] with
  | (S', th') => stepZ k here F old S' th'
  else stepZ k here F old S th
def runZ (k F : Nat) : Nat → Nat → Nat → List ThZ → Bool → List (Option ThZ)
 | 0, _, _, _, _ => []
 | f + 1, at', S, th, found =>
  match (bif found then (S, th) else addZ k at' (at' + 1) F F S th [⟨0, 0, 0, 0⟩]) with
  | (_, th1) => match th1.reverse.find? (fun t => Nat.ble (7 * k) t.act), stepZ k at' F th1.reverse 0 [] with
   | b, (S2, th2) => b :: runZ k F f (at' + 1) S2 th2 (found || b.isSome)
def wantZ (k p : Nat) : Option ThZ := if p < k then none else if p < 2 * k then some ⟨7 * k, 1, p - k + 1, p - k + 1⟩ else if p = 2 * k then some ⟨7 * k, 1, k, k + 1⟩ else none
def okZ (k : Nat) : Bool := runZ k (14 * k + 4) (2 * k + 2) 0 0 [] false == (List.range (2 * k + 2)).map (wantZ k)
/-! What that machine has to do with the runner. -/
def nzZ (nts : List (Int × Int)) (s : Int) : Nat := (noteIn nts s + 1).toNat
theorem nzZ_cons (x : Int) (a : Nat) (nts : List (Int × Int)) (s : Int) : nzZ ((x, (a : Int)) :: nts) s = if x = s then a + 1 else nzZ nts s := by
 unfold nzZ noteIn
 rw [List.find?_cons]
 by_cases e : x = s
 · simp [e]
 · simp [e]
def thZ (t : ThD) : ThZ := ⟨t.act, (t.from' + 1).toNat, nzZ t.notes 2, nzZ t.notes 3⟩
def toZ (t : ToD) : ToZ := ⟨t.act.toNat, t.idle, nzZ t.notes 2, nzZ t.notes 3⟩
structure RelZ (at' : Nat) (seen : Nat → Nat) (S : Nat) : Prop where
 le : ∀ k, seen k ≤ at' + 1
 iff : ∀ k, seen k = at' + 1 ↔ Nat.testBit S k = true
theorem tb_eq (S k : Nat) : Nat.beq (Nat.land 1 (Nat.shiftRight S k)) 1 = Nat.testBit S k := by
 rw [Nat.testBit]
 show Nat.beq (1 &&& S >>> k) 1 = (1 &&& S >>> k != 0)
 rw [Nat.one_and_eq_mod_two]
 rcases Nat.mod_two_eq_zero_or_one (S >>> k) with h | h <;> rw [h] <;> rfl
theorem RelZ.mark {at' : Nat} {seen : Nat → Nat} {S : Nat} (h : RelZ at' seen S) (k : Nat) : RelZ at' (markS at' k seen) (Nat.lor S (Nat.shiftLeft 1 k)) := by
 unfold markS
 refine ⟨fun i => ?_, fun i => ?_⟩
 ·
  split
  · exact Nat.le_refl _
  · exact h.le i
 ·
  show _ ↔ Nat.testBit (S ||| 1 <<< k) i = true
  rw [Nat.testBit_or, Nat.shiftLeft_eq, Nat.one_mul, Nat.testBit_two_pow]
  by_cases e : i = k
  · simp [e]
  ·
   have e' : ¬ k = i := fun h => e h.symm
   simp [e, e', h.iff i]
theorem RelZ.fresh {at' : Nat} {seen : Nat → Nat} {S : Nat} (h : RelZ at' seen S) : RelZ (at' + 1) seen 0 :=
 ⟨fun k => Nat.le_succ_of_le (h.le k), fun k => ⟨fun e => by have := h.le k; omega, fun h => by rw [Nat.zero_testBit] at h; cases h⟩⟩
structure OutZ (at' : Nat) (r : (Nat → Nat) × List ThD × List ToD) (z : Nat × List ThZ × List ToZ) : Prop where
 rel : RelZ at' r.1 z.1
 th : r.2.1.map thZ = z.2.1.reverse
 st : r.2.2.map toZ = z.2.2
 pos : ∀ t ∈ r.2.2, 0 ≤ t.act
theorem goOnZ_succ (k at' fr f a id n2 n3 S : Nat) (th : List ThZ) (st : List ToZ) : goOnZ k at' fr (f + 1) a id n2 n3 S th st =
 bif Nat.beq (Nat.land 1 (Nat.shiftRight S (2 * a + id))) 1 then (S, th, st) else
 bif Nat.ble (6 * k) a then (Nat.lor S (Nat.shiftLeft 1 (2 * a + id)), ⟨a, fr, n2, n3⟩ :: th, st) else
 bif Nat.beq (a % 6) 0 then goOnZ k at' fr f (a + 1) id (at' + 1) n3 (Nat.lor S (Nat.shiftLeft 1 (2 * a + id))) th st
 else bif Nat.beq (a % 6) 1 then goOnZ k at' fr f (a + 1) id n2 n3 (Nat.lor S (Nat.shiftLeft 1 (2 * a + id))) th (⟨a + 4, id, n2, n3⟩ :: st)
 else bif Nat.beq (a % 6) 2 then goOnZ k at' fr f (a + 1) (id + 1) n2 n3 (Nat.lor S (Nat.shiftLeft 1 (2 * a + id))) th st
 else bif Nat.beq (a % 6) 3 then (Nat.lor S (Nat.shiftLeft 1 (2 * a + id)), ⟨a, fr, n2, n3⟩ :: th, st)
 else bif Nat.beq (a % 6) 4 then bif Nat.ble 1 id then (Nat.lor S (Nat.shiftLeft 1 (2 * a + id)), th, st) else goOnZ k at' fr f (a + 1) id n2 n3 (Nat.lor S (Nat.shiftLeft 1 (2 * a + id))) th st
 else goOnZ k at' fr f (a + 1) id n2 (at' + 1) (Nat.lor S (Nat.shiftLeft 1 (2 * a + id))) th st := rfl
theorem addZ_nil (k at' fr F f S : Nat) (th : List ThZ) : addZ k at' fr F f S th [] = (S, th) := by cases f <;> rfl
theorem addZ_cons (k at' fr F f S : Nat) (th : List ThZ) (t : ToZ) (st : List ToZ) : addZ k at' fr F (f + 1) S th (t :: st) = addZ k at' fr F f (goOnZ k at' fr F t.act t.idle t.n2 t.n3 S th st).1 (goOnZ k at' fr F t.act t.idle t.n2 t.n3 S th st).2.1 (goOnZ k at' fr F t.act t.idle t.n2 t.n3 S th st).2.2 := rfl
theorem beq_of {a b : Nat} (h : a = b) : Nat.beq a b = true := by rw [h]; exact Nat.beq_refl b
theorem beq_not {a b : Nat} (h : a ≠ b) : Nat.beq a b = false := by
 cases e : Nat.beq a b
 · rfl
 · exact absurd (Nat.eq_of_beq_eq_true e) h
theorem ble_of {a b : Nat} (h : a ≤ b) : Nat.ble a b = true := Nat.ble_eq.mpr h
theorem ble_not {a b : Nat} (h : ¬ a ≤ b) : Nat.ble a b = false := by
 cases e : Nat.ble a b
 · rfl
 · exact absurd (Nat.ble_eq.mp e) h
section
variable {k : Nat} {acts : List ActD} {stand : Int → Bool} {at' : Nat} {fr : Int}
theorem push_Z {th : List ThD} {zs : List ThZ} (h : th.map thZ = zs.reverse) (a : Nat) (fr : Int) (nts : List (Int × Int)) : (th ++ [ThD.mk a fr nts]).map thZ = (ThZ.mk a (fr + 1).toNat (nzZ nts 2) (nzZ nts 3) :: zs).reverse := by
 rw [List.map_append, h, List.reverse_cons]; rfl
theorem goOn_Z (hA : ∀ i, acts.getD i ⟨6, 0, 0, none⟩ = actF k i) : ∀ (f a id : Nat) (nts : List (Int × Int)) (seen : Nat → Nat) (S : Nat) (th : List ThD) (zs : List ThZ) (st : List ToD) (zst : List ToZ), RelZ at' seen S → th.map thZ = zs.reverse → st.map toZ = zst → (∀ t ∈ st, 0 ≤ t.act) →
  OutZ at' (goOnP acts 1 stand at' fr f ⟨(a : Int), id, nts⟩ seen th st) (goOnZ k at' (fr + 1).toNat f a id (nzZ nts 2) (nzZ nts 3) S zs zst)
 | 0, a, id, nts, seen, S, th, zs, st, zst, h, h1, h2, h3 => by
  rw [goOnP]; exact ⟨h, h1, h2, h3⟩
 | f + 1, a, id, nts, seen, S, th, zs, st, zst, h, h1, h2, h3 => by
  rw [goOn_at, goOnZ_succ, tb_eq, hA]
  simp only [show a * (1 + 1) + id = 2 * a + id from by omega]
  have hm := h.mark (2 * a + id)
  by_cases hs : seen (2 * a + id) = at' + 1
  · rw [if_pos hs, (h.iff _).mp hs, cond_true]; exact ⟨h, h1, h2, h3⟩
  have hs' : Nat.testBit S (2 * a + id) = false := by
   cases e : Nat.testBit S (2 * a + id)
   · rfl
   · exact absurd ((h.iff _).mpr e) hs
  rw [if_neg hs, hs', cond_false]
  unfold actF
  by_cases h6 : 6 * k ≤ a
  ·
   rw [ble_of h6, cond_true]
   simp only [if_pos h6]
   by_cases h7 : 7 * k ≤ a
   ·
    rw [if_pos h7, if_pos (.inr rfl)]
    exact ⟨hm, push_Z h1 a fr nts, h2, h3⟩
   ·
    rw [if_neg h7, if_pos (.inl rfl)]
    exact ⟨hm, push_Z h1 a fr nts, h2, h3⟩
  rw [ble_not h6, cond_false]
  simp only [if_neg h6]
  by_cases r0 : a % 6 = 0
  ·
   simp only [if_pos r0]
   rw [beq_of r0, cond_true, if_neg (by decide), if_neg (by decide), if_neg (by decide), if_pos trivial]
   have := goOn_Z hA f (a + 1) id (((2 : Int), (at' : Int)) :: nts) _ _ th zs st zst hm h1 h2 h3
   rw [nzZ_cons, nzZ_cons, if_pos rfl, if_neg (by decide)] at this
   exact this
  rw [beq_not r0, cond_false]
  simp only [if_neg r0]
  by_cases r1 : a % 6 = 1
  ·
   simp only [if_pos r1]
   rw [beq_of r1, cond_true, if_neg (by decide), if_neg (by decide), if_pos trivial]
   refine goOn_Z hA f (a + 1) id nts _ _ th zs _ _ hm h1 ?_ ?_
   · rw [List.map_cons, h2]; rfl
   ·
    intro t ht
    rcases List.mem_cons.mp ht with rfl | ht
    · exact Int.natCast_nonneg _
    · exact h3 t ht
  rw [beq_not r1, cond_false]
  simp only [if_neg r1]
  by_cases r2 : a % 6 = 2
  ·
   simp only [if_pos r2]
   rw [beq_of r2, cond_true, if_neg (by decide), if_neg (by decide), if_neg (by decide), if_neg (by decide), if_pos trivial]
   exact goOn_Z hA f (a + 1) (id + 1) nts _ _ th zs st zst hm h1 h2 h3
  rw [beq_not r2, cond_false]
  simp only [if_neg r2]
  by_cases r3 : a % 6 = 3
  ·
   simp only [if_pos r3]
   rw [beq_of r3, cond_true, if_pos (.inl trivial)]
   exact ⟨hm, push_Z h1 a fr nts, h2, h3⟩
  rw [beq_not r3, cond_false]
  simp only [if_neg r3]
  by_cases r4 : a % 6 = 4
  ·
   simp only [if_pos r4]
   rw [beq_of r4, cond_true, if_neg (by decide), if_neg (by decide), if_neg (by decide), if_neg (by decide), if_neg (by decide)]
   by_cases hi : 0 < id
   ·
    rw [if_pos hi, ble_of (show 1 ≤ id from hi), cond_true]
    exact ⟨hm, h1, h2, h3⟩
   ·
    rw [if_neg hi, ble_not (show ¬ 1 ≤ id from hi), cond_false]
    exact goOn_Z hA f (a + 1) id nts _ _ th zs st zst hm h1 h2 h3
  rw [beq_not r4, cond_false]
  simp only [if_neg r4]
  rw [if_neg (by decide), if_neg (by decide), if_neg (by decide), if_pos trivial]
  have := goOn_Z hA f (a + 1) id (((3 : Int), (at' : Int)) :: nts) _ _ th zs st zst hm h1 h2 h3
  rw [nzZ_cons, nzZ_cons, if_neg (by decide), if_pos rfl] at this
  exact this
theorem add_Z (hA : ∀ i, acts.getD i ⟨6, 0, 0, none⟩ = actF k i) {F : Nat} (hF : acts.length * (1 + 1) + 2 = F) : ∀ (f : Nat) (seen : Nat → Nat) (S : Nat) (th : List ThD) (zs : List ThZ) (st : List ToD) (zst : List ToZ), RelZ at' seen S → th.map thZ = zs.reverse → st.map toZ = zst → (∀ t ∈ st, 0 ≤ t.act) →
  RelZ at' (addP' acts 1 stand at' fr f seen th st).1 (addZ k at' (fr + 1).toNat F f S zs zst).1 ∧ (addP' acts 1 stand at' fr f seen th st).2.map thZ = (addZ k at' (fr + 1).toNat F f S zs zst).2.reverse
 | 0, seen, S, th, zs, st, zst, h, h1, h2, h3 => by
  rw [addP']; exact ⟨h, h1⟩
 | f + 1, seen, S, th, zs, [], zst, h, h1, h2, h3 => by
  rw [addP', ← h2, List.map_nil, addZ_nil]; exact ⟨h, h1⟩
 | f + 1, seen, S, th, zs, ⟨ta, id, nts⟩ :: st, zst, h, h1, h2, h3 => by
  obtain ⟨a, rfl⟩ : ∃ a : Nat, ta = a := ⟨ta.toNat, by have : (0 : Int) ≤ ta := h3 _ List.mem_cons_self; omega⟩
  obtain ⟨g1, g2, g3, g4⟩ := goOn_Z (stand := stand) (fr := fr) hA F a id nts seen S th zs st _ h h1 rfl (fun t ht => h3 t (List.mem_cons_of_mem _ ht))
  rw [addP', hF, ← h2, List.map_cons, addZ_cons]
  exact add_Z hA hF f _ _ _ _ _ _ g1 g2 g3 g4
end
theorem takes_sA (G : GlyD) : takesP G sA 97 = true := rfl
theorem addAll_Z {k : Nat} {acts : List ActD} (hA : ∀ i, acts.getD i ⟨6, 0, 0, none⟩ = actF k i) {F : Nat} (hF : acts.length * (1 + 1) + 2 = F) (G : GlyD) (line : List Int) (at' a : Nat) (fr : Int) (nts : List (Int × Int)) (seen : Nat → Nat) (S : Nat) (th : List ThD) (zs : List ThZ) (h : RelZ at' seen S) (h1 : th.map thZ = zs.reverse) :
  RelZ at' (addAll G acts 1 line at' (a : Int) fr nts seen th).1 (addZ k at' (fr + 1).toNat F F S zs [⟨a, 0, nzZ nts 2, nzZ nts 3⟩]).1 ∧ (addAll G acts 1 line at' (a : Int) fr nts seen th).2.map thZ = (addZ k at' (fr + 1).toNat F F S zs [⟨a, 0, nzZ nts 2, nzZ nts 3⟩]).2.reverse := by
 unfold addAll
 rw [hF]
 refine add_Z hA hF F seen S th zs [⟨(a : Int), 0, nts⟩] [⟨a, 0, nzZ nts 2, nzZ nts 3⟩] h h1 rfl ?_
 intro t ht
 rw [List.mem_singleton] at ht
 subst ht
 exact Int.natCast_nonneg _
theorem kind6_Z (k a : Nat) : ((actF k a).kind = 6) ↔ 7 * k ≤ a := by
 unfold actF
 by_cases h6 : 6 * k ≤ a
 ·
  rw [if_pos h6]
  by_cases h7 : 7 * k ≤ a
  · rw [if_pos h7]; simp [h7]
  · rw [if_neg h7]; simp [h7]
 ·
  rw [if_neg h6]
  repeat' split
  all_goals simp
  all_goals omega
theorem kind0_Z (k a : Nat) (h7 : ¬ 7 * k ≤ a) (h : (Nat.ble (6 * k) a || Nat.beq (a % 6) 3) = true) : actF k a = ⟨0, 0, 0, some sA⟩ := by
 unfold actF
 rcases Bool.or_eq_true _ _ ▸ h with h | h
 · rw [if_pos (Nat.ble_eq.mp h), if_neg h7]
 ·
  have := Nat.eq_of_beq_eq_true h
  by_cases h6 : 6 * k ≤ a
  · rw [if_pos h6, if_neg h7]
  · rw [if_neg h6, if_neg (by omega), if_neg (by omega), if_neg (by omega), if_pos this]
theorem kindn_Z (k a : Nat) (h : ¬ (Nat.ble (6 * k) a || Nat.beq (a % 6) 3) = true) : (actF k a).kind ≠ 0 := by
 have h6 : ¬ 6 * k ≤ a := fun e => h (by rw [ble_of e]; rfl)
 have h3 : ¬ a % 6 = 3 := fun e => h (by rw [beq_of e, Bool.or_true])
 unfold actF
 rw [if_neg h6]
 simp only [if_neg h3]
 repeat' split
 all_goals simp
theorem step_Z {k : Nat} {acts : List ActD} (hA : ∀ i, acts.getD i ⟨6, 0, 0, none⟩ = actF k i) {F : Nat} (hF : acts.length * (1 + 1) + 2 = F) (G : GlyD) (line : List Int) (here : Nat) (hh : here < line.length) (hc : line.getD here 0 = 97) : ∀ (old : List ThD) (seen : Nat → Nat) (S : Nat) (th : List ThD) (zs : List ThZ) (best : Option BestD), RelZ (here + 1) seen S → th.map thZ = zs.reverse →
  RelZ (here + 1) (stepP' G acts 1 line here old seen th best).1 (stepZ k here F (old.map thZ) S zs).1 ∧ (stepP' G acts 1 line here old seen th best).2.1.map thZ = (stepZ k here F (old.map thZ) S zs).2.reverse
 | [], seen, S, th, zs, best, h, h1 => by
  rw [stepP', List.map_nil, stepZ]; exact ⟨h, h1⟩
 | ⟨a, fr, nts⟩ :: old, seen, S, th, zs, best, h, h1 => by
  rw [stepP', List.map_cons, stepZ]
  dsimp only [thZ]
  rw [hA]
  by_cases h7 : 7 * k ≤ a
  · rw [if_pos ((kind6_Z k a).mpr h7), ble_of h7, cond_true]; exact ⟨h, h1⟩
  rw [if_neg (fun e => h7 ((kind6_Z k a).mp e)), ble_not h7, cond_false]
  by_cases ht : (Nat.ble (6 * k) a || Nat.beq (a % 6) 3) = true
  ·
   rw [kind0_Z k a h7 ht, ht, cond_true, if_pos ⟨rfl, hh, by rw [hc]; exact takes_sA G⟩]
   obtain ⟨g1, g2⟩ := addAll_Z hA hF G line (here + 1) (a + 1) fr nts seen S th zs h h1
   exact step_Z hA hF G line here hh hc old _ _ _ _ best g1 g2
  ·
   rw [if_neg (fun e => kindn_Z k a ht e.1), Bool.not_eq_true _ |>.mp ht, cond_false]
   exact step_Z hA hF G line here hh hc old seen S th zs best h h1
theorem step_best (G : GlyD) (acts : List ActD) (deep : Nat) (line : List Int) (here : Nat) : ∀ (old : List ThD) (seen : Nat → Nat) (th : List ThD) (best : Option BestD),
  (stepP' G acts deep line here old seen th best).2.2 = match old.find? (fun t => decide ((acts.getD t.act ⟨6, 0, 0, none⟩).kind = 6)) with | some t => some ⟨t.from', here, t.notes⟩ | none => best
 | [], seen, th, best => by rw [stepP']; rfl
 | t :: old, seen, th, best => by
  rw [stepP', List.find?_cons]
  dsimp only
  by_cases h : (acts.getD t.act ⟨6, 0, 0, none⟩).kind = 6
  · rw [if_pos h, decide_eq_true h]
  rw [if_neg h, decide_eq_false h]
  split
  · exact step_best G acts deep line here old _ _ best
  · exact step_best G acts deep line here old _ _ best
def bzZ (b : BestD) : Nat × Nat × Nat × Nat := ((b.from' + 1).toNat, b.to', nzZ b.notes 2, nzZ b.notes 3)
def lastZ : List (Option ThZ) → Nat → Option (Nat × Nat × Nat × Nat) → Option (Nat × Nat × Nat × Nat)
 | [], _, b => b
 | some t :: l, a, _ => lastZ l (a + 1) (some (t.fr, a, t.n2, t.n3))
 | none :: l, a, b => lastZ l (a + 1) b
theorem run_done (k F : Nat) (b : Option (Nat × Nat × Nat × Nat)) : ∀ (m a S : Nat), lastZ (runZ k F m a S [] true) a b = b
 | 0, a, S => by rw [runZ, lastZ]
 | m + 1, a, S => by
  rw [runZ]
  dsimp only [cond_true, List.reverse_nil, List.find?_nil, stepZ]
  rw [lastZ]
  exact run_done k F b m (a + 1) 0
theorem find_Z {k : Nat} {acts : List ActD} (hA : ∀ i, acts.getD i ⟨6, 0, 0, none⟩ = actF k i) (l : List ThD) : (l.map thZ).find? (fun t => Nat.ble (7 * k) t.act) = (l.find? (fun t => decide ((acts.getD t.act ⟨6, 0, 0, none⟩).kind = 6))).map thZ := by
 induction l with
 | nil => rfl
 | cons t l ih =>
  rw [List.map_cons, List.find?_cons, List.find?_cons, ih, hA]
  show (match Nat.ble (7 * k) t.act with | true => _ | false => _) = _
  by_cases h7 : 7 * k ≤ t.act
  · rw [ble_of h7, decide_eq_true ((kind6_Z k _).mpr h7)]; rfl
  · rw [ble_not h7, decide_eq_false (fun e => h7 ((kind6_Z k _).mp e))]
theorem run_Z {k : Nat} {acts : List ActD} (hA : ∀ i, acts.getD i ⟨6, 0, 0, none⟩ = actF k i) {F : Nat} (hF : acts.length * (1 + 1) + 2 = F) (G : GlyD) (n : Nat) : ∀ (m f at' : Nat) (seen : Nat → Nat) (S : Nat) (th : List ThD) (zs : List ThZ) (best : Option BestD), at' + m = n + 1 → m ≤ f → RelZ at' seen S → th.map thZ = zs.reverse →
  (runR G acts 1 (List.replicate n 97) f at' seen th best).map bzZ = lastZ (runZ k F m at' S zs best.isSome) at' (best.map bzZ)
 | 0, f, at', seen, S, th, zs, best, hm, hf, h, h1 => by
  rw [runZ, lastZ]
  cases f with
  | zero => rw [runR]
  | succ f => rw [runR, if_pos (by rw [List.length_replicate]; omega)]
 | m + 1, 0, at', seen, S, th, zs, best, hm, hf, h, h1 => by omega
 | m + 1, f + 1, at', seen, S, th, zs, best, hm, hf, h, h1 => by
  rw [runR, if_neg (by rw [List.length_replicate]; omega), runZ]
  obtain ⟨r, hr⟩ : ∃ r, (if best.isNone then addAll G acts 1 (List.replicate n 97) at' 0 (at' : Int) [] seen th else (seen, th)) = r := ⟨_, rfl⟩
  obtain ⟨z, hz⟩ : ∃ z, (bif best.isSome then (S, zs) else addZ k at' (at' + 1) F F S zs [⟨0, 0, 0, 0⟩]) = z := ⟨_, rfl⟩
  have hrz : RelZ at' r.1 z.1 ∧ r.2.map thZ = z.2.reverse := by
   cases best with
   | some b => subst hr hz; exact ⟨h, h1⟩
   | none => subst hr hz; exact addAll_Z hA hF G (List.replicate n 97) at' 0 (at' : Int) [] seen S th zs h h1
  rw [hr, hz]
  obtain ⟨seen1, th1⟩ := r
  obtain ⟨S1, zs1⟩ := z
  obtain ⟨g1, g2⟩ := hrz
  dsimp only at g1 g2 ⊢
  rw [← g2]
  by_cases he : (th1.isEmpty && best.isSome) = true
  ·
   rw [if_pos he]
   rw [Bool.and_eq_true, List.isEmpty_iff] at he
   obtain ⟨rfl, hb⟩ := he
   rw [hb]
   show Option.map bzZ best = lastZ (none :: runZ k F m (at' + 1) 0 [] true) at' (Option.map bzZ best)
   rw [lastZ]
   exact (run_done k F _ m (at' + 1) 0).symm
  rw [if_neg he, find_Z hA]
  have hb := step_best G acts 1 (List.replicate n 97) at' th1 seen1 [] best
  obtain ⟨s, hs⟩ : ∃ s, stepP' G acts 1 (List.replicate n 97) at' th1 seen1 [] best = s := ⟨_, rfl⟩
  obtain ⟨y, hy⟩ : ∃ y, stepZ k at' F (th1.map thZ) 0 [] = y := ⟨_, rfl⟩
  have hsy : at' < n → RelZ (at' + 1) s.1 y.1 ∧ s.2.1.map thZ = y.2.reverse := by
   intro hn
   rw [← hs, ← hy]
   exact step_Z hA hF G _ at' (by rw [List.length_replicate]; exact hn) (by rw [List.getD_eq_getElem?_getD, List.getElem?_replicate, if_pos hn]; rfl) th1 seen1 0 [] [] best g1.fresh rfl
  rw [hs] at hb
  rw [hs, hy]
  obtain ⟨seen2, th2, best2⟩ := s
  obtain ⟨S2, zs2⟩ := y
  dsimp only at hb hsy ⊢
  generalize (th1.find? fun t => decide ((acts.getD t.act ⟨6, 0, 0, none⟩).kind = 6)) = o at hb
  have hl : ∀ l, lastZ (o.map thZ :: l) at' (best.map bzZ) = lastZ l (at' + 1) (best2.map bzZ) := by
   intro l
   cases o with
   | none => rw [hb]; rfl
   | some t => rw [hb]; rfl
  have hi : (best.isSome || (o.map thZ).isSome) = best2.isSome := by
   cases o with
   | none => rw [hb]; exact Bool.or_false _
   | some t => rw [hb]; exact Bool.or_true _
  rw [hl, hi]
  by_cases hn : at' < n
  ·
   obtain ⟨g3, g4⟩ := hsy hn
   exact run_Z hA hF G n m f (at' + 1) seen2 S2 th2 zs2 best2 (by omega) (by omega) g3 g4
  ·
   obtain rfl : m = 0 := by omega
   rw [runZ, lastZ]
   cases f with
   | zero => rw [runR]
   | succ f => rw [runR, if_pos (by rw [List.length_replicate]; omega)]
theorem runZ_take (k F : Nat) : ∀ (m m' a S : Nat) (zs : List ThZ) (b : Bool), m ≤ m' → runZ k F m a S zs b = (runZ k F m' a S zs b).take m
 | 0, m', a, S, zs, b, h => by rw [runZ, List.take_zero]
 | m + 1, 0, a, S, zs, b, h => by omega
 | m + 1, m' + 1, a, S, zs, b, h => by
  rw [runZ, runZ]
  dsimp only
  rw [List.take_succ_cons, ← runZ_take k F m m' _ _ _ _ (by omega)]
theorem lastZ_append (x : Option ThZ) : ∀ (l : List (Option ThZ)) (a : Nat) (b : Option (Nat × Nat × Nat × Nat)), lastZ (l ++ [x]) a b = match x with | some t => some (t.fr, a + l.length, t.n2, t.n3) | none => lastZ l a b
 | [], a, b => by cases x <;> rfl
 | some t :: l, a, b => by
  rw [List.cons_append, lastZ, lastZ, lastZ_append x l, List.length_cons]
  cases x with
  | none => rfl
  | some t => dsimp only; rw [show a + 1 + l.length = a + (l.length + 1) from by omega]
 | none :: l, a, b => by
  rw [List.cons_append, lastZ, lastZ, lastZ_append x l, List.length_cons]
  cases x with
  | none => rfl
  | some t => dsimp only; rw [show a + 1 + l.length = a + (l.length + 1) from by omega]
theorem last_want (k : Nat) (hk : 1 ≤ k) : ∀ n, lastZ ((List.range (n + 1)).map (wantZ k)) 0 none = if n < k then none else some (1, k + min (n - k) k, (if k ≤ n - k then k else n - k + 1), min (n - k) k + 1)
 | 0 => by
  rw [show List.range (0 + 1) = [0] from rfl, List.map_singleton]
  unfold wantZ
  rw [if_pos (by omega), if_pos (by omega)]; rfl
 | n + 1 => by
  rw [List.range_succ, List.map_append, List.map_singleton, lastZ_append, last_want k hk n, List.length_map, List.length_range]
  unfold wantZ
  by_cases h1 : n + 1 < k
  · rw [if_pos h1, if_pos h1, if_pos (by omega)]
  rw [if_neg h1, if_neg h1]
  by_cases h2 : n + 1 < 2 * k
  ·
   rw [if_pos h2]
   dsimp only
   rw [if_neg (by omega), Nat.min_eq_left (by omega)]
   congr 3
   omega
  rw [if_neg h2]
  by_cases h3 : n + 1 = 2 * k
  ·
   rw [if_pos h3]
   dsimp only
   rw [if_pos (by omega), Nat.min_eq_right (by omega)]
   congr 3
   omega
  rw [if_neg h3]
  dsimp only
  rw [if_neg (by omega), if_pos (by omega), if_pos (by omega), Nat.min_eq_right (by omega), Nat.min_eq_right (by omega)]
theorem run_A {k : Nat} (hk : 1 ≤ k) (hok : okZ k = true) {acts : List ActD} (hA : acts = (List.range (7 * k + 1)).map (actF k)) (G : GlyD) (n : Nat) (hn : n ≤ 2 * k + 1) :
  (runR G acts 1 (List.replicate n 97) (n + 2) 0 (fun _ => 0) [] none).map bzZ = if n < k then none else some (1, k + min (n - k) k, (if k ≤ n - k then k else n - k + 1), min (n - k) k + 1) := by
 have hg : ∀ i, acts.getD i ⟨6, 0, 0, none⟩ = actF k i := by
  intro i
  subst hA
  rw [List.getD_eq_getElem?_getD, List.getElem?_map]
  by_cases h : i < 7 * k + 1
  · rw [List.getElem?_range h]; rfl
  ·
   rw [List.getElem?_eq_none (by rw [List.length_range]; omega)]
   unfold actF
   rw [if_pos (by omega), if_pos (by omega)]; rfl
 have hl : acts.length * (1 + 1) + 2 = 14 * k + 4 := by subst hA; rw [List.length_map, List.length_range]; omega
 rw [run_Z hg hl G n (n + 1) (n + 2) 0 (fun _ => 0) 0 [] [] none (by omega) (by omega) ⟨fun _ => by omega, fun i => by rw [Nat.zero_testBit]; simp⟩ rfl]
 have he : runZ k (14 * k + 4) (2 * k + 2) 0 0 [] false = (List.range (2 * k + 2)).map (wantZ k) := by simpa [okZ] using hok
 rw [runZ_take k _ (n + 1) (2 * k + 2) _ _ _ _ (by omega)]
 show lastZ (List.take (n + 1) (runZ k (14 * k + 4) (2 * k + 2) 0 0 [] false)) 0 none = _
 rw [he, ← List.map_take, List.take_range, Nat.min_eq_left (by omega)]
 exact last_want k hk n
end Go.Proofs.YtdegdoilpamjjaaDoor
namespace Go.Proofs.YtdegdoilpamjjaaDoor
set_option linter.unusedVariables false
theorem takes_sA_b (G : GlyD) : takesP G sA 98 = false := rfl
theorem takes_sB (G : GlyD) : takesP G sB 98 = true := rfl
theorem takes_sB_a (G : GlyD) : takesP G sB 97 = false := rfl
theorem noteIn_at (at' : Nat) (ν : List (Int × Int)) (s : Int) : ∀ l : List Int, noteIn (atY at' l ++ ν) s = if s ∈ l then (at' : Int) else noteIn ν s
 | [] => by simp [atY]
 | x :: l => by
  have ih := noteIn_at at' ν s l
  unfold atY noteIn at ih ⊢
  rw [List.map_cons, List.cons_append, List.find?_cons]
  dsimp only
  by_cases e : x = s
  · rw [decide_eq_true e]; simp [e]
  ·
   rw [decide_eq_false e, ih]
   have e' : ¬ s = x := fun h => e h.symm
   simp [e']
abbrev actB (d : Nat) : List ActD := progA (ndB d)
def oneB (d : Nat) : List (Nat × List Int) := (cloY (actB d) (d + 1) 0 []).2
def onB (d : Nat) : List (Nat × List Int) := (cloY (actB d) (d + 1) (3 * d + 3 : Nat) []).2
def evB (d : Nat) : List Int := ((oneB d).headD (0, [])).2
def odB (d : Nat) : List Int := (((onB d).filter fun x => decide (x.1 = 6 * d + 5)).headD (0, [])).2
def okB (d : Nat) : Bool :=
 ((actB d).all fun a => decide (a.kind ≠ 1)) && decide (oneB d = (3 * d + 2, evB d) :: (oneB d).tail) && ((oneB d).tail.all fun x => decide (x.1 = 3 * d + 2 ∨ x.1 = 6 * d + 5)) &&
 decide (onB d = (3 * d + 2, []) :: (onB d).tail) && ((onB d).tail.all fun x => decide (x.1 = 3 * d + 2 ∨ x.1 = 6 * d + 5)) && decide (((onB d).filter fun x => decide (x.1 = 6 * d + 5)) = [(6 * d + 5, odB d)]) &&
 decide (0 ∈ (cloY (actB d) (d + 1) (3 * d + 3 : Nat) []).1) && decide ((3 * d + 3) * (d + 1 + 1) ∈ (cloY (actB d) (d + 1) (3 * d + 3 : Nat) []).1) && decide ((cloY (actB d) (d + 1) (6 * d + 6 : Nat) []).2 = [(6 * d + 6, [])]) &&
 decide ((2 : Int) ∈ evB d) && decide (((2 * d : Nat) : Int) ∈ evB d) && decide ((2 : Int) ∉ odB d) && decide (((2 * d : Nat) : Int) ∉ odB d) && decide ((3 : Int) ∈ odB d) && decide (((2 * d + 1 : Nat) : Int) ∈ odB d)
structure OkB (d : Nat) : Prop where
 k1 : ∀ i, ((actB d).getD i ⟨6, 0, 0, none⟩).kind ≠ 1
 one : oneB d = (3 * d + 2, evB d) :: (oneB d).tail
 one1 : ∀ x ∈ (oneB d).tail, x.1 = 3 * d + 2 ∨ x.1 = 6 * d + 5
 on : onB d = (3 * d + 2, []) :: (onB d).tail
 on1 : ∀ x ∈ (onB d).tail, x.1 = 3 * d + 2 ∨ x.1 = 6 * d + 5
 od : ((onB d).filter fun x => decide (x.1 = 6 * d + 5)) = [(6 * d + 5, odB d)]
 s0 : 0 ∈ (cloY (actB d) (d + 1) (3 * d + 3 : Nat) []).1
 s1 : (3 * d + 3) * (d + 1 + 1) ∈ (cloY (actB d) (d + 1) (3 * d + 3 : Nat) []).1
 last : (cloY (actB d) (d + 1) (6 * d + 6 : Nat) []).2 = [(6 * d + 6, [])]
 ev2 : (2 : Int) ∈ evB d
 ev : ((2 * d : Nat) : Int) ∈ evB d
 od2 : (2 : Int) ∉ odB d
 odn : ((2 * d : Nat) : Int) ∉ odB d
 od3 : (3 : Int) ∈ odB d
 od1 : ((2 * d + 1 : Nat) : Int) ∈ odB d
theorem okB_of {d : Nat} (h : okB d = true) : OkB d := by
 unfold okB at h
 simp only [Bool.and_eq_true, List.all_eq_true, decide_eq_true_eq] at h
 obtain ⟨⟨⟨⟨⟨⟨⟨⟨⟨⟨⟨⟨⟨⟨h1, h2⟩, h3⟩, h4⟩, h5⟩, h6⟩, h7⟩, h8⟩, h9⟩, h10⟩, h11⟩, h12⟩, h13⟩, h14⟩, h15⟩ := h
 refine ⟨fun i => ?_, h2, h3, h4, h5, h6, h7, h8, h9, h10, h11, h12, h13, h14, h15⟩
 rw [List.getD_eq_getElem?_getD]
 cases e : (actB d)[i]? with
 | none => simp
 | some a => exact h1 a (List.mem_of_getElem? e)
section
variable {d : Nat} {acts : List ActD} {line : List Int} {G : GlyD}
theorem stepB_rest (hA : acts.getD (3 * d + 2) ⟨6, 0, 0, none⟩ = ⟨0, 0, 0, some sA⟩) (hB : acts.getD (6 * d + 5) ⟨6, 0, 0, none⟩ = ⟨0, 0, 0, some sB⟩) {here : Nat} (hc : here < line.length → line.getD here 0 = 97) {seen : Nat → Nat} (hs : here < line.length → seen ((3 * d + 3) * (d + 1 + 1)) = here + 1 + 1) (th : List ThD) (best : Option BestD) : ∀ old : List ThD, (∀ t ∈ old, t.act = 3 * d + 2 ∨ t.act = 6 * d + 5) →
  stepP' G acts (d + 1) line here old seen th best = (seen, th, best)
 | [], _ => by rw [stepP']
 | t :: old, h => by
  rw [stepP']
  dsimp only
  have ih := stepB_rest hA hB hc hs th best old (fun t ht => h t (List.mem_cons_of_mem _ ht))
  rcases h t List.mem_cons_self with e | e
  ·
   rw [e, hA, if_neg (by decide)]
   by_cases hl : here < line.length
   ·
    rw [if_pos ⟨rfl, hl, by rw [hc hl]; exact takes_sA G⟩]
    have := addAll_seen (G := G) (acts := acts) (deep := d + 1) (line := line) (3 * d + 3) t.from' t.notes th (hs hl)
    rw [this]
    exact ih
   · rw [if_neg (fun e => hl e.2.1)]; exact ih
  ·
   rw [e, hB, if_neg (by decide)]
   rw [if_neg (fun e => by rw [hc e.2.1] at e; exact Bool.noConfusion (e.2.2.symm.trans (takes_sB_a G)))]
   exact ih
theorem stepB_skip (hA : acts.getD (3 * d + 2) ⟨6, 0, 0, none⟩ = ⟨0, 0, 0, some sA⟩) {here : Nat} (hc : line.getD here 0 = 98) (seen : Nat → Nat) (th : List ThD) (best : Option BestD) : ∀ old : List ThD, (∀ t ∈ old, t.act = 3 * d + 2) →
  stepP' G acts (d + 1) line here old seen th best = (seen, th, best)
 | [], _ => by rw [stepP']
 | t :: old, h => by
  rw [stepP']
  dsimp only
  rw [h t List.mem_cons_self, hA, if_neg (by decide), if_neg (fun e => by rw [hc] at e; exact Bool.noConfusion (e.2.2.symm.trans (takes_sA_b G)))]
  exact stepB_skip hA hc seen th best old (fun t ht => h t (List.mem_cons_of_mem _ ht))
theorem stepB_last (ok : OkB d) (hA : (actB d).getD (3 * d + 2) ⟨6, 0, 0, none⟩ = ⟨0, 0, 0, some sA⟩) (hB : (actB d).getD (6 * d + 5) ⟨6, 0, 0, none⟩ = ⟨0, 0, 0, some sB⟩) {here : Nat} (hl : here < line.length) (hc : line.getD here 0 = 98) {seen : Nat → Nat} (hs : RelY (here + 1) seen []) (t0 : ThD) : ∀ old : List ThD, (∀ t ∈ old, t.act = 3 * d + 2 ∨ t.act = 6 * d + 5) → old.filter (fun t => decide (t.act = 6 * d + 5)) = [t0] →
  ∃ seen' S', stepP' G (actB d) (d + 1) line here old seen [] none = (seen', [⟨6 * d + 6, t0.from', t0.notes⟩], none) ∧ RelY (here + 1) seen' S'
 | [], _, h0 => by cases h0
 | t :: old, h, h0 => by
  rw [stepP']
  dsimp only
  rw [List.filter_cons] at h0
  by_cases e : t.act = 6 * d + 5
  ·
   rw [if_pos (decide_eq_true e)] at h0
   obtain ⟨rfl, h1⟩ := List.cons.inj h0
   rw [e, hB, if_neg (by decide), if_pos ⟨rfl, hl, by rw [hc]; exact takes_sB G⟩]
   obtain ⟨seen', e', r⟩ := addAll_Y (G := G) (line := line) ok.k1 (6 * d + 5 + 1 : Nat) t.from' t.notes [] hs
   rw [e', List.nil_append, show (cloY (actB d) (d + 1) ((6 * d + 5 + 1 : Nat) : Int) []).2 = [(6 * d + 6, [])] from ok.last]
   dsimp only
   refine ⟨seen', _, stepB_skip hA hc seen' _ none old fun u hu => ?_, r⟩
   rcases h u (List.mem_cons_of_mem _ hu) with g | g
   · exact g
   ·
    have : u ∈ old.filter (fun t => decide (t.act = 6 * d + 5)) := List.mem_filter.mpr ⟨hu, decide_eq_true g⟩
    rw [h1] at this
    cases this
  ·
   have e2 : t.act = 3 * d + 2 := (h t List.mem_cons_self).resolve_right e
   rw [if_neg (by simp [e])] at h0
   rw [e2, hA, if_neg (by decide), if_neg (fun e => by rw [hc] at e; exact Bool.noConfusion (e.2.2.symm.trans (takes_sA_b G)))]
   exact stepB_last ok hA hB hl hc hs t0 old (fun t ht => h t (List.mem_cons_of_mem _ ht)) h0
theorem stepB_on (ok : OkB d) (hA : (actB d).getD (3 * d + 2) ⟨6, 0, 0, none⟩ = ⟨0, 0, 0, some sA⟩) (hB : (actB d).getD (6 * d + 5) ⟨6, 0, 0, none⟩ = ⟨0, 0, 0, some sB⟩) {here : Nat} (hl : here < line.length) (hc : line.getD here 0 = 97) {seen : Nat → Nat} (hs : RelY (here + 1) seen []) (fr : Int) (ν : List (Int × Int)) (old : List ThD) (h : ∀ t ∈ old, t.act = 3 * d + 2 ∨ t.act = 6 * d + 5) :
  ∃ seen', stepP' G (actB d) (d + 1) line here (⟨3 * d + 2, fr, ν⟩ :: old) seen [] none = (seen', (onB d).map (thY (here + 1) fr ν), none) ∧ RelY (here + 1) seen' (cloY (actB d) (d + 1) (3 * d + 3 : Nat) []).1 := by
 rw [stepP']
 dsimp only
 rw [hA, if_neg (by decide), if_pos ⟨rfl, hl, by rw [hc]; exact takes_sA G⟩]
 obtain ⟨seen', e', r⟩ := addAll_Y (G := G) (line := line) ok.k1 (3 * d + 2 + 1 : Nat) fr ν [] hs
 rw [e', List.nil_append]
 dsimp only
 refine ⟨seen', ?_, r⟩
 exact stepB_rest hA hB (fun _ => hc) (fun _ => (r.iff _).mpr ok.s1) _ none old h
end
def lineB (n : Nat) (missing : Bool) : List Int := List.replicate n 97 ++ if missing then [] else [98]
theorem lineB_len (n : Nat) (m : Bool) : (lineB n m).length = n + if m then 0 else 1 := by
 unfold lineB
 rw [List.length_append, List.length_replicate]
 cases m <;> rfl
theorem lineB_a {n i : Nat} (h : i < n) (m : Bool) : (lineB n m).getD i 0 = 97 := by
 unfold lineB
 rw [List.getD_eq_getElem?_getD, List.getElem?_append_left (by rw [List.length_replicate]; exact h), List.getElem?_replicate, if_pos h]; rfl
theorem lineB_b (n : Nat) : (lineB n false).getD n 0 = 98 := by
 unfold lineB
 rw [List.getD_eq_getElem?_getD, List.getElem?_append_right (by rw [List.length_replicate]; exact Nat.le_refl _), List.length_replicate, Nat.sub_self]; rfl
def resB (d n : Nat) (m : Bool) : Option BestD := if m then none else some ⟨0, n + 1, atY n (odB d) ++ (atY 0 (evB d) ++ [])⟩
theorem actsB (x : List (Nat × List Int)) (at' : Nat) (fr : Int) (ν : List (Int × Int)) {d : Nat} (h : ∀ y ∈ x, y.1 = 3 * d + 2 ∨ y.1 = 6 * d + 5) : ∀ t ∈ x.map (thY at' fr ν), t.act = 3 * d + 2 ∨ t.act = 6 * d + 5 := by
 intro t ht
 obtain ⟨y, hy, rfl⟩ := List.mem_map.mp ht
 exact h y hy
theorem run_B {d : Nat} (ok : OkB d) (hA : (actB d).getD (3 * d + 2) ⟨6, 0, 0, none⟩ = ⟨0, 0, 0, some sA⟩) (hB : (actB d).getD (6 * d + 5) ⟨6, 0, 0, none⟩ = ⟨0, 0, 0, some sB⟩) (hM : (actB d).getD (6 * d + 6) ⟨6, 0, 0, none⟩ = ⟨6, 0, 0, none⟩) (G : GlyD) (n : Nat) (ms : Bool) : ∀ (m f p : Nat) (seen : Nat → Nat) (th : List ThD), p + m = n → m + 2 ≤ f → RelY p seen (cloY (actB d) (d + 1) (3 * d + 3 : Nat) []).1 → th = (onB d).map (thY p 0 (atY 0 (evB d) ++ [])) →
  runR G (actB d) (d + 1) (lineB n ms) f p seen th none = resB d n ms
 | m, 0, p, seen, th, hm, hf, h, h1 => by omega
 | 0, 1, p, seen, th, hm, hf, h, h1 => by omega
 | 0, f + 2, p, seen, th, hm, hf, h, h1 => by
  obtain rfl : p = n := by omega
  rw [runR, if_neg (by rw [lineB_len]; omega), if_pos Option.isNone_none]
  have h0 : addAll G (actB d) (d + 1) (lineB p ms) p 0 (p : Int) [] seen th = (seen, th) := addAll_seen 0 _ _ th (by rw [Nat.zero_mul]; exact (h.iff 0).mpr ok.s0)
  rw [h0]
  dsimp only
  rw [if_neg (by rw [Option.isSome_none, Bool.and_false]; exact Bool.false_ne_true)]
  have hall : ∀ t ∈ th, t.act = 3 * d + 2 ∨ t.act = 6 * d + 5 := by
   subst h1
   refine actsB _ _ _ _ fun y hy => ?_
   rw [ok.on] at hy
   rcases List.mem_cons.mp hy with rfl | hy
   · exact .inl rfl
   · exact ok.on1 y hy
  cases ms with
  | true =>
   rw [stepB_rest hA hB (fun e => by rw [lineB_len] at e; simp at e) (fun e => by rw [lineB_len] at e; simp at e) [] none th hall]
   dsimp only
   rw [runR, if_pos (by rw [lineB_len]; simp)]; rfl
  | false =>
   have hfil : th.filter (fun t => decide (t.act = 6 * d + 5)) = [thY p 0 (atY 0 (evB d) ++ []) (6 * d + 5, odB d)] := by
    subst h1
    rw [List.filter_map, show ((fun t : ThD => decide (t.act = 6 * d + 5)) ∘ thY p 0 (atY 0 (evB d) ++ [])) = (fun x : Nat × List Int => decide (x.1 = 6 * d + 5)) from rfl, ok.od]; rfl
   obtain ⟨seen', S', e, r⟩ := stepB_last (G := G) (line := lineB p false) ok hA hB (by rw [lineB_len]; simp) (lineB_b p) h.fresh _ th hall hfil
   rw [e]
   dsimp only
   rw [runR, if_neg (by rw [lineB_len]; simp), if_pos Option.isNone_none]
   obtain ⟨seen2, e2, _⟩ := addAll_Y (G := G) (line := lineB p false) ok.k1 0 ((p + 1 : Nat) : Int) [] [⟨6 * d + 6, (thY p 0 (atY 0 (evB d) ++ []) (6 * d + 5, odB d)).from', (thY p 0 (atY 0 (evB d) ++ []) (6 * d + 5, odB d)).notes⟩] r
   rw [e2]
   dsimp only
   rw [if_neg (by rw [Option.isSome_none, Bool.and_false]; exact Bool.false_ne_true), List.cons_append, stepP']
   dsimp only
   rw [hM, if_pos (show (ActD.mk 6 0 0 none).kind = 6 from rfl)]
   dsimp only
   cases f with
   | zero => rw [runR]; rfl
   | succ f => rw [runR, if_pos (by rw [lineB_len]; simp)]; rfl
 | m + 1, f + 1, p, seen, th, hm, hf, h, h1 => by
  rw [runR, if_neg (by rw [lineB_len]; omega), if_pos Option.isNone_none]
  have h0 : addAll G (actB d) (d + 1) (lineB n ms) p 0 (p : Int) [] seen th = (seen, th) := addAll_seen 0 _ _ th (by rw [Nat.zero_mul]; exact (h.iff 0).mpr ok.s0)
  rw [h0]
  dsimp only
  rw [if_neg (by rw [Option.isSome_none, Bool.and_false]; exact Bool.false_ne_true)]
  subst h1
  rw [ok.on, List.map_cons]
  obtain ⟨seen', e, r⟩ := stepB_on (G := G) (line := lineB n ms) ok hA hB (by rw [lineB_len]; omega) (lineB_a (by omega) ms) h.fresh 0 (atY 0 (evB d) ++ []) ((onB d).tail.map (thY p 0 (atY 0 (evB d) ++ []))) (actsB _ _ _ _ ok.on1)
  have e' : stepP' G (actB d) (d + 1) (lineB n ms) p (thY p 0 (atY 0 (evB d) ++ []) (3 * d + 2, []) :: (onB d).tail.map (thY p 0 (atY 0 (evB d) ++ []))) seen [] none = (seen', (onB d).map (thY (p + 1) 0 (atY 0 (evB d) ++ [])), none) := e
  rw [e']
  exact run_B ok hA hB hM G n ms m f (p + 1) seen' _ (by omega) (by omega) r rfl
theorem run_B0 {d : Nat} (ok : OkB d) (hA : (actB d).getD (3 * d + 2) ⟨6, 0, 0, none⟩ = ⟨0, 0, 0, some sA⟩) (hB : (actB d).getD (6 * d + 5) ⟨6, 0, 0, none⟩ = ⟨0, 0, 0, some sB⟩) (hM : (actB d).getD (6 * d + 6) ⟨6, 0, 0, none⟩ = ⟨6, 0, 0, none⟩) (G : GlyD) (n : Nat) (hn : 1 ≤ n) (ms : Bool) (f : Nat) (hf : n + 2 ≤ f) :
  runR G (actB d) (d + 1) (lineB n ms) f 0 (fun _ => 0) [] none = resB d n ms := by
 obtain ⟨f, rfl⟩ : ∃ f', f = f' + 1 := ⟨f - 1, by omega⟩
 rw [runR, if_neg (by omega), if_pos Option.isNone_none]
 have hr0 : RelY 0 (fun _ => 0) [] := ⟨fun _ => by omega, fun _ => by simp⟩
 obtain ⟨seen1, e1, r1⟩ := addAll_Y (G := G) (line := lineB n ms) (at' := 0) ok.k1 0 0 [] [] hr0
 have e1' : addAll G (actB d) (d + 1) (lineB n ms) 0 0 ((0 : Nat) : Int) [] (fun _ => 0) [] = (seen1, (oneB d).map (thY 0 0 [])) := by
  rw [List.nil_append] at e1; exact e1
 rw [e1']
 dsimp only
 rw [if_neg (by rw [Option.isSome_none, Bool.and_false]; exact Bool.false_ne_true), ok.one, List.map_cons]
 obtain ⟨seen', e, r⟩ := stepB_on (G := G) (line := lineB n ms) ok hA hB (by rw [lineB_len]; omega) (lineB_a (show 0 < n from hn) ms) r1.fresh 0 (atY 0 (evB d) ++ []) ((oneB d).tail.map (thY 0 0 [])) (actsB _ _ _ _ ok.one1)
 have e' : stepP' G (actB d) (d + 1) (lineB n ms) 0 (thY 0 0 [] (3 * d + 2, evB d) :: (oneB d).tail.map (thY 0 0 [])) seen1 [] none = (seen', (onB d).map (thY (0 + 1) 0 (atY 0 (evB d) ++ [])), none) := e
 rw [e']
 exact run_B ok hA hB hM G n ms (n - 1) f 1 seen' _ (by omega) (by omega) r rfl
theorem resB_notes {d : Nat} (ok : OkB d) (n : Nat) : noteIn (atY n (odB d) ++ (atY 0 (evB d) ++ [])) 2 = 0 ∧ noteIn (atY n (odB d) ++ (atY 0 (evB d) ++ [])) 3 = n ∧ noteIn (atY n (odB d) ++ (atY 0 (evB d) ++ [])) ((2 * d : Nat) : Int) = 0 ∧ noteIn (atY n (odB d) ++ (atY 0 (evB d) ++ [])) ((2 * d + 1 : Nat) : Int) = n := by
 refine ⟨?_, ?_, ?_, ?_⟩
 · rw [noteIn_at, if_neg ok.od2, noteIn_at, if_pos ok.ev2]; rfl
 · rw [noteIn_at, if_pos ok.od3]
 · rw [noteIn_at, if_neg ok.odn, noteIn_at, if_pos ok.ev]; rfl
 · rw [noteIn_at, if_pos ok.od1]
theorem okB_all : ∀ d : Nat, 1 ≤ d → d ≤ 8 → okB d = true := by
 have h : ((List.range 9).all fun d => decide (d = 0) || okB d) = true := by decide +kernel
 intro d h1 h2
 have := List.all_eq_true.mp h d (List.mem_range.mpr (by omega))
 simpa [show ¬ d = 0 from by omega] using this
end Go.Proofs.YtdegdoilpamjjaaDoor
namespace Go.Proofs.YtdegdoilpamjjaaDoor
theorem okZ_1 : ((List.range 36).all fun j => okZ (j + 1)) = true := by decide +kernel
end Go.Proofs.YtdegdoilpamjjaaDoor
namespace Go.Proofs.YtdegdoilpamjjaaDoor
theorem okZ_2 : ((List.range 11).all fun j => okZ (j + 37)) = true := by decide +kernel
end Go.Proofs.YtdegdoilpamjjaaDoor
namespace Go.Proofs.YtdegdoilpamjjaaDoor
theorem okZ_3 : ((List.range 9).all fun j => okZ (j + 48)) = true := by decide +kernel
end Go.Proofs.YtdegdoilpamjjaaDoor
namespace Go.Proofs.YtdegdoilpamjjaaDoor
theorem okZ_4 : ((List.range 8).all fun j => okZ (j + 57)) = true := by decide +kernel
end Go.Proofs.YtdegdoilpamjjaaDoor
namespace Go.Proofs.YtdegdoilpamjjaaDoor
open Go.RowKit
set_option linter.unusedVariables false
set_option linter.unusedSimpArgs false
theorem region_recQ {P : Program} {id : Nat} {o : Oper} {l : List Oper} {Q : Exit → Act → List Frame → World → Prop} {Q1 : Exit → Act → World → Prop} {a : Act} {cs cs' : List Frame} {w : World} {v : Value} (hr : (execOp a.eval o).run P w = .ok .recover w) (hgd : o.guard = none)
  (hrec : recoverD cs = some (v, cs') ∨ recoverD cs = none ∧ v = .nilIface ∧ cs' = cs) (hq : ∀ e a w, Q1 e a w → Q e a cs' w) (h : wpList P (o :: l).toArray Q1 l (a.put o.dst v) w) : (Code.region id (o :: l).toArray false).wpS P Q a cs w := by
 intro b k hb hro
 have h1 : wpOps P (o :: l).toArray Q1 (List.range' 1 l.length) (a.put o.dst v) w := by
  rw [wpOps_eq_wpList l 1 (by intro j; simp [Nat.add_comm 1 j])]
  exact h
 obtain ⟨e, a', w', q, r⟩ := wp_ops _ _ _ h1 b k cs'
 have ho : (o :: l).toArray[0]? = some o := by simp
 have hw : Region.wanted o (yielded (o :: l).toArray a.tmps) = true := by simp [Region.wanted, hgd]
 have hg := stepG_op (P := P) (b := b) (a := a) (k := k) (cs := cs) (w := w) (rest := List.range' 1 l.length) ho hw
 have hfin : ∀ v, (b.at a (.inRegion (o :: l).toArray (0 :: List.range' 1 l.length) :: k)).finish v = b.at (a.put o.dst v) (.inRegion (o :: l).toArray (List.range' 1 l.length) :: k) := by
  intro v; rw [Frame.finish_at, ho]; rfl
 have hk : (b.at a (.inRegion (o :: l).toArray (0 :: List.range' 1 l.length) :: k)).kind = .deferred := hb
 have htr := tryRecover_deferred hk cs
 have hstep : step P (lone (b.at a (.inRegion (o :: l).toArray (0 :: List.range' 1 l.length) :: k)) cs w) = .next (lone (b.at (a.put o.dst v) (.inRegion (o :: l).toArray (List.range' 1 l.length) :: k)) cs' w) := by
  refine step_lone_go ?_
  rw [hg, ← hfin]
  simp only [Frame.at] at htr ⊢
  rcases hrec with hrec | ⟨hrec, rfl, rfl⟩
  · simp [stepG.apply, hr, htr, hrec]
  · simp [stepG.apply, hr, htr, hrec]
 refine ⟨e, a', cs', w', hq _ _ _ q, .of_steps (.one ?_) (.of_steps (.one hstep) r)⟩
 have := step_region (P := P) (b := b) (a := a) (k := k) (cs := cs) (w := w) (id := id) (ops := (o :: l).toArray)
 rw [this]
 have e1 : List.range (o :: l).toArray.size = 0 :: List.range' 1 l.length := by simp [List.range_eq_range', List.range'_succ]
 rw [e1]
theorem seq_recQ {P : Program} {id : Nat} {o : Oper} {l : List Oper} {y : Code} {Q : Exit → Act → List Frame → World → Prop} {a : Act} {cs cs' : List Frame} {w : World} {v : Value} (hr : (execOp a.eval o).run P w = .ok .recover w) (hgd : o.guard = none)
  (hrec : recoverD cs = some (v, cs') ∨ recoverD cs = none ∧ v = .nilIface ∧ cs' = cs)
  (h : wpList P (o :: l).toArray (Exit.then (y.wp P (fun e a w => Q e a cs' w)) (fun e a w => Q e a cs' w)) l (a.put o.dst v) w) : (Code.seq (Code.region id (o :: l).toArray false) y).wpS P Q a cs w := by
 apply wpS_seq
 refine region_recQ hr hgd hrec ?_ h
 intro e a w hq
 cases e with
 | normal => exact wpS_of_wp hq
 | _ => exact hq
theorem assert_nilQ (w : World) : (Instr.typeAssert .nilIface 20 68 true).run Tryd.prog w = .ok (.tuple #[.int .i64 0, .bool false]) w := by kernel_rfl
theorem catch_idleQ (q0 q1 q2 : Value) (w : World) :
  CallsD Tryd.prog 34 #[q0, q1, q2] .returning w fun e u' w' => e = .returned (.tuple #[]) ∧ u' = .returning ∧ w' = w := by
 refine callsD_of_wpS Tryd.func34 rfl fun c₀ cs hu => ?_
 refine seq_recQ (v := .nilIface) (cs' := c₀ :: cs) ?_ rfl (.inr ⟨?_, rfl, rfl⟩) ?_
 · simp [go_sem]
 · simp [recoverD, hu]
 simp only [Tryd.ntmps34, List.size_toArray, List.length_cons, List.length_nil, Nat.reduceAdd, Nat.reduceSub, Array.replicate_succ, Array.replicate_zero, List.push_toArray, List.append_toArray, List.nil_append, List.cons_append]
 have ha := assert_nilQ
 go_wp2
 exact ⟨rfl, .returning, by rw [← hu], _, results_none rfl _ _ _, rfl, rfl, rfl⟩
theorem comp_boxes (w : World) (v0 v1 v2 : Value) :
  IsBox (((w.alloc (.cells #[v0] 26)).alloc (.cells #[v1] 3)).alloc (.cells #[v2] 42)) w.heap.size 26 v0 ∧
  IsBox (((w.alloc (.cells #[v0] 26)).alloc (.cells #[v1] 3)).alloc (.cells #[v2] 42)) (w.heap.size + 1) 3 v1 ∧
  IsBox (((w.alloc (.cells #[v0] 26)).alloc (.cells #[v1] 3)).alloc (.cells #[v2] 42)) (w.heap.size + 1 + 1) 42 v2 ∧
  Below w.heap.size w (((w.alloc (.cells #[v0] 26)).alloc (.cells #[v1] 3)).alloc (.cells #[v2] 42)) := by
 refine ⟨?_, ?_, ?_, ?_⟩
 ·
  have := ((IsBox.new w 26 v0).alloc (.cells #[v1] 3)).alloc (.cells #[v2] 42)
  simpa using this
 ·
  have := (IsBox.new (w.alloc (.cells #[v0] 26)) 3 v1).alloc (.cells #[v2] 42)
  simpa using this
 ·
  have := IsBox.new ((w.alloc (.cells #[v0] 26)).alloc (.cells #[v1] 3)) 42 v2
  simpa using this
 · exact (((Below.refl _ _).alloc (Nat.le_refl _) _).alloc (by simp) _).alloc (by simp; omega) _
theorem comp_results (tmps : Array Value) (b0 b1 b2 : Nat) (p : Option Addr) (w : World) (h4 : tmps.getD 4 undef = .pointer (some ⟨b0, 0, none⟩)) (h5 : tmps.getD 5 undef = .pointer (some ⟨b1, 0, none⟩)) (h6 : tmps.getD 6 undef = .pointer (some ⟨b2, 0, none⟩)) (x y : Int)
  (hp : IsBox w b0 26 (.pointer p)) (ha : IsBox w b1 3 (.int .i64 x)) (he : IsBox w b2 42 (.int .i64 y)) :
  (results Tryd.f20 tmps).run Tryd.prog w = .ok (.tuple #[.pointer p, .int .i64 x, .int .i64 y]) w := by
 have x0 := hp.cell.1
 have x1 := ha.cell.1
 have x2 := he.cell.1
 simp only [Array.getD_eq_getD_getElem?] at h4 h5 h6
 simp [results, Tryd.results20, go_sem, h4, h5, h6, x0, x1, x2]
theorem comp_door (tmps : Array Value) (b0 b1 b2 : Nat) (p : Option Addr) (w : World) (R : Ending → World → Prop) (h4 : tmps.getD 4 undef = .pointer (some ⟨b0, 0, none⟩)) (h5 : tmps.getD 5 undef = .pointer (some ⟨b1, 0, none⟩)) (h6 : tmps.getD 6 undef = .pointer (some ⟨b2, 0, none⟩)) (x y : Int)
  (hp : IsBox w b0 26 (.pointer p)) (ha : IsBox w b1 3 (.int .i64 x)) (he : IsBox w b2 42 (.int .i64 y)) (h : R (.returned (.tuple #[.pointer p, .int .i64 x, .int .i64 y])) w) :
  bodyPostD Tryd.prog Tryd.f20 R .ret { tmps := tmps, defers := [{ target := .fn (.func 34) #[.pointer (some ⟨b0, 0, none⟩), .pointer (some ⟨b1, 0, none⟩), .pointer (some ⟨b2, 0, none⟩)], args := #[] }] } w := by
 refine leaves_cons (f := 34) (args := #[.pointer (some ⟨b0, 0, none⟩), .pointer (some ⟨b1, 0, none⟩), .pointer (some ⟨b2, 0, none⟩)]) (by simp) (by simp [go_sem]) ?_
 refine (catch_idleQ _ _ _ w).mono ?_
 rintro e u' w' ⟨rfl, rfl, rfl⟩
 exact ⟨_, comp_results _ b0 b1 b2 p w' h4 h5 h6 x y hp ha he, h⟩
structure PlainP (w : World) (base pb : Nat) (l : List Int) (sA : Option Addr) (cA : Nat) (vs : List Value) : Prop where
 pas : PaS w base pb 0 (l.length + 1) (vs.flatMap actC ++ [.int .i64 6, .int .i64 0, .int .i64 0, .pointer none]) sA cA
 len : vs.length = l.length
 sets : ∀ i (hi : i < vs.length) (hj : i < l.length), SetN w false vs[i] l[i]
theorem set_oth {w : World} {b0 b : Nat} {t0 t : TypeId} {v0 : Value} {cs : Array Value} (hx : IsBox w b0 t0 v0) (u : Value) (h : w.heap[b]? = some (.cells cs t (0, 0))) (ht : t ≠ t0) : (w.setCell ⟨b0, 0, none⟩ u).heap[b]? = w.heap[b]? :=
 Below.heap_setCell w ⟨b0, 0, none⟩ u b (type_ne h hx ht)
theorem FrA.box {base b : Nat} {t : TypeId} {v : Value} {w w' : World} (h : FrA base w w') (hx : IsBox w b t v) (h1 : t ≠ 62) (h2 : t ≠ 80) : IsBox w' b t v := h.oth _ _ _ hx h1 h2
theorem PaS.box {w : World} {base pb : Nat} {groups : Int} {n : Nat} {xs : List Value} {sA : Option Addr} {cA : Nat} (h : PaS w base pb groups n xs sA cA) {b : Nat} {t : TypeId} {v : Value} (hx : IsBox w b t v) (h1 : t ≠ 62) (h2 : t ≠ 80) (u : Value) :
  PaS (w.setCell ⟨b, 0, none⟩ u) base pb groups n xs sA cA := by
 refine ⟨(set_oth hx u h.blk (Ne.symm h1)).trans h.blk, own_kept h.own fun g hg => ?_, h.low⟩
 obtain ⟨cs, h3⟩ := own_type h.own hg
 exact set_oth hx u h3 (Ne.symm h2)
end Go.Proofs.YtdegdoilpamjjaaDoor
namespace Go.Proofs.YtdegdoilpamjjaaDoor
open Go.RowKit
set_option linter.unusedVariables false
set_option linter.unusedSimpArgs false
theorem setR (w w2 : World) (nt fold : Bool) (v1 v2 : Value) (rs : List (Int × Int)) (ks : List Int) (b : Nat) (hb : w.heap.size ≤ b) (h : w2.heap[b]? = some (.cells #[v1, v2, .bool nt, .bool fold] 135 (0, 0)))
  (h1 : SlR w2 w.heap.size w2.heap.size 2 v1 (spanV rs)) (h2 : SlR w2 w.heap.size w2.heap.size 1 v2 (kindsV ks)) : NdR w2 w.heap.size w2.heap.size (.iface 78 (.pointer (some ⟨b, 0, none⟩))) (.set rs ks nt fold) :=
 .set b v1 v2 rs ks nt fold hb (heap_lt h) h h1 h2
theorem SetN.nodeR {w w' : World} {fold : Bool} {v : Value} {x : Int} (h : SetN w' fold v x) (hnew : ∀ b g, v = .iface 78 (.pointer (some ⟨b, 0, none⟩)) → w'.heap[b]? = some (.cells #[.slice (some ⟨g, 0, none⟩) 1 1, .slice none 0 0, .bool false, .bool fold] 135 (0, 0)) → w.heap.size ≤ b ∧ w.heap.size ≤ g) : NdR w' w.heap.size w'.heap.size v (oneN fold x) := by
 obtain ⟨b, g, rfl, h1, h2⟩ := h
 obtain ⟨hb, hg⟩ := hnew b g rfl h1
 refine .set b _ _ [(x, x)] [] false fold hb (heap_lt h1) h1 ?_ (SlR.nil _ _ _ _)
 refine ⟨_, _, _, rfl, rfl, .inr ⟨g, 0, _, _, _, rfl, hg, heap_lt h2, h2, ?_⟩⟩
 intro i hi
 match i, hi with
 | 0, _ => rfl
 | 1, _ => rfl
theorem oneR_new (w w1 : World) (x : Int) (fold : Bool) (hw1 : w.alloc (.cells #[.int .i64 x, .int .i64 x] 144) = w1) (o : Obj)
  (ho : o = .cells #[.slice (some ⟨w.heap.size, 0, none⟩) 1 1, .slice none 0 0, .bool false, .bool fold] 135 (0, 0)) :
  NdR (w1.alloc o) w.heap.size (w1.alloc o).heap.size (.iface 78 (.pointer (some ⟨w.heap.size + 1, 0, none⟩))) (oneN fold x) ∧ Below w.heap.size w (w1.alloc o) := by
 have hb1 := below_newJ w (.cells #[.int .i64 x, .int .i64 x] 144)
 have hz := size_new w (.cells #[.int .i64 x, .int .i64 x] 144)
 have h1 := one_new w (.cells #[.int .i64 x, .int .i64 x] 144)
 rw [hw1] at hb1 hz h1
 clear hw1
 have h2 := one_new w1 o
 have h1' := at_new o h1
 have hb2 := hb1.alloc (by omega) o
 refine ⟨?_, hb2⟩
 generalize w1.alloc o = w2 at h2 h1' ⊢
 rw [hz] at h2
 subst ho
 refine .set (w.heap.size + 1) _ _ [(x, x)] [] false fold (by omega) (heap_lt h2) h2 ?_ (SlR.nil _ _ _ _)
 refine ⟨_, _, _, rfl, rfl, .inr ⟨w.heap.size, 0, _, _, _, rfl, Nat.le_refl _, heap_lt h1', h1', ?_⟩⟩
 intro i hi
 match i, hi with
 | 0, _ => rfl
 | 1, _ => rfl
set_option maxRecDepth 100000 in
theorem oneR_c (rb : Nat) (sl : Option Addr) (n c : Nat) (src : List Int) (s : RS) (fold : Bool) (x : Int) (w : World) (h : RdM w rb sl n c src s fold) :
  Calls Tryd.prog 82 #[.pointer (some ⟨rb, 0, none⟩), .int .i64 x] w fun e w' => ∃ v, e = .returned v ∧ NdR w' w.heap.size w'.heap.size v (oneN fold x) ∧ Below w.heap.size w w' := by
 have b3 : w.cell? ⟨rb, 3, none⟩ = some (.bool fold) := block_cell h.blk
 have hrb := heap_lt h.blk
 clear h
 go_enter Tryd.func82, Tryd.ntmps82
 go_wp2_with fail
 go_ret
 have hm := oneR_new w _ x fold rfl _ rfl
 exact ⟨_, rfl, hm.1, hm.2⟩
theorem RdP.one {w0 w w' : World} {rb : Nat} {sl : Option Addr} {n c : Nat} {src : List Int} {s : RS} {fold : Bool} {x : Int} {v : Value} (ht : Touch (fun b => b = rb) w0 w) (hr : RdM w rb sl n c src s fold) (hn : NdR w' w.heap.size w'.heap.size v (oneN fold x)) (hb : Below w.heap.size w w') :
  RdP w0 rb sl n c src fold (.ok (oneN fold x, s)) (fun x w' v => NdR w' w0.heap.size w'.heap.size v x) (.returned v) w' :=
 ⟨ht.trans (Touch.of (O := fun b => b = rb) hb) (fun x hx => .inl hx), ⟨_, rfl, hn.wide ht.size (Nat.le_refl _)⟩, hr.later hb⟩
theorem kindR_new (w w1 : World) (k : Int) (nt fold : Bool) (hw1 : w.alloc (.cells #[kindV k] 97) = w1) (o : Obj)
  (ho : o = .cells #[.slice none 0 0, .slice (some ⟨w.heap.size, 0, none⟩) 1 1, .bool nt, .bool fold] 135 (0, 0)) :
  NdR (w1.alloc o) w.heap.size (w1.alloc o).heap.size (.iface 78 (.pointer (some ⟨w.heap.size + 1, 0, none⟩))) (.set [] [k] nt fold) ∧ Below w.heap.size w (w1.alloc o) := by
 have hb1 := below_newJ w (.cells #[kindV k] 97)
 have hz := size_new w (.cells #[kindV k] 97)
 have h1 := one_new w (.cells #[kindV k] 97)
 rw [hw1] at hb1 hz h1
 clear hw1
 have h2 := one_new w1 o
 have h1' := at_new o h1
 have hb2 := hb1.alloc (by omega) o
 refine ⟨?_, hb2⟩
 generalize w1.alloc o = w2 at h2 h1' ⊢
 rw [hz] at h2
 subst ho
 refine .set (w.heap.size + 1) _ _ [] [k] nt fold (by omega) (heap_lt h2) h2 (SlR.nil _ _ _ _) ?_
 refine ⟨_, _, _, rfl, rfl, .inr ⟨w.heap.size, 0, _, _, _, rfl, Nat.le_refl _, heap_lt h1', h1', ?_⟩⟩
 intro i hi
 match i, hi with
 | 0, _ => rfl
end Go.Proofs.YtdegdoilpamjjaaDoor
