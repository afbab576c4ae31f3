/- Chapter 10, plain: a list quoted as a pattern; the way in which the runner finds a plain word. No program in sight. -/
import Derived.Test.YtdegdoilpamjjaaDoorJa
namespace Go.Proofs.YtdegdoilpamjjaaDoor
def spc (c : Int) : Bool := c == 92 || c == 46 || c == 91 || c == 42 || c == 94 || c == 36
def qc (c : Int) : List Int := if spc c then [92, c] else [c]
def qd (l : List Int) : List Int := l.flatMap qc
def posQ (l : List Int) (k : Nat) : Nat := (qd (l.take k)).length
theorem qd_len (l : List Int) : (qd l).length ≤ 2 * l.length := by
  induction l with
  | nil => decide
  | cons c l ih =>
    have : (qc c).length ≤ 2 := by unfold qc; split <;> simp
    unfold qd at ih ⊢
    rw [List.flatMap_cons, List.length_append, List.length_cons]
    omega
theorem posQ_zero (l : List Int) : posQ l 0 = 0 := rfl
theorem posQ_all (l : List Int) : posQ l l.length = (qd l).length := by unfold posQ; rw [List.take_length]
theorem qd_append (a b : List Int) : qd (a ++ b) = qd a ++ qd b := by unfold qd; exact List.flatMap_append ..
theorem qd_split (l : List Int) {k : Nat} (h : k < l.length) : qd l = qd (l.take k) ++ (qc l[k] ++ qd (l.drop (k + 1))) := by
  have e : l = l.take k ++ l[k] :: l.drop (k + 1) := by
    rw [← List.drop_eq_getElem_cons (l := l) (i := k) h, List.take_append_drop]
  have e2 : qd l = qd (l.take k ++ l[k] :: l.drop (k + 1)) := by rw [← e]
  rw [e2, qd_append]
  rfl
theorem posQ_succ (l : List Int) {k : Nat} (h : k < l.length) : posQ l (k + 1) = posQ l k + (qc l[k]).length := by
  unfold posQ
  rw [List.take_succ_eq_append_getElem h, qd_append, List.length_append]
  unfold qd; simp
theorem qc_pos (c : Int) : 1 ≤ (qc c).length ∧ (qc c).length ≤ 2 := by unfold qc; split <;> simp
theorem posQ_lt (l : List Int) {k : Nat} (h : k < l.length) : posQ l k + (qc l[k]).length ≤ (qd l).length := by
  rw [qd_split l h, List.length_append, List.length_append]
  unfold posQ
  omega
theorem qd_get (l : List Int) {k i : Nat} (h : k < l.length) (hi : i < (qc l[k]).length) : pk (qd l) (posQ l k) i = (qc l[k]).getD i 0 := by
  have h1 := posQ_lt l h
  unfold pk
  rw [if_pos (by omega)]
  unfold srcAt
  rw [qd_split l h]
  unfold posQ
  rw [List.getD_eq_getElem?_getD, List.getElem?_append_right (by omega), Nat.add_sub_cancel_left, List.getElem?_append_left hi, List.getD_eq_getElem?_getD]
/-- at a quoted int's beginning, or the end: what is no sign of its own -/
structure QE (src : List Int) (p : Nat) : Prop where
  star : pk src p 0 ≠ 42
  esc : pk src p 0 = 92 → p + 1 < src.length ∧ spc (pk src p 1) = true
theorem QE.no {src : List Int} {p : Nat} (h : QE src p) (x : Int) (hx : spc x = false) : escB src p x = false := by
  unfold escB
  by_cases h92 : pk src p 0 = 92
  · obtain ⟨h1, h2⟩ := h.esc h92
    have : pk src p 1 ≠ x := fun e => by rw [e, hx] at h2; cases h2
    simp [this]
  · simp [h92]
theorem qd_QE (l : List Int) {k : Nat} (h : k ≤ l.length) : QE (qd l) (posQ l k) := by
  by_cases hk : k < l.length
  · have h1 := posQ_lt l hk
    have g0 := qd_get l hk (i := 0) (by have := (qc_pos l[k]).1; omega)
    by_cases hs : spc l[k] = true
    · have e : qc l[k] = [92, l[k]] := if_pos hs
      have g1 := qd_get l hk (i := 1) (by rw [e]; show 1 < 2; omega)
      rw [e] at g0 g1 h1
      exact ⟨by rw [g0]; show (92 : Int) ≠ 42; decide, fun _ => ⟨by have : ([92, l[k]] : List Int).length = 2 := rfl; omega, by rw [g1]; exact hs⟩⟩
    · have e : qc l[k] = [l[k]] := if_neg hs
      rw [e] at g0
      have e0 : pk (qd l) (posQ l k) 0 = l[k] := g0
      refine ⟨?_, ?_⟩
      · rw [e0]; intro h42; rw [h42] at hs; exact hs rfl
      · rw [e0]; intro h92; rw [h92] at hs; exact absurd rfl hs
  · obtain rfl : k = l.length := by omega
    rw [posQ_all]
    have e0 : pk (qd l) (qd l).length 0 = -4611686018427387904 := if_neg (by omega)
    exact ⟨by rw [e0]; decide, fun h => by rw [e0] at h; exact absurd h (by decide)⟩
/-- a quoted int stands here -/
inductive QP (src : List Int) (p : Nat) (c : Int) : Nat → Prop
  | plain (h : p < src.length) (hc : spc c = false) (h0 : pk src p 0 = c) : QP src p c (p + 1)
  | esc (h : p + 1 < src.length) (hc : spc c = true) (h0 : pk src p 0 = 92) (h1 : pk src p 1 = c) : QP src p c (p + 2)
theorem qd_QP (l : List Int) {k : Nat} (hk : k < l.length) : QP (qd l) (posQ l k) l[k] (posQ l (k + 1)) := by
  have h1 := posQ_lt l hk
  have g0 := qd_get l hk (i := 0) (by have := (qc_pos l[k]).1; omega)
  by_cases hs : spc l[k] = true
  · have e : qc l[k] = [92, l[k]] := if_pos hs
    have g1 := qd_get l hk (i := 1) (by rw [e]; show 1 < 2; omega)
    rw [posQ_succ l hk]
    rw [e] at g0 g1 h1 ⊢
    exact .esc (by have : ([92, l[k]] : List Int).length = 2 := rfl; omega) hs g0 g1
  · have e : qc l[k] = [l[k]] := if_neg hs
    rw [posQ_succ l hk]
    rw [e] at g0 h1 ⊢
    have hs' : spc l[k] = false := by simpa using hs
    exact .plain (by have : ([l[k]] : List Int).length = 1 := rfl; omega) hs' g0
/-- is what has begun at f so far like the word? -/
def preM (L W : List Int) (f j : Nat) : Prop := ∀ i, i < j → f + i < L.length ∧ L.getD (f + i) 0 = W.getD i 0
/-- does the way that began at f go on beyond the int at place a? -/
def goesF (L W : List Int) (a f : Nat) : Bool := decide (a < L.length) && decide (L.getD a 0 = W.getD (a - f) 0)
/-- the ways that have come to a, by where they began -/
structure FOk (L W : List Int) (start a : Nat) (F : List Nat) : Prop where
  mem : ∀ f, f ∈ F ↔ start ≤ f ∧ f < a ∧ a - f ≤ W.length ∧ preM L W f (a - f)
  srt : F.Pairwise (· < ·)
theorem FOk.nil (L W : List Int) (start : Nat) : FOk L W start start [] := ⟨fun f => ⟨fun h => (List.not_mem_nil h).elim, fun h => by omega⟩, .nil⟩
theorem FOk.add {L W : List Int} {start a : Nat} {F : List Nat} (h : FOk L W start a F) : (F ++ [a]).Pairwise (· < ·) := by
  rw [List.pairwise_append]
  exact ⟨h.srt, List.pairwise_singleton _ _, fun x hx y hy => by rw [List.mem_singleton] at hy; subst hy; exact ((h.mem x).1 hx).2.1⟩
theorem FOk.mem1 {L W : List Int} {start a : Nat} {F : List Nat} (h : FOk L W start a F) (hs : start ≤ a) (f : Nat) : f ∈ F ++ [a] ↔ start ≤ f ∧ f ≤ a ∧ a - f ≤ W.length ∧ preM L W f (a - f) := by
  rw [List.mem_append, List.mem_singleton, h.mem]
  constructor
  · rintro (⟨h1, h2, h3, h4⟩ | rfl)
    · exact ⟨h1, by omega, h3, h4⟩
    · exact ⟨hs, Nat.le_refl _, by omega, fun i hi => by omega⟩
  · rintro ⟨h1, h2, h3, h4⟩
    by_cases e : f = a
    · exact .inr e
    · exact .inl ⟨h1, by omega, h3, h4⟩
theorem FOk.step {L W : List Int} {start a : Nat} {F : List Nat} (h : FOk L W start a F) (hs : start ≤ a) (hno : ∀ f ∈ F ++ [a], a - f ≠ W.length) :
    FOk L W start (a + 1) ((F ++ [a]).filter (goesF L W a)) := by
  refine ⟨fun f => ?_, h.add.filter _⟩
  rw [List.mem_filter]
  constructor
  · rintro ⟨h1, h2⟩
    have h3 := hno f h1
    obtain ⟨k1, k2, k3, k4⟩ := (h.mem1 hs f).1 h1
    unfold goesF at h2
    rw [Bool.and_eq_true, decide_eq_true_eq, decide_eq_true_eq] at h2
    refine ⟨k1, by omega, by omega, fun i hi => ?_⟩
    by_cases hi2 : i < a - f
    · exact k4 i hi2
    · obtain rfl : i = a - f := by omega
      rw [show f + (a - f) = a from by omega]
      exact h2
  · rintro ⟨k1, k2, k3, k4⟩
    refine ⟨(h.mem1 hs f).2 ⟨k1, by omega, by omega, fun i hi => k4 i (by omega)⟩, ?_⟩
    have := k4 (a - f) (by omega)
    rw [show f + (a - f) = a from by omega] at this
    unfold goesF
    rw [Bool.and_eq_true, decide_eq_true_eq, decide_eq_true_eq]
    exact this
/-- the first place from start on where the word stands -/
def FirstAt (L W : List Int) (start s : Nat) : Prop := start ≤ s ∧ preM L W s W.length ∧ ∀ t, start ≤ t → t < s → ¬ preM L W t W.length
def NoAt (L W : List Int) (start : Nat) : Prop := ∀ t, start ≤ t → ¬ preM L W t W.length
/-- a way has come to its end: it is the first one in the list, and no earlier place does -/
theorem FOk.found {L W : List Int} {start a : Nat} {F : List Nat} (h : FOk L W start a F) (hs : start ≤ a) (hn : ∀ t, start ≤ t → t + W.length < a → ¬ preM L W t W.length) {i : Nat} (hi : i < (F ++ [a]).length) (he : a - (F ++ [a])[i] = W.length) :
    i = 0 ∧ FirstAt L W start (a - W.length) ∧ (F ++ [a])[i] = a - W.length ∧ W.length ≤ a := by
  obtain ⟨k1, k2, k3, k4⟩ := (h.mem1 hs _).1 (List.getElem_mem hi)
  refine ⟨?_, ⟨by omega, ?_, fun t ht1 ht2 => hn t ht1 (by omega)⟩, by omega, by omega⟩
  · refine Classical.byContradiction fun h0 => ?_
    have hp := List.pairwise_iff_getElem.1 h.add 0 i (by omega) hi (by omega)
    obtain ⟨q1, q2, q3, q4⟩ := (h.mem1 hs _).1 (List.getElem_mem (show 0 < (F ++ [a]).length by omega))
    omega
  · rw [he] at k4
    rw [show (F ++ [a])[i] = a - W.length from by omega] at k4
    exact k4
theorem FOk.past {L W : List Int} {start a : Nat} {F : List Nat} (h : FOk L W start a F) (hs : start ≤ a) (hn : ∀ t, start ≤ t → t + W.length < a → ¬ preM L W t W.length) (hno : ∀ f ∈ F ++ [a], a - f ≠ W.length) :
    ∀ t, start ≤ t → t + W.length < a + 1 → ¬ preM L W t W.length := by
  intro t h1 h2 hp
  by_cases e : t + W.length = a
  · exact hno t ((h.mem1 hs t).2 ⟨h1, by omega, by omega, by rw [show a - t = W.length from by omega]; exact hp⟩) (by omega)
  · exact hn t h1 (by omega) hp
theorem none_at {L W : List Int} {start : Nat} (hW : 0 < W.length) (hn : ∀ t, start ≤ t → t + W.length < L.length + 1 → ¬ preM L W t W.length) : NoAt L W start := by
  intro t h1 hp
  refine hn t h1 ?_ hp
  have := (hp (W.length - 1) (by omega)).1
  omega
end Go.Proofs.YtdegdoilpamjjaaDoor
