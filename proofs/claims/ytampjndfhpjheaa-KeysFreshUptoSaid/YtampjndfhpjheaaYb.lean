/- Plain law of the reader: prefixes as a list of numbers and registers. No program. -/
import Derived.Test.YtampjndfhpjheaaYa
namespace Go.Proofs.Ytampjndfhpjheaa
inductive Tok where
  | num (ds : List Int)
  | reg (y : Int)
def Tok.keys : Tok → List Int
  | .num ds => ds
  | .reg y => [34, y]
def flatT : List Tok → List Int
  | [] => []
  | t :: ts => t.keys ++ flatT ts
def stepN (n x : Int) : Int := min (10 * n + x - 48) 9999
def valN (ds : List Int) : Int := ds.foldl stepN 0
def effT (p : Int × Int) : Tok → Int × Int
  | .num ds => (p.1, min (max p.2 1 * valN ds) 9999)
  | .reg y => (y, p.2)
def effs (p : Int × Int) (ts : List Tok) : Int × Int := ts.foldl effT p
def okNum (ds : List Int) : Prop := ∃ x t, ds = x :: t ∧ dig1B x = true ∧ ∀ y ∈ t, digB y = true
def okT : Bool → List Tok → Prop
  | _, [] => True
  | b, .num ds :: ts => b = false ∧ okNum ds ∧ okT true ts
  | _, .reg y :: ts => y ≠ 0 ∧ okT false ts
def endN : Bool → List Tok → Bool
  | b, [] => b
  | _, .num _ :: ts => endN true ts
  | _, .reg _ :: ts => endN false ts
def Head (b : Bool) (rest : List Int) : Prop := ∃ x t, rest = x :: t ∧ x ≠ 34 ∧ dig1B x = false ∧ (b = true → digB x = false)
theorem dig1_dig {x : Int} (h : dig1B x = true) : digB x = true := by
  unfold dig1B at h; unfold digB
  simp only [Bool.and_eq_true, decide_eq_true_eq] at *
  omega
theorem dig34 : digB 34 = false := rfl
theorem dig1_34 : dig1B 34 = false := rfl
theorem okNum.digs {ds : List Int} (h : okNum ds) : ∀ y ∈ ds, digB y = true := by
  obtain ⟨x, t, rfl, h1, h2⟩ := h
  intro y hy
  rcases List.mem_cons.1 hy with rfl | hy
  · exact dig1_dig h1
  · exact h2 y hy
theorem okNum.pos {ds : List Int} (h : okNum ds) : 0 < ds.length := by
  obtain ⟨x, t, rfl, _⟩ := h; simp
theorem tw_mem {p : Int → Bool} {l : List Int} {y : Int} (h : y ∈ l.takeWhile p) : p y = true := by
  induction l with
  | nil => simp at h
  | cons x l ih =>
    rw [List.takeWhile_cons] at h
    split at h
    · rcases List.mem_cons.1 h with rfl | h
      · assumption
      · exact ih h
    · simp at h
theorem runN_of (ds t : List Int) (h : ∀ x ∈ ds, digB x = true) (ht : ∀ x u, t = x :: u → digB x = false) (n : Int) : runN n (ds ++ t) = (ds.foldl stepN n, t) := by
  induction ds generalizing n with
  | nil =>
    cases t with
    | nil => rfl
    | cons x u =>
      have := ht x u rfl
      simp [runN, this]
  | cons x ds ih =>
    have h1 := h x (List.mem_cons_self ..)
    simp only [List.cons_append, runN, h1, if_true, List.foldl_cons]
    exact ih (fun y hy => h y (List.mem_cons_of_mem _ hy)) _
theorem numP_of {ds t : List Int} (h : okNum ds) (ht : ∀ x u, t = x :: u → digB x = false) (c : Int) : numP c (ds ++ t) = (min (max c 1 * valN ds) 9999, t) := by
  have hd := h.digs
  obtain ⟨x, u, rfl, h1, h2⟩ := h
  have := runN_of (x :: u) t hd ht 0
  simp only [List.cons_append] at this ⊢
  simp only [numP, h1, if_true, this, valN]
theorem numP_no {t : List Int} (ht : ∀ x u, t = x :: u → dig1B x = false) (c : Int) : numP c t = (c, t) := by
  cases t with
  | nil => rfl
  | cons x u => simp [numP, ht x u rfl]
/-- what numP does, told from the list -/
theorem numP_inv (c : Int) (l : List Int) : (∃ ds t, l = ds ++ t ∧ okNum ds ∧ (∀ x u, t = x :: u → digB x = false) ∧ numP c l = (min (max c 1 * valN ds) 9999, t)) ∨ ((∀ x u, l = x :: u → dig1B x = false) ∧ numP c l = (c, l)) := by
  cases l with
  | nil => exact .inr ⟨(fun x u h => by cases h), rfl⟩
  | cons x l =>
    cases hx : dig1B x
    · refine .inr ⟨fun y u h => ?_, by simp [numP, hx]⟩
      cases h; exact hx
    · refine .inl ⟨(x :: l).takeWhile digB, (x :: l).dropWhile digB, (List.takeWhile_append_dropWhile).symm, ?_, ?_, ?_⟩
      · refine ⟨x, l.takeWhile digB, by simp [List.takeWhile, dig1_dig hx], hx, fun y hy => ?_⟩
        exact tw_mem hy
      · intro y u h
        have := List.head?_dropWhile_not digB (x :: l)
        rw [h] at this
        simpa using this
      · have h := numP_of (ds := (x :: l).takeWhile digB) (t := (x :: l).dropWhile digB) ⟨x, l.takeWhile digB, by simp [List.takeWhile, dig1_dig hx], hx, fun y hy => tw_mem hy⟩ (fun y u h => by
          have := List.head?_dropWhile_not digB (x :: l)
          rw [h] at this
          simpa using this) c
        rwa [List.takeWhile_append_dropWhile] at h
theorem pref_one (f : Nat) (r c : Int) (l : List Int) {x : Int} {t : List Int} (h : (numP c l).2 = x :: t) (hx : x ≠ 34) : prefP (f + 1) r c l = (1, r, (numP c l).1, x :: t) := by
  simp [prefP, h, hx]
theorem pref_reg (f : Nat) (r c : Int) (l : List Int) {y : Int} {u : List Int} (h : (numP c l).2 = 34 :: y :: u) (hy : y ≠ 0) : prefP (f + 1) r c l = prefP f y (numP c l).1 u := by
  simp [prefP, h, hy]
theorem pref_nil (f : Nat) (r c : Int) (l : List Int) (h : (numP c l).2 = []) : prefP (f + 1) r c l = (0, 0, 0, []) := by
  simp [prefP, h]
theorem pref_open (f : Nat) (r c : Int) (l : List Int) (h : (numP c l).2 = [34]) : prefP (f + 1) r c l = (0, 0, 0, []) := by
  simp [prefP, h]
theorem pref_zero (f : Nat) (r c : Int) (l : List Int) {u : List Int} (h : (numP c l).2 = 34 :: 0 :: u) : prefP (f + 1) r c l = (2, 0, 0, []) := by
  simp [prefP, h]
theorem head_34 (u : List Int) : ∀ x v, (34 : Int) :: u = x :: v → digB x = false := by
  intro x v h; cases h; rfl
theorem head1_34 (u : List Int) : ∀ x v, (34 : Int) :: u = x :: v → dig1B x = false := by
  intro x v h; cases h; rfl
theorem pref_of : ∀ (ts : List Tok) (f : Nat) (r c : Int) (rest : List Int), okT false ts → Head (endN false ts) rest → (flatT ts ++ rest).length < f →
    prefP f r c (flatT ts ++ rest) = (1, (effs (r, c) ts).1, (effs (r, c) ts).2, rest)
  | [], f, r, c, rest, _, hh, hf => by
    obtain ⟨x, t, rfl, hx, hd, _⟩ := hh
    cases f with
    | zero => simp at hf
    | succ f =>
      have h := numP_no (t := x :: t) (fun y u h => by cases h; exact hd) c
      show prefP (f + 1) r c (x :: t) = _
      rw [pref_one f r c (x :: t) (by rw [h]) hx, h]; rfl
  | .num ds :: [], f, r, c, rest, hk, hh, hf => by
    obtain ⟨x, t, rfl, hx, hd, he⟩ := hh
    cases f with
    | zero => simp at hf
    | succ f =>
      have h := numP_of (t := x :: t) hk.2.1 (fun y u h => by cases h; exact he rfl) c
      have e : flatT [.num ds] ++ x :: t = ds ++ x :: t := by simp [flatT, Tok.keys]
      rw [e, pref_one f r c _ (by rw [h]) hx, h]; rfl
  | .num ds :: .num _ :: _, f, r, c, rest, hk, hh, hf => by
    have := hk.2.2.1; cases this
  | .num ds :: .reg y :: ts, f, r, c, rest, hk, hh, hf => by
    cases f with
    | zero => simp at hf
    | succ f =>
      have e : flatT (.num ds :: .reg y :: ts) ++ rest = ds ++ 34 :: y :: (flatT ts ++ rest) := by simp [flatT, Tok.keys]
      have h := numP_of (t := 34 :: y :: (flatT ts ++ rest)) hk.2.1 (head_34 _) c
      rw [e] at hf ⊢
      rw [pref_reg f r c _ (by rw [h]) hk.2.2.1, h]
      exact pref_of ts f y _ rest hk.2.2.2 hh (by simp at hf ⊢; omega)
  | .reg y :: ts, f, r, c, rest, hk, hh, hf => by
    cases f with
    | zero => simp at hf
    | succ f =>
      have e : flatT (.reg y :: ts) ++ rest = 34 :: y :: (flatT ts ++ rest) := by simp [flatT, Tok.keys]
      have h := numP_no (t := 34 :: y :: (flatT ts ++ rest)) (head1_34 _) c
      rw [e] at hf ⊢
      rw [pref_reg f r c _ (by rw [h]) hk.1, h]
      exact pref_of ts f y _ rest hk.2 hh (by simp at hf ⊢; omega)
theorem okT_true {ts : List Tok} (h : okT true ts) : ∀ b, okT b ts := by
  intro b
  cases ts with
  | nil => trivial
  | cons t ts => cases t with
    | num ds => cases h.1
    | reg y => exact h
theorem pre_append {q a b : List Int} (h : q <+: a ++ b) : q <+: a ∨ ∃ q', q = a ++ q' ∧ q' <+: b := by
  induction a generalizing q with
  | nil => exact .inr ⟨q, rfl, h⟩
  | cons x a ih =>
    cases q with
    | nil => exact .inl (List.nil_prefix)
    | cons y q =>
      rw [List.cons_append, List.cons_prefix_cons] at h
      obtain ⟨rfl, h⟩ := h
      rcases ih h with h1 | ⟨q', rfl, h2⟩
      · exact .inl (List.cons_prefix_cons.2 ⟨rfl, h1⟩)
      · exact .inr ⟨q', rfl, h2⟩
theorem okNum.pre {ds q : List Int} (h : okNum ds) (hq : q <+: ds) : q = [] ∨ okNum q := by
  obtain ⟨x, t, rfl, h1, h2⟩ := h
  cases q with
  | nil => exact .inl rfl
  | cons y q =>
    rw [List.cons_prefix_cons] at hq
    obtain ⟨rfl, hq⟩ := hq
    exact .inr ⟨y, q, rfl, h1, fun z hz => h2 z (hq.subset hz)⟩
theorem numP_all {q : List Int} (h : q = [] ∨ okNum q) (c : Int) : (numP c q).2 = [] := by
  rcases h with rfl | h
  · rfl
  · have := numP_of (t := []) h (fun x u h => by cases h) c
    rw [List.append_nil] at this
    rw [this]
theorem pref_more : ∀ (ts : List Tok) (f : Nat) (r c : Int) (q : List Int), okT false ts → q <+: flatT ts → q.length < f → prefP f r c q = (0, 0, 0, [])
  | [], f, r, c, q, _, hq, hf => by
    obtain rfl : q = [] := List.prefix_nil.1 hq
    cases f with
    | zero => simp at hf
    | succ f => rfl
  | .num ds :: [], f, r, c, q, hk, hq, hf => by
    cases f with
    | zero => simp at hf
    | succ f =>
      have e : flatT [.num ds] = ds := by simp [flatT, Tok.keys]
      rw [e] at hq
      exact pref_nil f r c q (numP_all (hk.2.1.pre hq) c)
  | .num ds :: .num _ :: _, f, r, c, q, hk, hq, hf => by
    have := hk.2.2.1; cases this
  | .num ds :: .reg y :: ts, f, r, c, q, hk, hq, hf => by
    cases f with
    | zero => simp at hf
    | succ f =>
      have e : flatT (.num ds :: .reg y :: ts) = ds ++ (34 :: y :: flatT ts) := by simp [flatT, Tok.keys]
      rw [e] at hq
      rcases pre_append hq with hq | ⟨q', rfl, hq2⟩
      · exact pref_nil f r c q (numP_all (hk.2.1.pre hq) c)
      · cases q' with
        | nil => rw [List.append_nil]; exact pref_nil f r c ds (numP_all (.inr hk.2.1) c)
        | cons z q' =>
          clear hq
          have hq := hq2
          rw [List.cons_prefix_cons] at hq
          obtain ⟨rfl, hq⟩ := hq
          have h := numP_of (t := 34 :: q') hk.2.1 (head_34 _) c
          cases q' with
          | nil => exact pref_open f r c _ (by rw [h])
          | cons z q' =>
            rw [List.cons_prefix_cons] at hq
            obtain ⟨rfl, hq⟩ := hq
            rw [pref_reg f r c _ (by rw [h]) hk.2.2.1]
            exact pref_more ts f _ _ q' hk.2.2.2 hq (by simp at hf; omega)
  | .reg y :: ts, f, r, c, q, hk, hq, hf => by
    cases f with
    | zero => simp at hf
    | succ f =>
      have e : flatT (.reg y :: ts) = 34 :: y :: flatT ts := by simp [flatT, Tok.keys]
      rw [e] at hq
      cases q with
      | nil => exact pref_nil f r c [] rfl
      | cons z q' =>
        rw [List.cons_prefix_cons] at hq
        obtain ⟨rfl, hq⟩ := hq
        have h := numP_no (t := 34 :: q') (head1_34 _) c
        cases q' with
        | nil => exact pref_open f r c _ (by rw [h])
        | cons z q' =>
          rw [List.cons_prefix_cons] at hq
          obtain ⟨rfl, hq⟩ := hq
          rw [pref_reg f r c _ (by rw [h]) hk.1]
          exact pref_more ts f _ _ q' hk.2 hq (by simp at hf; omega)
/-- what the prefixes of a list are -/
theorem pref_inv : ∀ (f : Nat) (r c : Int) (l : List Int), l.length < f →
    (∃ ts rest, okT false ts ∧ l = flatT ts ++ rest ∧ Head (endN false ts) rest ∧ prefP f r c l = (1, (effs (r, c) ts).1, (effs (r, c) ts).2, rest)) ∨
    (∃ ts, okT false ts ∧ (l = flatT ts ∨ l = flatT ts ++ [34]) ∧ prefP f r c l = (0, 0, 0, [])) ∨
    (∃ ts u, okT false ts ∧ l = flatT ts ++ 34 :: 0 :: u ∧ prefP f r c l = (2, 0, 0, []))
  | 0, r, c, l, h => by simp at h
  | f + 1, r, c, l, h => by
    rcases numP_inv c l with ⟨ds, t, rfl, hok, ht, hn⟩ | ⟨hd, hn⟩
    · match t, ht, hn with
      | [], _, hn => exact .inr (.inl ⟨[.num ds], ⟨rfl, hok, trivial⟩, .inl (by simp [flatT, Tok.keys]), pref_nil f r c _ (by rw [hn])⟩)
      | x :: t, ht, hn =>
        by_cases hx : x = 34
        · subst hx
          match t with
          | [] => exact .inr (.inl ⟨[.num ds], ⟨rfl, hok, trivial⟩, .inr (by simp [flatT, Tok.keys]), pref_open f r c _ (by rw [hn])⟩)
          | y :: u =>
            by_cases hy : y = 0
            · subst hy
              exact .inr (.inr ⟨[.num ds], u, ⟨rfl, hok, trivial⟩, by simp [flatT, Tok.keys], pref_zero f r c _ (by rw [hn])⟩)
            · have hr := pref_reg f r c (ds ++ 34 :: y :: u) (by rw [hn]) hy
              rw [hn] at hr
              rcases pref_inv f y (min (max c 1 * valN ds) 9999) u (by simp at h; omega) with ⟨ts, rest, h1, h2, h3, h4⟩ | ⟨ts, h1, h2, h4⟩ | ⟨ts, v, h1, h2, h4⟩
              · refine .inl ⟨.num ds :: .reg y :: ts, rest, ⟨rfl, hok, hy, h1⟩, ?_, h3, ?_⟩
                · rw [h2]; simp [flatT, Tok.keys]
                · rw [hr, h4]; rfl
              · refine .inr (.inl ⟨.num ds :: .reg y :: ts, ⟨rfl, hok, hy, h1⟩, ?_, by rw [hr, h4]⟩)
                rcases h2 with rfl | rfl
                · exact .inl (by simp [flatT, Tok.keys])
                · exact .inr (by simp [flatT, Tok.keys])
              · refine .inr (.inr ⟨.num ds :: .reg y :: ts, v, ⟨rfl, hok, hy, h1⟩, ?_, by rw [hr, h4]⟩)
                rw [h2]; simp [flatT, Tok.keys]
        · refine .inl ⟨[.num ds], x :: t, ⟨rfl, hok, trivial⟩, by simp [flatT, Tok.keys], ⟨x, t, rfl, hx, ?_, fun _ => ht x t rfl⟩, ?_⟩
          · cases hd1 : dig1B x
            · rfl
            · have := ht x t rfl; rw [dig1_dig hd1] at this; cases this
          · rw [pref_one f r c _ (by rw [hn]) hx, hn]; rfl
    · match l, hd, hn, h with
      | [], _, hn, _ => exact .inr (.inl ⟨[], trivial, .inl rfl, pref_nil f r c _ (by rw [hn])⟩)
      | x :: t, hd, hn, h =>
        by_cases hx : x = 34
        · subst hx
          match t, hn, h with
          | [], hn, h => exact .inr (.inl ⟨[], trivial, .inr rfl, pref_open f r c _ (by rw [hn])⟩)
          | y :: u, hn, h =>
            by_cases hy : y = 0
            · subst hy
              exact .inr (.inr ⟨[], u, trivial, rfl, pref_zero f r c _ (by rw [hn])⟩)
            · have hr := pref_reg f r c (34 :: y :: u) (by rw [hn]) hy
              rw [hn] at hr
              rcases pref_inv f y c u (by simp at h; omega) with ⟨ts, rest, h1, h2, h3, h4⟩ | ⟨ts, h1, h2, h4⟩ | ⟨ts, v, h1, h2, h4⟩
              · refine .inl ⟨.reg y :: ts, rest, ⟨hy, h1⟩, ?_, h3, ?_⟩
                · rw [h2]; simp [flatT, Tok.keys]
                · rw [hr, h4]; rfl
              · refine .inr (.inl ⟨.reg y :: ts, ⟨hy, h1⟩, ?_, by rw [hr, h4]⟩)
                rcases h2 with rfl | rfl
                · exact .inl (by simp [flatT, Tok.keys])
                · exact .inr (by simp [flatT, Tok.keys])
              · refine .inr (.inr ⟨.reg y :: ts, v, ⟨hy, h1⟩, ?_, by rw [hr, h4]⟩)
                rw [h2]; simp [flatT, Tok.keys]
        · refine .inl ⟨[], x :: t, trivial, rfl, ⟨x, t, rfl, hx, hd x t rfl, fun h => by cases h⟩, ?_⟩
          rw [pref_one f r c _ (by rw [hn]) hx, hn]; rfl
end Go.Proofs.Ytampjndfhpjheaa
