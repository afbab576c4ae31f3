/- Plain law of the reader: prefixes as a list of numbers and registers. No program. Contracts: what Go's package slices does with lists of ints: Index, Contains, cmp.Compare, Compare, Grow of nil, Clone. Condition: fewer than 2^31 members. Contracts: Go's package slices, lists of ints: Grow of nil, Concat of two, Clone. Condition: fewer than 2^31 members. Plain: the steps of the reader's prefixes. No program. Contracts: joined of copyistref13, of one list; copied of copyistlaw13. Condition: fewer than 2^32 members. Plain law of tries: rows of keys with values, none of which begins another. No program. The document's trie in memory: rows and values; its Look. Condition: fewer than 2^30 rows, rows of fewer than 2^30 keys. -/
import Derived.Deep.RegionHeld3
import Derived.Lib.AppendZeros
import Derived.Test.YtampjndfhpjheaaQAa
namespace Go.Proofs.Ytampjndfhpjheaa
inductive Tok where
 | num (ds : List Int)
 | reg (y : Int)
def Tok.keys : Tok → List Int
 | .num ds => ds
 | .reg y => [34, y]
def flatT : List Tok → List Int
 | [] => []
 | t :: ts => t.keys ++ flatT ts
def stepN (n x : Int) : Int := min (10 * n + x - 48) 9999
def valN (ds : List Int) : Int := ds.foldl stepN 0
def effT (p : Int × Int) : Tok → Int × Int
 | .num ds => (p.1, min (max p.2 1 * valN ds) 9999)
 | .reg y => (y, p.2)
def effs (p : Int × Int) (ts : List Tok) : Int × Int := ts.foldl effT p
def okNum (ds : List Int) : Prop := ∃ x t, ds = x :: t ∧ dig1B x = true ∧ ∀ y ∈ t, digB y = true
def okT : Bool → List Tok → Prop
 | _, [] => True
 | b, .num ds :: ts => b = false ∧ okNum ds ∧ okT true ts
 | _, .reg y :: ts => y ≠ 0 ∧ okT false ts
def endN : Bool → List Tok → Bool
 | b, [] => b
 | _, .num _ :: ts => endN true ts
 | _, .reg _ :: ts => endN false ts
def Head (b : Bool) (rest : List Int) : Prop := ∃ x t, rest = x :: t ∧ x ≠ 34 ∧ dig1B x = false ∧ (b = true → digB x = false)
theorem dig1_dig {x : Int} (h : dig1B x = true) : digB x = true := by
 unfold dig1B at h; unfold digB
 simp only [Bool.and_eq_true, decide_eq_true_eq] at *
 omega
theorem okNum.digs {ds : List Int} (h : okNum ds) : ∀ y ∈ ds, digB y = true := by
 obtain ⟨x, t, rfl, h1, h2⟩ := h
 intro y hy
 rcases List.mem_cons.1 hy with rfl | hy
 · exact dig1_dig h1
 · exact h2 y hy
theorem okNum.pos {ds : List Int} (h : okNum ds) : 0 < ds.length := by
 obtain ⟨x, t, rfl, _⟩ := h; simp
theorem tw_mem {p : Int → Bool} {l : List Int} {y : Int} (h : y ∈ l.takeWhile p) : p y = true := by
 induction l with
 | nil => simp at h
 | cons x l ih =>
  rw [List.takeWhile_cons] at h
  split at h
  ·
   rcases List.mem_cons.1 h with rfl | h
   · assumption
   · exact ih h
  · simp at h
theorem runN_of (ds t : List Int) (h : ∀ x ∈ ds, digB x = true) (ht : ∀ x u, t = x :: u → digB x = false) (n : Int) : runN n (ds ++ t) = (ds.foldl stepN n, t) := by
 induction ds generalizing n with
 | nil =>
  cases t with
  | nil => rfl
  | cons x u =>
   have := ht x u rfl
   simp [runN, this]
 | cons x ds ih =>
  have h1 := h x (List.mem_cons_self ..)
  simp only [List.cons_append, runN, h1, if_true, List.foldl_cons]
  exact ih (fun y hy => h y (List.mem_cons_of_mem _ hy)) _
theorem numP_of {ds t : List Int} (h : okNum ds) (ht : ∀ x u, t = x :: u → digB x = false) (c : Int) : numP c (ds ++ t) = (min (max c 1 * valN ds) 9999, t) := by
 have hd := h.digs
 obtain ⟨x, u, rfl, h1, h2⟩ := h
 have := runN_of (x :: u) t hd ht 0
 simp only [List.cons_append] at this ⊢
 simp only [numP, h1, if_true, this, valN]
theorem numP_no {t : List Int} (ht : ∀ x u, t = x :: u → dig1B x = false) (c : Int) : numP c t = (c, t) := by
 cases t with
 | nil => rfl
 | cons x u => simp [numP, ht x u rfl]
theorem numP_inv (c : Int) (l : List Int) : (∃ ds t, l = ds ++ t ∧ okNum ds ∧ (∀ x u, t = x :: u → digB x = false) ∧ numP c l = (min (max c 1 * valN ds) 9999, t)) ∨ ((∀ x u, l = x :: u → dig1B x = false) ∧ numP c l = (c, l)) := by
 cases l with
 | nil => exact .inr ⟨(fun x u h => by cases h), rfl⟩
 | cons x l =>
  cases hx : dig1B x
  ·
   refine .inr ⟨fun y u h => ?_, by simp [numP, hx]⟩
   cases h; exact hx
  ·
   refine .inl ⟨(x :: l).takeWhile digB, (x :: l).dropWhile digB, (List.takeWhile_append_dropWhile).symm, ?_, ?_, ?_⟩
   ·
    refine ⟨x, l.takeWhile digB, by simp [List.takeWhile, dig1_dig hx], hx, fun y hy => ?_⟩
    exact tw_mem hy
   ·
    intro y u h
    have := List.head?_dropWhile_not digB (x :: l)
    rw [h] at this
    simpa using this
   ·
    have h := numP_of (ds := (x :: l).takeWhile digB) (t := (x :: l).dropWhile digB) ⟨x, l.takeWhile digB, by simp [List.takeWhile, dig1_dig hx], hx, fun y hy => tw_mem hy⟩ (fun y u h => by
     have := List.head?_dropWhile_not digB (x :: l)
     rw [h] at this
     simpa using this) c
    rwa [List.takeWhile_append_dropWhile] at h
theorem pref_one (f : Nat) (r c : Int) (l : List Int) {x : Int} {t : List Int} (h : (numP c l).2 = x :: t) (hx : x ≠ 34) : prefP (f + 1) r c l = (1, r, (numP c l).1, x :: t) := by
 simp [prefP, h, hx]
theorem pref_reg (f : Nat) (r c : Int) (l : List Int) {y : Int} {u : List Int} (h : (numP c l).2 = 34 :: y :: u) (hy : y ≠ 0) : prefP (f + 1) r c l = prefP f y (numP c l).1 u := by
 simp [prefP, h, hy]
theorem pref_nil (f : Nat) (r c : Int) (l : List Int) (h : (numP c l).2 = []) : prefP (f + 1) r c l = (0, 0, 0, []) := by
 simp [prefP, h]
theorem pref_open (f : Nat) (r c : Int) (l : List Int) (h : (numP c l).2 = [34]) : prefP (f + 1) r c l = (0, 0, 0, []) := by
 simp [prefP, h]
theorem pref_zero (f : Nat) (r c : Int) (l : List Int) {u : List Int} (h : (numP c l).2 = 34 :: 0 :: u) : prefP (f + 1) r c l = (2, 0, 0, []) := by
 simp [prefP, h]
theorem head_34 (u : List Int) : ∀ x v, (34 : Int) :: u = x :: v → digB x = false := by
 intro x v h; cases h; rfl
theorem head1_34 (u : List Int) : ∀ x v, (34 : Int) :: u = x :: v → dig1B x = false := by
 intro x v h; cases h; rfl
theorem pref_of : ∀ (ts : List Tok) (f : Nat) (r c : Int) (rest : List Int), okT false ts → Head (endN false ts) rest → (flatT ts ++ rest).length < f →
  prefP f r c (flatT ts ++ rest) = (1, (effs (r, c) ts).1, (effs (r, c) ts).2, rest)
 | [], f, r, c, rest, _, hh, hf => by
  obtain ⟨x, t, rfl, hx, hd, _⟩ := hh
  cases f with
  | zero => simp at hf
  | succ f =>
   have h := numP_no (t := x :: t) (fun y u h => by cases h; exact hd) c
   show prefP (f + 1) r c (x :: t) = _
   rw [pref_one f r c (x :: t) (by rw [h]) hx, h]; rfl
 | .num ds :: [], f, r, c, rest, hk, hh, hf => by
  obtain ⟨x, t, rfl, hx, hd, he⟩ := hh
  cases f with
  | zero => simp at hf
  | succ f =>
   have h := numP_of (t := x :: t) hk.2.1 (fun y u h => by cases h; exact he rfl) c
   have e : flatT [.num ds] ++ x :: t = ds ++ x :: t := by simp [flatT, Tok.keys]
   rw [e, pref_one f r c _ (by rw [h]) hx, h]; rfl
 | .num ds :: .num _ :: _, f, r, c, rest, hk, hh, hf => by
  have := hk.2.2.1; cases this
 | .num ds :: .reg y :: ts, f, r, c, rest, hk, hh, hf => by
  cases f with
  | zero => simp at hf
  | succ f =>
   have e : flatT (.num ds :: .reg y :: ts) ++ rest = ds ++ 34 :: y :: (flatT ts ++ rest) := by simp [flatT, Tok.keys]
   have h := numP_of (t := 34 :: y :: (flatT ts ++ rest)) hk.2.1 (head_34 _) c
   rw [e] at hf ⊢
   rw [pref_reg f r c _ (by rw [h]) hk.2.2.1, h]
   exact pref_of ts f y _ rest hk.2.2.2 hh (by simp at hf ⊢; omega)
 | .reg y :: ts, f, r, c, rest, hk, hh, hf => by
  cases f with
  | zero => simp at hf
  | succ f =>
   have e : flatT (.reg y :: ts) ++ rest = 34 :: y :: (flatT ts ++ rest) := by simp [flatT, Tok.keys]
   have h := numP_no (t := 34 :: y :: (flatT ts ++ rest)) (head1_34 _) c
   rw [e] at hf ⊢
   rw [pref_reg f r c _ (by rw [h]) hk.1, h]
   exact pref_of ts f y _ rest hk.2 hh (by simp at hf ⊢; omega)
theorem pre_append {q a b : List Int} (h : q <+: a ++ b) : q <+: a ∨ ∃ q', q = a ++ q' ∧ q' <+: b := by
 induction a generalizing q with
 | nil => exact .inr ⟨q, rfl, h⟩
 | cons x a ih =>
  cases q with
  | nil => exact .inl (List.nil_prefix)
  | cons y q =>
   rw [List.cons_append, List.cons_prefix_cons] at h
   obtain ⟨rfl, h⟩ := h
   rcases ih h with h1 | ⟨q', rfl, h2⟩
   · exact .inl (List.cons_prefix_cons.2 ⟨rfl, h1⟩)
   · exact .inr ⟨q', rfl, h2⟩
theorem okNum.pre {ds q : List Int} (h : okNum ds) (hq : q <+: ds) : q = [] ∨ okNum q := by
 obtain ⟨x, t, rfl, h1, h2⟩ := h
 cases q with
 | nil => exact .inl rfl
 | cons y q =>
  rw [List.cons_prefix_cons] at hq
  obtain ⟨rfl, hq⟩ := hq
  exact .inr ⟨y, q, rfl, h1, fun z hz => h2 z (hq.subset hz)⟩
theorem numP_all {q : List Int} (h : q = [] ∨ okNum q) (c : Int) : (numP c q).2 = [] := by
 rcases h with rfl | h
 · rfl
 ·
  have := numP_of (t := []) h (fun x u h => by cases h) c
  rw [List.append_nil] at this
  rw [this]
theorem pref_more : ∀ (ts : List Tok) (f : Nat) (r c : Int) (q : List Int), okT false ts → q <+: flatT ts → q.length < f → prefP f r c q = (0, 0, 0, [])
 | [], f, r, c, q, _, hq, hf => by
  obtain rfl : q = [] := List.prefix_nil.1 hq
  cases f with
  | zero => simp at hf
  | succ f => rfl
 | .num ds :: [], f, r, c, q, hk, hq, hf => by
  cases f with
  | zero => simp at hf
  | succ f =>
   have e : flatT [.num ds] = ds := by simp [flatT, Tok.keys]
   rw [e] at hq
   exact pref_nil f r c q (numP_all (hk.2.1.pre hq) c)
 | .num ds :: .num _ :: _, f, r, c, q, hk, hq, hf => by
  have := hk.2.2.1; cases this
 | .num ds :: .reg y :: ts, f, r, c, q, hk, hq, hf => by
  cases f with
  | zero => simp at hf
  | succ f =>
   have e : flatT (.num ds :: .reg y :: ts) = ds ++ (34 :: y :: flatT ts) := by simp [flatT, Tok.keys]
   rw [e] at hq
   rcases pre_append hq with hq | ⟨q', rfl, hq2⟩
   · exact pref_nil f r c q (numP_all (hk.2.1.pre hq) c)
   ·
    cases q' with
    | nil => rw [List.append_nil]; exact pref_nil f r c ds (numP_all (.inr hk.2.1) c)
    | cons z q' =>
     clear hq
     have hq := hq2
     rw [List.cons_prefix_cons] at hq
     obtain ⟨rfl, hq⟩ := hq
     have h := numP_of (t := 34 :: q') hk.2.1 (head_34 _) c
     cases q' with
     | nil => exact pref_open f r c _ (by rw [h])
     | cons z q' =>
      rw [List.cons_prefix_cons] at hq
      obtain ⟨rfl, hq⟩ := hq
      rw [pref_reg f r c _ (by rw [h]) hk.2.2.1]
      exact pref_more ts f _ _ q' hk.2.2.2 hq (by simp at hf; omega)
 | .reg y :: ts, f, r, c, q, hk, hq, hf => by
  cases f with
  | zero => simp at hf
  | succ f =>
   have e : flatT (.reg y :: ts) = 34 :: y :: flatT ts := by simp [flatT, Tok.keys]
   rw [e] at hq
   cases q with
   | nil => exact pref_nil f r c [] rfl
   | cons z q' =>
    rw [List.cons_prefix_cons] at hq
    obtain ⟨rfl, hq⟩ := hq
    have h := numP_no (t := 34 :: q') (head1_34 _) c
    cases q' with
    | nil => exact pref_open f r c _ (by rw [h])
    | cons z q' =>
     rw [List.cons_prefix_cons] at hq
     obtain ⟨rfl, hq⟩ := hq
     rw [pref_reg f r c _ (by rw [h]) hk.1]
     exact pref_more ts f _ _ q' hk.2 hq (by simp at hf; omega)
theorem pref_inv : ∀ (f : Nat) (r c : Int) (l : List Int), l.length < f →
  (∃ ts rest, okT false ts ∧ l = flatT ts ++ rest ∧ Head (endN false ts) rest ∧ prefP f r c l = (1, (effs (r, c) ts).1, (effs (r, c) ts).2, rest)) ∨
  (∃ ts, okT false ts ∧ (l = flatT ts ∨ l = flatT ts ++ [34]) ∧ prefP f r c l = (0, 0, 0, [])) ∨
  (∃ ts u, okT false ts ∧ l = flatT ts ++ 34 :: 0 :: u ∧ prefP f r c l = (2, 0, 0, []))
 | 0, r, c, l, h => by simp at h
 | f + 1, r, c, l, h => by
  rcases numP_inv c l with ⟨ds, t, rfl, hok, ht, hn⟩ | ⟨hd, hn⟩
  ·
   match t, ht, hn with
   | [], _, hn => exact .inr (.inl ⟨[.num ds], ⟨rfl, hok, trivial⟩, .inl (by simp [flatT, Tok.keys]), pref_nil f r c _ (by rw [hn])⟩)
   | x :: t, ht, hn =>
    by_cases hx : x = 34
    ·
     subst hx
     match t with
     | [] => exact .inr (.inl ⟨[.num ds], ⟨rfl, hok, trivial⟩, .inr (by simp [flatT, Tok.keys]), pref_open f r c _ (by rw [hn])⟩)
     | y :: u =>
      by_cases hy : y = 0
      ·
       subst hy
       exact .inr (.inr ⟨[.num ds], u, ⟨rfl, hok, trivial⟩, by simp [flatT, Tok.keys], pref_zero f r c _ (by rw [hn])⟩)
      ·
       have hr := pref_reg f r c (ds ++ 34 :: y :: u) (by rw [hn]) hy
       rw [hn] at hr
       rcases pref_inv f y (min (max c 1 * valN ds) 9999) u (by simp at h; omega) with ⟨ts, rest, h1, h2, h3, h4⟩ | ⟨ts, h1, h2, h4⟩ | ⟨ts, v, h1, h2, h4⟩
       ·
        refine .inl ⟨.num ds :: .reg y :: ts, rest, ⟨rfl, hok, hy, h1⟩, ?_, h3, ?_⟩
        · rw [h2]; simp [flatT, Tok.keys]
        · rw [hr, h4]; rfl
       ·
        refine .inr (.inl ⟨.num ds :: .reg y :: ts, ⟨rfl, hok, hy, h1⟩, ?_, by rw [hr, h4]⟩)
        rcases h2 with rfl | rfl
        · exact .inl (by simp [flatT, Tok.keys])
        · exact .inr (by simp [flatT, Tok.keys])
       ·
        refine .inr (.inr ⟨.num ds :: .reg y :: ts, v, ⟨rfl, hok, hy, h1⟩, ?_, by rw [hr, h4]⟩)
        rw [h2]; simp [flatT, Tok.keys]
    ·
     refine .inl ⟨[.num ds], x :: t, ⟨rfl, hok, trivial⟩, by simp [flatT, Tok.keys], ⟨x, t, rfl, hx, ?_, fun _ => ht x t rfl⟩, ?_⟩
     ·
      cases hd1 : dig1B x
      · rfl
      · have := ht x t rfl; rw [dig1_dig hd1] at this; cases this
     · rw [pref_one f r c _ (by rw [hn]) hx, hn]; rfl
  ·
   match l, hd, hn, h with
   | [], _, hn, _ => exact .inr (.inl ⟨[], trivial, .inl rfl, pref_nil f r c _ (by rw [hn])⟩)
   | x :: t, hd, hn, h =>
    by_cases hx : x = 34
    ·
     subst hx
     match t, hn, h with
     | [], hn, h => exact .inr (.inl ⟨[], trivial, .inr rfl, pref_open f r c _ (by rw [hn])⟩)
     | y :: u, hn, h =>
      by_cases hy : y = 0
      ·
       subst hy
       exact .inr (.inr ⟨[], u, trivial, rfl, pref_zero f r c _ (by rw [hn])⟩)
      ·
       have hr := pref_reg f r c (34 :: y :: u) (by rw [hn]) hy
       rw [hn] at hr
       rcases pref_inv f y c u (by simp at h; omega) with ⟨ts, rest, h1, h2, h3, h4⟩ | ⟨ts, h1, h2, h4⟩ | ⟨ts, v, h1, h2, h4⟩
       ·
        refine .inl ⟨.reg y :: ts, rest, ⟨hy, h1⟩, ?_, h3, ?_⟩
        · rw [h2]; simp [flatT, Tok.keys]
        · rw [hr, h4]; rfl
       ·
        refine .inr (.inl ⟨.reg y :: ts, ⟨hy, h1⟩, ?_, by rw [hr, h4]⟩)
        rcases h2 with rfl | rfl
        · exact .inl (by simp [flatT, Tok.keys])
        · exact .inr (by simp [flatT, Tok.keys])
       ·
        refine .inr (.inr ⟨.reg y :: ts, v, ⟨hy, h1⟩, ?_, by rw [hr, h4]⟩)
        rw [h2]; simp [flatT, Tok.keys]
    ·
     refine .inl ⟨[], x :: t, trivial, rfl, ⟨x, t, rfl, hx, hd x t rfl, fun h => by cases h⟩, ?_⟩
     rw [pref_one f r c _ (by rw [hn]) hx, hn]; rfl
end Go.Proofs.Ytampjndfhpjheaa
namespace Go.Proofs.Ytampjndfhpjheaa
open Go.RowKit
set_option linter.unusedVariables false
theorem nan_c (x : Int) (w : World) : Calls Try.prog 102 #[.int .i64 x] w fun e w' => e = .returned (.bool false) ∧ w' = w := by
 have h : (x != x) = false := by simp
 go_enter Try.func102, Try.ntmps102
 go_wp2
 go_ret
 exact ⟨rfl, rfl⟩
def cmpP (x y : Int) : Int := if x < y then -1 else if y < x then 1 else 0
set_option maxHeartbeats 1000000 in
theorem cmp_c (x y : Int) (w : World) : Calls Try.prog 87 #[.int .i64 x, .int .i64 y] w fun e w' => e = .returned (.int .i64 (cmpP x y)) ∧ w' = w := by
 go_enter Try.func87, Try.ntmps87
 go_wp2_with fail
 refine (nan_c x w).mono ?_
 rintro e w2 ⟨rfl, rfl⟩
 go_wp2_with fail
 refine (nan_c y w2).mono ?_
 rintro e w3 ⟨rfl, rfl⟩
 go_wp2
 all_goals (go_ret; refine ⟨?_, rfl⟩; unfold cmpP; (repeat' split) <;> first | rfl | (exfalso; omega))
set_option maxHeartbeats 1000000 in
theorem index_c (s : Option Addr) (len cap : Nat) (l : List Int) (x : Int) (w : World) (hl : l.length = len) (hlm : len < 4611686018427387904) (hr : IsInts w s len (gl l)) :
  Calls Try.prog 83 #[.slice s len cap, .int .i64 x] w fun e w' => ∃ k : Int, e = .returned (.int .i64 k) ∧ decide (0 ≤ k) = l.contains x ∧ w' = w := by
 have HR := Lib.hid hr
 have HL := Lib.hid hl
 clear hr hl
 go_enter Try.func83, Try.ntmps83
 go_wp2_with fail
 go_loopg [8] len (fun gg i wr => ∃ k : Nat, k + gg = len ∧ i = .int .i64 k ∧ (∀ j, j < k → gl l j ≠ x) ∧ w = wr)
 case atStart => exact ⟨0, by omega, rfl, (fun j hj => absurd hj (Nat.not_lt_zero _)), rfl⟩
 case round =>
  obtain ⟨k, hk, rfl, he, rfl⟩ := hrel
  have HE := Lib.hid he
  clear he
  by_cases hlt : k < len
  ·
   obtain ⟨b, off, rfl, hcell⟩ := HR.out.at (Below.refl _ _) hlt
   obtain ⟨y, hy⟩ : ∃ y, gl l k = y := ⟨_, rfl⟩
   rw [hy] at hcell
   have HY := Lib.hid hy
   clear hy
   have q1 : (k : Int) < (len : Int) := by omega
   cases hxy : (x == y)
   ·
    go_wp2
    go_roundg (gk - 1)
    case measure => omega
    case rel =>
     refine ⟨k + 1, by omega, by go_num, fun j hj => ?_, rfl⟩
     by_cases e : j = k
     · rw [e, HY.out]; exact fun h => by rw [h, beq_self_eq_true] at hxy; cases hxy
     · exact HE.out j (by omega)
   ·
    go_wp2
    go_ret
    refine ⟨_, rfl, ?_, rfl⟩
    rw [decide_eq_true (by omega : (0 : Int) ≤ (k : Int))]
    symm
    rw [List.contains_iff_mem]
    rw [eq_of_beq hxy, ← HY.out]
    unfold gl
    rw [List.getD_eq_getElem?_getD, List.getElem?_eq_getElem (by rw [HL.out]; exact hlt)]
    exact List.getElem_mem _
  ·
   go_wp2
   go_ret
   refine ⟨_, rfl, ?_, rfl⟩
   rw [decide_eq_false (by omega)]
   symm
   rw [Bool.eq_false_iff]
   intro h
   rw [List.contains_iff_mem] at h
   obtain ⟨i, hi, e⟩ := List.mem_iff_getElem.1 h
   refine HE.out i (by rw [HL.out] at hi; omega) ?_
   unfold gl
   rw [List.getD_eq_getElem?_getD, List.getElem?_eq_getElem hi]
   exact e
theorem contains_c (s : Option Addr) (len cap : Nat) (l : List Int) (x : Int) (w : World) (hl : l.length = len) (hlm : len < 4611686018427387904) (hr : IsInts w s len (gl l)) :
  Calls Try.prog 42 #[.slice s len cap, .int .i64 x] w fun e w' => e = .returned (.bool (l.contains x)) ∧ w' = w := by
 have HR := Lib.hid hr
 have HL := Lib.hid hl
 clear hr hl
 go_enter Try.func42, Try.ntmps42
 go_wp2_with fail
 refine (index_c s len cap l x w HL.out hlm HR.out).mono ?_
 rintro e w2 ⟨k, rfl, hk, rfl⟩
 have HK := Lib.hid hk
 clear hk
 go_wp2
 go_ret
 refine ⟨?_, rfl⟩
 rw [← HK.out]; rfl
def lexP : List Int → List Int → Int
 | [], [] => 0
 | [], _ => -1
 | _, [] => 1
 | x :: s, y :: t => if cmpP x y = 0 then lexP s t else cmpP x y
theorem glS_drop {l : List Int} {k : Nat} (h : k < l.length) : l.drop k = gl l k :: l.drop (k + 1) := by
 rw [List.drop_eq_getElem_cons h]
 unfold gl
 rw [List.getD_eq_getElem?_getD, List.getElem?_eq_getElem h]
 rfl
set_option maxHeartbeats 1000000 in
theorem compare_c (sa sb : Option Addr) (n ca m cb : Nat) (l k : List Int) (w : World) (hl : l.length = n) (hk : k.length = m) (hn : n < 4611686018427387904) (hm : m < 4611686018427387904) (hr : IsInts w sa n (gl l)) (hs : IsInts w sb m (gl k)) :
  Calls Try.prog 45 #[.slice sa n ca, .slice sb m cb] w fun e w' => e = .returned (.int .i64 (lexP l k)) ∧ w' = w := by
 have HR := Lib.hid hr
 have HS := Lib.hid hs
 have HL := Lib.hid hl
 have HK := Lib.hid hk
 clear hr hl hs hk
 go_enter Try.func45, Try.ntmps45
 go_wp2_with fail
 go_loopg [11] n (fun gg iv wr => ∃ i : Nat, i + gg = n ∧ iv = .int .i64 i ∧ i ≤ m ∧ lexP l k = lexP (l.drop i) (k.drop i) ∧ w = wr)
 case atStart => exact ⟨0, by omega, rfl, by omega, rfl, rfl⟩
 case round =>
  obtain ⟨i, hi, rfl, him, he, rfl⟩ := hrel
  have HE := Lib.hid he
  clear he
  by_cases hlt : i < n
  ·
   obtain ⟨b, off, rfl, hcell⟩ := HR.out.at (Below.refl _ _) hlt
   have e1 := glS_drop (l := l) (k := i) (by rw [HL.out]; exact hlt)
   obtain ⟨x, hx⟩ : ∃ x, gl l i = x := ⟨_, rfl⟩
   rw [hx] at hcell e1
   have q1 : (i : Int) < (n : Int) := by omega
   have E1 := Lib.hid e1
   clear hx e1
   by_cases hlm : i < m
   ·
    obtain ⟨b', off', rfl, hcell'⟩ := HS.out.at (Below.refl _ _) hlm
    have e2 := glS_drop (l := k) (k := i) (by rw [HK.out]; exact hlm)
    obtain ⟨y, hy⟩ : ∃ y, gl k i = y := ⟨_, rfl⟩
    rw [hy] at hcell' e2
    have q2 : (i : Int) < (m : Int) := by omega
    have E2 := Lib.hid e2
    clear hy e2
    go_wp2_with fail
    refine (cmp_c x y w).mono ?_
    rintro e w2 ⟨rfl, rfl⟩
    by_cases hc : cmpP x y = 0
    ·
     have HL2 : Hid (lexP l k = lexP (l.drop (i + 1)) (k.drop (i + 1))) := Lib.hid (by
      rw [HE.out, E1.out, E2.out]
      simp only [lexP]
      rw [if_pos hc])
     have hcb : (cmpP x y != 0) = false := by rw [hc]; rfl
     clear hc
     go_wp2
     go_roundg (gk - 1)
     case measure => omega
     case rel => exact ⟨i + 1, by omega, by go_num, by omega, HL2.out, rfl⟩
    ·
     have HL2 : Hid (lexP l k = cmpP x y) := Lib.hid (by
      rw [HE.out, E1.out, E2.out]
      simp only [lexP]
      rw [if_neg hc])
     have hcb : (cmpP x y != 0) = true := by rw [bne_iff_ne]; exact hc
     clear hc
     go_wp2
     go_ret
     exact ⟨by rw [HL2.out]; rfl, rfl⟩
   ·
    have hme : i = m := by omega
    have q2 : (m : Int) ≤ (i : Int) := by omega
    have HL2 : Hid (lexP l k = 1) := Lib.hid (by
      rw [HE.out, E1.out, (show k.drop i = [] from List.drop_eq_nil_of_le (by rw [HK.out]; omega))]
      rfl)
    clear hme
    go_wp2
    go_ret
    exact ⟨by rw [HL2.out]; rfl, rfl⟩
  ·
   have HL1 := Lib.hid (List.drop_eq_nil_of_le (by rw [HL.out]; omega) : l.drop i = [])
   by_cases hlm : n < m
   ·
    have HL2 : Hid (lexP l k = -1) := Lib.hid (by
      rw [HE.out, HL1.out, glS_drop (l := k) (k := i) (by rw [HK.out]; omega)]
      rfl)
    have q2 : (n : Int) < (m : Int) := by omega
    go_wp2
    go_ret
    exact ⟨by rw [HL2.out]; rfl, rfl⟩
   ·
    have HL2 : Hid (lexP l k = 0) := Lib.hid (by
      rw [HE.out, HL1.out, (show k.drop i = [] from List.drop_eq_nil_of_le (by rw [HK.out]; omega))]
      rfl)
    have q2 : ¬ ((n : Int) < (m : Int)) := by omega
    go_wp2
    go_ret
    exact ⟨by rw [HL2.out]; rfl, rfl⟩
open Go.RowKit
theorem wpList_append_onto {w : World} {ops : Array Oper} {rest : List Oper} {o : Oper} {a : Act} {Q : Exit → Act → World → Prop} (hgd : o.guard = none) (s x : Operand)
  (ho : o.op = .call { callee := .builtin .append, args := #[s, x], argTypes := #[33, 33] })
  (base : Nat) (v : Value) (l m : List Int) (hs : a.eval s = v) (hown : OwnInts w base v l) (sa : Option Addr) (len cap : Nat) (hx : a.eval x = .slice sa len cap) (hlen : len = m.length) (hr : IsInts w sa len (gl m)) (hnil : sa = none → len = 0 ∧ cap = 0) (hl : l.length + len < 4294967296) (hbase : base ≤ w.heap.size)
  (h : ∀ s' n' c' w', n' = l.length + len → OwnInts w' base (.slice s' n' c') (l ++ m) → w.grownBy w' v.ownBlock → Below base w w' → wpList Try.prog ops Q rest (a.put o.dst (.slice s' n' c')) w') : wpList Try.prog ops Q (o :: rest) a w := by
 obtain ⟨i0, hi, hz0, hz1, hz2⟩ := info_parts Try.infoInt
 subst hlen
 cases sa with
 | none =>
  obtain ⟨h0, h1⟩ := hnil rfl
  have hm : m = [] := List.length_eq_zero_iff.1 h0
  subst hm
  refine wpList_append_own_none hgd s x 33 ho base 3 i0 1 Try.underlying33 hi v _ _ hs hown (by rw [hx, h1]; rfl) ?_
  obtain ⟨s', n', c', hv, hn, hi⟩ := hown.shape
  rw [hv]
  rw [hv] at hown
  exact h s' n' c' w (by rw [hn]; rfl) (by rw [List.append_nil]; exact hown) (World.grownBy.refl _ _) (Below.refl _ _)
 | some ad =>
  have hown' := hown
  unfold OwnInts at hown'
  refine wpList_append_own w hgd s x 33 ho base 3 i0 (.int .i64 0) 1 8 Try.underlying33 hi hz0 hz1 hz2 rfl (by decide) v _ _ hs hown' ad m.length cap (m.map (Value.int .i64)) hx (by rw [List.length_map, Nat.mul_one]) ?_ (ints_one _) (by unfold maxLen; omega) (by omega) hbase ?_
  ·
   intro j u hu
   rw [List.getElem?_map] at hu
   rcases hr with h0 | ⟨b, off, he, hb, hc⟩
   · rw [List.getElem?_eq_none (by omega)] at hu; cases hu
   ·
    cases he
    by_cases hj : j < m.length
    ·
     rw [List.getElem?_eq_getElem hj] at hu
     have h1 := hc j hj
     unfold gl at h1
     rw [List.getD_eq_getElem?_getD, List.getElem?_eq_getElem hj] at h1
     rw [Go.WideShapes.add_plain, ← hu]
     exact h1
    · rw [List.getElem?_eq_none (by omega)] at hu; cases hu
  ·
   intro v' w' h2 hgrow _
   have hO : OwnInts w' base v' (l ++ m) := by
    unfold OwnInts
    rw [List.length_append, List.map_append]
    exact h2
   obtain ⟨s', n', c', rfl, hn, _⟩ := hO.shape
   exact h s' n' c' w' (by rw [hn, List.length_append]) hO hgrow (Below.grown (Below.refl _ _) hgrow hbase (fun k hk => (hown.lt k hk).1))
set_option maxHeartbeats 1000000 in
theorem grow_c (n : Nat) (w : World) (hn : n < 4294967296) :
  Calls Try.prog 89 #[.slice none 0 0, .int .i64 n] w fun e w' => ∃ s c, e = .returned (.slice s 0 c) ∧ OwnInts w' w.heap.size (.slice s 0 c) [] ∧ Below w.heap.size w w' := by
 by_cases h0 : n = 0
 ·
  subst h0
  go_enter Try.func89, Try.ntmps89
  go_wp2
  go_ret
  exact ⟨none, 0, rfl, OwnInts.nil _ _, Below.refl _ _⟩
 ·
  obtain ⟨i0, hi, hz0, hz1, hz2⟩ := info_parts Try.infoInt
  have hrun : ∀ ty, (Builtin.append_ #[33, 3] ty #[.slice none 0 0, .int .i64 (n : Int)]).run Try.prog w = _ := fun ty => Go.Lib.run_append_nil_zeros w 33 3 ty 3 i0 (.int .i64 0) .i64 .i64 Try.underlying33 Try.underlying3 hi hz0 n (by omega) (by rw [hz1]; decide) (by omega) (by rw [hz2]; omega)
  have hg := grownCap_ge w n 0 3
  have hg2 := grownCap_le_maxLen w n 0 3 (by unfold maxLen; omega)
  generalize grownCap w n 0 3 = G at hrun hg hg2
  have hp : (0 : Int) < (n : Int) := by omega
  have hb : Below w.heap.size w (w.drew.alloc (.cells (Builtin.zeroCells (Value.int IntKind.i64 0).cells n ++ Builtin.zeroCells (Value.int IntKind.i64 0).cells (G - n)) 3)) := ((Below.refl _ _).drew).alloc (Nat.le_refl _) _
  have hown : OwnInts (w.drew.alloc (.cells (Builtin.zeroCells (Value.int IntKind.i64 0).cells n ++ Builtin.zeroCells (Value.int IntKind.i64 0).cells (G - n)) 3)) w.heap.size (.slice (some ⟨w.heap.size, 0, none⟩) 0 G) [] := by
   refine ⟨rfl, .inr ⟨w.heap.size, G, _, rfl, Nat.le_refl _, one_new _ _, Nat.zero_le _, hg2, ?_, rfl⟩⟩
   have hz : ∀ k, (Builtin.zeroCells (Value.int IntKind.i64 0).cells k).size = k := fun k => by
    simp [Builtin.zeroCells, Value.cells]
   rw [Array.size_append, hz, hz]
   omega
  have HOWN := Lib.hid hown
  have HB := Lib.hid hb
  clear hown hb hz0 hz1 hz2 hi
  go_enter Try.func89, Try.ntmps89
  go_wp2_with (at_builtin; refine Lib.wpList_append_run _ rfl _ _ _ _ rfl _ _ rfl rfl _ _ (hrun _) ?_)
  go_ret
  exact ⟨_, _, rfl, HOWN.out, HB.out⟩
def szP (n m : Nat) : Nat → Nat
 | 0 => 0
 | 1 => n
 | _ => n + m
def catP (l k : List Int) : Nat → List Int
 | 0 => []
 | 1 => l
 | _ => l ++ k
set_option maxHeartbeats 2000000 in
theorem concat_c (b0 : Nat) (sa sb : Option Addr) (n ca m cb : Nat) (l k : List Int) (w : World) (hb0 : w.heap[b0]? = some (.cells #[.slice sa n ca, .slice sb m cb] 33 (0, 0))) (hl : l.length = n) (hk : k.length = m) (hn : n < 1073741824) (hm : m < 1073741824)
  (hr : IsInts w sa n (gl l)) (hs : IsInts w sb m (gl k)) (hna : sa = none → n = 0 ∧ ca = 0) (hnb : sb = none → m = 0 ∧ cb = 0) :
  Calls Try.prog 48 #[.slice (some ⟨b0, 0, none⟩) 2 2] w fun e w' => ∃ s c, e = .returned (.slice s (n + m) c) ∧ OwnInts w' w.heap.size (.slice s (n + m) c) (l ++ k) ∧ Below w.heap.size w w' := by
 have HR := Lib.hid hr
 have HS := Lib.hid hs
 have HL := Lib.hid hl
 have HK := Lib.hid hk
 have HA := Lib.hid hna
 have HB := Lib.hid hnb
 have c0 : w.cell? ⟨b0, 0, none⟩ = some (.slice sa n ca) := block_cell hb0
 have c1 : w.cell? ⟨b0, 1, none⟩ = some (.slice sb m cb) := block_cell hb0
 have C0 := Lib.hid c0
 have C1 := Lib.hid c1
 have hbl := heap_lt hb0
 clear hr hl hs hk hna hnb hb0 c0 c1
 go_enter Try.func48, Try.ntmps48
 go_wp2_with fail
 go_loopg [3, 11] 2 (fun gg sv iv wr => ∃ (i : Nat) (t : Int), i + gg = 2 ∧ iv = .int .i64 i ∧ sv = .int .i64 t ∧ Hid (t = (szP n m i : Nat)) ∧ w = wr)
 case atStart => exact ⟨0, 0, rfl, rfl, rfl, Lib.hid rfl, rfl⟩
 case round =>
  obtain ⟨i, t, hi, rfl, rfl, HT, rfl⟩ := hrel
  have hi3 : i = 0 ∨ i = 1 ∨ i = 2 := by omega
  rcases hi3 with rfl | rfl | rfl
  ·
   have c0 := C0.out
   have ht : t = 0 := HT.out
   subst ht
   have hn0 : ¬ ((n : Int) < 0) := by omega
   go_wp2
   go_roundg 1
   case measure => omega
   case rel => exact ⟨1, n, rfl, rfl, by go_num, Lib.hid rfl, rfl⟩
  ·
   have c1 := C1.out
   have ht : t = (n : Int) := HT.out
   have hw : wrap64 (t + (m : Int)) = t + (m : Int) := by unfold wrap64; omega
   have hn0 : ¬ (t + (m : Int) < 0) := by omega
   clear ht
   go_wp2
   go_roundg 0
   case measure => omega
   case rel => exact ⟨2, _, rfl, rfl, rfl, Lib.hid (by rw [HT.out]; simp [szP]), rfl⟩
  ·
   go_wp2_with fail
   rw [show t = ((n + m : Nat) : Int) from HT.out]
   refine (grow_c (n + m) w (by omega)).mono ?_
   rintro e w2 ⟨s2, c2, rfl, ho2, hb2⟩
   have HO2 := Lib.hid ho2
   have HB2 := Lib.hid hb2
   clear ho2 hb2
   go_wp2_with fail
   have C02 := Lib.hid ((HB2.out.cell (p := ⟨b0, 0, none⟩) hbl).trans C0.out)
   have C12 := Lib.hid ((HB2.out.cell (p := ⟨b0, 1, none⟩) hbl).trans C1.out)
   have hsz2 := HB2.out.size
   go_loopg [6, 27] 2 (fun gg sv iv wr => ∃ (i : Nat) (s : Option Addr) (c : Nat), i + gg = 2 ∧ iv = .int .i64 i ∧ sv = .slice s (szP n m i) c ∧ OwnInts wr w.heap.size (.slice s (szP n m i) c) (catP l k i) ∧ Below w.heap.size w wr)
   case atStart => exact ⟨0, s2, c2, rfl, rfl, rfl, HO2.out, HB2.out⟩
   case round =>
    obtain ⟨i, s, c, hi, rfl, rfl, ho, hb⟩ := hrel
    have HO := Lib.hid ho
    have HBB := Lib.hid hb
    clear ho hb
    have hi3 : i = 0 ∨ i = 1 ∨ i = 2 := by omega
    rcases hi3 with rfl | rfl | rfl
    ·
     have c0 := (HBB.out.cell (p := ⟨b0, 0, none⟩) hbl).trans C0.out
     go_wp2_with (first | (at_builtin; refine wpList_append_onto rfl _ _ rfl w.heap.size _ _ l rfl HO.out sa n ca rfl HL.out.symm (HR.out.later HBB.out) HA.out (by show 0 + n < 4294967296; omega) HBB.out.size ?_; intro s' n' c' w' hn' ho' hg' hb'; have HN' := Lib.hid hn'; have HO' := Lib.hid ho'; have HB' := Lib.hid hb'; clear hn' ho' hg' hb'))
     go_roundg 1
     case measure => omega
     case rel =>
      have hn' := HN'.out
      have e : n' = szP n m 1 := by rw [hn']; simp [catP, szP]
      exact ⟨1, s', c', rfl, rfl, by rw [e], by rw [← e]; exact HO'.out, HBB.out.trans HB'.out⟩
    ·
     have c1 := (HBB.out.cell (p := ⟨b0, 1, none⟩) hbl).trans C1.out
     go_wp2_with (first | (at_builtin; refine wpList_append_onto rfl _ _ rfl w.heap.size _ _ k rfl HO.out sb m cb rfl HK.out.symm (HS.out.later HBB.out) HB.out (by show l.length + m < 4294967296; rw [HL.out]; omega) HBB.out.size ?_; intro s' n' c' w' hn' ho' hg' hb'; have HN' := Lib.hid hn'; have HO' := Lib.hid ho'; have HB' := Lib.hid hb'; clear hn' ho' hg' hb'))
     go_roundg 0
     case measure => omega
     case rel =>
      have hn' := HN'.out
      have e : n' = szP n m 2 := by rw [hn']; simp [catP, szP, HL.out]
      exact ⟨2, s', c', rfl, rfl, by rw [e], by rw [← e]; exact HO'.out, HBB.out.trans HB'.out⟩
    ·
     go_wp2
     go_ret
     exact ⟨s, c, rfl, HO.out, HBB.out⟩
theorem eql_nil (w : World) : (binOp .eql 33 (.slice none 0 0) (.slice none 0 0)).run Try.prog w = .ok (.bool true) w := by kernel_rfl
theorem eql_some (a : Addr) (n c : Nat) (w : World) : (binOp .eql 33 (.slice (some a) n c) (.slice none 0 0)).run Try.prog w = .ok (.bool false) w := by kernel_rfl
set_option maxRecDepth 100000 in
theorem clone_c (s : Option Addr) (len cap : Nat) (l : List Int) (w : World) (hl : l.length = len) (hlm : len < 1073741824) (hr : IsInts w s len (gl l)) (hn : s = none → len = 0 ∧ cap = 0) :
  Calls Try.prog 62 #[.slice s len cap] w fun e w' => ∃ s' c, e = .returned (.slice s' len c) ∧ OwnInts w' w.heap.size (.slice s' len c) l ∧ Below w.heap.size w w' := by
 have HR := Lib.hid hr
 have HL := Lib.hid hl
 have HN := Lib.hid hn
 clear hr hl hn
 go_enter Try.func62, Try.ntmps62
 cases s with
 | none =>
  obtain ⟨h0, h1⟩ := HN.out rfl
  subst h0; subst h1
  have hq := eql_nil w
  go_wp2
  go_ret
  have : l = [] := List.length_eq_zero_iff.1 HL.out
  subst this
  exact ⟨none, 0, rfl, OwnInts.nil _ _, Below.refl _ _⟩
 | some a =>
  have hq := eql_some a len cap w
  have ho : OwnInts (w.alloc (.cells #[] 3)) w.heap.size (.slice (some ⟨w.heap.size, 0, none⟩) 0 0) [] := ⟨rfl, .inr ⟨w.heap.size, 0, #[], rfl, Nat.le_refl _, one_new w _, Nat.zero_le _, Nat.zero_le _, rfl, rfl⟩⟩
  have hb : Below w.heap.size w (w.alloc (.cells #[] 3)) := (Below.refl _ _).alloc (Nat.le_refl _) _
  have HO := Lib.hid ho
  have HB := Lib.hid hb
  clear ho hb
  go_wp2_with (first | (at_builtin; refine wpList_append_onto rfl _ _ rfl w.heap.size _ _ l rfl HO.out (some a) len cap rfl HL.out.symm (HR.out.later HB.out) HN.out (by show 0 + len < 4294967296; omega) HB.out.size ?_; intro s' n' c' w' hn' ho' hg' hb'; have HN' := Lib.hid hn'; have HO' := Lib.hid ho'; have HB' := Lib.hid hb'; clear hn' ho' hg' hb'))
  go_ret
  have e : n' = len := by rw [HN'.out]; simp
  rw [← e]
  exact ⟨s', c', rfl, HO'.out, HB.out.trans HB'.out⟩
end Go.Proofs.Ytampjndfhpjheaa
namespace Go.Proofs.Ytampjndfhpjheaa
theorem pref_step (f : Nat) (r c : Int) (l : List Int) : prefP (f + 1) r c l = match (numP c l).2 with
 | [] => (0, 0, 0, [])
 | x :: t => if x = 34 then (match t with | [] => (0, 0, 0, []) | y :: u => if y = 0 then (2, 0, 0, []) else prefP f y (numP c l).1 u) else (1, r, (numP c l).1, x :: t) := rfl
theorem runN_len (n : Int) (l : List Int) : (runN n l).2.length ≤ l.length := by
 induction l generalizing n with
 | nil => exact Nat.le_refl _
 | cons x t ih =>
  unfold runN
  split
  · exact Nat.le_trans (ih _) (by simp)
  · exact Nat.le_refl _
theorem numP_len (c : Int) (l : List Int) : (numP c l).2.length ≤ l.length := by
 unfold numP
 split
 · exact Nat.le_refl _
 ·
  split
  · exact runN_len _ _
  · exact Nat.le_refl _
theorem runN_sub (n : Int) (l : List Int) : ∀ x ∈ (runN n l).2, x ∈ l := by
 induction l generalizing n with
 | nil => exact fun x hx => hx
 | cons y t ih =>
  unfold runN
  split
  · exact fun x hx => List.mem_cons_of_mem _ (ih _ x hx)
  · exact fun x hx => hx
theorem numP_sub (c : Int) (l : List Int) : ∀ x ∈ (numP c l).2, x ∈ l := by
 unfold numP
 split
 · exact fun x hx => hx
 ·
  split
  · exact runN_sub _ _
  · exact fun x hx => hx
theorem runN_bd {n : Int} (h0 : 0 ≤ n) (h1 : n ≤ 9999) (l : List Int) : 0 ≤ (runN n l).1 ∧ (runN n l).1 ≤ 9999 := by
 induction l generalizing n with
 | nil => exact ⟨h0, h1⟩
 | cons y t ih =>
  unfold runN
  split
  ·
   rename_i hd
   unfold digB at hd
   rw [Bool.and_eq_true, decide_eq_true_eq, decide_eq_true_eq] at hd
   exact ih (by omega) (by omega)
  · exact ⟨h0, h1⟩
theorem numP_bd {c : Int} (h0 : 0 ≤ c) (h1 : c ≤ 9999) (l : List Int) : 0 ≤ (numP c l).1 ∧ (numP c l).1 ≤ 9999 := by
 unfold numP
 split
 · exact ⟨h0, h1⟩
 ·
  split
  ·
   rename_i x t _
   have := runN_bd (n := 0) (by omega) (by omega) (x :: t)
   refine ⟨?_, by omega⟩
   have h2 : 0 ≤ max c 1 * (runN 0 (x :: t)).1 := Int.mul_nonneg (by omega) this.1
   omega
  · exact ⟨h0, h1⟩
theorem pref_fuel : ∀ (f g : Nat) (r c : Int) (l : List Int), l.length < f → l.length < g → prefP f r c l = prefP g r c l
 | 0, _, _, _, _, h, _ => by omega
 | _ + 1, 0, _, _, _, _, h => by omega
 | f + 1, g + 1, r, c, l, hf, hg => by
  rw [pref_step, pref_step]
  have hl := numP_len c l
  generalize numP c l = q at hl
  obtain ⟨c2, l2⟩ := q
  match l2, hl with
  | [], _ => rfl
  | x :: t, hl =>
   simp only
   split
   ·
    match t, hl with
    | [], _ => rfl
    | y :: u, hl =>
     simp only
     split
     · rfl
     ·
      simp at hl
      exact pref_fuel f g y c2 u (by omega) (by omega)
   · rfl
end Go.Proofs.Ytampjndfhpjheaa
namespace Go.Proofs.Ytampjndfhpjheaa
open Go.RowKit
end Go.Proofs.Ytampjndfhpjheaa
namespace Go.Proofs.Ytampjndfhpjheaa
abbrev TrieS := List (List Int × Int)
def TrieOk (S : TrieS) : Prop := (∀ r ∈ S, r.1 ≠ []) ∧ S.Pairwise (fun a b => ¬ a.1 <+: b.1 ∧ ¬ b.1 <+: a.1)
def preB (S : TrieS) (p : List Int) : Bool := S.any (fun r => p.isPrefixOf r.1)
def valO (S : TrieS) (p : List Int) : Option Int := (S.find? (fun r => r.1 == p)).map (·.2)
def lookS (S : TrieS) (p : List Int) : Int × Nat :=
 match S.find? (fun r => p.isPrefixOf r.1) with
 | none => (0, 2)
 | some r => if r.1.length = p.length then (r.2, 1) else (0, 0)
def putB (S : TrieS) (p : List Int) : Bool := !p.isEmpty && S.all (fun r => !r.1.isPrefixOf p && !p.isPrefixOf r.1)
theorem preB_iff {S : TrieS} {p : List Int} : preB S p = true ↔ ∃ r ∈ S, p <+: r.1 := by
 unfold preB
 rw [List.any_eq_true]
 constructor
 · rintro ⟨r, h1, h2⟩; exact ⟨r, h1, List.isPrefixOf_iff_prefix.1 h2⟩
 · rintro ⟨r, h1, h2⟩; exact ⟨r, h1, List.isPrefixOf_iff_prefix.2 h2⟩
theorem preB_less {S : TrieS} {p q : List Int} (h : preB S q = true) (hp : p <+: q) : preB S p = true := by
 obtain ⟨r, h1, h2⟩ := preB_iff.1 h
 exact preB_iff.2 ⟨r, h1, hp.trans h2⟩
theorem trie_only {S : TrieS} (h : TrieOk S) {r s : List Int × Int} (hr : r ∈ S) (hs : s ∈ S) (hp : r.1 <+: s.1) : r = s := by
 induction S with
 | nil => cases hr
 | cons a l ih =>
  have hpw := List.pairwise_cons.1 h.2
  have hl : TrieOk l := ⟨fun x hx => h.1 x (List.mem_cons_of_mem _ hx), hpw.2⟩
  rcases List.mem_cons.1 hr with rfl | hr'
  ·
   rcases List.mem_cons.1 hs with rfl | hs'
   · rfl
   · exact absurd hp (hpw.1 s hs').1
  ·
   rcases List.mem_cons.1 hs with rfl | hs'
   · exact absurd hp (hpw.1 r hr').2
   · exact ih hl hr' hs'
theorem lookS_done {S : TrieS} (h : TrieOk S) {r : List Int × Int} (hr : r ∈ S) : lookS S r.1 = (r.2, 1) := by
 unfold lookS
 cases hf : S.find? (fun x => r.1.isPrefixOf x.1) with
 | none =>
  have := List.find?_eq_none.1 hf r hr
  simp at this
 | some x =>
  have h1 := List.mem_of_find?_eq_some hf
  have h2 := List.find?_some hf
  have := trie_only h hr h1 (List.isPrefixOf_iff_prefix.1 h2)
  subst this
  simp
theorem lookS_more {S : TrieS} {p : List Int} (h1 : preB S p = true) (h2 : ∀ r ∈ S, r.1 ≠ p) : lookS S p = (0, 0) := by
 unfold lookS
 cases hf : S.find? (fun x => p.isPrefixOf x.1) with
 | none =>
  obtain ⟨r, hr, hp⟩ := preB_iff.1 h1
  have := List.find?_eq_none.1 hf r hr
  exact absurd (List.isPrefixOf_iff_prefix.2 hp) this
 | some x =>
  have h3 := List.mem_of_find?_eq_some hf
  have h4' := List.find?_some hf
  have h4 := List.isPrefixOf_iff_prefix.1 h4'
  have h5 : x.1.length ≠ p.length := fun e => h2 x h3 (h4.eq_of_length e.symm).symm
  simp [h5]
theorem lookS_bad {S : TrieS} {p : List Int} (h : preB S p = false) : lookS S p = (0, 2) := by
 unfold lookS
 have : S.find? (fun x => p.isPrefixOf x.1) = none := by
  rw [List.find?_eq_none]
  intro x hx hp
  have : preB S p = true := preB_iff.2 ⟨x, hx, List.isPrefixOf_iff_prefix.1 hp⟩
  rw [this] at h; cases h
 rw [this]
theorem TrieOk.put {S : TrieS} (h : TrieOk S) {p : List Int} (v : Int) (hp : putB S p = true) : TrieOk (S ++ [(p, v)]) := by
 unfold putB at hp
 rw [Bool.and_eq_true, List.all_eq_true] at hp
 have hne : p ≠ [] := fun e => by rw [e] at hp; simp at hp
 refine ⟨fun r hr => ?_, List.pairwise_append.2 ⟨h.2, List.pairwise_singleton _ _, fun a ha b hb => ?_⟩⟩
 ·
  rcases List.mem_append.1 hr with h1 | h1
  · exact h.1 r h1
  · rw [List.mem_singleton.1 h1]; exact hne
 ·
  rw [List.mem_singleton.1 hb]
  have := hp.2 a ha
  rw [Bool.and_eq_true] at this
  constructor
  · intro e; rw [List.isPrefixOf_iff_prefix.2 e] at this; exact absurd this.1 (by decide)
  · intro e; rw [List.isPrefixOf_iff_prefix.2 e] at this; exact absurd this.2 (by decide)
theorem preB_put {S : TrieS} {p q : List Int} (v : Int) : preB (S ++ [(p, v)]) q = (preB S q || q.isPrefixOf p) := by
 unfold preB; simp
end Go.Proofs.Ytampjndfhpjheaa
namespace Go.Proofs.Ytampjndfhpjheaa
open Go.RowKit
structure QuietD where
 g : Nat
 n : Nat
 c : Nat
 l : List Int
def qval (q : QuietD) : Value := .slice (some ⟨q.g, 0, none⟩) q.n q.c
def QOk (w : World) (q : QuietD) : Prop := OwnInts w 0 (qval q) q.l
theorem QOk.lt {w : World} {q : QuietD} (h : QOk w q) : q.g < w.heap.size := (World.ownsRow.lt h q.g rfl).2
def OwnQ (w : World) (base : Nat) (v : Value) (qs : List QuietD) : Prop := w.ownsRow base 33 1 v qs.length (qs.map qval)
theorem QOk.kept {w w' : World} {q : QuietD} (hk : QOk w q) (e : w'.heap[q.g]? = w.heap[q.g]?) : QOk w' q :=
 OwnInts.kept hk (fun b _ he => by
  have : q.g = b := by simpa [qval, Value.ownBlock] using he
  subst this; exact e)
theorem own_kept {w w' : World} {base : Nat} {e : TypeId} {size n : Nat} {v : Value} {xs : List Value} (h : w.ownsRow base e size v n xs) (k : ∀ b, v.ownBlock = some b → w'.heap[b]? = w.heap[b]?) : w'.ownsRow base e size v n xs := by
 refine ⟨h.1, ?_⟩
 rcases h.2 with hn | ⟨g, cap, cur, rfl, hg, hgg, rest⟩
 · exact .inl hn
 · exact .inr ⟨g, cap, cur, rfl, hg, (k g rfl).trans hgg, rest⟩
theorem OwnQ.cell {w : World} {base : Nat} {s : Option Addr} {n c : Nat} {qs : List QuietD} (h : OwnQ w base (.slice s n c) qs) {i : Nat} (hi : i < qs.length) : ∃ g, s = some ⟨g, 0, none⟩ ∧ w.cell? ⟨g, i, none⟩ = some (qval qs[i]) := by
 have h' := h
 unfold OwnQ at h'
 rcases h.2 with ⟨h1, h2⟩ | ⟨g, cap, cur, h1, hg, hgg, _⟩
 · omega
 ·
  obtain ⟨rfl, rfl, rfl⟩ := Value.slice.inj h1
  refine ⟨g, rfl, ?_⟩
  rw [World.ownsRow.cellAt h' i (by omega), List.getElem?_map, List.getElem?_eq_getElem hi]; rfl
structure RTrie (w : World) (B r : Nat) (S : TrieS) (sR : Option Addr) (cR : Nat) (sV : Option Addr) (cV : Nat) (qs : List QuietD) : Prop where
 blk : w.heap[r]? = some (.cells #[.slice sR S.length cR, .slice sV S.length cV] 35 (0, 0))
 rows : OwnQ w B (.slice sR S.length cR) qs
 vals : OwnInts w B (.slice sV S.length cV) (S.map (·.2))
 len : qs.length = S.length
 each : ∀ i (hi : i < qs.length) (hj : i < S.length), QOk w qs[i] ∧ qs[i].n = S[i].1.length ∧ qs[i].l = S[i].1
theorem qok_list {w : World} {q : QuietD} (h : QOk w q) : IsInts w (some ⟨q.g, 0, none⟩) q.n (gl q.l) := by
 unfold QOk qval at h
 exact h.is
theorem begB_pre {l k : List Int} : begB (gl l) l.length (gl k) k.length = k.isPrefixOf l := by
 rw [Bool.eq_iff_iff, List.isPrefixOf_iff_prefix]
 unfold begB
 rw [decide_eq_true_iff]
 have hk : lst (gl k) k.length = k := lst_get k
 rw [hk]
 constructor
 ·
  rintro ⟨h1, h2⟩
  rw [← h2]
  refine ⟨l.drop k.length, ?_⟩
  have : lst (gl l) k.length = l.take k.length := by
   apply List.ext_getElem
   · simp [lst]; omega
   ·
    intro i h3 h4
    simp [lst] at h3
    simp [lst, gl, List.getElem?_eq_getElem (show i < l.length by omega)]
  rw [this, List.take_append_drop]
 ·
  rintro ⟨t, rfl⟩
  refine ⟨by simp, ?_⟩
  apply List.ext_getElem
  · simp [lst]
  ·
   intro i h3 h4
   simp [lst] at h3
   simp [lst, gl, List.getElem?_append_left h3, List.getElem?_eq_getElem h3]
end Go.Proofs.Ytampjndfhpjheaa
