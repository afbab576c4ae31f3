/- Plain: the document's Spell is the speller's. No program. Contracts of the document's side of chapter 13: isDigit, times, Selects, less. Conditions: lists of fewer than 2^30. Contracts of the document's side of chapter 13: command. No condition. Contracts of the document's side: prefixes, endsInNumber. Condition: lists of fewer than 2^30. Contracts of the document's side of chapter 13: meets. Condition: lists of fewer than 2^30. Contract: tables.read. Condition: fewer than 2^62 keys. -/
import Derived.Deep.DeepCutAuto
import Derived.Test.YtampjndfhpjheaaQBa
import Derived.Test.YtampjndfhpjheaaQBe
import Derived.Test.YtampjndfhpjheaaQAo
import Derived.Test.YtampjndfhpjheaaQAd
import Derived.Test.YtampjndfhpjheaaQAp
import Derived.Test.YtampjndfhpjheaaQAq
import Derived.Test.YtampjndfhpjheaaQAr
import Derived.Test.YtampjndfhpjheaaQAs
import Derived.Test.YtampjndfhpjheaaQAt
import Derived.Test.YtampjndfhpjheaaQAu
import Derived.Test.YtampjndfhpjheaaQAv
import Derived.Test.YtampjndfhpjheaaQAw
namespace Go.Proofs.Ytampjndfhpjheaa
set_option linter.unusedVariables false
theorem cand_form2 {sel : Bool} {c : Cmd} {h r : List Int} (hh : h ∈ headsP c) (hr : r ∈ rowsP sel c) (h1 : (readP sel (h ++ r)).1 = 1) : ∃ ts k k' a b b', HeadT ts h ∧ Form sel (h ++ r) ts r k [] k' a b b' := by
 obtain ⟨ts, ht⟩ := heads_tok hh
 have hx : ∃ x u, r = x :: u ∧ dig1B x = false ∧ x ≠ 34 := by
  rcases rows_text hr with ⟨k, k', a, b, b', h⟩ | ⟨b, hm, _⟩
  ·
   obtain ⟨x, u, e, h2, h3⟩ := df_of (top_df sel) h.mem
   exact ⟨x, u ++ ([] ++ (k' ++ a)), by rw [h.eq, e]; rfl, h2, h3⟩
  · exact df_of (top_df sel) hm
 obtain ⟨x, u, rfl, hx1, hx34⟩ := hx
 have hhead : Head (endN false ts) (x :: u) := by
  refine ⟨x, u, rfl, hx34, hx1, fun he => ?_⟩
  refine Bool.eq_false_iff.2 fun hdx => ?_
  have h48 : x = 48 := by
   unfold digB at hdx
   unfold dig1B at hx1
   simp only [Bool.and_eq_true, decide_eq_true_eq, Bool.and_eq_false_iff, decide_eq_false_iff_not] at hdx hx1
   omega
  subst h48
  have hu : u = [] := by
   rcases rows_text hr with ⟨k, k', a, b, b', h⟩ | ⟨b, hm, ho⟩
   ·
    obtain ⟨y, v, e, _, _⟩ := df_of (top_df sel) h.mem
    have h2 := h.eq
    rw [e] at h2
    injection h2 with e1 e2
    subst e1
    have hm := h.mem
    rw [e] at hm
    obtain ⟨hv, hown, hmore⟩ := zero_of (top_zero sel) hm
    subst hv
    rcases h.way with ⟨_, _, hk', hb'⟩ | ⟨h3, _⟩
    ·
     subst hk'
     subst hb'
     rcases h.arg with ⟨h4, _⟩ | ⟨_, ha⟩
     · rw [hmore] at h4; cases h4
     · rw [e2, ha]; rfl
    · exact absurd hown h3
   · exact absurd (zero_of (top_zero sel) hm).2.1 ho
  subst hu
  obtain ⟨ts', hok, hf⟩ := ht.zero he
  have h2 := pref_more ts' ((h ++ [48]).length + 1) 0 0 (h ++ [48]) hok (by rw [hf]; exact List.prefix_refl _) (Nat.lt_succ_self _)
  unfold readP at h1
  rw [h2] at h1
  cases h1
 rcases rows_text hr with ⟨k, k', a, b, b', h⟩ | ⟨b, hm, ho⟩
 · exact ⟨ts, k, k', a, b, b', ht, ht.ok, hhead, h, by rw [ht.flat]⟩
 ·
  have h2 := pref_of ts ((h ++ x :: u).length + 1) 0 0 (x :: u) ht.ok hhead (by rw [ht.flat]; exact Nat.lt_succ_self _)
  rw [ht.flat] at h2
  rw [read_row' h2, row_own0 (look_hit (top_pf sel) hm (List.prefix_refl _)) ho (s := 0) (by rw [List.drop_length, show (numP _ []).2 = [] from rfl, beh_nil]) (by decide)] at h1
  cases h1
def AccD (sel : Bool) (c : Cmd) (l : List Int) : Prop := l.contains 27 = false ∧ readD sel l = (1, c)
def lessD (best : Option (List Int)) (keys : List Int) : Bool := match best with | none => true | some b => betterB keys b
def tryD (sel : Bool) (c : Cmd) (best : Option (List Int)) (keys : List Int) : Option (List Int) :=
 if keys.contains 27 = true then best else if lessD best keys = false then best else if readD sel keys = (1, c) then some keys else best
theorem try_accD {sel : Bool} {c : Cmd} {best : Option (List Int)} {l : List Int} (h : AccD sel c l) : tryD sel c best l = match best with | none => some l | some b => if betterB l b then some l else some b := by
 unfold tryD
 rw [if_neg (by rw [h.1]; decide)]
 cases best with
 | none =>
  show (if true = false then none else if readD sel l = (1, c) then some l else none) = some l
  rw [if_neg (by decide), if_pos h.2]
 | some b =>
  show (if betterB l b = false then some b else if readD sel l = (1, c) then some l else some b) = if betterB l b = true then some l else some b
  rw [if_pos h.2]
  cases betterB l b
  · rw [if_pos rfl, if_neg (by decide)]
  · rw [if_neg (by decide), if_pos rfl]
theorem try_rejD {sel : Bool} {c : Cmd} {best : Option (List Int)} {l : List Int} (h : ¬ AccD sel c l) : tryD sel c best l = best := by
 unfold tryD
 split
 · rfl
 ·
  rename_i h1
  split
  · rfl
  ·
   split
   ·
    rename_i h2
    exact absurd ⟨by simpa using h1, h2⟩ h
   · rfl
theorem fold_bestD (sel : Bool) (c : Cmd) : ∀ (L : List (List Int)) (best : Option (List Int)),
  (∀ b, L.foldl (tryD sel c) best = some b → (b ∈ L ∧ AccD sel c b) ∨ best = some b) ∧
  (∀ x, (x ∈ L ∧ AccD sel c x) ∨ best = some x → ∃ b, L.foldl (tryD sel c) best = some b ∧ betterB x b = false) := by
 intro L
 induction L with
 | nil => exact fun best => ⟨fun b h => .inr h, fun x h => by
   rcases h with ⟨h, _⟩ | h
   · cases h
   · exact ⟨x, h, better_irr x⟩⟩
 | cons y L ih =>
  intro best
  rw [List.foldl_cons]
  obtain ⟨i1, i2⟩ := ih (tryD sel c best y)
  by_cases hy : AccD sel c y
  ·
   have ht := try_accD (best := best) hy
   refine ⟨fun b hb => ?_, fun x hx => ?_⟩
   ·
    rcases i1 b hb with ⟨h1, h2⟩ | h1
    · exact .inl ⟨List.mem_cons_of_mem _ h1, h2⟩
    ·
     rw [ht] at h1
     cases best with
     | none => injection h1 with h1; subst h1; exact .inl ⟨List.mem_cons_self .., hy⟩
     | some z =>
      simp only at h1
      split at h1
      · injection h1 with h1; subst h1; exact .inl ⟨List.mem_cons_self .., hy⟩
      · exact .inr h1
   ·
    have hkey : ∃ z, tryD sel c best y = some z ∧ betterB y z = false ∧ (∀ b0, best = some b0 → betterB b0 z = false) := by
     rw [ht]
     cases best with
     | none => exact ⟨y, rfl, better_irr y, fun b0 h => by cases h⟩
     | some b0 =>
      simp only
      by_cases hb : betterB y b0 = true
      ·
       rw [if_pos hb]
       refine ⟨y, rfl, better_irr y, fun b1 h => ?_⟩
       injection h with h; subst h
       refine Bool.eq_false_iff.2 fun e => ?_
       have := better_trans e hb
       rw [better_irr] at this; cases this
      ·
       rw [if_neg hb]
       exact ⟨b0, rfl, by simpa using hb, fun b1 h => by injection h with h; subst h; exact better_irr _⟩
    obtain ⟨z, hz1, hz2, hz3⟩ := hkey
    have hlift : ∀ u, betterB u z = false → ∃ b, L.foldl (tryD sel c) (tryD sel c best y) = some b ∧ betterB u b = false := fun u hu => by
     obtain ⟨b, hb1, hb2⟩ := i2 z (.inr hz1)
     refine ⟨b, hb1, Bool.eq_false_iff.2 fun e => ?_⟩
     rcases better_total hb2 with hzb | hzb
     · have := better_trans e hzb; rw [hu] at this; cases this
     · rw [hzb, hu] at e; cases e
    rcases hx with ⟨hx, hxa⟩ | hx
    ·
     rcases List.mem_cons.1 hx with rfl | hx
     · exact hlift x hz2
     · exact i2 x (.inl ⟨hx, hxa⟩)
    · exact hlift x (hz3 x hx)
  ·
   rw [try_rejD hy] at i1 i2 ⊢
   refine ⟨fun b hb => ?_, fun x hx => ?_⟩
   ·
    rcases i1 b hb with ⟨h1, h2⟩ | h1
    · exact .inl ⟨List.mem_cons_of_mem _ h1, h2⟩
    · exact .inr h1
   ·
    rcases hx with ⟨hx, hxa⟩ | hx
    ·
     rcases List.mem_cons.1 hx with rfl | hx
     · exact absurd hxa hy
     · exact i2 x (.inl ⟨hx, hxa⟩)
    · exact i2 x (.inr hx)
def wholeD (k : List Int) (b : Bd) (arg : Int) : List Int := if b.more then k ++ [arg] else k
def rowC (c : Cmd) (x : List Int × Bd) : List (List Int) :=
 if x.2.verb ≠ c.verb then [] else [regK c.reg ++ (digitsP 5 c.count [] ++ wholeD x.1 x.2 c.arg), digitsP 5 c.count [] ++ (regK c.reg ++ wholeD x.1 x.2 c.arg)]
def tailC (c : Cmd) (k : List Int) (y : List Int × Bd) : List (List Int) :=
 if y.2.move ≠ c.move ∧ (y.2.move ≠ 33 ∨ c.move ≠ 18) then [] else
 [regK c.reg ++ (digitsP 5 c.count [] ++ (k ++ wholeD y.1 y.2 c.arg)), digitsP 5 c.count [] ++ (regK c.reg ++ (k ++ wholeD y.1 y.2 c.arg)), regK c.reg ++ (k ++ (digitsP 5 c.count [] ++ wholeD y.1 y.2 c.arg))]
def opsC (c : Cmd) (x : List Int × Bd) : List (List Int) := if x.2.verb ≠ c.verb then [] else (docD x).flatMap (tailC c x.1)
def candsD (sel : Bool) (c : Cmd) : List (List Int) := (docR sel).flatMap (rowC c) ++ (docO sel).flatMap (opsC c)
def spellD (sel : Bool) (c : Cmd) : Option (List Int) := if c.count < 0 ∨ 9999 < c.count then none else (candsD sel c).foldl (tryD sel c) none
theorem whole_eq {k a : List Int} {b : Bd} {c : Cmd} (h : argOk b a) (hc : c.arg = if b.more then a.headD 0 else b.arg) : wholeD k b c.arg = k ++ a := by
 unfold wholeD
 rcases h with ⟨h1, h2⟩ | ⟨h1, rfl⟩
 ·
  obtain ⟨x, rfl⟩ := List.length_eq_one_iff.1 h2
  rw [hc, h1]; rfl
 · rw [h1]; simp
theorem cand_in {sel : Bool} {c : Cmd} {l : List Int} (hm : l ∈ candsP sel c) (ha : Acc sel c l) : l ∈ candsD sel c ∧ AccD sel c l ∧ 0 ≤ c.count ∧ c.count ≤ 9999 := by
 obtain ⟨r, hr, hl⟩ := List.mem_flatMap.1 hm
 obtain ⟨h, hh, rfl⟩ := List.mem_map.1 hl
 obtain ⟨ts, k, k', a, b, b', ht, hf⟩ := cand_form2 hh hr (by rw [ha.2])
 have hc : c = cmdOf (effs (0, 0) ts).1 (cntD (effs (0, 0) ts).2 []) b.verb b' a := by
  have h2 := hf.read []
  rw [List.append_nil, ha.2] at h2
  exact (Prod.mk.inj h2).2
 have hcb := cnt_bd hf.ok (d := []) (.inl rfl)
 have hcnt : c.count = cntD (effs (0, 0) ts).2 [] := by rw [hc]; rfl
 have hverb : b.verb = c.verb := by rw [hc]; rfl
 have harg : c.arg = if b'.more then a.headD 0 else b'.arg := by rw [hc]; rfl
 have hmove : c.move = if b'.move = 33 ∧ 0 < c.count then 18 else b'.move := by rw [hcnt, hc]; rfl
 refine ⟨?_, ⟨ha.1, ?_⟩, by rw [hcnt]; exact hcb.1, by rw [hcnt]; exact hcb.2.1⟩
 ·
  rw [heads_eq] at hh
  simp only [List.mem_cons, List.not_mem_nil, or_false] at hh
  have hw := whole_eq (k := k') hf.text.arg harg
  unfold candsD
  rcases hf.text.way with ⟨ho, _, hk', hb'⟩ | ⟨ho, _, hk, _⟩
  ·
   have hR := ((docT sel).r (k, b)).2 ⟨hf.text.mem, ho⟩
   refine List.mem_append.2 (.inl (List.mem_flatMap.2 ⟨(k, b), hR, ?_⟩))
   unfold rowC
   rw [if_neg (fun e => e hverb)]
   have e : r = k ++ a := by have := hf.text.eq; rw [hk'] at this; simpa using this
   have hw2 : wholeD k b c.arg = r := by rw [e]; rw [hb'] at harg; have hx := hf.text.arg; rw [hb'] at hx; exact whole_eq hx harg
   simp only [hw2, List.mem_cons, List.not_mem_nil, or_false, ← List.append_assoc]
   rcases hh with rfl | rfl
   · exact .inl rfl
   · exact .inr rfl
  ·
   have hO := ((docT sel).o (k, b)).2 ⟨hf.text.mem, ho⟩
   have hD := ((docT sel).d _ hO _).2 hk
   refine List.mem_append.2 (.inr (List.mem_flatMap.2 ⟨(k, b), hO, ?_⟩))
   unfold opsC
   rw [if_neg (fun e => e hverb)]
   refine List.mem_flatMap.2 ⟨(k', b'), hD, ?_⟩
   unfold tailC
   rw [if_neg]
   ·
    have e : r = k ++ (k' ++ a) := by have := hf.text.eq; simpa using this
    rw [hw, ← e]
    simp only [List.mem_cons, List.not_mem_nil, or_false, ← List.append_assoc]
    rcases hh with rfl | rfl
    · exact .inl rfl
    · exact .inr (.inl rfl)
   ·
    rintro ⟨h1, h2⟩
    split at hmove
    ·
     rename_i h3
     rcases h2 with h2 | h2
     · exact h2 h3.1
     · exact h2 hmove
    · exact h1 hmove.symm
 ·
  obtain ⟨ts2, t2, k2, d2, k2', a2, b2, b2', hf2, hv⟩ := readD_1 (readD_of hf)
  rw [hv]
  have h2 := hf2.read []
  rw [List.append_nil, ha.2] at h2
  exact h2.symm
theorem acc_fed {mode : Int} {c : Cmd} {l : List Int} (h : AccD (selP mode) c l) : fedP mode l = (c, 1) := by
 obtain ⟨ts, t, k, d, k', a, b, b', hf, hv⟩ := readD_1 (sel := selP mode) (l := l) (by rw [h.2])
 have hne : l ≠ [] := by
  obtain ⟨x, u, e, _⟩ := df_of (top_df _) hf.text.mem
  rw [hf.eq, hf.text.eq, e]
  simp
 have hr : readP (selP mode) l = (1, c) := by
  have h2 := hf.read []
  rw [List.append_nil] at h2
  rw [h2, ← hv]; exact h.2
 refine (fed_whole hne (fun e => ?_) (fun q h1 h2 _ => by rw [hf.more h1 h2])).trans (by rw [hr]; rfl)
 have h2 := h.1
 rw [List.contains_iff_mem.2 e] at h2
 cases h2
theorem spell_law (mode : Int) (c : Cmd) : spellD (selP mode) c = spellP (selP mode) c := by
 have hfb := fold_bestD (selP mode) c (candsD (selP mode) c) none
 have hfp := fold_best (selP mode) c (candsP (selP mode) c) none
 cases hs : spellP (selP mode) c with
 | none =>
  unfold spellD
  split
  · rfl
  ·
   cases hd : (candsD (selP mode) c).foldl (tryD (selP mode) c) none with
   | none => rfl
   | some l =>
    rcases hfb.1 l hd with ⟨_, h1⟩ | h1
    ·
     obtain ⟨best, h2, _⟩ := least_law (acc_fed h1)
     rw [hs] at h2; cases h2
    · cases h1
 | some l =>
  rcases hfp.1 l hs with ⟨h1, h2⟩ | h1
  ·
   obtain ⟨h3, h4, h5, h6⟩ := cand_in h1 h2
   obtain ⟨best, h7, h8⟩ := hfb.2 l (.inl ⟨h3, h4⟩)
   unfold spellD
   rw [if_neg (by omega), h7]
   rcases hfb.1 best h7 with ⟨_, h9⟩ | h9
   ·
    obtain ⟨l2, h10, h11, _⟩ := least_law (acc_fed h9)
    rw [hs] at h10
    injection h10 with e
    subst e
    rcases better_total h8 with h12 | h12
    · rw [h11] at h12; cases h12
    · rw [h12]
   · cases h9
  · cases h1
end Go.Proofs.Ytampjndfhpjheaa
namespace Go.Proofs.Ytampjndfhpjheaa
open Go.RowKit
set_option linter.unusedVariables false
set_option linter.unusedSimpArgs false
theorem isDigit_c (x : Int) (w : World) : Calls Try.prog 95 #[.int .i64 x] w fun e w' => e = .returned (.bool (digB x)) ∧ w' = w := by
 by_cases h1 : 48 ≤ x
 ·
  by_cases h2 : x ≤ 57
  ·
   have hd : digB x = true := by unfold digB; rw [decide_eq_true h1, decide_eq_true h2]; rfl
   rw [hd]
   go_enter Try.func95, Try.ntmps95
   go_wp2
   go_ret
   exact ⟨by simp [h1, h2], rfl⟩
  ·
   have hd : digB x = false := by unfold digB; rw [decide_eq_true h1, decide_eq_false h2]; rfl
   rw [hd]
   go_enter Try.func95, Try.ntmps95
   go_wp2
   go_ret
   exact ⟨by simp [h1, h2], rfl⟩
 ·
  have hd : digB x = false := by unfold digB; rw [decide_eq_false h1]; rfl
  rw [hd]
  go_enter Try.func95, Try.ntmps95
  go_wp2
  go_ret
  exact ⟨by simp [h1], rfl⟩
theorem selects_c (mode : Int) (w : World) : Calls Try.prog 18 #[.int .i64 mode] w fun e w' => e = .returned (.bool (selP mode)) ∧ w' = w := by
 go_enter Try.func18, Try.ntmps18
 by_cases h3 : mode = 3
 ·
  subst h3
  go_wp2
  go_ret
  exact ⟨rfl, rfl⟩
 ·
  have e3 : (mode == 3) = false := by rw [beq_eq_false_iff_ne]; exact h3
  by_cases h4 : mode = 4
  ·
   subst h4
   go_wp2
   go_ret
   exact ⟨rfl, rfl⟩
  ·
   have e4 : (mode == 4) = false := by rw [beq_eq_false_iff_ne]; exact h4
   have hs : selP mode = false := by unfold selP; rw [decide_eq_false h3, decide_eq_false h4]; rfl
   have HS := Lib.hid hs
   clear hs
   go_wp2
   go_ret
   refine ⟨?_, rfl⟩
   rw [HS.out]; rfl
theorem times_c (c n : Int) (h0 : 0 ≤ c) (h1 : c ≤ 9999) (n0 : 0 ≤ n) (n1 : n ≤ 9999) (w : World) : Calls Try.prog 103 #[.int .i64 c, .int .i64 n] w fun e w' => e = .returned (.int .i64 (min (max c 1 * n) 9999)) ∧ w' = w := by
 by_cases hc : c = 0
 ·
  have hv : min (max c 1 * n) 9999 = n := by
   have : max c 1 = 1 := by omega
   rw [this, Int.one_mul]; omega
  rw [hv]
  subst hc
  clear hv
  go_enter Try.func103, Try.ntmps103
  go_wp2
  go_ret
  exact ⟨rfl, rfl⟩
 ·
  have hv : max c 1 = c := by omega
  rw [hv]
  have hc2 : (c == 0) = false := by rw [beq_eq_false_iff_ne]; exact hc
  have hm0 : 0 ≤ c * n := Int.mul_nonneg h0 n0
  have hm1 : c * n ≤ 9999 * 9999 := Int.mul_le_mul h1 n1 n0 (by decide)
  have wl : ∀ m : Int, 0 ≤ m → m ≤ 9999 * 9999 → wrap64 m = m := by intro m; unfold wrap64; omega
  have hw2 : wrap64 (c * n) = c * n := wl _ hm0 hm1
  clear wl
  go_enter Try.func103, Try.ntmps103
  by_cases hm : c * n < 9999
  ·
   have e : min (c * n) 9999 = c * n := by omega
   rw [e]
   clear e
   have hm2 : wrap64 (c * n) < 9999 := by rw [hw2]; exact hm
   go_wp2
   go_ret
   exact ⟨by simp [hw2], rfl⟩
  ·
   have e : min (c * n) 9999 = 9999 := by omega
   rw [e]
   clear e
   have hm2 : ¬ wrap64 (c * n) < 9999 := by rw [hw2]; exact hm
   go_wp2
   go_ret
   exact ⟨by simp [hw2], rfl⟩
theorem betterB_lt {a b : List Int} (h : a.length ≠ b.length) : betterB a b = decide (a.length < b.length) := by
 unfold betterB
 rw [decide_eq_false (p := a.length = b.length) h, Bool.false_and, Bool.or_false]
theorem betterB_ne {a b : List Int} {k : Nat} (h : ∀ j, j < k → gl a j = gl b j) (hk : k < a.length) (hl : a.length = b.length) (hne : gl a k ≠ gl b k) : betterB a b = decide (gl a k < gl b k) := by
 have h1 := shortB_ne (a := b) (b := a) (fun j hj => (h j hj).symm) (by omega) hl.symm (fun e => hne e.symm)
 unfold shortB at h1
 have h2 : betterB a b = !decide (gl b k < gl a k) := by rw [← h1, Bool.not_not]
 rw [h2]
 by_cases e : gl a k < gl b k
 · rw [decide_eq_true e, decide_eq_false (by omega)]; rfl
 · rw [decide_eq_false e, decide_eq_true (by omega)]; rfl
theorem betterB_eq {a b : List Int} (h : ∀ j, j < a.length → gl a j = gl b j) (hl : a.length = b.length) : betterB a b = false := by
 have h1 := shortB_eq (a := b) (b := a) (fun j hj => (h j (by omega)).symm) hl.symm
 unfold shortB at h1
 simpa using h1
set_option maxHeartbeats 2000000 in
theorem less_c (sa sb : Option Addr) (n capa m capb : Nat) (a b : List Int) (w : World) (ha : a.length = n) (hb : b.length = m) (hn : n < 1073741824) (hm : m < 1073741824) (hr : IsInts w sa n (gl a)) (hs : IsInts w sb m (gl b)) :
  Calls Try.prog 93 #[.slice sa n capa, .slice sb m capb] w fun e w' => e = .returned (.bool (betterB a b)) ∧ Below w.heap.size w w' := by
 by_cases hnm : n = m
 ·
  have hnm' : ((n : Int) != (m : Int)) = false := by simp [hnm]
  have HR := Lib.hid hr
  have HS := Lib.hid hs
  have HA := Lib.hid ha
  have HBL := Lib.hid hb
  clear hr hs ha hb
  go_enter Try.func93, Try.ntmps93
  go_wp2_with fail
  go_loopg [5] m (fun gg i wr => ∃ k : Nat, k + gg = m ∧ i = .int .i64 k ∧ (∀ j, j < k → gl a j = gl b j) ∧ Below w.heap.size w wr)
  case atStart => exact ⟨0, by omega, rfl, (fun j hj => absurd hj (Nat.not_lt_zero _)), Below.refl _ _⟩
  case round =>
   obtain ⟨k, hk, rfl, he, hb⟩ := hrel
   have HE := Lib.hid he
   have HB := Lib.hid hb
   clear he hb
   by_cases hlt : k < n
   ·
    obtain ⟨b1, off, rfl, hcell⟩ := HR.out.at HB.out hlt
    obtain ⟨b2, off', rfl, hcell'⟩ := HS.out.at HB.out (show k < m by omega)
    obtain ⟨x, hx⟩ : ∃ x, gl a k = x := ⟨_, rfl⟩
    obtain ⟨y, hy⟩ : ∃ y, gl b k = y := ⟨_, rfl⟩
    rw [hx] at hcell
    rw [hy] at hcell'
    have HX := Lib.hid hx
    have HY := Lib.hid hy
    clear hx hy
    have q1 : (k : Int) < (n : Int) := by omega
    have q2 : (k : Int) < (m : Int) := by omega
    have q3 : (0 : Int) ≤ (k : Int) := by omega
    have HB0 := HB.out
    go_wp2_with fail
    go_region_held3 (fun w' => w'.cell? ⟨b1, off + k, none⟩ = some (.int .i64 x) ∧ w'.cell? ⟨b2, off' + k, none⟩ = some (.int .i64 y) ∧ Below w.heap.size w w')
     (first | exact ⟨hcell, hcell', HB0.drew⟩ | go_keep) (fail)
    rename_i hheld
    obtain ⟨hc1, hc2, hbb⟩ := hheld
    have HH := Lib.hid hbb
    clear hbb HB0 hcell hcell'
    cases hxy : (x != y)
    ·
     go_wp2
     go_roundg (gk - 1)
     case measure => omega
     case rel =>
      refine ⟨k + 1, by omega, by go_num, fun j hj => ?_, HH.out⟩
      by_cases e : j = k
      · rw [e, HX.out, HY.out]; simpa using hxy
      · exact HE.out j (by omega)
    ·
     have HB1 := HH.out
     go_wp2_with fail
     go_region_held3 (fun w' => w'.cell? ⟨b1, off + k, none⟩ = some (.int .i64 x) ∧ w'.cell? ⟨b2, off' + k, none⟩ = some (.int .i64 y) ∧ Below w.heap.size w w')
      (first | exact ⟨hc1, hc2, HB1.drew⟩ | go_keep) (fail)
     rename_i hheld
     have HI := Lib.hid hheld.2.2
     clear hheld HB1 hc1 hc2
     go_wp2
     go_ret
     refine ⟨?_, HI.out⟩
     rw [betterB_ne HE.out (by rw [HA.out]; exact hlt) (by rw [HA.out, HBL.out]; exact hnm) (by rw [HX.out, HY.out]; simpa using hxy), HX.out, HY.out]
     rfl
   ·
    go_wp2
    go_ret
    exact ⟨ret_bool (betterB_eq (fun j hj => HE.out j (by rw [HA.out] at hj; omega)) (by rw [HA.out, HBL.out]; exact hnm)).symm, HB.out⟩
 ·
  have hnm' : ((n : Int) != (m : Int)) = true := by simp; omega
  have HZ := Lib.hid (betterB_lt (a := a) (b := b) (by rw [ha, hb]; exact hnm))
  rw [ha, hb] at HZ
  clear hr hs ha hb
  go_enter Try.func93, Try.ntmps93
  go_wp2
  go_ret
  rw [HZ.out]
  exact ⟨by simp, Below.refl _ _⟩
end Go.Proofs.Ytampjndfhpjheaa
namespace Go.Proofs.Ytampjndfhpjheaa
open Go.RowKit
set_option linter.unusedVariables false
set_option linter.unusedSimpArgs false
theorem below3 (w : World) (a b c : Obj) : Below w.heap.size w (((w.alloc a).alloc b).alloc c) :=
 (((Below.refl _ _).alloc (Nat.le_refl _) a).alloc (by simp) b).alloc (by simp; omega) c
set_option maxHeartbeats 2000000 in
theorem command_c (s : Option Addr) (n c : Nat) (verb move arg0 reg cnt a : Int) (asks : Bool) (w : World) :
  Calls Try.prog 106 #[.agg #[.slice s n c, .int .i64 verb, .int .i64 move, .int .i64 arg0, .bool asks], .int .i64 reg, .int .i64 cnt, .int .i64 a] w
   fun e w' => e = .returned (.agg #[.int .i64 reg, .int .i64 cnt, .int .i64 verb, .int .i64 (if move = 33 ∧ 0 < cnt then 18 else move), .int .i64 a]) ∧ Below w.heap.size w w' := by
 by_cases h33 : move = 33
 ·
  subst h33
  by_cases h0 : 0 < cnt
  ·
   rw [if_pos ⟨rfl, h0⟩]
   go_enter Try.func106, Try.ntmps106
   go_wp2
   exact bodyPost_ret (v := .agg #[.int .i64 reg, .int .i64 cnt, .int .i64 verb, .int .i64 18, .int .i64 a]) (by simp [results, Try.results106, go_sem]) rfl ⟨rfl, below3 w _ _ _⟩
  ·
   rw [if_neg (fun e => h0 e.2)]
   go_enter Try.func106, Try.ntmps106
   go_wp2
   exact bodyPost_ret (v := .agg #[.int .i64 reg, .int .i64 cnt, .int .i64 verb, .int .i64 33, .int .i64 a]) (by simp [results, Try.results106, go_sem]) rfl ⟨rfl, below3 w _ _ _⟩
 ·
  have e33 : (move == 33) = false := by rw [beq_eq_false_iff_ne]; exact h33
  rw [if_neg (fun e => h33 e.1)]
  go_enter Try.func106, Try.ntmps106
  go_wp2
  exact bodyPost_ret (v := .agg #[.int .i64 reg, .int .i64 cnt, .int .i64 verb, .int .i64 move, .int .i64 a]) (by simp [results, Try.results106, go_sem]) rfl ⟨rfl, below3 w _ _ _⟩
end Go.Proofs.Ytampjndfhpjheaa
namespace Go.Proofs.Ytampjndfhpjheaa
open Go.RowKit
set_option linter.unusedVariables false
set_option linter.unusedSimpArgs false
theorem drop_at {l : List Int} {k n : Nat} (hl : l.length = n) (hk : k < n) : l.drop k = gl l k :: l.drop (k + 1) := by
 subst hl
 rw [List.drop_eq_getElem_cons hk]
 unfold gl
 rw [List.getD_eq_getElem?_getD, List.getElem?_eq_getElem hk]; rfl
theorem drop_end {l : List Int} {k n : Nat} (hl : l.length = n) (hk : ¬ k < n) : l.drop k = [] := List.drop_eq_nil_of_le (by omega)
theorem prefxD_nil (f : Nat) (r c : Int) : prefxD (f + 1) r c [] = (r, c, true, false) := rfl
theorem prefxD_q0 (f : Nat) (r c : Int) : prefxD (f + 1) r c [34] = (r, c, false, true) := rfl
theorem prefxD_q (f : Nat) (r c y : Int) (u : List Int) : prefxD (f + 1) r c (34 :: y :: u) = if y = 0 then (r, c, false, false) else prefxD f y c u := rfl
theorem prefxD_n (f : Nat) (r c x : Int) (t : List Int) (hx : x ≠ 34) : prefxD (f + 1) r c (x :: t) = if dig1B x = true then prefxD f r (numP c (x :: t)).1 (numP c (x :: t)).2 else (r, c, false, false) := by
 show (if x = 34 then _ else _) = _
 rw [if_neg hx]
set_option maxRecDepth 100000 in
set_option maxHeartbeats 8000000 in
theorem prefixes_c (s : Option Addr) (n cap : Nat) (l : List Int) (w : World) (hl : l.length = n) (hn : n < 1073741824) (hr : IsInts w s n (gl l)) :
  Calls Try.prog 94 #[.slice s n cap] w fun e w' => e = .returned (.tuple #[.int .i64 (prefsD l).1, .int .i64 (prefsD l).2.1, .bool (prefsD l).2.2.1, .bool (prefsD l).2.2.2]) ∧ w' = w := by
 have HR := Lib.hid hr
 have HLN := Lib.hid hl
 obtain ⟨P, hP⟩ : ∃ P, prefsD l = P := ⟨_, rfl⟩
 have HP0 : Hid (prefxD (n + 1) 0 0 (l.drop 0) = P) := Lib.hid (by rw [← hP, ← hl]; rfl)
 rw [hP]
 clear hr hl hP
 go_enter Try.func94, Try.ntmps94
 go_wp2_with fail
 go_loopg [2, 3, 6] (n + 1) (fun gg rv cv iv wr => ∃ (k : Nat) (r c : Int), rv = .int .i64 r ∧ cv = .int .i64 c ∧ iv = .int .i64 k ∧ k ≤ n ∧ prefxD gg r c (l.drop k) = P ∧ 0 ≤ c ∧ c ≤ 9999 ∧ n - k < gg ∧ w = wr)
 case atStart => exact ⟨0, 0, 0, rfl, rfl, rfl, by omega, HP0.out, by decide, by decide, by omega, rfl⟩
 case round =>
  obtain ⟨k, r, c, rfl, rfl, rfl, hkn, hp, hc0, hc1, hf, rfl⟩ := hrel
  clear HP0
  obtain ⟨f, rfl⟩ : ∃ f, gk = f + 1 := ⟨gk - 1, by omega⟩
  by_cases hlt : k < n
  ·
   have hd := drop_at HLN.out hlt
   obtain ⟨b, off, rfl, c0⟩ := HR.out.at (Below.refl w.heap.size w) hlt
   generalize hx : gl l k = x at hd c0
   rw [hd] at hp
   have q1 : (k : Int) < (n : Int) := by omega
   have q0 : (0 : Int) ≤ (k : Int) := by omega
   by_cases h34 : x = 34
   ·
    subst h34
    by_cases hk1 : k + 1 < n
    ·
     have hd1 := drop_at HLN.out hk1
     obtain ⟨b', off', hbo, c1⟩ := HR.out.at (Below.refl w.heap.size w) hk1
     cases hbo
     generalize hy : gl l (k + 1) = y at hd1 c1
     rw [hd1, prefxD_q] at hp
     have q2 : ((k : Int) + 1 == (n : Int)) = false := by rw [beq_eq_false_iff_ne]; omega
     have q3 : (k : Int) + 1 < (n : Int) := by omega
     by_cases hy0 : y = 0
     ·
      subst hy0
      rw [if_pos rfl] at hp
      have HPP := Lib.hid hp
      clear hp hx hy hd hd1
      go_wp2
      exact bodyPost_ret (v := .tuple #[.int .i64 P.1, .int .i64 P.2.1, .bool P.2.2.1, .bool P.2.2.2]) (by simp [results, Try.results94, go_sem, ← HPP.out]) rfl ⟨rfl, rfl⟩
     ·
      have q4 : (y == 0) = false := by rw [beq_eq_false_iff_ne]; exact hy0
      rw [if_neg hy0] at hp
      have HPP := Lib.hid hp
      clear hp hx hy hd hd1
      go_wp2
      go_roundg f
      case measure => omega
      case rel => exact ⟨k + 2, y, c, rfl, rfl, by go_num, by omega, HPP.out, hc0, hc1, by omega, rfl⟩
    ·
     have hd1 := drop_end HLN.out hk1
     rw [hd1, prefxD_q0] at hp
     have q2 : ((k : Int) + 1 == (n : Int)) = true := by rw [beq_iff_eq]; omega
     have HPP := Lib.hid hp
     clear hp hx hd hd1
     go_wp2
     exact bodyPost_ret (v := .tuple #[.int .i64 P.1, .int .i64 P.2.1, .bool P.2.2.1, .bool P.2.2.2]) (by simp [results, Try.results94, go_sem, ← HPP.out]) rfl ⟨rfl, rfl⟩
   ·
    have q5 : (x == 34) = false := by rw [beq_eq_false_iff_ne]; exact h34
    rw [prefxD_n _ _ _ _ _ h34] at hp
    by_cases h1 : dig1B x = true
    ·
     rw [if_pos h1] at hp
     have h2 : digB x = true ∧ 49 ≤ x ∧ x ≤ 57 := by
      unfold dig1B at h1; unfold digB
      simp at h1 ⊢; omega
     have q6 : (x == 48) = false := by rw [beq_eq_false_iff_ne]; omega
     rw [numP_cons ⟨h2.2.1, h2.2.2⟩, ← hd] at hp
     simp only at hp
     have HPP := Lib.hid hp
     have HX := Lib.hid (show digB (gl l k) = true by rw [hx]; exact h2.1)
     have HD2 := Lib.hid h2.1
     clear hp hx hd h1 h2
     go_wp2_with fail
     refine (isDigit_c x w).mono ?_
     rintro e w2 ⟨rfl, rfl⟩
     rw [HD2.out]
     go_wp2_with fail
     go_loopg [6, 8] (n + 1) (fun gg iv nv wr => ∃ (k2 : Nat) (m : Int), iv = .int .i64 k2 ∧ nv = .int .i64 m ∧ k ≤ k2 ∧ k2 ≤ n ∧ runN m (l.drop k2) = runN 0 (l.drop k) ∧ 0 ≤ m ∧ m ≤ 9999 ∧ n - k2 < gg ∧ w2 = wr)
     case atStart => exact ⟨k, 0, rfl, rfl, Nat.le_refl _, by omega, rfl, by decide, by decide, by omega, rfl⟩
     case round =>
      obtain ⟨k2, m, rfl, rfl, hkk, hk2n, hrun, hm0, hm1, hg2, rfl⟩ := hrel
      clear c0
      have HPO := HPP
      by_cases hlt2 : k2 < n
      ·
       have hd2 := drop_at HLN.out hlt2
       obtain ⟨b', off', hbo, c1⟩ := HR.out.at (Below.refl w2.heap.size w2) hlt2
       cases hbo
       generalize hy : gl l k2 = y at hd2 c1
       have q7 : (k2 : Int) < (n : Int) := by omega
       have q8 : (0 : Int) ≤ (k2 : Int) := by omega
       have HY := Lib.hid hy
       have HD := Lib.hid hd2
       have HRUN := Lib.hid hrun
       clear hy hd2 hrun
       go_wp2_with fail
       refine (isDigit_c y w2).mono ?_
       rintro e w3 ⟨rfl, rfl⟩
       cases h5 : digB y
       ·
        have hs : runN m (l.drop k2) = (m, l.drop k2) := by
         rw [HD.out]; exact runN_stop (by unfold digB at h5; simp at h5; omega)
        rw [hs] at HRUN
        have hne : k ≠ k2 := fun e => by
         have := HX.out
         rw [e, HY.out, h5] at this; cases this
        replace HPP := HPP.out
        rw [← HRUN.out] at HPP
        have HPQ := Lib.hid HPP
        clear HPP HPO hs
        go_wp2_with fail
        refine (times_c c m hc0 hc1 hm0 hm1 w3).mono ?_
        rintro e w4 ⟨rfl, rfl⟩
        obtain ⟨c2, hc2⟩ : ∃ c2, min (max c 1 * m) 9999 = c2 := ⟨_, rfl⟩
        have hc20 : 0 ≤ c2 ∧ c2 ≤ 9999 := by
         rw [← hc2]
         have : 0 ≤ max c 1 * m := Int.mul_nonneg (by omega) hm0
         omega
        simp only [hc2] at HPQ ⊢
        have HC2 := Lib.hid hc20
        clear hc2 hc20
        go_wp2
        go_roundg f
        case measure => omega
        case rel => exact ⟨k2, r, c2, rfl, rfl, rfl, by omega, HPQ.out, HC2.out.1, HC2.out.2, by omega, rfl⟩
       ·
        have h6 : 48 ≤ y ∧ y ≤ 57 := by unfold digB at h5; simpa using h5
        have hs : runN m (l.drop k2) = runN (min (10 * m + y - 48) 9999) (l.drop (k2 + 1)) := by
         rw [HD.out]; exact runN_dig h6
        rw [hs] at HRUN
        have h61 := h6.1
        have h62 := h6.2
        clear hs h6
        by_cases hmin : ¬ 10 * m + y - 48 < 9999
        ·
         have e3 : min (10 * m + y - 48) 9999 = 9999 := by omega
         rw [e3] at HRUN
         clear e3
         go_wp2
         go_roundg (gk - 1)
         case measure => omega
         case rel => exact ⟨k2 + 1, 9999, by go_num, rfl, by omega, by omega, HRUN.out, by omega, by omega, by omega, rfl⟩
        ·
         have e3 : min (10 * m + y - 48) 9999 = 10 * m + y - 48 := by omega
         rw [e3] at HRUN
         clear e3
         replace hmin : 10 * m + y - 48 < 9999 := by omega
         go_wp2
         go_roundg (gk - 1)
         case measure => omega
         case rel => exact ⟨k2 + 1, 10 * m + y - 48, by go_num, rfl, by omega, by omega, HRUN.out, by omega, by omega, by omega, rfl⟩
      ·
       obtain rfl : k2 = n := by omega
       have hs : runN m (l.drop k2) = (m, l.drop k2) := by
        rw [drop_end HLN.out (Nat.lt_irrefl _)]; rfl
       rw [hs] at hrun
       replace HPP := HPP.out
       rw [← hrun] at HPP
       have HPQ := Lib.hid HPP
       clear HPP HPO hs hrun
       go_wp2_with fail
       refine (times_c c m hc0 hc1 hm0 hm1 w2).mono ?_
       rintro e w4 ⟨rfl, rfl⟩
       obtain ⟨c2, hc2⟩ : ∃ c2, min (max c 1 * m) 9999 = c2 := ⟨_, rfl⟩
       have hc20 : 0 ≤ c2 ∧ c2 ≤ 9999 := by
        rw [← hc2]
        have : 0 ≤ max c 1 * m := Int.mul_nonneg (by omega) hm0
        omega
       simp only [hc2] at HPQ ⊢
       have HC2 := Lib.hid hc20
       clear hc2 hc20
       go_wp2
       go_roundg f
       case measure => omega
       case rel => exact ⟨k2, r, c2, rfl, rfl, rfl, by omega, HPQ.out, HC2.out.1, HC2.out.2, by omega, rfl⟩
    ·
     rw [if_neg h1] at hp
     have HPP := Lib.hid hp
     clear hp hx hd
     go_wp2_with fail
     refine (isDigit_c x w).mono ?_
     rintro e w2 ⟨rfl, rfl⟩
     cases h2 : digB x
     ·
      go_wp2
      exact bodyPost_ret (v := .tuple #[.int .i64 P.1, .int .i64 P.2.1, .bool P.2.2.1, .bool P.2.2.2]) (by simp [results, Try.results94, go_sem, ← HPP.out]) rfl ⟨rfl, rfl⟩
     ·
      have h3 : x = 48 := by
       unfold digB at h2; unfold dig1B at h1
       simp at h1 h2; omega
      subst h3
      go_wp2
      exact bodyPost_ret (v := .tuple #[.int .i64 P.1, .int .i64 P.2.1, .bool P.2.2.1, .bool P.2.2.2]) (by simp [results, Try.results94, go_sem, ← HPP.out]) rfl ⟨rfl, rfl⟩
  ·
   rw [drop_end HLN.out hlt, prefxD_nil] at hp
   have HPP := Lib.hid hp
   clear hp
   go_wp2
   exact bodyPost_ret (v := .tuple #[.int .i64 P.1, .int .i64 P.2.1, .bool P.2.2.1, .bool P.2.2.2]) (by simp [results, Try.results94, go_sem, ← HPP.out]) rfl ⟨rfl, rfl⟩
theorem IsInts.take {w : World} {s : Option Addr} {n : Nat} {l : List Int} (h : IsInts w s n (gl l)) {k : Nat} (hk : k ≤ n) : IsInts w s k (gl (l.take k)) := by
 by_cases h0 : k = 0
 · exact .inl h0
 ·
  rcases h with h | ⟨b, off, rfl, hb, hc⟩
  · omega
  ·
   refine .inr ⟨b, off, rfl, hb, fun i hi => ?_⟩
   rw [hc i (by omega)]
   unfold gl
   rw [List.getD_eq_getElem?_getD, List.getD_eq_getElem?_getD, List.getElem?_take, if_pos hi]
theorem IsInts.drop {w : World} {b off n : Nat} {l : List Int} (h : IsInts w (some ⟨b, off, none⟩) n (gl l)) {k m : Nat} (hk : n = k + m) : IsInts w (some ⟨b, off + k, none⟩) m (gl (l.drop k)) := by
 by_cases h0 : m = 0
 · exact .inl h0
 ·
  rcases h with h | ⟨b', off', he, hb, hc⟩
  · omega
  ·
   cases he
   refine .inr ⟨b, off + k, rfl, hb, fun i hi => ?_⟩
   have := hc (k + i) (by omega)
   rw [← Nat.add_assoc] at this
   rw [this]
   unfold gl
   rw [List.getD_eq_getElem?_getD, List.getD_eq_getElem?_getD, List.getElem?_drop]
theorem last_gl {l : List Int} {n : Nat} (hl : l.length = n + 1) : l.getLastD 0 = gl l n := by
 unfold gl
 rw [List.getD_eq_getElem?_getD, List.getLastD_eq_getLast?, List.getLast?_eq_getElem?, hl]
 rfl
theorem endsIn_c (s : Option Addr) (n cap : Nat) (l : List Int) (w : World) (hl : l.length = n + 1) (hn : n < 1073741823) (hc : n + 1 ≤ cap) (hr : IsInts w s (n + 1) (gl l)) :
  Calls Try.prog 96 #[.slice s (n + 1 : Nat) cap] w fun e w' => e = .returned (.bool (endsD l)) ∧ w' = w := by
 have hlast := last_gl hl
 have htk : l.dropLast = l.take n := by rw [List.dropLast_eq_take, hl]; rfl
 have hrt := hr.take (show n ≤ n + 1 by omega)
 obtain ⟨b, off, rfl, c0⟩ := hr.at (Below.refl w.heap.size w) (show n < n + 1 by omega)
 have hv : endsD l = (digB (gl l n) && (prefsD (l.take n)).2.2.1) := by unfold endsD; rw [hlast, htk]
 rw [hv]
 clear hv hlast htk
 generalize gl l n = x at c0 ⊢
 have hpc := prefixes_c (some ⟨b, off, none⟩) n cap (l.take n) w (by rw [List.length_take]; omega) (by omega) hrt
 generalize prefsD (l.take n) = P at hpc ⊢
 have HPC := Lib.hid hpc
 have q1 : IntKind.i64.wrap (((n + 1 : Nat) : Int) - 1) = (n : Int) := by rw [IntKind.wrap_i64]; omega
 have q2 : IntKind.i64.wrap ((n : Int) + 1 - 1) = (n : Int) := by rw [IntKind.wrap_i64]; omega
 clear hpc hrt hr hl
 go_enter Try.func96, Try.ntmps96
 go_wp2_with fail
 refine (isDigit_c x w).mono ?_
 rintro e w2 ⟨rfl, rfl⟩
 cases hx : digB x
 ·
  go_wp2
  go_ret
  exact ⟨ret_bool (by rw [hx]; rfl), rfl⟩
 ·
  go_wp2_with fail
  refine HPC.out.mono ?_
  rintro e w3 ⟨rfl, rfl⟩
  go_wp2
  go_ret
  exact ⟨ret_bool (by rw [hx]; rfl), rfl⟩
end Go.Proofs.Ytampjndfhpjheaa
namespace Go.Proofs.Ytampjndfhpjheaa
open Go.RowKit
set_option linter.unusedVariables false
set_option linter.unusedSimpArgs false
theorem meets_val {k l : List Int} {b : Bd} {W P : Bool} (hW : k.isPrefixOf l = W) (hP : l.isPrefixOf k = P) : meetsD k b l =
  if W = true ∧ l.length = k.length + (if b.more then 1 else 0) then (1, if b.more then l.getD k.length 0 else b.arg)
  else if (W = true ∧ l.length < k.length + (if b.more then 1 else 0)) ∨ (P = true ∧ l.length < k.length) then (0, 0) else (2, 0) := by
 unfold meetsD lenK; rw [hW, hP]
set_option maxHeartbeats 4000000 in
theorem meets_f (ks ls : Option Addr) (kn kc ln lc : Nat) (k l : List Int) (vv mv av : Int) (w : World) (hk : k.length = kn) (hl : l.length = ln) (hkn : kn < 1073741824) (hln : ln < 1073741824) (hrk : IsInts w ks kn (gl k)) (hrl : IsInts w ls ln (gl l)) :
  Calls Try.prog 105 #[.agg #[.slice ks kn kc, .int .i64 vv, .int .i64 mv, .int .i64 av, .bool false], .slice ls ln lc] w
   fun e w' => e = .returned (.tuple #[.int .i64 ((meetsD k ⟨vv, mv, av, false, []⟩ l).1 : Nat), .int .i64 (meetsD k ⟨vv, mv, av, false, []⟩ l).2]) ∧ Below w.heap.size w w' := by
 have hn := below_new2 w (.cells #[.slice ks kn kc, .int .i64 vv, .int .i64 mv, .int .i64 av, .bool false] 103)
 have HRK := Lib.hid (hrk.later hn)
 have HRL := Lib.hid (hrl.later hn)
 have HN := Lib.hid hn
 have H1 := Lib.hid (one_new w (.cells #[.slice ks kn kc, .int .i64 vv, .int .i64 mv, .int .i64 av, .bool false] 103))
 obtain ⟨W, hW⟩ : ∃ W, k.isPrefixOf l = W := ⟨_, rfl⟩
 obtain ⟨P, hP⟩ : ∃ P, l.isPrefixOf k = P := ⟨_, rfl⟩
 have hv := meets_val (b := ⟨vv, mv, av, false, []⟩) hW hP
 simp only [hk, hl, Bool.false_eq_true, if_false, Nat.add_zero] at hv
 have hb1 : begB (gl l) ln (gl k) kn = W := by rw [← hk, ← hl, begB_pre]; exact hW
 have hb2 : begB (gl k) kn (gl l) ln = P := by rw [← hk, ← hl, begB_pre]; exact hP
 rw [hv]
 clear hn hrk hrl hW hP hv
 go_enter Try.func105, Try.ntmps105
 go_upto_region 1 with (fail)
 generalize w.alloc (.cells #[.slice ks kn kc, .int .i64 vv, .int .i64 mv, .int .i64 av, .bool false] 103) = w1 at HN H1 HRK HRL ⊢
 have HB1 := Lib.hid hb1
 have HB2 := Lib.hid hb2
 clear hb1 hb2
 generalize hcb : w.heap.size = cb at *
 have HCB := Lib.hid hcb
 clear hcb hk hl
 have m0 : w1.cell? ⟨cb, 0, none⟩ = some (.slice ks kn kc) := block_cell H1.out
 have m4 : w1.cell? ⟨cb, 4, none⟩ = some (.bool false) := block_cell H1.out
 have hc1 := begins_any ls ks ln lc kn kc (gl l) (gl k) w1 (by unfold maxLen; omega) HRL.out HRK.out
 rw [HB1.out] at hc1
 have HC1 := Lib.hid hc1
 clear hc1
 go_wp2_with fail
 refine HC1.out.mono ?_
 clear m0 m4
 rintro e w2 ⟨rfl, hb2⟩
 have HB := Lib.hid (HN.out.trans (hb2.mono (Nat.le_of_lt (heap_lt H1.out))))
 have H2 := Lib.hid ((hb2.block _ (heap_lt H1.out)).trans H1.out)
 have hc2 := begins_any ks ls kn kc ln lc (gl k) (gl l) w2 (by unfold maxLen; omega) (HRK.out.later hb2) (HRL.out.later hb2)
 rw [HB2.out] at hc2
 have HC2 := Lib.hid hc2
 clear hc2 hb2 HC1 H1 HN HRK HRL
 have m0 : w2.cell? ⟨cb, 0, none⟩ = some (.slice ks kn kc) := block_cell H2.out
 go_wp2_with fail
 refine HC2.out.mono ?_
 clear m0
 rintro e w3 ⟨rfl, hb3⟩
 have HB3 := Lib.hid (HB.out.trans (hb3.mono (Nat.le_of_lt (heap_lt H2.out))))
 have H3 := (hb3.block _ (heap_lt H2.out)).trans H2.out
 have m0 : w3.cell? ⟨cb, 0, none⟩ = some (.slice ks kn kc) := block_cell H3
 have m3 : w3.cell? ⟨cb, 3, none⟩ = some (.int .i64 av) := block_cell H3
 have m4 : w3.cell? ⟨cb, 4, none⟩ = some (.bool false) := block_cell H3
 clear hb3 HC2 HB H2 H3 HB1 HB2
 cases W <;> cases P <;> by_cases he : ln = kn <;> by_cases hlt : ln < kn
 all_goals (try (exfalso; omega))
 all_goals (first | subst he | skip)
 all_goals (try have p1 : (ln : Int) < (kn : Int) := by omega)
 all_goals (try have p2 : ((ln : Int) == (kn : Int)) = false := by (rw [beq_eq_false_iff_ne]; omega))
 all_goals (try have p3 : ¬ (ln : Int) < (kn : Int) := by omega)
 all_goals go_wp2
 all_goals (first
  | exact bodyPost_ret (v := .tuple #[.int .i64 2, .int .i64 0]) (by simp [results, Try.results105, go_sem]) rfl ⟨rfl, by rw [HCB.out]; exact HB3.out⟩
  | exact bodyPost_ret (v := .tuple #[.int .i64 0, .int .i64 0]) (by simp [results, Try.results105, go_sem]) rfl ⟨rfl, by rw [HCB.out]; exact HB3.out⟩
  | skip)
 all_goals (have HB4 := HB3.out)
 all_goals (go_region_held3 (fun w' => w'.cell? ⟨cb, 3, none⟩ = some (.int .i64 av) ∧ Below cb w w')
  (first | exact ⟨m3, HB4.drew⟩ | go_keep) (fail))
 all_goals (rename_i hheld)
 all_goals go_wp2
 all_goals exact bodyPost_ret (v := .tuple #[.int .i64 1, .int .i64 av]) (by simp [results, Try.results105, go_sem]) rfl ⟨rfl, by rw [HCB.out]; exact hheld.2⟩
end Go.Proofs.Ytampjndfhpjheaa
namespace Go.Proofs.Ytampjndfhpjheaa
open Go.RowKit
set_option linter.unusedVariables false
set_option linter.unusedSimpArgs false
set_option maxHeartbeats 4000000 in
theorem meets_t (ks ls : Option Addr) (kn kc ln lc : Nat) (k l : List Int) (vv mv av : Int) (w : World) (hk : k.length = kn) (hl : l.length = ln) (hkn : kn < 1073741824) (hln : ln < 1073741824) (hrk : IsInts w ks kn (gl k)) (hrl : IsInts w ls ln (gl l)) :
  Calls Try.prog 105 #[.agg #[.slice ks kn kc, .int .i64 vv, .int .i64 mv, .int .i64 av, .bool true], .slice ls ln lc] w
   fun e w' => e = .returned (.tuple #[.int .i64 ((meetsD k ⟨vv, mv, av, true, []⟩ l).1 : Nat), .int .i64 (meetsD k ⟨vv, mv, av, true, []⟩ l).2]) ∧ Below w.heap.size w w' := by
 have hn := below_new2 w (.cells #[.slice ks kn kc, .int .i64 vv, .int .i64 mv, .int .i64 av, .bool true] 103)
 have HRK := Lib.hid (hrk.later hn)
 have HRL := Lib.hid (hrl.later hn)
 have HRLW : Hid (∀ W, Below w.heap.size w W → IsInts W ls ln (gl l)) := Lib.hid (fun W hW => hrl.later hW)
 have HN := Lib.hid hn
 have H1 := Lib.hid (one_new w (.cells #[.slice ks kn kc, .int .i64 vv, .int .i64 mv, .int .i64 av, .bool true] 103))
 obtain ⟨W, hW⟩ : ∃ W, k.isPrefixOf l = W := ⟨_, rfl⟩
 obtain ⟨P, hP⟩ : ∃ P, l.isPrefixOf k = P := ⟨_, rfl⟩
 have hv := meets_val (b := ⟨vv, mv, av, true, []⟩) hW hP
 simp only [hk, hl, if_true] at hv
 have hb1 : begB (gl l) ln (gl k) kn = W := by rw [← hk, ← hl, begB_pre]; exact hW
 have hb2 : begB (gl k) kn (gl l) ln = P := by rw [← hk, ← hl, begB_pre]; exact hP
 obtain ⟨V, hV⟩ : ∃ V, V = meetsD k ⟨vv, mv, av, true, []⟩ l := ⟨_, rfl⟩
 rw [← hV] at hv ⊢
 have HV := Lib.hid hv
 clear hn hrk hrl hW hP hv hV
 go_enter Try.func105, Try.ntmps105
 go_upto_region 1 with (fail)
 generalize w.alloc (.cells #[.slice ks kn kc, .int .i64 vv, .int .i64 mv, .int .i64 av, .bool true] 103) = w1 at HN H1 HRK HRL ⊢
 have HB1 := Lib.hid hb1
 have HB2 := Lib.hid hb2
 clear hb1 hb2
 generalize hcb : w.heap.size = cb at *
 have HCB := Lib.hid hcb
 clear hcb hk hl
 have m0 : w1.cell? ⟨cb, 0, none⟩ = some (.slice ks kn kc) := block_cell H1.out
 have m4 : w1.cell? ⟨cb, 4, none⟩ = some (.bool true) := block_cell H1.out
 have hc1 := begins_any ls ks ln lc kn kc (gl l) (gl k) w1 (by unfold maxLen; omega) HRL.out HRK.out
 rw [HB1.out] at hc1
 have HC1 := Lib.hid hc1
 clear hc1
 go_wp2_with fail
 refine HC1.out.mono ?_
 clear m0 m4
 rintro e w2 ⟨rfl, hb2⟩
 have HB := Lib.hid (HN.out.trans (hb2.mono (Nat.le_of_lt (heap_lt H1.out))))
 have H2 := Lib.hid ((hb2.block _ (heap_lt H1.out)).trans H1.out)
 have hc2 := begins_any ks ls kn kc ln lc (gl k) (gl l) w2 (by unfold maxLen; omega) (HRK.out.later hb2) (HRL.out.later hb2)
 rw [HB2.out] at hc2
 have HC2 := Lib.hid hc2
 clear hc2 hb2 HC1 H1 HN HRK HRL
 have m0 : w2.cell? ⟨cb, 0, none⟩ = some (.slice ks kn kc) := block_cell H2.out
 go_wp2_with fail
 refine HC2.out.mono ?_
 clear m0
 rintro e w3 ⟨rfl, hb3⟩
 have HB3 := Lib.hid (HB.out.trans (hb3.mono (Nat.le_of_lt (heap_lt H2.out))))
 have H3 := (hb3.block _ (heap_lt H2.out)).trans H2.out
 have m0 : w3.cell? ⟨cb, 0, none⟩ = some (.slice ks kn kc) := block_cell H3
 have m3 : w3.cell? ⟨cb, 3, none⟩ = some (.int .i64 av) := block_cell H3
 have m4 : w3.cell? ⟨cb, 4, none⟩ = some (.bool true) := block_cell H3
 clear hb3 HC2 HB H2 H3 HB1 HB2
 have hrl3 : IsInts w3 ls ln (gl l) := HRLW.out _ HB3.out
 have HRL3 := Lib.hid hrl3
 clear hrl3 HRLW
 have q0 : IntKind.i64.wrap ((kn : Int) + 1) = (kn : Int) + 1 := by rw [IntKind.wrap_i64]; omega
 have q1 : IntKind.i64.wrap ((kn : Int) + 1 - 1) = (kn : Int) := by rw [IntKind.wrap_i64]; omega
 cases W <;> cases P <;> by_cases he : ln = kn + 1 <;> by_cases hlt : ln < kn + 1 <;> by_cases hlk : ln < kn
 all_goals (try (exfalso; omega))
 all_goals (try have p1 : (ln : Int) < (kn : Int) := by omega)
 all_goals (try have p2 : ((ln : Int) == (kn : Int) + 1) = false := by (rw [beq_eq_false_iff_ne]; omega))
 all_goals (try have p5 : ((ln : Int) == (kn : Int) + 1) = true := by (rw [beq_iff_eq]; omega))
 all_goals (try have p3 : ¬ (ln : Int) < (kn : Int) := by omega)
 all_goals (try have p4 : ¬ (ln : Int) < (kn : Int) + 1 := by omega)
 all_goals (try have p6 : (ln : Int) < (kn : Int) + 1 := by omega)
 all_goals (try (have hatt := HRL3.out.at (Below.refl w3.heap.size w3) (show kn < ln by omega); obtain ⟨lb, lo, rfl, lc0⟩ := hatt))
 all_goals (first
  | (have hlit : V = (2, 0) := by (rw [HV.out]; simp [he, hlt, hlk]; done))
  | (have hlit : V = (0, 0) := by (rw [HV.out]; simp [he, hlt, hlk]; done))
  | (have hlit : V = (1, gl l kn) := by (rw [HV.out]; simp [he]; rfl)))
 all_goals (clear HV; subst hlit)
 all_goals go_wp2
 all_goals (first
  | exact bodyPost_ret (v := .tuple #[.int .i64 2, .int .i64 0]) (by simp [results, Try.results105, go_sem]) rfl ⟨rfl, by rw [HCB.out]; exact HB3.out⟩
  | exact bodyPost_ret (v := .tuple #[.int .i64 0, .int .i64 0]) (by simp [results, Try.results105, go_sem]) rfl ⟨rfl, by rw [HCB.out]; exact HB3.out⟩
  | skip)
 all_goals (have HB4 := HB3.out)
 all_goals (have p7 : (kn : Int) < (kn : Int) + 1 := by omega)
 all_goals (have p8 : (0 : Int) ≤ (kn : Int) := by omega)
 all_goals (have p9 : IntKind.i64.wrap (kn : Int) = (kn : Int) := by rw [IntKind.wrap_i64]; omega)
 all_goals (obtain ⟨x, hgx⟩ : ∃ x, gl l kn = x := ⟨_, rfl⟩)
 all_goals (rw [hgx] at lc0)
 all_goals (have HGX := Lib.hid hgx; clear hgx)
 all_goals (go_region_held3 (fun w' => w'.cell? ⟨lb, lo + kn, none⟩ = some (.int .i64 x) ∧ Below cb w w')
  (first | exact ⟨lc0, HB4.drew⟩ | go_keep) (fail))
 all_goals (rename_i hheld)
 all_goals go_wp2
 all_goals exact bodyPost_ret (v := .tuple #[.int .i64 1, .int .i64 x]) (by simp [results, Try.results105, go_sem]) rfl ⟨by rw [HGX.out], by rw [HCB.out]; exact hheld.2⟩
end Go.Proofs.Ytampjndfhpjheaa
namespace Go.Proofs.Ytampjndfhpjheaa
open Go.RowKit
set_option maxRecDepth 100000 in
theorem read_c (sel : Bool) (ow0 : Nat → Nat) (tb : Nat) (sl : Option Addr) (cl : Nat) (l : List Int) (w : World) (ht : Tabs w ow0 tb tabT) (hr : IsInts w sl l.length (gl l)) (hs : ∀ a, sl = some a → a.block < w.heap.size) (hcl : l.length ≤ cl) (hl : l.length < 4611686018427387904) (hkeys : ∀ x ∈ l, inKey x) :
  Calls Try.prog 43 #[.pointer (some ⟨tb, 0, none⟩), .bool sel, .slice sl l.length cl] w fun e w' => e = .returned (.tuple #[.agg (readP sel l).2.cells, .int .i64 ((readP sel l).1 : Nat)]) ∧ Below w.heap.size w w' := by
 cases sel
 ·
  rcases cls_5 false l with h | h | h | h | h
  · exact read_false0 ow0 tb sl cl l w ht hr hs hcl hl hkeys h
  · exact read_false1 ow0 tb sl cl l w ht hr hs hcl hl hkeys h
  · exact read_false2 ow0 tb sl cl l w ht hr hs hcl hl hkeys h
  · exact read_false3 ow0 tb sl cl l w ht hr hs hcl hl hkeys h
  · exact read_false4 ow0 tb sl cl l w ht hr hs hcl hl hkeys h
 ·
  rcases cls_sel l with h | h | h
  · exact read_true0 ow0 tb sl cl l w ht hr hs hcl hl hkeys h
  · exact read_true1 ow0 tb sl cl l w ht hr hs hcl hl hkeys h
  · exact read_true2 ow0 tb sl cl l w ht hr hs hcl hl hkeys h
end Go.Proofs.Ytampjndfhpjheaa
