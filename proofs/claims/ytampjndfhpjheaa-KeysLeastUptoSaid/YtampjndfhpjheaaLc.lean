/- Plain: what Spell takes is whole: a row behind its register and its count; so no earlier key ends it. No program. -/
import Derived.Test.YtampjndfhpjheaaLa
import Derived.Test.YtampjndfhpjheaaSe
namespace Go.Proofs.Ytampjndfhpjheaa
set_option linter.unusedVariables false
theorem dgB {n : Int} (h0 : 0 ≤ n) (h1 : n ≤ 9) : digB (48 + n) = true := by unfold digB; rw [decide_eq_true (by omega), decide_eq_true (by omega)]; rfl
theorem dg1B {n : Int} (h0 : 1 ≤ n) (h1 : n ≤ 9) : dig1B (48 + n) = true := by unfold dig1B; rw [decide_eq_true (by omega), decide_eq_true (by omega)]; rfl
theorem digits_okN : ∀ (f : Nat) (n : Int) (out : List Int), (∀ y ∈ out, digB y = true) → 0 < n → n ≤ 9999 → n < 10 ^ f → okNum (digitsP f n out) := by
  intro f
  induction f with
  | zero => intro n out _ h0 _ h2; simp at h2; omega
  | succ f ih =>
    intro n out ho h0 h1 h2
    rw [digits_step h0 h1]
    have hm : 0 ≤ n % 10 ∧ n % 10 ≤ 9 := by omega
    have ho2 : ∀ y ∈ (48 + n % 10) :: out, digB y = true := fun y hy => by
      rcases List.mem_cons.1 hy with rfl | hy
      · exact dgB hm.1 hm.2
      · exact ho y hy
    by_cases h9 : n / 10 = 0
    · rw [h9, digits_end (by omega)]
      exact ⟨_, _, rfl, dg1B (by omega) hm.2, ho⟩
    · have hp : (10 : Int) ^ (f + 1) = 10 * 10 ^ f := by rw [Int.pow_succ, Int.mul_comm]
      rw [hp] at h2
      exact ih (n / 10) _ ho2 (by omega) (by omega) (by omega)
theorem digits5 (n : Int) : digitsP 5 n [] = [] ∨ okNum (digitsP 5 n []) := by
  by_cases h : 0 < n ∧ n ≤ 9999
  · exact .inr (digits_okN 5 n [] (fun y hy => by cases hy) h.1 h.2 (by rw [show (10 : Int) ^ 5 = 100000 from by decide]; omega))
  · exact .inl (digits_end h)
/-- the tokens of a head -/
inductive HeadT : List Tok → List Int → Prop
  | none : HeadT [] []
  | reg (y : Int) (h : y ≠ 0) : HeadT [.reg y] [34, y]
  | num (ds : List Int) (h : okNum ds) : HeadT [.num ds] ds
  | rn (y : Int) (ds : List Int) (hy : y ≠ 0) (h : okNum ds) : HeadT [.reg y, .num ds] ([34, y] ++ ds)
  | nr (y : Int) (ds : List Int) (hy : y ≠ 0) (h : okNum ds) : HeadT [.num ds, .reg y] (ds ++ [34, y])
theorem heads_tok {c : Cmd} {h : List Int} (hh : h ∈ headsP c) : ∃ ts, HeadT ts h := by
  unfold headsP at hh
  have hd := digits5 c.count
  generalize digitsP 5 c.count [] = ds at hh hd
  simp only [List.mem_cons, List.not_mem_nil, or_false] at hh
  by_cases hr : c.reg = 0
  · rw [if_pos hr, List.nil_append, List.append_nil, or_self] at hh
    subst hh
    rcases hd with rfl | hd
    · exact ⟨_, .none⟩
    · exact ⟨_, .num _ hd⟩
  · rw [if_neg hr] at hh
    rcases hd with rfl | hd
    · rw [List.append_nil, List.nil_append, or_self] at hh
      subst hh
      exact ⟨_, .reg _ hr⟩
    · rcases hh with rfl | rfl
      · exact ⟨_, .rn _ _ hr hd⟩
      · exact ⟨_, .nr _ _ hr hd⟩
theorem HeadT.flat {ts : List Tok} {h : List Int} (hh : HeadT ts h) : flatT ts = h := by
  cases hh <;> simp [flatT, Tok.keys]
theorem HeadT.ok {ts : List Tok} {h : List Int} (hh : HeadT ts h) : okT false ts := by
  cases hh with
  | none => trivial
  | reg y h => exact ⟨h, trivial⟩
  | num ds h => exact ⟨rfl, h, trivial⟩
  | rn y ds hy h => exact ⟨hy, rfl, h, trivial⟩
  | nr y ds hy h => exact ⟨rfl, h, hy, trivial⟩
theorem okNum.snoc {ds : List Int} (h : okNum ds) : okNum (ds ++ [48]) := by
  obtain ⟨x, t, rfl, h1, h2⟩ := h
  refine ⟨x, t ++ [48], rfl, h1, fun y hy => ?_⟩
  rcases List.mem_append.1 hy with hy | hy
  · exact h2 y hy
  · rw [List.mem_singleton] at hy; rw [hy]; rfl
/-- a 0 behind a head that ends in a number goes on with the number -/
theorem HeadT.zero {ts : List Tok} {h : List Int} (hh : HeadT ts h) (he : endN false ts = true) : ∃ ts', okT false ts' ∧ flatT ts' = h ++ [48] := by
  cases hh with
  | none => cases he
  | reg y h => cases he
  | num _ hk => exact ⟨[.num (h ++ [48])], ⟨rfl, hk.snoc, trivial⟩, by simp [flatT, Tok.keys]⟩
  | rn y ds hy h => exact ⟨[.reg y, .num (ds ++ [48])], ⟨hy, rfl, h.snoc, trivial⟩, by simp [flatT, Tok.keys]⟩
  | nr y ds hy h => cases he
def opB (T : Rows) : Bool := T.all fun r => r.2.own.isEmpty || (!r.2.more && match r.1 with | [] => false | x :: _ => !digB x)
def zeroB (T : Rows) : Bool := T.all fun r => match r.1 with | 48 :: _ => decide (r.1 = [48]) && r.2.own.isEmpty && !r.2.more | _ => true
theorem op_n : opB normalT = true := by decide +kernel
theorem op_s : opB selectedT = true := by decide +kernel
theorem zero_n : zeroB normalT = true := by decide +kernel
theorem zero_s : zeroB selectedT = true := by decide +kernel
theorem top_op (sel : Bool) : opB (topT sel) = true := by cases sel; exact op_n; exact op_s
theorem top_zero (sel : Bool) : zeroB (topT sel) = true := by cases sel; exact zero_n; exact zero_s
theorem op_of {T : Rows} (h : opB T = true) {k : List Int} {b : Bd} (hm : (k, b) ∈ T) (ho : b.own ≠ []) : b.more = false ∧ ∀ x u, k = x :: u → digB x = false := by
  have h1 := List.all_eq_true.1 h _ hm
  simp only [Bool.or_eq_true, Bool.and_eq_true] at h1
  rcases h1 with h1 | ⟨h1, h2⟩
  · exact absurd (List.isEmpty_iff.1 h1) ho
  · refine ⟨by simpa using h1, fun x u e => ?_⟩
    subst e
    simpa using h2
theorem zero_of {T : Rows} (h : zeroB T = true) {u : List Int} {b : Bd} (hm : (48 :: u, b) ∈ T) : u = [] ∧ b.own = [] ∧ b.more = false := by
  have h1 := List.all_eq_true.1 h _ hm
  simp only [Bool.and_eq_true, decide_eq_true_eq] at h1
  exact ⟨by simpa using h1.1.1, List.isEmpty_iff.1 h1.1.2, by simpa using h1.2⟩
/-- what a row that Spell tries is -/
theorem rows_text {sel : Bool} {c : Cmd} {r : List Int} (h : r ∈ rowsP sel c) : (∃ k k' a b b', TextP (topT sel) r k [] k' a b b') ∨ (∃ b, (r, b) ∈ topT sel ∧ b.own ≠ []) := by
  have hput : ∀ {T : Rows}, opB T = true → r ∈ putP [] T c.arg → (∃ k a b, (k, b) ∈ T ∧ b.own = [] ∧ ((b.more = true ∧ a.length = 1) ∨ (b.more = false ∧ a = [])) ∧ r = k ++ a) ∨ (∃ b, (r, b) ∈ T ∧ b.own ≠ []) := by
    intro T hT h
    unfold putP at h
    obtain ⟨⟨k, b⟩, hm, rfl⟩ := List.mem_map.1 h
    simp only [List.nil_append]
    by_cases ho : b.own = []
    · cases hb : b.more
      · exact .inl ⟨k, [], b, hm, ho, .inr ⟨hb, rfl⟩, by simp⟩
      · exact .inl ⟨k, [c.arg], b, hm, ho, .inl ⟨hb, rfl⟩, by simp⟩
    · have h1 := (op_of hT hm ho).1
      rw [h1]
      exact .inr ⟨b, by simpa using hm, ho⟩
  have hfin : ((∃ k a b, (k, b) ∈ topT sel ∧ b.own = [] ∧ ((b.more = true ∧ a.length = 1) ∨ (b.more = false ∧ a = [])) ∧ r = k ++ a) ∨ (∃ b, (r, b) ∈ topT sel ∧ b.own ≠ [])) → (∃ k k' a b b', TextP (topT sel) r k [] k' a b b') ∨ (∃ b, (r, b) ∈ topT sel ∧ b.own ≠ []) := by
    rintro (⟨k, a, b, hm, ho, ha, rfl⟩ | h)
    · exact .inl ⟨k, [], a, b, b, hm, .inl ⟨ho, rfl, rfl, rfl⟩, ha, by simp⟩
    · exact .inr h
  cases sel
  · rw [rowsP_nor] at h
    rcases List.mem_append.1 h with h | h
    · exact hfin (hput op_n h)
    · unfold opsR2 at h
      rw [List.take_length] at h
      obtain ⟨⟨k, b⟩, hm, hr⟩ := List.mem_flatMap.1 h
      unfold opR at hr
      split at hr
      · cases hr
      · rename_i hn
        have ho : b.own ≠ [] := fun e => hn (.inl e)
        rcases List.mem_append.1 hr with hr | hr
        · unfold putP at hr
          obtain ⟨⟨k', b'⟩, hm', rfl⟩ := List.mem_map.1 hr
          have hu : (k', b') ∈ UT b.own := List.mem_append.2 (.inr hm')
          cases hb : b'.more
          · exact .inl ⟨k, k', [], b, b', hm, .inr ⟨ho, .inl rfl, hu, fun e => absurd rfl e⟩, .inr ⟨hb, rfl⟩, by simp⟩
          · exact .inl ⟨k, k', [c.arg], b, b', hm, .inr ⟨ho, .inl rfl, hu, fun e => absurd rfl e⟩, .inl ⟨hb, rfl⟩, by simp⟩
        · obtain ⟨o, ho', rfl⟩ := List.mem_map.1 hr
          have hu : (o, mlB) ∈ UT b.own := List.mem_append.2 (.inl (List.mem_map.2 ⟨o, ho', rfl⟩))
          exact .inl ⟨k, o, [], b, mlB, hm, .inr ⟨ho, .inl rfl, hu, fun e => absurd rfl e⟩, .inr ⟨rfl, rfl⟩, by simp⟩
  · exact hfin (hput op_s h)
theorem cand_form {sel : Bool} {c : Cmd} {h r : List Int} (hh : h ∈ headsP c) (hr : r ∈ rowsP sel c) (h1 : (readP sel (h ++ r)).1 = 1) : ∃ ts t k d k' a b b', Form sel (h ++ r) ts t k d k' a b b' := by
  obtain ⟨ts, ht⟩ := heads_tok hh
  have hx : ∃ x u, r = x :: u ∧ dig1B x = false ∧ x ≠ 34 := by
    rcases rows_text hr with ⟨k, k', a, b, b', h⟩ | ⟨b, hm, _⟩
    · obtain ⟨x, u, e, h2, h3⟩ := df_of (top_df sel) h.mem
      exact ⟨x, u ++ ([] ++ (k' ++ a)), by rw [h.eq, e]; rfl, h2, h3⟩
    · exact df_of (top_df sel) hm
  obtain ⟨x, u, rfl, hx1, hx34⟩ := hx
  have hhead : Head (endN false ts) (x :: u) := by
    refine ⟨x, u, rfl, hx34, hx1, fun he => ?_⟩
    refine Bool.eq_false_iff.2 fun hdx => ?_
    have h48 : x = 48 := by
      unfold digB at hdx
      unfold dig1B at hx1
      simp only [Bool.and_eq_true, decide_eq_true_eq, Bool.and_eq_false_iff, decide_eq_false_iff_not] at hdx hx1
      omega
    subst h48
    have hu : u = [] := by
      rcases rows_text hr with ⟨k, k', a, b, b', h⟩ | ⟨b, hm, ho⟩
      · obtain ⟨y, v, e, _, _⟩ := df_of (top_df sel) h.mem
        have h2 := h.eq
        rw [e] at h2
        injection h2 with e1 e2
        subst e1
        have hm := h.mem
        rw [e] at hm
        obtain ⟨hv, hown, hmore⟩ := zero_of (top_zero sel) hm
        subst hv
        rcases h.way with ⟨_, _, hk', hb'⟩ | ⟨h3, _⟩
        · subst hk'
          subst hb'
          rcases h.arg with ⟨h4, _⟩ | ⟨_, ha⟩
          · rw [hmore] at h4; cases h4
          · rw [e2, ha]; rfl
        · exact absurd hown h3
      · exact absurd (zero_of (top_zero sel) hm).2.1 ho
    subst hu
    obtain ⟨ts', hok, hf⟩ := ht.zero he
    have h2 := pref_more ts' ((h ++ [48]).length + 1) 0 0 (h ++ [48]) hok (by rw [hf]; exact List.prefix_refl _) (Nat.lt_succ_self _)
    unfold readP at h1
    rw [h2] at h1
    cases h1
  rcases rows_text hr with ⟨k, k', a, b, b', h⟩ | ⟨b, hm, ho⟩
  · exact ⟨ts, x :: u, k, [], k', a, b, b', ht.ok, hhead, h, by rw [ht.flat]⟩
  · have h2 := pref_of ts ((h ++ x :: u).length + 1) 0 0 (x :: u) ht.ok hhead (by rw [ht.flat]; exact Nat.lt_succ_self _)
    rw [ht.flat] at h2
    rw [read_row' h2, row_own0 (look_hit (top_pf sel) hm (List.prefix_refl _)) ho (s := 0) (by rw [List.drop_length, show (numP _ []).2 = [] from rfl, beh_nil]) (by decide)] at h1
    cases h1
/-- what Spell answers: its keys read as the command, and none ahead of the last one ends it -/
theorem spell_fed {mode : Int} {c : Cmd} {l : List Int} (h : spellP (selP mode) c = some l) : l ≠ [] ∧ fedP mode l = (c, 1) := by
  have h1 := (fold_best (selP mode) c (candsP (selP mode) c) none).1 l h
  rcases h1 with ⟨hm, ha⟩ | h1
  · obtain ⟨r, hr, hl⟩ := List.mem_flatMap.1 hm
    obtain ⟨hd, hh, rfl⟩ := List.mem_map.1 hl
    obtain ⟨ts, t, k, d, k', a, b, b', hf⟩ := cand_form hh hr (by rw [ha.2])
    have hne : hd ++ r ≠ [] := by
      obtain ⟨x, u, e, _⟩ := df_of (top_df _) hf.text.mem
      rw [hf.eq, hf.text.eq, e]
      simp
    refine ⟨hne, (fed_whole hne (fun e => ?_) (fun q h1 h2 _ => by rw [hf.more h1 h2])).trans (by rw [ha.2]; rfl)⟩
    have h2 := ha.1
    rw [List.contains_iff_mem.2 e] at h2
    cases h2
  · cases h1
end Go.Proofs.Ytampjndfhpjheaa
