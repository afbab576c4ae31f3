/- Plain: what Spell takes is whole: a row behind its register and its count; so no earlier key ends it. No program. Plain: digits: their value, their order. No program. Plain: no keys that spell a command are better than the ones that Spell tells. No program. Contract: shorter. Condition: two lists of whole numbers. -/
import Derived.Test.YtampjndfhpjheaaQAx
import Derived.Test.YtampjndfhpjheaaQAy
import Derived.Test.YtampjndfhpjheaaQAa
namespace Go.Proofs.Ytampjndfhpjheaa
set_option linter.unusedVariables false
theorem dgB {n : Int} (h0 : 0 ≤ n) (h1 : n ≤ 9) : digB (48 + n) = true := by unfold digB; rw [decide_eq_true (by omega), decide_eq_true (by omega)]; rfl
theorem dg1B {n : Int} (h0 : 1 ≤ n) (h1 : n ≤ 9) : dig1B (48 + n) = true := by unfold dig1B; rw [decide_eq_true (by omega), decide_eq_true (by omega)]; rfl
theorem digits_okN : ∀ (f : Nat) (n : Int) (out : List Int), (∀ y ∈ out, digB y = true) → 0 < n → n ≤ 9999 → n < 10 ^ f → okNum (digitsP f n out) := by
 intro f
 induction f with
 | zero => intro n out _ h0 _ h2; simp at h2; omega
 | succ f ih =>
  intro n out ho h0 h1 h2
  rw [digits_step h0 h1]
  have hm : 0 ≤ n % 10 ∧ n % 10 ≤ 9 := by omega
  have ho2 : ∀ y ∈ (48 + n % 10) :: out, digB y = true := fun y hy => by
   rcases List.mem_cons.1 hy with rfl | hy
   · exact dgB hm.1 hm.2
   · exact ho y hy
  by_cases h9 : n / 10 = 0
  ·
   rw [h9, digits_end (by omega)]
   exact ⟨_, _, rfl, dg1B (by omega) hm.2, ho⟩
  ·
   have hp : (10 : Int) ^ (f + 1) = 10 * 10 ^ f := by rw [Int.pow_succ, Int.mul_comm]
   rw [hp] at h2
   exact ih (n / 10) _ ho2 (by omega) (by omega) (by omega)
theorem digits5 (n : Int) : digitsP 5 n [] = [] ∨ okNum (digitsP 5 n []) := by
 by_cases h : 0 < n ∧ n ≤ 9999
 · exact .inr (digits_okN 5 n [] (fun y hy => by cases hy) h.1 h.2 (by rw [show (10 : Int) ^ 5 = 100000 from by decide]; omega))
 · exact .inl (digits_end h)
inductive HeadT : List Tok → List Int → Prop
 | none : HeadT [] []
 | reg (y : Int) (h : y ≠ 0) : HeadT [.reg y] [34, y]
 | num (ds : List Int) (h : okNum ds) : HeadT [.num ds] ds
 | rn (y : Int) (ds : List Int) (hy : y ≠ 0) (h : okNum ds) : HeadT [.reg y, .num ds] ([34, y] ++ ds)
 | nr (y : Int) (ds : List Int) (hy : y ≠ 0) (h : okNum ds) : HeadT [.num ds, .reg y] (ds ++ [34, y])
theorem heads_tok {c : Cmd} {h : List Int} (hh : h ∈ headsP c) : ∃ ts, HeadT ts h := by
 unfold headsP at hh
 have hd := digits5 c.count
 generalize digitsP 5 c.count [] = ds at hh hd
 simp only [List.mem_cons, List.not_mem_nil, or_false] at hh
 by_cases hr : c.reg = 0
 ·
  rw [if_pos hr, List.nil_append, List.append_nil, or_self] at hh
  subst hh
  rcases hd with rfl | hd
  · exact ⟨_, .none⟩
  · exact ⟨_, .num _ hd⟩
 ·
  rw [if_neg hr] at hh
  rcases hd with rfl | hd
  ·
   rw [List.append_nil, List.nil_append, or_self] at hh
   subst hh
   exact ⟨_, .reg _ hr⟩
  ·
   rcases hh with rfl | rfl
   · exact ⟨_, .rn _ _ hr hd⟩
   · exact ⟨_, .nr _ _ hr hd⟩
theorem HeadT.flat {ts : List Tok} {h : List Int} (hh : HeadT ts h) : flatT ts = h := by
 cases hh <;> simp [flatT, Tok.keys]
theorem HeadT.ok {ts : List Tok} {h : List Int} (hh : HeadT ts h) : okT false ts := by
 cases hh with
 | none => trivial
 | reg y h => exact ⟨h, trivial⟩
 | num ds h => exact ⟨rfl, h, trivial⟩
 | rn y ds hy h => exact ⟨hy, rfl, h, trivial⟩
 | nr y ds hy h => exact ⟨rfl, h, hy, trivial⟩
theorem okNum.snoc {ds : List Int} (h : okNum ds) : okNum (ds ++ [48]) := by
 obtain ⟨x, t, rfl, h1, h2⟩ := h
 refine ⟨x, t ++ [48], rfl, h1, fun y hy => ?_⟩
 rcases List.mem_append.1 hy with hy | hy
 · exact h2 y hy
 · rw [List.mem_singleton] at hy; rw [hy]; rfl
theorem HeadT.zero {ts : List Tok} {h : List Int} (hh : HeadT ts h) (he : endN false ts = true) : ∃ ts', okT false ts' ∧ flatT ts' = h ++ [48] := by
 cases hh with
 | none => cases he
 | reg y h => cases he
 | num _ hk => exact ⟨[.num (h ++ [48])], ⟨rfl, hk.snoc, trivial⟩, by simp [flatT, Tok.keys]⟩
 | rn y ds hy h => exact ⟨[.reg y, .num (ds ++ [48])], ⟨hy, rfl, h.snoc, trivial⟩, by simp [flatT, Tok.keys]⟩
 | nr y ds hy h => cases he
def opB (T : Rows) : Bool := T.all fun r => r.2.own.isEmpty || (!r.2.more && match r.1 with | [] => false | x :: _ => !digB x)
def zeroB (T : Rows) : Bool := T.all fun r => match r.1 with | 48 :: _ => decide (r.1 = [48]) && r.2.own.isEmpty && !r.2.more | _ => true
theorem op_n : opB normalT = true := by decide +kernel
theorem op_s : opB selectedT = true := by decide +kernel
theorem zero_n : zeroB normalT = true := by decide +kernel
theorem zero_s : zeroB selectedT = true := by decide +kernel
theorem top_zero (sel : Bool) : zeroB (topT sel) = true := by cases sel; exact zero_n; exact zero_s
theorem op_of {T : Rows} (h : opB T = true) {k : List Int} {b : Bd} (hm : (k, b) ∈ T) (ho : b.own ≠ []) : b.more = false ∧ ∀ x u, k = x :: u → digB x = false := by
 have h1 := List.all_eq_true.1 h _ hm
 simp only [Bool.or_eq_true, Bool.and_eq_true] at h1
 rcases h1 with h1 | ⟨h1, h2⟩
 · exact absurd (List.isEmpty_iff.1 h1) ho
 ·
  refine ⟨by simpa using h1, fun x u e => ?_⟩
  subst e
  simpa using h2
theorem zero_of {T : Rows} (h : zeroB T = true) {u : List Int} {b : Bd} (hm : (48 :: u, b) ∈ T) : u = [] ∧ b.own = [] ∧ b.more = false := by
 have h1 := List.all_eq_true.1 h _ hm
 simp only [Bool.and_eq_true, decide_eq_true_eq] at h1
 exact ⟨by simpa using h1.1.1, List.isEmpty_iff.1 h1.1.2, by simpa using h1.2⟩
theorem rows_text {sel : Bool} {c : Cmd} {r : List Int} (h : r ∈ rowsP sel c) : (∃ k k' a b b', TextP (topT sel) r k [] k' a b b') ∨ (∃ b, (r, b) ∈ topT sel ∧ b.own ≠ []) := by
 have hput : ∀ {T : Rows}, opB T = true → r ∈ putP [] T c.arg → (∃ k a b, (k, b) ∈ T ∧ b.own = [] ∧ ((b.more = true ∧ a.length = 1) ∨ (b.more = false ∧ a = [])) ∧ r = k ++ a) ∨ (∃ b, (r, b) ∈ T ∧ b.own ≠ []) := by
  intro T hT h
  unfold putP at h
  obtain ⟨⟨k, b⟩, hm, rfl⟩ := List.mem_map.1 h
  simp only [List.nil_append]
  by_cases ho : b.own = []
  ·
   cases hb : b.more
   · exact .inl ⟨k, [], b, hm, ho, .inr ⟨hb, rfl⟩, by simp⟩
   · exact .inl ⟨k, [c.arg], b, hm, ho, .inl ⟨hb, rfl⟩, by simp⟩
  ·
   have h1 := (op_of hT hm ho).1
   rw [h1]
   exact .inr ⟨b, by simpa using hm, ho⟩
 have hfin : ((∃ k a b, (k, b) ∈ topT sel ∧ b.own = [] ∧ ((b.more = true ∧ a.length = 1) ∨ (b.more = false ∧ a = [])) ∧ r = k ++ a) ∨ (∃ b, (r, b) ∈ topT sel ∧ b.own ≠ [])) → (∃ k k' a b b', TextP (topT sel) r k [] k' a b b') ∨ (∃ b, (r, b) ∈ topT sel ∧ b.own ≠ []) := by
  rintro (⟨k, a, b, hm, ho, ha, rfl⟩ | h)
  · exact .inl ⟨k, [], a, b, b, hm, .inl ⟨ho, rfl, rfl, rfl⟩, ha, by simp⟩
  · exact .inr h
 cases sel
 ·
  rw [rowsP_nor] at h
  rcases List.mem_append.1 h with h | h
  · exact hfin (hput op_n h)
  ·
   unfold opsR2 at h
   rw [List.take_length] at h
   obtain ⟨⟨k, b⟩, hm, hr⟩ := List.mem_flatMap.1 h
   unfold opR at hr
   split at hr
   · cases hr
   ·
    rename_i hn
    have ho : b.own ≠ [] := fun e => hn (.inl e)
    rcases List.mem_append.1 hr with hr | hr
    ·
     unfold putP at hr
     obtain ⟨⟨k', b'⟩, hm', rfl⟩ := List.mem_map.1 hr
     have hu : (k', b') ∈ UT b.own := List.mem_append.2 (.inr hm')
     cases hb : b'.more
     · exact .inl ⟨k, k', [], b, b', hm, .inr ⟨ho, .inl rfl, hu, fun e => absurd rfl e⟩, .inr ⟨hb, rfl⟩, by simp⟩
     · exact .inl ⟨k, k', [c.arg], b, b', hm, .inr ⟨ho, .inl rfl, hu, fun e => absurd rfl e⟩, .inl ⟨hb, rfl⟩, by simp⟩
    ·
     obtain ⟨o, ho', rfl⟩ := List.mem_map.1 hr
     have hu : (o, mlB) ∈ UT b.own := List.mem_append.2 (.inl (List.mem_map.2 ⟨o, ho', rfl⟩))
     exact .inl ⟨k, o, [], b, mlB, hm, .inr ⟨ho, .inl rfl, hu, fun e => absurd rfl e⟩, .inr ⟨rfl, rfl⟩, by simp⟩
 · exact hfin (hput op_s h)
theorem cand_form {sel : Bool} {c : Cmd} {h r : List Int} (hh : h ∈ headsP c) (hr : r ∈ rowsP sel c) (h1 : (readP sel (h ++ r)).1 = 1) : ∃ ts t k d k' a b b', Form sel (h ++ r) ts t k d k' a b b' := by
 obtain ⟨ts, ht⟩ := heads_tok hh
 have hx : ∃ x u, r = x :: u ∧ dig1B x = false ∧ x ≠ 34 := by
  rcases rows_text hr with ⟨k, k', a, b, b', h⟩ | ⟨b, hm, _⟩
  ·
   obtain ⟨x, u, e, h2, h3⟩ := df_of (top_df sel) h.mem
   exact ⟨x, u ++ ([] ++ (k' ++ a)), by rw [h.eq, e]; rfl, h2, h3⟩
  · exact df_of (top_df sel) hm
 obtain ⟨x, u, rfl, hx1, hx34⟩ := hx
 have hhead : Head (endN false ts) (x :: u) := by
  refine ⟨x, u, rfl, hx34, hx1, fun he => ?_⟩
  refine Bool.eq_false_iff.2 fun hdx => ?_
  have h48 : x = 48 := by
   unfold digB at hdx
   unfold dig1B at hx1
   simp only [Bool.and_eq_true, decide_eq_true_eq, Bool.and_eq_false_iff, decide_eq_false_iff_not] at hdx hx1
   omega
  subst h48
  have hu : u = [] := by
   rcases rows_text hr with ⟨k, k', a, b, b', h⟩ | ⟨b, hm, ho⟩
   ·
    obtain ⟨y, v, e, _, _⟩ := df_of (top_df sel) h.mem
    have h2 := h.eq
    rw [e] at h2
    injection h2 with e1 e2
    subst e1
    have hm := h.mem
    rw [e] at hm
    obtain ⟨hv, hown, hmore⟩ := zero_of (top_zero sel) hm
    subst hv
    rcases h.way with ⟨_, _, hk', hb'⟩ | ⟨h3, _⟩
    ·
     subst hk'
     subst hb'
     rcases h.arg with ⟨h4, _⟩ | ⟨_, ha⟩
     · rw [hmore] at h4; cases h4
     · rw [e2, ha]; rfl
    · exact absurd hown h3
   · exact absurd (zero_of (top_zero sel) hm).2.1 ho
  subst hu
  obtain ⟨ts', hok, hf⟩ := ht.zero he
  have h2 := pref_more ts' ((h ++ [48]).length + 1) 0 0 (h ++ [48]) hok (by rw [hf]; exact List.prefix_refl _) (Nat.lt_succ_self _)
  unfold readP at h1
  rw [h2] at h1
  cases h1
 rcases rows_text hr with ⟨k, k', a, b, b', h⟩ | ⟨b, hm, ho⟩
 · exact ⟨ts, x :: u, k, [], k', a, b, b', ht.ok, hhead, h, by rw [ht.flat]⟩
 ·
  have h2 := pref_of ts ((h ++ x :: u).length + 1) 0 0 (x :: u) ht.ok hhead (by rw [ht.flat]; exact Nat.lt_succ_self _)
  rw [ht.flat] at h2
  rw [read_row' h2, row_own0 (look_hit (top_pf sel) hm (List.prefix_refl _)) ho (s := 0) (by rw [List.drop_length, show (numP _ []).2 = [] from rfl, beh_nil]) (by decide)] at h1
  cases h1
theorem spell_fed {mode : Int} {c : Cmd} {l : List Int} (h : spellP (selP mode) c = some l) : l ≠ [] ∧ fedP mode l = (c, 1) := by
 have h1 := (fold_best (selP mode) c (candsP (selP mode) c) none).1 l h
 rcases h1 with ⟨hm, ha⟩ | h1
 ·
  obtain ⟨r, hr, hl⟩ := List.mem_flatMap.1 hm
  obtain ⟨hd, hh, rfl⟩ := List.mem_map.1 hl
  obtain ⟨ts, t, k, d, k', a, b, b', hf⟩ := cand_form hh hr (by rw [ha.2])
  have hne : hd ++ r ≠ [] := by
   obtain ⟨x, u, e, _⟩ := df_of (top_df _) hf.text.mem
   rw [hf.eq, hf.text.eq, e]
   simp
  refine ⟨hne, (fed_whole hne (fun e => ?_) (fun q h1 h2 _ => by rw [hf.more h1 h2])).trans (by rw [ha.2]; rfl)⟩
  have h2 := ha.1
  rw [List.contains_iff_mem.2 e] at h2
  cases h2
 · cases h1
end Go.Proofs.Ytampjndfhpjheaa
namespace Go.Proofs.Ytampjndfhpjheaa
set_option linter.unusedVariables false
def valA (acc : Int) (ds : List Int) : Int := ds.foldl (fun n x => 10 * n + (x - 48)) acc
def val0 (ds : List Int) : Int := valA 0 ds
def digs (ds : List Int) : Prop := ∀ y ∈ ds, digB y = true
theorem dig_bd {x : Int} (h : digB x = true) : 0 ≤ x - 48 ∧ x - 48 ≤ 9 := by
 unfold digB at h
 simp only [Bool.and_eq_true, decide_eq_true_eq] at h
 omega
theorem valA_cons (acc x : Int) (ds : List Int) : valA acc (x :: ds) = valA (10 * acc + (x - 48)) ds := rfl
theorem p10 (n : Nat) : (10 : Int) ^ (n + 1) = 10 * 10 ^ n := by rw [Int.pow_succ, Int.mul_comm]
theorem p10_pos (n : Nat) : 0 < (10 : Int) ^ n := Int.pow_pos (by decide)
theorem valA_eq : ∀ (ds : List Int) (acc : Int), valA acc ds = acc * 10 ^ ds.length + val0 ds := by
 intro ds
 induction ds with
 | nil => intro acc; show acc = acc * 10 ^ 0 + 0; simp
 | cons x t ih =>
  intro acc
  show valA acc (x :: t) = acc * 10 ^ (t.length + 1) + valA 0 (x :: t)
  rw [valA_cons, valA_cons, ih, ih (10 * 0 + (x - 48)), p10]
  generalize (10 : Int) ^ t.length = P
  have : (10 * acc + (x - 48)) * P = acc * (10 * P) + (10 * 0 + (x - 48)) * P := by
   rw [Int.add_mul, Int.mul_zero, Int.zero_add, Int.mul_comm 10 acc, Int.mul_assoc]
  omega
theorem val0_cons (x : Int) (t : List Int) : val0 (x :: t) = (x - 48) * 10 ^ t.length + val0 t := by
 show valA 0 (x :: t) = _
 rw [valA_cons, valA_eq]
 simp
theorem val0_app (X Z : List Int) : val0 (X ++ Z) = val0 X * 10 ^ Z.length + val0 Z := by
 show valA 0 (X ++ Z) = _
 unfold valA
 rw [List.foldl_append]
 exact valA_eq Z _
theorem val0_bd {ds : List Int} (h : digs ds) : 0 ≤ val0 ds ∧ val0 ds < 10 ^ ds.length := by
 induction ds with
 | nil => exact ⟨by decide, by decide⟩
 | cons x t ih =>
  have h1 := ih (fun y hy => h y (List.mem_cons_of_mem _ hy))
  have h2 := dig_bd (h x (List.mem_cons_self ..))
  rw [val0_cons, show (x :: t).length = t.length + 1 from rfl, p10]
  have hp := p10_pos t.length
  generalize (10 : Int) ^ t.length = P at *
  have h3 : 0 ≤ (x - 48) * P := Int.mul_nonneg h2.1 (by omega)
  have h4 : (x - 48) * P ≤ 9 * P := Int.mul_le_mul_of_nonneg_right h2.2 (by omega)
  omega
theorem less_app : ∀ {X Y : List Int} (A B : List Int), X.length = Y.length → digs X → digs Y → val0 X < val0 Y → lessP (X ++ A) (Y ++ B) = true := by
 intro X
 induction X with
 | nil =>
  intro Y A B hl _ _ h
  cases Y with
  | nil => exact absurd h (by decide)
  | cons y t => simp at hl
 | cons x s ih =>
  intro Y A B hl hX hY h
  cases Y with
  | nil => simp at hl
  | cons y t =>
   have hl' : s.length = t.length := by simpa using hl
   have bs := val0_bd (fun z hz => hX z (List.mem_cons_of_mem _ hz))
   have bt' := val0_bd (fun z hz => hY z (List.mem_cons_of_mem _ hz))
   rw [val0_cons, val0_cons, hl'] at h
   rw [hl'] at bs
   have hp := p10_pos t.length
   simp only [List.cons_append, lessP, Bool.or_eq_true, Bool.and_eq_true, decide_eq_true_eq]
   by_cases e : x = y
   ·
    subst e
    exact .inr ⟨rfl, ih A B hl' (fun z hz => hX z (List.mem_cons_of_mem _ hz)) (fun z hz => hY z (List.mem_cons_of_mem _ hz)) (by omega)⟩
   ·
    refine .inl (Classical.byContradiction fun hn => ?_)
    have hy : y - 48 + 1 ≤ x - 48 := by omega
    have h3 := Int.mul_le_mul_of_nonneg_right hy (Int.le_of_lt hp)
    rw [Int.add_mul, Int.one_mul] at h3
    omega
theorem val_uni : ∀ {X Y : List Int}, X.length = Y.length → digs X → digs Y → val0 X = val0 Y → X = Y := by
 intro X
 induction X with
 | nil =>
  intro Y hl _ _ _
  cases Y with
  | nil => rfl
  | cons y t => simp at hl
 | cons x s ih =>
  intro Y hl hX hY h
  cases Y with
  | nil => simp at hl
  | cons y t =>
   have hl' : s.length = t.length := by simpa using hl
   have bs := val0_bd (fun z hz => hX z (List.mem_cons_of_mem _ hz))
   have bt' := val0_bd (fun z hz => hY z (List.mem_cons_of_mem _ hz))
   rw [val0_cons, val0_cons, hl'] at h
   rw [hl'] at bs
   have hp := p10_pos t.length
   have e : x = y := by
    rcases Int.lt_trichotomy x y with hlt | e | hlt
    ·
     exfalso
     have hy : x - 48 + 1 ≤ y - 48 := by omega
     have h3 := Int.mul_le_mul_of_nonneg_right hy (Int.le_of_lt hp)
     rw [Int.add_mul, Int.one_mul] at h3
     omega
    · exact e
    ·
     exfalso
     have hy : y - 48 + 1 ≤ x - 48 := by omega
     have h3 := Int.mul_le_mul_of_nonneg_right hy (Int.le_of_lt hp)
     rw [Int.add_mul, Int.one_mul] at h3
     omega
   subst e
   rw [ih hl' (fun z hz => hX z (List.mem_cons_of_mem _ hz)) (fun z hz => hY z (List.mem_cons_of_mem _ hz)) (by omega)]
theorem valN_min : ∀ (ds : List Int) (v : Int), digs ds → 0 ≤ v → ds.foldl stepN (min v 9999) = min (valA v ds) 9999 := by
 intro ds
 induction ds with
 | nil => intro v _ _; rfl
 | cons x t ih =>
  intro v hd hv
  have h2 := dig_bd (hd x (List.mem_cons_self ..))
  rw [List.foldl_cons, valA_cons, ← ih (10 * v + (x - 48)) (fun y hy => hd y (List.mem_cons_of_mem _ hy)) (by omega)]
  congr 1
  unfold stepN
  omega
theorem valN_eq {ds : List Int} (h : digs ds) : valN ds = min (val0 ds) 9999 := valN_min ds 0 h (by omega)
theorem num_low {ds : List Int} (h : okNum ds) : (10 : Int) ^ (ds.length - 1) ≤ val0 ds := by
 have hd : digs ds := fun y hy => h.digs y hy
 obtain ⟨x, t, rfl, h1, h2⟩ := h
 rw [val0_cons]
 have hx : 1 ≤ x - 48 := by
  unfold dig1B at h1
  simp only [Bool.and_eq_true, decide_eq_true_eq] at h1
  omega
 have bt' := val0_bd (ds := t) h2
 have h3 := Int.mul_le_mul_of_nonneg_right hx (Int.le_of_lt (p10_pos t.length))
 show (10 : Int) ^ t.length ≤ _
 rw [Int.one_mul] at h3
 omega
theorem digP_val : ∀ (f : Nat) (n : Int) (out : List Int), 0 ≤ n → n ≤ 9999 → n < 10 ^ f → digs out → valA 0 (digitsP f n out) = valA n out := by
 intro f
 induction f with
 | zero =>
  intro n out h0 _ h2 _
  have e : n = 0 := by simp at h2; omega
  subst e; rfl
 | succ f ih =>
  intro n out h0 h1 h2 ho
  by_cases hn : 0 < n
  ·
   rw [digits_step hn h1]
   rw [p10] at h2
   rw [ih (n / 10) _ (by omega) (by omega) (by omega) (fun y hy => by
    rcases List.mem_cons.1 hy with rfl | hy
    · exact dgB (by omega) (by omega)
    · exact ho y hy), valA_cons]
   have : 10 * (n / 10) + (48 + n % 10 - 48) = n := by omega
   rw [this]
  ·
   have e : n = 0 := by omega
   subst e
   rw [digits_end (by omega)]
theorem dig_val {n : Int} (h0 : 0 ≤ n) (h1 : n ≤ 9999) : val0 (digitsP 5 n []) = n :=
 digP_val 5 n [] h0 h1 (by rw [show (10 : Int) ^ 5 = 100000 from by decide]; omega) (fun y hy => by cases hy)
theorem dig_digs (n : Int) : digs (digitsP 5 n []) := by
 rcases digits5 n with h | h
 · rw [h]; intro y hy; cases hy
 · exact fun y hy => h.digs y hy
theorem pow_lt_inv {m k : Nat} (h : (10 : Int) ^ m < 10 ^ k) : m < k := by
 refine Nat.lt_of_not_le fun hk => ?_
 have h1 : (10 : Int) ^ k ≤ 10 ^ m := by
  obtain ⟨j, rfl⟩ := Nat.exists_eq_add_of_le hk
  rw [Int.pow_add]
  have h2 := p10_pos k
  have h3 := p10_pos j
  have h4 : (10 : Int) ^ k * 1 ≤ 10 ^ k * 10 ^ j := Int.mul_le_mul_of_nonneg_left (by omega) (Int.le_of_lt h2)
  omega
 omega
theorem dig_len {n : Int} {m : Nat} (h0 : 0 ≤ n) (h1 : n ≤ 9999) (hm : n < 10 ^ m) : (digitsP 5 n []).length ≤ m := by
 rcases digits5 n with h | h
 · rw [h]; exact Nat.zero_le _
 ·
  have h2 := num_low h
  rw [dig_val h0 h1] at h2
  have h3 := pow_lt_inv (Int.lt_of_le_of_lt h2 hm)
  omega
theorem dig_nil {n : Int} (h0 : 0 ≤ n) (h1 : n ≤ 9999) : digitsP 5 n [] = [] ↔ n = 0 := by
 constructor
 ·
  intro h
  have := dig_val h0 h1
  rw [h] at this
  exact this.symm
 ·
  intro h
  rw [h]; rfl
theorem dig_same {ds : List Int} (h : okNum ds) (hl : (digitsP 5 (valN ds) []).length = ds.length) : digitsP 5 (valN ds) [] = ds := by
 have hd : digs ds := fun y hy => h.digs y hy
 have hv := valN_eq hd
 have hb := val0_bd hd
 have hlo := num_low h
 have h4 : (digitsP 5 (valN ds) []).length ≤ 4 := dig_len (by omega) (by omega) (by rw [show (10 : Int) ^ 4 = 10000 from by decide]; omega)
 have h5 : val0 ds < 10000 := by
  have h6 : (10 : Int) ^ ds.length ≤ 10 ^ 4 := by
   refine Int.not_lt.1 fun h => ?_
   have := pow_lt_inv h
   omega
  rw [show (10 : Int) ^ 4 = 10000 from by decide] at h6
  omega
 refine val_uni hl (dig_digs _) hd ?_
 rw [dig_val (by omega) (by omega), hv]
 omega
theorem dig_prod {X Y : List Int} {n : Int} (hX : okNum X) (hY : okNum Y) (h0 : 0 ≤ n) (h1 : n ≤ 9999) (hn : n ≤ valN X * valN Y) (hl : (digitsP 5 n []).length = X.length + Y.length) (A B : List Int) : lessP (digitsP 5 n [] ++ A) (X ++ B) = true := by
 have dX : digs X := fun y hy => hX.digs y hy
 have dY : digs Y := fun y hy => hY.digs y hy
 have hd := dig_digs n
 have hv := dig_val h0 h1
 generalize digitsP 5 n [] = D at *
 obtain ⟨P, Z, rfl, hP⟩ : ∃ P Z, D = P ++ Z ∧ P.length = X.length := ⟨D.take X.length, D.drop X.length, (List.take_append_drop _ _).symm, by rw [List.length_take]; omega⟩
 have hZ : Z.length = Y.length := by rw [List.length_append] at hl; omega
 rw [val0_app, hZ] at hv
 have bZ := val0_bd (ds := Z) (fun y hy => hd y (List.mem_append.2 (.inr hy)))
 have bX := val0_bd dX
 have bY := val0_bd dY
 have lX := num_low hX
 have h2 : valN X * valN Y ≤ val0 X * val0 Y := Int.mul_le_mul (by rw [valN_eq dX]; omega) (by rw [valN_eq dY]; omega) (by rw [valN_eq dY]; omega) (by omega)
 have hpX := p10_pos (X.length - 1)
 have h3 : val0 X * val0 Y < val0 X * 10 ^ Y.length := Int.mul_lt_mul_of_pos_left bY.2 (by omega)
 have h4 : val0 P * 10 ^ Y.length < val0 X * 10 ^ Y.length := by omega
 have h5 : val0 P < val0 X := Int.lt_of_mul_lt_mul_right h4 (Int.le_of_lt (p10_pos _))
 rw [List.append_assoc]
 exact less_app (Z ++ A) B hP (fun y hy => hd y (List.mem_append.2 (.inl hy))) dX h5
def lenR : List Tok → Nat
 | [] => 0
 | .num _ :: ts => lenR ts
 | .reg _ :: ts => 2 + lenR ts
def lenD : List Tok → Nat
 | [] => 0
 | .num ds :: ts => ds.length + lenD ts
 | .reg _ :: ts => lenD ts
theorem flat_len : ∀ ts : List Tok, (flatT ts).length = lenR ts + lenD ts
 | [] => rfl
 | .num ds :: ts => by
  have := flat_len ts
  simp only [flatT, Tok.keys, lenR, lenD, List.length_append]; omega
 | .reg y :: ts => by
  have := flat_len ts
  simp only [flatT, Tok.keys, lenR, lenD, List.length_append, List.length_cons, List.length_nil]; omega
theorem num_bd {c v : Int} {p q : Nat} (h0 : 0 ≤ c) (hc : c < 10 ^ p) (hv0 : 0 ≤ v) (hv : v < 10 ^ q) : max c 1 * v < 10 ^ (p + q) := by
 rw [Int.pow_add]
 have hp := p10_pos p
 have hq := p10_pos q
 have h1 : max c 1 * v < max c 1 * 10 ^ q := Int.mul_lt_mul_of_pos_left hv (by omega)
 have h2 : max c 1 * 10 ^ q ≤ 10 ^ p * 10 ^ q := Int.mul_le_mul_of_nonneg_right (by omega) (Int.le_of_lt hq)
 omega
theorem valN_bd {ds : List Int} (h : okNum ds) : 1 ≤ valN ds ∧ valN ds ≤ 9999 ∧ valN ds < 10 ^ ds.length := by
 have hd : digs ds := fun y hy => h.digs y hy
 have h1 := valN_eq hd
 have h2 := val0_bd hd
 have h3 := num_low h
 have h4 := p10_pos (ds.length - 1)
 omega
theorem effs_bd : ∀ (ts : List Tok) (b : Bool) (r c : Int) (p : Nat), okT b ts → 0 ≤ c → c ≤ 9999 → c < 10 ^ p →
  0 ≤ (effs (r, c) ts).2 ∧ (effs (r, c) ts).2 ≤ 9999 ∧ (effs (r, c) ts).2 < 10 ^ (p + lenD ts)
 | [], _, r, c, p, _, h0, h1, h2 => ⟨h0, h1, h2⟩
 | .num ds :: ts, b, r, c, p, hk, h0, h1, h2 => by
  obtain ⟨_, hd, hk⟩ := hk
  have hv := valN_bd hd
  have hb := num_bd h0 h2 (by omega) hv.2.2
  have hm : 0 ≤ max c 1 * valN ds := Int.mul_nonneg (by omega) (by omega)
  have := effs_bd ts true r (min (max c 1 * valN ds) 9999) (p + ds.length) hk (by omega) (by omega) (by omega)
  rw [Nat.add_assoc] at this
  exact this
 | .reg y :: ts, b, r, c, p, hk, h0, h1, h2 => effs_bd ts false y c p hk.2 h0 h1 h2
theorem effs_reg : ∀ (ts : List Tok) (b : Bool) (r c : Int), okT b ts → (lenR ts = 0 → (effs (r, c) ts).1 = r) ∧ (lenR ts ≠ 0 → (effs (r, c) ts).1 ≠ 0 ∧ (effs (r, c) ts).1 ∈ flatT ts)
 | [], _, r, c, _ => ⟨fun _ => rfl, fun h => absurd rfl h⟩
 | .num ds :: ts, b, r, c, hk => by
  have := effs_reg ts true r (min (max c 1 * valN ds) 9999) hk.2.2
  exact ⟨this.1, fun h => ⟨(this.2 h).1, List.mem_append.2 (.inr (this.2 h).2)⟩⟩
 | .reg y :: ts, b, r, c, hk => by
  have := effs_reg ts false y c hk.2
  refine ⟨fun h => by simp [lenR] at h, fun _ => ?_⟩
  by_cases h0 : lenR ts = 0
  ·
   have e := this.1 h0
   have e' : (effs (r, c) (.reg y :: ts)).1 = y := e
   rw [e']
   exact ⟨hk.1, by simp [flatT, Tok.keys]⟩
  · exact ⟨(this.2 h0).1, List.mem_append.2 (.inr (this.2 h0).2)⟩
theorem tok0 {ts : List Tok} {b : Bool} (h : okT b ts) (hr : lenR ts = 0) : ts = [] ∨ ∃ ds, ts = [.num ds] ∧ okNum ds := by
 match ts, h, hr with
 | [], _, _ => exact .inl rfl
 | [.num ds], h, _ => exact .inr ⟨ds, rfl, h.2.1⟩
 | .num ds :: .num _ :: _, h, _ => cases h.2.2.1
 | .num ds :: .reg _ :: _, _, hr => simp [lenR] at hr
 | .reg _ :: _, _, hr => simp [lenR] at hr
theorem tok2 {ts : List Tok} (h : okT false ts) (hr : lenR ts = 2) : ∃ (n1 : List Tok) (y : Int) (n2 : List Tok), ts = n1 ++ (.reg y :: n2) ∧ y ≠ 0 ∧ (n1 = [] ∨ ∃ ds, n1 = [.num ds] ∧ okNum ds) ∧ (n2 = [] ∨ ∃ ds, n2 = [.num ds] ∧ okNum ds) := by
 match ts, h, hr with
 | [], _, hr => simp [lenR] at hr
 | .reg y :: ts, h, hr => exact ⟨[], y, ts, rfl, h.1, .inl rfl, tok0 h.2 (by simp [lenR] at hr; omega)⟩
 | [.num ds], _, hr => simp [lenR] at hr
 | .num ds :: .num _ :: _, h, _ => cases h.2.2.1
 | .num ds :: .reg y :: ts, h, hr => exact ⟨[.num ds], y, ts, rfl, h.2.2.1, .inr ⟨ds, rfl, h.2.1⟩, tok0 h.2.2.2 (by simp [lenR] at hr; omega)⟩
theorem lessP_asym {x y : List Int} (h : lessP x y = true) : lessP y x = false := Bool.eq_false_iff.2 fun e => by
 have := lessP_trans h e
 rw [lessP_irr] at this; cases this
theorem not_better {l c : List Int} (h : c.length < l.length ∨ (c.length ≤ l.length ∧ (c = l ∨ lessP c l = true))) : betterB l c = false := by
 unfold betterB
 rcases h with h | ⟨h, rfl | h2⟩
 · rw [decide_eq_false (by omega), decide_eq_false (by omega)]; rfl
 · exact better_irr c
 · rw [decide_eq_false (by omega), lessP_asym h2, Bool.and_false]; rfl
theorem lessP_pre (p a b : List Int) : lessP (p ++ a) (p ++ b) = lessP a b := by
 induction p with
 | nil => rfl
 | cons x t ih => simp [lessP, ih]
def c0D (ds : List Int) : Int := if ds = [] then 0 else min (max 0 1 * valN ds) 9999
theorem c0D_num {ds : List Int} (h : okNum ds) : c0D ds = valN ds := by
 have hne : ds ≠ [] := fun e => by have := h.pos; rw [e] at this; simp at this
 have := valN_bd h
 unfold c0D
 rw [if_neg hne]
 have h1 : max (0 : Int) 1 = 1 := by decide
 rw [h1, Int.one_mul]
 omega
theorem num_core {ds d : List Int} {x : Int} {u A B : List Int} (hs : ds = [] ∨ okNum ds) (hd : d = [] ∨ okNum d) (hx : d ≠ [] → 57 < x) (hl : (digitsP 5 (cntD (c0D ds) d) []).length = ds.length + d.length) :
  digitsP 5 (cntD (c0D ds) d) [] ++ (x :: u ++ A) = ds ++ (x :: u ++ (d ++ A)) ∨ lessP (digitsP 5 (cntD (c0D ds) d) [] ++ (x :: u ++ A)) (ds ++ (x :: u ++ (d ++ A))) = true := by
 rcases hd with rfl | hd
 ·
  have e : cntD (c0D ds) [] = c0D ds := if_pos rfl
  rw [e] at hl ⊢
  left
  rcases hs with rfl | hs
  · rfl
  ·
   rw [c0D_num hs] at hl ⊢
   rw [dig_same hs (by simpa using hl)]
   rfl
 ·
  have hne : d ≠ [] := fun e => by have := hd.pos; rw [e] at this; simp at this
  have hvd := valN_bd hd
  right
  rcases hs with rfl | hs
  ·
   have e : cntD (c0D []) d = min (max 0 1 * valN d) 9999 := if_neg hne
   rw [e] at hl ⊢
   rcases digits5 (min (max 0 1 * valN d) 9999) with h | h
   ·
    rw [h] at hl
    have := hd.pos
    simp at hl
    omega
   ·
    obtain ⟨z, v, hz, hz1, _⟩ := h
    rw [hz]
    have := hx hne
    have hz9 : z ≤ 57 := by
     unfold dig1B at hz1
     simp only [Bool.and_eq_true, decide_eq_true_eq] at hz1
     omega
    simp only [List.nil_append, List.cons_append, lessP, Bool.or_eq_true, decide_eq_true_eq]
    exact .inl (by omega)
  ·
   have hvs := valN_bd hs
   have e : cntD (c0D ds) d = min (max (valN ds) 1 * valN d) 9999 := by rw [c0D_num hs]; exact if_neg hne
   have hmx : max (valN ds) 1 = valN ds := by omega
   rw [hmx] at e
   have hm : 0 ≤ valN ds * valN d := Int.mul_nonneg (by omega) (by omega)
   rw [e] at hl ⊢
   exact dig_prod hs hd (by omega) (by omega) (by omega) hl _ _
def opxB (T : Rows) : Bool := T.all fun r => r.2.own.isEmpty || match r.1 with | [] => false | x :: _ => decide (57 < x)
theorem opx_n : opxB normalT = true := by decide +kernel
theorem opx_s : opxB selectedT = true := by decide +kernel
theorem opx_of {sel : Bool} {x : Int} {u : List Int} {b : Bd} (hm : (x :: u, b) ∈ topT sel) (ho : b.own ≠ []) : 57 < x := by
 have h : opxB (topT sel) = true := by cases sel; exact opx_n; exact opx_s
 have h1 := List.all_eq_true.1 h _ hm
 simp only [Bool.or_eq_true, decide_eq_true_eq] at h1
 rcases h1 with h1 | h1
 · exact absurd (List.isEmpty_iff.1 h1) ho
 · exact h1
theorem row_in {sel : Bool} {t k d k' a : List Int} {b b' : Bd} {c : Cmd} (h : TextP (topT sel) t k d k' a b b') (hv : c.verb = b.verb) (ha : ∀ x, a = [x] → c.arg = x) : k ++ (k' ++ a) ∈ rowsP sel c ∧ TextP (topT sel) (k ++ (k' ++ a)) k [] k' a b b' := by
 have ht : TextP (topT sel) (k ++ (k' ++ a)) k [] k' a b b' := by
  refine ⟨h.mem, ?_, h.arg, rfl⟩
  rcases h.way with ⟨h1, _, h3, h4⟩ | ⟨h1, _, h3, _⟩
  · exact .inl ⟨h1, rfl, h3, h4⟩
  · exact .inr ⟨h1, .inl rfl, h3, fun e => absurd rfl e⟩
 refine ⟨?_, ht⟩
 have hput : ∀ {T : Rows} {p q : List Int} {bb : Bd}, (q, bb) ∈ T → ((bb.more = true ∧ a.length = 1) ∨ (bb.more = false ∧ a = [])) → p ++ (q ++ a) ∈ putP p T c.arg := by
  intro T p q bb hm hb
  unfold putP
  refine List.mem_map.2 ⟨(q, bb), hm, ?_⟩
  rcases hb with ⟨h1, h2⟩ | ⟨h1, rfl⟩
  ·
   obtain ⟨x, rfl⟩ := List.length_eq_one_iff.1 h2
   simp only [h1, if_true, ha x rfl, List.append_assoc]
  · simp [h1]
 rcases h.way with ⟨h1, _, rfl, rfl⟩ | ⟨h1, _, h3, _⟩
 ·
  have hm : [] ++ (k ++ a) ∈ putP [] (topT sel) c.arg := hput h.mem h.arg
  cases sel
  · exact List.mem_append.2 (.inl hm)
  · exact hm
 ·
  cases sel
  ·
   rw [rowsP_nor]
   refine List.mem_append.2 (.inr ?_)
   unfold opsR2
   rw [List.take_length]
   refine List.mem_flatMap.2 ⟨(k, b), h.mem, ?_⟩
   unfold opR
   rw [if_neg (fun e => e.elim h1 (fun e => e hv.symm))]
   rcases List.mem_append.1 h3 with h3 | h3
   ·
    obtain ⟨o, ho, e⟩ := List.mem_map.1 h3
    injection e with e1 e2
    subst e1
    have ha0 : a = [] := by
     rcases h.arg with ⟨h4, _⟩ | ⟨_, h4⟩
     · rw [← e2] at h4; cases h4
     · exact h4
    rw [ha0, List.append_nil]
    exact List.mem_append.2 (.inr (List.mem_map.2 ⟨_, ho, rfl⟩))
   · exact List.mem_append.2 (.inl (hput h3 h.arg))
  · exact absurd (List.isEmpty_iff.1 (List.all_eq_true.1 sel_ownless _ h.mem)) h1
set_option linter.unusedVariables false
def regK (reg : Int) : List Int := if reg = 0 then [] else [34, reg]
theorem heads_eq (c : Cmd) : headsP c = [regK c.reg ++ digitsP 5 c.count [], digitsP 5 c.count [] ++ regK c.reg] := rfl
theorem dig_valN {n : Int} (h0 : 0 ≤ n) (h1 : n ≤ 9999) : valN (digitsP 5 n []) = n := by
 rw [valN_eq (dig_digs n), dig_val h0 h1]; omega
theorem hd_rn (reg n : Int) (h0 : 0 ≤ n) (h1 : n ≤ 9999) : ∃ ts, HeadT ts (regK reg ++ digitsP 5 n []) ∧ effs (0, 0) ts = (reg, n) := by
 have hv := dig_valN h0 h1
 have hmx : min (max (0 : Int) 1 * n) 9999 = n := by
  have h1 : max (0 : Int) 1 = 1 := by decide
  rw [h1, Int.one_mul]; omega
 by_cases hr : reg = 0
 ·
  subst hr
  rw [show regK 0 = [] from rfl, List.nil_append]
  rcases digits5 n with hd | hd
  ·
   have := (dig_nil h0 h1).1 hd
   subst this
   exact ⟨[], by rw [hd]; exact .none, rfl⟩
  · exact ⟨_, .num _ hd, by show ((0 : Int), min (max 0 1 * valN (digitsP 5 n [])) 9999) = _; rw [hv, hmx]⟩
 ·
  rw [show regK reg = [34, reg] from if_neg hr]
  rcases digits5 n with hd | hd
  ·
   have := (dig_nil h0 h1).1 hd
   subst this
   exact ⟨_, by rw [hd]; exact .reg _ hr, rfl⟩
  · exact ⟨_, .rn _ _ hr hd, by show (reg, min (max 0 1 * valN (digitsP 5 n [])) 9999) = _; rw [hv, hmx]⟩
theorem hd_nr (reg n : Int) (hr : reg ≠ 0) (h0 : 0 ≤ n) (h1 : n ≤ 9999) : ∃ ts, HeadT ts (digitsP 5 n [] ++ regK reg) ∧ effs (0, 0) ts = (reg, n) ∧ endN false ts = false := by
 have hv := dig_valN h0 h1
 have hmx : min (max (0 : Int) 1 * n) 9999 = n := by
  have h1 : max (0 : Int) 1 = 1 := by decide
  rw [h1, Int.one_mul]; omega
 rw [show regK reg = [34, reg] from if_neg hr]
 rcases digits5 n with hd | hd
 ·
  have := (dig_nil h0 h1).1 hd
  subst this
  exact ⟨_, by rw [hd]; exact .reg _ hr, rfl, rfl⟩
 · exact ⟨_, .nr _ _ hr hd, by show (reg, min (max 0 1 * valN (digitsP 5 n [])) 9999) = _; rw [hv, hmx], rfl⟩
theorem lenR_two : ∀ ts : List Tok, lenR ts ≠ 0 → 2 ≤ lenR ts
 | [], h => absurd rfl h
 | .num _ :: ts, h => lenR_two ts h
 | .reg _ :: ts, _ => by show 2 ≤ 2 + lenR ts; omega
theorem okNum.ne {ds : List Int} (h : okNum ds) : ds ≠ [] := fun e => by have := h.pos; rw [e] at this; simp at this
theorem cnt_bd {ts : List Tok} {d : List Int} (h : okT false ts) (hd : d = [] ∨ okNum d) : 0 ≤ cntD (effs (0, 0) ts).2 d ∧ cntD (effs (0, 0) ts).2 d ≤ 9999 ∧ cntD (effs (0, 0) ts).2 d < 10 ^ (lenD ts + d.length) := by
 have hb := effs_bd ts false 0 0 0 h (by decide) (by decide) (by decide)
 rw [Nat.zero_add] at hb
 unfold cntD
 rcases hd with rfl | hd
 · rw [if_pos rfl]; exact hb
 ·
  rw [if_neg hd.ne]
  have hv := valN_bd hd
  have h2 := num_bd hb.1 hb.2.2 (by omega) hv.2.2
  have hm : 0 ≤ max (effs (0, 0) ts).2 1 * valN d := Int.mul_nonneg (by omega) (by omega)
  exact ⟨by omega, by omega, by omega⟩
theorem Form.dok {sel : Bool} {l : List Int} {ts : List Tok} {t k d k' a : List Int} {b b' : Bd} (h : Form sel l ts t k d k' a b b') : (d = [] ∨ okNum d) ∧ (d ≠ [] → b.own ≠ []) := by
 rcases h.text.way with ⟨_, h2, _⟩ | ⟨h1, h2, _⟩
 · exact ⟨.inl h2, fun e => absurd h2 e⟩
 · exact ⟨h2, fun _ => h1⟩
theorem least_len {sel : Bool} {l : List Int} {ts : List Tok} {t k d k' a : List Int} {b b' : Bd} (h : Form sel l ts t k d k' a b b') :
  l.length = lenR ts + lenD ts + d.length + (k ++ (k' ++ a)).length ∧
  (regK (effs (0, 0) ts).1).length ≤ lenR ts ∧ (digitsP 5 (cntD (effs (0, 0) ts).2 d) []).length ≤ lenD ts + d.length := by
 have hc := cnt_bd h.ok h.dok.1
 refine ⟨?_, ?_, dig_len hc.1 hc.2.1 hc.2.2⟩
 ·
  have := flat_len ts
  rw [h.eq, h.text.eq]
  simp only [List.length_append] at *
  omega
 ·
  have h1 := effs_reg ts false 0 0 h.ok
  unfold regK
  by_cases h0 : lenR ts = 0
  · rw [if_pos (h1.1 h0)]; exact Nat.zero_le _
  · rw [if_neg (h1.2 h0).1]; exact lenR_two ts h0
theorem cand_acc {sel : Bool} {l : List Int} {ts ts' : List Tok} {t k d k' a h : List Int} {b b' : Bd} {c : Cmd} (hf : Form sel l ts t k d k' a b b') (h27 : 27 ∉ l)
  (hc : c = cmdOf (effs (0, 0) ts).1 (cntD (effs (0, 0) ts).2 d) b.verb b' a) (hh : h ∈ headsP c) (ht : HeadT ts' h) (he : effs (0, 0) ts' = (c.reg, c.count)) (hx : endN false ts' = true → ∀ x u, k = x :: u → digB x = false) :
  h ++ (k ++ (k' ++ a)) ∈ candsP sel c ∧ Acc sel c (h ++ (k ++ (k' ++ a))) := by
 have ha : ∀ x, a = [x] → c.arg = x := fun x e => by
  rw [hc]
  unfold cmdOf
  rcases hf.text.arg with ⟨h1, _⟩ | ⟨_, h1⟩
  · simp only [h1, if_true, e, List.headD_cons]
  · rw [h1] at e; cases e
 have hv : c.verb = b.verb := by rw [hc]; rfl
 obtain ⟨hr, htx⟩ := row_in hf.text hv ha
 refine ⟨List.mem_flatMap.2 ⟨_, hr, List.mem_map.2 ⟨h, hh, rfl⟩⟩, ?_, ?_⟩
 ·
  refine Bool.eq_false_iff.2 fun e => ?_
  have e := List.contains_iff_mem.1 e
  have hl : ∀ x ∈ t, x ∈ l := fun x hx => by rw [hf.eq]; exact List.mem_append.2 (.inr hx)
  rcases List.mem_append.1 e with e | e
  ·
   have h1 : ∀ z ∈ digitsP 5 c.count [], z ≠ 27 := fun z hz e => by
    have := dig_digs c.count z hz
    rw [e] at this; cases this
   have h2 : ∀ z ∈ regK c.reg, z ≠ 27 := fun z hz e => by
    unfold regK at hz
    split at hz
    · cases hz
    ·
     rename_i h0
     have hreg : c.reg = (effs (0, 0) ts).1 := by rw [hc]; rfl
     have h3 := effs_reg ts false 0 0 hf.ok
     by_cases h4 : lenR ts = 0
     · exact h0 (hreg.trans (h3.1 h4))
     ·
      have h5 := (h3.2 h4).2
      simp only [List.mem_cons, List.not_mem_nil, or_false] at hz
      rcases hz with hz | hz
      · rw [e] at hz; cases hz
      ·
       rw [← hreg, ← hz, e] at h5
       exact h27 (by rw [hf.eq]; exact List.mem_append.2 (.inl h5))
   rw [heads_eq] at hh
   simp only [List.mem_cons, List.not_mem_nil, or_false] at hh
   rcases hh with rfl | rfl <;> rcases List.mem_append.1 e with e | e
   · exact h2 _ e rfl
   · exact h1 _ e rfl
   · exact h1 _ e rfl
   · exact h2 _ e rfl
  ·
   refine h27 (hl _ ?_)
   rw [hf.text.eq]
   simp only [List.mem_append] at e ⊢
   rcases e with e | e | e
   · exact .inl e
   · exact .inr (.inr (.inl e))
   · exact .inr (.inr (.inr e))
 ·
  obtain ⟨x, u, hk, h1, h34⟩ := df_of (top_df sel) hf.text.mem
  have hF : Form sel (h ++ (k ++ (k' ++ a))) ts' (k ++ (k' ++ a)) k [] k' a b b' :=
   ⟨ht.ok, ⟨x, u ++ (k' ++ a), by rw [hk]; rfl, h34, h1, fun e => hx e x u hk⟩, htx, by rw [ht.flat]⟩
  have := hF.read []
  rw [List.append_nil, he] at this
  rw [this]
  rw [show cntD (c.reg, c.count).2 [] = c.count from if_pos rfl]
  show _ = (1, c)
  rw [hc]; rfl
theorem least_cand {sel : Bool} {l : List Int} {ts : List Tok} {t k d k' a : List Int} {b b' : Bd} {c : Cmd} (hf : Form sel l ts t k d k' a b b') (h27 : 27 ∉ l)
  (hc : c = cmdOf (effs (0, 0) ts).1 (cntD (effs (0, 0) ts).2 d) b.verb b' a) : ∃ x, x ∈ candsP sel c ∧ Acc sel c x ∧ betterB l x = false := by
 have hcn := cnt_bd hf.ok hf.dok.1
 obtain ⟨hl1, hl2, hl3⟩ := least_len hf
 have hreg : c.reg = (effs (0, 0) ts).1 := by rw [hc]; rfl
 have hcnt : c.count = cntD (effs (0, 0) ts).2 d := by rw [hc]; rfl
 rw [← hreg] at hl2
 rw [← hcnt] at hl3 hcn
 have hH := heads_eq c
 have hm1 : regK c.reg ++ digitsP 5 c.count [] ∈ headsP c := by rw [hH]; exact List.mem_cons_self ..
 have hm2 : digitsP 5 c.count [] ++ regK c.reg ∈ headsP c := by rw [hH]; exact List.mem_cons_of_mem _ (List.mem_cons_self ..)
 obtain ⟨x, u, hk, hx1, hx34⟩ := df_of (top_df sel) hf.text.mem
 have hfirst : ∃ v, t = x :: v := ⟨u ++ (d ++ (k' ++ a)), by rw [hf.text.eq, hk]; rfl⟩
 have hlen : ∀ h : List Int, h.length = (regK c.reg).length + (digitsP 5 c.count []).length → (h ++ (k ++ (k' ++ a))).length ≤ l.length := fun h hh => by
  rw [List.length_append, hh, hl1]; omega
 have hopx : d ≠ [] → 57 < x := fun e => opx_of (hk ▸ hf.text.mem) (hf.dok.2 e)
 by_cases hdx : digB x = true
 ·
  -- a row that is the key 0
  have h48 : x = 48 := by
   unfold digB at hdx
   unfold dig1B at hx1
   simp only [Bool.and_eq_true, decide_eq_true_eq, Bool.and_eq_false_iff, decide_eq_false_iff_not] at hdx hx1
   omega
  subst h48
  have hz := zero_of (top_zero sel) (hk ▸ hf.text.mem)
  have hd0 : d = [] := by
   rcases hf.text.way with ⟨_, h2, _⟩ | ⟨h1, _⟩
   · exact h2
   · exact absurd hz.2.1 h1
  have hend : endN false ts = false := by
   obtain ⟨y, v, e, _, _, h3⟩ := hf.head
   obtain ⟨v', e'⟩ := hfirst
   rw [e'] at e
   injection e with e1 _
   refine Bool.eq_false_iff.2 fun e2 => ?_
   have := h3 e2
   rw [← e1, hdx] at this; cases this
  by_cases hr0 : c.reg = 0
  ·
   have hR := effs_reg ts false 0 0 hf.ok
   have hR0 : lenR ts = 0 := by
    by_cases h4 : lenR ts = 0
    · exact h4
    · exact absurd (hreg.symm.trans hr0) (hR.2 h4).1
   rcases tok0 hf.ok hR0 with rfl | ⟨ds, rfl, _⟩
   ·
    have hc0 : c.count = 0 := by rw [hcnt, hd0]; rfl
    obtain ⟨ts', ht, he⟩ := hd_rn c.reg c.count hcn.1 hcn.2.1
    have hnil : regK c.reg ++ digitsP 5 c.count [] = [] := by rw [hr0, hc0]; rfl
    have hts : endN false ts' = false := by
     rw [hnil] at ht
     generalize hq : ([] : List Int) = q at ht
     cases ht with
     | none => rfl
     | reg y h => cases hq
     | num _ h => exact absurd hq.symm h.ne
     | rn y ds hy h => cases hq
     | nr y ds hy h => exact rfl
    have hA := cand_acc hf h27 hc hm1 ht he (fun e => by rw [hts] at e; cases e)
    refine ⟨_, hA.1, hA.2, not_better (.inr ⟨hlen _ (List.length_append ..), .inl ?_⟩)⟩
    rw [hnil, hf.eq, hf.text.eq, hd0]; rfl
   · cases hend
  ·
   obtain ⟨ts', ht, he, hts⟩ := hd_nr c.reg c.count hr0 hcn.1 hcn.2.1
   have hA := cand_acc hf h27 hc hm2 ht he (fun e => by rw [hts] at e; cases e)
   refine ⟨_, hA.1, hA.2, not_better ?_⟩
   have hle := hlen (digitsP 5 c.count [] ++ regK c.reg) (by rw [List.length_append]; omega)
   by_cases hlt : ((digitsP 5 c.count [] ++ regK c.reg) ++ (k ++ (k' ++ a))).length < l.length
   · exact .inl hlt
   ·
    refine .inr ⟨hle, ?_⟩
    have hrl : (regK c.reg).length = 2 := by rw [show regK c.reg = [34, c.reg] from if_neg hr0]; rfl
    rw [List.length_append, List.length_append, hl1] at hlt
    obtain ⟨n1, y, n2, rfl, hy, h1, h2⟩ := tok2 hf.ok (by omega)
    have hn2 : n2 = [] := by
     rcases h2 with h2 | ⟨ds, rfl, _⟩
     · exact h2
     · rcases h1 with rfl | ⟨_, rfl, _⟩ <;> cases hend
    subst hn2
    have hflat : ∃ ds, (ds = [] ∨ okNum ds) ∧ flatT (n1 ++ [.reg y]) = ds ++ [34, y] ∧ effs (0, 0) (n1 ++ [.reg y]) = (y, c0D ds) ∧ lenD (n1 ++ [.reg y]) = ds.length := by
     rcases h1 with rfl | ⟨ds, rfl, hds⟩
     · exact ⟨[], .inl rfl, rfl, rfl, rfl⟩
     · exact ⟨ds, .inr hds, by simp [flatT, Tok.keys], by unfold c0D; rw [if_neg hds.ne]; rfl, by simp [lenD]⟩
    obtain ⟨ds, hds, hfl, hef, hld⟩ := hflat
    rw [hef] at hreg hcnt
    have hreg : c.reg = y := hreg
    have hcnt : c.count = cntD (c0D ds) d := hcnt
    rw [hd0] at hcnt hlt
    rw [hld] at hlt hl3
    rw [hd0] at hl3
    have hnc := num_core (x := 34) (u := [y]) (A := k ++ (k' ++ a)) (B := []) hds (.inl rfl) (fun e => absurd rfl e) (by rw [← hcnt]; simp only [List.length_nil] at *; omega)
    rw [hf.eq, hf.text.eq, hfl, hd0, hcnt, hreg, show regK y = [34, y] from if_neg hy]
    simpa only [List.append_assoc, List.nil_append, List.cons_append] using hnc
 ·
  have hdx : digB x = false := by simpa using hdx
  obtain ⟨ts', ht, he⟩ := hd_rn c.reg c.count hcn.1 hcn.2.1
  have hA := cand_acc hf h27 hc hm1 ht he (fun _ y v e => by
   rw [hk] at e
   injection e with e1 _
   rw [← e1]; exact hdx)
  refine ⟨_, hA.1, hA.2, not_better ?_⟩
  have hle := hlen (regK c.reg ++ digitsP 5 c.count []) (List.length_append ..)
  by_cases hlt : ((regK c.reg ++ digitsP 5 c.count []) ++ (k ++ (k' ++ a))).length < l.length
  · exact .inl hlt
  ·
   refine .inr ⟨hle, ?_⟩
   rw [List.length_append, List.length_append, hl1] at hlt
   by_cases hr0 : c.reg = 0
   ·
    have hRn : regK c.reg = [] := if_pos hr0
    rw [hRn] at hlt
    obtain ⟨ds, hds, hfl, hef, hld⟩ : ∃ ds, (ds = [] ∨ okNum ds) ∧ flatT ts = ds ∧ effs (0, 0) ts = (0, c0D ds) ∧ lenD ts = ds.length := by
     have hR0 : lenR ts = 0 := by simp only [List.length_nil] at hlt; omega
     rcases tok0 hf.ok hR0 with rfl | ⟨ds, rfl, hds⟩
     · exact ⟨[], .inl rfl, rfl, rfl, rfl⟩
     · exact ⟨ds, .inr hds, by simp [flatT, Tok.keys], by unfold c0D; rw [if_neg hds.ne]; rfl, by simp [lenD]⟩
    rw [hef] at hcnt
    have hcnt : c.count = cntD (c0D ds) d := hcnt
    rw [hld] at hlt hl3
    have hnc := num_core (x := x) (u := u) (A := k' ++ a) (B := []) hds hf.dok.1 hopx (by rw [← hcnt]; simp only [List.length_nil] at hlt; omega)
    rw [hf.eq, hf.text.eq, hfl, hcnt, hRn, hk]
    simpa only [List.append_assoc, List.nil_append, List.cons_append] using hnc
   ·
    have hRn : regK c.reg = [34, c.reg] := if_neg hr0
    have hrl : (regK c.reg).length = 2 := by rw [hRn]; rfl
    obtain ⟨n1, y, n2, rfl, hy, h1, h2⟩ := tok2 hf.ok (by omega)
    rcases h1 with rfl | ⟨ds1, rfl, hds1⟩
    ·
     obtain ⟨ds, hds, hfl, hef, hld⟩ : ∃ ds, (ds = [] ∨ okNum ds) ∧ flatT ([] ++ (.reg y :: n2)) = [34, y] ++ ds ∧ effs (0, 0) ([] ++ (.reg y :: n2)) = (y, c0D ds) ∧ lenD ([] ++ (.reg y :: n2)) = ds.length := by
      rcases h2 with rfl | ⟨ds, rfl, hds⟩
      · exact ⟨[], .inl rfl, rfl, rfl, rfl⟩
      · exact ⟨ds, .inr hds, by simp [flatT, Tok.keys], by unfold c0D; rw [if_neg hds.ne]; rfl, by simp [lenD]⟩
     rw [hef] at hcnt hreg
     have hcnt : c.count = cntD (c0D ds) d := hcnt
     have hreg : c.reg = y := hreg
     rw [hld] at hlt hl3
     have hnc := num_core (x := x) (u := u) (A := k' ++ a) (B := []) hds hf.dok.1 hopx (by rw [← hcnt]; omega)
     rw [hf.eq, hf.text.eq, hfl, hcnt, hRn, hk, hreg]
     rcases hnc with hnc | hnc
     ·
      left
      have := congrArg (fun z => [34, y] ++ z) hnc
      simpa only [List.append_assoc, List.nil_append, List.cons_append] using this
     ·
      right
      rw [← lessP_pre [34, y]] at hnc
      simpa only [List.append_assoc, List.nil_append, List.cons_append] using hnc
    ·
     right
     obtain ⟨z, v, rfl, hz1, _⟩ := hds1
     rw [hf.eq, hRn]
     have hz : 34 < z := by
      unfold dig1B at hz1
      simp only [Bool.and_eq_true, decide_eq_true_eq] at hz1
      omega
     simp [flatT, Tok.keys, lessP, hz]
theorem least_law {mode : Int} {l : List Int} {c : Cmd} (h : fedP mode l = (c, 1)) : ∃ best, spellP (selP mode) c = some best ∧ betterB l best = false ∧ best ≠ [] ∧ fedP mode best = (c, 1) := by
 obtain ⟨hne, h27, hr, hm⟩ := fed_inv h
 obtain ⟨p, s, ts, t, k, d, k', a, b, b', hl, hf⟩ := form_inv (sel := selP mode) (l := l) (by rw [hr])
 have hs : s = [] := by
  by_cases h0 : s = []
  · exact h0
  ·
   exfalso
   have hpne : p ≠ [] := by
    obtain ⟨x, u, e, _⟩ := df_of (top_df _) hf.text.mem
    rw [hf.eq, hf.text.eq, e]
    simp
   have h1 := hm p ⟨s, hl.symm⟩ (by rw [hl, List.length_append]; have := List.length_pos_iff.2 h0; omega) hpne
   have h2 := hf.read []
   rw [List.append_nil] at h2
   rw [h2] at h1; cases h1
 subst hs
 rw [List.append_nil] at hl
 subst hl
 have hc : c = cmdOf (effs (0, 0) ts).1 (cntD (effs (0, 0) ts).2 d) b.verb b' a := by
  have h2 := hf.read []
  rw [List.append_nil, hr] at h2
  exact (Prod.mk.inj h2).2
 obtain ⟨x, hx1, hx2, hx3⟩ := least_cand hf h27 hc
 obtain ⟨best, hb1, hb2⟩ := (fold_best (selP mode) c (candsP (selP mode) c) none).2 x (.inl ⟨hx1, hx2⟩)
 have hsf := spell_fed (mode := mode) hb1
 refine ⟨best, hb1, Bool.eq_false_iff.2 fun e => ?_, hsf.1, hsf.2⟩
 rcases better_total hb2 with h1 | h1
 · have := better_trans e h1; rw [hx3] at this; cases this
 · rw [h1, hx3] at e; cases e
open Go.RowKit
set_option linter.unusedVariables false
def shortB (a b : List Int) : Bool := !betterB b a
theorem lessP_drop : ∀ (k : Nat) {a b : List Int}, (∀ j, j < k → gl a j = gl b j) → k ≤ a.length → a.length = b.length → lessP b a = lessP (b.drop k) (a.drop k)
 | 0, _, _, _, _, _ => rfl
 | k + 1, [], b, _, hk, _ => by simp at hk
 | k + 1, x :: a, [], _, _, hl => by simp at hl
 | k + 1, x :: a, y :: b, h, hk, hl => by
  have h0 := h 0 (Nat.succ_pos _)
  have e : x = y := h0
  subst e
  have := lessP_drop k (a := a) (b := b) (fun j hj => h (j + 1) (by omega)) (by simpa using hk) (by simpa using hl)
  show (decide (x < x) || decide (x = x) && lessP b a) = lessP (b.drop k) (a.drop k)
  rw [decide_eq_false (by omega), decide_eq_true rfl, Bool.true_and, Bool.false_or, this]
theorem shortB_ne {a b : List Int} {k : Nat} (h : ∀ j, j < k → gl a j = gl b j) (hk : k < a.length) (hl : a.length = b.length) (hne : gl a k ≠ gl b k) : shortB a b = decide (gl a k < gl b k) := by
 unfold shortB betterB
 rw [decide_eq_false (by omega), decide_eq_true (by omega), Bool.true_and, Bool.false_or, lessP_drop k h (by omega) hl]
 have ea : a.drop k = gl a k :: a.drop (k + 1) := by
  rw [List.drop_eq_getElem_cons hk]; unfold gl; rw [List.getD_eq_getElem?_getD, List.getElem?_eq_getElem hk]; rfl
 have eb : b.drop k = gl b k :: b.drop (k + 1) := by
  rw [List.drop_eq_getElem_cons (by omega)]; unfold gl; rw [List.getD_eq_getElem?_getD, List.getElem?_eq_getElem (by omega)]; rfl
 rw [ea, eb]
 show (!(decide (gl b k < gl a k) || decide (gl b k = gl a k) && _)) = _
 rw [decide_eq_false (p := gl b k = gl a k) (fun e => hne e.symm), Bool.false_and, Bool.or_false]
 by_cases e : gl a k < gl b k
 · rw [decide_eq_true e, decide_eq_false (by omega)]; rfl
 · rw [decide_eq_false e, decide_eq_true (by omega)]; rfl
theorem shortB_eq {a b : List Int} (h : ∀ j, j < a.length → gl a j = gl b j) (hl : a.length = b.length) : shortB a b = true := by
 have e : b = a := by
  refine List.ext_getElem hl.symm (fun j h1 h2 => ?_)
  have := h j h2
  unfold gl at this
  rw [List.getD_eq_getElem?_getD, List.getD_eq_getElem?_getD, List.getElem?_eq_getElem h1, List.getElem?_eq_getElem h2] at this
  exact this.symm
 unfold shortB
 rw [e, better_irr]; rfl
end Go.Proofs.Ytampjndfhpjheaa
