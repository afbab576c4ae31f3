/- Plain: the keys that spell a command, taken apart; what stands ahead of their last key wants more. No program. Plain: what is fed key by key; what Spell comes to reads as the command. No program. -/
import Derived.Test.YtampjndfhpjheaaYx
import Derived.Test.YtampjndfhpjheaaSc
namespace Go.Proofs.Ytampjndfhpjheaa
set_option linter.unusedVariables false
def PF (T : Rows) : Prop := T.Pairwise fun r s => r.1.isPrefixOf s.1 = false ∧ s.1.isPrefixOf r.1 = false
instance (T : Rows) : Decidable (PF T) := by unfold PF; infer_instance
def UT (own : List (List Int)) : Rows := own.map (fun k => (k, mlB)) ++ behindT
def dig1F (T : Rows) : Bool := T.all fun r => match r.1 with | [] => false | x :: _ => !dig1B x && decide (x ≠ 34)
theorem pf_n : PF normalT := by decide +kernel
theorem pf_s : PF selectedT := by decide +kernel
def utB (T : Rows) : Bool := T.all fun r => r.2.own.isEmpty || (decide (PF (UT r.2.own)) && dig1F (UT r.2.own))
theorem ut_n : utB normalT = true := by decide +kernel
theorem ut_s : utB selectedT = true := by decide +kernel
theorem df_n : dig1F normalT = true := by decide +kernel
theorem df_s : dig1F selectedT = true := by decide +kernel
theorem top_pf (sel : Bool) : PF (topT sel) := by cases sel; exact pf_n; exact pf_s
theorem top_ut (sel : Bool) : utB (topT sel) = true := by cases sel; exact ut_n; exact ut_s
theorem top_df (sel : Bool) : dig1F (topT sel) = true := by cases sel; exact df_n; exact df_s
theorem df_of {T : Rows} (h : dig1F T = true) {k : List Int} {b : Bd} (hm : (k, b) ∈ T) : ∃ x u, k = x :: u ∧ dig1B x = false ∧ x ≠ 34 := by
  have h1 := List.all_eq_true.1 h _ hm
  cases k with
  | nil => cases h1
  | cons x u =>
    simp only [Bool.and_eq_true, Bool.not_eq_true', decide_eq_true_eq] at h1
    exact ⟨x, u, rfl, h1.1, h1.2⟩
theorem ut_of {T : Rows} (h : utB T = true) {k : List Int} {b : Bd} (hm : (k, b) ∈ T) (ho : b.own ≠ []) : PF (UT b.own) ∧ dig1F (UT b.own) = true := by
  have h1 := List.all_eq_true.1 h _ hm
  simp only [Bool.or_eq_true, Bool.and_eq_true, decide_eq_true_eq] at h1
  rcases h1 with h1 | h1
  · exact absurd (List.isEmpty_iff.1 h1) ho
  · exact h1
theorem pf_eq {T : Rows} (h : PF T) {r s : List Int × Bd} (hr : r ∈ T) (hs : s ∈ T) (hp : r.1 <+: s.1) : r = s := by
  obtain ⟨i, hi, rfl⟩ := List.mem_iff_getElem.1 hr
  obtain ⟨j, hj, rfl⟩ := List.mem_iff_getElem.1 hs
  have hp' := List.isPrefixOf_iff_prefix.2 hp
  have h1 := List.pairwise_iff_getElem.1 h
  rcases Nat.lt_trichotomy i j with e | e | e
  · have := (h1 i j hi hj e).1; rw [this] at hp'; cases hp'
  · subst e; rfl
  · have := (h1 j i hj hi e).2; rw [this] at hp'; cases hp'
theorem look_hit {T : Rows} (h : PF T) {k l : List Int} {b : Bd} (hm : (k, b) ∈ T) (hp : k <+: l) : lookG T l = (1, some (k, b)) := by
  unfold lookG
  cases hf : T.find? (fun r => r.1.isPrefixOf l) with
  | none =>
    have h1 := List.find?_eq_none.1 hf _ hm
    exact absurd (List.isPrefixOf_iff_prefix.2 hp) h1
  | some r =>
    have h1 : r.1 <+: l := List.isPrefixOf_iff_prefix.1 (List.find?_some (p := fun r : List Int × Bd => r.1.isPrefixOf l) hf)
    have h2 := List.mem_of_find?_eq_some hf
    have : r = (k, b) := by
      rcases List.prefix_or_prefix_of_prefix h1 hp with e | e
      · exact pf_eq h h2 hm e
      · exact (pf_eq h hm h2 e).symm
    rw [this]
theorem look_more {T : Rows} (h : PF T) {k l : List Int} {b : Bd} (hm : (k, b) ∈ T) (hp : l <+: k) (hl : l.length < k.length) : lookG T l = (0, none) := by
  unfold lookG
  have hf : T.find? (fun r => r.1.isPrefixOf l) = none := by
    refine List.find?_eq_none.2 fun r hr e => ?_
    have h1 : r.1 <+: l := List.isPrefixOf_iff_prefix.1 e
    have h2 := pf_eq h hr hm (h1.trans hp)
    rw [h2] at h1
    have h3 : k.length ≤ l.length := h1.length_le
    omega
  rw [hf]
  have hc : (l.isEmpty || T.any fun r => l.isPrefixOf r.1) = true := by
    rw [Bool.or_eq_true]
    exact .inr (List.any_eq_true.2 ⟨_, hm, List.isPrefixOf_iff_prefix.2 hp⟩)
  simp only [hc, if_true]
theorem look_inv {T : Rows} {l k : List Int} {b : Bd} (h : lookG T l = (1, some (k, b))) : (k, b) ∈ T ∧ k <+: l := by
  unfold lookG at h
  split at h
  · rename_i r e
    injection h with _ h
    injection h with h
    subst h
    exact ⟨List.mem_of_find?_eq_some e, List.isPrefixOf_iff_prefix.1 (List.find?_some (p := fun r : List Int × Bd => r.1.isPrefixOf l) e)⟩
  · split at h <;> cases h
theorem look_1 {T : Rows} {l : List Int} (h : (lookG T l).1 = 1) : ∃ k b, lookG T l = (1, some (k, b)) := by
  unfold lookG at *
  split at h
  · rename_i r e
    obtain ⟨k, b⟩ := r
    exact ⟨k, b, rfl⟩
  · split at h <;> cases h
theorem beh_look (own : List (List Int)) {l : List Int} (hl : l ≠ []) : behP own l = lookG (UT own) l := by
  have he : l.isEmpty = false := by cases l with | nil => exact absurd rfl hl | cons _ _ => rfl
  unfold behP UT lookG
  rw [if_neg hl, List.find?_append, List.any_append]
  cases h1 : (own.map fun k => (k, mlB)).find? (fun r => r.1.isPrefixOf l) with
  | some r => rfl
  | none =>
    simp only [he, Bool.false_or, Option.none_or]
    cases h2 : behindT.find? (fun r => r.1.isPrefixOf l) with
    | some r =>
      simp only
      cases (own.map fun k => (k, mlB)).any (fun r => l.isPrefixOf r.1) <;> rfl
    | none =>
      simp only
      cases (own.map fun k => (k, mlB)).any (fun r => l.isPrefixOf r.1) <;> cases behindT.any (fun r => l.isPrefixOf r.1) <;> rfl
theorem beh_nil (own : List (List Int)) : behP own [] = (0, none) := by unfold behP; rfl
/-- the text of a row, and of an operator's -/
structure TextP (T : Rows) (t k d k' a : List Int) (b b' : Bd) : Prop where
  mem : (k, b) ∈ T
  way : (b.own = [] ∧ d = [] ∧ k' = [] ∧ b' = b) ∨ (b.own ≠ [] ∧ (d = [] ∨ okNum d) ∧ (k', b') ∈ UT b.own ∧ (d ≠ [] → ∀ x u, k' = x :: u → digB x = false))
  arg : (b'.more = true ∧ a.length = 1) ∨ (b'.more = false ∧ a = [])
  eq : t = k ++ (d ++ (k' ++ a))
def cntD (cnt : Int) (d : List Int) : Int := if d = [] then cnt else min (max cnt 1 * valN d) 9999
def cmdOf (reg cnt verb : Int) (b : Bd) (a : List Int) : Cmd := ⟨reg, cnt, verb, if b.move = 33 ∧ 0 < cnt then 18 else b.move, if b.more then a.headD 0 else b.arg⟩
theorem fin_text {reg cnt verb : Int} {b : Bd} {a s : List Int} (h : (b.more = true ∧ a.length = 1) ∨ (b.more = false ∧ a = [])) : finP reg cnt verb b (a ++ s) = (1, cmdOf reg cnt verb b a) := by
  unfold finP cmdOf
  rcases h with ⟨h1, h2⟩ | ⟨h1, rfl⟩
  · obtain ⟨x, rfl⟩ : ∃ x, a = [x] := List.length_eq_one_iff.1 h2
    rw [h1]; rfl
  · rw [h1]; rfl
theorem num_text {d t : List Int} {cnt : Int} (hd : d = [] ∨ okNum d) (ht : ∀ x u, t = x :: u → dig1B x = false ∧ (d ≠ [] → digB x = false)) : numP cnt (d ++ t) = (cntD cnt d, t) := by
  rcases hd with rfl | hd
  · unfold cntD; rw [if_pos rfl]; exact numP_no (fun x u e => (ht x u e).1) cnt
  · have hne : d ≠ [] := fun e => by have := hd.pos; rw [e] at this; simp at this
    unfold cntD; rw [if_neg hne]; exact numP_of hd (fun x u e => (ht x u e).2 hne) cnt
theorem TextP.tail {T : Rows} {t k d k' a : List Int} {b b' : Bd} (h : TextP T t k d k' a b b') (hu : utB T = true) (ho : b.own ≠ []) (hk : (k', b') ∈ UT b.own) (s : List Int) : ∀ x u, k' ++ s = x :: u → dig1B x = false ∧ (d ≠ [] → digB x = false) := by
  intro x u e
  obtain ⟨y, v, hy, h1, _⟩ := df_of (ut_of hu h.mem ho).2 hk
  rw [hy] at e
  injection e with e1 _
  subst e1
  refine ⟨h1, fun hd => ?_⟩
  rcases h.way with ⟨e, _⟩ | ⟨_, _, _, h4⟩
  · exact absurd e ho
  · exact h4 hd y v hy
theorem text_read {T : Rows} {t k d k' a : List Int} {b b' : Bd} (hT : PF T) (hu : utB T = true) (h : TextP T t k d k' a b b') (reg cnt : Int) (s : List Int) : rowP T reg cnt (t ++ s) = (1, cmdOf reg (cntD cnt d) b.verb b' a) := by
  have h1 : lookG T (t ++ s) = (1, some (k, b)) := look_hit hT h.mem (by rw [h.eq, List.append_assoc]; exact List.prefix_append _ _)
  have hdrop : (t ++ s).drop k.length = (d ++ (k' ++ a)) ++ s := by rw [h.eq, List.append_assoc, List.drop_left]
  rcases h.way with ⟨ho, rfl, rfl, rfl⟩ | ⟨ho, hd, hk, hx⟩
  · rw [row_plain h1 ho, hdrop]
    exact fin_text h.arg
  · have hn : numP cnt ((t ++ s).drop k.length) = (cntD cnt d, k' ++ (a ++ s)) := by
      rw [hdrop, List.append_assoc, List.append_assoc]
      exact num_text hd (h.tail hu ho hk _)
    have hne : k' ++ (a ++ s) ≠ [] := by
      obtain ⟨y, v, hy, _, _⟩ := df_of (ut_of hu h.mem ho).2 hk
      rw [hy]; simp
    have hb : behP b.own (numP cnt ((t ++ s).drop k.length)).2 = (1, some (k', b')) := by
      rw [hn, beh_look _ hne]
      exact look_hit (ut_of hu h.mem ho).1 hk (List.prefix_append _ _)
    rw [row_own1 h1 ho hb, hn]
    simp only [List.drop_left]
    exact fin_text h.arg
theorem text_more {T : Rows} {t k d k' a : List Int} {b b' : Bd} (hT : PF T) (hu : utB T = true) (h : TextP T t k d k' a b b') (reg cnt : Int) {q : List Int} (hq : q <+: t) (hl : q.length < t.length) : rowP T reg cnt q = (0, cmd0) := by
  rw [h.eq] at hq hl
  rcases pre_append hq with hq | ⟨q', rfl, hq2⟩
  · by_cases hk : q.length < k.length
    · exact row_not (by rw [look_more hT h.mem hq hk]) (by decide)
    · have e : q = k := hq.eq_of_length (by have := hq.length_le; omega)
      subst e
      have h1 : lookG T q = (1, some (q, b)) := look_hit hT h.mem (List.prefix_refl _)
      rcases h.way with ⟨ho, rfl, rfl, rfl⟩ | ⟨ho, hd, hk, hx⟩
      · rw [row_plain h1 ho, List.drop_length]
        rcases h.arg with ⟨h2, h3⟩ | ⟨h2, rfl⟩
        · unfold finP; rw [h2]; rfl
        · simp at hl
      · exact row_own0 h1 ho (by rw [List.drop_length, show (numP cnt []).2 = [] from rfl, beh_nil]) (by decide)
  · have h1 : lookG T (k ++ q') = (1, some (k, b)) := look_hit hT h.mem (List.prefix_append _ _)
    have hl' : q'.length < (d ++ (k' ++ a)).length := by simp only [List.length_append] at hl ⊢; omega
    rcases h.way with ⟨ho, rfl, rfl, rfl⟩ | ⟨ho, hd, hk, hx⟩
    · rw [row_plain h1 ho, List.drop_left]
      rcases h.arg with ⟨h2, h3⟩ | ⟨h2, rfl⟩
      · have : q' = [] := List.length_eq_zero_iff.1 (by simp at hl'; omega)
        subst this
        unfold finP; rw [h2]; rfl
      · simp at hl'
    · rcases pre_append hq2 with hq3 | ⟨q'', rfl, hq3⟩
      · refine row_own0 h1 ho (s := 0) ?_ (by decide)
        have : (numP cnt q').2 = [] := by
          refine numP_all ?_ cnt
          rcases hd with rfl | hd
          · exact .inl (List.prefix_nil.1 hq3)
          · exact hd.pre hq3
        rw [List.drop_left, this, beh_nil]
      · by_cases h0 : q'' = []
        · subst h0
          refine row_own0 h1 ho (s := 0) ?_ (by decide)
          have : (numP cnt (d ++ [])).2 = [] := by
            rw [List.append_nil]
            exact numP_all (hd.elim .inl .inr) cnt
          rw [List.drop_left, this, beh_nil]
        · have hn : numP cnt ((k ++ (d ++ q'')).drop k.length) = (cntD cnt d, q'') := by
            rw [List.drop_left]
            refine num_text hd (fun x u e => ?_)
            obtain ⟨s, hs⟩ := hq3
            exact h.tail hu ho hk a x (u ++ s) (by rw [← hs, e]; rfl)
          have hl2 : q''.length < (k' ++ a).length := by simp only [List.length_append] at hl' ⊢; omega
          have hpf := (ut_of hu h.mem ho).1
          have hmore : (lookG (UT b.own) q'').1 = 0 → rowP T reg cnt (k ++ (d ++ q'')) = (0, cmd0) := fun e =>
            row_own0 h1 ho (s := 0) (by rw [hn, beh_look _ h0]; exact e) (by decide)
          rcases pre_append hq3 with hq4 | ⟨q3, rfl, hq4⟩
          · by_cases hk3 : q''.length < k'.length
            · exact hmore (by rw [look_more hpf hk hq4 hk3])
            · have e : q'' = k' := hq4.eq_of_length (by have := hq4.length_le; omega)
              subst e
              have hb : behP b.own (numP cnt ((k ++ (d ++ q'')).drop k.length)).2 = (1, some (q'', b')) := by
                rw [hn, beh_look _ h0]
                exact look_hit hpf hk (List.prefix_refl _)
              rw [row_own1 h1 ho hb, hn]
              simp only [List.drop_length]
              rcases h.arg with ⟨h2, h3⟩ | ⟨h2, rfl⟩
              · unfold finP; rw [h2]; rfl
              · simp at hl2
          · have hb : behP b.own (numP cnt ((k ++ (d ++ (k' ++ q3))).drop k.length)).2 = (1, some (k', b')) := by
              rw [hn, beh_look _ h0]
              exact look_hit hpf hk (List.prefix_append _ _)
            rw [row_own1 h1 ho hb, hn]
            simp only [List.drop_left]
            rcases h.arg with ⟨h2, h3⟩ | ⟨h2, rfl⟩
            · have : q3 = [] := List.length_eq_zero_iff.1 (by simp at hl2; omega)
              subst this
              unfold finP; rw [h2]; rfl
            · exfalso; simp only [List.length_append, List.length_nil] at hl2; omega
theorem text_inv {T : Rows} (hu : utB T = true) {reg cnt : Int} {l : List Int} (h : (rowP T reg cnt l).1 = 1) : ∃ t s k d k' a b b', l = t ++ s ∧ TextP T t k d k' a b b' := by
  have hfin : ∀ {reg cnt verb : Int} {b : Bd} {l : List Int}, (finP reg cnt verb b l).1 = 1 → ∃ a s, l = a ++ s ∧ ((b.more = true ∧ a.length = 1) ∨ (b.more = false ∧ a = [])) := by
    intro reg cnt verb b l h
    unfold finP at h
    cases hm : b.more
    · exact ⟨[], l, rfl, .inr ⟨rfl, rfl⟩⟩
    · cases l with
      | nil => rw [hm] at h; cases h
      | cons x t => exact ⟨[x], t, rfl, .inl ⟨rfl, rfl⟩⟩
  by_cases h1 : (lookG T l).1 = 1
  · obtain ⟨k, b, h1⟩ := look_1 h1
    obtain ⟨hm, r, rfl⟩ := look_inv h1
    by_cases ho : b.own = []
    · rw [row_plain h1 ho, List.drop_left] at h
      obtain ⟨a, s, rfl, ha⟩ := hfin h
      exact ⟨k ++ a, s, k, [], [], a, b, b, (List.append_assoc _ _ _).symm, hm, .inl ⟨ho, rfl, rfl, rfl⟩, ha, rfl⟩
    · by_cases h2 : (behP b.own (numP cnt r).2).1 = 1
      · have hne : (numP cnt r).2 ≠ [] := fun e => by rw [e, beh_nil] at h2; cases h2
        rw [beh_look _ hne] at h2
        obtain ⟨k', b', h3⟩ := look_1 h2
        have h4 : behP b.own (numP cnt ((k ++ r).drop k.length)).2 = (1, some (k', b')) := by rw [List.drop_left, beh_look _ hne]; exact h3
        rw [row_own1 h1 ho h4, List.drop_left] at h
        obtain ⟨hk, r2, hr2⟩ := look_inv h3
        rw [← hr2, List.drop_left] at h
        obtain ⟨a, s, rfl, ha⟩ := hfin h
        rcases numP_inv cnt r with ⟨ds, t, rfl, hd, ht, hn⟩ | ⟨ht, hn⟩
        · rw [hn] at hr2
          simp only at hr2
          subst hr2
          exact ⟨k ++ (ds ++ (k' ++ a)), s, k, ds, k', a, b, b', by simp only [List.append_assoc], hm, .inr ⟨ho, .inr hd, hk, fun _ x u e => ht x (u ++ (a ++ s)) (by rw [e]; rfl)⟩, ha, rfl⟩
        · rw [hn] at hr2
          simp only at hr2
          subst hr2
          exact ⟨k ++ ([] ++ (k' ++ a)), s, k, [], k', a, b, b', by simp only [List.append_assoc, List.nil_append], hm, .inr ⟨ho, .inl rfl, hk, fun e => absurd rfl e⟩, ha, rfl⟩
      · have h4 := row_own0 (reg := reg) (cnt := cnt) h1 ho (s := (behP b.own (numP cnt r).2).1) (by rw [List.drop_left]) h2
        rw [h4] at h
        exact absurd h h2
  · rw [row_not rfl h1] at h
    exact absurd h h1
/-- keys that spell a command, no more of them than it needs -/
structure Form (sel : Bool) (l : List Int) (ts : List Tok) (t k d k' a : List Int) (b b' : Bd) : Prop where
  ok : okT false ts
  head : Head (endN false ts) t
  text : TextP (topT sel) t k d k' a b b'
  eq : l = flatT ts ++ t
theorem read_row' {sel : Bool} {l rest : List Int} {reg cnt : Int} (h : prefP (l.length + 1) 0 0 l = (1, reg, cnt, rest)) : readP sel l = rowP (topT sel) reg cnt rest := by unfold readP; rw [h]; rfl
theorem Head.app {e : Bool} {t : List Int} (h : Head e t) (s : List Int) : Head e (t ++ s) := by
  obtain ⟨x, u, rfl, h1, h2, h3⟩ := h
  exact ⟨x, u ++ s, rfl, h1, h2, h3⟩
theorem Form.read {sel : Bool} {l : List Int} {ts : List Tok} {t k d k' a : List Int} {b b' : Bd} (h : Form sel l ts t k d k' a b b') (s : List Int) : readP sel (l ++ s) = (1, cmdOf (effs (0, 0) ts).1 (cntD (effs (0, 0) ts).2 d) b.verb b' a) := by
  have h1 : prefP ((l ++ s).length + 1) 0 0 (l ++ s) = (1, (effs (0, 0) ts).1, (effs (0, 0) ts).2, t ++ s) := by
    have := pref_of ts ((l ++ s).length + 1) 0 0 (t ++ s) h.ok (h.head.app s) (by rw [h.eq, List.append_assoc]; omega)
    rw [← List.append_assoc, ← h.eq] at this
    exact this
  rw [read_row' h1]
  exact text_read (top_pf sel) (top_ut sel) h.text _ _ _
theorem Form.more {sel : Bool} {l : List Int} {ts : List Tok} {t k d k' a : List Int} {b b' : Bd} (h : Form sel l ts t k d k' a b b') {q : List Int} (hq : q <+: l) (hl : q.length < l.length) : readP sel q = (0, cmd0) := by
  rw [h.eq] at hq hl
  have hm : ∀ {q : List Int}, q <+: flatT ts → readP sel q = (0, cmd0) := fun {q} hq => by
    unfold readP
    rw [pref_more ts (q.length + 1) 0 0 q h.ok hq (Nat.lt_succ_self _)]; rfl
  rcases pre_append hq with hq2 | ⟨q', rfl, hq2⟩
  · exact hm hq2
  · by_cases h0 : q' = []
    · subst h0; rw [List.append_nil]; exact hm (List.prefix_refl _)
    · have hh : Head (endN false ts) q' := by
        obtain ⟨x, u, e, h1, h2, h3⟩ := h.head
        cases q' with
        | nil => exact absurd rfl h0
        | cons y v =>
          obtain ⟨w, hw⟩ := hq2
          rw [e] at hw
          injection hw with e1 _
          subst e1
          exact ⟨y, v, rfl, h1, h2, h3⟩
      rw [read_row' (pref_of ts _ 0 0 q' h.ok hh (Nat.lt_succ_self _))]
      exact text_more (top_pf sel) (top_ut sel) h.text _ _ hq2 (by simp only [List.length_append] at hl; omega)
theorem form_inv {sel : Bool} {l : List Int} (h : (readP sel l).1 = 1) : ∃ p s ts t k d k' a b b', l = p ++ s ∧ Form sel p ts t k d k' a b b' := by
  rcases pref_inv (l.length + 1) 0 0 l (Nat.lt_succ_self _) with ⟨ts, rest, hok, hl, hh, hp⟩ | ⟨ts, hok, hl, hp⟩ | ⟨ts, u, hok, hl, hp⟩
  · rw [read_row' hp] at h
    obtain ⟨t, s, k, d, k', a, b, b', rfl, ht⟩ := text_inv (top_ut sel) h
    obtain ⟨x, u, e, h1, h2, h3⟩ := hh
    have hne : t ≠ [] := by
      obtain ⟨y, v, hy, _⟩ := df_of (top_df sel) ht.mem
      rw [ht.eq, hy]; simp
    refine ⟨flatT ts ++ t, s, ts, t, k, d, k', a, b, b', by rw [hl, List.append_assoc], hok, ?_, ht, rfl⟩
    cases t with
    | nil => exact absurd rfl hne
    | cons y v =>
      injection e with e1 _
      subst e1
      exact ⟨y, v, rfl, h1, h2, h3⟩
  · unfold readP at h; rw [hp] at h; cases h
  · unfold readP at h; rw [hp] at h; cases h
set_option linter.unusedVariables false
/-- keys to a parser, one behind the other: what it says to the last, and the command -/
def fedL (mode : Int) : Par → List Int → Cmd × Int → Cmd × Int
  | _, [], r => r
  | p, x :: t, _ => if (feedP p mode x).2.2 ≠ 0 ∧ t ≠ [] then (cmd0, -1) else fedL mode (feedP p mode x).1 t ((feedP p mode x).2.1, ((feedP p mode x).2.2 : Int))
def fedP (mode : Int) (l : List Int) : Cmd × Int := fedL mode par0 l (cmd0, -1)
def pp (p : Par) (mode : Int) : List Int := if selP mode = p.sel then p.pend else []
theorem feed_pp {p : Par} {mode x : Int} (h : x ≠ 27) : feedP p mode x = (⟨if (readP (selP mode) (pp p mode ++ [x])).1 = 0 then pp p mode ++ [x] else [], selP mode⟩, (readP (selP mode) (pp p mode ++ [x])).2, (readP (selP mode) (pp p mode ++ [x])).1) := by
  unfold feedP pp
  simp only [if_neg h]
theorem feed_27 {p : Par} {mode : Int} : feedP p mode 27 = (⟨[], selP mode⟩, cmd0, 3) := by unfold feedP; exact if_pos rfl
theorem fedL_whole (mode : Int) : ∀ (t : List Int) (p : Par) (pre : List Int) (r : Cmd × Int), pp p mode = pre → t ≠ [] → 27 ∉ t → (∀ q, q <+: pre ++ t → q.length < (pre ++ t).length → pre.length < q.length → (readP (selP mode) q).1 = 0) →
    fedL mode p t r = ((readP (selP mode) (pre ++ t)).2, ((readP (selP mode) (pre ++ t)).1 : Int)) := by
  intro t
  induction t with
  | nil => intro p pre r _ h; exact absurd rfl h
  | cons x t ih =>
    intro p pre r hp _ h27 hm
    have hx : x ≠ 27 := fun e => h27 (by rw [e]; exact List.mem_cons_self ..)
    have ht : 27 ∉ t := fun e => h27 (List.mem_cons_of_mem _ e)
    have hf := feed_pp (p := p) (mode := mode) hx
    rw [hp] at hf
    by_cases h0 : t = []
    · subst h0
      simp only [fedL]
      rw [if_neg (fun e => e.2 rfl), hf]
    · have hl : 0 < t.length := List.length_pos_iff.2 h0
      have hc := hm (pre ++ [x]) ⟨t, by simp⟩ (by simp; omega) (by simp)
      rw [if_pos hc] at hf
      simp only [fedL]
      rw [if_neg (fun e => e.1 (by rw [hf]; exact hc)), hf]
      have e : pre ++ x :: t = (pre ++ [x]) ++ t := by simp
      rw [e] at hm ⊢
      exact ih ⟨pre ++ [x], selP mode⟩ (pre ++ [x]) _ (if_pos rfl) h0 ht (fun q h1 h2 h3 => hm q h1 h2 (by simp at h3; omega))
theorem pp_par0 (mode : Int) : pp par0 mode = [] := by unfold pp par0; simp
theorem fed_whole {mode : Int} {l : List Int} (h0 : l ≠ []) (h27 : 27 ∉ l) (hm : ∀ q, q <+: l → q.length < l.length → q ≠ [] → (readP (selP mode) q).1 = 0) : fedP mode l = ((readP (selP mode) l).2, ((readP (selP mode) l).1 : Int)) :=
  fedL_whole mode l par0 [] _ (pp_par0 mode) h0 h27 (fun q h1 h2 h3 => hm q h1 h2 (List.length_pos_iff.1 h3))
theorem fedL_inv (mode : Int) (c : Cmd) : ∀ (t : List Int) (p : Par) (pre : List Int) (r : Cmd × Int), pp p mode = pre → t ≠ [] → fedL mode p t r = (c, 1) →
    27 ∉ t ∧ readP (selP mode) (pre ++ t) = (1, c) ∧ ∀ q, q <+: pre ++ t → q.length < (pre ++ t).length → pre.length < q.length → (readP (selP mode) q).1 = 0 := by
  intro t
  induction t with
  | nil => intro p pre r _ h; exact absurd rfl h
  | cons x t ih =>
    intro p pre r hp _ h
    by_cases hx : x = 27
    · subst hx
      simp only [fedL, feed_27] at h
      split at h
      · injection h with _ h; cases h
      · rename_i hh
        have h0 : t = [] := Classical.byContradiction fun e => hh ⟨by decide, e⟩
        subst h0
        simp only [fedL] at h
        injection h with _ h; cases h
    · have hf := feed_pp (p := p) (mode := mode) hx
      rw [hp] at hf
      by_cases h0 : t = []
      · subst h0
        simp only [fedL] at h
        rw [if_neg (fun e => e.2 rfl), hf] at h
        injection h with e1 e2
        refine ⟨by simp; exact fun e => hx e.symm, Prod.ext ?_ e1, fun q h1 h2 h3 => ?_⟩
        · show (readP (selP mode) (pre ++ [x])).1 = 1
          have e3 : (((readP (selP mode) (pre ++ [x])).1 : Nat) : Int) = 1 := e2
          omega
        · simp at h2; omega
      · simp only [fedL] at h
        by_cases hc : (readP (selP mode) (pre ++ [x])).1 = 0
        · rw [if_pos hc] at hf
          rw [if_neg (fun e => e.1 (by rw [hf]; exact hc)), hf] at h
          obtain ⟨i1, i2, i3⟩ := ih ⟨pre ++ [x], selP mode⟩ (pre ++ [x]) _ (if_pos rfl) h0 h
          have e : pre ++ x :: t = (pre ++ [x]) ++ t := by simp
          rw [e]
          refine ⟨fun h2 => ?_, i2, fun q h1 h2 h3 => ?_⟩
          · rcases List.mem_cons.1 h2 with h2 | h2
            · exact hx h2.symm
            · exact i1 h2
          · by_cases hq : (pre ++ [x]).length < q.length
            · exact i3 q h1 h2 hq
            · have hql : q.length = (pre ++ [x]).length := by simp at hq ⊢; omega
              have e2 : q = pre ++ [x] := by
                have h4 := List.prefix_of_prefix_length_le h1 (List.prefix_append (pre ++ [x]) t) (by omega)
                exact h4.eq_of_length hql
              rw [e2]; exact hc
        · rw [if_pos ⟨by rw [hf]; exact hc, h0⟩] at h
          injection h with _ h; cases h
theorem fed_inv {mode : Int} {l : List Int} {c : Cmd} (h : fedP mode l = (c, 1)) : l ≠ [] ∧ 27 ∉ l ∧ readP (selP mode) l = (1, c) ∧ ∀ q, q <+: l → q.length < l.length → q ≠ [] → (readP (selP mode) q).1 = 0 := by
  have h0 : l ≠ [] := fun e => by
    subst e
    unfold fedP at h
    simp only [fedL] at h
    injection h with _ h; cases h
  obtain ⟨h1, h2, h3⟩ := fedL_inv mode c l par0 [] _ (pp_par0 mode) h0 h
  exact ⟨h0, h1, h2, fun q k1 k2 k3 => h3 q k1 k2 (List.length_pos_iff.2 k3)⟩
/-- a trial that Spell takes -/
def Acc (sel : Bool) (c : Cmd) (l : List Int) : Prop := l.contains 27 = false ∧ readP sel l = (1, c)
theorem try_acc {sel : Bool} {c : Cmd} {best : Option (List Int)} {l : List Int} (h : Acc sel c l) : tryP sel c best l = match best with | none => some l | some b => if betterB l b then some l else some b := by
  unfold tryP
  rw [if_neg (by rw [h.1]; decide), if_neg (fun e => e h.2)]
  cases best <;> rfl
theorem try_rej {sel : Bool} {c : Cmd} {best : Option (List Int)} {l : List Int} (h : ¬ Acc sel c l) : tryP sel c best l = best := by
  unfold tryP
  by_cases h1 : l.contains 27 = true
  · rw [if_pos h1]
  · rw [if_neg h1]
    by_cases h2 : readP sel l = (1, c)
    · exact absurd ⟨by simpa using h1, h2⟩ h
    · exact if_pos h2
theorem lessP_trans : ∀ {x y z : List Int}, lessP x y = true → lessP y z = true → lessP x z = true
  | [], [], _, h, _ => by cases h
  | _ :: _, [], _, h, _ => by cases h
  | _, _ :: _, [], _, h => by cases h
  | [], _ :: _, _ :: _, _, _ => rfl
  | a :: x, b :: y, c :: z, h, k => by
    simp only [lessP, Bool.or_eq_true, Bool.and_eq_true, decide_eq_true_eq] at *
    rcases h with h | ⟨h, h'⟩ <;> rcases k with k | ⟨k, k'⟩
    · exact .inl (by omega)
    · exact .inl (by omega)
    · exact .inl (by omega)
    · exact .inr ⟨by omega, lessP_trans h' k'⟩
theorem better_trans {x y z : List Int} (h : betterB x y = true) (k : betterB y z = true) : betterB x z = true := by
  unfold betterB at *
  simp only [Bool.or_eq_true, Bool.and_eq_true, decide_eq_true_eq] at *
  rcases h with h | ⟨h, h'⟩ <;> rcases k with k | ⟨k, k'⟩
  · exact .inl (by omega)
  · exact .inl (by omega)
  · exact .inl (by omega)
  · exact .inr ⟨by omega, lessP_trans h' k'⟩
theorem lessP_irr : ∀ (x : List Int), lessP x x = false
  | [] => rfl
  | a :: x => by simp [lessP, lessP_irr x]
theorem better_irr (x : List Int) : betterB x x = false := by unfold betterB; simp [lessP_irr]
theorem lessP_total : ∀ {x y : List Int}, lessP x y = false → lessP y x = true ∨ y = x
  | [], [], _ => .inr rfl
  | [], _ :: _, h => by cases h
  | _ :: _, [], _ => .inl rfl
  | a :: x, b :: y, h => by
    simp only [lessP, Bool.or_eq_false_iff, Bool.and_eq_false_iff, decide_eq_false_iff_not, Bool.or_eq_true, Bool.and_eq_true, decide_eq_true_eq] at *
    by_cases e : a = b
    · have h2 : lessP x y = false := h.2.resolve_left (fun k => k e)
      rcases lessP_total h2 with h3 | h3
      · exact .inl (.inr ⟨e.symm, h3⟩)
      · exact .inr (by rw [e, h3])
    · exact .inl (.inl (by omega))
theorem better_total {x y : List Int} (h : betterB x y = false) : betterB y x = true ∨ y = x := by
  unfold betterB at *
  simp only [Bool.or_eq_false_iff, Bool.and_eq_false_iff, decide_eq_false_iff_not, Bool.or_eq_true, Bool.and_eq_true, decide_eq_true_eq] at *
  by_cases e : x.length = y.length
  · have h2 : lessP x y = false := h.2.resolve_left (fun k => k e)
    rcases lessP_total h2 with h3 | h3
    · exact .inl (.inr ⟨e.symm, h3⟩)
    · exact .inr h3
  · exact .inl (.inl (by omega))
theorem fold_best (sel : Bool) (c : Cmd) : ∀ (L : List (List Int)) (best : Option (List Int)),
    (∀ b, L.foldl (tryP sel c) best = some b → (b ∈ L ∧ Acc sel c b) ∨ best = some b) ∧
    (∀ x, (x ∈ L ∧ Acc sel c x) ∨ best = some x → ∃ b, L.foldl (tryP sel c) best = some b ∧ betterB x b = false) := by
  intro L
  induction L with
  | nil => exact fun best => ⟨fun b h => .inr h, fun x h => by
      rcases h with ⟨h, _⟩ | h
      · cases h
      · exact ⟨x, h, better_irr x⟩⟩
  | cons y L ih =>
    intro best
    rw [List.foldl_cons]
    obtain ⟨i1, i2⟩ := ih (tryP sel c best y)
    by_cases hy : Acc sel c y
    · have ht := try_acc (best := best) hy
      refine ⟨fun b hb => ?_, fun x hx => ?_⟩
      · rcases i1 b hb with ⟨h1, h2⟩ | h1
        · exact .inl ⟨List.mem_cons_of_mem _ h1, h2⟩
        · rw [ht] at h1
          cases best with
          | none => injection h1 with h1; subst h1; exact .inl ⟨List.mem_cons_self .., hy⟩
          | some z =>
            simp only at h1
            split at h1
            · injection h1 with h1; subst h1; exact .inl ⟨List.mem_cons_self .., hy⟩
            · exact .inr h1
      · have hkey : ∃ z, tryP sel c best y = some z ∧ betterB y z = false ∧ (∀ b0, best = some b0 → betterB b0 z = false) := by
          rw [ht]
          cases best with
          | none => exact ⟨y, rfl, better_irr y, fun b0 h => by cases h⟩
          | some b0 =>
            simp only
            by_cases hb : betterB y b0 = true
            · rw [if_pos hb]
              refine ⟨y, rfl, better_irr y, fun b1 h => ?_⟩
              injection h with h; subst h
              refine Bool.eq_false_iff.2 fun e => ?_
              have := better_trans e hb
              rw [better_irr] at this; cases this
            · rw [if_neg hb]
              exact ⟨b0, rfl, by simpa using hb, fun b1 h => by injection h with h; subst h; exact better_irr _⟩
        obtain ⟨z, hz1, hz2, hz3⟩ := hkey
        have hlift : ∀ u, betterB u z = false → ∃ b, L.foldl (tryP sel c) (tryP sel c best y) = some b ∧ betterB u b = false := fun u hu => by
          obtain ⟨b, hb1, hb2⟩ := i2 z (.inr hz1)
          refine ⟨b, hb1, Bool.eq_false_iff.2 fun e => ?_⟩
          rcases better_total hb2 with hzb | hzb
          · have := better_trans e hzb; rw [hu] at this; cases this
          · rw [hzb, hu] at e; cases e
        rcases hx with ⟨hx, hxa⟩ | hx
        · rcases List.mem_cons.1 hx with rfl | hx
          · exact hlift x hz2
          · exact i2 x (.inl ⟨hx, hxa⟩)
        · exact hlift x (hz3 x hx)
    · rw [try_rej hy] at i1 i2 ⊢
      refine ⟨fun b hb => ?_, fun x hx => ?_⟩
      · rcases i1 b hb with ⟨h1, h2⟩ | h1
        · exact .inl ⟨List.mem_cons_of_mem _ h1, h2⟩
        · exact .inr h1
      · rcases hx with ⟨hx, hxa⟩ | hx
        · rcases List.mem_cons.1 hx with rfl | hx
          · exact absurd hxa hy
          · exact i2 x (.inl ⟨hx, hxa⟩)
        · exact i2 x (.inr hx)
end Go.Proofs.Ytampjndfhpjheaa
