/- Plain: the document's reading of a row (among, row) is the reader's: the same commands, and more keys are wanted at the same places. No program. Plain: the document's tables, as lists: they hold what the reader's do. No program. Plain: the document's reading of keys (prefixes, endsInNumber, Reads) is the reader's. No program. -/
import Derived.Test.YtampjndfhpjheaaQAx
namespace Go.Proofs.Ytampjndfhpjheaa
set_option linter.unusedVariables false
def lenK (k : List Int) (b : Bd) : Nat := k.length + if b.more then 1 else 0
def meetsD (k : List Int) (b : Bd) (l : List Int) : Nat × Int :=
 if k.isPrefixOf l = true ∧ l.length = lenK k b then (1, if b.more then l.getD k.length 0 else b.arg)
 else if (k.isPrefixOf l = true ∧ l.length < lenK k b) ∨ (l.isPrefixOf k = true ∧ l.length < k.length) then (0, 0) else (2, 0)
def argOk (b : Bd) (a : List Int) : Prop := (b.more = true ∧ a.length = 1) ∨ (b.more = false ∧ a = [])
theorem meets_1 {k l : List Int} {b : Bd} (h : (meetsD k b l).1 = 1) : ∃ a, l = k ++ a ∧ argOk b a ∧ meetsD k b l = (1, if b.more then a.headD 0 else b.arg) := by
 unfold meetsD at *
 split at h
 ·
  rename_i hc
  obtain ⟨h1, h2⟩ := hc
  obtain ⟨a, rfl⟩ := List.isPrefixOf_iff_prefix.1 h1
  refine ⟨a, rfl, ?_, ?_⟩
  ·
   unfold lenK at h2
   rw [List.length_append] at h2
   cases hb : b.more <;> rw [hb] at h2
   · exact .inr ⟨hb, List.length_eq_zero_iff.1 (by simpa using h2)⟩
   · exact .inl ⟨hb, by simpa using h2⟩
  ·
   rw [if_pos ⟨h1, h2⟩]
   cases hb : b.more
   · rfl
   ·
    simp only [if_true]
    congr 1
    rw [List.getD_eq_getElem?_getD, List.getElem?_append_right (Nat.le_refl _), Nat.sub_self]
    cases a <;> rfl
 · split at h <;> cases h
theorem meets_of {k a : List Int} {b : Bd} (h : argOk b a) : (meetsD k b (k ++ a)).1 = 1 := by
 unfold meetsD
 rw [if_pos]
 refine ⟨List.isPrefixOf_iff_prefix.2 (List.prefix_append _ _), ?_⟩
 unfold lenK
 rw [List.length_append]
 rcases h with ⟨h1, h2⟩ | ⟨h1, rfl⟩
 · rw [h1, h2]; rfl
 · rw [h1]; rfl
def wants (k : List Int) (b : Bd) (l : List Int) : Prop := (l = k ∧ b.more = true) ∨ (l <+: k ∧ l.length < k.length)
theorem meets_0 {k l : List Int} {b : Bd} : (meetsD k b l).1 = 0 ↔ wants k b l := by
 unfold meetsD wants
 constructor
 ·
  intro h
  split at h
  · cases h
  ·
   rename_i hn
   split at h
   ·
    rename_i hc
    rcases hc with ⟨h1, h2⟩ | ⟨h1, h2⟩
    ·
     left
     obtain ⟨a, rfl⟩ := List.isPrefixOf_iff_prefix.1 h1
     unfold lenK at h2
     rw [List.length_append] at h2
     by_cases hb : b.more = true
     ·
      rw [if_pos hb] at h2
      have : a = [] := List.length_eq_zero_iff.1 (by omega)
      exact ⟨by rw [this, List.append_nil], hb⟩
     · rw [if_neg hb] at h2; omega
    · exact .inr ⟨List.isPrefixOf_iff_prefix.1 h1, h2⟩
   · cases h
 ·
  rintro (⟨rfl, h1⟩ | ⟨h1, h2⟩)
  ·
   rw [if_neg, if_pos]
   · exact .inl ⟨List.isPrefixOf_iff_prefix.2 (List.prefix_refl _), by unfold lenK; rw [h1]; simp⟩
   ·
    rintro ⟨_, h3⟩
    unfold lenK at h3
    rw [h1] at h3
    simp at h3
  ·
   rw [if_neg, if_pos]
   · exact .inr ⟨List.isPrefixOf_iff_prefix.2 h1, h2⟩
   ·
    rintro ⟨h3, _⟩
    have := (List.isPrefixOf_iff_prefix.1 h3).length_le
    omega
theorem meets_3 {k l : List Int} {b : Bd} : (meetsD k b l).1 = 0 ∨ (meetsD k b l).1 = 1 ∨ (meetsD k b l).1 = 2 := by
 unfold meetsD
 split
 · exact .inr (.inl rfl)
 ·
  split
  · exact .inl rfl
  · exact .inr (.inr rfl)
def amongD (reg cnt : Int) (vf : Bd → Int) (l : List Int) : Rows → Nat → Nat × Cmd
 | [], say => (say, cmd0)
 | (k, b) :: T, say =>
  if (meetsD k b l).1 = 1 then (1, ⟨reg, cnt, vf b, if b.move = 33 ∧ 0 < cnt then 18 else b.move, (meetsD k b l).2⟩)
  else amongD reg cnt vf l T (if (meetsD k b l).1 = 0 then 0 else say)
theorem among_1 {reg cnt : Int} {vf : Bd → Int} {l : List Int} : ∀ {T : Rows} {say : Nat}, say ≠ 1 → (amongD reg cnt vf l T say).1 = 1 → ∃ k b a, (k, b) ∈ T ∧ l = k ++ a ∧ argOk b a ∧ amongD reg cnt vf l T say = (1, cmdOf reg cnt (vf b) b a)
 | [], say, hs, h => absurd h hs
 | (k, b) :: T, say, hs, h => by
  unfold amongD at *
  by_cases hm : (meetsD k b l).1 = 1
  ·
   rw [if_pos hm]
   obtain ⟨a, h1, h2, h3⟩ := meets_1 hm
   exact ⟨k, b, a, List.mem_cons_self .., h1, h2, by rw [h3]; rfl⟩
  ·
   rw [if_neg hm] at h ⊢
   obtain ⟨k1, b1, a1, h1, h2⟩ := among_1 (by split; decide; exact hs) h
   exact ⟨k1, b1, a1, List.mem_cons_of_mem _ h1, h2⟩
theorem among_hit {reg cnt : Int} {vf : Bd → Int} {k a : List Int} {b : Bd} (ha : argOk b a) : ∀ {T : Rows} {say : Nat}, (k, b) ∈ T → (amongD reg cnt vf (k ++ a) T say).1 = 1
 | [], say, h => by cases h
 | (k1, b1) :: T, say, h => by
  unfold amongD
  by_cases hm : (meetsD k1 b1 (k ++ a)).1 = 1
  · rw [if_pos hm]
  ·
   rw [if_neg hm]
   rcases List.mem_cons.1 h with h | h
   ·
    injection h with e1 e2
    subst e1; subst e2
    exact absurd (meets_of ha) hm
   · exact among_hit ha h
theorem among_0 {reg cnt : Int} {vf : Bd → Int} {l : List Int} : ∀ {T : Rows} {say : Nat}, (amongD reg cnt vf l T say).1 = 0 → say = 0 ∨ ∃ k b, (k, b) ∈ T ∧ wants k b l
 | [], say, h => .inl h
 | (k, b) :: T, say, h => by
  unfold amongD at h
  by_cases hm : (meetsD k b l).1 = 1
  · rw [if_pos hm] at h; cases h
  ·
   rw [if_neg hm] at h
   by_cases h0 : (meetsD k b l).1 = 0
   · exact .inr ⟨k, b, List.mem_cons_self .., meets_0.1 h0⟩
   ·
    rw [if_neg h0] at h
    rcases among_0 h with h | ⟨k1, b1, h1, h2⟩
    · exact .inl h
    · exact .inr ⟨k1, b1, List.mem_cons_of_mem _ h1, h2⟩
theorem among_hit0 {reg cnt : Int} {vf : Bd → Int} {l : List Int} : ∀ {T : Rows} {say : Nat}, (say = 0 ∨ ∃ k b, (k, b) ∈ T ∧ wants k b l) → (amongD reg cnt vf l T say).1 = 0 ∨ (amongD reg cnt vf l T say).1 = 1
 | [], say, h => by
  rcases h with h | ⟨k, b, h, _⟩
  · exact .inl h
  · cases h
 | (k, b) :: T, say, h => by
  unfold amongD
  by_cases hm : (meetsD k b l).1 = 1
  · rw [if_pos hm]; exact .inr rfl
  ·
   rw [if_neg hm]
   refine among_hit0 ?_
   rcases h with h | ⟨k1, b1, h1, h2⟩
   · left; split; rfl; exact h
   ·
    rcases List.mem_cons.1 h1 with e | h1
    ·
     injection e with e1 e2
     subst e1; subst e2
     left; rw [if_pos (meets_0.2 h2)]
    · exact .inr ⟨k1, b1, h1, h2⟩
def opD (D : List Int × Bd → Rows) (reg cnt : Int) (l k : List Int) (b : Bd) : Nat × Cmd :=
 if k.isPrefixOf l = true then amongD reg (numP cnt (l.drop k.length)).1 (fun _ => b.verb) (numP cnt (l.drop k.length)).2 (D (k, b)) 2
 else if l.isPrefixOf k = true then (0, cmd0) else (2, cmd0)
def opsD (D : List Int × Bd → Rows) (reg cnt : Int) (l : List Int) : Rows → Nat → Nat × Cmd
 | [], say => (say, cmd0)
 | (k, b) :: O, say =>
  if (opD D reg cnt l k b).1 = 1 then opD D reg cnt l k b
  else opsD D reg cnt l O (if (opD D reg cnt l k b).1 = 0 then 0 else say)
def docRow (R O : Rows) (D : List Int × Bd → Rows) (reg cnt : Int) (l : List Int) : Nat × Cmd :=
 if (amongD reg cnt (fun b => b.verb) l R 2).1 = 1 then amongD reg cnt (fun b => b.verb) l R 2
 else opsD D reg cnt l O (amongD reg cnt (fun b => b.verb) l R 2).1
theorem ops_1 {D : List Int × Bd → Rows} {reg cnt : Int} {l : List Int} : ∀ {O : Rows} {say : Nat}, say ≠ 1 → (opsD D reg cnt l O say).1 = 1 → ∃ k b, (k, b) ∈ O ∧ (opD D reg cnt l k b).1 = 1 ∧ opsD D reg cnt l O say = opD D reg cnt l k b
 | [], say, hs, h => absurd h hs
 | (k, b) :: O, say, hs, h => by
  unfold opsD at *
  by_cases hm : (opD D reg cnt l k b).1 = 1
  · rw [if_pos hm]; exact ⟨k, b, List.mem_cons_self .., hm, rfl⟩
  ·
   rw [if_neg hm] at h ⊢
   obtain ⟨k1, b1, h1, h2⟩ := ops_1 (by split; decide; exact hs) h
   exact ⟨k1, b1, List.mem_cons_of_mem _ h1, h2⟩
theorem ops_hit {D : List Int × Bd → Rows} {reg cnt : Int} {l k : List Int} {b : Bd} (hk : (opD D reg cnt l k b).1 = 1) : ∀ {O : Rows} {say : Nat}, (k, b) ∈ O → (opsD D reg cnt l O say).1 = 1
 | [], say, h => by cases h
 | (k1, b1) :: O, say, h => by
  unfold opsD
  by_cases hm : (opD D reg cnt l k1 b1).1 = 1
  · rw [if_pos hm]; exact hm
  ·
   rw [if_neg hm]
   rcases List.mem_cons.1 h with h | h
   ·
    injection h with e1 e2
    subst e1; subst e2
    exact absurd hk hm
   · exact ops_hit hk h
theorem ops_0 {D : List Int × Bd → Rows} {reg cnt : Int} {l : List Int} : ∀ {O : Rows} {say : Nat}, (opsD D reg cnt l O say).1 = 0 → say = 0 ∨ ∃ k b, (k, b) ∈ O ∧ (opD D reg cnt l k b).1 = 0
 | [], say, h => .inl h
 | (k, b) :: O, say, h => by
  unfold opsD at h
  by_cases hm : (opD D reg cnt l k b).1 = 1
  · rw [if_pos hm, hm] at h; cases h
  ·
   rw [if_neg hm] at h
   by_cases h0 : (opD D reg cnt l k b).1 = 0
   · exact .inr ⟨k, b, List.mem_cons_self .., h0⟩
   ·
    rw [if_neg h0] at h
    rcases ops_0 h with h | ⟨k1, b1, h1, h2⟩
    · exact .inl h
    · exact .inr ⟨k1, b1, List.mem_cons_of_mem _ h1, h2⟩
theorem ops_hit0 {D : List Int × Bd → Rows} {reg cnt : Int} {l : List Int} : ∀ {O : Rows} {say : Nat}, (say = 0 ∨ ∃ k b, (k, b) ∈ O ∧ (opD D reg cnt l k b).1 = 0) → (opsD D reg cnt l O say).1 = 0 ∨ (opsD D reg cnt l O say).1 = 1
 | [], say, h => by
  rcases h with h | ⟨k, b, h, _⟩
  · exact .inl h
  · cases h
 | (k, b) :: O, say, h => by
  unfold opsD
  by_cases hm : (opD D reg cnt l k b).1 = 1
  · rw [if_pos hm]; exact .inr hm
  ·
   rw [if_neg hm]
   refine ops_hit0 ?_
   rcases h with h | ⟨k1, b1, h1, h2⟩
   · left; split; rfl; exact h
   ·
    rcases List.mem_cons.1 h1 with e | h1
    ·
     injection e with e1 e2
     subst e1; subst e2
     left; rw [if_pos h2]
    · exact .inr ⟨k1, b1, h1, h2⟩
theorem fin_0 {reg cnt v : Int} {b : Bd} {u : List Int} (h : (finP reg cnt v b u).1 = 0) : b.more = true ∧ u = [] := by
 unfold finP at h
 cases hb : b.more
 · rw [hb] at h; cases h
 ·
  refine ⟨rfl, ?_⟩
  rw [hb] at h
  cases u with
  | nil => rfl
  | cons x t => cases h
theorem fin_nil {reg cnt v : Int} {b : Bd} (hb : b.more = true) : (finP reg cnt v b []).1 = 0 := by
 unfold finP; rw [hb]; rfl
theorem look_0 {T : Rows} {l : List Int} (h : (lookG T l).1 = 0) (hl : l ≠ []) : ∃ r ∈ T, l <+: r.1 ∧ l.length < r.1.length := by
 unfold lookG at h
 split at h
 · cases h
 ·
  rename_i hf
  split at h
  ·
   rename_i hc
   have he : l.isEmpty = false := by cases l with | nil => exact absurd rfl hl | cons _ _ => rfl
   rw [he, Bool.false_or] at hc
   obtain ⟨r, hr, hp⟩ := List.any_eq_true.1 hc
   have hp := List.isPrefixOf_iff_prefix.1 hp
   refine ⟨r, hr, hp, ?_⟩
   have hle := hp.length_le
   by_cases e : l.length = r.1.length
   ·
    have e2 := hp.eq_of_length e
    have := List.find?_eq_none.1 hf r hr
    rw [← e2] at this
    exact absurd (List.isPrefixOf_iff_prefix.2 (List.prefix_refl _)) this
   · omega
  · cases h
structure DocT (T R O : Rows) (D : List Int × Bd → Rows) : Prop where
 r : ∀ x, x ∈ R ↔ x ∈ T ∧ x.2.own = []
 o : ∀ x, x ∈ O ↔ x ∈ T ∧ x.2.own ≠ []
 d : ∀ x, x ∈ O → ∀ y, y ∈ D x ↔ y ∈ UT x.2.own
theorem docRow_1 {T R O : Rows} {D : List Int × Bd → Rows} (hT : DocT T R O D) {reg cnt : Int} {l : List Int} (h : (docRow R O D reg cnt l).1 = 1) :
  ∃ k d k' a b b', TextP T l k d k' a b b' ∧ docRow R O D reg cnt l = (1, cmdOf reg (cntD cnt d) b.verb b' a) := by
 unfold docRow at *
 by_cases hm : (amongD reg cnt (fun b => b.verb) l R 2).1 = 1
 ·
  rw [if_pos hm] at h ⊢
  obtain ⟨k, b, a, h1, h2, h3, h4⟩ := among_1 (by decide) hm
  obtain ⟨h5, h6⟩ := (hT.r _).1 h1
  exact ⟨k, [], [], a, b, b, ⟨h5, .inl ⟨h6, rfl, rfl, rfl⟩, h3, h2⟩, h4⟩
 ·
  rw [if_neg hm] at h ⊢
  obtain ⟨k, b, h1, h2, h3⟩ := ops_1 hm h
  rw [h3]
  obtain ⟨h5, h6⟩ := (hT.o _).1 h1
  unfold opD at *
  by_cases hp : k.isPrefixOf l = true
  ·
   rw [if_pos hp] at h2 ⊢
   obtain ⟨u, rfl⟩ := List.isPrefixOf_iff_prefix.1 hp
   rw [List.drop_left] at h2 ⊢
   obtain ⟨k', b', a, h7, h8, h9, h10⟩ := among_1 (by decide) h2
   have h7 := (hT.d _ h1 _).1 h7
   rcases numP_inv cnt u with ⟨ds, t, rfl, hd, ht, hn⟩ | ⟨ht, hn⟩
   ·
    rw [hn] at h8
    simp only at h8
    subst h8
    refine ⟨k, ds, k', a, b, b', ⟨h5, .inr ⟨h6, .inr hd, h7, fun _ x u e => ht x (u ++ a) (by rw [e]; rfl)⟩, h9, rfl⟩, ?_⟩
    rw [h10, hn]
    have hne : ds ≠ [] := fun e => by have := hd.pos; rw [e] at this; simp at this
    rw [show cntD cnt ds = min (max cnt 1 * valN ds) 9999 from if_neg hne]
   ·
    rw [hn] at h8
    simp only at h8
    subst h8
    refine ⟨k, [], k', a, b, b', ⟨h5, .inr ⟨h6, .inl rfl, h7, fun e => absurd rfl e⟩, h9, rfl⟩, ?_⟩
    rw [h10, hn]
    rfl
  ·
   rw [if_neg hp] at h2
   split at h2 <;> cases h2
theorem docRow_of {T R O : Rows} {D : List Int × Bd → Rows} (hT : DocT T R O D) (hu : utB T = true) {reg cnt : Int} {l k d k' a : List Int} {b b' : Bd} (h : TextP T l k d k' a b b') : (docRow R O D reg cnt l).1 = 1 := by
 unfold docRow
 by_cases hm : (amongD reg cnt (fun b => b.verb) l R 2).1 = 1
 · rw [if_pos hm]; exact hm
 ·
  rw [if_neg hm]
  rcases h.way with ⟨ho, rfl, rfl, rfl⟩ | ⟨ho, hd, hk, hx⟩
  ·
   have e : l = k ++ a := h.eq
   rw [e] at hm
   exact absurd (among_hit h.arg ((hT.r _).2 ⟨h.mem, ho⟩)) hm
  ·
   have hO := (hT.o (k, b)).2 ⟨h.mem, ho⟩
   refine ops_hit ?_ hO
   unfold opD
   rw [if_pos (List.isPrefixOf_iff_prefix.2 ⟨_, h.eq.symm⟩)]
   have hn : numP cnt (l.drop k.length) = (cntD cnt d, k' ++ a) := by
    rw [h.eq, List.drop_left]
    exact num_text hd (h.tail hu ho hk a)
   rw [hn]
   exact among_hit h.arg ((hT.d _ hO _).2 hk)
theorem docRow_0 {T R O : Rows} {D : List Int × Bd → Rows} (hT : DocT T R O D) (hp : PF T) (hu : utB T = true) {reg cnt : Int} {l : List Int} (h : (docRow R O D reg cnt l).1 = 0) : (rowP T reg cnt l).1 = 0 := by
 unfold docRow at h
 by_cases hm : (amongD reg cnt (fun b => b.verb) l R 2).1 = 1
 · rw [if_pos hm, hm] at h; cases h
 ·
  rw [if_neg hm] at h
  rcases ops_0 h with h | ⟨k, b, h1, h2⟩
  ·
   rcases among_0 h with h | ⟨k, b, h1, h2⟩
   · cases h
   ·
    obtain ⟨h3, h4⟩ := (hT.r _).1 h1
    rcases h2 with ⟨rfl, h5⟩ | ⟨h5, h6⟩
    ·
     rw [row_plain (look_hit hp h3 (List.prefix_refl _)) h4, List.drop_length]
     exact fin_nil h5
    · rw [row_not (by rw [look_more hp h3 h5 h6]) (by decide)]
  ·
   obtain ⟨h3, h4⟩ := (hT.o _).1 h1
   unfold opD at h2
   by_cases hq : k.isPrefixOf l = true
   ·
    rw [if_pos hq] at h2
    obtain ⟨u, rfl⟩ := List.isPrefixOf_iff_prefix.1 hq
    rw [List.drop_left] at h2
    rcases among_0 h2 with h2 | ⟨k', b', h5, h6⟩
    · cases h2
    ·
     have h5 := (hT.d _ h1 _).1 h5
     have hl := look_hit hp h3 (List.prefix_append k u)
     rcases h6 with ⟨h6, h7⟩ | ⟨h6, h7⟩
     ·
      have hne : k' ≠ [] := by
       obtain ⟨x, v, e, _⟩ := df_of (ut_of hu h3 h4).2 h5
       rw [e]; simp
      have hb : behP b.own (numP cnt ((k ++ u).drop k.length)).2 = (1, some (k', b')) := by
       rw [List.drop_left, h6, beh_look _ hne]
       exact look_hit (ut_of hu h3 h4).1 h5 (List.prefix_refl _)
      rw [row_own1 hl h4 hb, List.drop_left, h6, List.drop_length]
      exact fin_nil h7
     ·
      by_cases h0 : (numP cnt u).2 = []
      · rw [row_own0 hl h4 (s := 0) (by rw [List.drop_left, h0, beh_nil]) (by decide)]
      · rw [row_own0 hl h4 (s := 0) (by rw [List.drop_left, beh_look _ h0, look_more (ut_of hu h3 h4).1 h5 h6 h7]) (by decide)]
   ·
    rw [if_neg hq] at h2
    by_cases hq2 : l.isPrefixOf k = true
    ·
     have h5 := List.isPrefixOf_iff_prefix.1 hq2
     have h6 : l.length < k.length := by
      have := h5.length_le
      by_cases e : l.length = k.length
      ·
       have e2 := h5.eq_of_length e
       rw [e2] at hq
       exact absurd (List.isPrefixOf_iff_prefix.2 (List.prefix_refl _)) hq
      · omega
     rw [row_not (by rw [look_more hp h3 h5 h6]) (by decide)]
    · rw [if_neg hq2] at h2; cases h2
theorem docRow_more {T R O : Rows} {D : List Int × Bd → Rows} (hT : DocT T R O D) (hp : PF T) (hu : utB T = true) {reg cnt : Int} {l : List Int} (hl : l ≠ []) (h : (rowP T reg cnt l).1 = 0) : (docRow R O D reg cnt l).1 = 0 := by
 have hn1 : (docRow R O D reg cnt l).1 ≠ 1 := fun e => by
  obtain ⟨k, d, k', a, b, b', ht, _⟩ := docRow_1 hT e
  have := text_read hp hu ht reg cnt []
  rw [List.append_nil] at this
  rw [this] at h; cases h
 refine Or.resolve_right ?_ hn1
 have hA : (∃ k b, (k, b) ∈ R ∧ wants k b l) → (docRow R O D reg cnt l).1 = 0 ∨ (docRow R O D reg cnt l).1 = 1 := fun hw => by
  unfold docRow
  by_cases hm : (amongD reg cnt (fun b => b.verb) l R 2).1 = 1
  · rw [if_pos hm]; exact .inr hm
  ·
   rw [if_neg hm]
   rcases among_hit0 (reg := reg) (cnt := cnt) (vf := fun b => b.verb) (say := 2) (.inr hw) with h1 | h1
   · exact ops_hit0 (.inl h1)
   · exact absurd h1 hm
 have hB : (∃ k b, (k, b) ∈ O ∧ ((opD D reg cnt l k b).1 = 0 ∨ (opD D reg cnt l k b).1 = 1)) → (docRow R O D reg cnt l).1 = 0 ∨ (docRow R O D reg cnt l).1 = 1 := fun ⟨k, b, h1, h2⟩ => by
  unfold docRow
  by_cases hm : (amongD reg cnt (fun b => b.verb) l R 2).1 = 1
  · rw [if_pos hm]; exact .inr hm
  ·
   rw [if_neg hm]
   rcases h2 with h2 | h2
   · exact ops_hit0 (.inr ⟨k, b, h1, h2⟩)
   · exact .inr (ops_hit h2 h1)
 by_cases h1 : (lookG T l).1 = 1
 ·
  obtain ⟨k, b, h1⟩ := look_1 h1
  obtain ⟨hm, u, rfl⟩ := look_inv h1
  by_cases ho : b.own = []
  ·
   rw [row_plain h1 ho, List.drop_left] at h
   obtain ⟨h2, rfl⟩ := fin_0 h
   exact hA ⟨k, b, (hT.r _).2 ⟨hm, ho⟩, .inl ⟨List.append_nil _, h2⟩⟩
  ·
   have hO := (hT.o (k, b)).2 ⟨hm, ho⟩
   refine hB ⟨k, b, hO, ?_⟩
   unfold opD
   rw [if_pos (List.isPrefixOf_iff_prefix.2 (List.prefix_append _ _)), List.drop_left]
   refine among_hit0 (.inr ?_)
   have hU := ut_of hu hm ho
   by_cases h2 : (numP cnt u).2 = []
   ·
    obtain ⟨o, os, e⟩ : ∃ o os, b.own = o :: os := by
     cases hq : b.own with
     | nil => exact absurd hq ho
     | cons o os => exact ⟨o, os, rfl⟩
    have hmem : (o, mlB) ∈ UT b.own := by
     rw [e]; exact List.mem_append.2 (.inl (List.mem_map.2 ⟨o, List.mem_cons_self .., rfl⟩))
    obtain ⟨x, v, e2, _⟩ := df_of hU.2 hmem
    exact ⟨o, mlB, (hT.d _ hO _).2 hmem, .inr ⟨by rw [h2]; exact List.nil_prefix, by rw [h2, e2]; simp⟩⟩
   ·
    by_cases h3 : (behP b.own (numP cnt u).2).1 = 1
    ·
     rw [beh_look _ h2] at h3
     obtain ⟨k', b', h3⟩ := look_1 h3
     have h4 : behP b.own (numP cnt ((k ++ u).drop k.length)).2 = (1, some (k', b')) := by rw [List.drop_left, beh_look _ h2]; exact h3
     rw [row_own1 h1 ho h4, List.drop_left] at h
     obtain ⟨h5, h6⟩ := fin_0 h
     obtain ⟨h7, r, hr⟩ := look_inv h3
     rw [← hr, List.drop_left] at h6
     rw [h6, List.append_nil] at hr
     exact ⟨k', b', (hT.d _ hO _).2 h7, .inl ⟨hr.symm, h5⟩⟩
    ·
     have h4 := row_own0 (reg := reg) (cnt := cnt) h1 ho (s := (behP b.own (numP cnt u).2).1) (by rw [List.drop_left]) h3
     rw [h4] at h
     have h5 : (lookG (UT b.own) (numP cnt u).2).1 = 0 := by rw [← beh_look _ h2]; exact h
     obtain ⟨⟨k', b'⟩, h6, h7, h8⟩ := look_0 h5 h2
     exact ⟨k', b', (hT.d _ hO _).2 h6, .inr ⟨h7, h8⟩⟩
 ·
  have h0 : (lookG T l).1 = 0 := by
   rw [row_not rfl h1] at h
   exact h
  obtain ⟨⟨k, b⟩, hm, h2, h3⟩ := look_0 h0 hl
  by_cases ho : b.own = []
  · exact hA ⟨k, b, (hT.r _).2 ⟨hm, ho⟩, .inr ⟨h2, h3⟩⟩
  ·
   refine hB ⟨k, b, (hT.o _).2 ⟨hm, ho⟩, .inl ?_⟩
   unfold opD
   rw [if_neg, if_pos (List.isPrefixOf_iff_prefix.2 h2)]
   intro e
   have := (List.isPrefixOf_iff_prefix.1 e).length_le
   simp only at h3
   omega
end Go.Proofs.Ytampjndfhpjheaa
namespace Go.Proofs.Ytampjndfhpjheaa
set_option linter.unusedVariables false
deriving instance DecidableEq for Bd
def motD : Rows := [([104], ⟨1, 1, 0, false, []⟩), ([8], ⟨1, 1, 0, false, []⟩), ([108], ⟨1, 2, 0, false, []⟩), ([32], ⟨1, 2, 0, false, []⟩),
 ([48], ⟨1, 3, 0, false, []⟩), ([94], ⟨1, 4, 0, false, []⟩), ([36], ⟨1, 5, 0, false, []⟩), ([124], ⟨1, 6, 0, false, []⟩),
 ([106], ⟨1, 11, 0, false, []⟩), ([107], ⟨1, 12, 0, false, []⟩), ([43], ⟨1, 13, 0, false, []⟩), ([13], ⟨1, 13, 0, false, []⟩),
 ([45], ⟨1, 14, 0, false, []⟩), ([95], ⟨1, 15, 0, false, []⟩), ([71], ⟨1, 16, 0, false, []⟩), ([103, 103], ⟨1, 17, 0, false, []⟩),
 ([119], ⟨1, 21, 0, false, []⟩), ([98], ⟨1, 22, 0, false, []⟩), ([101], ⟨1, 23, 0, false, []⟩), ([103, 101], ⟨1, 24, 0, false, []⟩),
 ([87], ⟨1, 25, 0, false, []⟩), ([66], ⟨1, 26, 0, false, []⟩), ([69], ⟨1, 27, 0, false, []⟩), ([103, 69], ⟨1, 28, 0, false, []⟩),
 ([125], ⟨1, 31, 0, false, []⟩), ([123], ⟨1, 32, 0, false, []⟩), ([59], ⟨1, 41, 0, false, []⟩), ([44], ⟨1, 42, 0, false, []⟩),
 ([47], ⟨1, 43, 0, false, []⟩), ([63], ⟨1, 44, 0, false, []⟩), ([110], ⟨1, 45, 0, false, []⟩), ([78], ⟨1, 46, 0, false, []⟩),
 ([42], ⟨1, 47, 0, false, []⟩), ([35], ⟨1, 48, 0, false, []⟩), ([72], ⟨1, 51, 0, false, []⟩), ([77], ⟨1, 52, 0, false, []⟩),
 ([76], ⟨1, 53, 0, false, []⟩), ([37], ⟨1, 33, 0, false, []⟩), ([102], ⟨1, 7, 0, true, []⟩), ([70], ⟨1, 8, 0, true, []⟩),
 ([116], ⟨1, 9, 0, true, []⟩), ([84], ⟨1, 10, 0, true, []⟩), ([96], ⟨1, 49, 0, true, []⟩), ([39], ⟨1, 50, 0, true, []⟩)]
def objD : Rows := [([105, 119], ⟨1, 61, 0, false, []⟩), ([97, 119], ⟨1, 62, 0, false, []⟩), ([105, 87], ⟨1, 63, 0, false, []⟩), ([97, 87], ⟨1, 64, 0, false, []⟩),
 ([105, 112], ⟨1, 69, 0, false, []⟩), ([97, 112], ⟨1, 70, 0, false, []⟩), ([105, 34], ⟨1, 65, 34, false, []⟩), ([97, 34], ⟨1, 66, 34, false, []⟩),
 ([105, 39], ⟨1, 65, 39, false, []⟩), ([97, 39], ⟨1, 66, 39, false, []⟩), ([105, 96], ⟨1, 65, 96, false, []⟩), ([97, 96], ⟨1, 66, 96, false, []⟩),
 ([105, 40], ⟨1, 67, 40, false, []⟩), ([97, 40], ⟨1, 68, 40, false, []⟩), ([105, 41], ⟨1, 67, 40, false, []⟩), ([97, 41], ⟨1, 68, 40, false, []⟩),
 ([105, 98], ⟨1, 67, 40, false, []⟩), ([97, 98], ⟨1, 68, 40, false, []⟩), ([105, 91], ⟨1, 67, 91, false, []⟩), ([97, 91], ⟨1, 68, 91, false, []⟩),
 ([105, 93], ⟨1, 67, 91, false, []⟩), ([97, 93], ⟨1, 68, 91, false, []⟩), ([105, 123], ⟨1, 67, 123, false, []⟩), ([97, 123], ⟨1, 68, 123, false, []⟩),
 ([105, 125], ⟨1, 67, 123, false, []⟩), ([97, 125], ⟨1, 68, 123, false, []⟩), ([105, 66], ⟨1, 67, 123, false, []⟩), ([97, 66], ⟨1, 68, 123, false, []⟩),
 ([105, 60], ⟨1, 67, 60, false, []⟩), ([97, 60], ⟨1, 68, 60, false, []⟩), ([105, 62], ⟨1, 67, 60, false, []⟩), ([97, 62], ⟨1, 68, 60, false, []⟩)]
def eveD : Rows := [([112], ⟨18, 0, 0, false, []⟩), ([80], ⟨19, 0, 0, false, []⟩), ([74], ⟨20, 0, 0, false, []⟩), ([103, 74], ⟨21, 0, 0, false, []⟩),
 ([118], ⟨26, 0, 0, false, []⟩), ([86], ⟨27, 0, 0, false, []⟩), ([58], ⟨31, 0, 0, false, []⟩), ([122, 116], ⟨38, 0, 0, false, []⟩),
 ([122, 122], ⟨39, 0, 0, false, []⟩), ([122, 98], ⟨40, 0, 0, false, []⟩), ([6], ⟨32, 0, 0, false, []⟩), ([2], ⟨33, 0, 0, false, []⟩),
 ([4], ⟨34, 0, 0, false, []⟩), ([21], ⟨35, 0, 0, false, []⟩), ([5], ⟨36, 0, 0, false, []⟩), ([25], ⟨37, 0, 0, false, []⟩),
 ([114], ⟨16, 0, 0, true, []⟩), ([113], ⟨28, 0, 0, true, []⟩), ([64], ⟨29, 0, 0, true, []⟩), ([109], ⟨30, 0, 0, true, []⟩)]
def norD : Rows := [([120], ⟨2, 2, 0, false, []⟩), ([88], ⟨2, 1, 0, false, []⟩), ([68], ⟨2, 5, 0, false, []⟩), ([115], ⟨3, 2, 0, false, []⟩),
 ([83], ⟨3, 60, 0, false, []⟩), ([67], ⟨3, 5, 0, false, []⟩), ([89], ⟨4, 60, 0, false, []⟩), ([105], ⟨10, 0, 0, false, []⟩),
 ([97], ⟨11, 0, 0, false, []⟩), ([73], ⟨12, 0, 0, false, []⟩), ([65], ⟨13, 0, 0, false, []⟩), ([111], ⟨14, 0, 0, false, []⟩),
 ([79], ⟨15, 0, 0, false, []⟩), ([82], ⟨17, 0, 0, false, []⟩), ([126], ⟨22, 0, 0, false, []⟩), ([117], ⟨23, 0, 0, false, []⟩),
 ([18], ⟨24, 0, 0, false, []⟩), ([46], ⟨25, 0, 0, false, []⟩), ([38], ⟨43, 0, 0, false, []⟩), ([103, 118], ⟨44, 0, 0, false, []⟩),
 ([90, 90], ⟨41, 0, 0, false, []⟩), ([90, 81], ⟨42, 0, 0, false, []⟩)]
def selD : Rows := [([100], ⟨2, 0, 0, false, []⟩), ([120], ⟨2, 0, 0, false, []⟩), ([99], ⟨3, 0, 0, false, []⟩), ([115], ⟨3, 0, 0, false, []⟩),
 ([121], ⟨4, 0, 0, false, []⟩), ([62], ⟨8, 0, 0, false, []⟩), ([60], ⟨9, 0, 0, false, []⟩), ([85], ⟨5, 0, 0, false, []⟩),
 ([103, 85], ⟨5, 0, 0, false, []⟩), ([117], ⟨6, 0, 0, false, []⟩), ([103, 117], ⟨6, 0, 0, false, []⟩), ([126], ⟨7, 0, 0, false, []⟩),
 ([103, 126], ⟨7, 0, 0, false, []⟩), ([111], ⟨45, 0, 0, false, []⟩)]
def oprD : Rows := [([100], ⟨2, 0, 0, false, ownP [100]⟩), ([99], ⟨3, 0, 0, false, ownP [99]⟩), ([121], ⟨4, 0, 0, false, ownP [121]⟩), ([62], ⟨8, 0, 0, false, ownP [62]⟩),
 ([60], ⟨9, 0, 0, false, ownP [60]⟩), ([103, 85], ⟨5, 0, 0, false, ownP [103, 85]⟩), ([103, 117], ⟨6, 0, 0, false, ownP [103, 117]⟩), ([103, 126], ⟨7, 0, 0, false, ownP [103, 126]⟩)]
def docR (sel : Bool) : Rows := if sel then (motD ++ objD) ++ (eveD ++ selD) else motD ++ (eveD ++ norD)
def docO (sel : Bool) : Rows := if sel then [] else oprD
def docD (x : List Int × Bd) : Rows := motD ++ objD ++ [(x.1.drop (x.1.length - 1), mlB)] ++ if 1 < x.1.length then [(x.1, mlB)] else []
def docB (T R O : Rows) : Bool :=
 (R.all fun x => decide (x ∈ T) && decide (x.2.own = [])) && (O.all fun x => decide (x ∈ T) && decide (x.2.own ≠ [])) &&
 (T.all fun x => if x.2.own = [] then decide (x ∈ R) else decide (x ∈ O)) &&
 (O.all fun x => ((docD x).all fun y => decide (y ∈ UT x.2.own)) && ((UT x.2.own).all fun y => decide (y ∈ docD x)))
theorem doc_n : docB normalT (docR false) (docO false) = true := by decide +kernel
theorem doc_s : docB selectedT (docR true) (docO true) = true := by decide +kernel
theorem docT_of {T R O : Rows} (h : docB T R O = true) : DocT T R O docD := by
 unfold docB at h
 simp only [Bool.and_eq_true, List.all_eq_true, decide_eq_true_eq] at h
 obtain ⟨⟨⟨h1, h2⟩, h3⟩, h4⟩ := h
 refine ⟨fun x => ⟨h1 x, fun ⟨a, b⟩ => ?_⟩, fun x => ⟨h2 x, fun ⟨a, b⟩ => ?_⟩, fun x hx y => ⟨(h4 x hx).1 y, (h4 x hx).2 y⟩⟩
 ·
  have := h3 x a
  rw [if_pos b] at this
  exact of_decide_eq_true this
 ·
  have := h3 x a
  rw [if_neg b] at this
  exact of_decide_eq_true this
theorem docT (sel : Bool) : DocT (topT sel) (docR sel) (docO sel) docD := by
 cases sel
 · exact docT_of doc_n
 · exact docT_of doc_s
end Go.Proofs.Ytampjndfhpjheaa
namespace Go.Proofs.Ytampjndfhpjheaa
set_option linter.unusedVariables false
def prefxD : Nat → Int → Int → List Int → Int × Int × Bool × Bool
 | 0, r, c, _ => (r, c, false, false)
 | f + 1, r, c, [] => (r, c, true, false)
 | f + 1, r, c, x :: t =>
  if x = 34 then
   match t with
   | [] => (r, c, false, true)
   | y :: u => if y = 0 then (r, c, false, false) else prefxD f y c u
  else if dig1B x = true then prefxD f r (numP c (x :: t)).1 (numP c (x :: t)).2
  else (r, c, false, false)
def prefsD (l : List Int) : Int × Int × Bool × Bool := prefxD (l.length + 1) 0 0 l
def endsD (q : List Int) : Bool := digB (q.getLastD 0) && (prefsD q.dropLast).2.2.1
def condD (p : List Int) (x : Int) : Bool := (prefsD p).2.2.1 && !(decide (p ≠ []) && digB x && endsD p)
def docAt (sel : Bool) (p l : List Int) : Nat × Cmd := docRow (docR sel) (docO sel) docD (prefsD p).1 (prefsD p).2.1 l
def scanD (sel : Bool) : List Int → List Int → Nat → Nat × Cmd
 | _, [], say => (say, cmd0)
 | p, x :: t, say =>
  if condD p x = true then
   if (docAt sel p (x :: t)).1 = 1 then docAt sel p (x :: t) else scanD sel (p ++ [x]) t (if (docAt sel p (x :: t)).1 = 0 then 0 else say)
  else scanD sel (p ++ [x]) t say
def readD (sel : Bool) (l : List Int) : Nat × Cmd := scanD sel [] l (if (prefsD l).2.2.1 = true ∨ (prefsD l).2.2.2 = true then 0 else 2)
theorem scan_1 {sel : Bool} : ∀ (r p : List Int) (say : Nat), say ≠ 1 → (scanD sel p r say).1 = 1 → ∃ q x t, p ++ r = q ++ x :: t ∧ condD q x = true ∧ (docAt sel q (x :: t)).1 = 1 ∧ scanD sel p r say = docAt sel q (x :: t)
 | [], p, say, hs, h => absurd h hs
 | x :: t, p, say, hs, h => by
  unfold scanD at *
  have hrec : ∀ s, s ≠ 1 → (scanD sel (p ++ [x]) t s).1 = 1 → ∃ q y u, p ++ x :: t = q ++ y :: u ∧ condD q y = true ∧ (docAt sel q (y :: u)).1 = 1 ∧ scanD sel (p ++ [x]) t s = docAt sel q (y :: u) := fun s h1 h2 => by
   obtain ⟨q, y, u, e, h3⟩ := scan_1 t (p ++ [x]) s h1 h2
   exact ⟨q, y, u, by rw [← e, List.append_assoc]; rfl, h3⟩
  by_cases hc : condD p x = true
  ·
   rw [if_pos hc] at h ⊢
   by_cases hm : (docAt sel p (x :: t)).1 = 1
   · rw [if_pos hm]; exact ⟨p, x, t, rfl, hc, hm, rfl⟩
   ·
    rw [if_neg hm] at h ⊢
    exact hrec _ (by split; decide; exact hs) h
  ·
   rw [if_neg hc] at h ⊢
   exact hrec _ hs h
theorem scan_0 {sel : Bool} : ∀ (r p : List Int) (say : Nat), (scanD sel p r say).1 = 0 → say = 0 ∨ ∃ q x t, p ++ r = q ++ x :: t ∧ condD q x = true ∧ (docAt sel q (x :: t)).1 = 0
 | [], p, say, h => .inl h
 | x :: t, p, say, h => by
  unfold scanD at h
  have hrec : ∀ s, (scanD sel (p ++ [x]) t s).1 = 0 → s = 0 ∨ ∃ q y u, p ++ x :: t = q ++ y :: u ∧ condD q y = true ∧ (docAt sel q (y :: u)).1 = 0 := fun s h2 => by
   rcases scan_0 t (p ++ [x]) s h2 with h3 | ⟨q, y, u, e, h3⟩
   · exact .inl h3
   · exact .inr ⟨q, y, u, by rw [← e, List.append_assoc]; rfl, h3⟩
  by_cases hc : condD p x = true
  ·
   rw [if_pos hc] at h
   by_cases hm : (docAt sel p (x :: t)).1 = 1
   · rw [if_pos hm, hm] at h; cases h
   ·
    rw [if_neg hm] at h
    by_cases h0 : (docAt sel p (x :: t)).1 = 0
    · exact .inr ⟨p, x, t, rfl, hc, h0⟩
    · rw [if_neg h0] at h; exact hrec _ h
  ·
   rw [if_neg hc] at h
   exact hrec _ h
theorem scan_hit {sel : Bool} : ∀ (q p : List Int) (say : Nat) (x : Int) (t : List Int), condD (p ++ q) x = true → (docAt sel (p ++ q) (x :: t)).1 = 1 → (scanD sel p (q ++ x :: t) say).1 = 1
 | [], p, say, x, t, hc, hm => by
  rw [List.append_nil] at hc hm
  show (scanD sel p (x :: t) say).1 = 1
  unfold scanD
  rw [if_pos hc, if_pos hm]; exact hm
 | y :: q, p, say, x, t, hc, hm => by
  show (scanD sel p (y :: (q ++ x :: t)) say).1 = 1
  unfold scanD
  have hrec : ∀ s, (scanD sel (p ++ [y]) (q ++ x :: t) s).1 = 1 := fun s => scan_hit q (p ++ [y]) s x t (by rw [List.append_assoc]; exact hc) (by rw [List.append_assoc]; exact hm)
  by_cases hc2 : condD p y = true
  ·
   rw [if_pos hc2]
   by_cases hm2 : (docAt sel p (y :: (q ++ x :: t))).1 = 1
   · rw [if_pos hm2]; exact hm2
   · rw [if_neg hm2]; exact hrec _
  · rw [if_neg hc2]; exact hrec _
theorem scan_s0 {sel : Bool} : ∀ (r p : List Int), (scanD sel p r 0).1 = 0 ∨ (scanD sel p r 0).1 = 1
 | [], p => .inl rfl
 | x :: t, p => by
  unfold scanD
  by_cases hc : condD p x = true
  ·
   rw [if_pos hc]
   by_cases hm : (docAt sel p (x :: t)).1 = 1
   · rw [if_pos hm]; exact .inr hm
   · rw [if_neg hm, ite_self]; exact scan_s0 t _
  · rw [if_neg hc]; exact scan_s0 t _
theorem scan_hit0 {sel : Bool} : ∀ (q p : List Int) (say : Nat) (x : Int) (t : List Int), condD (p ++ q) x = true → (docAt sel (p ++ q) (x :: t)).1 = 0 → (scanD sel p (q ++ x :: t) say).1 = 0 ∨ (scanD sel p (q ++ x :: t) say).1 = 1
 | [], p, say, x, t, hc, hm => by
  rw [List.append_nil] at hc hm
  show (scanD sel p (x :: t) say).1 = 0 ∨ (scanD sel p (x :: t) say).1 = 1
  unfold scanD
  rw [if_pos hc, if_neg (by rw [hm]; decide), if_pos hm]; exact scan_s0 _ _
 | y :: q, p, say, x, t, hc, hm => by
  show (scanD sel p (y :: (q ++ x :: t)) say).1 = 0 ∨ (scanD sel p (y :: (q ++ x :: t)) say).1 = 1
  unfold scanD
  have hrec : ∀ s, (scanD sel (p ++ [y]) (q ++ x :: t) s).1 = 0 ∨ (scanD sel (p ++ [y]) (q ++ x :: t) s).1 = 1 := fun s => scan_hit0 q (p ++ [y]) s x t (by rw [List.append_assoc]; exact hc) (by rw [List.append_assoc]; exact hm)
  by_cases hc2 : condD p y = true
  ·
   rw [if_pos hc2]
   by_cases hm2 : (docAt sel p (y :: (q ++ x :: t))).1 = 1
   · rw [if_pos hm2]; exact .inr hm2
   · rw [if_neg hm2]; exact hrec _
  · rw [if_neg hc2]; exact hrec _
theorem prefx_of : ∀ (ts : List Tok) (f : Nat) (r c : Int) (rest : List Int), okT false ts → (endN false ts = true → ∀ x t, rest = x :: t → digB x = false) → (flatT ts ++ rest).length < f →
  ∃ f', rest.length < f' ∧ prefxD f r c (flatT ts ++ rest) = prefxD f' (effs (r, c) ts).1 (effs (r, c) ts).2 rest
 | [], f, r, c, rest, _, _, hf => ⟨f, hf, rfl⟩
 | .reg y :: ts, f, r, c, rest, hk, he, hf => by
  have hlen : (flatT (.reg y :: ts) ++ rest).length = 2 + (flatT ts ++ rest).length := by
   simp only [flatT, Tok.keys, List.length_append, List.length_cons, List.length_nil]; omega
  rw [hlen] at hf
  obtain ⟨g, rfl⟩ : ∃ g, f = g + 1 := ⟨f - 1, by omega⟩
  obtain ⟨f', h1, h2⟩ := prefx_of ts g y c rest hk.2 he (by omega)
  refine ⟨f', h1, ?_⟩
  rw [show effs (r, c) (.reg y :: ts) = effs (y, c) ts from rfl, ← h2]
  show prefxD (g + 1) r c (34 :: y :: (flatT ts ++ rest)) = _
  simp only [prefxD, if_true, if_neg hk.1]
 | .num ds :: ts, f, r, c, rest, hk, he, hf => by
  obtain ⟨_, hd, hk2⟩ := hk
  have hlen : (flatT (.num ds :: ts) ++ rest).length = ds.length + (flatT ts ++ rest).length := by
   simp only [flatT, Tok.keys, List.length_append]; omega
  rw [hlen] at hf
  have hpos := hd.pos
  obtain ⟨g, rfl⟩ : ∃ g, f = g + 1 := ⟨f - 1, by omega⟩
  have hnext : ∀ x t, flatT ts ++ rest = x :: t → digB x = false := fun x t e => by
   cases ts with
   | nil => exact he rfl x t e
   | cons a ts =>
    cases a with
    | num es => cases hk2.1
    | reg y =>
     have : x = 34 := by
      have e' : 34 :: y :: (flatT ts ++ rest) = x :: t := e
      injection e' with e1 _
      exact e1.symm
     rw [this]; rfl
  have hk3 : okT false ts := by
   cases ts with
   | nil => trivial
   | cons a ts =>
    cases a with
    | num es => cases hk2.1
    | reg y => exact hk2
  have he3 : endN false ts = true → ∀ x t, rest = x :: t → digB x = false := fun e => he (by
   cases ts with
   | nil => rfl
   | cons a ts =>
    cases a with
    | num es => cases hk2.1
    | reg y => exact e)
  obtain ⟨f', h1, h2⟩ := prefx_of ts g r (min (max c 1 * valN ds) 9999) rest hk3 he3 (by omega)
  refine ⟨f', h1, ?_⟩
  rw [show effs (r, c) (.num ds :: ts) = effs (r, min (max c 1 * valN ds) 9999) ts from rfl, ← h2]
  have hn := numP_of hd hnext c
  obtain ⟨x, u, rfl, hx1, _⟩ := hd
  have hx34 : x ≠ 34 := fun e => by rw [e] at hx1; cases hx1
  have e : flatT (.num (x :: u) :: ts) ++ rest = x :: (u ++ (flatT ts ++ rest)) := by
   simp only [flatT, Tok.keys, List.append_assoc, List.cons_append]
  rw [e]
  have hn' : numP c (x :: (u ++ (flatT ts ++ rest))) = (min (max c 1 * valN (x :: u)) 9999, flatT ts ++ rest) := hn
  conv => lhs; unfold prefxD
  rw [if_neg hx34, if_pos hx1, hn']
end Go.Proofs.Ytampjndfhpjheaa
