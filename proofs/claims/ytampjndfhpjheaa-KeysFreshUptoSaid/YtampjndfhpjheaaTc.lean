/- Plain law of tries: rows of keys with values, none of which begins another. No program. -/
import Derived.Test.YtampjndfhpjheaaTa
namespace Go.Proofs.Ytampjndfhpjheaa
/-- rows with their values, in the order in which they came -/
abbrev TrieS := List (List Int × Int)
/-- no row is empty, none begins another -/
def TrieOk (S : TrieS) : Prop := (∀ r ∈ S, r.1 ≠ []) ∧ S.Pairwise (fun a b => ¬ a.1 <+: b.1 ∧ ¬ b.1 <+: a.1)
/-- does the row of keys begin one that is held? -/
def preB (S : TrieS) (p : List Int) : Bool := S.any (fun r => p.isPrefixOf r.1)
/-- the value of a row -/
def valO (S : TrieS) (p : List Int) : Option Int := (S.find? (fun r => r.1 == p)).map (·.2)
/-- 1: done, 0: more, 2: bad -/
def lookS (S : TrieS) (p : List Int) : Int × Nat :=
  match S.find? (fun r => p.isPrefixOf r.1) with
  | none => (0, 2)
  | some r => if r.1.length = p.length then (r.2, 1) else (0, 0)
def putB (S : TrieS) (p : List Int) : Bool := !p.isEmpty && S.all (fun r => !r.1.isPrefixOf p && !p.isPrefixOf r.1)
theorem preB_iff {S : TrieS} {p : List Int} : preB S p = true ↔ ∃ r ∈ S, p <+: r.1 := by
  unfold preB
  rw [List.any_eq_true]
  constructor
  · rintro ⟨r, h1, h2⟩; exact ⟨r, h1, List.isPrefixOf_iff_prefix.1 h2⟩
  · rintro ⟨r, h1, h2⟩; exact ⟨r, h1, List.isPrefixOf_iff_prefix.2 h2⟩
theorem preB_less {S : TrieS} {p q : List Int} (h : preB S q = true) (hp : p <+: q) : preB S p = true := by
  obtain ⟨r, h1, h2⟩ := preB_iff.1 h
  exact preB_iff.2 ⟨r, h1, hp.trans h2⟩
/-- a row that is held is the only one that it begins -/
theorem trie_only {S : TrieS} (h : TrieOk S) {r s : List Int × Int} (hr : r ∈ S) (hs : s ∈ S) (hp : r.1 <+: s.1) : r = s := by
  induction S with
  | nil => cases hr
  | cons a l ih =>
    have hpw := List.pairwise_cons.1 h.2
    have hl : TrieOk l := ⟨fun x hx => h.1 x (List.mem_cons_of_mem _ hx), hpw.2⟩
    rcases List.mem_cons.1 hr with rfl | hr'
    · rcases List.mem_cons.1 hs with rfl | hs'
      · rfl
      · exact absurd hp (hpw.1 s hs').1
    · rcases List.mem_cons.1 hs with rfl | hs'
      · exact absurd hp (hpw.1 r hr').2
      · exact ih hl hr' hs'
theorem lookS_done {S : TrieS} (h : TrieOk S) {r : List Int × Int} (hr : r ∈ S) : lookS S r.1 = (r.2, 1) := by
  unfold lookS
  cases hf : S.find? (fun x => r.1.isPrefixOf x.1) with
  | none =>
    have := List.find?_eq_none.1 hf r hr
    simp at this
  | some x =>
    have h1 := List.mem_of_find?_eq_some hf
    have h2 := List.find?_some hf
    have := trie_only h hr h1 (List.isPrefixOf_iff_prefix.1 h2)
    subst this
    simp
theorem lookS_more {S : TrieS} {p : List Int} (h1 : preB S p = true) (h2 : ∀ r ∈ S, r.1 ≠ p) : lookS S p = (0, 0) := by
  unfold lookS
  cases hf : S.find? (fun x => p.isPrefixOf x.1) with
  | none =>
    obtain ⟨r, hr, hp⟩ := preB_iff.1 h1
    have := List.find?_eq_none.1 hf r hr
    exact absurd (List.isPrefixOf_iff_prefix.2 hp) this
  | some x =>
    have h3 := List.mem_of_find?_eq_some hf
    have h4' := List.find?_some hf
    have h4 := List.isPrefixOf_iff_prefix.1 h4'
    have h5 : x.1.length ≠ p.length := fun e => h2 x h3 (h4.eq_of_length e.symm).symm
    simp [h5]
theorem lookS_bad {S : TrieS} {p : List Int} (h : preB S p = false) : lookS S p = (0, 2) := by
  unfold lookS
  have : S.find? (fun x => p.isPrefixOf x.1) = none := by
    rw [List.find?_eq_none]
    intro x hx hp
    have : preB S p = true := preB_iff.2 ⟨x, hx, List.isPrefixOf_iff_prefix.1 hp⟩
    rw [this] at h; cases h
  rw [this]
/-- the trie behind a Put -/
theorem TrieOk.put {S : TrieS} (h : TrieOk S) {p : List Int} (v : Int) (hp : putB S p = true) : TrieOk (S ++ [(p, v)]) := by
  unfold putB at hp
  rw [Bool.and_eq_true, List.all_eq_true] at hp
  have hne : p ≠ [] := fun e => by rw [e] at hp; simp at hp
  refine ⟨fun r hr => ?_, List.pairwise_append.2 ⟨h.2, List.pairwise_singleton _ _, fun a ha b hb => ?_⟩⟩
  · rcases List.mem_append.1 hr with h1 | h1
    · exact h.1 r h1
    · rw [List.mem_singleton.1 h1]; exact hne
  · rw [List.mem_singleton.1 hb]
    have := hp.2 a ha
    rw [Bool.and_eq_true] at this
    constructor
    · intro e; rw [List.isPrefixOf_iff_prefix.2 e] at this; exact absurd this.1 (by decide)
    · intro e; rw [List.isPrefixOf_iff_prefix.2 e] at this; exact absurd this.2 (by decide)
theorem preB_put {S : TrieS} {p q : List Int} (v : Int) : preB (S ++ [(p, v)]) q = (preB S q || q.isPrefixOf p) := by
  unfold preB; simp
end Go.Proofs.Ytampjndfhpjheaa
