/- Steps: a whole list of ints appended to nil, as a law for the walk. Condition: fewer than 2^32 members. -/
import Derived.Test.YtpipcmbfdcbboaaCi
import Derived.Laws.AppendOwnNone
namespace Go.Proofs.Ytpipcmbfdcbboaa
open Go.RowKit
theorem IsInts.same {w : World} {s : Option Addr} {n : Nat} {f g : Nat → Int} (h : IsInts w s n f) (he : ∀ i, i < n → f i = g i) : IsInts w s n g := by
  rcases h with h | ⟨b, off, hs, hb, hc⟩
  · exact .inl h
  · exact .inr ⟨b, off, hs, hb, fun i hi => by rw [← he i hi]; exact hc i hi⟩
theorem OwnInts.list {w : World} {base : Nat} {v : Value} {f : Nat → Int} {n : Nat} (h : OwnInts w base v (lst f n)) : ∃ s c, v = .slice s n c ∧ n ≤ c ∧ (s = none → n = 0 ∧ c = 0) ∧ IsInts w s n f := by
  have hc : ∃ s c, v = .slice s n c ∧ n ≤ c ∧ (s = none → n = 0 ∧ c = 0) := by
    rcases h.2 with ⟨h1, h2⟩ | ⟨g, cap, cur, h1, _, _, h2, _⟩
    · rw [lst_len] at h2; exact ⟨none, 0, by rw [h1, h2], by omega, fun _ => ⟨h2, rfl⟩⟩
    · rw [lst_len] at h1 h2; exact ⟨_, cap, h1, h2, fun h => by cases h⟩
  obtain ⟨s, c, rfl, h1, h2⟩ := hc
  obtain ⟨s', c', hv, hi, _⟩ := h.isInts
  obtain ⟨rfl, _, rfl⟩ := Value.slice.inj hv
  rw [lst_len] at hi
  exact ⟨s, c, rfl, h1, h2, hi.same fun i hi => lst_getD f n i hi⟩
theorem ints_one (l : List Int) : ∀ u ∈ l.map (Value.int .i64), u.oneCell' = true := by
  intro u hu
  obtain ⟨x, _, rfl⟩ := List.mem_map.1 hu
  rfl
theorem wpList_append_all {w : World} {ops : Array Oper} {rest : List Oper} {o : Oper} {a : Act} {Q : Exit → Act → World → Prop} (hgd : o.guard = none) (s x : Operand)
    (ho : o.op = .call { callee := .builtin .append, args := #[s, x], argTypes := #[22, 22] })
    (hs : a.eval s = .slice none 0 0) (sa : Option Addr) (len cap : Nat) (f : Nat → Int) (hx : a.eval x = .slice sa len cap) (hr : IsInts w sa len f) (hnil : sa = none → len = 0 ∧ cap = 0) (hl : len < 4294967296) (base : Nat) (hbase : base ≤ w.heap.size)
    (h : ∀ s' c' w', OwnInts w' base (.slice s' len c') (lst f len) → Below base w w' → len ≤ c' → (s' = none → len = 0 ∧ c' = 0) → IsInts w' s' len f → wpList Try.prog ops Q rest (a.put o.dst (.slice s' len c')) w') : wpList Try.prog ops Q (o :: rest) a w := by
  obtain ⟨i0, hi, hz0, hz1, hz2⟩ := info_parts Try.infoInt
  have hown : w.ownsRow base 3 1 (.slice none 0 0) 0 [] := World.ownsRow_nil w base _ 1
  cases sa with
  | none =>
    obtain ⟨rfl, rfl⟩ := hnil rfl
    refine wpList_append_own_none hgd s x 22 ho base 3 i0 1 Try.underlying22 hi _ 0 [] hs hown hx ?_
    exact h none 0 w (OwnInts.nil w base) (Below.refl _ _) (Nat.le_refl _) (fun _ => ⟨rfl, rfl⟩) hr
  | some ad =>
    refine wpList_append_own w hgd s x 22 ho base 3 i0 (.int .i64 0) 1 8 Try.underlying22 hi hz0 hz1 hz2 rfl (by decide) _ 0 [] hs hown ad len cap ((lst f len).map (Value.int .i64)) hx (by rw [List.length_map, lst_len, Nat.mul_one]) ?_ (ints_one _) (by unfold maxLen; omega) (by omega) hbase ?_
    · intro j u hu
      rw [List.getElem?_map] at hu
      rcases hr with h0 | ⟨b, off, he, hb, hc⟩
      · subst h0; simp [lst] at hu
      · cases he
        by_cases hj : j < len
        · rw [List.getElem?_eq_getElem (by rw [lst_len]; exact hj)] at hu
          simp [lst] at hu
          rw [Go.WideShapes.add_plain, ← hu]
          exact hc j hj
        · rw [List.getElem?_eq_none (by rw [lst_len]; omega)] at hu; cases hu
    · intro v' w' hown' hgrow _
      have hO : OwnInts w' base v' (lst f len) := by
        unfold OwnInts
        rw [lst_len]
        rw [Nat.zero_add, List.nil_append] at hown'
        exact hown'
      obtain ⟨s', c', rfl, h1, h2, h3⟩ := hO.list
      exact h s' c' w' hO (Below.grown (Below.refl _ _) hgrow hbase (fun k hk => by simp [Value.ownBlock] at hk)) h1 h2 h3
end Go.Proofs.Ytpipcmbfdcbboaa
