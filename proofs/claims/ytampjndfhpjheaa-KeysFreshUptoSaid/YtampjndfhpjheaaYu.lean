/- Contract: behindOperator. Condition: fewer than 2^62 keys. -/
import Derived.Test.YtampjndfhpjheaaYt
import Derived.Test.YtampjndfhpjheaaYq
namespace Go.Proofs.Ytampjndfhpjheaa
open Go.RowKit
theorem find_zip {α : Type} (p : List Int → Bool) (rows : List (List Int × α)) (n : Nat) :
    (rows.find? (fun r => p r.1) = none → ((rows.zipIdx n).map fun r => (r.1.1, (r.2 : Int))).find? (fun r => p r.1) = none) ∧
    (∀ x, rows.find? (fun r => p r.1) = some x → ∃ j, ∃ hj : j < rows.length, rows[j] = x ∧ ((rows.zipIdx n).map fun r => (r.1.1, (r.2 : Int))).find? (fun r => p r.1) = some (x.1, ((n + j : Nat) : Int))) := by
  induction rows generalizing n with
  | nil => exact ⟨fun _ => rfl, fun x h => by cases h⟩
  | cons r l ih =>
    cases hp : p r.1
    · constructor
      · intro h
        rw [List.find?_cons, hp] at h
        simp only [List.zipIdx_cons, List.map_cons, List.find?_cons, hp]
        exact (ih (n + 1)).1 h
      · intro x h
        rw [List.find?_cons, hp] at h
        obtain ⟨j, hj, h1, h2⟩ := (ih (n + 1)).2 x h
        refine ⟨j + 1, by simpa using hj, by simpa using h1, ?_⟩
        simp only [List.zipIdx_cons, List.map_cons, List.find?_cons, hp]
        rw [h2, show n + 1 + j = n + (j + 1) from by omega]
    · constructor
      · intro h
        rw [List.find?_cons, hp] at h; cases h
      · intro x h
        rw [List.find?_cons, hp] at h
        injection h with h
        subst h
        exact ⟨0, by simp, rfl, by simp [List.zipIdx_cons, hp]⟩
theorem any_zip {α : Type} (p : List Int → Bool) (rows : List (List Int × α)) (n : Nat) : ((rows.zipIdx n).map fun r => (r.1.1, (r.2 : Int))).any (fun r => p r.1) = rows.any (fun r => p r.1) := by
  induction rows generalizing n with
  | nil => rfl
  | cons r l ih =>
    simp only [List.zipIdx_cons, List.map_cons, List.any_cons]
    rw [ih]
/-- what look comes to, told of the rows -/
theorem lookG_rows (rows : Rows) (l : List Int) : (lookG (trieOf rows) l).1 = (lookG rows l).1 ∧
    (((lookG rows l).1 = 1 ∧ ∃ j, ∃ hj : j < rows.length, lookG rows l = (1, some rows[j]) ∧ lookG (trieOf rows) l = (1, some (rows[j].1, (j : Int)))) ∨ ((lookG rows l).1 ≠ 1 ∧ (lookG rows l).2 = none ∧ (lookG (trieOf rows) l).2 = none)) := by
  have h1 := find_zip (fun k => k.isPrefixOf l) rows 0
  have h2 := any_zip (fun k => l.isPrefixOf k) rows 0
  unfold lookG trieOf
  cases hf : rows.find? (fun r => r.1.isPrefixOf l) with
  | none =>
    rw [h1.1 hf]
    simp only [h2]
    generalize (l.isEmpty || rows.any (fun r => l.isPrefixOf r.1)) = hc
    cases hc
    · exact ⟨rfl, .inr ⟨by decide, rfl, rfl⟩⟩
    · exact ⟨rfl, .inr ⟨by decide, rfl, rfl⟩⟩
  | some x =>
    obtain ⟨j, hj, h3, h4⟩ := h1.2 x hf
    rw [h4]
    simp only
    refine ⟨trivial, .inl ⟨trivial, j, hj, by rw [h3], by rw [h3, Nat.zero_add]⟩⟩
/-- what a bound tells of a row, whatever its own rows are -/
def BvIs (b : Bd) (x : BV) : Prop := x.v = b.verb ∧ x.m = b.move ∧ x.a = b.arg ∧ x.more = b.more
theorem BdOk.is {w : World} {ow : Nat → Nat} {b : Bd} {x : BV} (h : BdOk w ow b x) : BvIs b x := ⟨h.1, h.2.1, h.2.2.1, h.2.2.2.1⟩
theorem LOf.trie {w : World} {ow : Nat → Nat} {tb i : Nat} {rows : Rows} (h : LOf w ow tb i rows) : ∃ (bvs : List BV) (nb mb : List Int → Option Nat) (val : List Int → Option (Nat × Int)), TrieN 133 (encB (Eof bvs)) w (fun b => ow b = 10 + i) tb (4 * i + 2) (trieOf rows) nb mb val ∧ ∀ j (hj : j < rows.length), BdOk w ow rows[j].2 (Eof bvs (j : Int)) := by
  obtain ⟨qs, bvs, sK, cK, sB, cB, hp⟩ := h
  obtain ⟨nb, mb, val, ht⟩ := hp.t
  refine ⟨bvs, nb, mb, val, ht, fun j hj => ?_⟩
  have hjb : j < bvs.length := by rw [hp.b.len, List.length_map]; exact hj
  have h1 := hp.b.each j hjb (by rw [List.length_map]; exact hj)
  rw [List.getElem_map] at h1
  unfold Eof
  rw [Int.toNat_natCast, List.getD_eq_getElem?_getD, List.getElem?_eq_getElem hjb]
  exact h1
/-- look in a list of the tables -/
def LookPost (w : World) (ow : Nat → Nat) (rows : Rows) (rb : Nat) (l : List Int) (cnt : Int) (B : Nat) (e : Ending) (w' : World) : Prop :=
  ∃ bv : BV, e = .returned (.tuple #[.agg bv.cells, .int .i64 ((lookG rows l).1 : Nat)]) ∧ Touch (fun b => b = rb) w w' ∧
    (((lookG rows l).1 = 1 ∧ ∃ k b, lookG rows l = (1, some (k, b)) ∧ (k, b) ∈ rows ∧ BdOk w ow b bv ∧ RdOk w' rb (l.drop k.length) cnt B) ∨ ((lookG rows l).1 ≠ 1 ∧ (lookG rows l).2 = none ∧ RdOk w' rb l cnt B))
theorem look_t (ow : Nat → Nat) (tb i : Nat) (rows : Rows) (rb : Nat) (l : List Int) (cnt : Int) (B : Nat) (w : World) (hB : B ≤ w.heap.size) (hS : TrieOk (trieOf rows)) (ht : LOf w ow tb i rows) (hr : RdOk w rb l cnt B) (hl : l.length < 4611686018427387904) (hkeys : ∀ x ∈ l, inKey x) :
    Calls Try.prog 85 #[.pointer (some ⟨rb, 0, none⟩), .pointer (some ⟨tb, 4 * i + 2, none⟩)] w (LookPost w ow rows rb l cnt B) := by
  obtain ⟨bvs, nb, mb, val, h1, h2⟩ := ht.trie
  refine (look_c _ tb (4 * i + 2) (Eof bvs) (trieOf rows) nb mb val rb l cnt B w hB hS h1 hr hl hkeys).mono ?_
  rintro e w' ⟨rfl, h3, h4⟩
  obtain ⟨h5, h6⟩ := lookG_rows rows l
  refine ⟨bvL (Eof bvs) (trieOf rows) l, by rw [h5], h4, ?_⟩
  rcases h6 with ⟨h6, j, hj, h7, h8⟩ | ⟨h6, h7, h8⟩
  · refine .inl ⟨h6, (rows[j]).1, (rows[j]).2, h7, List.getElem_mem hj, ?_, ?_⟩
    · unfold bvL; rw [h8]; exact h2 j hj
    · unfold restL at h3; rw [h8] at h3; exact h3
  · refine .inr ⟨h6, h7, ?_⟩
    unfold restL at h3
    have : lookG (trieOf rows) l = ((lookG rows l).1, none) := by rw [← h5, ← h8]
    rw [this] at h3
    revert h3
    cases (lookG rows l).1 with
    | zero => exact id
    | succ n => cases n <;> exact id
theorem lookG_own (own : List (List Int)) (l : List Int) : (lookG (ownS own) l).1 = (lookG (own.map fun k => (k, mlB)) l).1 ∧
    (((lookG (own.map fun k => (k, mlB)) l).1 = 1 ∧ ∃ k, lookG (own.map fun k => (k, mlB)) l = (1, some (k, mlB)) ∧ lookG (ownS own) l = (1, some (k, 0))) ∨ ((lookG (own.map fun k => (k, mlB)) l).1 ≠ 1 ∧ (lookG (own.map fun k => (k, mlB)) l).2 = none ∧ (lookG (ownS own) l).2 = none)) := by
  unfold lookG ownS
  have h1 : (own.map fun k => (k, mlB)).find? (fun r => r.1.isPrefixOf l) = (own.find? fun k => k.isPrefixOf l).map fun k => (k, mlB) := by rw [List.find?_map]; rfl
  have h2 : (own.map fun k => (k, (0 : Int))).find? (fun r => r.1.isPrefixOf l) = (own.find? fun k => k.isPrefixOf l).map fun k => (k, (0 : Int)) := by rw [List.find?_map]; rfl
  have h3 : (own.map fun k => (k, mlB)).any (fun r => l.isPrefixOf r.1) = own.any (fun k => l.isPrefixOf k) := by rw [List.any_map]; rfl
  have h4 : (own.map fun k => (k, (0 : Int))).any (fun r => l.isPrefixOf r.1) = own.any (fun k => l.isPrefixOf k) := by rw [List.any_map]; rfl
  rw [h1, h2]
  cases hf : own.find? (fun k => k.isPrefixOf l) with
  | none =>
    simp only [Option.map_none, h3, h4]
    generalize (l.isEmpty || own.any (fun k => l.isPrefixOf k)) = hc
    cases hc
    · exact ⟨rfl, .inr ⟨by decide, rfl, rfl⟩⟩
    · exact ⟨rfl, .inr ⟨by decide, rfl, rfl⟩⟩
  | some k =>
    simp only [Option.map_some]
    exact ⟨trivial, .inl ⟨trivial, k, rfl, rfl⟩⟩
/-- look among an operator's own rows -/
theorem look_o (ow : Nat → Nat) (r : Nat) (own : List (List Int)) (rb : Nat) (l : List Int) (cnt : Int) (B : Nat) (w : World) (hB : B ≤ w.heap.size) (hS : TrieOk (ownS own)) (ht : TPart w ow 5 r 0 (fun _ => mlV) (ownS own)) (hr : RdOk w rb l cnt B) (hl : l.length < 4611686018427387904) (hkeys : ∀ x ∈ l, inKey x) :
    Calls Try.prog 85 #[.pointer (some ⟨rb, 0, none⟩), .pointer (some ⟨r, 0, none⟩)] w fun e w' => ∃ bv : BV, e = .returned (.tuple #[.agg bv.cells, .int .i64 ((lookG (own.map fun k => (k, mlB)) l).1 : Nat)]) ∧ Touch (fun b => b = rb) w w' ∧
      (((lookG (own.map fun k => (k, mlB)) l).1 = 1 ∧ bv = mlV ∧ ∃ k, lookG (own.map fun k => (k, mlB)) l = (1, some (k, mlB)) ∧ RdOk w' rb (l.drop k.length) cnt B) ∨ ((lookG (own.map fun k => (k, mlB)) l).1 ≠ 1 ∧ (lookG (own.map fun k => (k, mlB)) l).2 = none ∧ RdOk w' rb l cnt B)) := by
  obtain ⟨nb, mb, val, h1⟩ := ht
  refine (look_c _ r 0 (fun _ => mlV) (ownS own) nb mb val rb l cnt B w hB hS h1 hr hl hkeys).mono ?_
  rintro e w' ⟨rfl, h3, h4⟩
  obtain ⟨h5, h6⟩ := lookG_own own l
  refine ⟨bvL (fun _ => mlV) (ownS own) l, by rw [h5], h4, ?_⟩
  rcases h6 with ⟨h6, k, h7, h8⟩ | ⟨h6, h7, h8⟩
  · refine .inl ⟨h6, by unfold bvL; rw [h8]; rfl, k, h7, ?_⟩
    unfold restL at h3; rw [h8] at h3; exact h3
  · refine .inr ⟨h6, h7, ?_⟩
    unfold restL at h3
    have : lookG (ownS own) l = ((lookG (own.map fun k => (k, mlB)) l).1, none) := by rw [← h5, ← h8]
    rw [this] at h3
    revert h3
    cases (lookG (own.map fun k => (k, mlB)) l).1 with
    | zero => exact id
    | succ n => cases n <;> exact id
end Go.Proofs.Ytampjndfhpjheaa
