/- Two sides of three tries: what the law KeysTrie holds from round to round. No walk. -/
import Derived.Test.YtampjndfhpjheaaTo
namespace Go.Proofs.Ytampjndfhpjheaa
open Go.RowKit
theorem GT.empty {V : Type} {tT tV : TypeId} {enc : V → Array Value} {w : World} {O : Nat → Prop} {b : Nat} (h : w.heap[b]? = some (.cells #[.pointer none, .map none] tT (0, 0))) (hO : O b) :
    GT tT tV enc w O b 0 (fun p => if p = [] then some b else none) (fun _ => none) (fun _ => (none : Option (Nat × V))) := by
  have hne : ∀ (p : List Int) (k : Int), p ++ [k] ≠ [] := fun p k e => by simp at e
  refine ⟨rfl, ?_, (fun p x hx => by cases hx), (fun p x hx => by cases hx), ?_, (fun p x hx => by cases hx), (fun p _ k => if_neg (hne p k)), (fun p x hx => by cases hx), ?_, (fun p q x hx => by cases hx), (fun p _ => ⟨rfl, rfl⟩), (fun p k x hx => by simp only [hne, if_false] at hx; cases hx)⟩
  · intro p x hx
    try simp only at hx
    split at hx
    · injection hx with hx; subst hx; exact hO
    · cases hx
  · intro p x hx
    try simp only at hx
    split at hx
    · injection hx with hx; subst hx; exact h
    · cases hx
  · intro p q x hp hq
    try simp only at hp hq
    split at hp
    · split at hq
      · rename_i e1 e2; rw [e1, e2]
      · cases hq
    · cases hp
theorem Trie.empty {tT tV : TypeId} {enc : Int → Array Value} {w : World} {O : Nat → Prop} {b : Nat} (h : w.heap[b]? = some (.cells #[.pointer none, .map none] tT (0, 0))) (hO : O b) :
    Trie tT tV enc w O b [] (fun p => if p = [] then some b else none) (fun _ => none) (fun _ => none) := by
  refine ⟨GT.empty h hO, fun p => ?_, fun _ => rfl, fun p m hm => by cases hm⟩
  by_cases e : p = []
  · simp [e]
  · simp [e, preB]
theorem TI.empty {w : World} {O : Nat → Prop} {b : Nat} (h : w.heap[b]? = some (.cells #[.pointer none, .map none] 26 (0, 0))) (hO : O b) : TI w O b [] := ⟨_, _, _, Trie.empty h hO⟩
theorem TT.empty {w : World} {O : Nat → Prop} {b : Nat} (h : w.heap[b]? = some (.cells #[.pointer none, .map none] 30 (0, 0))) (hO : O b) : TT w O b [] := ⟨_, _, _, Trie.empty h hO⟩
theorem RT.empty {w : World} {O : Nat → Prop} {b : Nat} (h : w.heap[b]? = some (.cells #[.slice none 0 0, .slice none 0 0] 35 (0, 0))) (hO : O b) : RT w O b [] := by
  refine ⟨none, 0, none, 0, [], h, World.ownsRow_nil w 0 _ 1, OwnInts.nil w 0, rfl, (fun i hi => by cases hi), (fun q hq => by cases hq), hO, (fun b hb => by cases hb), (fun b hb => by cases hb), (fun q hq => by cases hq)⟩
theorem Side.empty {w : World} {tb gb rb : Nat} (h1 : w.heap[tb]? = some (.cells #[.pointer none, .map none] 26 (0, 0))) (h2 : w.heap[gb]? = some (.cells #[.pointer none, .map none] 30 (0, 0))) (h3 : w.heap[rb]? = some (.cells #[.slice none 0 0, .slice none 0 0] 35 (0, 0))) (n12 : tb ≠ gb) (n13 : tb ≠ rb) (n23 : gb ≠ rb) :
    Side w (fun b => b = tb ∨ b = gb ∨ b = rb) tb gb rb [] := by
  have l1 := heap_lt h1; have l2 := heap_lt h2; have l3 := heap_lt h3
  refine ⟨⟨(fun r hr => by cases hr), List.Pairwise.nil⟩, ?_, fun b => b = tb, fun b => b = gb, fun b => b = rb, fun b h => .inl h, fun b h => .inr (.inl h), fun b h => .inr (.inr h), fun b h k => n12 (h.symm.trans k), fun b h k => n13 (h.symm.trans k), fun b h k => n23 (h.symm.trans k), TI.empty h1 rfl, TT.empty h2 rfl, RT.empty h3 rfl⟩
  rintro b (rfl | rfl | rfl) <;> assumption
theorem sizeS_le {S : TrieS} {M : Nat} (h : ∀ x ∈ S, x.1.length < M) : sizeS S ≤ S.length * M := by
  unfold sizeS
  induction S with
  | nil => simp
  | cons a l ih =>
    have h1 := h a (List.mem_cons_self ..)
    have h2 := ih (fun x hx => h x (List.mem_cons_of_mem _ hx))
    rw [List.map_cons, List.sum_cons, List.length_cons, Nat.add_mul]
    omega
/-- what the law holds: n bounds the rows of either side -/
def Two (B : Nat) (w0 : World) (tb gb rb ub hb sb n : Nat) (w : World) : Prop :=
  Below B w0 w ∧ B ≤ w.heap.size ∧ ∃ O1 O2 S1 S2, Side w O1 tb gb rb S1 ∧ Side w O2 ub hb sb S2 ∧ (∀ b, O1 b → ¬ O2 b) ∧ (∀ b, O1 b → B ≤ b) ∧ (∀ b, O2 b → B ≤ b) ∧ S1.length ≤ n ∧ S2.length ≤ n ∧ (∀ x ∈ S1, x.1.length < 1073741824) ∧ (∀ x ∈ S2, x.1.length < 1073741824)
theorem Two.swap {B : Nat} {w0 w : World} {tb gb rb ub hb sb n : Nat} (h : Two B w0 tb gb rb ub hb sb n w) : Two B w0 ub hb sb tb gb rb n w := by
  obtain ⟨h1, h2, O1, O2, S1, S2, a1, a2, a3, a4, a5, a6, a7, a8, a9⟩ := h
  exact ⟨h1, h2, O2, O1, S2, S1, a2, a1, fun b x y => a3 b y x, a5, a4, a7, a6, a9, a8⟩
theorem Two.later {B : Nat} {w0 w w' : World} {tb gb rb ub hb sb n : Nat} (h : Two B w0 tb gb rb ub hb sb n w) (hw : Below w.heap.size w w') : Two B w0 tb gb rb ub hb sb n w' := by
  obtain ⟨h1, h2, O1, O2, S1, S2, a1, a2, a3⟩ := h
  exact ⟨h1.trans (hw.mono h2), Nat.le_trans h2 hw.size, O1, O2, S1, S2, a1.later hw, a2.later hw, a3⟩
theorem two_c {B : Nat} {w0 w1 w2 : World} {tb gb rb ub hb sb n : Nat} (h : Two B w0 tb gb rb ub hb sb n w1) (hw : Below w1.heap.size w1 w2) (put : Bool) (who v : Int) (sk : Option Addr) (cap m : Nat) (p : List Int) (hm : p.length = m) (hn : n < 1073741823) (hm30 : m < 1073741824) (hr : IsInts w2 sk m (gl p)) (hnil : sk = none → m = 0 ∧ cap = 0) (hkeys : ∀ x ∈ p, inKey x) (hsk : 0 < m → ∀ a, sk = some a → a.block < B ∨ w1.heap.size ≤ a.block) :
    Calls Try.prog 12 #[.pointer (some ⟨tb, 0, none⟩), .pointer (some ⟨gb, 0, none⟩), .pointer (some ⟨rb, 0, none⟩), .agg #[.bool put, .int .i64 who, .int .i64 v, .slice sk m cap]] w2 fun e w' => e = .returned (.bool true) ∧ Two B w0 tb gb rb ub hb sb (n + 1) w' := by
  subst hm
  obtain ⟨h1, h2, O1, O2, S1, S2, a1, a2, a3, a4, a5, a6, a7, a8, a9⟩ := h
  have hz := sizeS_le a8
  have hz2 : S1.length * 1073741824 ≤ 1073741823 * 1073741824 := Nat.mul_le_mul_right _ (by omega)
  refine (looked_c tb gb rb put who v sk cap p O1 S1 w2 hm30 hr hnil hkeys (fun h0 a ha ho => ?_) (a1.later hw) (by omega) a8 (by unfold maxLen; omega)).mono ?_
  · rcases hsk h0 a ha with h | h
    · have := a4 _ ho; omega
    · have := a1.lt _ ho; omega
  · rintro e w' ⟨rfl, ht, O', s1, s2⟩
    have hO : ∀ b, O1 b → b < w2.heap.size := fun b hb => Nat.lt_of_lt_of_le (a1.lt b hb) hw.size
    have hlen : ∀ x ∈ (if put = true then putS S1 p v else S1), x.1.length < 1073741824 := by
      split
      · unfold putS
        split
        · exact fun x hx => (List.mem_append.1 hx).elim (a8 x) (fun h => by rw [List.mem_singleton.1 h]; exact hm30)
        · exact a8
      · exact a8
    have hcnt : (if put = true then putS S1 p v else S1).length ≤ n + 1 := by
      split
      · unfold putS
        split
        · simp; omega
        · omega
      · omega
    refine ⟨rfl, (h1.trans (hw.mono h2)).trans (ht.below a4 (Nat.le_trans h2 hw.size)), Nat.le_trans (Nat.le_trans h2 hw.size) ht.size, O', O2, _, S2, s1, (a2.later hw).kept ht.size (fun b hb ho => ht.block b hb (fun h => a3 b h ho)), fun b hb ho => ?_, fun b hb => ?_, a5, hcnt, by omega, hlen, a9⟩
    · rcases s2 b hb with h | h
      · exact a3 b h ho
      · have := a2.lt b ho
        have := hw.size
        omega
    · rcases s2 b hb with h | h
      · exact a4 b h
      · have := hw.size; omega
end Go.Proofs.Ytampjndfhpjheaa
