/- Contract: what newTables hands its operators to. Condition: tables that are good. -/
import Derived.Test.YtampjndfhpjheaaYm
namespace Go.Proofs.Ytampjndfhpjheaa
open Go.RowKit
def opsR (v m a : Int) (L : List (List Int)) : Rows := L.map fun k => (k, ⟨v, m, a, false, ownP k⟩)
def OpI (tb : Nat) (T : Nat → Rows) (v m a : Int) (px : Nat) (w : World) (ow : Nat → Nat) (L : List (List Int)) : Prop :=
  Tabs w ow tb (updT T 0 (T 0 ++ opsR v m a L)) ∧ IsBox w px 86 (.pointer (some ⟨tb, 0, none⟩)) ∧ ow px = 5
theorem OpI.kept {tb : Nat} {T : Nat → Rows} {v m a : Int} {px : Nat} {w w' : World} {ow ow' : Nat → Nat} {L : List (List Int)} (h : OpI tb T v m a px w ow L) (e : Same (fun k => k ≠ 0) ow ow' w w') (hs : w.heap.size ≤ w'.heap.size) : OpI tb T v m a px w' ow' L := by
  obtain ⟨h1, h2, h3⟩ := h
  have e2 := e px (heap_lt h2) (by rw [h3]; decide)
  exact ⟨h1.kept e hs, e2.1.trans h2, e2.2.trans h3⟩
theorem own_one {p : List Int} (h : p.length = 1) : ownP p = [p.drop 0] := by
  unfold ownP; rw [h]; rfl
theorem own_two {p : List Int} {k : Nat} (h : p.length = k + 1) (hk : k ≠ 0) : ownP p = [p.drop k, p] := by
  unfold ownP; rw [if_pos (by omega), h]; rfl
/-- the classes behind the closure: the bound's variable is none of the tables -/
def opC (ow : Nat → Nat) (n b : Nat) : Nat := if b < n then ow b else if b = n then 0 else 5
theorem opC_old {ow : Nat → Nat} {n b : Nat} (h : b < n) : opC ow n b = ow b := if_pos h
theorem opC_new {ow : Nat → Nat} {n b : Nat} (h : n < b) : opC ow n b = 5 := by unfold opC; rw [if_neg (by omega), if_neg (by omega)]
theorem opC_at (ow : Nat → Nat) (n : Nat) : opC ow n n = 0 := by unfold opC; rw [if_neg (by omega), if_pos rfl]
theorem ints_drop {w : World} {g n : Nat} {p : List Int} {k : Nat} (h : IsInts w (some ⟨g, 0, none⟩) p.length (gl p)) (hn : p.length = k + n) : IsInts w (some ⟨g, k, none⟩) n (gl (p.drop k)) := by
  by_cases h0 : n = 0
  · exact .inl h0
  rcases h with h | ⟨b, o, he, hb, hc⟩
  · omega
  · cases he
    refine .inr ⟨g, k, rfl, hb, fun i hi => ?_⟩
    have := hc (k + i) (by omega)
    rw [Nat.zero_add] at this
    rw [this]
    unfold gl
    rw [List.getD_eq_getElem?_getD, List.getD_eq_getElem?_getD, List.getElem?_drop]
/-- the own rows in memory -/
theorem rows_one {w : World} {ow : Nat → Nat} {g gB qc k : Nat} {p : List Int} {c : Nat} (hr : w.ownsRow 0 33 1 (.slice (some ⟨gB, 0, none⟩) 1 c) 1 [.slice (some ⟨g, k, none⟩) 1 qc]) (hp : p.length = k + 1) (hk : IsInts w (some ⟨g, 0, none⟩) p.length (gl p)) (hc : 1 ≤ qc) (hg : g < w.heap.size) (h5 : ow g = 5) (hB : ow gB = 5) : RowsC w ow (some ⟨gB, 0, none⟩) 1 [p.drop k] := by
  refine ⟨rfl, gB, rfl, own_size hr rfl, hB, fun j hj => ?_⟩
  obtain rfl : j = 0 := by simp at hj; omega
  have hd : (p.drop k).length = 1 := by rw [List.length_drop]; omega
  refine ⟨g, k, qc, ?_, ?_, hg, h5, ?_⟩
  · rw [World.ownsRow.cellAt hr 0 (by omega)]
    show some (Value.slice (some ⟨g, k, none⟩) 1 qc) = some (.slice (some ⟨g, k, none⟩) (p.drop k).length qc)
    rw [hd]
  · show (p.drop k).length ≤ qc; omega
  · show IsInts w _ (p.drop k).length _
    rw [hd]; exact ints_drop hk hp
theorem rows_two {w : World} {ow : Nat → Nat} {g gB qc q2 k : Nat} {p : List Int} {c : Nat} (hr : w.ownsRow 0 33 1 (.slice (some ⟨gB, 0, none⟩) 2 c) 2 [.slice (some ⟨g, k, none⟩) 1 qc, .slice (some ⟨g, 0, none⟩) (k + 1) q2]) (hp : p.length = k + 1) (hk : IsInts w (some ⟨g, 0, none⟩) p.length (gl p)) (hc : 1 ≤ qc) (hc2 : k + 1 ≤ q2) (hg : g < w.heap.size) (h5 : ow g = 5) (hB : ow gB = 5) : RowsC w ow (some ⟨gB, 0, none⟩) 2 [p.drop k, p] := by
  refine ⟨rfl, gB, rfl, own_size hr rfl, hB, fun j hj => ?_⟩
  have hd : (p.drop k).length = 1 := by rw [List.length_drop]; omega
  have hj2 : j = 0 ∨ j = 1 := by simp at hj; omega
  rcases hj2 with rfl | rfl
  · refine ⟨g, k, qc, ?_, ?_, hg, h5, ?_⟩
    · rw [World.ownsRow.cellAt hr 0 (by omega)]
      show some (Value.slice (some ⟨g, k, none⟩) 1 qc) = some (.slice (some ⟨g, k, none⟩) (p.drop k).length qc)
      rw [hd]
    · show (p.drop k).length ≤ qc; omega
    · show IsInts w _ (p.drop k).length _
      rw [hd]; exact ints_drop hk hp
  · refine ⟨g, 0, q2, ?_, ?_, hg, h5, ?_⟩
    · rw [World.ownsRow.cellAt hr 1 (by omega)]
      show some (Value.slice (some ⟨g, 0, none⟩) (k + 1) q2) = some (.slice (some ⟨g, 0, none⟩) p.length q2)
      rw [hp]
    · show p.length ≤ q2; omega
    · exact hk
/-- an empty trie -/
theorem trie_new {w : World} {r : Nat} (h : w.heap[r]? = some (.cells #[.pointer none, .map none] 116 (0, 0))) (E : Int → BV) (O : Nat → Prop) :
    TrieN 133 (encB E) w O r 0 [] (fun q => if q = [] then some r else none) (fun _ => none) (fun _ => none) := by
  refine ⟨⟨rfl, ?_, (fun p b h => by cases h), (fun p x h => by cases h), ?_, (fun p m h => by cases h), ?_, (fun p x h => by cases h), ?_, (fun p q b h => by cases h), fun p _ => ⟨rfl, rfl⟩, ?_⟩, ?_, ?_, (fun p m h => by cases h)⟩
  · intro p b hb hp
    try simp only at hb
    rw [if_neg hp] at hb; cases hb
  · intro p b hb
    try simp only at hb
    split at hb
    · rename_i e
      cases hb
      rw [e]
      exact NodeAt.of h (by decide)
    · cases hb
  · intro p _ k
    try simp only
    rw [if_neg (by simp)]
  · intro p q b hp hq
    try simp only at hp hq
    split at hp <;> split at hq
    · rename_i e1 e2; rw [e1, e2]
    · cases hq
    · cases hp
    · cases hp
  · intro p k b hb
    try simp only at hb
    rw [if_neg (by simp)] at hb; cases hb
  · intro p
    try simp only
    constructor
    · intro h
      split at h
      · rename_i e; exact .inl e
      · exact absurd rfl h
    · rintro (e | e)
      · rw [if_pos e]; simp
      · cases e
  · intro p; rfl
/-- one slice more behind a row of slices -/
theorem wpList_push_v {w : World} {ops : Array Oper} {rest : List Oper} {o : Oper} {a : Act} {Q : Exit → Act → World → Prop} (x : Value) (hx1 : x.oneCell' = true) (hgd : o.guard = none) (s y : Operand)
    (ho : o.op = .call { callee := .builtin .append, args := #[s, y], argTypes := #[32, 32] })
    (sl : Option Addr) (j c : Nat) (xs : List Value) (hs : a.eval s = .slice sl j c) (hx : a.eval y = .slice (some ⟨w.heap.size, 0, none⟩) 1 1) (hown : w.ownsRow 0 33 1 (.slice sl j c) j xs) (hj : j < 1073741824)
    (h : ∀ s' c' w', w'.ownsRow 0 33 1 (.slice s' (j + 1) c') (j + 1) (xs ++ [x]) → (w.alloc (.cells #[x] 33)).grownBy w' (Value.slice sl j c).ownBlock → ((Value.slice s' (j + 1) c').ownBlock = (Value.slice sl j c).ownBlock ∨ (Value.slice s' (j + 1) c').ownBlock = some (w.heap.size + 1)) → wpList Try.prog ops Q rest (a.put o.dst (.slice s' (j + 1) c')) w') :
    wpList Try.prog ops Q (o :: rest) a (w.alloc (.cells #[x] 33)) := by
  obtain ⟨i0, hi, hz0, hz1, hz2⟩ := info_parts Try.infoRows
  have hown1 := own_kept (w' := w.alloc (.cells #[x] 33)) hown (fun b hb => Below.heap_alloc w _ b (World.ownsRow.lt hown b hb).2)
  refine wpList_append_own_at (P := Try.prog) _ hgd s y 32 ho 0 33 i0 (.slice none 0 0) 1 24 Try.underlying32 hi hz0 hz1 hz2 rfl (by decide) _ j _ hs hown1 ⟨w.heap.size, 0, none⟩ 1 1 [x] hx rfl (cell_one_new _ _ _) (by intro u hu; rw [List.mem_singleton] at hu; subst hu; exact hx1) (by unfold maxLen; omega) (by omega) (by simp) ?_
  intro v' w' h2 h3 _ h5
  obtain ⟨s', c', rfl⟩ := slice_shape h2
  exact h s' c' w' h2 h3 (by simpa using h5)
theorem lput_n (ow : Nat → Nat) (tb : Nat) (T : Nat → Rows) (qg n qc : Nat) (p : List Int) (b : Bd) (bv : BV) (w : World) (hn : n = p.length) (ht : Tabs w ow tb T) (hq : QOk w ⟨qg, p.length, qc, p⟩) (hqc : ow qg = 5) (hb : BdOk w ow b bv)
    (hok : TrieOk (trieOf (T 0 ++ [(p, b)]))) (hT : (T 0).length < 1048576) (hp : p.length < 1048576) (hS : sizeS (trieOf (T 0)) < 1073741824) (hkeys : ∀ x ∈ p, inKey x) (hc : p.length ≤ qc) :
    Calls Try.prog 82 #[.pointer (some ⟨tb, 0, none⟩), .slice (some ⟨qg, 0, none⟩) n qc, .agg bv.cells] w fun e w' => e = .returned (.tuple #[]) ∧ PutPostT ow tb (updT T 0 (T 0 ++ [(p, b)])) w w' := by
  subst hn
  exact lput_c ow tb T 0 qg qc p b bv w (by omega) ht hq hqc hb hok hT hp hS hkeys hc
theorem own_cap {w : World} {base : Nat} {e : TypeId} {size n c : Nat} {s : Option Addr} {xs : List Value} (h : w.ownsRow base e size (.slice s (n + 1) c) (n + 1) xs) : n + 1 ≤ c := by
  rcases h.2 with ⟨_, h2⟩ | ⟨g, cap, cur, h1, _, _, h2, _⟩
  · omega
  · obtain ⟨_, _, rfl⟩ := Value.slice.inj h1; exact h2
theorem op_stageA {w w1 : World} {v m a : Int} (hw1 : w1 = w.alloc (.cells #[.int .i64 v, .int .i64 m, .int .i64 a, .bool false, .slice none 0 0, .pointer none] 133)) (row0 : Value) :
    ((w1.alloc (.cells #[row0] 33)).setCell ⟨w.heap.size, 4, none⟩ (.slice (some ⟨w1.heap.size, 0, none⟩) 1 1)).heap[w.heap.size]? = some (.cells #[.int .i64 v, .int .i64 m, .int .i64 a, .bool false, .slice (some ⟨w.heap.size + 1, 0, none⟩) 1 1, .pointer none] 133 (0, 0)) ∧
    ((w1.alloc (.cells #[row0] 33)).setCell ⟨w.heap.size, 4, none⟩ (.slice (some ⟨w1.heap.size, 0, none⟩) 1 1)).ownsRow 0 33 1 (.slice (some ⟨w.heap.size + 1, 0, none⟩) 1 1) 1 [row0] ∧
    Below w.heap.size w ((w1.alloc (.cells #[row0] 33)).setCell ⟨w.heap.size, 4, none⟩ (.slice (some ⟨w1.heap.size, 0, none⟩) 1 1)) ∧
    ((w1.alloc (.cells #[row0] 33)).setCell ⟨w.heap.size, 4, none⟩ (.slice (some ⟨w1.heap.size, 0, none⟩) 1 1)).heap.size = w.heap.size + 2 := by
  have h1 := one_new w (.cells #[.int .i64 v, .int .i64 m, .int .i64 a, .bool false, .slice none 0 0, .pointer none] 133)
  have b1 := below_new2 w (.cells #[.int .i64 v, .int .i64 m, .int .i64 a, .bool false, .slice none 0 0, .pointer none] 133)
  have s1 : w1.heap.size = w.heap.size + 1 := by rw [hw1]; simp
  rw [← hw1] at h1 b1
  have b2 := below_new2 w1 (.cells #[row0] 33)
  have h2 := one_new w1 (.cells #[row0] 33)
  have s2 : (w1.alloc (.cells #[row0] 33)).heap.size = w.heap.size + 2 := by simp [s1]
  have h1' := (b2.block w.heap.size (by omega)).trans h1
  rw [s1] at h2 ⊢
  generalize w1.alloc (.cells #[row0] 33) = w2 at *
  refine ⟨block_set _ h1', ⟨rfl, .inr ⟨w.heap.size + 1, 1, #[row0], rfl, Nat.zero_le _, (Below.heap_setCell _ _ _ _ (by show w.heap.size + 1 ≠ w.heap.size; omega)).trans h2, Nat.le_refl _, by unfold maxLen; omega, rfl, rfl⟩⟩, (bt b1 b2).setCell (by simp) _, by simpa [World.setCell] using s2⟩
theorem op_stageB {w w2 w3 : World} {v m a : Int} {row0 row1 : Value} {s' : Option Addr} {c' : Nat} (hbx : w2.heap[w.heap.size]? = some (.cells #[.int .i64 v, .int .i64 m, .int .i64 a, .bool false, .slice (some ⟨w.heap.size + 1, 0, none⟩) 1 1, .pointer none] 133 (0, 0)))
    (hb : Below w.heap.size w w2) (hs : w2.heap.size = w.heap.size + 2)
    (ho : w3.ownsRow 0 33 1 (.slice s' 2 c') 2 [row0, row1]) (hg : (w2.alloc (.cells #[row1] 33)).grownBy w3 (some (w.heap.size + 1))) (hat : (Value.slice s' 2 c').ownBlock = some (w.heap.size + 1) ∨ (Value.slice s' 2 c').ownBlock = some (w.heap.size + 3)) :
    ∃ gB, s' = some ⟨gB, 0, none⟩ ∧ w.heap.size < gB ∧ gB < w3.heap.size ∧ (w3.setCell ⟨w.heap.size, 4, none⟩ (.slice s' 2 c')).heap[w.heap.size]? = some (.cells #[.int .i64 v, .int .i64 m, .int .i64 a, .bool false, .slice s' 2 c', .pointer none] 133 (0, 0)) ∧
    (w3.setCell ⟨w.heap.size, 4, none⟩ (.slice s' 2 c')).ownsRow 0 33 1 (.slice s' 2 c') 2 [row0, row1] ∧ Below w.heap.size w (w3.setCell ⟨w.heap.size, 4, none⟩ (.slice s' 2 c')) := by
  have hgB : ∃ gB, s' = some ⟨gB, 0, none⟩ ∧ w.heap.size < gB := by
    rcases ho.2 with ⟨_, h2⟩ | ⟨g, cap, cur, h1, _⟩
    · omega
    · obtain ⟨rfl, _, _⟩ := Value.slice.inj h1
      refine ⟨g, rfl, ?_⟩
      rcases hat with e | e
      · have : (some g : Option Nat) = some (w.heap.size + 1) := e
        injection this with this; omega
      · have : (some g : Option Nat) = some (w.heap.size + 3) := e
        injection this with this; omega
  obtain ⟨gB, rfl, hlt⟩ := hgB
  have b2 := below_new2 w2 (.cells #[row1] 33)
  have hbx3 := (hg.block w.heap.size (by simp; omega) (fun e => by injection e with e; omega)).trans ((b2.block _ (by omega)).trans hbx)
  refine ⟨gB, rfl, hlt, own_size ho rfl, block_set _ hbx3, own_kept ho (fun b hb2 => Below.heap_setCell _ _ _ _ (fun e => by
    have h1 : (some gB : Option Nat) = some b := hb2
    injection h1 with h1
    have h2 : b = w.heap.size := e
    omega)), ?_⟩
  refine Below.setCell ?_ (by simp) _
  exact Below.grown (hb.trans (b2.mono (by omega))) hg (by have := hb.size; simp; omega) (fun k hk => by injection hk with hk; omega)
theorem ownP_sub {p row : List Int} (h : row ∈ ownP p) : (∀ x ∈ row, x ∈ p) ∧ row.length ≤ p.length := by
  unfold ownP at h
  have hd : (∀ x ∈ p.drop (p.length - 1), x ∈ p) ∧ (p.drop (p.length - 1)).length ≤ p.length := ⟨fun x hx => List.mem_of_mem_drop hx, by simp⟩
  split at h
  · rcases List.mem_cons.1 h with rfl | h
    · exact hd
    · rw [List.mem_singleton.1 h]; exact ⟨fun x hx => hx, Nat.le_refl _⟩
  · rw [List.mem_singleton.1 h]; exact hd
theorem ownS_snoc (L : List (List Int)) (j : Nat) (hj : j < L.length) : ownS (L.take (j + 1)) = ownS (L.take j) ++ [(L[j], 0)] := by
  have e : L.take (j + 1) = L.take j ++ [L[j]] := by rw [List.take_add_one, List.getElem?_eq_getElem hj]; rfl
  unfold ownS; rw [e, List.map_append]; rfl
theorem trieOk_pre {S t : TrieS} (h : TrieOk (S ++ t)) : TrieOk S := ⟨fun r hr => h.1 r (List.mem_append_left _ hr), (List.pairwise_append.1 h.2).1⟩
theorem ownS_take (L : List (List Int)) (j : Nat) : ∃ t, ownS L = ownS (L.take j) ++ t := ⟨ownS (L.drop j), by unfold ownS; rw [← List.map_append, List.take_append_drop]⟩
theorem sizeS_app (S t : TrieS) : sizeS (S ++ t) = sizeS S + sizeS t := by unfold sizeS; rw [List.map_append, List.sum_append]
theorem ownP_size (p : List Int) : sizeS (ownS (ownP p)) ≤ 2 * p.length := by
  unfold ownP ownS sizeS
  split <;> simp <;> omega
theorem op_stageC {w w3 : World} {v m a : Int} {sO : Option Addr} {nO cO : Nat} (hbx : w3.heap[w.heap.size]? = some (.cells #[.int .i64 v, .int .i64 m, .int .i64 a, .bool false, .slice sO nO cO, .pointer none] 133 (0, 0))) :
    ((w3.alloc (.cells #[.pointer none, .map none] 116)).setCell ⟨w.heap.size, 5, none⟩ (.pointer (some ⟨w3.heap.size, 0, none⟩))).heap[w.heap.size]? = some (.cells #[.int .i64 v, .int .i64 m, .int .i64 a, .bool false, .slice sO nO cO, .pointer (some ⟨w3.heap.size, 0, none⟩)] 133 (0, 0)) ∧
    ((w3.alloc (.cells #[.pointer none, .map none] 116)).setCell ⟨w.heap.size, 5, none⟩ (.pointer (some ⟨w3.heap.size, 0, none⟩))).heap[w3.heap.size]? = some (.cells #[.pointer none, .map none] 116 (0, 0)) ∧
    Touch (fun b => b = w.heap.size ∨ w3.heap.size ≤ b) w3 ((w3.alloc (.cells #[.pointer none, .map none] 116)).setCell ⟨w.heap.size, 5, none⟩ (.pointer (some ⟨w3.heap.size, 0, none⟩))) := by
  have hl := heap_lt hbx
  have b2 := below_new2 w3 (.cells #[.pointer none, .map none] 116)
  have h2 := one_new w3 (.cells #[.pointer none, .map none] 116)
  have h1 := (b2.block _ hl).trans hbx
  have ht := Touch.alloc (fun b => b = w.heap.size ∨ w3.heap.size ≤ b) w3 (.cells #[.pointer none, .map none] 116)
  generalize w3.alloc (.cells #[.pointer none, .map none] 116) = w4 at *
  exact ⟨block_set _ h1, (Below.heap_setCell _ _ _ _ (by show w3.heap.size ≠ w.heap.size; omega)).trans h2, ht.trans (Touch.setCell (fun b => b = w.heap.size ∨ w3.heap.size ≤ b) w4 (p := ⟨w.heap.size, 5, none⟩) (.inl rfl) _) (fun x hx => .inl hx)⟩
set_option maxRecDepth 100000 in
set_option maxHeartbeats 4000000 in
theorem op1_ok (tb : Nat) (T : Nat → Rows) (v m a : Int) (px : Nat) (F : List (List Int)) (hg : Good (T 0 ++ opsR v m a F)) (hF : ∀ p ∈ F, TrieOk (ownS (ownP p))) :
    DoOk (OpI tb T v m a px) F 80 #[.pointer (some ⟨px, 0, none⟩)] v m a := by
  refine ⟨fun w w' ow ow' L h e hs => h.kept e hs, fun w ow L p qg qc hI hpre hq hqc hpc hp0 => ?_, enters_of Try.func80 (by kernel_rfl) rfl⟩
  obtain ⟨k, hlen⟩ : ∃ k, p.length = k + 1 := ⟨p.length - 1, by have := List.length_pos_iff.2 hp0; omega⟩
  have hks : k < 1000 := by
    have hm : p ∈ F := by obtain ⟨t, rfl⟩ := hpre; simp
    have := hg.short (p, _) (List.mem_append_right _ (List.mem_map.2 ⟨p, hm, rfl⟩))
    simp only at this; omega
  have HQP := Lib.hid hq
  have hpc' := hpc
  rw [hlen] at hq hpc ⊢
  have hql : qg < w.heap.size := hq.lt
  have HLEN := Lib.hid hlen
  have HG := Lib.hid hg
  have HF := Lib.hid hF
  have HI := Lib.hid hI
  have HQ := Lib.hid hq
  have HQC := Lib.hid hqc
  have HPRE := Lib.hid hpre
  have q1 : (k : Int) ≤ (qc : Int) := by omega
  have q2 : ¬ ((qc : Int) = (k : Int)) := by omega
  have q3 : ¬ (qc = k) := by omega
  have hb1 : ∃ w1, w1 = w.alloc (.cells #[.int .i64 v, .int .i64 m, .int .i64 a, .bool false, .slice none 0 0, .pointer none] 133) := ⟨_, rfl⟩
  obtain ⟨w1, hw1⟩ := hb1
  have hnew : w1.heap[w.heap.size]? = some (.cells #[.int .i64 v, .int .i64 m, .int .i64 a, .bool false, .slice none 0 0, .pointer none] 133 (0, 0)) := by rw [hw1]; exact one_new _ _
  have c4 : w1.cell? ⟨w.heap.size, 4, none⟩ = some (.slice none 0 0) := block_cell hnew
  have f4 : w1.frozen? ⟨w.heap.size, 4, none⟩ = false := block_free hnew
  have hal : ∀ o, (w1.alloc o).cell? ⟨w.heap.size, 4, none⟩ = some (.slice none 0 0) := fun o => ((below_new2 w1 o).cell (p := ⟨w.heap.size, 4, none⟩) (heap_lt hnew)).trans c4
  have hfl : ∀ o, (w1.alloc o).frozen? ⟨w.heap.size, 4, none⟩ = false := fun o => ((below_new2 w1 o).frozen (p := ⟨w.heap.size, 4, none⟩) (heap_lt hnew)).trans f4
  have HW1 := Lib.hid hw1
  have HN := Lib.hid hnew
  clear hlen hg hF hI hq hqc hpre hw1 hnew
  show Calls Try.prog _ #[.slice (some ⟨qg, 0, none⟩) (k + 1) qc, .agg #[.int .i64 v, .int .i64 m, .int .i64 a, .bool false, .slice none 0 0, .pointer none], .pointer (some ⟨px, 0, none⟩)] w _
  go_enter Try.func80, Try.ntmps80
  go_upto_region 1 with (fail)
  rw [← HW1.out]
  by_cases hk0 : k = 0
  · subst hk0
    go_upto_region 2 with (fail)
    obtain ⟨a1, a2, a3, a4⟩ := op_stageA HW1.out (.slice (some ⟨qg, 0, none⟩) 1 qc)
    clear c4 f4 hal hfl
    generalize (w1.alloc (.cells #[.slice (some ⟨qg, 0, none⟩) 1 qc] 33)).setCell ⟨w.heap.size, 4, none⟩ (.slice (some ⟨w1.heap.size, 0, none⟩) 1 1) = w3 at a1 a2 a3 a4 ⊢
    have hq3 := (qok_list HQ.out).later a3
    have hrc : RowsC w3 (opC ow w.heap.size) (some ⟨w.heap.size + 1, 0, none⟩) 1 (ownP p) := by
      rw [own_one (by rw [HLEN.out])]
      exact rows_one (k := 0) a2 HLEN.out (by rw [HLEN.out]; exact hq3) (by omega) (by omega) ((opC_old hql).trans HQC.out) (opC_new (by omega))
    have hgBn : w.heap.size < w.heap.size + 1 := by omega
    have hgBs : w.heap.size + 1 < w3.heap.size := by omega
    generalize hgB : w.heap.size + 1 = gB at a1 a2 hrc hgBn hgBs
    have HGB := Lib.hid hgB
    clear hgB a2 a4 hq3
    have hal : ∀ o, (w3.alloc o).cell? ⟨w.heap.size, 5, none⟩ = some (.pointer none) := fun o => ((below_new2 w3 o).cell (p := ⟨w.heap.size, 5, none⟩) (heap_lt a1)).trans (block_cell a1)
    have hfl : ∀ o, (w3.alloc o).frozen? ⟨w.heap.size, 5, none⟩ = false := fun o => ((below_new2 w3 o).frozen (p := ⟨w.heap.size, 5, none⟩) (heap_lt a1)).trans (block_free a1)
    go_upto_region 5 with (fail)
    obtain ⟨e1, e2, e3⟩ := op_stageC (w := w) a1
    clear hal hfl a1
    generalize hr : w3.heap.size = r at e1 e2 e3 hgBs
    generalize (w3.alloc (.cells #[.pointer none, .map none] 116)).setCell ⟨w.heap.size, 5, none⟩ (.pointer (some ⟨r, 0, none⟩)) = w4 at e1 e2 e3 ⊢
    have c4 : w4.cell? ⟨w.heap.size, 4, none⟩ = some (.slice (some ⟨gB, 0, none⟩) 1 1) := block_cell e1
    have hnr : w.heap.size < r := by omega
    have HE1 := Lib.hid e1
    have HE2 := Lib.hid e2
    have HE3 := Lib.hid e3
    have HA3 := Lib.hid a3
    have HRC := Lib.hid hrc
    have HR := Lib.hid hr
    have hpm : p ∈ F := by obtain ⟨t, ht⟩ := HPRE.out; rw [← ht]; simp
    have HPM := Lib.hid hpm
    clear e1 e2 e3 a3 hrc hr hpm
    go_wp2_with fail
    go_loopg [29] 1 (fun gg iv wr => ∃ j : Nat, j + gg = 1 ∧ iv = .int .i64 j ∧ (∃ nb mb val, TrieN 133 (encB fun _ => mlV) wr (fun b => r ≤ b) r 0 (ownS ((ownP p).take j)) nb mb val) ∧ Touch (fun b => b = w.heap.size ∨ r ≤ b) w3 wr ∧ wr.heap[w.heap.size]? = some (.cells #[.int .i64 v, .int .i64 m, .int .i64 a, .bool false, .slice (some ⟨gB, 0, none⟩) 1 1, .pointer (some ⟨r, 0, none⟩)] 133 (0, 0)))
    case atStart => exact ⟨0, by omega, rfl, ⟨_, _, _, trie_new HE2.out _ _⟩, HE3.out, HE1.out⟩
    case round =>
      obtain ⟨j, hgj, rfl, htr, hto, hbx⟩ := hrel
      clear HE1 HE2 HE3 c4
      have HTR := Lib.hid htr
      have HTO := Lib.hid hto
      have HBX := Lib.hid hbx
      clear htr hto hbx
      by_cases hj : j < 1
      · have hjl : j < (ownP p).length := by rw [← HRC.out.1]; exact hj
        obtain ⟨hl1, gB', hgB', _, _, hrows⟩ := HRC.out
        clear hl1
        cases hgB'
        obtain ⟨b', o', c', k1, k2, kb, k3, k4⟩ := hrows j hjl
        have hmem := List.getElem_mem hjl
        have hsn := ownS_snoc (ownP p) j hjl
        obtain ⟨t1, ht1⟩ := ownS_take (ownP p) (j + 1)
        have hok := HF.out p HPM.out
        have hsz := ownP_size p
        rw [ht1, hsn] at hok hsz
        rw [sizeS_app, sizeS_app] at hsz
        obtain ⟨hok1, hput⟩ := TrieOk.at_put _ (trieOk_pre hok)
        obtain ⟨hsub, hlr⟩ := ownP_sub hmem
        have hk4 : IsInts wr (some ⟨b', o', none⟩) (ownP p)[j].length (gl (ownP p)[j]) := k4.touch2 HTO.out (fun _ a ha e => by
          cases ha
          rcases e with e | e
          · have e' : b' = w.heap.size := e
            rw [e', opC_at] at k3; cases k3
          · have e' : r ≤ b' := e
            have := HR.out; omega)
        have d0 : wr.cell? ⟨gB, j, none⟩ = some (.slice (some ⟨b', o', none⟩) (ownP p)[j].length c') := (World.cell?_of_block (w := w3) (HTO.out.block gB (by have := HR.out; omega) (fun e => by omega))).trans k1
        have d5 : wr.cell? ⟨w.heap.size, 5, none⟩ = some (.pointer (some ⟨r, 0, none⟩)) := block_cell HBX.out
        have hkeys : ∀ x ∈ (ownP p)[j], inKey x := fun x hx => HG.out.keys (p, _) (List.mem_append_right _ (List.mem_map.2 ⟨p, HPM.out, rfl⟩)) x (hsub x hx)
        have hpl : p.length ≤ 1000 := by have := HLEN.out; omega
        have hrl : (ownP p)[j].length ≤ 1000 := by omega
        have hsz2 : sizeS (ownS ((ownP p).take j)) + (ownP p)[j].length ≤ 2000 := by
          have : sizeS [((ownP p)[j], (0 : Int))] = (ownP p)[j].length := by simp [sizeS]
          omega
        have hbr : b' < r := by have := HR.out; omega
        have HK4 := Lib.hid hk4
        have HOK1 := Lib.hid hok1
        have HPUT := Lib.hid hput
        have HKEYS := Lib.hid hkeys
        have HSN := Lib.hid hsn
        clear hk4 hok1 hput hkeys hsn hrows k1 k3 kb k4 hok hsz ht1 hsub hlr hmem
        generalize (ownP p)[j] = row at *
        have HSZ2 := Lib.hid hsz2
        clear hsz2 hpl
        obtain ⟨nb, mb, val, htr⟩ := HTR.out
        have HT := Lib.hid htr
        clear htr
        go_wp2_with fail
        refine (put_b_c (fun b => r ≤ b) r 0 (fun _ => mlV) (ownS ((ownP p).take j)) nb mb val 0 mlV (some ⟨b', o', none⟩) c' row wr HOK1.out HT.out rfl HPUT.out (by unfold maxLen; omega) k2 (by have := HSZ2.out; unfold maxLen; omega) HK4.out HKEYS.out (fun a ha => by cases ha; rintro (e | e) <;> (have e' := e; simp only at e'; omega))).mono ?_
        rintro e w6 ⟨rfl, ht6, _, nb6, mb6, val6, htr6⟩
        have hto6 : Touch (fun b => b = w.heap.size ∨ r ≤ b) w3 w6 := HTO.out.trans ht6 (fun x hx => .inl (.inr (by rcases hx with e | e <;> omega)))
        have hbx6 := (ht6.block w.heap.size (heap_lt HBX.out) (fun e => by rcases e with e | e <;> omega)).trans HBX.out
        have htr7 : TrieN 133 (encB fun _ => mlV) w6 (fun b => r ≤ b) r 0 (ownS ((ownP p).take (j + 1))) nb6 mb6 val6 := by
          rw [HSN.out]
          exact htr6.wide (fun b hb => hb.elim id (fun h => by have := HTO.out.size; have := HR.out; show r ≤ b; omega))
        have HTO6 := Lib.hid hto6
        have HBX6 := Lib.hid hbx6
        have HTR7 := Lib.hid htr7
        clear ht6 htr6 hto6 hbx6 htr7
        go_wp2
        go_roundg (gk - 1)
        case measure => omega
        case rel => exact ⟨j + 1, by omega, by go_num, ⟨nb6, mb6, val6, HTR7.out⟩, HTO6.out, HBX6.out⟩
      · have hfull : (ownP p).take j = ownP p := List.take_of_length_le (by rw [← HRC.out.1]; omega)
        obtain ⟨nb, mb, val, htr⟩ := HTR.out
        rw [hfull] at htr
        have hsame : Same (fun k => k ≠ 0) (opC ow w.heap.size) (opC ow w.heap.size) w3 wr := fun b hb hne => ⟨HTO.out.block b hb (fun e => by
          rcases e with e | e
          · rw [e, opC_at] at hne; exact hne rfl
          · have := HR.out; omega), rfl⟩
        have hbd : BdOk wr (opC ow w.heap.size) ⟨v, m, a, false, ownP p⟩ ⟨v, m, a, false, some ⟨gB, 0, none⟩, 1, 1, some ⟨r, 0, none⟩⟩ := by
          refine ⟨rfl, rfl, rfl, rfl, .inr ⟨?_, HRC.out.kept (hsame.less fun x hx => by omega) HTO.out.size, Nat.le_refl _, r, rfl, htr.gt.lt htr.gt.root, opC_new hnr, nb, mb, val, htr.wide (fun b hb => opC_new (by omega))⟩⟩
          unfold ownP; split <;> simp
        have hop : OpI tb T v m a px wr (opC ow w.heap.size) L := (HI.out.kept (fun b hb _ => ⟨HA3.out.block b hb, opC_old hb⟩) HA3.out.size).kept hsame HTO.out.size
        have hqr : QOk wr ⟨qg, p.length, qc, p⟩ := (HQP.out.kept (HA3.out.block _ hql)).kept (HTO.out.block qg (by have := HA3.out.size; omega) (fun e => by rcases e with e | e <;> omega))
        have htw : Touch (fun b => live (ow b)) w wr := (Touch.of (O := fun b => live (ow b)) HA3.out).trans HTO.out (fun x hx => .inr (by rcases hx with e | e <;> omega))
        have hgood : Good ((T 0 ++ opsR v m a L) ++ [(p, ⟨v, m, a, false, ownP p⟩)]) := by
          refine HG.out.pre ?_
          rw [List.append_assoc]
          refine (List.prefix_append_right_inj _).2 ?_
          obtain ⟨t, ht⟩ := HPRE.out
          rw [← ht]
          exact ⟨opsR v m a t, by unfold opsR; simp⟩
        have hlow := hgood.pre (List.prefix_append _ _)
        have hdr := (Below.refl wr.heap.size wr).drew
        have HOP := Lib.hid (hop.kept (Same.of hdr) (Nat.le_refl _))
        have HBD := Lib.hid (hbd.kept (Same.of hdr) (Nat.le_refl _))
        have HQR := Lib.hid (hqr.kept (w' := wr.drew) rfl)
        have HTW := Lib.hid htw
        have HGO := Lib.hid hgood
        have HLO := Lib.hid hlow
        have d0 : wr.cell? ⟨px, 0, none⟩ = some (.pointer (some ⟨tb, 0, none⟩)) := hop.2.1.cell.1
        have d1 : wr.cell? ⟨w.heap.size, 0, none⟩ = some (.int .i64 v) := block_cell HBX.out
        have d2 : wr.cell? ⟨w.heap.size, 1, none⟩ = some (.int .i64 m) := block_cell HBX.out
        have d3 : wr.cell? ⟨w.heap.size, 2, none⟩ = some (.int .i64 a) := block_cell HBX.out
        have d4 : wr.cell? ⟨w.heap.size, 3, none⟩ = some (.bool false) := block_cell HBX.out
        have d5 : wr.cell? ⟨w.heap.size, 4, none⟩ = some (.slice (some ⟨gB, 0, none⟩) 1 1) := block_cell HBX.out
        have d6 : wr.cell? ⟨w.heap.size, 5, none⟩ = some (.pointer (some ⟨r, 0, none⟩)) := block_cell HBX.out
        have hpk : IsBox wr px 86 (.pointer (some ⟨tb, 0, none⟩)) := hop.2.1
        have HPK := Lib.hid hpk
        have hpc5 : opC ow w.heap.size px = 5 := hop.2.2
        have HPC5 := Lib.hid hpc5
        clear hfull htr hsame hbd hop hqr htw hgood hlow hdr hpk hpc5
        go_wp2_with fail
        go_region_law (go_simp; refine (lput_n (opC ow w.heap.size) tb (updT T 0 (T 0 ++ opsR v m a L)) qg _ qc p ⟨v, m, a, false, ownP p⟩ ⟨v, m, a, false, some ⟨gB, 0, none⟩, 1, 1, some ⟨r, 0, none⟩⟩ _ HLEN.out.symm HOP.out.1 HQR.out ((opC_old hql).trans HQC.out) HBD.out (by rw [updT_at]; exact HGO.out.ok) (by rw [updT_at]; have := HLO.out.few; omega) (by have := HLEN.out; omega) (by rw [updT_at]; have := HLO.out.size; omega) (HGO.out.keys (p, _) (List.mem_append_right _ (List.mem_singleton.2 rfl))) hpc').mono ?_; rintro e w7 ⟨rfl, ow7, h7, hc7, ht7⟩)
        all_goals
          have hws := HTW.out.size
          have ht7' : Touch (fun b => live (opC ow w.heap.size b)) wr w7 := ⟨ht7.os, ht7.tape, ht7.output, ht7.size, ht7.block⟩
          have hfin : ∃ ow', OpI tb T v m a px w7 ow' (L ++ [p]) ∧ (∀ b, b < w.heap.size → ow' b = ow b) ∧ Touch (fun b => live (ow b)) w w7 := by
            refine ⟨ow7, ⟨?_, box_touch HPK.out ht7' (fun e => e.2 HPC5.out), (hc7 px (heap_lt HPK.out)).trans HPC5.out⟩, fun b hb => (hc7 b (by show b < wr.heap.size; omega)).trans (opC_old hb), HTW.out.trans ht7' (fun x hx => ?_)⟩
            · rw [updT_same, updT_at, List.append_assoc] at h7
              unfold opsR
              rw [List.map_append]
              exact h7
            · by_cases hx0 : x < w.heap.size
              · exact .inl (by have h8 := hx; simp only [opC_old hx0] at h8; exact h8)
              · exact .inr (by omega)
          have HFIN := Lib.hid hfin
          clear hfin h7 hc7 ht7 ht7' d0 d1 d2 d3 d4 d5 d6
          go_wp2
          go_end0
          exact ⟨rfl, HFIN.out⟩
  · have h1k : (1 : Int) < ((k : Int) + 1) := by omega
    go_upto_region 2 with (fail)
    obtain ⟨a1, a2, a3, a4⟩ := op_stageA HW1.out (.slice (some ⟨qg, k, none⟩) 1 (qc - k))
    clear c4 f4 hal hfl
    generalize (w1.alloc (.cells #[.slice (some ⟨qg, k, none⟩) 1 (qc - k)] 33)).setCell ⟨w.heap.size, 4, none⟩ (.slice (some ⟨w1.heap.size, 0, none⟩) 1 1) = w2 at a1 a2 a3 a4 ⊢
    have c4 : w2.cell? ⟨w.heap.size, 4, none⟩ = some (.slice (some ⟨w.heap.size + 1, 0, none⟩) 1 1) := block_cell a1
    have hbxg : ∀ w5, (w2.alloc (.cells #[.slice (some ⟨qg, 0, none⟩) (k + 1) qc] 33)).grownBy w5 (some (w.heap.size + 1)) → w5.cell? ⟨w.heap.size, 4, none⟩ = some (.slice (some ⟨w.heap.size + 1, 0, none⟩) 1 1) ∧ w5.frozen? ⟨w.heap.size, 4, none⟩ = false := fun w5 hg5 => by
      have h9 := (hg5.block w.heap.size (by simp; omega) (fun e => by injection e with e; omega)).trans (((below_new2 w2 _).block _ (by omega)).trans a1)
      exact ⟨block_cell h9, block_free h9⟩
    have HBXG := Lib.hid hbxg
    have HA1 := Lib.hid a1
    have HA3 := Lib.hid a3
    have HA4 := Lib.hid a4
    clear hbxg a1 a3 a4
    go_upto_region 4 with (first
      | (at_builtin; refine wpList_push_v (.slice (some ⟨qg, 0, none⟩) (k + 1) qc) rfl rfl (.tmp 18) (.tmp 20) rfl (some ⟨w.heap.size + 1, 0, none⟩) 1 1 _ rfl rfl a2 (by omega) ?_; intro s' c' w5 ho5 hg5 hat5; obtain ⟨k5, f5⟩ := HBXG.out w5 hg5))
    have hcap := own_cap ho5
    obtain ⟨gB, rfl, hgBn, hgBs, b1, b2, b3⟩ := op_stageB HA1.out HA3.out HA4.out ho5 hg5 (by rw [show w.heap.size + 3 = w2.heap.size + 1 from by have := HA4.out; omega]; exact hat5)
    clear c4 a2 ho5 hg5 hat5 k5 f5
    generalize w5.setCell ⟨w.heap.size, 4, none⟩ (.slice (some ⟨gB, 0, none⟩) (1 + 1) c') = w3 at b1 b2 b3 ⊢
    have hq3 := (qok_list HQ.out).later b3
    have hgBs3 : gB < w3.heap.size := own_size b2 rfl
    have hrc : RowsC w3 (opC ow w.heap.size) (some ⟨gB, 0, none⟩) 2 (ownP p) := by
      rw [own_two HLEN.out hk0]
      exact rows_two b2 HLEN.out (by rw [HLEN.out]; exact hq3) (by omega) hpc (by have := b3.size; omega) ((opC_old hql).trans HQC.out) (opC_new hgBn)
    clear hgBs b2 hq3
    have a1 := b1
    have a3 := b3
    have hgBs := hgBs3
    clear b1 b3 hgBs3
    have hal : ∀ o, (w3.alloc o).cell? ⟨w.heap.size, 5, none⟩ = some (.pointer none) := fun o => ((below_new2 w3 o).cell (p := ⟨w.heap.size, 5, none⟩) (heap_lt a1)).trans (block_cell a1)
    have hfl : ∀ o, (w3.alloc o).frozen? ⟨w.heap.size, 5, none⟩ = false := fun o => ((below_new2 w3 o).frozen (p := ⟨w.heap.size, 5, none⟩) (heap_lt a1)).trans (block_free a1)
    go_upto_region 5 with (fail)
    obtain ⟨e1, e2, e3⟩ := op_stageC (w := w) a1
    clear hal hfl a1
    generalize hr : w3.heap.size = r at e1 e2 e3 hgBs
    generalize (w3.alloc (.cells #[.pointer none, .map none] 116)).setCell ⟨w.heap.size, 5, none⟩ (.pointer (some ⟨r, 0, none⟩)) = w4 at e1 e2 e3 ⊢
    have c4 : w4.cell? ⟨w.heap.size, 4, none⟩ = some (.slice (some ⟨gB, 0, none⟩) 2 c') := block_cell e1
    have hnr : w.heap.size < r := by omega
    have HE1 := Lib.hid e1
    have HE2 := Lib.hid e2
    have HE3 := Lib.hid e3
    have HA3 := Lib.hid a3
    have HRC := Lib.hid hrc
    have HR := Lib.hid hr
    have hpm : p ∈ F := by obtain ⟨t, ht⟩ := HPRE.out; rw [← ht]; simp
    have HPM := Lib.hid hpm
    clear e1 e2 e3 a3 hrc hr hpm
    go_wp2_with fail
    go_loopg [29] 2 (fun gg iv wr => ∃ j : Nat, j + gg = 2 ∧ iv = .int .i64 j ∧ (∃ nb mb val, TrieN 133 (encB fun _ => mlV) wr (fun b => r ≤ b) r 0 (ownS ((ownP p).take j)) nb mb val) ∧ Touch (fun b => b = w.heap.size ∨ r ≤ b) w3 wr ∧ wr.heap[w.heap.size]? = some (.cells #[.int .i64 v, .int .i64 m, .int .i64 a, .bool false, .slice (some ⟨gB, 0, none⟩) 2 c', .pointer (some ⟨r, 0, none⟩)] 133 (0, 0)))
    case atStart => exact ⟨0, by omega, rfl, ⟨_, _, _, trie_new HE2.out _ _⟩, HE3.out, HE1.out⟩
    case round =>
      obtain ⟨j, hgj, rfl, htr, hto, hbx⟩ := hrel
      clear HE1 HE2 HE3 c4
      have HTR := Lib.hid htr
      have HTO := Lib.hid hto
      have HBX := Lib.hid hbx
      clear htr hto hbx
      by_cases hj : j < 2
      · have hjl : j < (ownP p).length := by rw [← HRC.out.1]; exact hj
        obtain ⟨hl1, gB', hgB', _, _, hrows⟩ := HRC.out
        clear hl1
        cases hgB'
        obtain ⟨b', o', c', k1, k2, kb, k3, k4⟩ := hrows j hjl
        have hmem := List.getElem_mem hjl
        have hsn := ownS_snoc (ownP p) j hjl
        obtain ⟨t1, ht1⟩ := ownS_take (ownP p) (j + 1)
        have hok := HF.out p HPM.out
        have hsz := ownP_size p
        rw [ht1, hsn] at hok hsz
        rw [sizeS_app, sizeS_app] at hsz
        obtain ⟨hok1, hput⟩ := TrieOk.at_put _ (trieOk_pre hok)
        obtain ⟨hsub, hlr⟩ := ownP_sub hmem
        have hk4 : IsInts wr (some ⟨b', o', none⟩) (ownP p)[j].length (gl (ownP p)[j]) := k4.touch2 HTO.out (fun _ a ha e => by
          cases ha
          rcases e with e | e
          · have e' : b' = w.heap.size := e
            rw [e', opC_at] at k3; cases k3
          · have e' : r ≤ b' := e
            have := HR.out; omega)
        have d0 : wr.cell? ⟨gB, j, none⟩ = some (.slice (some ⟨b', o', none⟩) (ownP p)[j].length c') := (World.cell?_of_block (w := w3) (HTO.out.block gB (by have := HR.out; omega) (fun e => by omega))).trans k1
        have d5 : wr.cell? ⟨w.heap.size, 5, none⟩ = some (.pointer (some ⟨r, 0, none⟩)) := block_cell HBX.out
        have hkeys : ∀ x ∈ (ownP p)[j], inKey x := fun x hx => HG.out.keys (p, _) (List.mem_append_right _ (List.mem_map.2 ⟨p, HPM.out, rfl⟩)) x (hsub x hx)
        have hpl : p.length ≤ 1000 := by have := HLEN.out; omega
        have hrl : (ownP p)[j].length ≤ 1000 := by omega
        have hsz2 : sizeS (ownS ((ownP p).take j)) + (ownP p)[j].length ≤ 2000 := by
          have : sizeS [((ownP p)[j], (0 : Int))] = (ownP p)[j].length := by simp [sizeS]
          omega
        have hbr : b' < r := by have := HR.out; omega
        have HK4 := Lib.hid hk4
        have HOK1 := Lib.hid hok1
        have HPUT := Lib.hid hput
        have HKEYS := Lib.hid hkeys
        have HSN := Lib.hid hsn
        clear hk4 hok1 hput hkeys hsn hrows k1 k3 kb k4 hok hsz ht1 hsub hlr hmem
        generalize (ownP p)[j] = row at *
        have HSZ2 := Lib.hid hsz2
        clear hsz2 hpl
        obtain ⟨nb, mb, val, htr⟩ := HTR.out
        have HT := Lib.hid htr
        clear htr
        go_wp2_with fail
        refine (put_b_c (fun b => r ≤ b) r 0 (fun _ => mlV) (ownS ((ownP p).take j)) nb mb val 0 mlV (some ⟨b', o', none⟩) c' row wr HOK1.out HT.out rfl HPUT.out (by unfold maxLen; omega) k2 (by have := HSZ2.out; unfold maxLen; omega) HK4.out HKEYS.out (fun a ha => by cases ha; rintro (e | e) <;> (have e' := e; simp only at e'; omega))).mono ?_
        rintro e w6 ⟨rfl, ht6, _, nb6, mb6, val6, htr6⟩
        have hto6 : Touch (fun b => b = w.heap.size ∨ r ≤ b) w3 w6 := HTO.out.trans ht6 (fun x hx => .inl (.inr (by rcases hx with e | e <;> omega)))
        have hbx6 := (ht6.block w.heap.size (heap_lt HBX.out) (fun e => by rcases e with e | e <;> omega)).trans HBX.out
        have htr7 : TrieN 133 (encB fun _ => mlV) w6 (fun b => r ≤ b) r 0 (ownS ((ownP p).take (j + 1))) nb6 mb6 val6 := by
          rw [HSN.out]
          exact htr6.wide (fun b hb => hb.elim id (fun h => by have := HTO.out.size; have := HR.out; show r ≤ b; omega))
        have HTO6 := Lib.hid hto6
        have HBX6 := Lib.hid hbx6
        have HTR7 := Lib.hid htr7
        clear ht6 htr6 hto6 hbx6 htr7
        go_wp2
        go_roundg (gk - 1)
        case measure => omega
        case rel => exact ⟨j + 1, by omega, by go_num, ⟨nb6, mb6, val6, HTR7.out⟩, HTO6.out, HBX6.out⟩
      · have hfull : (ownP p).take j = ownP p := List.take_of_length_le (by rw [← HRC.out.1]; omega)
        obtain ⟨nb, mb, val, htr⟩ := HTR.out
        rw [hfull] at htr
        have hsame : Same (fun k => k ≠ 0) (opC ow w.heap.size) (opC ow w.heap.size) w3 wr := fun b hb hne => ⟨HTO.out.block b hb (fun e => by
          rcases e with e | e
          · rw [e, opC_at] at hne; exact hne rfl
          · have := HR.out; omega), rfl⟩
        have hbd : BdOk wr (opC ow w.heap.size) ⟨v, m, a, false, ownP p⟩ ⟨v, m, a, false, some ⟨gB, 0, none⟩, 2, c', some ⟨r, 0, none⟩⟩ := by
          refine ⟨rfl, rfl, rfl, rfl, .inr ⟨?_, HRC.out.kept (hsame.less fun x hx => by omega) HTO.out.size, hcap, r, rfl, htr.gt.lt htr.gt.root, opC_new hnr, nb, mb, val, htr.wide (fun b hb => opC_new (by omega))⟩⟩
          unfold ownP; split <;> simp
        have hop : OpI tb T v m a px wr (opC ow w.heap.size) L := (HI.out.kept (fun b hb _ => ⟨HA3.out.block b hb, opC_old hb⟩) HA3.out.size).kept hsame HTO.out.size
        have hqr : QOk wr ⟨qg, p.length, qc, p⟩ := (HQP.out.kept (HA3.out.block _ hql)).kept (HTO.out.block qg (by have := HA3.out.size; omega) (fun e => by rcases e with e | e <;> omega))
        have htw : Touch (fun b => live (ow b)) w wr := (Touch.of (O := fun b => live (ow b)) HA3.out).trans HTO.out (fun x hx => .inr (by rcases hx with e | e <;> omega))
        have hgood : Good ((T 0 ++ opsR v m a L) ++ [(p, ⟨v, m, a, false, ownP p⟩)]) := by
          refine HG.out.pre ?_
          rw [List.append_assoc]
          refine (List.prefix_append_right_inj _).2 ?_
          obtain ⟨t, ht⟩ := HPRE.out
          rw [← ht]
          exact ⟨opsR v m a t, by unfold opsR; simp⟩
        have hlow := hgood.pre (List.prefix_append _ _)
        have hdr := (Below.refl wr.heap.size wr).drew
        have HOP := Lib.hid (hop.kept (Same.of hdr) (Nat.le_refl _))
        have HBD := Lib.hid (hbd.kept (Same.of hdr) (Nat.le_refl _))
        have HQR := Lib.hid (hqr.kept (w' := wr.drew) rfl)
        have HTW := Lib.hid htw
        have HGO := Lib.hid hgood
        have HLO := Lib.hid hlow
        have d0 : wr.cell? ⟨px, 0, none⟩ = some (.pointer (some ⟨tb, 0, none⟩)) := hop.2.1.cell.1
        have d1 : wr.cell? ⟨w.heap.size, 0, none⟩ = some (.int .i64 v) := block_cell HBX.out
        have d2 : wr.cell? ⟨w.heap.size, 1, none⟩ = some (.int .i64 m) := block_cell HBX.out
        have d3 : wr.cell? ⟨w.heap.size, 2, none⟩ = some (.int .i64 a) := block_cell HBX.out
        have d4 : wr.cell? ⟨w.heap.size, 3, none⟩ = some (.bool false) := block_cell HBX.out
        have d5 : wr.cell? ⟨w.heap.size, 4, none⟩ = some (.slice (some ⟨gB, 0, none⟩) 2 c') := block_cell HBX.out
        have d6 : wr.cell? ⟨w.heap.size, 5, none⟩ = some (.pointer (some ⟨r, 0, none⟩)) := block_cell HBX.out
        have hpk : IsBox wr px 86 (.pointer (some ⟨tb, 0, none⟩)) := hop.2.1
        have HPK := Lib.hid hpk
        have hpc5 : opC ow w.heap.size px = 5 := hop.2.2
        have HPC5 := Lib.hid hpc5
        clear hfull htr hsame hbd hop hqr htw hgood hlow hdr hpk hpc5
        go_wp2_with fail
        go_region_law (go_simp; refine (lput_n (opC ow w.heap.size) tb (updT T 0 (T 0 ++ opsR v m a L)) qg _ qc p ⟨v, m, a, false, ownP p⟩ ⟨v, m, a, false, some ⟨gB, 0, none⟩, 2, c', some ⟨r, 0, none⟩⟩ _ HLEN.out.symm HOP.out.1 HQR.out ((opC_old hql).trans HQC.out) HBD.out (by rw [updT_at]; exact HGO.out.ok) (by rw [updT_at]; have := HLO.out.few; omega) (by have := HLEN.out; omega) (by rw [updT_at]; have := HLO.out.size; omega) (HGO.out.keys (p, _) (List.mem_append_right _ (List.mem_singleton.2 rfl))) hpc').mono ?_; rintro e w7 ⟨rfl, ow7, h7, hc7, ht7⟩)
        all_goals
          have hws := HTW.out.size
          have ht7' : Touch (fun b => live (opC ow w.heap.size b)) wr w7 := ⟨ht7.os, ht7.tape, ht7.output, ht7.size, ht7.block⟩
          have hfin : ∃ ow', OpI tb T v m a px w7 ow' (L ++ [p]) ∧ (∀ b, b < w.heap.size → ow' b = ow b) ∧ Touch (fun b => live (ow b)) w w7 := by
            refine ⟨ow7, ⟨?_, box_touch HPK.out ht7' (fun e => e.2 HPC5.out), (hc7 px (heap_lt HPK.out)).trans HPC5.out⟩, fun b hb => (hc7 b (by show b < wr.heap.size; omega)).trans (opC_old hb), HTW.out.trans ht7' (fun x hx => ?_)⟩
            · rw [updT_same, updT_at, List.append_assoc] at h7
              unfold opsR
              rw [List.map_append]
              exact h7
            · by_cases hx0 : x < w.heap.size
              · exact .inl (by have h8 := hx; simp only [opC_old hx0] at h8; exact h8)
              · exact .inr (by omega)
          have HFIN := Lib.hid hfin
          clear hfin h7 hc7 ht7 ht7' d0 d1 d2 d3 d4 d5 d6
          go_wp2
          go_end0
          exact ⟨rfl, HFIN.out⟩
end Go.Proofs.Ytampjndfhpjheaa
