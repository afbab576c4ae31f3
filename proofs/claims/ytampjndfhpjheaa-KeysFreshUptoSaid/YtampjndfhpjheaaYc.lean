/- The program's trie in memory, whose root may lie within a greater block. No walk. -/
import Derived.Test.YtampjndfhpjheaaTf
namespace Go.Proofs.Ytampjndfhpjheaa
open Go.RowKit
/-- at b, o lie v and the map m -/
def NodeAt (tV : TypeId) (w : World) (b o : Nat) (v m : Value) : Prop := ∃ cs t, w.heap[b]? = some (.cells cs t (0, 0)) ∧ t ≠ tV ∧ cs[o]? = some v ∧ cs[o + 1]? = some m
theorem NodeAt.lt {tV : TypeId} {w : World} {b o : Nat} {v m : Value} (h : NodeAt tV w b o v m) : b < w.heap.size := by obtain ⟨cs, t, h, _⟩ := h; exact heap_lt h
theorem NodeAt.cells {tV : TypeId} {w : World} {b o : Nat} {v m : Value} (h : NodeAt tV w b o v m) : w.cell? ⟨b, o, none⟩ = some v ∧ w.cell? ⟨b, o + 1, none⟩ = some m ∧ w.frozen? ⟨b, o, none⟩ = false ∧ w.frozen? ⟨b, o + 1, none⟩ = false := by
  obtain ⟨cs, t, h, _, h1, h2⟩ := h
  exact ⟨(block_cell h).trans h1, (block_cell h).trans h2, block_free h, block_free h⟩
theorem NodeAt.kept {tV : TypeId} {w w' : World} {b o : Nat} {v m : Value} (h : NodeAt tV w b o v m) (e : w'.heap[b]? = w.heap[b]?) : NodeAt tV w' b o v m := by
  obtain ⟨cs, t, h, r⟩ := h
  exact ⟨cs, t, e.trans h, r⟩
theorem NodeAt.setv {tV : TypeId} {w : World} {b o : Nat} {v m : Value} (h : NodeAt tV w b o v m) (u : Value) : NodeAt tV (w.setCell ⟨b, o, none⟩ u) b o u m := by
  obtain ⟨cs, t, h, ht, h1, h2⟩ := h
  have hs := (Array.getElem?_eq_some_iff.1 h1).1
  refine ⟨_, t, block_set u h, ht, ?_, ?_⟩
  · rw [Array.getElem?_setIfInBounds, if_pos rfl, if_pos hs]
  · rw [Array.getElem?_setIfInBounds, if_neg (by omega)]; exact h2
theorem NodeAt.setm {tV : TypeId} {w : World} {b o : Nat} {v m : Value} (h : NodeAt tV w b o v m) (u : Value) : NodeAt tV (w.setCell ⟨b, o + 1, none⟩ u) b o v u := by
  obtain ⟨cs, t, h, ht, h1, h2⟩ := h
  have hs := (Array.getElem?_eq_some_iff.1 h2).1
  refine ⟨_, t, block_set u h, ht, ?_, ?_⟩
  · rw [Array.getElem?_setIfInBounds, if_neg (by omega)]; exact h1
  · rw [Array.getElem?_setIfInBounds, if_pos rfl, if_pos hs]
theorem NodeAt.of {tT tV : TypeId} {w : World} {b : Nat} {v m : Value} (h : w.heap[b]? = some (.cells #[v, m] tT (0, 0))) (hT : tV ≠ tT) : NodeAt tV w b 0 v m := ⟨_, tT, h, fun e => hT e.symm, rfl, rfl⟩
def offR (ro : Nat) (p : List Int) : Nat := if p = [] then ro else 0
theorem offR_nil (ro : Nat) : offR ro [] = ro := rfl
theorem offR_snoc (ro : Nat) (p : List Int) (k : Int) : offR ro (p ++ [k]) = 0 := by unfold offR; rw [if_neg]; simp
/-- a trie in memory: nb: the node of a row of keys, mb: its map, val: its value; the root lies in block root from ro on -/
structure GN {V : Type} (tV : TypeId) (enc : V → Array Value) (w : World) (O : Nat → Prop) (root ro n : Nat) (nb mb : List Int → Option Nat) (val : List Int → Option (Nat × V)) : Prop where
  root : nb [] = some root
  own_n : ∀ p b, nb p = some b → p ≠ [] → O b
  own_m : ∀ p b, mb p = some b → O b
  own_v : ∀ p x, val p = some x → O x.1
  node : ∀ p b, nb p = some b → NodeAt tV w b (offR ro p) (ptrO ((val p).map (·.1))) (.map (mb p))
  kmap : ∀ p m, mb p = some m → KMap w m n (fun k => nb (p ++ [k]))
  knil : ∀ p, mb p = none → ∀ k, nb (p ++ [k]) = none
  value : ∀ p x, val p = some x → w.heap[x.1]? = some (.cells (enc x.2) tV (0, 0))
  injn : ∀ p q b, nb p = some b → nb q = some b → p = q
  injm : ∀ p q b, mb p = some b → mb q = some b → p = q
  lone : ∀ p, nb p = none → mb p = none ∧ val p = none
  keys : ∀ p k b, nb (p ++ [k]) = some b → inKey k
/-- the root's two cells are as they were -/
def RootSame (tV : TypeId) (w w' : World) (root ro : Nat) : Prop := ∀ v m, NodeAt tV w root ro v m → NodeAt tV w' root ro v m
theorem RootSame.of {tV : TypeId} {w w' : World} {root ro : Nat} (e : root < w.heap.size → w'.heap[root]? = w.heap[root]?) : RootSame tV w w' root ro := fun _ _ h => h.kept (e h.lt)
/-- all that the root's block holds besides the root is as it was -/
def RestSame (w w' : World) (root ro : Nat) : Prop := ∀ cs t, w.heap[root]? = some (.cells cs t (0, 0)) → ∃ cs', w'.heap[root]? = some (.cells cs' t (0, 0)) ∧ cs'.size = cs.size ∧ ∀ j, j ≠ ro → j ≠ ro + 1 → cs'[j]? = cs[j]?
theorem RestSame.of {w w' : World} {root ro : Nat} (e : root < w.heap.size → w'.heap[root]? = w.heap[root]?) : RestSame w w' root ro := fun cs _ h => ⟨cs, (e (heap_lt h)).trans h, rfl, fun _ _ _ => rfl⟩
theorem RestSame.trans {a b c : World} {root ro : Nat} (h : RestSame a b root ro) (k : RestSame b c root ro) : RestSame a c root ro := fun cs t e => by
  obtain ⟨c1, e1, s1, h1⟩ := h cs t e
  obtain ⟨c2, e2, s2, h2⟩ := k c1 t e1
  exact ⟨c2, e2, s2.trans s1, fun j hj hk => (h2 j hj hk).trans (h1 j hj hk)⟩
theorem RestSame.setCell {w : World} {root ro j : Nat} {b : Nat} (u : Value) (h : b ≠ root ∨ j = ro ∨ j = ro + 1) : RestSame w (w.setCell ⟨b, j, none⟩ u) root ro := by
  intro cs t e
  by_cases hb : b = root
  · subst hb
    refine ⟨_, block_set u e, by simp, fun i hi hk => ?_⟩
    rw [Array.getElem?_setIfInBounds, if_neg]
    rcases h with h | rfl | rfl
    · exact absurd rfl h
    · exact fun e => hi e.symm
    · exact fun e => hk e.symm
  · exact ⟨cs, (Below.heap_setCell _ _ _ _ (fun e => hb e.symm)).trans e, rfl, fun _ _ _ => rfl⟩
/-- O and the root's block -/
def withR (O : Nat → Prop) (root : Nat) (b : Nat) : Prop := O b ∨ b = root
section
variable {V : Type} {tT tV : TypeId} {enc : V → Array Value} {w w' : World} {O O' : Nat → Prop} {root ro n : Nat} {nb mb : List Int → Option Nat} {val : List Int → Option (Nat × V)}
theorem GN.lt (h : GN tV enc w O root ro n nb mb val) {p : List Int} {b : Nat} (hb : nb p = some b) : b < w.heap.size := (h.node p b hb).lt
theorem GN.kept (h : GN tV enc w O root ro n nb mb val) (e : ∀ b, b < w.heap.size → O b → w'.heap[b]? = w.heap[b]?) (er : RootSame tV w w' root ro) : GN tV enc w' O root ro n nb mb val :=
  { h with
    node := fun p b hb => by
      by_cases hp : p = []
      · subst hp
        have := h.node [] b hb
        rw [h.root] at hb
        cases hb
        exact er _ _ this
      · exact (h.node p b hb).kept (e b (h.lt hb) (h.own_n p b hb hp))
    kmap := fun p m hm => (h.kmap p m hm).kept (e m (h.kmap p m hm).lt (h.own_m p m hm))
    value := fun p x hx => (e x.1 (heap_lt (h.value p x hx)) (h.own_v p x hx)).trans (h.value p x hx) }
theorem GN.later (h : GN tV enc w O root ro n nb mb val) (hb : Below w.heap.size w w') : GN tV enc w' O root ro n nb mb val := h.kept (fun b hl _ => hb.block b hl) (RootSame.of fun h => hb.block _ h)
theorem GN.wide (h : GN tV enc w O root ro n nb mb val) (hO : ∀ b, O b → O' b) : GN tV enc w O' root ro n nb mb val :=
  { h with
    own_n := fun p b hb hp => hO b (h.own_n p b hb hp)
    own_m := fun p b hb => hO b (h.own_m p b hb)
    own_v := fun p b hb => hO b.1 (h.own_v p b hb) }
theorem GN.congr {enc' : V → Array Value} (h : GN tV enc w O root ro n nb mb val) (e : ∀ p x, val p = some x → enc' x.2 = enc x.2) : GN tV enc' w O root ro n nb mb val :=
  { h with value := fun p x hx => by rw [e p x hx]; exact h.value p x hx }
theorem GN.up (h : GN tV enc w O root ro n nb mb val) {p : List Int} {k : Int} (hp : nb p = none) : nb (p ++ [k]) = none := h.knil p (h.lone p hp).1 k
theorem GN.up_any (h : GN tV enc w O root ro n nb mb val) {p : List Int} (hp : nb p = none) (t : List Int) : nb (p ++ t) = none := by
  induction t generalizing p with
  | nil => simpa using hp
  | cons k t ih =>
    have := ih (h.up (k := k) hp)
    simpa using this
theorem GN.map_lt (h : GN tV enc w O root ro n nb mb val) {p : List Int} {b : Nat} (hb : mb p = some b) : b < w.heap.size := (h.kmap p b hb).lt
theorem GN.val_lt (h : GN tV enc w O root ro n nb mb val) {p : List Int} {x : Nat × V} (hb : val p = some x) : x.1 < w.heap.size := heap_lt (h.value p x hb)
theorem GN.node_map (h : GN tV enc w O root ro n nb mb val) {p q : List Int} {b m : Nat} (hb : nb p = some b) (hm : mb q = some m) : b ≠ m := by
  intro e
  subst e
  obtain ⟨es, cl, h2⟩ := (h.kmap q b hm).isMap
  obtain ⟨cs, t, h3, _⟩ := h.node p b hb
  rw [h3] at h2; cases h2
theorem GN.node_val (h : GN tV enc w O root ro n nb mb val) {p q : List Int} {b : Nat} {x : Nat × V} (hb : nb p = some b) (hx : val q = some x) : x.1 ≠ b := by
  intro e
  have h2 := h.value q x hx
  obtain ⟨cs, t, h3, ht, _⟩ := h.node p b hb
  rw [e, h3] at h2
  injection h2 with h2
  injection h2 with _ h2
  exact ht h2
theorem GN.val_map (h : GN tV enc w O root ro n nb mb val) {p q : List Int} {m : Nat} {x : Nat × V} (hm : mb p = some m) (hx : val q = some x) : x.1 ≠ m := by
  intro e
  obtain ⟨es, cl, h2⟩ := (h.kmap p m hm).isMap
  rw [← e, h.value q x hx] at h2; cases h2
/-- a node more: behind p by the key k -/
theorem GN.grow (h : GN tV enc w O root ro n nb mb val) {p : List Int} {k : Int} {b c m : Nat} (hp : nb p = some b) (hk : inKey k) (hn : nb (p ++ [k]) = none)
    (hO : ∀ b, O b → O' b) (hc : O' c) (hm : O' m) (hcs : w.heap.size ≤ c)
    (hcn : NodeAt tV w' c 0 (.pointer none) (.map none))
    (hmm : mb p = some m ∨ mb p = none ∧ w.heap.size ≤ m)
    (hbn : NodeAt tV w' b (offR ro p) (ptrO ((val p).map (·.1))) (.map (some m)))
    (hkm : KMap w' m (n + 1) (fun x => if x = k then some c else nb (p ++ [x])))
    (he : ∀ q, q < w.heap.size → q ≠ b → mb p ≠ some q → w'.heap[q]? = w.heap[q]?) :
    GN tV enc w' O' root ro (n + 1) (fun q => if q = p ++ [k] then some c else nb q) (fun q => if q = p then some m else mb q) val := by
  have hpne : p ≠ p ++ [k] := ne_snoc p k
  have hnil : ([] : List Int) ≠ p ++ [k] := by intro e; have := congrArg List.length e; simp at this
  refine ⟨?_, ?_, ?_, ?_, ?_, ?_, ?_, ?_, ?_, ?_, ?_, ?_⟩
  · show (if _ then _ else _) = _; rw [if_neg hnil]; exact h.root
  · intro q x hx hq
    try simp only at hx
    split at hx
    · injection hx with hx; subst hx; exact hc
    · exact hO _ (h.own_n q x hx hq)
  · intro q x hx
    try simp only at hx
    split at hx
    · injection hx with hx; subst hx; exact hm
    · exact hO _ (h.own_m q x hx)
  · intro q x hx; exact hO _ (h.own_v q x hx)
  · intro q x hx
    try simp only at hx ⊢
    split at hx
    · rename_i e
      injection hx with hx
      subst hx e
      rw [if_neg (fun e => hpne e.symm), (h.lone _ hn).1, (h.lone _ hn).2, offR_snoc]
      exact hcn
    · by_cases e : q = p
      · subst e
        rw [hp] at hx
        injection hx with hx
        subst hx
        rw [if_pos rfl]; exact hbn
      · rw [if_neg e]
        exact (h.node q x hx).kept (he x (h.lt hx) (fun e2 => e (h.injn q p b (e2 ▸ hx) hp)) (fun e2 => h.node_map hx e2 rfl))
  · intro q x hx
    try simp only at hx ⊢
    by_cases e : q = p
    · subst e
      rw [if_pos rfl] at hx
      injection hx with hx
      subst hx
      refine hkm.same fun y => ?_
      by_cases e2 : y = k
      · subst e2; rw [if_pos rfl, if_pos rfl]
      · rw [if_neg e2, if_neg (fun e3 => e2 (snoc_inj e3).2)]
    · rw [if_neg e] at hx
      have h1 := ((h.kmap q x hx).mono (Nat.le_succ n)).kept (he x (h.map_lt hx) (fun e2 => h.node_map hp hx e2.symm) (fun e2 => e (h.injm q p x hx e2)))
      exact h1.same fun y => by rw [if_neg (fun e3 => e (snoc_inj e3).1)]
  · intro q hq y
    try simp only at hq ⊢
    split at hq
    · cases hq
    · rename_i e
      rw [if_neg (fun e3 => e (snoc_inj e3).1)]
      exact h.knil q hq y
  · intro q x hx
    rw [he x.1 (h.val_lt hx) (h.node_val hp hx) (fun e => h.val_map e hx rfl)]
    exact h.value q x hx
  · intro q r x hq hr
    try simp only at hq hr
    split at hq <;> split at hr
    · rename_i e1 e2; rw [e1, e2]
    · injection hq with hq; subst hq; have := h.lt hr; omega
    · injection hr with hr; subst hr; have := h.lt hq; omega
    · exact h.injn q r x hq hr
  · intro q r x hq hr
    try simp only at hq hr
    split at hq <;> split at hr
    · rename_i e1 e2; rw [e1, e2]
    · rename_i e1 e2
      injection hq with hq; subst hq
      rcases hmm with h1 | ⟨_, h1⟩
      · rw [e1]; exact h.injm p r m h1 hr
      · have := h.map_lt hr; omega
    · rename_i e1 e2
      injection hr with hr; subst hr
      rcases hmm with h1 | ⟨_, h1⟩
      · rw [e2]; exact h.injm q p m hq h1
      · have := h.map_lt hq; omega
    · exact h.injm q r x hq hr
  · intro q hq
    try simp only at hq ⊢
    split at hq
    · cases hq
    · have := h.lone q hq
      refine ⟨?_, this.2⟩
      rw [if_neg (fun e => by subst e; rw [hp] at hq; cases hq)]
      exact this.1
  · intro q y x hx
    try simp only at hx
    split at hx
    · rename_i e
      rw [(snoc_inj e).2]; exact hk
    · exact h.keys q y x hx
/-- the value of a node -/
theorem GN.give (h : GN tV enc w O root ro n nb mb val) {p : List Int} {b v : Nat} {x : V} (hp : nb p = some b)
    (hv : w.heap[v]? = some (.cells (enc x) tV (0, 0))) (hvO : O v) :
    GN tV enc (w.setCell ⟨b, offR ro p, none⟩ (.pointer (some ⟨v, 0, none⟩))) O root ro n nb mb (fun q => if q = p then some (v, x) else val q) := by
  have hoth : ∀ q, q ≠ b → (w.setCell ⟨b, offR ro p, none⟩ (.pointer (some ⟨v, 0, none⟩))).heap[q]? = w.heap[q]? := fun q hq => Below.heap_setCell _ _ _ _ hq
  have hvb : v ≠ b := by
    intro e
    obtain ⟨cs, t, h3, ht, _⟩ := h.node p b hp
    rw [e, h3] at hv
    injection hv with hv
    injection hv with _ hv
    exact ht hv
  refine { h with own_v := ?_, node := ?_, kmap := ?_, value := ?_, lone := ?_ }
  · intro q y hy
    try simp only at hy
    split at hy
    · injection hy with hy; subst hy; exact hvO
    · exact h.own_v q y hy
  · intro q y hy
    try simp only
    by_cases e : q = p
    · subst e
      rw [hp] at hy
      injection hy with hy
      subst hy
      rw [if_pos rfl]
      exact (h.node q b hp).setv _
    · rw [if_neg e]
      exact (h.node q y hy).kept (hoth y (fun e2 => e (h.injn q p b (e2 ▸ hy) hp)))
  · intro q m hm
    exact (h.kmap q m hm).kept (hoth m (fun e => h.node_map hp hm e.symm))
  · intro q y hy
    try simp only at hy
    split at hy
    · injection hy with hy; subst hy
      rw [hoth v hvb]; exact hv
    · rw [hoth y.1 (h.node_val hp hy)]; exact h.value q y hy
  · intro q hq
    have := h.lone q hq
    refine ⟨this.1, ?_⟩
    try simp only
    rw [if_neg (fun e => by subst e; rw [hp] at hq; cases hq)]
    exact this.2
theorem GN.mono {n' : Nat} (h : GN tV enc w O root ro n nb mb val) (hn : n ≤ n') : GN tV enc w O root ro n' nb mb val :=
  { h with kmap := fun p m hm => (h.kmap p m hm).mono hn }
end
theorem GN.lookup {V : Type} {tV : TypeId} {enc : V → Array Value} {w w' : World} {O : Nat → Prop} {root ro n : Nat} {nb mb : List Int → Option Nat} {val : List Int → Option (Nat × V)} (h : GN tV enc w O root ro n nb mb val) (hb : Below w.heap.size w w') {t e : TypeId} (ht : Try.prog.underlying t = some (.map 3 e)) (hz : (zeroValue e).run Try.prog w' = .ok (.pointer none) w') {p : List Int} {k : Int} (hk : inKey k) :
    (Instr.lookup t (.map (mb p)) (.int .i64 k) false).run Try.prog w' = .ok (ptrO (nb (p ++ [k]))) w' := by
  cases hm : mb p with
  | none => rw [Maps.look_nil false key_law ht hz (key_of hk), h.knil p hm k]; rfl
  | some m => exact ((h.kmap p m hm).kept (hb.block m (h.map_lt hm))).lookup ht hz hk
theorem GN.len {V : Type} {tV : TypeId} {enc : V → Array Value} {w w' : World} {O : Nat → Prop} {root ro n : Nat} {nb mb : List Int → Option Nat} {val : List Int → Option (Nat × V)} (h : GN tV enc w O root ro n nb mb val) (hb : Below w.heap.size w w') {t e : TypeId} (ht : Try.prog.underlying t = some (.map 3 e)) (p : List Int) :
    ∃ s : Nat, (∀ ty, (Builtin.len_ #[t] ty #[.map (mb p)]).run Try.prog w' = .ok (.int .i64 s) w') ∧ (mb p = none → s = 0) ∧ (∀ k b, inKey k → mb p ≠ none → nb (p ++ [k]) = some b → 0 < s) := by
  cases hm : mb p with
  | none => exact ⟨0, fun ty => Maps.len_nil ht ty, fun _ => rfl, fun _ _ _ h _ => absurd rfl h⟩
  | some m =>
    obtain ⟨s, h1, h2⟩ := ((h.kmap p m hm).kept (hb.block m (h.map_lt hm))).len ht
    exact ⟨s, h1, (fun h => by cases h), fun k b hk _ hb => h2 k b hk hb⟩
/-- the program's trie of the rows S -/
structure TrieN (tV : TypeId) (enc : Int → Array Value) (w : World) (O : Nat → Prop) (root ro : Nat) (S : TrieS) (nb mb : List Int → Option Nat) (val : List Int → Option (Nat × Int)) : Prop where
  gt : GN tV enc w O root ro (sizeS S) nb mb val
  dom : ∀ p, nb p ≠ none ↔ p = [] ∨ preB S p = true
  vals : ∀ p, (val p).map (·.2) = valO S p
  live : ∀ p m, mb p = some m → ∃ k, nb (p ++ [k]) ≠ none
section
variable {tT tV : TypeId} {enc : Int → Array Value} {w w' : World} {O O' : Nat → Prop} {root ro : Nat} {S : TrieS} {nb mb : List Int → Option Nat} {val : List Int → Option (Nat × Int)}
theorem TrieN.kept (h : TrieN tV enc w O root ro S nb mb val) (e : ∀ b, b < w.heap.size → O b → w'.heap[b]? = w.heap[b]?) (er : RootSame tV w w' root ro) : TrieN tV enc w' O root ro S nb mb val := { h with gt := h.gt.kept e er }
theorem TrieN.later (h : TrieN tV enc w O root ro S nb mb val) (hb : Below w.heap.size w w') : TrieN tV enc w' O root ro S nb mb val := { h with gt := h.gt.later hb }
theorem TrieN.wide (h : TrieN tV enc w O root ro S nb mb val) (hO : ∀ b, O b → O' b) : TrieN tV enc w O' root ro S nb mb val := { h with gt := h.gt.wide hO }
theorem TrieN.val_some (h : TrieN tV enc w O root ro S nb mb val) {p : List Int} {x : Nat × Int} (hx : val p = some x) : (p, x.2) ∈ S := by
  have := h.vals p
  rw [hx] at this
  exact valO_some this.symm
theorem TrieN.val_none (h : TrieN tV enc w O root ro S nb mb val) {p : List Int} (hx : val p = none) : ∀ r ∈ S, r.1 ≠ p := by
  have := h.vals p
  rw [hx] at this
  exact valO_none this.symm
/-- what Look comes to -/
theorem TrieN.look_bad (h : TrieN tV enc w O root ro S nb mb val) {p : List Int} (hp : nb p = none) : lookS S p = (0, 2) := by
  refine lookS_bad ?_
  cases hb : preB S p
  · rfl
  · exact absurd hp ((h.dom p).2 (.inr hb))
theorem TrieN.look_done (h : TrieN tV enc w O root ro S nb mb val) (hS : TrieOk S) {p : List Int} {x : Nat × Int} (hx : val p = some x) : lookS S p = (x.2, 1) := lookS_done hS (h.val_some hx)
theorem TrieN.look_more (h : TrieN tV enc w O root ro S nb mb val) {p : List Int} {m : Nat} (hx : val p = none) (hm : mb p = some m) : lookS S p = (0, 0) ∧ ∃ k b, inKey k ∧ nb (p ++ [k]) = some b := by
  obtain ⟨k, hk⟩ := h.live p m hm
  refine ⟨lookS_more ?_ (h.val_none hx), ?_⟩
  · rcases (h.dom _).1 hk with e | e
    · have := congrArg List.length e; simp at this
    · exact preB_less e (List.prefix_append _ _)
  · cases hb : nb (p ++ [k]) with
    | none => exact absurd hb hk
    | some b => exact ⟨k, b, h.gt.keys p k b hb, hb⟩
theorem TrieN.look_none (h : TrieN tV enc w O root ro S nb mb val) {p : List Int} (hx : val p = none) (hm : mb p = none) : lookS S p = (0, 2) := by
  refine lookS_bad ?_
  cases hb : preB S p
  · rfl
  · obtain ⟨k, hk⟩ := pre_next hb (h.val_none hx)
    exact absurd (h.gt.knil p hm k) ((h.dom _).2 (.inr hk))
theorem TrieN.put_no (h : TrieN tV enc w O root ro S nb mb val) {p : List Int} {i : Nat} {x : Nat × Int} (hx : val (p.take i) = some x) : putB S p = false := by
  have h1 := h.val_some hx
  unfold putB
  have : S.all (fun r => !r.1.isPrefixOf p && !p.isPrefixOf r.1) = false := by
    rw [List.all_eq_false]
    refine ⟨_, h1, ?_⟩
    simp [List.isPrefixOf_iff_prefix.2 (List.take_prefix i p)]
  rw [this, Bool.and_false]
theorem TrieN.put_yes (h : TrieN tV enc w O root ro S nb mb val) (hS : TrieOk S) {p : List Int} {i : Nat} (hi : i < p.length) (hp : preB S p = false) (hn : nb (p.take (i + 1)) = none) (hv : ∀ j, 0 < j → j ≤ i → val (p.take j) = none) : putB S p = true := by
  unfold putB
  have hne : p ≠ [] := by intro e; subst e; simp at hi
  rw [Bool.and_eq_true, List.all_eq_true]
  refine ⟨by cases p with | nil => exact absurd rfl hne | cons _ _ => rfl, fun r hr => ?_⟩
  rw [Bool.and_eq_true]
  constructor
  · cases hb : r.1.isPrefixOf p
    · rfl
    · exfalso
      have hpre := List.isPrefixOf_iff_prefix.1 hb
      have ht := List.prefix_iff_eq_take.1 hpre
      have hrn : nb r.1 ≠ none := (h.dom _).2 (.inr (preB_iff.2 ⟨r, hr, List.prefix_refl _⟩))
      have hl : r.1.length ≤ i := by
        refine Classical.byContradiction fun hlt => ?_
        have : p.take (i + 1) <+: r.1 := by
          rw [ht]
          exact List.take_prefix_take_left (by omega)
        obtain ⟨t, e⟩ := this
        exact hrn (by rw [← e]; exact h.gt.up_any hn t)
      have h0 : 0 < r.1.length := by
        rcases Nat.eq_zero_or_pos r.1.length with e | e
        · exact absurd (List.eq_nil_of_length_eq_zero e) (hS.1 r hr)
        · exact e
      have := hv r.1.length h0 hl
      rw [← ht] at this
      exact h.val_none this r hr rfl
  · cases hb : p.isPrefixOf r.1
    · rfl
    · exfalso
      rw [preB_iff.2 ⟨r, hr, List.isPrefixOf_iff_prefix.1 hb⟩] at hp; cases hp
end
/-- i keys of p were there, l are there now; b is the last node -/
structure PathN (tV : TypeId) (enc : Int → Array Value) (w : World) (O : Nat → Prop) (root ro : Nat) (S : TrieS) (nb : List Int → Option Nat) (val : List Int → Option (Nat × Int)) (p : List Int) (i l b : Nat) (nb' mb' : List Int → Option Nat) : Prop where
  gt : GN tV enc w O root ro (sizeS S + (l - i)) nb' mb' val
  dom : ∀ q, nb' q ≠ none ↔ nb q ≠ none ∨ q <+: p ∧ q.length ≤ l
  at_ : nb' (p.take l) = some b
  live : ∀ q m, mb' q = some m → ∃ k, nb' (q ++ [k]) ≠ none
  il : i ≤ l
  lp : l ≤ p.length
  not : nb (p.take (i + 1)) = none
  over : ∀ q, nb q = none → ∀ t, nb (q ++ t) = none
section
variable {tT tV : TypeId} {enc : Int → Array Value} {w w' : World} {O O' : Nat → Prop} {root ro : Nat} {S : TrieS} {nb mb nb' mb' : List Int → Option Nat} {val : List Int → Option (Nat × Int)} {p : List Int} {i l b : Nat}
theorem PathN.start (h : TrieN tV enc w O root ro S nb mb val) (hi : i < p.length) (hb : nb (p.take i) = some b) (hn : nb (p.take (i + 1)) = none) : PathN tV enc w O root ro S nb val p i i b nb mb := by
  refine ⟨by rw [Nat.sub_self, Nat.add_zero]; exact h.gt, fun q => ⟨.inl, fun h1 => ?_⟩, hb, h.live, Nat.le_refl _, by omega, hn, fun q hq t => h.gt.up_any hq t⟩
  rcases h1 with h1 | ⟨h1, h2⟩
  · exact h1
  · intro hq
    have h3 : q <+: p.take i := List.prefix_take_iff.2 ⟨h1, h2⟩
    obtain ⟨t, ht⟩ := h3
    have := h.gt.up_any hq t
    rw [ht, hb] at this; cases this
theorem PathN.kept (h : PathN tV enc w O root ro S nb val p i l b nb' mb') (e : ∀ b, b < w.heap.size → O b → w'.heap[b]? = w.heap[b]?) (er : RootSame tV w w' root ro) : PathN tV enc w' O root ro S nb val p i l b nb' mb' := { h with gt := h.gt.kept e er }
theorem PathN.wide (h : PathN tV enc w O root ro S nb val p i l b nb' mb') (hO : ∀ b, O b → O' b) : PathN tV enc w O' root ro S nb val p i l b nb' mb' := { h with gt := h.gt.wide hO }
theorem PathN.free (h : PathN tV enc w O root ro S nb val p i l b nb' mb') (hl : l < p.length) : nb' (p.take l ++ [p[l]]) = none := by
  cases hb : nb' (p.take l ++ [p[l]]) with
  | none => rfl
  | some c =>
    exfalso
    rcases (h.dom _).1 (by rw [hb]; simp) with h1 | ⟨_, h2⟩
    · apply h1
      rw [← take_next hl]
      have : p.take (i + 1) <+: p.take (l + 1) := List.take_prefix_take_left (by have := h.il; omega)
      obtain ⟨t, ht⟩ := this
      rw [← ht]; exact h.over _ h.not t
    · simp at h2
      omega
theorem PathN.step (h : PathN tV enc w O root ro S nb val p i l b nb' mb') (hl : l < p.length) {c m : Nat} (hk : inKey p[l])
    (hO : ∀ b, O b → O' b) (hc : O' c) (hm : O' m) (hcs : w.heap.size ≤ c)
    (hcn : NodeAt tV w' c 0 (.pointer none) (.map none))
    (hmm : mb' (p.take l) = some m ∨ mb' (p.take l) = none ∧ w.heap.size ≤ m)
    (hbn : NodeAt tV w' b (offR ro (p.take l)) (ptrO ((val (p.take l)).map (·.1))) (.map (some m)))
    (hkm : KMap w' m (sizeS S + (l - i) + 1) (fun x => if x = p[l] then some c else nb' (p.take l ++ [x])))
    (he : ∀ q, q < w.heap.size → q ≠ b → mb' (p.take l) ≠ some q → w'.heap[q]? = w.heap[q]?) :
    ∃ nb2 mb2, PathN tV enc w' O' root ro S nb val p i (l + 1) c nb2 mb2 ∧ mb2 (p.take (l + 1)) = none := by
  have hg := h.gt.grow h.at_ hk (h.free hl) hO hc hm hcs hcn hmm hbn hkm he
  have ht := take_next hl
  refine ⟨(fun q => if q = p.take l ++ [p[l]] then some c else nb' q), (fun q => if q = p.take l then some m else mb' q), ⟨?_, fun q => ?_, ?_, fun q y hy => ?_, by have := h.il; omega, hl, h.not, h.over⟩, ?_⟩
  · have := h.il
    rw [show sizeS S + (l + 1 - i) = sizeS S + (l - i) + 1 from by omega]
    exact hg
  · try simp only
    rw [← ht]
    by_cases e : q = p.take (l + 1)
    · rw [if_pos e]
      simp only [ne_eq, reduceCtorEq, not_false_eq_true, true_iff]
      refine .inr ⟨by rw [e]; exact List.take_prefix _ _, ?_⟩
      rw [e, List.length_take]; omega
    · rw [if_neg e, h.dom q]
      constructor
      · rintro (h1 | ⟨h1, h2⟩)
        · exact .inl h1
        · exact .inr ⟨h1, by omega⟩
      · rintro (h1 | ⟨h1, h2⟩)
        · exact .inl h1
        · refine .inr ⟨h1, ?_⟩
          refine Classical.byContradiction fun h3 => e ?_
          have h4 := List.prefix_iff_eq_take.1 h1
          rw [show q.length = l + 1 from by omega] at h4
          exact h4
  · try simp only
    rw [if_pos ht]
  · try simp only at hy ⊢
    by_cases e : q = p.take l
    · subst e
      exact ⟨p[l], by rw [if_pos rfl]; simp⟩
    · rw [if_neg e] at hy
      obtain ⟨k, hk2⟩ := h.live q y hy
      refine ⟨k, ?_⟩
      split
      · simp
      · exact hk2
  · try simp only
    rw [if_neg (by rw [ht]; exact fun e => ne_snoc _ _ e.symm)]
    exact (h.gt.lone _ (by rw [ht]; exact h.free hl)).1
theorem PathN.done (h : PathN tV enc w O root ro S nb val p i p.length b nb' mb') (h0 : TrieN tV enc w' O' root ro S nb mb val) (v : Nat) (y : Int)
    (hv : w.heap[v]? = some (.cells (enc y) tV (0, 0))) (hvO : O v) :
    ∃ nb2 mb2 val2, TrieN tV enc (w.setCell ⟨b, offR ro p, none⟩ (.pointer (some ⟨v, 0, none⟩))) O root ro (S ++ [(p, y)]) nb2 mb2 val2 := by
  have hat := h.at_
  rw [List.take_length] at hat
  have hg := h.gt.give hat hv hvO
  have hpn : nb p = none := by
    cases hb : nb p with
    | none => rfl
    | some c =>
      exfalso
      have h1 : p.take (i + 1) <+: p := List.take_prefix _ _
      obtain ⟨t, ht⟩ := h1
      have := h.over _ h.not t
      rw [ht, hb] at this; cases this
  have hvn : valO S p = none := by
    have := h0.vals p
    rw [(h0.gt.lone p hpn).2] at this
    exact this.symm
  refine ⟨nb', mb', (fun q => if q = p then some (v, y) else val q), hg.mono (by rw [sizeS_put]; omega), fun q => ?_, fun q => ?_, h.live⟩
  · rw [h.dom q, h0.dom q, preB_put]
    rw [Bool.or_eq_true, List.isPrefixOf_iff_prefix]
    constructor
    · rintro ((h1 | h1) | ⟨h1, _⟩)
      · exact .inl h1
      · exact .inr (.inl h1)
      · exact .inr (.inr h1)
    · rintro (h1 | h1 | h1)
      · exact .inl (.inl h1)
      · exact .inl (.inr h1)
      · exact .inr ⟨h1, h1.length_le⟩
  · rw [valO_put y hvn]
    by_cases e : q = p
    · simp only [if_pos e]; rfl
    · simp only [if_neg e]; exact h0.vals q
end
/-- the new node of a path: its world, where the last node has no map yet -/
theorem PathN.put_none {tT tV : TypeId} {enc : Int → Array Value} {w : World} {O : Nat → Prop} {root ro : Nat} {S : TrieS} {nb nb' mb' : List Int → Option Nat} {val : List Int → Option (Nat × Int)} {p : List Int} {i l b : Nat}
    (h : PathN tV enc w O root ro S nb val p i l b nb' mb') (hl : l < p.length) {k : Int} (hkk : gl p l = k) (hk : inKey k) (hm : mb' (p.take l) = none) {t e : TypeId} (ht : Try.prog.underlying t = some (.map 3 e)) (hO : ∀ b, w.heap.size ≤ b → O b) (hT : tV ≠ tT) :
    ∃ w4, (Instr.mapUpdate t (.map (some w.heap.size)) (.int .i64 k) (.pointer (some ⟨w.heap.size + 1, 0, none⟩))).run Try.prog (((w.setCell ⟨b, offR ro (p.take l) + 1, none⟩ (.map (some w.heap.size))).alloc (.map #[] 0)).alloc (.cells #[.pointer none, .map none] tT)) = .ok () w4 ∧
      (∃ nb2 mb2, PathN tV enc w4 O root ro S nb val p i (l + 1) (w.heap.size + 1) nb2 mb2) ∧ (Touch (withR O root) w w4 ∧ RestSame w w4 root ro) ∧ ∀ q, q < w.heap.size → q ≠ b → w4.heap[q]? = w.heap[q]? := by
  have hnd := h.gt.node _ _ h.at_
  have hb := hnd.lt
  have hOb : withR O root b ∧ (b ≠ root ∨ offR ro (p.take l) = ro) := by
    by_cases e : p.take l = []
    · have h1 := h.at_
      rw [e, h.gt.root] at h1
      cases h1
      exact ⟨.inr rfl, .inr (by rw [e]; rfl)⟩
    · refine ⟨.inl (h.gt.own_n _ _ h.at_ e), .inl fun e2 => e ?_⟩
      subst e2
      exact h.gt.injn _ _ _ h.at_ h.gt.root
  have hgl : p[l] = k := by rw [← hkk]; unfold gl; rw [List.getD_eq_getElem?_getD, List.getElem?_eq_getElem hl]; rfl
  have hr1 : RestSame w (w.setCell ⟨b, offR ro (p.take l) + 1, none⟩ (.map (some w.heap.size))) root ro := RestSame.setCell _ (hOb.2.imp id (fun e => .inr (by rw [e])))
  have hb1 := hnd.setm (.map (some w.heap.size))
  have ht1 : Touch (withR O root) w (w.setCell ⟨b, offR ro (p.take l) + 1, none⟩ (.map (some w.heap.size))) := Touch.setCell _ w hOb.1 _
  have hs1 : (w.setCell ⟨b, offR ro (p.take l) + 1, none⟩ (.map (some w.heap.size))).heap.size = w.heap.size := by simp [World.setCell]
  have ho1 : ∀ q, q ≠ b → (w.setCell ⟨b, offR ro (p.take l) + 1, none⟩ (.map (some w.heap.size))).heap[q]? = w.heap[q]? := fun q hq => Below.heap_setCell _ _ _ _ hq
  generalize w.setCell ⟨b, offR ro (p.take l) + 1, none⟩ (.map (some w.heap.size)) = W1 at *
  have hkm := KMap.made W1
  rw [hs1] at hkm
  have ho2 : ∀ q, q < w.heap.size → (W1.alloc (.map #[] 0)).heap[q]? = W1.heap[q]? := fun q hq => Below.heap_alloc _ _ _ (by omega)
  have ht2 : Touch (withR O root) W1 (W1.alloc (.map #[] 0)) := Touch.alloc _ W1 _
  have hs2 : (W1.alloc (.map #[] 0)).heap.size = w.heap.size + 1 := by simp [hs1]
  generalize W1.alloc (.map #[] 0) = W2 at hkm ho2 ht2 hs2 ⊢
  have hkm3 := hkm.kept (Below.heap_alloc W2 (.cells #[.pointer none, .map none] tT) w.heap.size (by omega))
  have hcn3 := one_new W2 (.cells #[.pointer none, .map none] tT)
  rw [hs2] at hcn3
  have ht3 := Touch.alloc (withR O root) W2 (.cells #[.pointer none, .map none] tT)
  have ho3 : ∀ q, q < w.heap.size + 1 → (W2.alloc (.cells #[.pointer none, .map none] tT)).heap[q]? = W2.heap[q]? := fun q hq => Below.heap_alloc _ _ _ (by omega)
  have hs3 : (W2.alloc (.cells #[.pointer none, .map none] tT)).heap.size = w.heap.size + 2 := by simp [hs2]
  generalize W2.alloc (.cells #[.pointer none, .map none] tT) = W3 at *
  obtain ⟨w4, hrun, hkm4, hg⟩ := hkm3.store ht (by unfold maxLen; omega) hk (w.heap.size + 1)
  have hold1 : ∀ q, q < w.heap.size → w4.heap[q]? = W1.heap[q]? := fun q hq => by
    rw [hg.block q (by omega) (fun e => by injection e with e; omega), ho3 q (by omega), ho2 q hq]
  have hold : ∀ q, q < w.heap.size → q ≠ b → w4.heap[q]? = w.heap[q]? := fun q hq hqb => by
    rw [hold1 q hq, ho1 q hqb]
  have htt : Touch (withR O root) w w4 := by
    refine ((ht1.trans ht2 ?_).trans ht3 ?_).trans (Touch.grown (O := withR O root) hg (fun q hq => ?_)) ?_
    · intro x hx; exact .inl hx
    · intro x hx; exact .inl hx
    · injection hq with hq; subst hq; exact .inl (hO _ (Nat.le_refl _))
    · intro x hx; exact .inl hx
  have hrl : root < w.heap.size := h.gt.lt h.gt.root
  have hrr : RestSame w w4 root ro := hr1.trans (RestSame.of fun _ => hold1 _ hrl)
  refine ⟨w4, hrun, ?_, ⟨htt, hrr⟩, hold⟩
  obtain ⟨nb2, mb2, hp2, _⟩ := h.step hl (w' := w4) (O' := O) (c := w.heap.size + 1) (m := w.heap.size) (by rw [hgl]; exact hk) (fun _ h => h) (hO _ (by omega)) (hO _ (Nat.le_refl _)) (by omega)
    (NodeAt.of (by rw [hg.block _ (by omega) (fun e => by injection e with e; omega)]; exact hcn3) hT) (.inr ⟨hm, Nat.le_refl _⟩)
    (hb1.kept (hold1 b hb))
    (by
      rw [hgl]
      refine (hkm4.mono (by omega)).same fun y => ?_
      by_cases e : y = k
      · rw [if_pos e, if_pos e]
      · rw [if_neg e, if_neg e, h.gt.knil _ hm y])
    (fun q hq hqb _ => hold q hq hqb)
  exact ⟨nb2, mb2, hp2⟩
/-- the same where the last node has a map -/
theorem PathN.put_some {tT tV : TypeId} {enc : Int → Array Value} {w : World} {O : Nat → Prop} {root ro : Nat} {S : TrieS} {nb nb' mb' : List Int → Option Nat} {val : List Int → Option (Nat × Int)} {p : List Int} {i l b m : Nat}
    (h : PathN tV enc w O root ro S nb val p i l b nb' mb') (hl : l < p.length) {k : Int} (hkk : gl p l = k) (hk : inKey k) (hm : mb' (p.take l) = some m) {t e : TypeId} (ht : Try.prog.underlying t = some (.map 3 e)) (hO : ∀ b, w.heap.size ≤ b → O b) (hT : tV ≠ tT) (hn : sizeS S + (l - i) < maxLen) :
    ∃ w4, (Instr.mapUpdate t (.map (some m)) (.int .i64 k) (.pointer (some ⟨w.heap.size, 0, none⟩))).run Try.prog (w.alloc (.cells #[.pointer none, .map none] tT)) = .ok () w4 ∧
      (∃ nb2 mb2, PathN tV enc w4 O root ro S nb val p i (l + 1) w.heap.size nb2 mb2) ∧ (Touch (withR O root) w w4 ∧ RestSame w w4 root ro) ∧ ∀ q, q < w.heap.size → q ≠ m → w4.heap[q]? = w.heap[q]? := by
  have hnd := h.gt.node _ _ h.at_
  have hb := hnd.lt
  have hml := h.gt.map_lt hm
  have hbm := h.gt.node_map h.at_ hm
  have hgl : p[l] = k := by rw [← hkk]; unfold gl; rw [List.getD_eq_getElem?_getD, List.getElem?_eq_getElem hl]; rfl
  have hkm := (h.gt.kmap _ _ hm).kept (Below.heap_alloc w (.cells #[.pointer none, .map none] tT) m hml)
  have hcn := one_new w (.cells #[.pointer none, .map none] tT)
  have ht1 := Touch.alloc (withR O root) w (.cells #[.pointer none, .map none] tT)
  have ho1 : ∀ q, q < w.heap.size → (w.alloc (.cells #[.pointer none, .map none] tT)).heap[q]? = w.heap[q]? := fun q hq => Below.heap_alloc _ _ _ hq
  have hs1 : (w.alloc (.cells #[.pointer none, .map none] tT)).heap.size = w.heap.size + 1 := by simp
  generalize w.alloc (.cells #[.pointer none, .map none] tT) = W1 at *
  obtain ⟨w4, hrun, hkm4, hg⟩ := hkm.store ht hn hk w.heap.size
  have hold : ∀ q, q < w.heap.size → q ≠ m → w4.heap[q]? = w.heap[q]? := fun q hq hqb => by
    rw [hg.block q (by omega) (fun e => by injection e with e; omega), ho1 q hq]
  have htt : Touch (withR O root) w w4 := ht1.trans (Touch.grown (O := withR O root) hg (fun q hq => by injection hq with hq; subst hq; exact .inl (h.gt.own_m _ _ hm))) (fun x hx => .inl hx)
  have hrl : root < w.heap.size := h.gt.lt h.gt.root
  refine ⟨w4, hrun, ?_, ⟨htt, RestSame.of fun _ => hold root hrl (h.gt.node_map h.gt.root hm)⟩, hold⟩
  obtain ⟨nb2, mb2, hp2, _⟩ := h.step hl (w' := w4) (O' := O) (c := w.heap.size) (m := m) (by rw [hgl]; exact hk) (fun _ h => h) (hO _ (Nat.le_refl _)) (h.gt.own_m _ _ hm) (Nat.le_refl _)
    (NodeAt.of (by rw [hg.block _ (by omega) (fun e => by injection e with e; omega)]; exact hcn) hT) (.inl hm)
    ((by have h5 := hnd.kept (hold b hb hbm); rw [hm] at h5; exact h5))
    (by rw [hgl]; exact hkm4)
    (fun q hq _ hqm => hold q hq (fun e => hqm (by rw [hm, e])))
  exact ⟨nb2, mb2, hp2⟩
end Go.Proofs.Ytampjndfhpjheaa
