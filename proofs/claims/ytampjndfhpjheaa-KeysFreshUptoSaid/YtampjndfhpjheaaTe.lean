/- Maps from keys to blocks, and the trie of the program in memory. No walk. -/
import Derived.Test.YtampjndfhpjheaaTd
import Derived.Maps.OwnSet
namespace Go.Proofs.Ytampjndfhpjheaa
open Go.RowKit
/-- only blocks of O have turned -/
structure Touch (O : Nat → Prop) (w w' : World) : Prop where
  os : w'.os = w.os
  tape : w'.tape = w.tape
  output : w'.output = w.output
  size : w.heap.size ≤ w'.heap.size
  block : ∀ k, k < w.heap.size → ¬ O k → w'.heap[k]? = w.heap[k]?
theorem Touch.refl (O : Nat → Prop) (w : World) : Touch O w w := ⟨rfl, rfl, rfl, Nat.le_refl _, fun _ _ _ => rfl⟩
theorem Touch.of {O : Nat → Prop} {w w' : World} (h : Below w.heap.size w w') : Touch O w w' := ⟨h.os, h.tape, h.output, h.size, fun k hk _ => h.block k hk⟩
theorem Touch.trans {O O' : Nat → Prop} {a b c : World} (h : Touch O a b) (k : Touch O' b c) (hO : ∀ x, O' x → O x ∨ a.heap.size ≤ x) : Touch O a c :=
  ⟨k.os.trans h.os, k.tape.trans h.tape, k.output.trans h.output, Nat.le_trans h.size k.size, fun x hx hn => (k.block x (Nat.lt_of_lt_of_le hx h.size) (fun e => (hO x e).elim hn (fun h => by omega))).trans (h.block x hx hn)⟩
theorem Touch.below {O : Nat → Prop} {w w' : World} {B : Nat} (h : Touch O w w') (hO : ∀ b, O b → B ≤ b) (hB : B ≤ w.heap.size) : Below B w w' :=
  ⟨h.os, h.tape, h.output, h.size, fun k hk => h.block k (by omega) (fun e => by have := hO k e; omega)⟩
theorem Touch.wide {O O' : Nat → Prop} {w w' : World} (h : Touch O w w') (hO : ∀ b, b < w.heap.size → O b → O' b) : Touch O' w w' := ⟨h.os, h.tape, h.output, h.size, fun k hk hn => h.block k hk (fun e => hn (hO k hk e))⟩
theorem Touch.grown {O : Nat → Prop} {w w' : World} {row : Option Nat} (h : w.grownBy w' row) (hO : ∀ b, row = some b → O b) : Touch O w w' :=
  ⟨h.os, h.tape, h.output, h.size, fun k hk hn => h.block k hk (fun e => hn (hO k e.symm))⟩
theorem Touch.setCell (O : Nat → Prop) (w : World) {p : Addr} (hp : O p.block) (u : Value) : Touch O w (w.setCell p u) :=
  ⟨rfl, rfl, rfl, by simp [World.setCell], fun k hk hn => Below.heap_setCell _ _ _ _ (fun e => hn (e ▸ hp))⟩
theorem Touch.alloc (O : Nat → Prop) (w : World) (o : Obj) : Touch O w (w.alloc o) := Touch.of ((Below.refl _ _).alloc (Nat.le_refl _) o)
/-- the blocks of a call: those of O and the new ones -/
def wider (O : Nat → Prop) (n : Nat) (b : Nat) : Prop := O b ∨ n ≤ b
def ptrO (o : Option Nat) : Value := .pointer (o.map fun b => ⟨b, 0, none⟩)
def ptrD (o : Option Nat) : DataW Unit := .lit (.int .i64 (match o with | none => -1 | some b => (b : Int)))
def ptrElem (v : Value) : Option (DataW Unit × List MemPlace) :=
  match v with
  | .pointer none => some (ptrD none, [])
  | .pointer (some a) => if a.off = 0 ∧ a.spot = none then some (ptrD (some a.block), []) else none
  | _ => none
theorem ptrElem_mk (o : Option Nat) : ptrElem (ptrO o) = some (ptrD o, []) := by
  cases o <;> simp [ptrO, ptrElem]
theorem ptrD_inj {o o' : Option Nat} (h : ptrD o = ptrD o') : o = o' := by
  unfold ptrD at h
  injection h with h
  injection h with _ h
  cases o <;> cases o' <;> simp at h <;> first | rfl | (exfalso; omega) | (congr 1; omega)
theorem ptrElem_inv {v : Value} {o : Option Nat} {ps : List MemPlace} (h : ptrElem v = some (ptrD o, ps)) : v = ptrO o := by
  unfold ptrElem at h
  split at h
  · injection h with h
    have := ptrD_inj (o := none) (o' := o) (congrArg Prod.fst h)
    subst this; rfl
  · split at h
    · rename_i a h1
      injection h with h
      have := ptrD_inj (o := some a.block) (o' := o) (congrArg Prod.fst h)
      subst this
      obtain ⟨b, o, s⟩ := a
      simp only at h1
      obtain ⟨rfl, rfl⟩ := h1
      rfl
    · cases h
  · cases h
def inKey (k : Int) : Prop := (Lit.int .i64 k).wf = true
theorem key_lit {k : Int} : WideAt.IsKeyLit (.int .i64 k) := by simp [WideAt.IsKeyLit]
/-- block m is a map: what lies at key k is f k -/
def KMap (w : World) (m n : Nat) (f : Int → Option Nat) : Prop := ∃ D : DataW Unit, w.ownsMap Try.prog 3 ptrElem m n D ∧ ∀ k, inKey k → D.atKey (.int .i64 k) (ptrD none) = ptrD (f k)
theorem KMap.lt {w : World} {m n : Nat} {f : Int → Option Nat} (h : KMap w m n f) : m < w.heap.size := by obtain ⟨D, h1, _⟩ := h; exact h1.lt
theorem KMap.isMap {w : World} {m n : Nat} {f : Int → Option Nat} (h : KMap w m n f) : ∃ es clock, w.heap[m]? = some (.map es clock) := by obtain ⟨D, ⟨es, clock, h1, _⟩, _⟩ := h; exact ⟨es, clock, h1⟩
theorem KMap.mono {w : World} {m n n' : Nat} {f : Int → Option Nat} (h : KMap w m n f) (hn : n ≤ n') : KMap w m n' f := by obtain ⟨D, h1, h2⟩ := h; exact ⟨D, h1.mono hn, h2⟩
theorem KMap.same {w : World} {m n : Nat} {f g : Int → Option Nat} (h : KMap w m n f) (e : ∀ k, f k = g k) : KMap w m n g := by obtain ⟨D, h1, h2⟩ := h; exact ⟨D, h1, fun k hk => by rw [← e k]; exact h2 k hk⟩
theorem KMap.kept {w w' : World} {m n : Nat} {f : Int → Option Nat} (h : KMap w m n f) (e : w'.heap[m]? = w.heap[m]?) : KMap w' m n f := by
  obtain ⟨D, ⟨es, clock, h1, h2, h3, h4⟩, h5⟩ := h
  exact ⟨D, ⟨es, clock, e.trans h1, h2, h3, h4⟩, h5⟩
theorem KMap.made (w : World) : KMap (w.alloc (.map #[] 0)) w.heap.size 0 (fun _ => none) := ⟨_, World.ownsMap_made w _ _ _, fun _ _ => rfl⟩
theorem key_law : Maps.Keyed Try.prog 3 := Maps.int_keyed Try.underlying3
theorem key_of {k : Int} (h : inKey k) : keyOf Try.prog 3 (.int .i64 k) = some (.int .i64 k) := Maps.keyOf_int_mk Try.underlying3 h
theorem KMap.lookup {w : World} {m n : Nat} {f : Int → Option Nat} (h : KMap w m n f) {t e : TypeId} (ht : Try.prog.underlying t = some (.map 3 e)) (hz : (zeroValue e).run Try.prog w = .ok (.pointer none) w) {k : Int} (hk : inKey k) :
    (Instr.lookup t (.map (some m)) (.int .i64 k) false).run Try.prog w = .ok (ptrO (f k)) w := by
  obtain ⟨D, h1, h2⟩ := h
  obtain ⟨v, ps, hrun, hv⟩ := h1.lookup key_law ht hz (zd := ptrD none) (zp := []) (ptrElem_mk none) (key_of hk)
  rw [h2 k hk] at hv
  rw [hrun, ptrElem_inv hv]
theorem KMap.len {w : World} {m n : Nat} {f : Int → Option Nat} (h : KMap w m n f) {t e : TypeId} (ht : Try.prog.underlying t = some (.map 3 e)) : ∃ s : Nat, (∀ ty, (Builtin.len_ #[t] ty #[.map (some m)]).run Try.prog w = .ok (.int .i64 s) w) ∧ (∀ k b, inKey k → f k = some b → 0 < s) := by
  obtain ⟨D, h1, h2⟩ := h
  refine ⟨Maps.size D, fun ty => h1.len ht ty, fun k b hk hb => ?_⟩
  have h3 := h2 k hk
  rw [hb] at h3
  obtain ⟨es, rfl⟩ := h1.isMap
  cases es with
  | nil =>
    exfalso
    have : ptrD none = ptrD (some b) := h3
    cases ptrD_inj this
  | cons a l => simp [Maps.size]
theorem KMap.store {w : World} {m n : Nat} {f : Int → Option Nat} (h : KMap w m n f) {t e : TypeId} (ht : Try.prog.underlying t = some (.map 3 e)) (hn : n < maxLen) {k : Int} (hk : inKey k) (c : Nat) :
    ∃ w', (Instr.mapUpdate t (.map (some m)) (.int .i64 k) (.pointer (some ⟨c, 0, none⟩))).run Try.prog w = .ok () w' ∧ KMap w' m (n + 1) (fun x => if x = k then some c else f x) ∧ w.grownBy w' (some m) := by
  obtain ⟨D, h1, h2⟩ := h
  obtain ⟨w', r1, r2, r3⟩ := h1.update key_law ht hn (key_of hk) (ptrElem_mk (some c))
  refine ⟨w', r1, ⟨_, r2, fun x hx => ?_⟩, r3⟩
  by_cases e : x = k
  · subst e
    show _ = ptrD (if x = x then some c else f x)
    rw [if_pos rfl]
    exact Maps.atKey_put_same h1.isMap key_lit _ _
  · show _ = ptrD (if x = k then some c else f x)
    rw [if_neg e, Maps.atKey_put_other (fun h => e (by injection h)), h2 x hx]
/-- a trie in memory: nb: the node of a row of keys, mb: its map, val: its value -/
structure GT {V : Type} (tT tV : TypeId) (enc : V → Array Value) (w : World) (O : Nat → Prop) (root n : Nat) (nb mb : List Int → Option Nat) (val : List Int → Option (Nat × V)) : Prop where
  root : nb [] = some root
  own_n : ∀ p b, nb p = some b → O b
  own_m : ∀ p b, mb p = some b → O b
  own_v : ∀ p x, val p = some x → O x.1
  node : ∀ p b, nb p = some b → w.heap[b]? = some (.cells #[ptrO ((val p).map (·.1)), .map (mb p)] tT (0, 0))
  kmap : ∀ p m, mb p = some m → KMap w m n (fun k => nb (p ++ [k]))
  knil : ∀ p, mb p = none → ∀ k, nb (p ++ [k]) = none
  value : ∀ p x, val p = some x → w.heap[x.1]? = some (.cells (enc x.2) tV (0, 0))
  injn : ∀ p q b, nb p = some b → nb q = some b → p = q
  injm : ∀ p q b, mb p = some b → mb q = some b → p = q
  lone : ∀ p, nb p = none → mb p = none ∧ val p = none
  keys : ∀ p k b, nb (p ++ [k]) = some b → inKey k
section
variable {V : Type} {tT tV : TypeId} {enc : V → Array Value} {w w' : World} {O O' : Nat → Prop} {root n : Nat} {nb mb : List Int → Option Nat} {val : List Int → Option (Nat × V)}
theorem GT.kept (h : GT tT tV enc w O root n nb mb val) (e : ∀ b, b < w.heap.size → O b → w'.heap[b]? = w.heap[b]?) : GT tT tV enc w' O root n nb mb val :=
  { h with
    node := fun p b hb => (e b (heap_lt (h.node p b hb)) (h.own_n p b hb)).trans (h.node p b hb)
    kmap := fun p m hm => (h.kmap p m hm).kept (e m (h.kmap p m hm).lt (h.own_m p m hm))
    value := fun p x hx => (e x.1 (heap_lt (h.value p x hx)) (h.own_v p x hx)).trans (h.value p x hx) }
theorem GT.later (h : GT tT tV enc w O root n nb mb val) (hb : Below w.heap.size w w') : GT tT tV enc w' O root n nb mb val := h.kept (fun b hl _ => hb.block b hl)
theorem GT.wide (h : GT tT tV enc w O root n nb mb val) (hO : ∀ b, O b → O' b) : GT tT tV enc w O' root n nb mb val :=
  { h with
    own_n := fun p b hb => hO b (h.own_n p b hb)
    own_m := fun p b hb => hO b (h.own_m p b hb)
    own_v := fun p b hb => hO b.1 (h.own_v p b hb) }
theorem GT.up (h : GT tT tV enc w O root n nb mb val) {p : List Int} {k : Int} (hp : nb p = none) : nb (p ++ [k]) = none := h.knil p (h.lone p hp).1 k
theorem GT.up_any (h : GT tT tV enc w O root n nb mb val) {p : List Int} (hp : nb p = none) (t : List Int) : nb (p ++ t) = none := by
  induction t generalizing p with
  | nil => simpa using hp
  | cons k t ih =>
    have := ih (h.up (k := k) hp)
    simpa using this
theorem snoc_inj {p q : List Int} {k l : Int} (h : p ++ [k] = q ++ [l]) : p = q ∧ k = l := by
  have := List.append_inj' h rfl
  exact ⟨this.1, by simpa using this.2⟩
theorem ne_snoc (p : List Int) (k : Int) : p ≠ p ++ [k] := by
  intro h
  have := congrArg List.length h
  simp at this
theorem GT.node_lt (h : GT tT tV enc w O root n nb mb val) {p : List Int} {b : Nat} (hb : nb p = some b) : b < w.heap.size := heap_lt (h.node p b hb)
theorem GT.map_lt (h : GT tT tV enc w O root n nb mb val) {p : List Int} {b : Nat} (hb : mb p = some b) : b < w.heap.size := (h.kmap p b hb).lt
theorem GT.val_lt (h : GT tT tV enc w O root n nb mb val) {p : List Int} {x : Nat × V} (hb : val p = some x) : x.1 < w.heap.size := heap_lt (h.value p x hb)
theorem GT.node_map (h : GT tT tV enc w O root n nb mb val) {p q : List Int} {b m : Nat} (hb : nb p = some b) (hm : mb q = some m) : b ≠ m := by
  intro e
  subst e
  obtain ⟨es, cl, h2⟩ := (h.kmap q b hm).isMap
  rw [h.node p b hb] at h2; cases h2
theorem GT.node_val (h : GT tT tV enc w O root n nb mb val) (hT : tV ≠ tT) {p q : List Int} {b : Nat} {x : Nat × V} (hb : nb p = some b) (hx : val q = some x) : x.1 ≠ b := by
  intro e
  have h2 := h.value q x hx
  rw [e, h.node p b hb] at h2
  injection h2 with h2
  injection h2 with _ h2
  exact hT h2.symm
theorem GT.val_map (h : GT tT tV enc w O root n nb mb val) {p q : List Int} {m : Nat} {x : Nat × V} (hm : mb p = some m) (hx : val q = some x) : x.1 ≠ m := by
  intro e
  obtain ⟨es, cl, h2⟩ := (h.kmap p m hm).isMap
  rw [← e, h.value q x hx] at h2; cases h2
/-- a node more: behind p by the key k -/
theorem GT.grow (h : GT tT tV enc w O root n nb mb val) {p : List Int} {k : Int} {b c m : Nat} (hp : nb p = some b) (hk : inKey k) (hn : nb (p ++ [k]) = none)
    (hO : ∀ b, O b → O' b) (hc : O' c) (hm : O' m) (hcs : w.heap.size ≤ c)
    (hcn : w'.heap[c]? = some (.cells #[.pointer none, .map none] tT (0, 0)))
    (hmm : mb p = some m ∨ mb p = none ∧ w.heap.size ≤ m)
    (hbn : w'.heap[b]? = some (.cells #[ptrO ((val p).map (·.1)), .map (some m)] tT (0, 0)))
    (hkm : KMap w' m (n + 1) (fun x => if x = k then some c else nb (p ++ [x])))
    (he : ∀ q, q < w.heap.size → q ≠ b → mb p ≠ some q → w'.heap[q]? = w.heap[q]?) (hT : tV ≠ tT) :
    GT tT tV enc w' O' root (n + 1) (fun q => if q = p ++ [k] then some c else nb q) (fun q => if q = p then some m else mb q) val := by
  have hpne : p ≠ p ++ [k] := ne_snoc p k
  have hnil : ([] : List Int) ≠ p ++ [k] := by intro e; have := congrArg List.length e; simp at this
  refine ⟨?_, ?_, ?_, ?_, ?_, ?_, ?_, ?_, ?_, ?_, ?_, ?_⟩
  · show (if _ then _ else _) = _; rw [if_neg hnil]; exact h.root
  · intro q x hx
    try simp only at hx
    split at hx
    · injection hx with hx; subst hx; exact hc
    · exact hO _ (h.own_n q x hx)
  · intro q x hx
    try simp only at hx
    split at hx
    · injection hx with hx; subst hx; exact hm
    · exact hO _ (h.own_m q x hx)
  · intro q x hx; exact hO _ (h.own_v q x hx)
  · intro q x hx
    try simp only at hx ⊢
    split at hx
    · rename_i e
      injection hx with hx
      subst hx e
      rw [if_neg (fun e => hpne e.symm), (h.lone _ hn).1, (h.lone _ hn).2]
      exact hcn
    · by_cases e : q = p
      · subst e
        rw [hp] at hx
        injection hx with hx
        subst hx
        rw [if_pos rfl]; exact hbn
      · rw [if_neg e, he x (h.node_lt hx) (fun e2 => e (h.injn q p b (e2 ▸ hx) hp)) (fun e2 => h.node_map hx e2 rfl)]
        exact h.node q x hx
  · intro q x hx
    try simp only at hx ⊢
    by_cases e : q = p
    · subst e
      rw [if_pos rfl] at hx
      injection hx with hx
      subst hx
      refine hkm.same fun y => ?_
      by_cases e2 : y = k
      · subst e2; rw [if_pos rfl, if_pos rfl]
      · rw [if_neg e2, if_neg (fun e3 => e2 (snoc_inj e3).2)]
    · rw [if_neg e] at hx
      have h1 := ((h.kmap q x hx).mono (Nat.le_succ n)).kept (he x (h.map_lt hx) (fun e2 => h.node_map hp hx e2.symm) (fun e2 => e (h.injm q p x hx e2)))
      exact h1.same fun y => by rw [if_neg (fun e3 => e (snoc_inj e3).1)]
  · intro q hq y
    try simp only at hq ⊢
    split at hq
    · cases hq
    · rename_i e
      rw [if_neg (fun e3 => e (snoc_inj e3).1)]
      exact h.knil q hq y
  · intro q x hx
    rw [he x.1 (h.val_lt hx) (h.node_val hT hp hx) (fun e => h.val_map e hx rfl)]
    exact h.value q x hx
  · intro q r x hq hr
    try simp only at hq hr
    split at hq <;> split at hr
    · rename_i e1 e2; rw [e1, e2]
    · injection hq with hq; subst hq; have := h.node_lt hr; omega
    · injection hr with hr; subst hr; have := h.node_lt hq; omega
    · exact h.injn q r x hq hr
  · intro q r x hq hr
    try simp only at hq hr
    split at hq <;> split at hr
    · rename_i e1 e2; rw [e1, e2]
    · rename_i e1 e2
      injection hq with hq; subst hq
      rcases hmm with h1 | ⟨_, h1⟩
      · rw [e1]; exact h.injm p r m h1 hr
      · have := h.map_lt hr; omega
    · rename_i e1 e2
      injection hr with hr; subst hr
      rcases hmm with h1 | ⟨_, h1⟩
      · rw [e2]; exact h.injm q p m hq h1
      · have := h.map_lt hq; omega
    · exact h.injm q r x hq hr
  · intro q hq
    try simp only at hq ⊢
    split at hq
    · cases hq
    · have := h.lone q hq
      refine ⟨?_, this.2⟩
      rw [if_neg (fun e => by subst e; rw [hp] at hq; cases hq)]
      exact this.1
  · intro q y x hx
    try simp only at hx
    split at hx
    · rename_i e
      rw [(snoc_inj e).2]; exact hk
    · exact h.keys q y x hx
/-- the value of a node -/
theorem GT.give (h : GT tT tV enc w O root n nb mb val) {p : List Int} {b v : Nat} {x : V} (hp : nb p = some b)
    (hv : w.heap[v]? = some (.cells (enc x) tV (0, 0))) (hvO : O v) (hT : tV ≠ tT) :
    GT tT tV enc (w.setCell ⟨b, 0, none⟩ (.pointer (some ⟨v, 0, none⟩))) O root n nb mb (fun q => if q = p then some (v, x) else val q) := by
  have hoth : ∀ q, q ≠ b → (w.setCell ⟨b, 0, none⟩ (.pointer (some ⟨v, 0, none⟩))).heap[q]? = w.heap[q]? := fun q hq => Below.heap_setCell _ _ _ _ hq
  have hvb : v ≠ b := by
    intro e
    rw [e, h.node p b hp] at hv
    injection hv with hv
    injection hv with _ hv
    exact hT hv.symm
  refine { h with own_v := ?_, node := ?_, kmap := ?_, value := ?_, lone := ?_ }
  · intro q y hy
    try simp only at hy
    split at hy
    · injection hy with hy; subst hy; exact hvO
    · exact h.own_v q y hy
  · intro q y hy
    try simp only
    by_cases e : q = p
    · subst e
      rw [hp] at hy
      injection hy with hy
      subst hy
      rw [if_pos rfl]
      have := block_set (i := 0) (.pointer (some ⟨v, 0, none⟩)) (h.node q b hp)
      rw [this]
      rfl
    · rw [if_neg e, hoth y (fun e2 => e (h.injn q p b (e2 ▸ hy) hp))]
      exact h.node q y hy
  · intro q m hm
    exact (h.kmap q m hm).kept (hoth m (fun e => h.node_map hp hm e.symm))
  · intro q y hy
    try simp only at hy
    split at hy
    · injection hy with hy; subst hy
      rw [hoth v hvb]; exact hv
    · rw [hoth y.1 (h.node_val hT hp hy)]; exact h.value q y hy
  · intro q hq
    have := h.lone q hq
    refine ⟨this.1, ?_⟩
    try simp only
    rw [if_neg (fun e => by subst e; rw [hp] at hq; cases hq)]
    exact this.2
end
/-- how many keys the rows have -/
def sizeS (S : TrieS) : Nat := (S.map (fun r => r.1.length)).sum
/-- the program's trie of the rows S -/
structure Trie (tT tV : TypeId) (enc : Int → Array Value) (w : World) (O : Nat → Prop) (root : Nat) (S : TrieS) (nb mb : List Int → Option Nat) (val : List Int → Option (Nat × Int)) : Prop where
  gt : GT tT tV enc w O root (sizeS S) nb mb val
  dom : ∀ p, nb p ≠ none ↔ p = [] ∨ preB S p = true
  vals : ∀ p, (val p).map (·.2) = valO S p
  live : ∀ p m, mb p = some m → ∃ k, nb (p ++ [k]) ≠ none
section
variable {tT tV : TypeId} {enc : Int → Array Value} {w w' : World} {O O' : Nat → Prop} {root : Nat} {S : TrieS} {nb mb : List Int → Option Nat} {val : List Int → Option (Nat × Int)}
theorem Trie.kept (h : Trie tT tV enc w O root S nb mb val) (e : ∀ b, b < w.heap.size → O b → w'.heap[b]? = w.heap[b]?) : Trie tT tV enc w' O root S nb mb val := { h with gt := h.gt.kept e }
theorem Trie.later (h : Trie tT tV enc w O root S nb mb val) (hb : Below w.heap.size w w') : Trie tT tV enc w' O root S nb mb val := { h with gt := h.gt.later hb }
theorem Trie.wide (h : Trie tT tV enc w O root S nb mb val) (hO : ∀ b, O b → O' b) : Trie tT tV enc w O' root S nb mb val := { h with gt := h.gt.wide hO }
theorem valO_some {S : TrieS} {p : List Int} {v : Int} (h : valO S p = some v) : (p, v) ∈ S := by
  unfold valO at h
  cases hf : S.find? (fun r => r.1 == p) with
  | none => rw [hf] at h; cases h
  | some r =>
    rw [hf] at h
    injection h with h
    have h1 := List.mem_of_find?_eq_some hf
    have h2 := List.find?_some hf
    simp at h2
    obtain ⟨a, b⟩ := r
    simp only at h h2
    subst h h2
    exact h1
theorem valO_none {S : TrieS} {p : List Int} (h : valO S p = none) : ∀ r ∈ S, r.1 ≠ p := by
  unfold valO at h
  rw [Option.map_eq_none_iff, List.find?_eq_none] at h
  intro r hr e
  exact h r hr (by simpa using e)
theorem Trie.val_some (h : Trie tT tV enc w O root S nb mb val) {p : List Int} {x : Nat × Int} (hx : val p = some x) : (p, x.2) ∈ S := by
  have := h.vals p
  rw [hx] at this
  exact valO_some this.symm
theorem Trie.val_none (h : Trie tT tV enc w O root S nb mb val) {p : List Int} (hx : val p = none) : ∀ r ∈ S, r.1 ≠ p := by
  have := h.vals p
  rw [hx] at this
  exact valO_none this.symm
/-- what Look comes to -/
theorem Trie.look_bad (h : Trie tT tV enc w O root S nb mb val) {p : List Int} (hp : nb p = none) : lookS S p = (0, 2) := by
  refine lookS_bad ?_
  cases hb : preB S p
  · rfl
  · exact absurd hp ((h.dom p).2 (.inr hb))
theorem Trie.look_done (h : Trie tT tV enc w O root S nb mb val) (hS : TrieOk S) {p : List Int} {x : Nat × Int} (hx : val p = some x) : lookS S p = (x.2, 1) := lookS_done hS (h.val_some hx)
theorem pre_next {S : TrieS} {p : List Int} (h : preB S p = true) (hn : ∀ r ∈ S, r.1 ≠ p) : ∃ k, preB S (p ++ [k]) = true := by
  obtain ⟨r, hr, t, ht⟩ := preB_iff.1 h
  cases t with
  | nil => exact absurd (by simpa using ht.symm) (hn r hr)
  | cons k t => exact ⟨k, preB_iff.2 ⟨r, hr, t, by rw [← ht]; simp⟩⟩
theorem Trie.look_more (h : Trie tT tV enc w O root S nb mb val) {p : List Int} {m : Nat} (hx : val p = none) (hm : mb p = some m) : lookS S p = (0, 0) ∧ ∃ k b, inKey k ∧ nb (p ++ [k]) = some b := by
  obtain ⟨k, hk⟩ := h.live p m hm
  refine ⟨lookS_more ?_ (h.val_none hx), ?_⟩
  · rcases (h.dom _).1 hk with e | e
    · have := congrArg List.length e; simp at this
    · exact preB_less e (List.prefix_append _ _)
  · cases hb : nb (p ++ [k]) with
    | none => exact absurd hb hk
    | some b => exact ⟨k, b, h.gt.keys p k b hb, hb⟩
theorem Trie.look_none (h : Trie tT tV enc w O root S nb mb val) {p : List Int} (hx : val p = none) (hm : mb p = none) : lookS S p = (0, 2) := by
  refine lookS_bad ?_
  cases hb : preB S p
  · rfl
  · obtain ⟨k, hk⟩ := pre_next hb (h.val_none hx)
    exact absurd (h.gt.knil p hm k) ((h.dom _).2 (.inr hk))
theorem take_next {p : List Int} {i : Nat} (h : i < p.length) : p.take (i + 1) = p.take i ++ [p[i]] := by
  rw [List.take_add_one, List.getElem?_eq_getElem h]; rfl
theorem Trie.put_no (h : Trie tT tV enc w O root S nb mb val) {p : List Int} {i : Nat} {x : Nat × Int} (hx : val (p.take i) = some x) : putB S p = false := by
  have h1 := h.val_some hx
  unfold putB
  have : S.all (fun r => !r.1.isPrefixOf p && !p.isPrefixOf r.1) = false := by
    rw [List.all_eq_false]
    refine ⟨_, h1, ?_⟩
    simp [List.isPrefixOf_iff_prefix.2 (List.take_prefix i p)]
  rw [this, Bool.and_false]
theorem put_pre {S : TrieS} {p : List Int} (h : preB S p = true) : putB S p = false := by
  obtain ⟨r, hr, hp⟩ := preB_iff.1 h
  unfold putB
  have : S.all (fun r => !r.1.isPrefixOf p && !p.isPrefixOf r.1) = false := by
    rw [List.all_eq_false]
    exact ⟨r, hr, by simp [List.isPrefixOf_iff_prefix.2 hp]⟩
  rw [this, Bool.and_false]
theorem Trie.put_yes (h : Trie tT tV enc w O root S nb mb val) (hS : TrieOk S) {p : List Int} {i : Nat} (hi : i < p.length) (hp : preB S p = false) (hn : nb (p.take (i + 1)) = none) (hv : ∀ j, 0 < j → j ≤ i → val (p.take j) = none) : putB S p = true := by
  unfold putB
  have hne : p ≠ [] := by intro e; subst e; simp at hi
  rw [Bool.and_eq_true, List.all_eq_true]
  refine ⟨by cases p with | nil => exact absurd rfl hne | cons _ _ => rfl, fun r hr => ?_⟩
  rw [Bool.and_eq_true]
  constructor
  · cases hb : r.1.isPrefixOf p
    · rfl
    · exfalso
      have hpre := List.isPrefixOf_iff_prefix.1 hb
      have ht := List.prefix_iff_eq_take.1 hpre
      have hrn : nb r.1 ≠ none := (h.dom _).2 (.inr (preB_iff.2 ⟨r, hr, List.prefix_refl _⟩))
      have hl : r.1.length ≤ i := by
        refine Classical.byContradiction fun hlt => ?_
        have : p.take (i + 1) <+: r.1 := by
          rw [ht]
          exact List.take_prefix_take_left (by omega)
        obtain ⟨t, e⟩ := this
        exact hrn (by rw [← e]; exact h.gt.up_any hn t)
      have h0 : 0 < r.1.length := by
        rcases Nat.eq_zero_or_pos r.1.length with e | e
        · exact absurd (List.eq_nil_of_length_eq_zero e) (hS.1 r hr)
        · exact e
      have := hv r.1.length h0 hl
      rw [← ht] at this
      exact h.val_none this r hr rfl
  · cases hb : p.isPrefixOf r.1
    · rfl
    · exfalso
      rw [preB_iff.2 ⟨r, hr, List.isPrefixOf_iff_prefix.1 hb⟩] at hp; cases hp
end
end Go.Proofs.Ytampjndfhpjheaa
