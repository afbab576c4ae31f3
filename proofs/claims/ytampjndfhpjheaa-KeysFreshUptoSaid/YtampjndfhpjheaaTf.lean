/- The program's trie while a row is put: the path of new nodes. No walk. -/
import Derived.Test.YtampjndfhpjheaaTe
namespace Go.Proofs.Ytampjndfhpjheaa
open Go.RowKit
/-- i keys of p were there, l are there now; b is the last node -/
structure Path (tT tV : TypeId) (enc : Int → Array Value) (w : World) (O : Nat → Prop) (root : Nat) (S : TrieS) (nb : List Int → Option Nat) (val : List Int → Option (Nat × Int)) (p : List Int) (i l b : Nat) (nb' mb' : List Int → Option Nat) : Prop where
  gt : GT tT tV enc w O root (sizeS S + (l - i)) nb' mb' val
  dom : ∀ q, nb' q ≠ none ↔ nb q ≠ none ∨ q <+: p ∧ q.length ≤ l
  at_ : nb' (p.take l) = some b
  live : ∀ q m, mb' q = some m → ∃ k, nb' (q ++ [k]) ≠ none
  il : i ≤ l
  lp : l ≤ p.length
  not : nb (p.take (i + 1)) = none
  over : ∀ q, nb q = none → ∀ t, nb (q ++ t) = none
section
variable {tT tV : TypeId} {enc : Int → Array Value} {w w' : World} {O O' : Nat → Prop} {root : Nat} {S : TrieS} {nb mb nb' mb' : List Int → Option Nat} {val : List Int → Option (Nat × Int)} {p : List Int} {i l b : Nat}
theorem Path.start (h : Trie tT tV enc w O root S nb mb val) (hi : i < p.length) (hb : nb (p.take i) = some b) (hn : nb (p.take (i + 1)) = none) : Path tT tV enc w O root S nb val p i i b nb mb := by
  refine ⟨by rw [Nat.sub_self, Nat.add_zero]; exact h.gt, fun q => ⟨.inl, fun h1 => ?_⟩, hb, h.live, Nat.le_refl _, by omega, hn, fun q hq t => h.gt.up_any hq t⟩
  rcases h1 with h1 | ⟨h1, h2⟩
  · exact h1
  · intro hq
    have h3 : q <+: p.take i := List.prefix_take_iff.2 ⟨h1, h2⟩
    obtain ⟨t, ht⟩ := h3
    have := h.gt.up_any hq t
    rw [ht, hb] at this; cases this
theorem Path.kept (h : Path tT tV enc w O root S nb val p i l b nb' mb') (e : ∀ b, b < w.heap.size → O b → w'.heap[b]? = w.heap[b]?) : Path tT tV enc w' O root S nb val p i l b nb' mb' := { h with gt := h.gt.kept e }
theorem Path.wide (h : Path tT tV enc w O root S nb val p i l b nb' mb') (hO : ∀ b, O b → O' b) : Path tT tV enc w O' root S nb val p i l b nb' mb' := { h with gt := h.gt.wide hO }
theorem Path.free (h : Path tT tV enc w O root S nb val p i l b nb' mb') (hl : l < p.length) : nb' (p.take l ++ [p[l]]) = none := by
  cases hb : nb' (p.take l ++ [p[l]]) with
  | none => rfl
  | some c =>
    exfalso
    rcases (h.dom _).1 (by rw [hb]; simp) with h1 | ⟨_, h2⟩
    · apply h1
      rw [← take_next hl]
      have : p.take (i + 1) <+: p.take (l + 1) := List.take_prefix_take_left (by have := h.il; omega)
      obtain ⟨t, ht⟩ := this
      rw [← ht]; exact h.over _ h.not t
    · simp at h2
      omega
theorem Path.step (h : Path tT tV enc w O root S nb val p i l b nb' mb') (hl : l < p.length) {c m : Nat} (hk : inKey p[l])
    (hO : ∀ b, O b → O' b) (hc : O' c) (hm : O' m) (hcs : w.heap.size ≤ c)
    (hcn : w'.heap[c]? = some (.cells #[.pointer none, .map none] tT (0, 0)))
    (hmm : mb' (p.take l) = some m ∨ mb' (p.take l) = none ∧ w.heap.size ≤ m)
    (hbn : w'.heap[b]? = some (.cells #[ptrO ((val (p.take l)).map (·.1)), .map (some m)] tT (0, 0)))
    (hkm : KMap w' m (sizeS S + (l - i) + 1) (fun x => if x = p[l] then some c else nb' (p.take l ++ [x])))
    (he : ∀ q, q < w.heap.size → q ≠ b → mb' (p.take l) ≠ some q → w'.heap[q]? = w.heap[q]?) (hT : tV ≠ tT) :
    ∃ nb2 mb2, Path tT tV enc w' O' root S nb val p i (l + 1) c nb2 mb2 ∧ mb2 (p.take (l + 1)) = none := by
  have hg := h.gt.grow h.at_ hk (h.free hl) hO hc hm hcs hcn hmm hbn hkm he hT
  have ht := take_next hl
  refine ⟨(fun q => if q = p.take l ++ [p[l]] then some c else nb' q), (fun q => if q = p.take l then some m else mb' q), ⟨?_, fun q => ?_, ?_, fun q y hy => ?_, by have := h.il; omega, hl, h.not, h.over⟩, ?_⟩
  · have := h.il
    rw [show sizeS S + (l + 1 - i) = sizeS S + (l - i) + 1 from by omega]
    exact hg
  · try simp only
    rw [← ht]
    by_cases e : q = p.take (l + 1)
    · rw [if_pos e]
      simp only [ne_eq, reduceCtorEq, not_false_eq_true, true_iff]
      refine .inr ⟨by rw [e]; exact List.take_prefix _ _, ?_⟩
      rw [e, List.length_take]; omega
    · rw [if_neg e, h.dom q]
      constructor
      · rintro (h1 | ⟨h1, h2⟩)
        · exact .inl h1
        · exact .inr ⟨h1, by omega⟩
      · rintro (h1 | ⟨h1, h2⟩)
        · exact .inl h1
        · refine .inr ⟨h1, ?_⟩
          refine Classical.byContradiction fun h3 => e ?_
          have h4 := List.prefix_iff_eq_take.1 h1
          rw [show q.length = l + 1 from by omega] at h4
          exact h4
  · try simp only
    rw [if_pos ht]
  · try simp only at hy ⊢
    by_cases e : q = p.take l
    · subst e
      exact ⟨p[l], by rw [if_pos rfl]; simp⟩
    · rw [if_neg e] at hy
      obtain ⟨k, hk2⟩ := h.live q y hy
      refine ⟨k, ?_⟩
      split
      · simp
      · exact hk2
  · try simp only
    rw [if_neg (by rw [ht]; exact fun e => ne_snoc _ _ e.symm)]
    exact (h.gt.lone _ (by rw [ht]; exact h.free hl)).1
theorem sizeS_put (S : TrieS) (p : List Int) (v : Int) : sizeS (S ++ [(p, v)]) = sizeS S + p.length := by simp [sizeS]
theorem GT.mono {V : Type} {enc : V → Array Value} {val : List Int → Option (Nat × V)} {n n' : Nat} (h : GT tT tV enc w O root n nb mb val) (hn : n ≤ n') : GT tT tV enc w O root n' nb mb val :=
  { h with kmap := fun p m hm => (h.kmap p m hm).mono hn }
theorem valO_put {S : TrieS} {p q : List Int} (v : Int) (h : valO S p = none) : valO (S ++ [(p, v)]) q = if q = p then some v else valO S q := by
  unfold valO at *
  rw [List.find?_append]
  cases hf : S.find? (fun r => r.1 == q) with
  | some r =>
    by_cases e : q = p
    · subst e; rw [hf] at h; cases h
    · rw [if_neg e]; rfl
  | none =>
    by_cases e : q = p
    · subst e; simp
    · rw [if_neg e]
      have : (p == q) = false := by rw [beq_eq_false_iff_ne]; exact fun e2 => e e2.symm
      simp [this]
theorem Path.done (h : Path tT tV enc w O root S nb val p i p.length b nb' mb') (h0 : Trie tT tV enc w' O' root S nb mb val) (v : Nat) (y : Int)
    (hv : w.heap[v]? = some (.cells (enc y) tV (0, 0))) (hvO : O v) (hT : tV ≠ tT) :
    ∃ nb2 mb2 val2, Trie tT tV enc (w.setCell ⟨b, 0, none⟩ (.pointer (some ⟨v, 0, none⟩))) O root (S ++ [(p, y)]) nb2 mb2 val2 := by
  have hat := h.at_
  rw [List.take_length] at hat
  have hg := h.gt.give hat hv hvO hT
  have hpn : nb p = none := by
    cases hb : nb p with
    | none => rfl
    | some c =>
      exfalso
      have h1 : p.take (i + 1) <+: p := List.take_prefix _ _
      obtain ⟨t, ht⟩ := h1
      have := h.over _ h.not t
      rw [ht, hb] at this; cases this
  have hvn : valO S p = none := by
    have := h0.vals p
    rw [(h0.gt.lone p hpn).2] at this
    exact this.symm
  refine ⟨nb', mb', (fun q => if q = p then some (v, y) else val q), hg.mono (by rw [sizeS_put]; omega), fun q => ?_, fun q => ?_, h.live⟩
  · rw [h.dom q, h0.dom q, preB_put]
    rw [Bool.or_eq_true, List.isPrefixOf_iff_prefix]
    constructor
    · rintro ((h1 | h1) | ⟨h1, _⟩)
      · exact .inl h1
      · exact .inr (.inl h1)
      · exact .inr (.inr h1)
    · rintro (h1 | h1 | h1)
      · exact .inl (.inl h1)
      · exact .inl (.inr h1)
      · exact .inr ⟨h1, h1.length_le⟩
  · rw [valO_put y hvn]
    by_cases e : q = p
    · simp only [if_pos e]; rfl
    · simp only [if_neg e]; exact h0.vals q
end
/-- the new node of a path: its world, where the last node has no map yet -/
theorem Path.put_none {tT tV : TypeId} {enc : Int → Array Value} {w : World} {O : Nat → Prop} {root : Nat} {S : TrieS} {nb nb' mb' : List Int → Option Nat} {val : List Int → Option (Nat × Int)} {p : List Int} {i l b : Nat}
    (h : Path tT tV enc w O root S nb val p i l b nb' mb') (hl : l < p.length) {k : Int} (hkk : gl p l = k) (hk : inKey k) (hm : mb' (p.take l) = none) {t e : TypeId} (ht : Try.prog.underlying t = some (.map 3 e)) (hO : ∀ b, w.heap.size ≤ b → O b) (hT : tV ≠ tT) :
    ∃ w4, (Instr.mapUpdate t (.map (some w.heap.size)) (.int .i64 k) (.pointer (some ⟨w.heap.size + 1, 0, none⟩))).run Try.prog (((w.setCell ⟨b, 1, none⟩ (.map (some w.heap.size))).alloc (.map #[] 0)).alloc (.cells #[.pointer none, .map none] tT)) = .ok () w4 ∧
      (∃ nb2 mb2, Path tT tV enc w4 O root S nb val p i (l + 1) (w.heap.size + 1) nb2 mb2) ∧ Touch O w w4 ∧ ∀ q, q < w.heap.size → q ≠ b → w4.heap[q]? = w.heap[q]? := by
  have hnd := h.gt.node _ _ h.at_
  have hb := heap_lt hnd
  have hOb := h.gt.own_n _ _ h.at_
  have hgl : p[l] = k := by rw [← hkk]; unfold gl; rw [List.getD_eq_getElem?_getD, List.getElem?_eq_getElem hl]; rfl
  generalize hW1 : w.setCell ⟨b, 1, none⟩ (.map (some w.heap.size)) = W1
  have hs1 : W1.heap.size = w.heap.size := by rw [← hW1]; simp [World.setCell]
  have hb1 : W1.heap[b]? = some (.cells #[ptrO ((val (p.take l)).map (·.1)), .map (some w.heap.size)] tT (0, 0)) := by
    rw [← hW1, block_set _ hnd]; rfl
  have ho1 : ∀ q, q ≠ b → W1.heap[q]? = w.heap[q]? := fun q hq => by rw [← hW1]; exact Below.heap_setCell _ _ _ _ hq
  have ht1 : Touch O w W1 := by rw [← hW1]; exact Touch.setCell O w hOb _
  have hkm := KMap.made W1
  rw [hs1] at hkm
  generalize hW2 : W1.alloc (.map #[] 0) = W2 at hkm ⊢
  have hs2 : W2.heap.size = w.heap.size + 1 := by rw [← hW2]; simp [hs1]
  have ho2 : ∀ q, q < w.heap.size → W2.heap[q]? = W1.heap[q]? := fun q hq => by rw [← hW2]; exact Below.heap_alloc _ _ _ (by omega)
  have ht2 : Touch O W1 W2 := by rw [← hW2]; exact Touch.alloc O W1 _
  have hkm3 := hkm.kept (Below.heap_alloc W2 (.cells #[.pointer none, .map none] tT) w.heap.size (by omega))
  have hcn3 := one_new W2 (.cells #[.pointer none, .map none] tT)
  rw [hs2] at hcn3
  have ht3 := Touch.alloc O W2 (.cells #[.pointer none, .map none] tT)
  have ho3 : ∀ q, q < w.heap.size + 1 → (W2.alloc (.cells #[.pointer none, .map none] tT)).heap[q]? = W2.heap[q]? := fun q hq => Below.heap_alloc _ _ _ (by omega)
  have hs3 : (W2.alloc (.cells #[.pointer none, .map none] tT)).heap.size = w.heap.size + 2 := by simp [hs2]
  generalize W2.alloc (.cells #[.pointer none, .map none] tT) = W3 at *
  obtain ⟨w4, hrun, hkm4, hg⟩ := hkm3.store ht (by unfold maxLen; omega) hk (w.heap.size + 1)
  have hold : ∀ q, q < w.heap.size → q ≠ b → w4.heap[q]? = w.heap[q]? := fun q hq hqb => by
    rw [hg.block q (by omega) (fun e => by injection e with e; omega), ho3 q (by omega), ho2 q hq, ho1 q hqb]
  have htt : Touch O w w4 := by
    refine ((ht1.trans ht2 ?_).trans ht3 ?_).trans (Touch.grown (O := O) hg (fun q hq => ?_)) ?_
    · intro x hx; exact .inl hx
    · intro x hx; exact .inl hx
    · injection hq with hq; subst hq; exact hO _ (Nat.le_refl _)
    · intro x hx; exact .inl hx
  refine ⟨w4, hrun, ?_, htt, hold⟩
  obtain ⟨nb2, mb2, hp2, _⟩ := h.step hl (w' := w4) (O' := O) (c := w.heap.size + 1) (m := w.heap.size) (by rw [hgl]; exact hk) (fun _ h => h) (hO _ (by omega)) (hO _ (Nat.le_refl _)) (by omega)
    (by rw [hg.block _ (by omega) (fun e => by injection e with e; omega)]; exact hcn3) (.inr ⟨hm, Nat.le_refl _⟩)
    (by rw [hg.block b (by omega) (fun e => by injection e with e; omega), ho3 b (by omega), ho2 b hb]; exact hb1)
    (by
      rw [hgl]
      refine (hkm4.mono (by omega)).same fun y => ?_
      by_cases e : y = k
      · rw [if_pos e, if_pos e]
      · rw [if_neg e, if_neg e, h.gt.knil _ hm y])
    (fun q hq hqb _ => hold q hq hqb) hT
  exact ⟨nb2, mb2, hp2⟩
/-- the same where the last node has a map -/
theorem Path.put_some {tT tV : TypeId} {enc : Int → Array Value} {w : World} {O : Nat → Prop} {root : Nat} {S : TrieS} {nb nb' mb' : List Int → Option Nat} {val : List Int → Option (Nat × Int)} {p : List Int} {i l b m : Nat}
    (h : Path tT tV enc w O root S nb val p i l b nb' mb') (hl : l < p.length) {k : Int} (hkk : gl p l = k) (hk : inKey k) (hm : mb' (p.take l) = some m) {t e : TypeId} (ht : Try.prog.underlying t = some (.map 3 e)) (hO : ∀ b, w.heap.size ≤ b → O b) (hT : tV ≠ tT) (hn : sizeS S + (l - i) < maxLen) :
    ∃ w4, (Instr.mapUpdate t (.map (some m)) (.int .i64 k) (.pointer (some ⟨w.heap.size, 0, none⟩))).run Try.prog (w.alloc (.cells #[.pointer none, .map none] tT)) = .ok () w4 ∧
      (∃ nb2 mb2, Path tT tV enc w4 O root S nb val p i (l + 1) w.heap.size nb2 mb2) ∧ Touch O w w4 ∧ ∀ q, q < w.heap.size → q ≠ m → w4.heap[q]? = w.heap[q]? := by
  have hnd := h.gt.node _ _ h.at_
  have hb := heap_lt hnd
  have hml := h.gt.map_lt hm
  have hbm := h.gt.node_map h.at_ hm
  have hgl : p[l] = k := by rw [← hkk]; unfold gl; rw [List.getD_eq_getElem?_getD, List.getElem?_eq_getElem hl]; rfl
  have hkm := (h.gt.kmap _ _ hm).kept (Below.heap_alloc w (.cells #[.pointer none, .map none] tT) m hml)
  have hcn := one_new w (.cells #[.pointer none, .map none] tT)
  have ht1 := Touch.alloc O w (.cells #[.pointer none, .map none] tT)
  have ho1 : ∀ q, q < w.heap.size → (w.alloc (.cells #[.pointer none, .map none] tT)).heap[q]? = w.heap[q]? := fun q hq => Below.heap_alloc _ _ _ hq
  have hs1 : (w.alloc (.cells #[.pointer none, .map none] tT)).heap.size = w.heap.size + 1 := by simp
  generalize w.alloc (.cells #[.pointer none, .map none] tT) = W1 at *
  obtain ⟨w4, hrun, hkm4, hg⟩ := hkm.store ht hn hk w.heap.size
  have hold : ∀ q, q < w.heap.size → q ≠ m → w4.heap[q]? = w.heap[q]? := fun q hq hqb => by
    rw [hg.block q (by omega) (fun e => by injection e with e; omega), ho1 q hq]
  have htt : Touch O w w4 := ht1.trans (Touch.grown (O := O) hg (fun q hq => by injection hq with hq; subst hq; exact h.gt.own_m _ _ hm)) (fun x hx => .inl hx)
  refine ⟨w4, hrun, ?_, htt, hold⟩
  obtain ⟨nb2, mb2, hp2, _⟩ := h.step hl (w' := w4) (O' := O) (c := w.heap.size) (m := m) (by rw [hgl]; exact hk) (fun _ h => h) (hO _ (Nat.le_refl _)) (h.gt.own_m _ _ hm) (Nat.le_refl _)
    (by rw [hg.block _ (by omega) (fun e => by injection e with e; omega)]; exact hcn) (.inl hm)
    (by rw [hold b hb hbm, hnd, hm])
    (by rw [hgl]; exact hkm4)
    (fun q hq _ hqm => hold q hq (fun e => hqm (by rw [hm, e]))) hT
  exact ⟨nb2, mb2, hp2⟩
theorem GT.lookup {V : Type} {tT tV : TypeId} {enc : V → Array Value} {w w' : World} {O : Nat → Prop} {root n : Nat} {nb mb : List Int → Option Nat} {val : List Int → Option (Nat × V)} (h : GT tT tV enc w O root n nb mb val) (hb : Below w.heap.size w w') {t e : TypeId} (ht : Try.prog.underlying t = some (.map 3 e)) (hz : (zeroValue e).run Try.prog w' = .ok (.pointer none) w') {p : List Int} {k : Int} (hk : inKey k) :
    (Instr.lookup t (.map (mb p)) (.int .i64 k) false).run Try.prog w' = .ok (ptrO (nb (p ++ [k]))) w' := by
  cases hm : mb p with
  | none => rw [Maps.look_nil false key_law ht hz (key_of hk), h.knil p hm k]; rfl
  | some m => exact ((h.kmap p m hm).kept (hb.block m (h.map_lt hm))).lookup ht hz hk
theorem GT.len {V : Type} {tT tV : TypeId} {enc : V → Array Value} {w w' : World} {O : Nat → Prop} {root n : Nat} {nb mb : List Int → Option Nat} {val : List Int → Option (Nat × V)} (h : GT tT tV enc w O root n nb mb val) (hb : Below w.heap.size w w') {t e : TypeId} (ht : Try.prog.underlying t = some (.map 3 e)) (p : List Int) :
    ∃ s : Nat, (∀ ty, (Builtin.len_ #[t] ty #[.map (mb p)]).run Try.prog w' = .ok (.int .i64 s) w') ∧ (mb p = none → s = 0) ∧ (∀ k b, inKey k → mb p ≠ none → nb (p ++ [k]) = some b → 0 < s) := by
  cases hm : mb p with
  | none => exact ⟨0, fun ty => Maps.len_nil ht ty, fun _ => rfl, fun _ _ _ h _ => absurd rfl h⟩
  | some m =>
    obtain ⟨s, h1, h2⟩ := ((h.kmap p m hm).kept (hb.block m (h.map_lt hm))).len ht
    exact ⟨s, h1, (fun h => by cases h), fun k b hk _ hb => h2 k b hk hb⟩
end Go.Proofs.Ytampjndfhpjheaa
