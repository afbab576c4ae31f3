/- What looked works on: three tries of the same rows; lists written full. No walk. -/
import Derived.Test.YtampjndfhpjheaaTm
namespace Go.Proofs.Ytampjndfhpjheaa
open Go.RowKit
/-- block g: c ints' cells, the first k of them f 0, f 1, .. -/
def Rm (w : World) (g c k : Nat) (f : Nat → Int) : Prop := ∃ cs : Array Value, w.heap[g]? = some (.cells cs 3 (0, 0)) ∧ cs.size = c ∧ ∀ i, i < k → cs[i]? = some (.int .i64 (f i))
theorem Rm.lt {w : World} {g c k : Nat} {f : Nat → Int} (h : Rm w g c k f) : g < w.heap.size := by obtain ⟨cs, h1, _⟩ := h; exact heap_lt h1
theorem Rm.block {w w' : World} {g c k : Nat} {f : Nat → Int} (h : Rm w g c k f) (e : w'.heap[g]? = w.heap[g]?) : Rm w' g c k f := by obtain ⟨cs, h1, h2⟩ := h; exact ⟨cs, e.trans h1, h2⟩
theorem Rm.later {w w' : World} {g c k : Nat} {f : Nat → Int} (h : Rm w g c k f) (hb : Below w.heap.size w w') : Rm w' g c k f := h.block (hb.block g h.lt)
theorem Rm.touch {w w' : World} {O : Nat → Prop} {g c k : Nat} {f : Nat → Int} (h : Rm w g c k f) (ht : Touch O w w') (hO : ¬ O g) : Rm w' g c k f := h.block (ht.block g h.lt hO)
theorem Rm.same {w : World} {g c k : Nat} {f f' : Nat → Int} (h : Rm w g c k f) (e : ∀ i, i < k → f i = f' i) : Rm w g c k f' := by obtain ⟨cs, h1, h2, h3⟩ := h; exact ⟨cs, h1, h2, fun i hi => by rw [h3 i hi, e i hi]⟩
theorem Rm.fewer {w : World} {g c k n : Nat} {f : Nat → Int} (h : Rm w g c k f) (hn : n ≤ k) : Rm w g c n f := by obtain ⟨cs, h1, h2, h3⟩ := h; exact ⟨cs, h1, h2, fun i hi => h3 i (by omega)⟩
theorem Rm.set {w : World} {g c k : Nat} {f f' : Nat → Int} {x : Int} (h : Rm w g c k f) (hk : k < c) (hx : f' k = x) (hf : ∀ i, i < k → f' i = f i) : Rm (w.setCell ⟨g, k, none⟩ (.int .i64 x)) g c (k + 1) f' := by
  obtain ⟨cs, h1, h2, h3⟩ := h
  refine ⟨cs.setIfInBounds k (.int .i64 x), block_set _ h1, by simpa using h2, fun i hi => ?_⟩
  rw [Array.getElem?_setIfInBounds]
  by_cases hik : k = i
  · subst hik; rw [if_pos rfl, if_pos (by omega), hx]
  · rw [if_neg hik, hf i (by omega)]; exact h3 i (by omega)
theorem Rm.put {w : World} {g c k : Nat} {f f' : Nat → Int} {x : Int} {j : Nat} (h : Rm w g c k f) (hx : f' j = x) (hf : ∀ i, i ≠ j → f' i = f i) : Rm (w.setCell ⟨g, j, none⟩ (.int .i64 x)) g c k f' := by
  obtain ⟨cs, h1, h2, h3⟩ := h
  refine ⟨cs.setIfInBounds j (.int .i64 x), block_set _ h1, by simpa using h2, fun i hi => ?_⟩
  have h4 := h3 i hi
  have h5 : i < cs.size := by
    refine Classical.byContradiction fun hn => ?_
    rw [Array.getElem?_eq_none (by omega)] at h4; cases h4
  rw [Array.getElem?_setIfInBounds]
  by_cases hik : j = i
  · subst hik; rw [if_pos rfl, if_pos h5, hx]
  · rw [if_neg hik, hf i (fun e => hik e.symm)]; exact h4
theorem Rm.cell {w : World} {g c k : Nat} {f : Nat → Int} (h : Rm w g c k f) {i : Nat} (hi : i < k) : w.cell? ⟨g, i, none⟩ = some (.int .i64 (f i)) := by
  obtain ⟨cs, h1, h2, h3⟩ := h
  rw [block_cell h1]; exact h3 i hi
theorem Rm.has {w : World} {g c k : Nat} {f : Nat → Int} (h : Rm w g c k f) {i : Nat} (hi : i < c) : (∃ v, w.cell? ⟨g, i, none⟩ = some v) ∧ w.frozen? ⟨g, i, none⟩ = false := by
  obtain ⟨cs, h1, h2, h3⟩ := h
  exact ⟨⟨cs[i]'(by omega), by rw [block_cell h1]; simp⟩, block_free h1⟩
theorem Rm.ints {w : World} {g c k : Nat} {f : Nat → Int} (h : Rm w g c k f) {n : Nat} (hn : n ≤ k) : IsInts w (some ⟨g, 0, none⟩) n f := by
  refine .inr ⟨g, 0, rfl, h.lt, fun i hi => ?_⟩
  rw [Nat.zero_add]
  exact h.cell (by omega)
theorem OwnInts.rm {w : World} {base n c : Nat} {s : Option Addr} {f : Nat → Int} (h : OwnInts w base (.slice s n c) (lst f n)) (h0 : 0 < n) : ∃ g, s = some ⟨g, 0, none⟩ ∧ base ≤ g ∧ n ≤ c ∧ c ≤ maxLen ∧ Rm w g c n f := by
  rcases h.2 with ⟨h1, h2⟩ | ⟨g, cap, cur, h1, hg, hgg, hnc, hcm, hcs, htake⟩
  · rw [lst_len] at h2; omega
  · have h' := h
    rw [lst_len] at h1 hnc
    obtain ⟨rfl, _, rfl⟩ := Value.slice.inj h1
    refine ⟨g, rfl, hg, hnc, hcm, cur, hgg, by omega, fun i hi => ?_⟩
    unfold OwnInts at h'
    rw [lst_len] at h'
    have hc := World.ownsRow.cellAt h' i (by omega)
    have hc2 : w.cell? ⟨g, i, none⟩ = cur[i]? := by simp [World.cell?, hgg]
    rw [← hc2, hc, List.getElem?_map, List.getElem?_eq_getElem (by rw [lst_len]; exact hi)]
    simp [lst]
/-- the mark at place i -/
def mkF (i : Nat) : Int := IntKind.i64.wrap (-71 - (i : Int))
theorem mkF_a (i : Nat) : IntKind.i64.wrap (-71 - (i : Int)) = mkF i := rfl
theorem mkF_b (i : Nat) : wrap64 (-71 - (i : Int)) = mkF i := by unfold mkF; rw [← IntWalk.i64_left]
theorem Touch.cell {O : Nat → Prop} {w w' : World} (h : Touch O w w') {b i : Nat} (hb : b < w.heap.size) (hO : ¬ O b) : w'.cell? ⟨b, i, none⟩ = w.cell? ⟨b, i, none⟩ := World.cell?_of_block (w := w) (h.block b hb hO)
/-- the blocks of O that are there -/
def now (O : Nat → Prop) (w : World) (b : Nat) : Prop := O b ∧ b < w.heap.size
theorem GT.now {V : Type} {tT tV : TypeId} {enc : V → Array Value} {w : World} {O : Nat → Prop} {root n : Nat} {nb mb : List Int → Option Nat} {val : List Int → Option (Nat × V)} (h : GT tT tV enc w O root n nb mb val) : GT tT tV enc w (now O w) root n nb mb val :=
  { h with
    own_n := fun p b hb => ⟨h.own_n p b hb, h.node_lt hb⟩
    own_m := fun p b hb => ⟨h.own_m p b hb, h.map_lt hb⟩
    own_v := fun p x hx => ⟨h.own_v p x hx, h.val_lt hx⟩ }
theorem RH.now {w : World} {O : Nat → Prop} {r : Nat} {R : List (List Int)} {V : List Int} {sR : Option Addr} {cR : Nat} {sV : Option Addr} {cV : Nat} {qs : List QuietD} (h : RH w O r R V sR cR sV cV qs) : RH w (now O w) r R V sR cR sV cV qs :=
  { h with
    own_r := ⟨h.own_r, heap_lt h.blk⟩
    own_R := fun b hb => ⟨h.own_R b hb, (World.ownsRow.lt h.rows b hb).2⟩
    own_V := fun b hb => ⟨h.own_V b hb, (World.ownsRow.lt h.vals b hb).2⟩
    own_q := fun q hq => ⟨h.own_q q hq, (h.q_of hq).lt⟩ }
def TI (w : World) (O : Nat → Prop) (root : Nat) (S : TrieS) : Prop := ∃ nb mb val, Trie 26 3 encI w O root S nb mb val
def TT (w : World) (O : Nat → Prop) (root : Nat) (S : TrieS) : Prop := ∃ nb mb val, Trie 30 78 encT w O root S nb mb val
section
variable {w w' : World} {O O' : Nat → Prop} {r : Nat} {S : TrieS}
theorem TI.kept (h : TI w O r S) (e : ∀ b, b < w.heap.size → O b → w'.heap[b]? = w.heap[b]?) : TI w' O r S := by obtain ⟨nb, mb, val, h⟩ := h; exact ⟨nb, mb, val, h.kept e⟩
theorem TT.kept (h : TT w O r S) (e : ∀ b, b < w.heap.size → O b → w'.heap[b]? = w.heap[b]?) : TT w' O r S := by obtain ⟨nb, mb, val, h⟩ := h; exact ⟨nb, mb, val, h.kept e⟩
theorem RT.kept (h : RT w O r S) (e : ∀ b, b < w.heap.size → O b → w'.heap[b]? = w.heap[b]?) : RT w' O r S := by obtain ⟨a, b, c, d, q, h⟩ := h; exact ⟨a, b, c, d, q, h.kept e⟩
theorem TI.now (h : TI w O r S) : TI w (now O w) r S := by obtain ⟨nb, mb, val, h⟩ := h; exact ⟨nb, mb, val, { h with gt := h.gt.now }⟩
theorem TT.now (h : TT w O r S) : TT w (now O w) r S := by obtain ⟨nb, mb, val, h⟩ := h; exact ⟨nb, mb, val, { h with gt := h.gt.now }⟩
theorem RT.now (h : RT w O r S) : RT w (now O w) r S := by obtain ⟨a, b, c, d, q, h⟩ := h; exact ⟨a, b, c, d, q, h.now⟩
end
/-- three tries of the rows S, in blocks of O -/
structure Side (w : World) (O : Nat → Prop) (tb gb rb : Nat) (S : TrieS) : Prop where
  ok : TrieOk S
  lt : ∀ b, O b → b < w.heap.size
  parts : ∃ O1 O2 O3 : Nat → Prop, (∀ b, O1 b → O b) ∧ (∀ b, O2 b → O b) ∧ (∀ b, O3 b → O b) ∧ (∀ b, O1 b → ¬ O2 b) ∧ (∀ b, O1 b → ¬ O3 b) ∧ (∀ b, O2 b → ¬ O3 b) ∧ TI w O1 tb S ∧ TT w O2 gb S ∧ RT w O3 rb S
theorem Side.kept {w w' : World} {O : Nat → Prop} {tb gb rb : Nat} {S : TrieS} (h : Side w O tb gb rb S) (hs : w.heap.size ≤ w'.heap.size) (e : ∀ b, b < w.heap.size → O b → w'.heap[b]? = w.heap[b]?) : Side w' O tb gb rb S := by
  obtain ⟨O1, O2, O3, h1, h2, h3, h4, h5, h6, h7, h8, h9⟩ := h.parts
  exact ⟨h.ok, fun b hb => Nat.lt_of_lt_of_le (h.lt b hb) hs, O1, O2, O3, h1, h2, h3, h4, h5, h6, h7.kept (fun b hb ho => e b hb (h1 b ho)), h8.kept (fun b hb ho => e b hb (h2 b ho)), h9.kept (fun b hb ho => e b hb (h3 b ho))⟩
theorem Side.later {w w' : World} {O : Nat → Prop} {tb gb rb : Nat} {S : TrieS} (h : Side w O tb gb rb S) (hb : Below w.heap.size w w') : Side w' O tb gb rb S := h.kept hb.size (fun b hl _ => hb.block b hl)
/-- the three are put into, one behind the other -/
theorem Side.puts {w w1 wt w2 wj w3 : World} {O O1 O2 O3 : Nat → Prop} {tb gb rb : Nat} {S' : TrieS} (hlt : ∀ b, O b → b < w.heap.size) (hok : TrieOk S')
    (h1 : ∀ b, O1 b → O b) (h2 : ∀ b, O2 b → O b) (h3 : ∀ b, O3 b → O b) (h12 : ∀ b, O1 b → ¬ O2 b) (h13 : ∀ b, O1 b → ¬ O3 b) (h23 : ∀ b, O2 b → ¬ O3 b)
    (t1 : Touch O1 w w1) (p1 : TI w1 (wider O1 w.heap.size) tb S') (bt1 : Below w1.heap.size w1 wt) (t2 : Touch O2 wt w2) (p2 : TT w2 (wider O2 wt.heap.size) gb S') (bt2 : Below w2.heap.size w2 wj) (t3 : Touch O3 wj w3) (p3 : RT w3 (wider O3 wj.heap.size) rb S') :
    ∃ O', Side w3 O' tb gb rb S' ∧ Touch O w w3 ∧ ∀ b, O' b → O b ∨ w.heap.size ≤ b := by
  have s1 := t1.size; have s2 := bt1.size; have s3 := t2.size; have s4 := bt2.size; have s5 := t3.size
  refine ⟨fun b => now (wider O1 w.heap.size) w1 b ∨ now (wider O2 wt.heap.size) w2 b ∨ now (wider O3 wj.heap.size) w3 b, ⟨hok, ?_, now (wider O1 w.heap.size) w1, now (wider O2 wt.heap.size) w2, now (wider O3 wj.heap.size) w3, fun b h => .inl h, fun b h => .inr (.inl h), fun b h => .inr (.inr h), ?_, ?_, ?_, ?_, ?_, p3.now⟩, ?_, ?_⟩
  · rintro b (⟨_, h⟩ | ⟨_, h⟩ | ⟨_, h⟩) <;> omega
  · rintro b ⟨a1, a2⟩ ⟨b1, b2⟩
    rcases a1 with a1 | a1 <;> rcases b1 with b1 | b1
    · exact h12 b a1 b1
    · have := hlt b (h1 b a1); omega
    · have := hlt b (h2 b b1); omega
    · omega
  · rintro b ⟨a1, a2⟩ ⟨b1, b2⟩
    rcases a1 with a1 | a1 <;> rcases b1 with b1 | b1
    · exact h13 b a1 b1
    · have := hlt b (h1 b a1); omega
    · have := hlt b (h3 b b1); omega
    · omega
  · rintro b ⟨a1, a2⟩ ⟨b1, b2⟩
    rcases a1 with a1 | a1 <;> rcases b1 with b1 | b1
    · exact h23 b a1 b1
    · have := hlt b (h2 b a1); omega
    · have := hlt b (h3 b b1); omega
    · omega
  · refine p1.now.kept (fun b hb ho => ?_)
    obtain ⟨ho, _⟩ := ho
    rw [t3.block b (by omega) ?_, bt2.block b (by omega), t2.block b (by omega) ?_, bt1.block b hb]
    · rcases ho with ho | ho
      · exact h12 b ho
      · intro h; have := hlt b (h2 b h); omega
    · rcases ho with ho | ho
      · exact h13 b ho
      · intro h; have := hlt b (h3 b h); omega
  · refine p2.now.kept (fun b hb ho => ?_)
    obtain ⟨ho, _⟩ := ho
    rw [t3.block b (by omega) ?_, bt2.block b (by omega)]
    rcases ho with ho | ho
    · exact h23 b ho
    · intro h; have := hlt b (h3 b h); omega
  · exact ((((t1.wide (fun b _ h => h1 b h)).trans (Touch.of (O := O) bt1) (fun x hx => .inl hx)).trans (t2.wide (fun b _ h => h2 b h)) (fun x hx => .inl hx)).trans (Touch.of (O := O) bt2) (fun x hx => .inl hx)).trans (t3.wide (fun b _ h => h3 b h)) (fun x hx => .inl hx)
  · rintro b (⟨h | h, _⟩ | ⟨h | h, _⟩ | ⟨h | h, _⟩)
    · exact .inl (h1 b h)
    · exact .inr h
    · exact .inl (h2 b h)
    · exact .inr (by omega)
    · exact .inl (h3 b h)
    · exact .inr (by omega)
/-- the rows behind a Put -/
def putS (S : TrieS) (p : List Int) (v : Int) : TrieS := if putB S p = true then S ++ [(p, v)] else S
theorem putS_ok {S : TrieS} (h : TrieOk S) (p : List Int) (v : Int) : TrieOk (putS S p v) := by
  unfold putS
  split
  · rename_i hp; exact h.put v hp
  · exact h
section
variable {w : World} {O : Nat → Prop} {r : Nat} {S : TrieS}
theorem tlook_c (sk : Option Addr) (c n : Nat) (p : List Int) (hS : TrieOk S) (ht : TI w O r S) (hn : p.length = n) (hl : n ≤ maxLen) (hk : IsInts w sk n (gl p)) (hkeys : ∀ x ∈ p, inKey x) :
    Calls Try.prog 36 #[.pointer (some ⟨r, 0, none⟩), .slice sk n c] w fun e w' => e = .returned (.tuple #[.int .i64 (lookS S p).1, .int .i64 ((lookS S p).2 : Nat)]) ∧ Below w.heap.size w w' := by
  subst hn
  obtain ⟨nb, mb, val, ht⟩ := ht
  exact look_int_c O r S nb mb val sk c p w hS ht hl hk hkeys
theorem glook_c (sk : Option Addr) (c n : Nat) (p : List Int) (hS : TrieOk S) (ht : TT w O r S) (hn : p.length = n) (hl : n ≤ maxLen) (hk : IsInts w sk n (gl p)) (hkeys : ∀ x ∈ p, inKey x) :
    Calls Try.prog 37 #[.pointer (some ⟨r, 0, none⟩), .slice sk n c] w fun e w' => e = .returned (.tuple #[.agg #[.int .i64 (lookS S p).1, .string (tagS (lookS S p).1)], .int .i64 ((lookS S p).2 : Nat)]) ∧ Below w.heap.size w w' := by
  subst hn
  obtain ⟨nb, mb, val, ht⟩ := ht
  exact look_tag_c O r S nb mb val sk c p w hS ht hl hk hkeys
theorem rlook_n (sk : Option Addr) (c n : Nat) (p : List Int) (hS : S.length < 1073741824) (hl : ∀ x ∈ S, x.1.length < 1073741824) (ht : RT w O r S) (hn : p.length = n) (hk : IsInts w sk n (gl p)) :
    Calls Try.prog 38 #[.pointer (some ⟨r, 0, none⟩), .slice sk n c] w fun e w' => e = .returned (.tuple #[.int .i64 (lookS S p).1, .int .i64 ((lookS S p).2 : Nat)]) ∧ Below w.heap.size w w' := by
  subst hn
  obtain ⟨sR, cR, sV, cV, qs, h⟩ := ht
  exact rlook_c 0 r S sR cR sV cV qs sk c p w hS hl h.trie hk
theorem tput_c (v : Int) (sk : Option Addr) (c n : Nat) (p : List Int) (hS : TrieOk S) (ht : TI w O r S) (hn : p.length = n) (hl : n ≤ maxLen) (hc : n ≤ c) (hz : sizeS S + n < maxLen) (hk : IsInts w sk n (gl p)) (hkeys : ∀ x ∈ p, inKey x) (hsk : ∀ a, sk = some a → ¬ O a.block) :
    Calls Try.prog 32 #[.pointer (some ⟨r, 0, none⟩), .int .i64 v, .slice sk n c] w fun e w' => e = .returned (.bool (putB S p)) ∧ Touch O w w' ∧ TI w' (wider O w.heap.size) r (putS S p v) := by
  subst hn
  obtain ⟨nb, mb, val, ht⟩ := ht
  exact put_int_c O r S nb mb val v sk c p w hS ht hl hc hz hk hkeys hsk
theorem gput_c (v : Int) (sk : Option Addr) (c n : Nat) (p : List Int) (hS : TrieOk S) (ht : TT w O r S) (hn : p.length = n) (hl : n ≤ maxLen) (hc : n ≤ c) (hz : sizeS S + n < maxLen) (hk : IsInts w sk n (gl p)) (hkeys : ∀ x ∈ p, inKey x) (hsk : ∀ a, sk = some a → ¬ O a.block) :
    Calls Try.prog 33 #[.pointer (some ⟨r, 0, none⟩), .agg #[.int .i64 v, .string (tagS v)], .slice sk n c] w fun e w' => e = .returned (.bool (putB S p)) ∧ Touch O w w' ∧ TT w' (wider O w.heap.size) r (putS S p v) := by
  subst hn
  obtain ⟨nb, mb, val, ht⟩ := ht
  exact put_tag_c O r S nb mb val v sk c p w hS ht hl hc hz hk hkeys hsk
theorem rput_n (v : Int) (sk : Option Addr) (c n : Nat) (p : List Int) (hS : S.length < 1073741824) (hl : ∀ x ∈ S, x.1.length < 1073741824) (ht : RT w O r S) (hn : p.length = n) (hn30 : n < 1073741824) (hk : IsInts w sk n (gl p)) :
    Calls Try.prog 35 #[.pointer (some ⟨r, 0, none⟩), .int .i64 v, .slice sk n c] w fun e w' => e = .returned (.bool (putB S p)) ∧ Touch O w w' ∧ RT w' (wider O w.heap.size) r (putS S p v) := by
  subst hn
  exact rput_c O r S v sk c p w hS hn30 hl ht hk
end
end Go.Proofs.Ytampjndfhpjheaa
