/- Contracts of the document's side: New, Reset, Feed of a parser. Condition: fewer than 2^20 pending keys. The document's Feed is the program's (plain law); a parser of the program beside one of the document, in memory. No walk. Contract of the document's side: Feed of a parser (printed by gen_nf.py). Condition: fewer than 2^20 pending keys. Contract: played: a step of a parser of the program and of one of the document. Condition: fewer than 2^20 pending keys, all of 64 bits. -/
import Derived.Test.YtampjndfhpjheaaQBm
import Derived.Test.YtampjndfhpjheaaQBk
import Derived.Test.YtampjndfhpjheaaQBa
import Derived.Test.YtampjndfhpjheaaQBo
import Derived.Test.YtampjndfhpjheaaQAd
namespace Go.Proofs.Ytampjndfhpjheaa
open Go.RowKit
set_option linter.unusedVariables false
set_option linter.unusedSimpArgs false
def KT (t : TypeId) : Prop := t = 103 ∨ t = 3 ∨ t = 95 ∨ t = 98
structure KeepT (w0 w : World) : Prop where
 size : w0.heap.size ≤ w.heap.size
 kept : ∀ (b : Nat) (cs : Array Value) (t : TypeId), w0.heap[b]? = some (.cells cs t (0, 0)) → KT t → w.heap[b]? = some (.cells cs t (0, 0))
theorem KeepT.refl (w : World) : KeepT w w := ⟨Nat.le_refl _, fun _ _ _ h _ => h⟩
theorem KeepT.later {w0 w w' : World} (h : KeepT w0 w) (hb : Below w.heap.size w w') : KeepT w0 w' :=
 ⟨Nat.le_trans h.size hb.size, fun b cs t h1 h2 => (hb.block b (heap_lt (h.kept b cs t h1 h2))).trans (h.kept b cs t h1 h2)⟩
theorem KeepT.touch {w0 w w' : World} {O : Nat → Prop} (h : KeepT w0 w) (ht : Touch O w w') (hO : ∀ b cs t, O b → w0.heap[b]? = some (.cells cs t (0, 0)) → ¬ KT t) : KeepT w0 w' :=
 ⟨Nat.le_trans h.size ht.size, fun b cs t h1 h2 => (ht.block b (heap_lt (h.kept b cs t h1 h2)) (fun e => hO b cs t e h1 h2)).trans (h.kept b cs t h1 h2)⟩
theorem KeepT.tab {w0 w : World} {tb : Nat} {sel : Bool} (k : KeepT w0 w) (h : TabD w0 tb sel) : TabD w tb sel := by
 obtain ⟨sR, nR, cR, LR, sO, nO, cO, LO, sT, cT, vs, h1, h2, h3⟩ := h
 have he : ∀ (b : Nat) (cs : Array Value) (t : TypeId), w0.heap[b]? = some (.cells cs t (0, 0)) → t = 103 ∨ t = 3 → w.heap[b]? = w0.heap[b]? := fun b cs t hb ht =>
  (k.kept b cs t hb (by rcases ht with h | h; exact .inl h; exact .inr (.inl h))).trans hb.symm
 refine ⟨sR, nR, cR, LR, sO, nO, cO, LO, sT, cT, vs, ⟨k.kept _ _ _ h1.blk (.inr (.inr (.inr rfl))), h1.rows.keptT he, h1.ops.keptT he, own_kept h1.own (fun b hb => ?_), h1.low, fun i hi v hv => ?_, h1.ge⟩, h2, h3⟩
 ·
  obtain ⟨cs, h4⟩ := h1.otype hb
  exact (k.kept b cs _ h4 (.inr (.inr (.inl rfl)))).trans h4.symm
 ·
  obtain ⟨s, n, c, L, e1, e2, e3⟩ := h1.each i hi v hv
  exact ⟨s, n, c, L, e1, e2, e3.keptT he⟩
def RB (w : World) (rb t0 t1 : Nat) (s : Option Addr) (n c : Nat) (sl : Bool) : Prop :=
 w.heap[rb]? = some (.cells #[.pointer (some ⟨t0, 0, none⟩), .pointer (some ⟨t1, 0, none⟩), .slice s n c, .bool sl] 69 (0, 0))
theorem RB.not {w0 w : World} {rb t0 t1 : Nat} {s : Option Addr} {n c : Nat} {sl : Bool} (h : RB w rb t0 t1 s n c sl) (k : KeepT w0 w) : ∀ cs t, w0.heap[rb]? = some (.cells cs t (0, 0)) → ¬ KT t := by
 intro cs t h1 h2
 have h3 := k.kept rb cs t h1 h2
 unfold RB at h
 rw [h] at h3
 injection h3 with h3
 injection h3 with _ h3
 subst h3
 rcases h2 with h | h | h | h <;> exact absurd h (by decide)
set_option maxRecDepth 100000 in
theorem dnew_c (w : World) : Calls Try.prog 24 #[] w fun e w' => ∃ rb t0 t1, e = .returned (.pointer (some ⟨rb, 0, none⟩)) ∧ w.heap.size ≤ rb ∧ RB w' rb t0 t1 none 0 0 false ∧ TabD w' t0 false ∧ TabD w' t1 true ∧ Below w.heap.size w w' := by
 go_enter Try.func24, Try.ntmps24
 go_wp2_with fail
 refine (of_c false w).mono ?_
 rintro e w1 ⟨t0, rfl, h0, hb1⟩
 have H0 := Lib.hid h0
 have HB1 := Lib.hid hb1
 clear h0 hb1
 go_wp2_with fail
 refine (of_c true w1).mono ?_
 rintro e w2 ⟨t1, rfl, h1, hb2⟩
 have H1 := Lib.hid h1
 have H02 := Lib.hid (H0.out.later hb2)
 have HB2 := Lib.hid (HB1.out.trans (hb2.mono HB1.out.size))
 have HS := Lib.hid hb2.size
 clear h1 hb2
 go_wp2
 have hn := below_new2 w2 (.cells #[.pointer (some ⟨t0, 0, none⟩), .pointer (some ⟨t1, 0, none⟩), .slice none 0 0, .bool false] 69)
 go_ret
 exact ⟨w2.heap.size, t0, t1, rfl, HB2.out.size, one_new w2 _, H02.out.later hn, H1.out.later hn, HB2.out.trans (hn.mono HB2.out.size)⟩
set_option maxRecDepth 100000 in
theorem dreset_c (rb t0 t1 : Nat) (s : Option Addr) (n c : Nat) (sl : Bool) (w : World) (h : RB w rb t0 t1 s n c sl) :
  Calls Try.prog 60 #[.pointer (some ⟨rb, 0, none⟩)] w fun e w' => e = .returned (.tuple #[]) ∧ RB w' rb t0 t1 none 0 0 sl ∧ Touch (fun b => b = rb) w w' := by
 have c1 : w.cell? ⟨rb, 2, none⟩ = some (.slice s n c) := block_cell h
 have f1 : w.frozen? ⟨rb, 2, none⟩ = false := block_free h
 have H := Lib.hid h
 clear h
 go_enter Try.func60, Try.ntmps60
 go_wp2
 refine bodyPost_end (v := .tuple #[]) (results_none rfl _ _ _) rfl ?_
 refine ⟨rfl, ?_, Touch.setCell (fun b => b = rb) w (p := ⟨rb, 2, none⟩) rfl (.slice none 0 0)⟩
 unfold RB
 rw [block_set _ H.out]; rfl
def feedD (p : Par) (mode key : Int) : Par × Cmd × Nat :=
 if key = 27 then (⟨[], selP mode⟩, cmd0, 3) else
 (⟨if (readD (selP mode) (pp p mode ++ [key])).1 = 0 then pp p mode ++ [key] else [], selP mode⟩, (readD (selP mode) (pp p mode ++ [key])).2, (readD (selP mode) (pp p mode ++ [key])).1)
end Go.Proofs.Ytampjndfhpjheaa
namespace Go.Proofs.Ytampjndfhpjheaa
open Go.RowKit
set_option linter.unusedVariables false
def GoodP (p : Par) : Prop := ∀ q, q <+: p.pend → q ≠ [] → (readP p.sel q).1 = 0
theorem good_nil (s : Bool) : GoodP ⟨[], s⟩ := fun q hq hne => absurd (List.prefix_nil.1 hq) hne
theorem good_pp {p : Par} (h : GoodP p) {mode : Int} {q : List Int} (hq : q <+: pp p mode) (hne : q ≠ []) : (readP (selP mode) q).1 = 0 := by
 unfold pp at hq
 split at hq
 · rename_i e; rw [e]; exact h q hq hne
 · exact absurd (List.prefix_nil.1 hq) hne
theorem feed_law {p : Par} (h : GoodP p) (mode key : Int) : feedD p mode key = feedP p mode key := by
 by_cases h27 : key = 27
 · subst h27; rw [feed_27]; unfold feedD; exact if_pos rfl
 ·
  rw [feed_pp h27]; unfold feedD; rw [if_neg h27]
  have e : readD (selP mode) (pp p mode ++ [key]) = readP (selP mode) (pp p mode ++ [key]) := read_law (fun q hq hl hne => by
   rcases List.prefix_concat_iff.1 hq with rfl | h1
   · exact absurd rfl (Nat.ne_of_lt hl)
   · rw [good_pp h h1 hne]; decide)
  rw [e]
theorem good_feed {p : Par} (h : GoodP p) (mode key : Int) : GoodP (feedP p mode key).1 := by
 by_cases h27 : key = 27
 · subst h27; rw [feed_27]; exact good_nil _
 ·
  rw [feed_pp h27]
  intro q hq hne
  simp only at hq ⊢
  split at hq
  ·
   rename_i e
   rcases List.prefix_concat_iff.1 hq with rfl | h1
   · exact e
   · exact good_pp h h1 hne
  · exact absurd (List.prefix_nil.1 hq) hne
def newK (cls : Nat → Nat) (n m i : Nat) (b : Nat) : Nat := if n ≤ b ∧ b < m then i else cls b
structure SB (w w0 wr : World) (cls : Nat → Nat) : Prop where
 keep : KeepT w0 wr
 old : ∀ (b : Nat) (cs : Array Value) (t : TypeId), cls b ≠ 0 → w0.heap[b]? = some (.cells cs t (0, 0)) → ¬ KT t
 lt : ∀ b, cls b ≠ 0 → b < wr.heap.size
 low : ∀ b, cls b ≠ 0 → w.heap.size ≤ b
 below : Below w.heap.size w wr
theorem SB.later {w w0 wr w' : World} {cls : Nat → Nat} (h : SB w w0 wr cls) (hb : Below wr.heap.size wr w') : SB w w0 w' cls :=
 ⟨h.keep.later hb, h.old, fun b hb' => Nat.lt_of_lt_of_le (h.lt b hb') hb.size, h.low, h.below.trans (hb.mono h.below.size)⟩
structure Stp (w w' : World) (cls cls' : Nat → Nat) (i j : Nat) : Prop where
 touch : Touch (fun b => cls b = i ∨ cls b = j) w w'
 same : ∀ b, b < w.heap.size → cls' b = cls b
 new : ∀ b, w.heap.size ≤ b → cls' b = 0 ∨ cls' b = i ∨ cls' b = j
 end' : ∀ b, w'.heap.size ≤ b → cls' b = 0
theorem Stp.of {w0' w0 w w' : World} {cls : Nat → Nat} (h : SB w0' w0 w cls) (hb : Below w.heap.size w w') (i j : Nat) : Stp w w' cls cls i j :=
 ⟨Touch.of hb, fun _ _ => rfl, fun b hb' => .inl (Classical.byContradiction fun e => by have := h.lt b e; omega), fun b hb' => Classical.byContradiction fun e => by have := h.lt b e; have := hb.size; omega⟩
theorem Stp.trans {a b c : World} {x y z : Nat → Nat} {i j : Nat} (hi : i ≠ 0) (hj : j ≠ 0) (h : Stp a b x y i j) (k : Stp b c y z i j) : Stp a c x z i j := by
 refine ⟨h.touch.trans k.touch (fun n hn => ?_), fun n hn => ?_, fun n hn => ?_, k.end'⟩
 ·
  by_cases hlt : n < a.heap.size
  · rw [h.same n hlt] at hn; exact .inl hn
  · exact .inr (by omega)
 · rw [k.same n (Nat.lt_of_lt_of_le hn h.touch.size), h.same n hn]
 ·
  by_cases hlt : n < b.heap.size
  · rw [k.same n hlt]; exact h.new n hn
  · exact k.new n (by omega)
theorem Stp.later {w0' w0 a b c : World} {x y : Nat → Nat} {i j : Nat} (hi : i ≠ 0) (hj : j ≠ 0) (h : Stp a b x y i j) (hs : SB w0' w0 b y) (hb : Below b.heap.size b c) : Stp a c x y i j := h.trans hi hj (Stp.of hs hb i j)
theorem SB.step {w w0 wr w' : World} {cls cls' : Nat → Nat} {i j : Nat} (hi : i ≠ 0) (hj : j ≠ 0) (h : SB w w0 wr cls) (k : Stp wr w' cls cls' i j) : SB w w0 w' cls' where
 keep := h.keep.touch k.touch (fun b cs t hb h1 => h.old b cs t (by rcases hb with e | e <;> omega) h1)
 old := fun b cs t hb h1 => by
  have hlt : b < wr.heap.size := Nat.lt_of_lt_of_le (heap_lt h1) h.keep.size
  rw [k.same b hlt] at hb
  exact h.old b cs t hb h1
 lt := fun b hb => Classical.byContradiction fun e => hb (k.end' b (by omega))
 low := fun b hb => by
  by_cases hlt : b < wr.heap.size
  · rw [k.same b hlt] at hb; exact h.low b hb
  · have := h.below.size; omega
 below := h.below.trans (k.touch.below (fun b hb => h.low b (by rcases hb with e | e <;> omega)) h.below.size)
def PP (w0 wr : World) (cls : Nat → Nat) (i pb : Nat) (p : Par) : Prop := ∃ R : Nat → Prop, ParF wr (fun b => cls b = i) R pb p ∧ ∀ b, R b → cls b = 0 ∧ b < w0.heap.size
def DP (w0 wr : World) (cls : Nat → Nat) (j rb : Nat) (p : Par) : Prop := ∃ t0 t1 s c, TabD w0 t0 false ∧ TabD w0 t1 true ∧ RB wr rb t0 t1 s p.pend.length c p.sel ∧ OwnInts wr 0 (.slice s p.pend.length c) p.pend ∧ (∀ b, (Value.slice s p.pend.length c).ownBlock = some b → cls b = j) ∧ cls rb = j
theorem PP.kept {w w0 wr w' : World} {cls cls' : Nat → Nat} {i j k pb : Nat} {p : Par} (hs : SB w w0 wr cls) (h : PP w0 wr cls k pb p) (st : Stp wr w' cls cls' i j) (hk : k ≠ 0) (hki : k ≠ i) (hkj : k ≠ j) (hi : i ≠ 0) (hj : j ≠ 0) : PP w0 w' cls' k pb p := by
 obtain ⟨R, h1, h2⟩ := h
 have e : (fun b => cls b = k) = (fun b => cls' b = k) := by
  funext b
  by_cases hlt : b < wr.heap.size
  · rw [st.same b hlt]
  ·
   have h0 : cls b = 0 := Classical.byContradiction fun e => hlt (hs.lt b e)
   have h3 := st.new b (by omega)
   rw [h0]
   exact propext ⟨fun e => by omega, fun e => by omega⟩
 have h3 := h1.kept st.touch (fun b hb hO => by have hb : cls b = k := hb; rcases hO with e | e <;> omega) (fun b hb hO => by have := h2 b hb; rcases hO with e | e <;> omega)
 rw [e] at h3
 exact ⟨R, h3, fun b hb => ⟨by rw [st.same b (Nat.lt_of_lt_of_le (h2 b hb).2 hs.keep.size)]; exact (h2 b hb).1, (h2 b hb).2⟩⟩
theorem own_lt' {w : World} {base : Nat} {v : Value} {l : List Int} (h : OwnInts w base v l) {b : Nat} (hb : v.ownBlock = some b) : b < w.heap.size := (World.ownsRow.lt h b hb).2
theorem DP.kept {w w0 wr w' : World} {cls cls' : Nat → Nat} {i j k rb : Nat} {p : Par} (hs : SB w w0 wr cls) (h : DP w0 wr cls k rb p) (st : Stp wr w' cls cls' i j) (hki : k ≠ i) (hkj : k ≠ j) : DP w0 w' cls' k rb p := by
 obtain ⟨t0, t1, s, c, h1, h2, h3, h4, h5, h6⟩ := h
 have hlt := heap_lt h3
 refine ⟨t0, t1, s, c, h1, h2, (st.touch.block rb hlt (fun e => by rcases e with e | e <;> omega)).trans h3, h4.kept (fun b hb he => st.touch.block b hb (fun e => by have := h5 b he; rcases e with e | e <;> omega)), fun b hb => ?_, by rw [st.same rb hlt]; exact h6⟩
 rw [st.same b (own_lt' h4 hb)]; exact h5 b hb
theorem PP.later {w w0 wr w' : World} {cls : Nat → Nat} {k pb : Nat} {p : Par} (hs : SB w w0 wr cls) (h : PP w0 wr cls k pb p) (hb : Below wr.heap.size wr w') : PP w0 w' cls k pb p := by
 obtain ⟨R, h1, h2⟩ := h
 exact ⟨R, h1.later hb, h2⟩
theorem DP.later {w w0 wr w' : World} {cls : Nat → Nat} {k rb : Nat} {p : Par} (hs : SB w w0 wr cls) (h : DP w0 wr cls k rb p) (hb : Below wr.heap.size wr w') : DP w0 w' cls k rb p := by
 obtain ⟨t0, t1, s, c, h1, h2, h3, h4, h5, h6⟩ := h
 exact ⟨t0, t1, s, c, h1, h2, (hb.block rb (heap_lt h3)).trans h3, h4.later hb, h5, h6⟩
theorem newK_new {cls : Nat → Nat} {n m i b : Nat} (h1 : n ≤ b) (h2 : b < m) : newK cls n m i b = i := if_pos ⟨h1, h2⟩
theorem newK_old {cls : Nat → Nat} {n m i b : Nat} (h : b < n) : newK cls n m i b = cls b := if_neg (fun e => by omega)
theorem newK_stp {w w0 wr w' : World} {cls : Nat → Nat} {i j k : Nat} (hs : SB w w0 wr cls) (ht : Touch (fun b => cls b = i ∨ cls b = j) wr w') (hk : k = i ∨ k = j) : Stp wr w' cls (newK cls wr.heap.size w'.heap.size k) i j where
 touch := ht
 same := fun b hb => newK_old hb
 new := fun b hb => by
  by_cases h : b < w'.heap.size
  · rw [newK_new hb h]; exact .inr hk
  ·
   left
   have h0 : cls b = 0 := Classical.byContradiction fun e => by have := hs.lt b e; omega
   unfold newK; rw [if_neg (fun e => by omega), h0]
 end' := fun b hb => by
  have h0 : cls b = 0 := Classical.byContradiction fun e => by have := hs.lt b e; have := ht.size; omega
  unfold newK; rw [if_neg (fun e => by omega), h0]
theorem PP.fed {w w0 wr w' : World} {cls : Nat → Nat} {i pb : Nat} {p' : Par} {R : Nat → Prop} (hs : SB w w0 wr cls) (hi : i ≠ 0) (hR : ∀ b, R b → cls b = 0 ∧ b < w0.heap.size) (h : ParF w' (FG (fun b => cls b = i) wr w') R pb p') : PP w0 w' (newK cls wr.heap.size w'.heap.size i) i pb p' := by
 have e : FG (fun b => cls b = i) wr w' = (fun b => newK cls wr.heap.size w'.heap.size i b = i) := by
  funext b
  unfold FG newK
  by_cases h1 : wr.heap.size ≤ b ∧ b < w'.heap.size
  · rw [if_pos h1]; simp [h1]
  · rw [if_neg h1]; simp [h1]
 rw [e] at h
 exact ⟨R, h, fun b hb => ⟨by rw [newK_old (Nat.lt_of_lt_of_le (hR b hb).2 hs.keep.size)]; exact (hR b hb).1, (hR b hb).2⟩⟩
theorem DP.fed {w0 wr w' : World} {cls : Nat → Nat} {j rb t0 t1 : Nat} {p' : Par} {s : Option Addr} {c : Nat} (h0 : TabD w0 t0 false) (h1 : TabD w0 t1 true) (hrb : cls rb = j) (hlt : rb < wr.heap.size) (hr : RB w' rb t0 t1 s p'.pend.length c p'.sel) (ho : OwnInts w' 0 (.slice s p'.pend.length c) p'.pend) (hb : ∀ b, (Value.slice s p'.pend.length c).ownBlock = some b → wr.heap.size ≤ b) : DP w0 w' (newK cls wr.heap.size w'.heap.size j) j rb p' :=
 ⟨t0, t1, s, c, h0, h1, hr, ho, fun b hb' => newK_new (hb b hb') (own_lt' ho hb'), by rw [newK_old hlt]; exact hrb⟩
theorem Stp.left {w w' : World} {c c' : Nat → Nat} {i : Nat} (h : Stp w w' c c' i i) (j : Nat) : Stp w w' c c' i j :=
 ⟨h.touch.wide (fun b _ e => .inl (e.elim id id)), h.same, fun b hb => by rcases h.new b hb with e | e | e; exact .inl e; exact .inr (.inl e); exact .inr (.inl e), h.end'⟩
theorem Stp.right {w w' : World} {c c' : Nat → Nat} {j : Nat} (h : Stp w w' c c' j j) (i : Nat) : Stp w w' c c' i j :=
 ⟨h.touch.wide (fun b _ e => .inr (e.elim id id)), h.same, fun b hb => by rcases h.new b hb with e | e | e; exact .inl e; exact .inr (.inr e); exact .inr (.inr e), h.end'⟩
theorem Stp.keepc {w0' w0 w w' : World} {cls : Nat → Nat} {i j : Nat} (hs : SB w0' w0 w cls) (ht : Touch (fun b => cls b = i ∨ cls b = j) w w') : Stp w w' cls cls i j :=
 ⟨ht, fun _ _ => rfl, fun b hb => .inl (Classical.byContradiction fun e => by have := hs.lt b e; omega), fun b hb => Classical.byContradiction fun e => by have := hs.lt b e; have := ht.size; omega⟩
theorem SB.zero {w w0 wr : World} {cls : Nat → Nat} (h : SB w w0 wr cls) {b : Nat} (hb : wr.heap.size ≤ b) : cls b = 0 := Classical.byContradiction fun e => by have := h.lt b e; omega
def stepP (p : Par) (kind mode key : Int) : Par := if kind = 1 then (feedP p mode key).1 else if kind = 3 then ⟨[], p.sel⟩ else p
theorem step_good {p : Par} (h : GoodP p) (kind mode key : Int) : GoodP (stepP p kind mode key) := by
 unfold stepP
 split
 · exact good_feed h mode key
 ·
  split
  · exact good_nil _
  · exact h
theorem step_key {p : Par} (h : ∀ x ∈ p.pend, inKey x) {kind mode key : Int} (hx : inKey key) : ∀ x ∈ (stepP p kind mode key).pend, inKey x := by
 unfold stepP
 split
 · exact feed_pend h hx
 ·
  split
  · intro x hx; cases hx
  · exact h
theorem step_len {p : Par} {kind mode key : Int} : (stepP p kind mode key).pend.length ≤ p.pend.length + 1 := by
 unfold stepP
 split
 · exact feed_plen
 ·
  split
  · exact Nat.zero_le _
  · omega
end Go.Proofs.Ytampjndfhpjheaa
namespace Go.Proofs.Ytampjndfhpjheaa
open Go.RowKit
set_option linter.unusedVariables false
set_option linter.unusedSimpArgs false
set_option maxRecDepth 100000 in
set_option maxHeartbeats 8000000 in
theorem dfeed_c (w0 : World) (rb t0 t1 : Nat) (s : Option Addr) (c : Nat) (p : Par) (mode key : Int) (w : World) (h0 : TabD w0 t0 false) (h1 : TabD w0 t1 true) (hk : KeepT w0 w) (hr : RB w rb t0 t1 s p.pend.length c p.sel) (ho : OwnInts w 0 (.slice s p.pend.length c) p.pend) (hl : p.pend.length < 1048577) :
  Calls Try.prog 27 #[.pointer (some ⟨rb, 0, none⟩), .int .i64 mode, .int .i64 key] w fun e w' => e = .returned (.tuple #[.agg (feedD p mode key).2.1.cells, .int .i64 ((feedD p mode key).2.2 : Nat)]) ∧
   (∃ s' c', RB w' rb t0 t1 s' (feedD p mode key).1.pend.length c' (feedD p mode key).1.sel ∧ OwnInts w' 0 (.slice s' (feedD p mode key).1.pend.length c') (feedD p mode key).1.pend ∧ ∀ b, (Value.slice s' (feedD p mode key).1.pend.length c').ownBlock = some b → w.heap.size ≤ b) ∧ Touch (fun b => b = rb) w w' := by
 have hbn := below_new2 w (.cells #[.int .i64 0, .int .i64 0, .int .i64 0, .int .i64 0, .int .i64 0] 44)
 have h6 := one_new w (.cells #[.int .i64 0, .int .i64 0, .int .i64 0, .int .i64 0, .int .i64 0] 44)
 obtain ⟨pend, sel⟩ := p
 have H0 := Lib.hid h0
 have H1 := Lib.hid h1
 have HK := Lib.hid hk
 have HR := Lib.hid (show RB _ rb t0 t1 s pend.length c sel from (hbn.block _ (heap_lt hr)).trans hr)
 have HO := Lib.hid (ho.later hbn)
 have H6 := Lib.hid h6
 have HT := Lib.hid (Touch.of (O := fun b => b = rb) hbn)
 have hne : w.heap.size ≠ rb := by have := heap_lt hr; omega
 have hnot := Lib.hid (hr.not hk)
 obtain ⟨r, hrr⟩ : ∃ r, feedD ⟨pend, sel⟩ mode key = r := ⟨_, rfl⟩
 rw [hrr]
 have HRR := Lib.hid hrr
 simp only at hl
 clear h0 h1 hk hr ho h6 hbn hrr
 go_enter Try.func27, Try.ntmps27
 go_upto_region 1 with (fail)
 generalize w.alloc (.cells #[.int .i64 0, .int .i64 0, .int .i64 0, .int .i64 0, .int .i64 0] 44) = w1 at HR HO H6 HT ⊢
 go_wp2_with fail
 refine (selects_c mode w1).mono ?_
 rintro e w2 ⟨rfl, rfl⟩
 obtain ⟨sm, hsm⟩ : ∃ sm, sm = selP mode := ⟨_, rfl⟩
 have HSM := Lib.hid hsm.symm
 rw [← hsm]
 clear hsm
 have c2 : w2.cell? ⟨rb, 2, none⟩ = some (.slice s pend.length c) := block_cell HR.out
 have f2 : w2.frozen? ⟨rb, 2, none⟩ = false := block_free HR.out
 have c3 : w2.cell? ⟨rb, 3, none⟩ = some (.bool sel) := block_cell HR.out
 have f3 : w2.frozen? ⟨rb, 3, none⟩ = false := block_free HR.out
 go_upto_if 21 with (fail)
 go_cut [] (fun wc => ∃ (q : List Int) (s' : Option Addr) (c' : Nat), RB wc rb t0 t1 s' q.length c' sel ∧ OwnInts wc 0 (.slice s' q.length c') q ∧ Hid (q = if sm = sel then pend else []) ∧ wc.heap[w.heap.size]? = some (.cells #[.int .i64 0, .int .i64 0, .int .i64 0, .int .i64 0, .int .i64 0] 44 (0, 0)) ∧ Touch (fun b => b = rb) w wc)
 case first =>
  have hset : RB (w2.setCell ⟨rb, 2, none⟩ (.slice none 0 0)) rb t0 t1 none 0 0 sel := by
   unfold RB; rw [block_set _ HR.out]; rfl
  have ts := Touch.setCell (fun b => b = rb) w2 (p := ⟨rb, 2, none⟩) rfl (.slice none 0 0)
  have HSET := Lib.hid hset
  have HT2 := Lib.hid (HT.out.trans ts (fun x hx => .inl hx))
  have H62 := Lib.hid ((ts.block w.heap.size (heap_lt H6.out) hne).trans H6.out)
  clear hset ts
  cases sm <;> cases sel
  ·
   have HQ : Hid (pend = if false = false then pend else []) := Lib.hid (if_pos rfl).symm
   go_wp2
   go_meet
   exact ⟨pend, s, c, HR.out, HO.out, HQ, H6.out, HT.out⟩
  ·
   have HQ : Hid (([] : List Int) = if false = true then pend else []) := Lib.hid (if_neg (by decide)).symm
   go_wp2
   go_meet
   exact ⟨[], none, 0, HSET.out, OwnInts.nil _ _, HQ, H62.out, HT2.out⟩
  ·
   have HQ : Hid (([] : List Int) = if true = false then pend else []) := Lib.hid (if_neg (by decide)).symm
   go_wp2
   go_meet
   exact ⟨[], none, 0, HSET.out, OwnInts.nil _ _, HQ, H62.out, HT2.out⟩
  ·
   have HQ : Hid (pend = if true = true then pend else []) := Lib.hid (if_pos rfl).symm
   go_wp2
   go_meet
   exact ⟨pend, s, c, HR.out, HO.out, HQ, H6.out, HT.out⟩
 case rest =>
  obtain ⟨q, s', c', hr, ho, HQ, h6, ht⟩ := hcut
  have hql : q.length < 1048577 := by
   rw [HQ.out]
   split
   · exact hl
   · decide
  have HPP := Lib.hid (show pp ⟨pend, sel⟩ mode = q from by rw [HQ.out, ← HSM.out]; rfl)
  have ts := Touch.setCell (fun b => b = rb) wc (p := ⟨rb, 3, none⟩) rfl (.bool sm)
  have c3 : wc.cell? ⟨rb, 3, none⟩ = some (.bool sel) := block_cell hr
  have f3 : wc.frozen? ⟨rb, 3, none⟩ = false := block_free hr
  have HR3 := Lib.hid (show RB (wc.setCell ⟨rb, 3, none⟩ (.bool sm)) rb t0 t1 s' q.length c' sm from by unfold RB; rw [block_set _ hr]; rfl)
  have HT3 := Lib.hid (ht.trans ts (fun x hx => .inl hx))
  have H63 := Lib.hid ((ts.block w.heap.size (heap_lt h6) hne).trans h6)
  have HO3 := Lib.hid (ho.kept (w' := wc.setCell ⟨rb, 3, none⟩ (.bool sm)) (fun b hb he => by
   obtain ⟨cs, hty⟩ : ∃ cs, wc.heap[b]? = some (.cells cs 3 (0, 0)) := by
    rcases ho.2 with ⟨h1, _⟩ | ⟨g, cap, cur, h1, hg, hgg, _⟩
    · rw [h1] at he; cases he
    · rw [h1] at he; cases he; exact ⟨_, hgg⟩
   exact ts.block b hb (type_ne hty hr (by decide))))
  clear HR HO H6 HT hr ho h6 ht ts HQ c2 f2 hl
  go_upto_region 5 with (fail)
  generalize wc.setCell ⟨rb, 3, none⟩ (.bool sm) = w3 at HR3 HT3 H63 HO3 ⊢
  clear c3 f3
  by_cases h27 : key = 27
  ·
   subst h27
   have hre : r = (⟨[], sm⟩, cmd0, 3) := by rw [← HRR.out, ← HSM.out]; unfold feedD; exact if_pos rfl
   subst hre
   have c2 : w3.cell? ⟨rb, 2, none⟩ = some (.slice s' q.length c') := block_cell HR3.out
   have f2 : w3.frozen? ⟨rb, 2, none⟩ = false := block_free HR3.out
   have ts := Touch.setCell (fun b => b = rb) w3 (p := ⟨rb, 2, none⟩) rfl (.slice none 0 0)
   have HR4 := Lib.hid (show RB (w3.setCell ⟨rb, 2, none⟩ (.slice none 0 0)) rb t0 t1 none 0 0 sm from by unfold RB; rw [block_set _ HR3.out]; rfl)
   have HT4 := Lib.hid (HT3.out.trans ts (fun x hx => .inl hx))
   have H64 := Lib.hid ((ts.block w.heap.size (heap_lt H63.out) hne).trans H63.out)
   clear ts
   go_upto_region 7 with (fail)
   generalize w3.setCell ⟨rb, 2, none⟩ (.slice none 0 0) = w4 at HR4 HT4 H64 ⊢
   clear c2 f2
   have e0 : w4.cell? ⟨w.heap.size, 0, none⟩ = some (.int .i64 0) := block_cell H64.out
   have ef0 : w4.frozen? ⟨w.heap.size, 0, none⟩ = false := block_free H64.out
   have e1 : w4.cell? ⟨w.heap.size, 1, none⟩ = some (.int .i64 0) := block_cell H64.out
   have ef1 : w4.frozen? ⟨w.heap.size, 1, none⟩ = false := block_free H64.out
   have e2 : w4.cell? ⟨w.heap.size, 2, none⟩ = some (.int .i64 0) := block_cell H64.out
   have ef2 : w4.frozen? ⟨w.heap.size, 2, none⟩ = false := block_free H64.out
   have e3 : w4.cell? ⟨w.heap.size, 3, none⟩ = some (.int .i64 0) := block_cell H64.out
   have ef3 : w4.frozen? ⟨w.heap.size, 3, none⟩ = false := block_free H64.out
   have e4 : w4.cell? ⟨w.heap.size, 4, none⟩ = some (.int .i64 0) := block_cell H64.out
   have ef4 : w4.frozen? ⟨w.heap.size, 4, none⟩ = false := block_free H64.out
   go_wp2
   have t5 := set5_touch w4 w.heap.size cmd0
   refine bodyPost_ret (v := .tuple #[.agg #[.int .i64 0, .int .i64 0, .int .i64 0, .int .i64 0, .int .i64 0], .int .i64 3]) (by simp [results, Try.results27, go_sem, e0, e1, e2, e3, e4]) rfl ⟨rfl, ⟨none, 0, (t5.block rb (heap_lt HR4.out) (fun e => hne e.symm)).trans HR4.out, OwnInts.nil _ _, fun b hb => by cases hb⟩, HT4.out.trans t5 (fun x hx => .inr (by rw [show x = w.heap.size from hx]; exact Nat.le_refl _))⟩
  ·
   have h27b : (key == 27) = false := by rw [beq_eq_false_iff_ne]; exact h27
   have hre : r = (⟨if (readD sm (q ++ [key])).1 = 0 then q ++ [key] else [], sm⟩, (readD sm (q ++ [key])).2, (readD sm (q ++ [key])).1) := by
    rw [← HRR.out]; unfold feedD; rw [if_neg h27, HPP.out, HSM.out]
   have HRE := Lib.hid hre
   obtain ⟨tt, htt⟩ : ∃ tt, tt = if sm = true then t1 else t0 := ⟨_, rfl⟩
   have HTT := Lib.hid htt
   have c0 : w3.cell? ⟨rb, 0, none⟩ = some (.pointer (some ⟨t0, 0, none⟩)) := block_cell HR3.out
   have c1 : w3.cell? ⟨rb, 1, none⟩ = some (.pointer (some ⟨t1, 0, none⟩)) := block_cell HR3.out
   have c2 : w3.cell? ⟨rb, 2, none⟩ = some (.slice s' q.length c') := block_cell HR3.out
   clear htt hre h27 HRR HPP HSM
   go_upto_if 40 with (fail)
   go_cut [9] from 40 to 45 (fun v wd => v = .pointer (some ⟨tt, 0, none⟩) ∧ w3 = wd)
   case first =>
    cases sm
    ·
     have e : tt = t0 := by rw [HTT.out]; rfl
     subst e
     clear HTT
     go_wp2
     go_meet
     exact ⟨rfl, rfl⟩
    ·
     have e : tt = t1 := by rw [HTT.out]; rfl
     subst e
     clear HTT
     go_wp2
     go_meet
     exact ⟨rfl, rfl⟩
   case rest =>
    obtain ⟨rfl, rfl⟩ := hcut
    have HTD := Lib.hid (show TabD w0 tt sm from by
     rw [HTT.out]
     cases sm
     · exact H0.out
     · exact H1.out)
    clear HTT H0 H1
    obtain ⟨h, hh⟩ : ∃ h, h = gl (q ++ [key]) := ⟨_, rfl⟩
    have HH1 := Lib.hid (show ∀ i, i < q.length → h i = gl q i from fun i hi => by rw [hh, gl_left hi])
    have HH2 := Lib.hid (show h q.length = key from by rw [hh]; unfold gl; rw [List.getD_eq_getElem?_getD, List.getElem?_append_right (Nat.le_refl _), Nat.sub_self]; rfl)
    have HH3 := Lib.hid (show lst h (q.length + 1) = q ++ [key] from by rw [hh]; exact lst_gl (by simp))
    have HQI := Lib.hid HO3.out.is
    clear hh c0 c1
    have HK3 := Lib.hid (HK.out.touch HT3.out (fun b cs t e h1 => by rw [show b = rb from e] at h1; exact hnot.out cs t h1))
    have HTW := Lib.hid (HK3.out.tab HTD.out)
    clear HK HTD HK3
    go_wp2_with fail
    go_loopg [10, 11] q.length (fun g v iv wr => ∃ k : Nat, ∃ sl : Option Addr, ∃ cl : Nat, k + g = q.length ∧ v = .slice sl k cl ∧ iv = .int .i64 k ∧ OwnInts wr w3.heap.size (.slice sl k cl) (lst h k) ∧ Below w3.heap.size w3 wr)
    case atStart => exact ⟨0, none, 0, by omega, rfl, rfl, OwnInts.nil _ _, Below.refl _ _⟩
    case round =>
     clear c2
     obtain ⟨k, sl, cl, hk, rfl, rfl, ho1, hb⟩ := hrel
     have HO := Lib.hid ho1
     have HB := Lib.hid hb
     have hrw : wr.heap[rb]? = _ := (hb.block rb (heap_lt HR3.out)).trans HR3.out
     have c2 : wr.cell? ⟨rb, 2, none⟩ = some (.slice s' q.length c') := block_cell hrw
     clear ho1 hb hrw
     by_cases hlt : k < q.length
     ·
      obtain ⟨b, off, hbo, c0⟩ := HQI.out.at HB.out hlt
      subst hbo
      obtain ⟨x, hx⟩ : ∃ x, gl q k = x := ⟨_, rfl⟩
      rw [hx] at c0
      have HX := Lib.hid ((HH1.out k hlt).trans hx)
      clear hx
      go_wp2_with (first | (at_builtin; refine wpList_push _ rfl _ _ rfl w3.heap.size _ _ _ h rfl rfl HO.out HX.out (by omega) HB.out.size ?_; intro s2 c2 w2 ho2 hb2; have HO2 := Lib.hid ho2; have HB2 := Lib.hid (HB.out.trans hb2); clear ho2 hb2))
      go_roundg (gk - 1)
      case measure => omega
      case rel => exact ⟨k + 1, _, _, by omega, rfl, by go_num, HO2.out, HB2.out⟩
     ·
      obtain rfl : k = q.length := by omega
      go_wp2_with (first | (at_builtin; refine wpList_push _ rfl _ _ rfl w3.heap.size _ _ _ h rfl rfl HO.out HH2.out (by omega) HB.out.size ?_; intro s4 c4 w4 ho4 hb4; have HO4 := Lib.hid ho4; have HB4 := Lib.hid (HB.out.trans hb4); clear ho4 hb4))
      have HO5 := Lib.hid (show OwnInts w4 w3.heap.size (.slice s4 (q.length + 1) c4) (q ++ [key]) from by have h := HO4.out; rw [HH3.out] at h; exact h)
      have hrc := reads_c tt sm s4 (q.length + 1) c4 (q ++ [key]) w4 (HTW.out.later HB4.out) (by simp) (by omega) (by have h := own_room HO5.out; simpa using h) HO5.out.is
      obtain ⟨M, hM⟩ : ∃ M, readD sm (q ++ [key]) = M := ⟨_, rfl⟩
      rw [hM] at hrc HRE
      obtain ⟨m, ⟨a1, a2, a3, a4, a5⟩⟩ := M
      have HRC : Hid (Calls Try.prog 61 #[.pointer (some ⟨tt, 0, none⟩), .slice s4 (q.length + 1) c4] w4 fun e w' => e = .returned (.tuple #[.agg #[.int .i64 a1, .int .i64 a2, .int .i64 a3, .int .i64 a4, .int .i64 a5], .int .i64 (m : Nat)]) ∧ Below w4.heap.size w4 w') := Lib.hid hrc
      clear hM hrc c2 HO4 HO HB HH1 HH2 HH3 HQI
      refine HRC.out.mono ?_
      rintro e w5 ⟨rfl, hb5⟩
      have HB5 := Lib.hid (HB4.out.trans (hb5.mono HB4.out.size))
      have HO6 := Lib.hid (HO5.out.later hb5)
      clear hb5 HRC HTW HO5 HB4
      go_upto_region 18 with (fail)
      have hb6 : Below w5.heap.size w5 (w5.alloc (.cells #[.int .i64 a1, .int .i64 a2, .int .i64 a3, .int .i64 a4, .int .i64 a5] 44)) := below_new2 w5 _
      have hk6 := one_new w5 (.cells #[.int .i64 a1, .int .i64 a2, .int .i64 a3, .int .i64 a4, .int .i64 a5] 44)
      have HO7 := Lib.hid (HO6.out.later hb6)
      have HB6 := Lib.hid (HB5.out.trans (hb6.mono HB5.out.size))
      have HCB := Lib.hid hk6
      clear hb6 hk6 HO6 HB5
      generalize w5.alloc (.cells #[.int .i64 a1, .int .i64 a2, .int .i64 a3, .int .i64 a4, .int .i64 a5] 44) = w6 at HO7 HB6 HCB ⊢
      generalize w5.heap.size = cb at HCB ⊢
      have hr6 : w6.heap[rb]? = _ := (HB6.out.block rb (heap_lt HR3.out)).trans HR3.out
      have HR6 := Lib.hid hr6
      have c2 : w6.cell? ⟨rb, 2, none⟩ = some (.slice s' q.length c') := block_cell hr6
      have f2 : w6.frozen? ⟨rb, 2, none⟩ = false := block_free hr6
      have ts := Touch.setCell (fun b => b = rb) w6 (p := ⟨rb, 2, none⟩) rfl (.slice none 0 0)
      have HR7 := Lib.hid (show RB (w6.setCell ⟨rb, 2, none⟩ (.slice none 0 0)) rb t0 t1 none 0 0 sm from by unfold RB; rw [block_set _ hr6]; rfl)
      have HT7 := Lib.hid ((HT3.out.trans (Touch.of (O := fun b => b = rb) HB6.out) (fun x hx => .inl hx)).trans ts (fun x hx => .inl hx))
      have H67 := Lib.hid ((ts.block w.heap.size (heap_lt ((HB6.out.block _ (heap_lt H63.out)).trans H63.out)) hne).trans ((HB6.out.block _ (heap_lt H63.out)).trans H63.out))
      have HCB7 := Lib.hid ((ts.block cb (heap_lt HCB.out) (type_ne HCB.out hr6 (by decide))).trans HCB.out)
      have HO8 := Lib.hid (HO7.out.kept (w' := w6.setCell ⟨rb, 2, none⟩ (.slice none 0 0)) (fun b hb he => by
       obtain ⟨cs, hty⟩ : ∃ cs, w6.heap[b]? = some (.cells cs 3 (0, 0)) := by
        rcases HO7.out.2 with ⟨h1, _⟩ | ⟨g, cap, cur, h1, hg, hgg, _⟩
        · rw [h1] at he; cases he
        · rw [h1] at he; cases he; exact ⟨_, hgg⟩
       exact ts.block b hb (type_ne hty HR6.out (by decide))))
      clear hr6 ts HR6 HCB HO7 HB6 H63
      go_upto_region 19 with (fail)
      generalize w6.setCell ⟨rb, 2, none⟩ (.slice none 0 0) = w7 at HR7 HT7 H67 HCB7 HO8 ⊢
      clear c2 f2
      by_cases hm : m = 0
      ·
       subst hm
       have hre : r = (⟨q ++ [key], sm⟩, ⟨a1, a2, a3, a4, a5⟩, 0) := by rw [HRE.out]; rfl
       subst hre
       have c2 : w7.cell? ⟨rb, 2, none⟩ = some (.slice none 0 0) := block_cell HR7.out
       have f2 : w7.frozen? ⟨rb, 2, none⟩ = false := block_free HR7.out
       have ts := Touch.setCell (fun b => b = rb) w7 (p := ⟨rb, 2, none⟩) rfl (.slice s4 (q.length + 1) c4)
       have hlen : (q ++ [key]).length = q.length + 1 := by simp
       have HR8 := Lib.hid (show RB (w7.setCell ⟨rb, 2, none⟩ (.slice s4 (q.length + 1) c4)) rb t0 t1 s4 (q.length + 1) c4 sm from by unfold RB; rw [block_set _ HR7.out]; rfl)
       have HT8 := Lib.hid (HT7.out.trans ts (fun x hx => .inl hx))
       have H68 := Lib.hid ((ts.block w.heap.size (heap_lt H67.out) hne).trans H67.out)
       have HCB8 := Lib.hid ((ts.block cb (heap_lt HCB7.out) (type_ne HCB7.out HR7.out (by decide))).trans HCB7.out)
       have HO9 := Lib.hid (show OwnInts (w7.setCell ⟨rb, 2, none⟩ (.slice s4 (q.length + 1) c4)) w3.heap.size (.slice s4 (q.length + 1) c4) (q ++ [key]) from by
        exact HO8.out.kept (fun b hb he => by
         obtain ⟨cs, hty⟩ : ∃ cs, w7.heap[b]? = some (.cells cs 3 (0, 0)) := by
          rcases HO8.out.2 with ⟨h1, _⟩ | ⟨g, cap, cur, h1, hg, hgg, _⟩
          · rw [h1] at he; cases he
          · rw [h1] at he; cases he; exact ⟨_, hgg⟩
         exact ts.block b hb (type_ne hty HR7.out (by decide))))
       have HZ3 := Lib.hid HT3.out.size
       clear ts hlen HR7 HT7 H67 HCB7 HO8 HRE
       go_upto_region 21 with (fail)
       generalize w7.setCell ⟨rb, 2, none⟩ (.slice s4 (q.length + 1) c4) = w8 at HR8 HT8 H68 HCB8 HO9 ⊢
       clear c2 f2
       have e0 : w8.cell? ⟨w.heap.size, 0, none⟩ = some (.int .i64 0) := block_cell H68.out
       have ef0 : w8.frozen? ⟨w.heap.size, 0, none⟩ = false := block_free H68.out
       have e1 : w8.cell? ⟨w.heap.size, 1, none⟩ = some (.int .i64 0) := block_cell H68.out
       have ef1 : w8.frozen? ⟨w.heap.size, 1, none⟩ = false := block_free H68.out
       have e2 : w8.cell? ⟨w.heap.size, 2, none⟩ = some (.int .i64 0) := block_cell H68.out
       have ef2 : w8.frozen? ⟨w.heap.size, 2, none⟩ = false := block_free H68.out
       have e3 : w8.cell? ⟨w.heap.size, 3, none⟩ = some (.int .i64 0) := block_cell H68.out
       have ef3 : w8.frozen? ⟨w.heap.size, 3, none⟩ = false := block_free H68.out
       have e4 : w8.cell? ⟨w.heap.size, 4, none⟩ = some (.int .i64 0) := block_cell H68.out
       have ef4 : w8.frozen? ⟨w.heap.size, 4, none⟩ = false := block_free H68.out
       have n0 : w8.cell? ⟨cb, 0, none⟩ = some (.int .i64 a1) := block_cell HCB8.out
       have n1 : w8.cell? ⟨cb, 1, none⟩ = some (.int .i64 a2) := block_cell HCB8.out
       have n2 : w8.cell? ⟨cb, 2, none⟩ = some (.int .i64 a3) := block_cell HCB8.out
       have n3 : w8.cell? ⟨cb, 3, none⟩ = some (.int .i64 a4) := block_cell HCB8.out
       have n4 : w8.cell? ⟨cb, 4, none⟩ = some (.int .i64 a5) := block_cell HCB8.out
       go_wp2
       have t5 := set5_touch w8 w.heap.size ⟨a1, a2, a3, a4, a5⟩
       refine bodyPost_ret (v := .tuple #[.agg #[.int .i64 a1, .int .i64 a2, .int .i64 a3, .int .i64 a4, .int .i64 a5], .int .i64 0]) (by simp [results, Try.results27, go_sem, e0, e1, e2, e3, e4]) rfl ⟨rfl, ⟨s4, c4, (t5.block rb (heap_lt HR8.out) (fun e => hne e.symm)).trans HR8.out, ?_, fun b hb => Nat.le_trans HZ3.out (World.ownsRow.lt HO9.out b hb).1⟩, HT8.out.trans t5 (fun x hx => .inr (by rw [show x = w.heap.size from hx]; exact Nat.le_refl _))⟩
       exact (HO9.out.mono (Nat.zero_le _)).kept (fun b hb he => by
        obtain ⟨cs, hty⟩ : ∃ cs, w8.heap[b]? = some (.cells cs 3 (0, 0)) := by
         rcases HO9.out.2 with ⟨h1, _⟩ | ⟨g, cap, cur, h1, hg, hgg, _⟩
         · rw [h1] at he; cases he
         · rw [h1] at he; cases he; exact ⟨_, hgg⟩
        exact t5.block b hb (type_ne hty H68.out (by decide)))
      ·
       have hmb : ((m : Int) == 0) = false := by rw [beq_eq_false_iff_ne]; omega
       have hre : r = (⟨[], sm⟩, ⟨a1, a2, a3, a4, a5⟩, m) := by rw [HRE.out]; exact congrArg (fun z => (({ pend := z, sel := sm } : Par), (⟨a1, a2, a3, a4, a5⟩ : Cmd), m)) (if_neg hm)
       subst hre
       clear hm HRE HO8
       go_upto_region 21 with (fail)
       clear hmb
       have e0 : w7.cell? ⟨w.heap.size, 0, none⟩ = some (.int .i64 0) := block_cell H67.out
       have ef0 : w7.frozen? ⟨w.heap.size, 0, none⟩ = false := block_free H67.out
       have e1 : w7.cell? ⟨w.heap.size, 1, none⟩ = some (.int .i64 0) := block_cell H67.out
       have ef1 : w7.frozen? ⟨w.heap.size, 1, none⟩ = false := block_free H67.out
       have e2 : w7.cell? ⟨w.heap.size, 2, none⟩ = some (.int .i64 0) := block_cell H67.out
       have ef2 : w7.frozen? ⟨w.heap.size, 2, none⟩ = false := block_free H67.out
       have e3 : w7.cell? ⟨w.heap.size, 3, none⟩ = some (.int .i64 0) := block_cell H67.out
       have ef3 : w7.frozen? ⟨w.heap.size, 3, none⟩ = false := block_free H67.out
       have e4 : w7.cell? ⟨w.heap.size, 4, none⟩ = some (.int .i64 0) := block_cell H67.out
       have ef4 : w7.frozen? ⟨w.heap.size, 4, none⟩ = false := block_free H67.out
       have n0 : w7.cell? ⟨cb, 0, none⟩ = some (.int .i64 a1) := block_cell HCB7.out
       have n1 : w7.cell? ⟨cb, 1, none⟩ = some (.int .i64 a2) := block_cell HCB7.out
       have n2 : w7.cell? ⟨cb, 2, none⟩ = some (.int .i64 a3) := block_cell HCB7.out
       have n3 : w7.cell? ⟨cb, 3, none⟩ = some (.int .i64 a4) := block_cell HCB7.out
       have n4 : w7.cell? ⟨cb, 4, none⟩ = some (.int .i64 a5) := block_cell HCB7.out
       go_wp2
       have t5 := set5_touch w7 w.heap.size ⟨a1, a2, a3, a4, a5⟩
       exact bodyPost_ret (v := .tuple #[.agg #[.int .i64 a1, .int .i64 a2, .int .i64 a3, .int .i64 a4, .int .i64 a5], .int .i64 (m : Nat)]) (by simp [results, Try.results27, go_sem, e0, e1, e2, e3, e4]) rfl ⟨rfl, ⟨none, 0, (t5.block rb (heap_lt HR7.out) (fun e => hne e.symm)).trans HR7.out, OwnInts.nil _ _, fun b hb => by cases hb⟩, HT7.out.trans t5 (fun x hx => .inr (by rw [show x = w.heap.size from hx]; exact Nat.le_refl _))⟩
end Go.Proofs.Ytampjndfhpjheaa
namespace Go.Proofs.Ytampjndfhpjheaa
open Go.RowKit
set_option linter.unusedVariables false
set_option linter.unusedSimpArgs false
set_option maxRecDepth 100000 in
set_option maxHeartbeats 8000000 in
theorem played_c (w w0 wr : World) (cls : Nat → Nat) (i j pb rb : Nat) (p : Par) (kd who mode key : Int) (hi : i ≠ 0) (hj : j ≠ 0) (hij : i ≠ j) (hs : SB w w0 wr cls) (hp : PP w0 wr cls i pb p) (hd : DP w0 wr cls j rb p) (hg : GoodP p) (hk : ∀ x ∈ p.pend, inKey x) (hkey : inKey key) (hl : p.pend.length < 1048577) :
  Calls Try.prog 25 #[.pointer (some ⟨pb, 0, none⟩), .pointer (some ⟨rb, 0, none⟩), .agg #[.int .i64 kd, .int .i64 who, .int .i64 mode, .int .i64 key]] wr
   fun e w' => e = .returned (.bool true) ∧ ∃ cls', SB w w0 w' cls' ∧ PP w0 w' cls' i pb (stepP p kd mode key) ∧ DP w0 w' cls' j rb (stepP p kd mode key) ∧ Stp wr w' cls cls' i j := by
 have hbn := below_new2 wr (.cells #[.int .i64 kd, .int .i64 who, .int .i64 mode, .int .i64 key] 64)
 have h5 := one_new wr (.cells #[.int .i64 kd, .int .i64 who, .int .i64 mode, .int .i64 key] 64)
 have HS := Lib.hid (hs.later hbn)
 have HP := Lib.hid (hp.later hs hbn)
 have HD := Lib.hid (hd.later hs hbn)
 have HST := Lib.hid (Stp.of hs hbn i j)
 have H5 := Lib.hid h5
 have hz5 := hs.zero (Nat.le_refl wr.heap.size)
 have HG := Lib.hid hg
 have HK := Lib.hid hk
 have HKY := Lib.hid hkey
 clear hs hp hd hbn h5 hg hk hkey
 obtain ⟨bx, hbx⟩ : ∃ bx, bx = wr.heap.size := ⟨_, rfl⟩
 rw [← hbx] at H5 hz5
 go_enter Try.func25, Try.ntmps25
 go_upto_region 1 with (fail)
 rw [← hbx]
 clear hbx
 generalize wr.alloc (.cells #[.int .i64 kd, .int .i64 who, .int .i64 mode, .int .i64 key] 64) = w1 at HS HP HD HST H5 ⊢
 have z0 : w1.cell? ⟨bx, 0, none⟩ = some (.int .i64 kd) := block_cell H5.out
 have z2 : w1.cell? ⟨bx, 2, none⟩ = some (.int .i64 mode) := block_cell H5.out
 have z3 : w1.cell? ⟨bx, 3, none⟩ = some (.int .i64 key) := block_cell H5.out
 by_cases h1 : kd = 1
 ·
  subst h1
  obtain ⟨R, hpf, hR⟩ := HP.out
  obtain ⟨t0, t1, s, c, ht0, ht1, hrb, hown, hcl, hcr⟩ := HD.out
  have hfc := feed_f (fun b => cls b = i) R pb p mode key w1 hpf HK.out HKY.out (by omega)
  have HLAW := Lib.hid (feed_law HG.out mode key)
  have HSP := Lib.hid (show stepP p 1 mode key = (feedP p mode key).1 from if_pos rfl)
  obtain ⟨F, hF⟩ : ∃ F, feedP p mode key = F := ⟨_, rfl⟩
  rw [hF] at hfc HLAW HSP
  obtain ⟨p', ⟨a1, a2, a3, a4, a5⟩, m⟩ := F
  have HFC : Hid (Calls Try.prog 26 #[.pointer (some ⟨pb, 0, none⟩), .int .i64 mode, .int .i64 key] w1 fun e w' => e = .returned (.tuple #[.agg #[.int .i64 a1, .int .i64 a2, .int .i64 a3, .int .i64 a4, .int .i64 a5], .int .i64 (m : Nat)]) ∧ ParF w' (FG (fun b => cls b = i) w1 w') R pb p' ∧ Touch (fun b => cls b = i) w1 w') := Lib.hid hfc
  have HT0 := Lib.hid ht0
  have HT1 := Lib.hid ht1
  have HR := Lib.hid hR
  clear hpf ht0 ht1 hrb hown hcl hcr hfc hF hR
  go_wp2_with fail
  refine HFC.out.mono ?_
  clear z0 z2 z3 HFC
  rintro e w2 ⟨rfl, hp2, ht2⟩
  have st2 := newK_stp (i := i) (j := i) (k := i) HS.out (ht2.wide (fun b _ e => .inl e)) (.inl rfl)
  have hs2 := HS.out.step hi hi st2
  have hp2' := PP.fed (w0 := w0) HS.out hi HR.out hp2
  have hd2 := DP.kept HS.out HD.out st2 (fun e => hij e.symm) (fun e => hij e.symm)
  have h52 := (ht2.block bx (heap_lt H5.out) (fun e => by have e : cls bx = i := e; omega)).trans H5.out
  generalize newK cls w1.heap.size w2.heap.size i = cls2 at st2 hs2 hp2' hd2
  have hst2 := HST.out.trans hi hj (st2.left j)
  have hb3 := below_new2 w2 (.cells #[.int .i64 a1, .int .i64 a2, .int .i64 a3, .int .i64 a4, .int .i64 a5] 44)
  have hk3 := one_new w2 (.cells #[.int .i64 a1, .int .i64 a2, .int .i64 a3, .int .i64 a4, .int .i64 a5] 44)
  have HS3 := Lib.hid (hs2.later hb3)
  have HP3 := Lib.hid (hp2'.later hs2 hb3)
  have HD3 := Lib.hid (hd2.later hs2 hb3)
  have HST3 := Lib.hid (hst2.later hi hj hs2 hb3)
  have H53 := Lib.hid ((hb3.block bx (heap_lt h52)).trans h52)
  have HK3 := Lib.hid hk3
  have hzc : cls2 w2.heap.size = 0 := hs2.zero (Nat.le_refl _)
  clear hp2 ht2 st2 hs2 hp2' hd2 h52 hst2 hb3 hk3 HS HP HD HST H5 HR
  go_upto_region 4 with (fail)
  generalize w2.alloc (.cells #[.int .i64 a1, .int .i64 a2, .int .i64 a3, .int .i64 a4, .int .i64 a5] 44) = w3 at HS3 HP3 HD3 HST3 H53 HK3 ⊢
  generalize w2.heap.size = cb at HK3 hzc ⊢
  have z2 : w3.cell? ⟨bx, 2, none⟩ = some (.int .i64 mode) := block_cell H53.out
  have z3 : w3.cell? ⟨bx, 3, none⟩ = some (.int .i64 key) := block_cell H53.out
  obtain ⟨t0, t1, s, c, ht0, ht1, hrb, hown, hcl, hcr⟩ := HD3.out
  have hfd := dfeed_c w0 rb t0 t1 s c p mode key w3 ht0 ht1 HS3.out.keep hrb hown hl
  rw [HLAW.out] at hfd
  have HFD : Hid (Calls Try.prog 27 #[.pointer (some ⟨rb, 0, none⟩), .int .i64 mode, .int .i64 key] w3 fun e w' => e = .returned (.tuple #[.agg #[.int .i64 a1, .int .i64 a2, .int .i64 a3, .int .i64 a4, .int .i64 a5], .int .i64 (m : Nat)]) ∧
   (∃ s' c', RB w' rb t0 t1 s' p'.pend.length c' p'.sel ∧ OwnInts w' 0 (.slice s' p'.pend.length c') p'.pend ∧ ∀ b, (Value.slice s' p'.pend.length c').ownBlock = some b → w3.heap.size ≤ b) ∧ Touch (fun b => b = rb) w3 w') := Lib.hid hfd
  have HTA := Lib.hid ht0
  have HTB := Lib.hid ht1
  have HCR := Lib.hid hcr
  have hrl := heap_lt hrb
  clear ht0 ht1 hrb hown hcl hcr hfd
  go_wp2_with fail
  refine HFD.out.mono ?_
  clear z2 z3 HFD
  rintro e w4 ⟨rfl, ⟨s', c', hr4, ho4, hb4⟩, ht4⟩
  have st4 := newK_stp (i := j) (j := j) (k := j) HS3.out (ht4.wide (fun b _ e => .inl (by rw [show b = rb from e]; exact HCR.out))) (.inl rfl)
  have hs4 := HS3.out.step hj hj st4
  have hd4 := DP.fed (p' := p') HTA.out HTB.out HCR.out hrl hr4 ho4 hb4
  have hp4 := PP.kept HS3.out HP3.out st4 hi hij hij hj hj
  have hk4 := (ht4.block cb (heap_lt HK3.out) (fun e => by have e : cb = rb := e; have h := HCR.out; rw [← e] at h; omega)).trans HK3.out
  generalize newK cls2 w3.heap.size w4.heap.size j = cls4 at st4 hs4 hd4 hp4
  have hst4 := HST3.out.trans hi hj (st4.right i)
  have hb5 := below_new2 w4 (.cells #[.int .i64 a1, .int .i64 a2, .int .i64 a3, .int .i64 a4, .int .i64 a5] 44)
  have hk5 := one_new w4 (.cells #[.int .i64 a1, .int .i64 a2, .int .i64 a3, .int .i64 a4, .int .i64 a5] 44)
  have HS5 := Lib.hid (hs4.later hb5)
  have HP5 := Lib.hid (hp4.later hs4 hb5)
  have HD5 := Lib.hid (hd4.later hs4 hb5)
  have HST5 := Lib.hid (hst4.later hi hj hs4 hb5)
  have HK4 := Lib.hid ((hb5.block cb (heap_lt hk4)).trans hk4)
  have HK5 := Lib.hid hk5
  clear hr4 ho4 hb4 ht4 st4 hs4 hd4 hp4 hk4 hst4 hb5 hk5 HS3 HP3 HD3 HST3 H53 HK3 HTA HTB HCR
  go_upto_region 5 with (fail)
  generalize w4.alloc (.cells #[.int .i64 a1, .int .i64 a2, .int .i64 a3, .int .i64 a4, .int .i64 a5] 44) = w5 at HS5 HP5 HD5 HST5 HK4 HK5 ⊢
  generalize w4.heap.size = cb2 at HK5 ⊢
  obtain ⟨m0, m1, m2, m3, m4⟩ := cells5 HK4.out
  obtain ⟨n0, n1, n2, n3, n4⟩ := cells5 HK5.out
  go_wp2
  go_ret
  exact ⟨rfl, cls4, HS5.out, by rw [HSP.out]; exact HP5.out, by rw [HSP.out]; exact HD5.out, HST5.out⟩
 ·
  have q1 : (kd == 1) = false := by rw [beq_eq_false_iff_ne]; exact h1
  by_cases h2 : kd = 2
  ·
   subst h2
   have HSP := Lib.hid (show stepP p 2 mode key = p from rfl)
   obtain ⟨R, ⟨ow, tb, hN, _⟩, hR⟩ := HP.out
   obtain ⟨t0, t1, s, c, ht0, ht1, hrb, hown, hcl, hcr⟩ := HD.out
   have HPC := Lib.hid (pending_c 0 ow pb tb p w1 hN (by omega))
   have HRB := Lib.hid hrb
   have HOW := Lib.hid hown
   obtain ⟨n, hn⟩ : ∃ n, p.pend.length = n := ⟨_, rfl⟩
   rw [hn] at HPC HRB HOW hl
   have HN := Lib.hid hn
   clear hN hR ht0 ht1 hrb hown hcl hcr hn
   go_wp2_with fail
   refine HPC.out.mono ?_
   clear z0 z2 z3 HPC
   rintro e w2 ⟨s2, c2, rfl, ho2, hb2⟩
   have hr2 : w2.heap[rb]? = _ := (hb2.block rb (heap_lt HRB.out)).trans HRB.out
   have r2 : w2.cell? ⟨rb, 2, none⟩ = some (.slice s n c) := block_cell hr2
   have hsm := same_any s2 s n c2 n c (gl p.pend) (gl p.pend) w2 (by unfold maxLen; omega) (by unfold maxLen; omega) ho2.is (HOW.out.later hb2).is
   rw [sameB_refl] at hsm
   have HSM := Lib.hid hsm
   have HO2 := Lib.hid ho2
   have HB2 := Lib.hid hb2
   clear ho2 hb2 hr2 hsm
   go_wp2_with fail
   refine HSM.out.mono ?_
   clear r2 HSM
   rintro e w3 ⟨rfl, hb3⟩
   have HB3 := Lib.hid (HB2.out.trans (hb3.mono HB2.out.size))
   have hrow := OwnInts.row (f := gl p.pend) (by have h := HO2.out.later hb3; rw [← lst_gl HN.out] at h; exact h)
   clear hb3
   rcases hrow with h0 | ⟨g, rfl, hgl, hir⟩
   ·
    subst h0
    go_wp2_with fail
    go_loopg [13] 0 (fun gg iv wq => iv = .int .i64 0 ∧ w3 = wq)
    case atStart => exact ⟨rfl, rfl⟩
    case round =>
     obtain ⟨rfl, rfl⟩ := hrel
     go_wp2
     go_ret
     exact ⟨rfl, cls, HS.out.later HB3.out, by rw [HSP.out]; exact HP.out.later HS.out HB3.out, by rw [HSP.out]; exact HD.out.later HS.out HB3.out, HST.out.later hi hj HS.out HB3.out⟩
   ·
    have HIR := Lib.hid hir
    clear hir
    go_wp2_with fail
    go_loopg [13] n (fun gg iv wq => ∃ (k : Nat) (f : Nat → Int), k + gg = n ∧ iv = .int .i64 k ∧ IRow wq g n f ∧ Below w1.heap.size w1 wq)
    case atStart => exact ⟨0, _, by omega, rfl, HIR.out, HB3.out⟩
    case round =>
     obtain ⟨k, f, hk, rfl, hir, hb⟩ := hrel
     have HB := Lib.hid hb
     have HIQ := Lib.hid hir
     clear hb
     by_cases hlt : k < n
     ·
      have c0 : wr.cell? ⟨g, k, none⟩ = some (.int .i64 (f k)) := hir.cell hlt
      have f0 : wr.frozen? ⟨g, k, none⟩ = false := hir.free k
      have HIX := Lib.hid (hir.set (g := fun z => if z = k then 120 else f z) k 120 (fun z hz => rfl))
      clear hir
      go_wp2
      go_roundg (gk - 1)
      case measure => omega
      case rel => exact ⟨k + 1, _, by omega, by go_num, HIX.out, HB.out.setCell (p := ⟨g, k, none⟩) hgl _⟩
     ·
      have hkn : ¬ (k : Int) < (n : Int) := by omega
      clear hir
      go_wp2
      go_ret
      exact ⟨rfl, cls, HS.out.later HB.out, by rw [HSP.out]; exact HP.out.later HS.out HB.out, by rw [HSP.out]; exact HD.out.later HS.out HB.out, HST.out.later hi hj HS.out HB.out⟩
  ·
   have q2 : (kd == 2) = false := by rw [beq_eq_false_iff_ne]; exact h2
   by_cases h3 : kd = 3
   ·
    subst h3
    have HSP := Lib.hid (show stepP p 3 mode key = ⟨[], p.sel⟩ from rfl)
    obtain ⟨R, hpf, hR⟩ := HP.out
    have HFC := Lib.hid (reset_f (fun b => cls b = i) R pb p w1 hpf)
    have HR := Lib.hid hR
    clear hpf hR
    go_wp2_with fail
    refine HFC.out.mono ?_
    clear z0 z2 z3 HFC
    rintro e w2 ⟨rfl, hp2, ht2⟩
    have st2 := Stp.keepc (i := i) (j := i) HS.out (ht2.wide (fun b _ e => .inl e))
    have hs2 := HS.out.step hi hi st2
    have hp2' : PP w0 w2 cls i pb ⟨[], p.sel⟩ := ⟨R, hp2, HR.out⟩
    have hd2 := DP.kept HS.out HD.out st2 (fun e => hij e.symm) (fun e => hij e.symm)
    have HST2 := Lib.hid (HST.out.trans hi hj (st2.left j))
    obtain ⟨t0, t1, s, c, ht0, ht1, hrb, hown, hcl, hcr⟩ := hd2
    have HDR := Lib.hid (dreset_c rb t0 t1 s _ c p.sel w2 hrb)
    have HS2 := Lib.hid hs2
    have HP2 := Lib.hid hp2'
    have HT0 := Lib.hid ht0
    have HT1 := Lib.hid ht1
    have HCR := Lib.hid hcr
    clear hp2 ht2 st2 hs2 hp2' hrb hown hcl hcr ht0 ht1 HR HP HD HST HS
    go_wp2_with fail
    refine HDR.out.mono ?_
    clear HDR
    rintro e w4 ⟨rfl, hr4, ht4⟩
    have st4 := Stp.keepc (i := j) (j := j) HS2.out (ht4.wide (fun b _ e => .inl (by rw [show b = rb from e]; exact HCR.out)))
    have hs4 := HS2.out.step hj hj st4
    have hp4 := PP.kept HS2.out HP2.out st4 hi hij hij hj hj
    have HS4 := Lib.hid hs4
    have HP4 := Lib.hid hp4
    have HST4 := Lib.hid (HST2.out.trans hi hj (st4.right i))
    have HD4 : Hid (DP w0 w4 cls j rb ⟨[], p.sel⟩) := Lib.hid ⟨t0, t1, none, 0, HT0.out, HT1.out, hr4, OwnInts.nil _ _, (fun b hb => by cases hb), HCR.out⟩
    clear hr4 ht4 st4 hs4 hp4 HS2 HP2 HST2
    go_wp2
    go_ret
    exact ⟨rfl, cls, HS4.out, by rw [HSP.out]; exact HP4.out, by rw [HSP.out]; exact HD4.out, HST4.out⟩
   ·
    have q3 : (kd == 3) = false := by rw [beq_eq_false_iff_ne]; exact h3
    have HSP := Lib.hid (show stepP p kd mode key = p from by unfold stepP; rw [if_neg h1, if_neg h3])
    clear z2 z3
    go_wp2
    go_ret
    exact ⟨rfl, cls, HS.out, by rw [HSP.out]; exact HP.out, by rw [HSP.out]; exact HD.out, HST.out⟩
end Go.Proofs.Ytampjndfhpjheaa
