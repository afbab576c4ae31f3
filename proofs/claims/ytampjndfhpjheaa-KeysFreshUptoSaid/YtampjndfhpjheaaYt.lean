/- Contract: look. Condition: fewer than 2^62 keys. -/
import Derived.Test.YtampjndfhpjheaaYs
import Derived.Deep.DeepCutAuto
import Derived.Deep.CutBlock
namespace Go.Proofs.Ytampjndfhpjheaa
open Go.RowKit
theorem lookG_done {S : TrieS} (hS : TrieOk S) {r : List Int × Int} {l : List Int} (hr : r ∈ S) (hp : r.1 <+: l) : lookG S l = (1, some r) := by
  unfold lookG
  cases hf : S.find? (fun r => r.1.isPrefixOf l) with
  | none =>
    have := List.find?_eq_none.1 hf r hr
    exact absurd (List.isPrefixOf_iff_prefix.2 hp) this
  | some x =>
    have h1 := List.mem_of_find?_eq_some hf
    have h2' := List.find?_some hf
    have h2 := List.isPrefixOf_iff_prefix.1 h2'
    rcases List.prefix_or_prefix_of_prefix hp h2 with h | h
    · rw [trie_only hS hr h1 h]
    · rw [trie_only hS h1 hr h]
theorem lookG_none {S : TrieS} {l : List Int} (h : ∀ r ∈ S, ¬ r.1 <+: l) : S.find? (fun r => r.1.isPrefixOf l) = none :=
  List.find?_eq_none.2 fun r hr e => h r hr (List.isPrefixOf_iff_prefix.1 e)
theorem lookG_more {S : TrieS} {l : List Int} (h : ∀ r ∈ S, ¬ r.1 <+: l) (hl : l = [] ∨ preB S l = true) : lookG S l = (0, none) := by
  unfold lookG
  rw [lookG_none h]
  have : (l.isEmpty || S.any (fun r => l.isPrefixOf r.1)) = true := by
    rcases hl with rfl | hl
    · rfl
    · unfold preB at hl; rw [hl, Bool.or_true]
  simp only [this, if_true]
theorem lookG_bad {S : TrieS} {l : List Int} (h : ∀ r ∈ S, ¬ r.1 <+: l) (h0 : l ≠ []) (hl : preB S l = false) : lookG S l = (2, none) := by
  unfold lookG
  rw [lookG_none h]
  have : (l.isEmpty || S.any (fun r => l.isPrefixOf r.1)) = false := by
    unfold preB at hl
    rw [hl, Bool.or_false]
    cases l with
    | nil => exact absurd rfl h0
    | cons x t => rfl
  simp [this]
theorem lookS_1 {S : TrieS} {p : List Int} (h : (lookS S p).2 = 1) : ∃ r ∈ S, r.1 = p ∧ r.2 = (lookS S p).1 := by
  unfold lookS at *
  cases hf : S.find? (fun r => p.isPrefixOf r.1) with
  | none => rw [hf] at h; cases h
  | some r =>
    rw [hf] at h
    simp only at h ⊢
    have h1 := List.mem_of_find?_eq_some hf
    have h2' := List.find?_some hf
    have h2 := List.isPrefixOf_iff_prefix.1 h2'
    split at h
    · rename_i e
      rw [if_pos e]
      exact ⟨r, h1, (h2.eq_of_length e.symm).symm, rfl⟩
    · cases h
theorem lookS_0 {S : TrieS} (hS : TrieOk S) {p : List Int} (h : (lookS S p).2 = 0) : preB S p = true ∧ ∀ r ∈ S, r.1 ≠ p := by
  constructor
  · cases hp : preB S p
    · rw [lookS_bad hp] at h; cases h
    · rfl
  · intro r hr e
    subst e
    rw [lookS_done hS hr] at h; cases h
theorem lookS_2 {S : TrieS} {p : List Int} (h : (lookS S p).2 = 2) : preB S p = false := by
  cases hp : preB S p
  · rfl
  · exfalso
    unfold lookS at h
    cases hf : S.find? (fun r => p.isPrefixOf r.1) with
    | none =>
      obtain ⟨r, hr, hq⟩ := preB_iff.1 hp
      exact List.find?_eq_none.1 hf r hr (List.isPrefixOf_iff_prefix.2 hq)
    | some r =>
      rw [hf] at h
      simp only at h
      split at h <;> cases h
theorem lookS_3 (S : TrieS) (p : List Int) : (lookS S p).2 = 0 ∨ (lookS S p).2 = 1 ∨ (lookS S p).2 = 2 := by
  unfold lookS
  split
  · exact .inr (.inr rfl)
  · split
    · exact .inr (.inl rfl)
    · exact .inl rfl
/-- what look comes to while the shorter beginnings say more -/
theorem lookG_at1 {S : TrieS} (hS : TrieOk S) {l : List Int} {n : Nat} (h : (lookS S (l.take n)).2 = 1) : lookG S l = (1, some (l.take n, (lookS S (l.take n)).1)) := by
  obtain ⟨r, hr, h1, h2⟩ := lookS_1 h
  rw [← h1] at h2
  rw [lookG_done hS hr (by rw [h1]; exact List.take_prefix _ _), ← h1, ← h2]
theorem no_row {S : TrieS} (hS : TrieOk S) {l : List Int} {n : Nat} (hm : ∀ j, 1 ≤ j → j < n → (lookS S (l.take j)).2 = 0) {r : List Int × Int} (hr : r ∈ S) (hp : r.1 <+: l) : n ≤ r.1.length := by
  refine Classical.byContradiction fun hlt => ?_
  have h0 : 1 ≤ r.1.length := by
    rcases Nat.eq_zero_or_pos r.1.length with e | e
    · exact absurd (List.eq_nil_of_length_eq_zero e) (hS.1 r hr)
    · exact e
  have h1 := hm r.1.length h0 (by omega)
  rw [← List.prefix_iff_eq_take.1 hp, lookS_done hS hr] at h1
  cases h1
theorem lookG_at2 {S : TrieS} (hS : TrieOk S) {l : List Int} {n : Nat} (hn0 : 1 ≤ n) (hn : n ≤ l.length) (hm : ∀ j, 1 ≤ j → j < n → (lookS S (l.take j)).2 = 0) (h : (lookS S (l.take n)).2 = 2) : lookG S l = (2, none) := by
  have hpre := lookS_2 h
  refine lookG_bad (fun r hr hp => ?_) (fun e => by subst e; simp at hn; omega) ?_
  · have hlen := no_row hS hm hr hp
    have : preB S (l.take n) = true := preB_iff.2 ⟨r, hr, by
      have e := List.prefix_iff_eq_take.1 hp
      rw [e]
      exact List.take_prefix_take_left hlen⟩
    rw [hpre] at this; cases this
  · cases hp : preB S l
    · rfl
    · rw [preB_less hp (List.take_prefix n l)] at hpre; cases hpre
theorem lookG_at0 {S : TrieS} (hS : TrieOk S) {l : List Int} (hm : ∀ j, 1 ≤ j → j < l.length + 1 → (lookS S (l.take j)).2 = 0) : lookG S l = (0, none) := by
  refine lookG_more (fun r hr hp => ?_) ?_
  · have h1 := no_row hS hm hr hp
    have h2 := hp.length_le
    omega
  · rcases Nat.eq_zero_or_pos l.length with e | e
    · exact .inl (List.eq_nil_of_length_eq_zero e)
    · have := hm l.length e (by omega)
      rw [List.take_length] at this
      exact .inr (lookS_0 hS this).1
/-- the bound that look answers, and the keys that it leaves -/
def bvL (E : Int → BV) (S : TrieS) (l : List Int) : BV := match lookG S l with | (1, some r) => E r.2 | _ => bv0
def restL (S : TrieS) (l : List Int) : List Int := match lookG S l with | (1, some r) => l.drop r.1.length | _ => l
/-- a bound stored in a variable -/
def set6 (w : World) (b : Nat) (x : BV) : World := (((((w.setCell ⟨b, 0, none⟩ (.int .i64 x.v)).setCell ⟨b, 1, none⟩ (.int .i64 x.m)).setCell ⟨b, 2, none⟩ (.int .i64 x.a)).setCell ⟨b, 3, none⟩ (.bool x.more)).setCell ⟨b, 4, none⟩ (.slice x.os x.on x.oc)).setCell ⟨b, 5, none⟩ (.pointer x.dp)
theorem set6_other (w : World) (b : Nat) (x : BV) {c : Nat} (h : c ≠ b) : (set6 w b x).heap[c]? = w.heap[c]? := by
  unfold set6
  rw [Below.heap_setCell _ _ _ _ h, Below.heap_setCell _ _ _ _ h, Below.heap_setCell _ _ _ _ h, Below.heap_setCell _ _ _ _ h, Below.heap_setCell _ _ _ _ h, Below.heap_setCell _ _ _ _ h]
theorem set6_size (w : World) (b : Nat) (x : BV) : (set6 w b x).heap.size = w.heap.size := by unfold set6; simp [World.setCell]
theorem set6_touch (w : World) (b : Nat) (x : BV) : Touch (fun c => c = b) w (set6 w b x) := by
  have hs : ∀ (w : World) (j : Nat) (u : Value), Touch (fun c => c = b) w (w.setCell ⟨b, j, none⟩ u) := fun w j u => Touch.setCell (fun c => c = b) w (p := ⟨b, j, none⟩) rfl u
  unfold set6
  exact (((((hs _ _ _).trans (hs _ _ _) (fun x hx => .inl hx)).trans (hs _ _ _) (fun x hx => .inl hx)).trans (hs _ _ _) (fun x hx => .inl hx)).trans (hs _ _ _) (fun x hx => .inl hx)).trans (hs _ _ _) (fun x hx => .inl hx)
theorem set6_below {w : World} {W : World} (h : Below w.heap.size w W) (x : BV) : Below w.heap.size w (set6 W w.heap.size x) :=
  h.trans ((set6_touch W w.heap.size x).below (fun b hb => by subst hb; exact Nat.le_refl _) h.size)
theorem set6_at {w : World} {b : Nat} {y : BV} {t : TypeId} (h : w.heap[b]? = some (.cells y.cells t (0, 0))) (x : BV) : (set6 w b x).heap[b]? = some (.cells x.cells t (0, 0)) := by
  unfold set6
  rw [block_set _ (block_set _ (block_set _ (block_set _ (block_set _ (block_set _ h)))))]
  rfl
theorem RdOk.keep {w w' : World} {rb x : Nat} {l : List Int} {cnt : Int} {B : Nat} (h : RdOk w rb l cnt B) (ht : Touch (fun c => c = x) w w') (hx : rb ≠ x) (hB : B ≤ x) : RdOk w' rb l cnt B := by
  obtain ⟨s, c, h1, h2, h3, h4⟩ := h
  refine ⟨s, c, (ht.block _ (heap_lt h1) hx).trans h1, h2, ?_, h4⟩
  rcases h3 with h3 | ⟨b, o, rfl, hb, hc⟩
  · exact .inl h3
  · have hbB := (h4 _ rfl).2
    have hbB' : b < B := hbB
    exact .inr ⟨b, o, rfl, Nat.lt_of_lt_of_le hb ht.size, fun i hi => (World.cell?_of_block (w := w) (ht.block b hb (by omega))).trans (hc i hi)⟩
set_option maxRecDepth 100000 in
set_option maxHeartbeats 4000000 in
theorem look_c (O : Nat → Prop) (root ro : Nat) (E : Int → BV) (S : TrieS) (nb mb : List Int → Option Nat) (val : List Int → Option (Nat × Int)) (rb : Nat) (l : List Int) (cnt : Int) (B : Nat) (w : World) (hB : B ≤ w.heap.size) (hS : TrieOk S) (ht : TrieN 133 (encB E) w O root ro S nb mb val) (hr : RdOk w rb l cnt B) (hl : l.length < 4611686018427387904) (hkeys : ∀ x ∈ l, inKey x) :
    Calls Try.prog 85 #[.pointer (some ⟨rb, 0, none⟩), .pointer (some ⟨root, ro, none⟩)] w fun e w' => e = .returned (.tuple #[.agg (bvL E S l).cells, .int .i64 ((lookG S l).1 : Nat)]) ∧ RdOk w' rb (restL S l) cnt B ∧ Touch (fun b => b = rb) w w' := by
  have HT := Lib.hid ht
  have HR := Lib.hid hr
  have HKY := Lib.hid hkeys
  have HOK := Lib.hid hS
  have HW1 := Lib.hid (below_new2 w (.cells bv0.cells 133))
  have HW2 := Lib.hid (one_new w (.cells bv0.cells 133))
  obtain ⟨s, c, d1, d2, d3, d4⟩ := hr
  have D0 := Lib.hid d1
  have D3W := Lib.hid d3
  have D4 := Lib.hid d4
  have hr0 := heap_lt d1
  clear ht hkeys hS d1 d3 d4
  go_enter Try.func85, Try.ntmps85
  go_wp2_with fail
  go_loopg [6] (l.length + 1) (fun gg nv wr => ∃ n : Nat, n + gg = l.length + 2 ∧ 1 ≤ n ∧ nv = .int .i64 n ∧ (∀ j, 1 ≤ j → j < n → (lookS S (l.take j)).2 = 0) ∧ Below w.heap.size w wr ∧ wr.heap[w.heap.size]? = some (.cells bv0.cells 133 (0, 0)))
  case atStart => exact ⟨1, by omega, by omega, rfl, fun j h1 h2 => by omega, HW1.out, HW2.out⟩
  case round =>
    obtain ⟨n, hg, hn1, rfl, hm, hb, h4⟩ := hrel
    clear HW1 HW2
    have HM := Lib.hid hm
    have HB := Lib.hid hb
    have H4 := Lib.hid h4
    have d1 := (HB.out.block _ hr0).trans D0.out
    have d3 := D3W.out.later HB.out
    have c0 : wr.cell? ⟨rb, 0, none⟩ = some (.slice s l.length c) := block_cell d1
    have D3 := Lib.hid d3
    have D1 := Lib.hid d1
    have hrl := heap_lt d1
    clear hm hb h4 d1 d3
    by_cases hn : n ≤ l.length
    · have q1 : (0 : Int) ≤ (n : Int) := by omega
      have q2 : (n : Int) ≤ (c : Int) := by omega
      have q3 : (n : Int) ≤ (l.length : Int) := by omega
      have hlt : (l.take n).length = n := by rw [List.length_take]; omega
      have hk : IsInts wr s (l.take n).length (gl (l.take n)) := by
        rw [hlt]
        rcases D3.out with e | ⟨b, o, rfl, hbl, hc⟩
        · exact .inl (by omega)
        · refine .inr ⟨b, o, rfl, hbl, fun i hi => ?_⟩
          rw [hc i (by omega)]
          unfold gl
          rw [List.getD_eq_getElem?_getD, List.getD_eq_getElem?_getD, List.getElem?_take, if_pos hi]
      have hks : ∀ x ∈ l.take n, inKey x := fun x hx => HKY.out x (List.mem_of_mem_take hx)
      have HLT := Lib.hid hlt
      have HK := Lib.hid hk
      have HKS := Lib.hid hks
      clear hlt hk hks
      go_wp2_with fail
      refine ((by have := look_b_c O root ro E S nb mb val s c (l.take n) wr HOK.out (HT.out.later HB.out) (by rw [HLT.out]; unfold maxLen; omega) HK.out HKS.out; rw [HLT.out] at this; exact this : Calls _ _ _ _ _)).mono ?_
      rintro e w2 ⟨rfl, hb2⟩
      have HB2 := Lib.hid (bt HB.out hb2)
      have hrd2 : w2.heap[rb]? = some (.cells #[.slice s l.length c, .int .i64 cnt] 139 (0, 0)) := (hb2.block _ hrl).trans D1.out
      have h42 := (hb2.block _ (heap_lt H4.out)).trans H4.out
      have hd32 := D3.out.later hb2
      have HD32 := Lib.hid hd32
      have HRD2 := Lib.hid hrd2
      have H42 := Lib.hid h42
      have hws := heap_lt h42
      have hrl2 := heap_lt hrd2
      have h0lt := HR.out.lt
      clear hb2 hrd2 h42 hd32
      rcases lookS_3 S (l.take n) with h0 | h1 | h2
      · have hbv : (bvAt E S (l.take n)).cells = #[.int .i64 0, .int .i64 0, .int .i64 0, .bool false, .slice none 0 0, .pointer none] := by unfold bvAt; rw [if_neg (by rw [h0]; decide)]; rfl
        rw [hbv, h0]
        have hm2 : ∀ j, 1 ≤ j → j < n + 1 → (lookS S (l.take j)).2 = 0 := fun j h1 h2 => by
          by_cases e : j = n
          · rw [e]; exact h0
          · exact HM.out j h1 (by omega)
        have HM2 := Lib.hid hm2
        have hbn := below_new2 w2 (.cells #[.int .i64 0, .int .i64 0, .int .i64 0, .bool false, .slice none 0 0, .pointer none] 133)
        have HBN := Lib.hid (HB2.out.trans (hbn.mono HB2.out.size))
        have H4N := Lib.hid ((hbn.block _ (heap_lt H42.out)).trans H42.out)
        clear hbv h0 hm2 hbn
        go_wp2
        go_roundg (gk - 1)
        case measure => omega
        case rel => exact ⟨n + 1, by omega, by omega, by go_num, HM2.out, HBN.out, H4N.out⟩
      · have he := lookG_at1 HOK.out h1
        have hbv : bvAt E S (l.take n) = bvL E S l := by unfold bvAt bvL; rw [if_pos h1, he]; rfl
        have hre : restL S l = l.drop n := by unfold restL; rw [he]; show l.drop (l.take n).length = _; rw [HLT.out]
        rw [hbv, h1]
        have HRE := Lib.hid hre
        have HE1 : Hid ((lookG S l).1 = 1) := Lib.hid (by rw [he])
        have hcut : ∀ s2 c2 w5, (l.length = n ∨ ∃ b o, s = some ⟨b, o, none⟩ ∧ s2 = some ⟨b, o + n, none⟩) → (∀ a, s2 = some a → a.block ≠ rb ∧ a.block < B) → l.length - n ≤ c2 → w5 = set6 ((w2.setCell ⟨rb, 0, none⟩ (.slice s2 (l.length - n) c2)).alloc (.cells (bvL E S l).cells 133)) w.heap.size (bvL E S l) → RdOk w5 rb (l.drop n) cnt B ∧ Touch (fun b => b = rb) w w5 := fun s2 c2 w5 k1 k2 k3 k4 => by
          subst k4
          have k0 := RdOk.cut (cnt := cnt) (k := n) HRD2.out d2 HD32.out D4.out hn k1 k2 k3
          have hbn := below_new2 (w2.setCell ⟨rb, 0, none⟩ (.slice s2 (l.length - n) c2)) (.cells (bvL E S l).cells 133)
          have k5 := k0.later hbn
          refine ⟨k5.keep (set6_touch _ _ _) (by omega) hB, ?_⟩
          · refine (((Touch.of (O := fun b => b = rb) HB2.out).trans (Touch.setCell (fun b => b = rb) _ (p := ⟨rb, 0, none⟩) rfl _) (fun x hx => .inl hx)).trans (Touch.of (O := fun b => b = rb) hbn) (fun x hx => .inl hx)).trans (set6_touch _ _ _) (fun x hx => .inr (by omega))
        have HCUT := Lib.hid hcut
        generalize hbb : bvL E S l = bb at *
        obtain ⟨v1, v2, v3, v4, v5, v6, v7, v8⟩ := bb
        have HBB := Lib.hid hbb
        have hbn := below_new2 w2 (.cells #[.int .i64 v1, .int .i64 v2, .int .i64 v3, .bool v4, .slice v5 v6 v7, .pointer v8] 133)
        have H4N := Lib.hid ((hbn.block _ (heap_lt H42.out)).trans H42.out)
        have d1n := (hbn.block _ hrl2).trans HRD2.out
        have hnew := one_new w2 (.cells #[.int .i64 v1, .int .i64 v2, .int .i64 v3, .bool v4, .slice v5 v6 v7, .pointer v8] 133)
        have HNEW := Lib.hid hnew
        have D1N := Lib.hid d1n
        have hne2 : w2.heap.size ≠ w.heap.size := by omega
        have hnr : rb ≠ w.heap.size := by omega
        rw [show (BV.cells ⟨v1, v2, v3, v4, v5, v6, v7, v8⟩) = #[.int .i64 v1, .int .i64 v2, .int .i64 v3, .bool v4, .slice v5 v6 v7, .pointer v8] from rfl]
        clear hbn hcut hbv hre he h1 hbb d1n hnew
        have p1 : (w2.alloc (.cells #[.int .i64 v1, .int .i64 v2, .int .i64 v3, .bool v4, .slice v5 v6 v7, .pointer v8] 133)).cell? ⟨rb, 0, none⟩ = some (.slice s l.length c) := block_cell D1N.out
        have p2 : (w2.alloc (.cells #[.int .i64 v1, .int .i64 v2, .int .i64 v3, .bool v4, .slice v5 v6 v7, .pointer v8] 133)).frozen? ⟨rb, 0, none⟩ = false := block_free D1N.out
        have hsz2 : ∀ V, (w2.setCell ⟨rb, 0, none⟩ V).heap.size = w2.heap.size := fun V => by simp [World.setCell]
        have h4v : ∀ V, ((w2.setCell ⟨rb, 0, none⟩ V).alloc (.cells #[.int .i64 v1, .int .i64 v2, .int .i64 v3, .bool v4, .slice v5 v6 v7, .pointer v8] 133)).heap[w.heap.size]? = some (.cells bv0.cells 133 (0, 0)) := fun V => (Below.heap_alloc _ _ _ (by rw [hsz2]; exact hws)).trans ((Below.heap_setCell _ _ _ _ (by show w.heap.size ≠ rb; omega)).trans H42.out)
        have hnv : ∀ V, ((w2.setCell ⟨rb, 0, none⟩ V).alloc (.cells #[.int .i64 v1, .int .i64 v2, .int .i64 v3, .bool v4, .slice v5 v6 v7, .pointer v8] 133)).heap[w2.heap.size]? = some (.cells #[.int .i64 v1, .int .i64 v2, .int .i64 v3, .bool v4, .slice v5 v6 v7, .pointer v8] 133 (0, 0)) := fun V => by
          have := one_new (w2.setCell ⟨rb, 0, none⟩ V) (.cells #[.int .i64 v1, .int .i64 v2, .int .i64 v3, .bool v4, .slice v5 v6 v7, .pointer v8] 133)
          rwa [hsz2] at this
        have H4V := Lib.hid h4v
        have HNV := Lib.hid hnv
        clear h4v hnv hsz2
        rcases D3W.out with e | ⟨b, o, rfl, hbl, _⟩
        · omega
        · have hbr := D4.out ⟨b, o, none⟩ rfl
          have hbr' : b ≠ rb ∧ b < B := hbr
          clear hbr
          by_cases hcn : c = n
          · subst hcn
            have hln : l.length = c := by omega
            have HLN := Lib.hid hln
            clear hln
            go_upto_region 8 with (fail)
            have HX := Lib.hid (HCUT.out (some ⟨b, o, none⟩) 0 _ (.inl HLN.out) (fun a ha => by cases ha; exact hbr') (by omega) rfl)
            rw [show l.length - c = 0 from by omega] at HX
            have HY4 := H4V.out (.slice (some ⟨b, o, none⟩) 0 0)
            have HYN := HNV.out (.slice (some ⟨b, o, none⟩) 0 0)
            change Hid (RdOk (set6 ((w2.setCell ⟨rb, 0, none⟩ (.slice (some ⟨b, o, none⟩) 0 0)).alloc (.cells #[.int .i64 v1, .int .i64 v2, .int .i64 v3, .bool v4, .slice v5 v6 v7, .pointer v8] 133)) _ _) _ _ _ _ ∧ Touch _ _ (set6 ((w2.setCell ⟨rb, 0, none⟩ (.slice (some ⟨b, o, none⟩) 0 0)).alloc (.cells #[.int .i64 v1, .int .i64 v2, .int .i64 v3, .bool v4, .slice v5 v6 v7, .pointer v8] 133)) _ _)) at HX
            generalize (w2.setCell ⟨rb, 0, none⟩ (.slice (some ⟨b, o, none⟩) 0 0)).alloc (.cells #[.int .i64 v1, .int .i64 v2, .int .i64 v3, .bool v4, .slice v5 v6 v7, .pointer v8] 133) = w5 at HX HY4 HYN ⊢
            have e0 : w5.cell? ⟨w.heap.size, 0, none⟩ = some (.int .i64 0) := block_cell HY4
            have ef0 : w5.frozen? ⟨w.heap.size, 0, none⟩ = false := block_free HY4
            have e1 : w5.cell? ⟨w.heap.size, 1, none⟩ = some (.int .i64 0) := block_cell HY4
            have ef1 : w5.frozen? ⟨w.heap.size, 1, none⟩ = false := block_free HY4
            have e2 : w5.cell? ⟨w.heap.size, 2, none⟩ = some (.int .i64 0) := block_cell HY4
            have ef2 : w5.frozen? ⟨w.heap.size, 2, none⟩ = false := block_free HY4
            have e3 : w5.cell? ⟨w.heap.size, 3, none⟩ = some (.bool false) := block_cell HY4
            have ef3 : w5.frozen? ⟨w.heap.size, 3, none⟩ = false := block_free HY4
            have e4 : w5.cell? ⟨w.heap.size, 4, none⟩ = some (.slice none 0 0) := block_cell HY4
            have ef4 : w5.frozen? ⟨w.heap.size, 4, none⟩ = false := block_free HY4
            have e5 : w5.cell? ⟨w.heap.size, 5, none⟩ = some (.pointer none) := block_cell HY4
            have ef5 : w5.frozen? ⟨w.heap.size, 5, none⟩ = false := block_free HY4
            have n0 : w5.cell? ⟨w2.heap.size, 0, none⟩ = some (.int .i64 v1) := block_cell HYN
            have n1 : w5.cell? ⟨w2.heap.size, 1, none⟩ = some (.int .i64 v2) := block_cell HYN
            have n2 : w5.cell? ⟨w2.heap.size, 2, none⟩ = some (.int .i64 v3) := block_cell HYN
            have n3 : w5.cell? ⟨w2.heap.size, 3, none⟩ = some (.bool v4) := block_cell HYN
            have n4 : w5.cell? ⟨w2.heap.size, 4, none⟩ = some (.slice v5 v6 v7) := block_cell HYN
            have n5 : w5.cell? ⟨w2.heap.size, 5, none⟩ = some (.pointer v8) := block_cell HYN
            clear HY4 HYN p1 p2
            go_wp2
            exact bodyPost_ret (v := .tuple #[.agg #[.int .i64 v1, .int .i64 v2, .int .i64 v3, .bool v4, .slice v5 v6 v7, .pointer v8], .int .i64 1]) (by simp [results, Try.results85, go_sem, e0, e1, e2, e3, e4, e5]) rfl ⟨by rw [HE1.out, HBB.out]; rfl, by rw [HRE.out]; exact HX.out.1, HX.out.2⟩
          · have hcn1 : ¬ n = c := fun e => hcn e.symm
            have hcn2 : ¬ (c : Int) = (n : Int) := by omega
            go_upto_region 8 with (fail)
            have HX := Lib.hid (HCUT.out (some ⟨b, o + n, none⟩) (c - n) _ (.inr ⟨b, o, rfl, rfl⟩) (fun a ha => by cases ha; exact hbr') (by omega) rfl)
            have HY4 := H4V.out (.slice (some ⟨b, o + n, none⟩) (l.length - n) (c - n))
            have HYN := HNV.out (.slice (some ⟨b, o + n, none⟩) (l.length - n) (c - n))
            change Hid (RdOk (set6 ((w2.setCell ⟨rb, 0, none⟩ (.slice (some ⟨b, o + n, none⟩) (l.length - n) (c - n))).alloc (.cells #[.int .i64 v1, .int .i64 v2, .int .i64 v3, .bool v4, .slice v5 v6 v7, .pointer v8] 133)) _ _) _ _ _ _ ∧ Touch _ _ (set6 ((w2.setCell ⟨rb, 0, none⟩ (.slice (some ⟨b, o + n, none⟩) (l.length - n) (c - n))).alloc (.cells #[.int .i64 v1, .int .i64 v2, .int .i64 v3, .bool v4, .slice v5 v6 v7, .pointer v8] 133)) _ _)) at HX
            generalize (w2.setCell ⟨rb, 0, none⟩ (.slice (some ⟨b, o + n, none⟩) (l.length - n) (c - n))).alloc (.cells #[.int .i64 v1, .int .i64 v2, .int .i64 v3, .bool v4, .slice v5 v6 v7, .pointer v8] 133) = w5 at HX HY4 HYN ⊢
            have e0 : w5.cell? ⟨w.heap.size, 0, none⟩ = some (.int .i64 0) := block_cell HY4
            have ef0 : w5.frozen? ⟨w.heap.size, 0, none⟩ = false := block_free HY4
            have e1 : w5.cell? ⟨w.heap.size, 1, none⟩ = some (.int .i64 0) := block_cell HY4
            have ef1 : w5.frozen? ⟨w.heap.size, 1, none⟩ = false := block_free HY4
            have e2 : w5.cell? ⟨w.heap.size, 2, none⟩ = some (.int .i64 0) := block_cell HY4
            have ef2 : w5.frozen? ⟨w.heap.size, 2, none⟩ = false := block_free HY4
            have e3 : w5.cell? ⟨w.heap.size, 3, none⟩ = some (.bool false) := block_cell HY4
            have ef3 : w5.frozen? ⟨w.heap.size, 3, none⟩ = false := block_free HY4
            have e4 : w5.cell? ⟨w.heap.size, 4, none⟩ = some (.slice none 0 0) := block_cell HY4
            have ef4 : w5.frozen? ⟨w.heap.size, 4, none⟩ = false := block_free HY4
            have e5 : w5.cell? ⟨w.heap.size, 5, none⟩ = some (.pointer none) := block_cell HY4
            have ef5 : w5.frozen? ⟨w.heap.size, 5, none⟩ = false := block_free HY4
            have n0 : w5.cell? ⟨w2.heap.size, 0, none⟩ = some (.int .i64 v1) := block_cell HYN
            have n1 : w5.cell? ⟨w2.heap.size, 1, none⟩ = some (.int .i64 v2) := block_cell HYN
            have n2 : w5.cell? ⟨w2.heap.size, 2, none⟩ = some (.int .i64 v3) := block_cell HYN
            have n3 : w5.cell? ⟨w2.heap.size, 3, none⟩ = some (.bool v4) := block_cell HYN
            have n4 : w5.cell? ⟨w2.heap.size, 4, none⟩ = some (.slice v5 v6 v7) := block_cell HYN
            have n5 : w5.cell? ⟨w2.heap.size, 5, none⟩ = some (.pointer v8) := block_cell HYN
            clear HY4 HYN p1 p2
            go_wp2
            exact bodyPost_ret (v := .tuple #[.agg #[.int .i64 v1, .int .i64 v2, .int .i64 v3, .bool v4, .slice v5 v6 v7, .pointer v8], .int .i64 1]) (by simp [results, Try.results85, go_sem, e0, e1, e2, e3, e4, e5]) rfl ⟨by rw [HE1.out, HBB.out]; rfl, by rw [HRE.out]; exact HX.out.1, HX.out.2⟩
      · have he := lookG_at2 HOK.out hn1 hn HM.out h2
        have hbv : (bvAt E S (l.take n)).cells = #[.int .i64 0, .int .i64 0, .int .i64 0, .bool false, .slice none 0 0, .pointer none] := by unfold bvAt; rw [if_neg (by rw [h2]; decide)]; rfl
        have hbl0 : bvL E S l = bv0 := by unfold bvL; rw [he]; rfl
        have hre : restL S l = l := by unfold restL; rw [he]; rfl
        rw [hbv, h2]
        have HE := Lib.hid he
        have HBV := Lib.hid hbl0
        have HRE := Lib.hid hre
        have hbn := below_new2 w2 (.cells #[.int .i64 0, .int .i64 0, .int .i64 0, .bool false, .slice none 0 0, .pointer none] 133)
        have HBN := Lib.hid (HB2.out.trans (hbn.mono HB2.out.size))
        have h4n := (hbn.block _ (heap_lt H42.out)).trans H42.out
        have HNW := one_new w2 (.cells #[.int .i64 0, .int .i64 0, .int .i64 0, .bool false, .slice none 0 0, .pointer none] 133)
        clear hbv h2 hbn he hbl0 hre
        go_upto_region 8 with (fail)
        generalize w2.alloc (.cells #[.int .i64 0, .int .i64 0, .int .i64 0, .bool false, .slice none 0 0, .pointer none] 133) = w5 at HBN h4n HNW ⊢
        have e0 : w5.cell? ⟨w.heap.size, 0, none⟩ = some (.int .i64 0) := block_cell h4n
        have ef0 : w5.frozen? ⟨w.heap.size, 0, none⟩ = false := block_free h4n
        have e1 : w5.cell? ⟨w.heap.size, 1, none⟩ = some (.int .i64 0) := block_cell h4n
        have ef1 : w5.frozen? ⟨w.heap.size, 1, none⟩ = false := block_free h4n
        have e2 : w5.cell? ⟨w.heap.size, 2, none⟩ = some (.int .i64 0) := block_cell h4n
        have ef2 : w5.frozen? ⟨w.heap.size, 2, none⟩ = false := block_free h4n
        have e3 : w5.cell? ⟨w.heap.size, 3, none⟩ = some (.bool false) := block_cell h4n
        have ef3 : w5.frozen? ⟨w.heap.size, 3, none⟩ = false := block_free h4n
        have e4 : w5.cell? ⟨w.heap.size, 4, none⟩ = some (.slice none 0 0) := block_cell h4n
        have ef4 : w5.frozen? ⟨w.heap.size, 4, none⟩ = false := block_free h4n
        have e5 : w5.cell? ⟨w.heap.size, 5, none⟩ = some (.pointer none) := block_cell h4n
        have ef5 : w5.frozen? ⟨w.heap.size, 5, none⟩ = false := block_free h4n
        have n0 : w5.cell? ⟨w2.heap.size, 0, none⟩ = some (.int .i64 0) := block_cell HNW
        have n1 : w5.cell? ⟨w2.heap.size, 1, none⟩ = some (.int .i64 0) := block_cell HNW
        have n2 : w5.cell? ⟨w2.heap.size, 2, none⟩ = some (.int .i64 0) := block_cell HNW
        have n3 : w5.cell? ⟨w2.heap.size, 3, none⟩ = some (.bool false) := block_cell HNW
        have n4 : w5.cell? ⟨w2.heap.size, 4, none⟩ = some (.slice none 0 0) := block_cell HNW
        have n5 : w5.cell? ⟨w2.heap.size, 5, none⟩ = some (.pointer none) := block_cell HNW
        clear h4n HNW
        go_wp2
        exact bodyPost_ret (v := .tuple #[.agg #[.int .i64 0, .int .i64 0, .int .i64 0, .bool false, .slice none 0 0, .pointer none], .int .i64 2]) (by simp [results, Try.results85, go_sem, e0, e1, e2, e3, e4, e5]) rfl ⟨by rw [HE.out, HBV.out]; rfl, by rw [HRE.out]; exact HR.out.later (set6_below HBN.out bv0), Touch.of (set6_below HBN.out bv0)⟩
    · have he := lookG_at0 HOK.out (l := l) (fun j h1 h2 => HM.out j h1 (by omega))
      have hbv : bvL E S l = bv0 := by unfold bvL; rw [he]; rfl
      have hre : restL S l = l := by unfold restL; rw [he]; rfl
      have HE := Lib.hid he
      have HBV := Lib.hid hbv
      have HRE := Lib.hid hre
      clear he hbv hre
      have e0 : wr.cell? ⟨w.heap.size, 0, none⟩ = some (.int .i64 0) := block_cell H4.out
      have ef0 : wr.frozen? ⟨w.heap.size, 0, none⟩ = false := block_free H4.out
      have e1 : wr.cell? ⟨w.heap.size, 1, none⟩ = some (.int .i64 0) := block_cell H4.out
      have ef1 : wr.frozen? ⟨w.heap.size, 1, none⟩ = false := block_free H4.out
      have e2 : wr.cell? ⟨w.heap.size, 2, none⟩ = some (.int .i64 0) := block_cell H4.out
      have ef2 : wr.frozen? ⟨w.heap.size, 2, none⟩ = false := block_free H4.out
      have e3 : wr.cell? ⟨w.heap.size, 3, none⟩ = some (.bool false) := block_cell H4.out
      have ef3 : wr.frozen? ⟨w.heap.size, 3, none⟩ = false := block_free H4.out
      have e4 : wr.cell? ⟨w.heap.size, 4, none⟩ = some (.slice none 0 0) := block_cell H4.out
      have ef4 : wr.frozen? ⟨w.heap.size, 4, none⟩ = false := block_free H4.out
      have e5 : wr.cell? ⟨w.heap.size, 5, none⟩ = some (.pointer none) := block_cell H4.out
      have ef5 : wr.frozen? ⟨w.heap.size, 5, none⟩ = false := block_free H4.out
      go_wp2
      exact bodyPost_ret (v := .tuple #[.agg #[.int .i64 0, .int .i64 0, .int .i64 0, .bool false, .slice none 0 0, .pointer none], .int .i64 0]) (by simp [results, Try.results85, go_sem, e0, e1, e2, e3, e4, e5]) rfl ⟨by rw [HE.out, HBV.out]; rfl, by rw [HRE.out]; exact HR.out.later (set6_below HB.out bv0), Touch.of (set6_below HB.out bv0)⟩
end Go.Proofs.Ytampjndfhpjheaa
