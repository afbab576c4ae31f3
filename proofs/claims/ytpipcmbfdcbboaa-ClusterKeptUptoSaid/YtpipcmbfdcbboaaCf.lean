/- Contracts: cluster.Count, Column, Offset and what they hand to walk. No condition. -/
import Derived.Test.YtpipcmbfdcbboaaCe
import Derived.Test.YtpipcmbfdcbboaaCq
import Derived.Shelf.Abstract
namespace Go.Proofs.Ytpipcmbfdcbboaa
open Go.RowKit
def IsBox (w : World) (b : Nat) (t : TypeId) (v : Value) : Prop := w.heap[b]? = some (.cells #[v] t (0, 0))
theorem IsBox.below {w w1 : World} {b : Nat} {t : TypeId} {v : Value} (h : IsBox w b t v) (hb : Below w.heap.size w w1) : IsBox w1 b t v := (hb.block b (heap_lt h)).trans h
theorem IsBox.cell {w : World} {b : Nat} {t : TypeId} {v : Value} (h : IsBox w b t v) : w.cell? ⟨b, 0, none⟩ = some v ∧ w.frozen? ⟨b, 0, none⟩ = false := ⟨block_cell h, block_free h⟩
theorem IsBox.set {w : World} {b : Nat} {t : TypeId} {v : Value} (h : IsBox w b t v) (u : Value) : IsBox (w.setCell ⟨b, 0, none⟩ u) b t u := block_set _ h
theorem IsBox.other {w : World} {b c : Nat} {t : TypeId} {v : Value} (h : IsBox w b t v) (hne : c ≠ b) (u : Value) : IsBox (w.setCell ⟨c, 0, none⟩ u) b t v := by
  show (w.heap.modify c _)[b]? = _
  rw [Array.getElem?_modify, if_neg hne]; exact h
theorem IsBox.new (w : World) (t : TypeId) (v : Value) : IsBox (w.alloc (.cells #[v] t)) w.heap.size t v := one_new w _
theorem IsBox.alloc {w : World} {b : Nat} {t : TypeId} {v : Value} (h : IsBox w b t v) (o : Obj) : IsBox (w.alloc o) b t v := by
  have := heap_lt h
  show (w.heap.push o)[b]? = _
  rw [Array.getElem?_push, if_neg (by omega)]; exact h
theorem below_boxset {b c : Nat} {w w1 : World} (h : Below b w w1) (hc : b ≤ c) (v : Value) : Below b w (w1.setCell ⟨c, 0, none⟩ v) := h.setCell hc _
set_option maxHeartbeats 1000000 in
theorem count1_any (k : Int) (b : Nat) (n : Int) (w : World) (h : IsBox w b 3 (.int .i64 n)) :
    Calls Try.prog 39 #[.int .i64 k, .pointer (some ⟨b, 0, none⟩)] w fun e w' => e = .returned (.bool true) ∧ IsBox w' b 3 (.int .i64 (wrap64 (n + 1))) ∧ Below b w w' := by
  have H := Lib.hid h
  obtain ⟨hc, hf⟩ := h.cell
  clear h
  go_enter Try.func39, Try.ntmps39
  go_wp2
  go_ret
  exact ⟨rfl, H.out.set _, below_set (Below.refl _ _) _ _⟩
set_option maxHeartbeats 1000000 in
theorem count_any (sa : Option Addr) (len scap : Nat) (f : Nat → Int) (w : World) (hl : len ≤ maxLen) (hr : IsInts w sa len f) :
    Calls Try.prog 24 #[.slice sa len scap] w fun e w' => e = .returned (.int .i64 (bounds f len 0).length) ∧ Below w.heap.size w w' := by
  have hmf : ∀ (fn : Fn) (first cap : Array Value) (w : World), (Instr.makeFunc fn first cap).run Try.prog w = .ok (.func fn first cap) w := fun _ _ _ _ => rfl
  have hlen : (bounds f len 0).length < 9223372036854775808 := by have := bounds_length f len 0 (by omega) rfl; unfold maxLen at hl; omega
  have HR := Lib.hid hr
  clear hr
  go_enter Try.func24, Try.ntmps24
  go_wp2_with fail
  refine (walk_any (fun n wr => IsBox wr w.heap.size 3 (.int .i64 n)) countY w 39 #[.pointer (some ⟨w.heap.size, 0, none⟩)] len scap f sa ?hY (fun s w1 w2 h hb => h.below hb) (enters_of Try.func39 (by kernel_rfl) rfl) HR.out hl 0 (by omega) 0 _ (IsBox.new w 3 _) ((Below.refl _ _).alloc (Nat.le_refl _) _)).mono ?_
  case hY =>
    intro s k w1 _ h1 hb1
    refine (count1_any k _ s w1 h1).mono ?_
    rintro e w2 ⟨rfl, h2, hb2⟩
    exact ⟨rfl, h2, hb1.trans hb2⟩
  rintro e w1 ⟨rfl, h1, hb1⟩
  rw [count_run _ 0 (by omega) (by omega)] at h1
  have HB := Lib.hid hb1
  obtain ⟨hc, hf⟩ := h1.cell
  clear h1 hb1
  go_wp2
  go_ret
  exact ⟨rfl, HB.out⟩
set_option maxHeartbeats 1000000 in
theorem column1_any (k : Int) (b : Nat) (a n : Int) (w : World) (ha : IsBox w b 3 (.int .i64 a)) (h : IsBox w (b + 1) 3 (.int .i64 n)) :
    Calls Try.prog 40 #[.int .i64 k, .pointer (some ⟨b, 0, none⟩), .pointer (some ⟨b + 1, 0, none⟩)] w fun e w' =>
      e = .returned (.bool (decide (k < a))) ∧ (IsBox w' b 3 (.int .i64 a) ∧ IsBox w' (b + 1) 3 (.int .i64 (if k ≤ a then wrap64 (n + 1) else n))) ∧ Below b w w' := by
  have HA := Lib.hid ha
  have H := Lib.hid h
  obtain ⟨hca, hfa⟩ := ha.cell
  obtain ⟨hc, hf⟩ := h.cell
  clear h ha
  go_enter Try.func40, Try.ntmps40
  go_wp2
  all_goals
    go_ret
    refine ⟨ret_bool (by simp_all), ⟨?_, ?_⟩, ?_⟩
    · first | exact HA.out | exact HA.out.other (by omega) _
    · first | exact H.out | exact H.out.set _
    · first | exact Below.refl _ _ | exact below_boxset (Below.refl _ _) (by omega) _
set_option maxHeartbeats 1000000 in
theorem column_any (sa : Option Addr) (len scap : Nat) (f : Nat → Int) (a : Int) (w : World) (hl : len ≤ maxLen) (hr : IsInts w sa len f) :
    Calls Try.prog 25 #[.slice sa len scap, .int .i64 a] w fun e w' => e = .returned (.int .i64 (colF f len a)) ∧ Below w.heap.size w w' := by
  have hmf : ∀ (fn : Fn) (first cap : Array Value) (w : World), (Instr.makeFunc fn first cap).run Try.prog w = .ok (.func fn first cap) w := fun _ _ _ _ => rfl
  have hlen : (bounds f len 0).length < 9223372036854775808 := by have := bounds_length f len 0 (by omega) rfl; unfold maxLen at hl; omega
  have HR := Lib.hid hr
  clear hr
  go_enter Try.func25, Try.ntmps25
  go_wp2_with fail
  refine (walk_any (fun n wr => IsBox wr w.heap.size 3 (.int .i64 a) ∧ IsBox wr (w.heap.size + 1) 3 (.int .i64 n)) (columnY a) w 40 #[.pointer (some ⟨w.heap.size, 0, none⟩), .pointer (some ⟨w.heap.size + 1, 0, none⟩)] len scap f sa ?hY (fun s w1 w2 h hb => ⟨h.1.below hb, h.2.below hb⟩) (enters_of Try.func40 (by kernel_rfl) rfl) HR.out hl 0 (by omega) 0 _ ⟨(IsBox.new w 3 _).alloc _, by have := IsBox.new (w.alloc (.cells #[.int .i64 a] 3)) 3 (.int .i64 0); rw [show (w.alloc (.cells #[.int .i64 a] 3)).heap.size = w.heap.size + 1 from by simp] at this; exact this⟩ (((Below.refl _ _).alloc (Nat.le_refl _) _).alloc (by simp) _)).mono ?_
  case hY =>
    intro s k w1 _ h1 hb1
    refine (column1_any k _ a s w1 h1.1 h1.2).mono ?_
    rintro e w2 ⟨rfl, h2, hb2⟩
    exact ⟨rfl, h2, hb1.trans hb2⟩
  rintro e w1 ⟨rfl, h1, hb1⟩
  rw [column_run a _ 0 (bounds_sorted (by omega) rfl) (by omega) (by omega), Int.zero_add] at h1
  have HB := Lib.hid hb1
  obtain ⟨hc, hf⟩ := h1.2.cell
  clear h1 hb1
  go_wp2
  go_ret
  exact ⟨rfl, HB.out⟩
set_option maxHeartbeats 1000000 in
theorem offset1_any (k b r : Nat) (a n : Int) (w : World) (ha : IsBox w b 3 (.int .i64 a)) (h : IsBox w (b + 1) 3 (.int .i64 n)) (h2 : IsBox w (b + 1 + 1) 3 (.int .i64 r)) :
    Calls Try.prog 41 #[.int .i64 k, .pointer (some ⟨b + 1, 0, none⟩), .pointer (some ⟨b, 0, none⟩), .pointer (some ⟨b + 1 + 1, 0, none⟩)] w fun e w' =>
      e = .returned (.bool (offsetY a (n, r) k).2) ∧ (IsBox w' b 3 (.int .i64 a) ∧ IsBox w' (b + 1) 3 (.int .i64 (offsetY a (n, r) k).1.1) ∧ IsBox w' (b + 1 + 1) 3 (.int .i64 ((offsetY a (n, r) k).1.2 : Nat))) ∧ Below b w w' := by
  have HA := Lib.hid ha
  have H := Lib.hid h
  have H2 := Lib.hid h2
  obtain ⟨hca, hfa⟩ := ha.cell
  obtain ⟨hc, hf⟩ := h.cell
  obtain ⟨hc2, hf2⟩ := h2.cell
  clear h ha h2
  have e1 : n < a → offsetY a (n, r) k = ((wrap64 (n + 1), k), decide (wrap64 (n + 1) < a)) := by intro h; unfold offsetY; dsimp only; rw [if_pos h, if_pos h]
  have e2 : ¬ n < a → offsetY a (n, r) k = ((n, r), false) := by intro h; unfold offsetY; dsimp only; rw [if_neg h, if_neg h, decide_eq_false h]
  have E1 := Lib.hid e1
  have E2 := Lib.hid e2
  clear e1 e2
  go_enter Try.func41, Try.ntmps41
  by_cases hna : n < a
  · rw [E1.out hna]
    generalize hm : wrap64 (n + 1) = m
    have hm' : wrap64 (n + 1) = m := hm
    clear E1 E2
    go_wp2
    go_ret
    subst hm
    refine ⟨ret_bool (by simp_all), ⟨?_, ?_, ?_⟩, ?_⟩
    · exact (HA.out.other (by omega) _).other (by omega) _
    · exact (H.out.set _).other (by omega) _
    · exact (H2.out.other (by omega) _).set _
    · exact below_boxset (below_boxset (Below.refl _ _) (by omega) _) (by omega) _
  · rw [E2.out hna]
    clear E1 E2
    go_wp2
    go_ret
    exact ⟨ret_bool (by simp_all), ⟨HA.out, H.out, H2.out⟩, Below.refl _ _⟩
theorem boxes3 (w : World) (a b c : Value) :
    let w3 := ((w.alloc (.cells #[a] 3)).alloc (.cells #[b] 3)).alloc (.cells #[c] 3)
    (IsBox w3 w.heap.size 3 a ∧ IsBox w3 (w.heap.size + 1) 3 b ∧ IsBox w3 (w.heap.size + 1 + 1) 3 c) ∧ Below w.heap.size w w3 := by
  have h1 := IsBox.new w 3 a
  have h2 := IsBox.new (w.alloc (.cells #[a] 3)) 3 b
  have h3 := IsBox.new ((w.alloc (.cells #[a] 3)).alloc (.cells #[b] 3)) 3 c
  rw [show (w.alloc (.cells #[a] 3)).heap.size = w.heap.size + 1 from by simp] at h2
  rw [show ((w.alloc (.cells #[a] 3)).alloc (.cells #[b] 3)).heap.size = w.heap.size + 1 + 1 from by simp] at h3
  exact ⟨⟨(h1.alloc _).alloc _, h2.alloc _, h3⟩, (((Below.refl _ _).alloc (Nat.le_refl _) _).alloc (by simp) _).alloc (by simp; omega) _⟩
theorem boxes2 (w : World) (a b : Value) :
    let w3 := (w.alloc (.cells #[a] 3)).alloc (.cells #[b] 3)
    (IsBox w3 w.heap.size 3 a ∧ IsBox w3 (w.heap.size + 1) 3 b) ∧ Below w.heap.size w w3 := by
  have h1 := IsBox.new w 3 a
  have h2 := IsBox.new (w.alloc (.cells #[a] 3)) 3 b
  rw [show (w.alloc (.cells #[a] 3)).heap.size = w.heap.size + 1 from by simp] at h2
  exact ⟨⟨h1.alloc _, h2⟩, ((Below.refl _ _).alloc (Nat.le_refl _) _).alloc (by simp) _⟩
set_option maxHeartbeats 1000000 in
theorem offset_any (sa : Option Addr) (len scap : Nat) (f : Nat → Int) (a : Int) (w : World) (hl : len ≤ maxLen) (hr : IsInts w sa len f) :
    Calls Try.prog 26 #[.slice sa len scap, .int .i64 a] w fun e w' => e = .returned (.int .i64 (offF f len a)) ∧ Below w.heap.size w w' := by
  have hmf : ∀ (fn : Fn) (first cap : Array Value) (w : World), (Instr.makeFunc fn first cap).run Try.prog w = .ok (.func fn first cap) w := fun _ _ _ _ => rfl
  have hlen : (bounds f len 0).length < 9223372036854775808 := by have := bounds_length f len 0 (by omega) rfl; unfold maxLen at hl; omega
  have HR := Lib.hid hr
  clear hr
  go_enter Try.func26, Try.ntmps26
  go_wp2_with fail
  refine (walk_any (fun (s : Int × Nat) wr => IsBox wr w.heap.size 3 (.int .i64 a) ∧ IsBox wr (w.heap.size + 1) 3 (.int .i64 s.1) ∧ IsBox wr (w.heap.size + 1 + 1) 3 (.int .i64 (s.2 : Nat))) (offsetY a) w 41 #[.pointer (some ⟨w.heap.size + 1, 0, none⟩), .pointer (some ⟨w.heap.size, 0, none⟩), .pointer (some ⟨w.heap.size + 1 + 1, 0, none⟩)] len scap f sa ?hY (fun s w1 w2 h hb => ⟨h.1.below hb, h.2.1.below hb, h.2.2.below hb⟩) (enters_of Try.func41 (by kernel_rfl) rfl) HR.out hl 0 (by omega) (0, 0) _ (boxes3 w _ _ _).1 (boxes3 w _ _ _).2).mono ?_
  case hY =>
    intro s k w1 _ h1 hb1
    refine (offset1_any k _ s.2 a s.1 w1 h1.1 h1.2.1 h1.2.2).mono ?_
    rintro e w2 ⟨rfl, h2, hb2⟩
    exact ⟨rfl, h2, hb1.trans hb2⟩
  rintro e w1 ⟨rfl, h1, hb1⟩
  rw [offset_run a _ 0 0 (by omega) (by omega), Int.sub_zero, ← allB_bounds] at h1
  have HB := Lib.hid hb1
  obtain ⟨hc, hf⟩ := h1.2.2.cell
  clear h1 hb1
  go_wp2
  go_ret
  exact ⟨rfl, HB.out⟩
set_option maxHeartbeats 1000000 in
theorem next1_any (k b r : Nat) (a : Int) (w : World) (ha : IsBox w b 3 (.int .i64 a)) (h : IsBox w (b + 1) 3 (.int .i64 r)) :
    Calls Try.prog 42 #[.int .i64 k, .pointer (some ⟨b, 0, none⟩), .pointer (some ⟨b + 1, 0, none⟩)] w fun e w' =>
      e = .returned (.bool (nextY a r k).2) ∧ (IsBox w' b 3 (.int .i64 a) ∧ IsBox w' (b + 1) 3 (.int .i64 ((nextY a r k).1 : Nat))) ∧ Below b w w' := by
  have HA := Lib.hid ha
  have H := Lib.hid h
  obtain ⟨hca, hfa⟩ := ha.cell
  obtain ⟨hc, hf⟩ := h.cell
  clear h ha
  have E1 := Lib.hid (show a < k → nextY a r k = (k, false) by intro h; unfold nextY; rw [if_pos h, decide_eq_false (by omega)])
  have E2 := Lib.hid (show ¬ a < k → nextY a r k = (r, true) by intro h; unfold nextY; rw [if_neg h, decide_eq_true (by omega)])
  go_enter Try.func42, Try.ntmps42
  by_cases hna : a < k
  · rw [E1.out hna]
    clear E1 E2
    go_wp2
    go_ret
    exact ⟨ret_bool (by simp_all), ⟨HA.out.other (by omega) _, H.out.set _⟩, below_boxset (Below.refl _ _) (by omega) _⟩
  · rw [E2.out hna]
    clear E1 E2
    go_wp2
    go_ret
    exact ⟨ret_bool (by simp_all), ⟨HA.out, H.out⟩, Below.refl _ _⟩
set_option maxHeartbeats 1000000 in
theorem snap1_any (k b c r : Nat) (a : Int) (w : World) (hbc : b < c) (ha : IsBox w b 3 (.int .i64 a)) (h : IsBox w c 3 (.int .i64 r)) :
    Calls Try.prog 38 #[.int .i64 k, .pointer (some ⟨b, 0, none⟩), .pointer (some ⟨c, 0, none⟩)] w fun e w' =>
      e = .returned (.bool (snapY a r k).2) ∧ (IsBox w' b 3 (.int .i64 a) ∧ IsBox w' c 3 (.int .i64 ((snapY a r k).1 : Nat))) ∧ Below b w w' := by
  have HA := Lib.hid ha
  have H := Lib.hid h
  obtain ⟨hca, hfa⟩ := ha.cell
  obtain ⟨hc, hf⟩ := h.cell
  clear h ha
  have E1 := Lib.hid (show (k : Int) ≤ a → snapY a r k = (k, decide ((k : Int) < a)) by intro h; unfold snapY; rw [if_pos h])
  have E2 := Lib.hid (show ¬ (k : Int) ≤ a → snapY a r k = (r, false) by intro h; unfold snapY; rw [if_neg h, decide_eq_false (by omega)])
  go_enter Try.func38, Try.ntmps38
  by_cases hna : (k : Int) ≤ a
  · rw [E1.out hna]
    clear E1 E2
    go_wp2
    go_ret
    exact ⟨ret_bool (by simp_all), ⟨HA.out.other (by omega) _, H.out.set _⟩, below_boxset (Below.refl _ _) (by omega) _⟩
  · rw [E2.out hna]
    clear E1 E2
    go_wp2
    go_ret
    exact ⟨ret_bool (by simp_all; omega), ⟨HA.out, H.out⟩, Below.refl _ _⟩
end Go.Proofs.Ytpipcmbfdcbboaa
