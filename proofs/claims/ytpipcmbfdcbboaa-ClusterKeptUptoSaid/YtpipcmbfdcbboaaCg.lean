/- Contracts: cluster.safe, Snap, IsBreak, Prev, Next. No condition. -/
import Derived.Test.YtpipcmbfdcbboaaCf
import Derived.Deep.RegionWith
import Derived.Deep.RegionHeld3
namespace Go.Proofs.Ytpipcmbfdcbboaa
open Go.RowKit
theorem cell_below {w1 w2 : World} {p : Addr} {v : Value} (h : w1.cell? p = some v) (hb : Below w1.heap.size w1 w2) : w2.cell? p = some v :=
  (hb.cell (World.block_lt_of_cell? w1 p h)).trans h
set_option maxHeartbeats 2000000 in
theorem safe_any (sa : Option Addr) (len scap : Nat) (f : Nat → Int) (at0 : Nat) (w : World) (hl : len ≤ maxLen) (hr : IsInts w sa len f) (h0 : 0 < at0) (h1 : at0 ≤ len) :
    Calls Try.prog 37 #[.slice sa len scap, .int .i64 at0] w fun e w' => (∃ k : Nat, e = .returned (.int .i64 k) ∧ k < at0 ∧ isB f len k = true) ∧ Below w.heap.size w w' := by
  unfold maxLen at hl
  have HR := Lib.hid hr
  clear hr
  go_enter Try.func37, Try.ntmps37
  go_wp2_with fail
  go_loopg [5] (at0 - 1) (fun g i wr => ∃ k : Nat, k = g ∧ k < at0 ∧ i = .int .i64 k ∧ Below w.heap.size w wr)
  case atStart => exact ⟨at0 - 1, rfl, by omega, by go_num, Below.refl _ _⟩
  case round =>
    obtain ⟨k, rfl, hk, rfl, hb⟩ := hrel
    have HB := Lib.hid hb
    clear hb
    by_cases hpos : 0 < k
    · obtain ⟨b, off, hab, hcell⟩ := HR.out.at HB.out (show k < len by omega)
      obtain ⟨b', off', hab', hcell'⟩ := HR.out.at HB.out (show k - 1 < len by omega)
      subst hab
      cases hab'
      have hS := @sure_brk f len k hpos (by omega)
      generalize hx : f k = x at hcell hS
      generalize hy : f (k - 1) = y at hcell' hS
      have HS := Lib.hid hS
      have HB0 := HB.out
      clear hS hx hy
      obtain ⟨j, rfl⟩ : ∃ j, k = j + 1 := ⟨k - 1, by omega⟩
      rw [show j + 1 - 1 = j from rfl] at hcell'
      have q0 : (0 : Int) ≤ (j : Int) := by omega
      have q4 : IntKind.i64.wrap (((j + 1 : Nat) : Int) - 1) = (j : Int) := by rw [IntKind.wrap_i64]; omega
      have q5 : IntKind.i64.wrap ((j : Int) + 1 - 1) = (j : Int) := by rw [IntKind.wrap_i64]; omega
      have q1 : (0 : Int) ≤ (j : Int) + 1 := by omega
      have q2 : (j : Int) + 1 < (len : Int) := by omega
      have q3 : (j : Int) < (len : Int) := by omega
      have q6 : IntKind.i64.wrap (j : Int) = (j : Int) := by rw [IntKind.wrap_i64]; omega
      go_wp2_with fail
      go_region_held3 (fun w' => w'.cell? ⟨b, off + (j + 1), none⟩ = some (.int .i64 x) ∧ w'.cell? ⟨b, off + j, none⟩ = some (.int .i64 y) ∧ Below w.heap.size w w')
        (first | exact ⟨hcell, hcell', HB0.drew⟩ | go_keep | (go_split_ands; exact ⟨cell_below (by assumption) hb2, cell_below (by assumption) hb2, bt (by assumption) hb2⟩))
        (first | (go_at_call 52; refine (class_any _ _).mono ?_; rintro e w2 ⟨rfl, hb2⟩))
      all_goals
        have hh : Below w.heap.size w w2 := by (first | (rename_i h; exact h.2.2) | assumption)
        have HH := Lib.hid hh
        clear hh HB0 hcell hcell' q4 q5 q6
        generalize classF y = l at *
        generalize classF x = r at *
        cases hl1 : (l == 1) <;> cases hr2 : (r == 2) <;> cases hal : apartB l <;> cases har : apartB r
        all_goals
          first
            | (rw [eq_of_beq hl1] at hal; exact absurd hal (by decide))
            | (rw [eq_of_beq hr2] at har; exact absurd har (by decide))
            | skip
        all_goals
          go_wp2_with (first | (go_at_call 53; refine (apart_any _ _).mono ?_; rintro e w3 ⟨rfl, rfl⟩))
          first
            | (go_ret
               exact ⟨⟨j + 1, rfl, hk, HS.out (by first | exact .inl hal | exact .inr har) (by rintro ⟨h1, h2⟩; rw [h1] at hl1; rw [h2] at hr2; first | exact absurd hl1 (by decide) | exact absurd hr2 (by decide))⟩, HH.out⟩)
            | (go_roundg j
               case measure => omega
               case rel => exact ⟨j, rfl, by omega, by go_num, HH.out⟩)
    · have hz : k = 0 := by omega
      subst hz
      go_wp2
      go_ret
      exact ⟨⟨0, rfl, h0, rfl⟩, HB.out⟩
theorem snapF_out {f : Nat → Int} {n : Nat} {a : Int} (h : a ≤ 0 ∨ (n : Int) ≤ a) : (snapF f n a : Int) = min (max a 0) n := by
  unfold snapF
  rcases h with h | h
  · rw [show min a.toNat n = 0 from by omega]
    show ((0 : Nat) : Int) = _
    omega
  · rw [show min a.toNat n = n from by omega, snapN_self.2 (isB_end f n)]
    omega
theorem snapF_in {f : Nat → Int} {n a : Nat} (h : a ≤ n) : snapF f n (a : Int) = snapN f n a := by
  unfold snapF; rw [show min (a : Int).toNat n = a from by omega]
set_option maxHeartbeats 2000000 in
theorem snap_any (sa : Option Addr) (len scap : Nat) (f : Nat → Int) (a : Int) (w : World) (hl : len ≤ maxLen) (hr : IsInts w sa len f) :
    Calls Try.prog 20 #[.slice sa len scap, .int .i64 a] w fun e w' => e = .returned (.int .i64 (snapF f len a)) ∧ Below w.heap.size w w' := by
  have hmf : ∀ (fn : Fn) (first cap : Array Value) (w : World), (Instr.makeFunc fn first cap).run Try.prog w = .ok (.func fn first cap) w := fun _ _ _ _ => rfl
  have hlm := hl
  unfold maxLen at hl
  by_cases ho : a ≤ 0 ∨ (len : Int) ≤ a
  · have he := @snapF_out f len a ho
    generalize snapF f len a = r at he
    have HE := Lib.hid he
    clear he hr
    have hn : IsBox (w.alloc (.cells #[.int .i64 a] 3)) w.heap.size 3 (.int .i64 a) := IsBox.new w 3 _
    have hb : Below w.heap.size w (w.alloc (.cells #[.int .i64 a] 3)) := (Below.refl _ _).alloc (Nat.le_refl _) _
    have HB := Lib.hid hb
    obtain ⟨hc, hf⟩ := hn.cell
    clear hn hb
    by_cases ha0 : a ≤ 0
    all_goals
      go_enter Try.func20, Try.ntmps20
      go_wp2
      all_goals
        go_ret
        exact ⟨ret_int (by have := HE.out; omega), HB.out⟩
  · obtain ⟨k, rfl⟩ : ∃ k : Nat, a = k := ⟨a.toNat, by omega⟩
    rw [snapF_in (by omega)]
    have HR := Lib.hid hr
    clear hr
    go_enter Try.func20, Try.ntmps20
    go_wp2_with fail
    refine (safe_any sa len scap f k _ hlm (HR.out.later ((Below.refl _ _).alloc (Nat.le_refl _) _)) (by omega) (by omega)).mono ?_
    rintro e w1 ⟨⟨i, rfl, hik, hbi⟩, hb1⟩
    have hsz : w.heap.size < w1.heap.size := by have := hb1.size; simp at this; omega
    have HB1 := Lib.hid (show Below w.heap.size w w1 from ((Below.refl _ _).alloc (Nat.le_refl _) _).trans (hb1.mono (by simp)))
    have HN := Lib.hid ((IsBox.new w 3 (.int .i64 k)).below hb1)
    obtain ⟨c1, f1⟩ := HN.out.cell
    clear hb1
    go_wp2_with fail
    refine (walk_any (fun (s : Nat) wr => IsBox wr w.heap.size 3 (.int .i64 k) ∧ IsBox wr w1.heap.size 3 (.int .i64 s)) (snapY k) w 38 #[.pointer (some ⟨w.heap.size, 0, none⟩), .pointer (some ⟨w1.heap.size, 0, none⟩)] len scap f sa ?hY (fun s w1 w2 h hb => ⟨h.1.below hb, h.2.below hb⟩) (enters_of Try.func38 (by kernel_rfl) rfl) HR.out hlm i (by omega) i _ ⟨HN.out.alloc _, IsBox.new w1 3 _⟩ (HB1.out.alloc (by omega) _)).mono ?_
    case hY =>
      intro s k' w2 _ h1 hb1
      refine (snap1_any k' _ _ s k w2 hsz h1.1 h1.2).mono ?_
      rintro e w3 ⟨rfl, h2, hb2⟩
      exact ⟨rfl, h2, hb1.trans hb2⟩
    rintro e w2 ⟨rfl, h1, hb2⟩
    rw [snap_whole (by omega) (by omega) hbi] at h1
    have HB := Lib.hid hb2
    obtain ⟨hc, hf⟩ := h1.2.cell
    clear h1 hb2 c1 f1
    go_wp2
    go_ret
    exact ⟨rfl, HB.out⟩
set_option maxHeartbeats 2000000 in
theorem isbreak_any (sa : Option Addr) (len scap : Nat) (f : Nat → Int) (a : Int) (w : World) (hl : len ≤ maxLen) (hr : IsInts w sa len f) :
    Calls Try.prog 21 #[.slice sa len scap, .int .i64 a] w fun e w' => e = .returned (.bool (isF f len a)) ∧ Below w.heap.size w w' := by
  have hlm := hl
  unfold maxLen at hl
  by_cases ho : 0 ≤ a ∧ a ≤ (len : Int)
  · obtain ⟨k, rfl⟩ : ∃ k : Nat, a = k := ⟨a.toNat, by omega⟩
    have he : isF f len (k : Int) = decide ((snapF f len k : Int) = k) := by
      unfold isF
      rw [decide_eq_true ho.1, decide_eq_true ho.2, snapF_in (by omega), Bool.eq_iff_iff]
      simp only [Bool.true_and, Int.toNat_natCast, decide_eq_true_eq]
      rw [← snapN_self]; omega
    have HE := Lib.hid he
    have HR := Lib.hid hr
    clear he hr
    go_enter Try.func21, Try.ntmps21
    go_wp2_with fail
    refine (snap_any sa len scap f k w hlm HR.out).mono ?_
    rintro e w1 ⟨rfl, hb1⟩
    have HB := Lib.hid hb1
    clear hb1
    go_wp2
    go_ret
    exact ⟨ret_bool (by rw [HE.out, Bool.eq_iff_iff]; simp), HB.out⟩
  · have he : isF f len a = false := by
      unfold isF
      rcases Classical.not_and_iff_not_or_not.1 ho with h | h
      · rw [decide_eq_false h]; rfl
      · rw [decide_eq_false h, Bool.and_false]; rfl
    rw [he]
    clear he hr
    by_cases ha0 : 0 ≤ a
    all_goals
      go_enter Try.func21, Try.ntmps21
      go_wp2
      go_ret
      exact ⟨rfl, Below.refl _ _⟩
set_option maxHeartbeats 2000000 in
theorem prev_any (sa : Option Addr) (len scap : Nat) (f : Nat → Int) (a : Int) (w : World) (hl : len ≤ maxLen) (hr : IsInts w sa len f) :
    Calls Try.prog 28 #[.slice sa len scap, .int .i64 a] w fun e w' => e = .returned (.int .i64 (prevF f len a)) ∧ Below w.heap.size w w' := by
  have hlm := hl
  unfold maxLen at hl
  by_cases ho : a ≤ 0 ∨ (len : Int) < a
  · have he : (prevF f len a : Int) = min (max a 0) len := by
      unfold prevF
      split
      · omega
      · rw [if_pos (by omega)]; omega
    generalize prevF f len a = r at he
    have HE := Lib.hid he
    clear he hr
    by_cases ha0 : a ≤ 0
    all_goals
      go_enter Try.func28, Try.ntmps28
      go_wp2
      all_goals
        go_ret
        exact ⟨ret_int (by have := HE.out; omega), Below.refl _ _⟩
  · have he : prevF f len a = snapF f len (a - 1) := by unfold prevF; rw [if_neg (by omega), if_neg (by omega)]
    rw [he]
    have HR := Lib.hid hr
    clear he hr
    go_enter Try.func28, Try.ntmps28
    go_wp2_with fail
    refine (snap_any sa len scap f _ w hlm HR.out).mono ?_
    rintro e w1 ⟨rfl, hb1⟩
    have HB := Lib.hid hb1
    clear hb1
    go_wp2
    go_ret
    exact ⟨rfl, HB.out⟩
set_option maxHeartbeats 2000000 in
theorem next_any (sa : Option Addr) (len scap : Nat) (f : Nat → Int) (a : Int) (w : World) (hl : len ≤ maxLen) (hr : IsInts w sa len f) :
    Calls Try.prog 27 #[.slice sa len scap, .int .i64 a] w fun e w' => e = .returned (.int .i64 (nextF f len a)) ∧ Below w.heap.size w w' := by
  have hmf : ∀ (fn : Fn) (first cap : Array Value) (w : World), (Instr.makeFunc fn first cap).run Try.prog w = .ok (.func fn first cap) w := fun _ _ _ _ => rfl
  have hlm := hl
  unfold maxLen at hl
  by_cases ho : a < 0 ∨ (len : Int) ≤ a
  · have he : (nextF f len a : Int) = min (max a 0) len := by
      unfold nextF
      split
      · omega
      · rw [show min a.toNat len = len from by omega]
        unfold nextN
        rw [Nat.sub_self]
        show ((len : Nat) : Int) = _
        omega
    generalize nextF f len a = r at he
    have HE := Lib.hid he
    clear he hr
    have hn : IsBox (w.alloc (.cells #[.int .i64 a] 3)) w.heap.size 3 (.int .i64 a) := IsBox.new w 3 _
    have hb : Below w.heap.size w (w.alloc (.cells #[.int .i64 a] 3)) := (Below.refl _ _).alloc (Nat.le_refl _) _
    have HB := Lib.hid hb
    obtain ⟨hc, hf⟩ := hn.cell
    clear hn hb
    by_cases ha0 : a < 0
    all_goals
      go_enter Try.func27, Try.ntmps27
      go_wp2
      all_goals
        go_ret
        exact ⟨ret_int (by have := HE.out; omega), HB.out⟩
  · obtain ⟨k, rfl⟩ : ∃ k : Nat, a = k := ⟨a.toNat, by omega⟩
    have he : nextF f len (k : Int) = nextN f len k := by unfold nextF; rw [if_neg (by omega), show min (k : Int).toNat len = k from by omega]
    rw [he]
    have HR := Lib.hid hr
    clear he hr
    have hb2 := boxes2 w (.int .i64 k) (.int .i64 len)
    dsimp only at hb2
    have HN := Lib.hid hb2
    obtain ⟨hc, hf⟩ := hb2.1.1.cell
    clear hb2
    go_enter Try.func27, Try.ntmps27
    go_wp2_with fail
    rw [show (k : Int) + 1 = ((k + 1 : Nat) : Int) from by omega]
    refine (safe_any sa len scap f (k + 1) _ hlm (HR.out.later HN.out.2) (by omega) (by omega)).mono ?_
    rintro e w1 ⟨⟨i, rfl, hik, hbi⟩, hb1⟩
    have HB1 := Lib.hid (show Below w.heap.size w w1 from HN.out.2.trans (hb1.mono (by simp; omega)))
    have HN1 := Lib.hid (And.intro (HN.out.1.1.below hb1) (HN.out.1.2.below hb1))
    clear hb1 HN hc hf
    obtain ⟨c1, f1⟩ := HN1.out.1.cell
    go_wp2_with fail
    refine (walk_any (fun (s : Nat) wr => IsBox wr w.heap.size 3 (.int .i64 k) ∧ IsBox wr (w.heap.size + 1) 3 (.int .i64 s)) (nextY k) w 42 #[.pointer (some ⟨w.heap.size, 0, none⟩), .pointer (some ⟨w.heap.size + 1, 0, none⟩)] len scap f sa ?hY (fun s w1 w2 h hb => ⟨h.1.below hb, h.2.below hb⟩) (enters_of Try.func42 (by kernel_rfl) rfl) HR.out hlm i (by omega) len _ HN1.out HB1.out).mono ?_
    case hY =>
      intro s k' w2 _ h1 hb1
      refine (next1_any k' _ s k w2 h1.1 h1.2).mono ?_
      rintro e w3 ⟨rfl, h2, hb2⟩
      exact ⟨rfl, h2, hb1.trans hb2⟩
    rintro e w2 ⟨rfl, h1, hb2⟩
    rw [next_whole (by omega) (by omega) hbi] at h1
    have HB := Lib.hid hb2
    obtain ⟨hc, hf⟩ := h1.2.cell
    clear h1 hb2 c1 f1
    go_wp2
    go_ret
    exact ⟨rfl, HB.out⟩
end Go.Proofs.Ytpipcmbfdcbboaa
