/- Contracts: two hexadecimal digits, as the document reads them. Condition: fewer than 100000 ints. -/
import Derived.Test.YtdegdoilpamjjaaDoorFl
import Derived.IntWalk
import Derived.Deep.QuietTactic
import Derived.BigQuiet
import Derived.Deep.CutBlock
import Derived.Deep.DeepCutAuto
namespace Go.Proofs.YtdegdoilpamjjaaDoor
open Go.RowKit
set_option linter.unusedVariables false
set_option maxHeartbeats 1000000 in
theorem letter_c (c : Int) (w : World) : Calls Tryd.prog 62 #[.int .i64 c] w fun e w' => e = .returned (.bool (letB c)) ∧ w = w' := by
  go_enter Tryd.func62, Tryd.ntmps62
  go_wp2
  all_goals
    go_ret
    exact ⟨ret_bool (by unfold letB; rw [Bool.eq_iff_iff]; simp; omega), rfl⟩
/-- block b holds a reader -/
def RdM (w : World) (b : Nat) (s : Value) (k : Int) (bad : Bool) : Prop := w.heap[b]? = some (.cells #[.pointer none, s, .int .i64 k, .bool bad] 110 (0, 0))
theorem RdM.lt {w : World} {b : Nat} {s : Value} {k : Int} {bad : Bool} (h : RdM w b s k bad) : b < w.heap.size := heap_lt h
theorem fail_c (b : Nat) (s : Value) (k q : Int) (bad : Bool) (w : World) (h : RdM w b s k bad) : Calls Tryd.prog 51 #[.pointer (some ⟨b, 0, none⟩), .int .i64 q] w fun e w' => e = .returned (.int .i64 0) ∧ Below b w w' := by
  have d2 : w.cell? ⟨b, 2, none⟩ = some (.int .i64 k) := block_cell h
  have d3 : w.cell? ⟨b, 3, none⟩ = some (.bool bad) := block_cell h
  have f0 : ∀ i, w.frozen? ⟨b, i, none⟩ = false := fun i => block_free h
  have hb1 : Below b w ((w.setCell ⟨b, 3, none⟩ (.bool true)).setCell ⟨b, 2, none⟩ (.int .i64 q)) := ((Below.refl b w).setCell (Nat.le_refl _) _).setCell (Nat.le_refl _) _
  have HB1 := Lib.hid hb1
  clear h hb1
  cases bad
  all_goals
    go_enter Tryd.func51, Tryd.ntmps51
    go_wp2
    go_ret
    first
      | exact ⟨rfl, HB1.out⟩
      | exact ⟨rfl, Below.refl _ _⟩
theorem wrap64_in {x : Int} (h1 : -9223372036854775808 ≤ x) (h2 : x ≤ 9223372036854775807) : wrap64 x = x := by
  rw [← IntWalk.i64_left]
  exact IntWalk.i64_in _ (by omega)
theorem hexV_cases (c : Int) : 48 ≤ c ∧ c ≤ 57 ∧ hexV c = c - 48 ∨ 97 ≤ c ∧ c ≤ 102 ∧ hexV c = c - 97 + 10 ∨ 65 ≤ c ∧ c ≤ 70 ∧ hexV c = c - 65 + 10 ∨ (¬ (48 ≤ c ∧ c ≤ 57) ∧ ¬ (97 ≤ c ∧ c ≤ 102) ∧ ¬ (65 ≤ c ∧ c ≤ 70)) ∧ hexV c = -1 := by
  unfold hexV; repeat' split <;> omega
def hexR (l : List Int) (k : Nat) : Int := if k + 1 < l.length ∧ 0 ≤ hexV (gl l k) ∧ 0 ≤ hexV (gl l (k + 1)) then 16 * hexV (gl l k) + hexV (gl l (k + 1)) else -1
def hexS (l : List Int) (k i : Nat) : Int := if i = 0 then 0 else if i = 1 then hexV (gl l k) else 16 * hexV (gl l k) + hexV (gl l (k + 1))
theorem hexS_0 (l : List Int) (k : Nat) : hexS l k 0 = 0 := by simp [hexS]
theorem hexS_1 (l : List Int) (k : Nat) : hexS l k 1 = hexV (gl l k) := by simp [hexS]
theorem hexS_2 (l : List Int) (k : Nat) : hexS l k 2 = 16 * hexV (gl l k) + hexV (gl l (k + 1)) := by simp [hexS]
set_option maxRecDepth 100000 in
set_option maxHeartbeats 4000000 in
theorem hex_c (b rb ro n cap : Nat) (l : List Int) (k : Nat) (w : World) (hn : l.length = n) (hn2 : n < 100000) (hk : k < 100000) (h : RdM w b (.slice (some ⟨rb, ro, none⟩) n cap) k false) (hr : IsInts w (some ⟨rb, ro, none⟩) n (gl l)) (hrb : rb < b) :
    Calls Tryd.prog 61 #[.pointer (some ⟨b, 0, none⟩), .int .i64 2, .int .i64 255] w fun e w' => e = .returned (.int .i64 (hexR l k)) ∧ Below b w w' := by
  have HR := Lib.hid hr
  have HM := Lib.hid h
  have HN := Lib.hid hn
  clear hr h hn
  go_enter Tryd.func61, Tryd.ntmps61
  go_wp2_with fail
  go_loopg [7, 8] 2 (fun g nv iv wr => ∃ i : Nat, i + g = 2 ∧ nv = .int .i64 (hexS l k i) ∧ iv = .int .i64 i ∧ RdM wr b (.slice (some ⟨rb, ro, none⟩) n cap) ((k + i : Nat) : Int) false ∧ Below b w wr ∧ (∀ j, j < i → k + j < n ∧ 0 ≤ hexV (gl l (k + j))))
  case atStart => exact ⟨0, by omega, by rw [hexS_0], rfl, HM.out, Below.refl _ _, fun j hj => absurd hj (Nat.not_lt_zero _)⟩
  case round =>
    clear HM
    obtain ⟨i, hgi, rfl, rfl, hm, hb, hok⟩ := hrel
    have d1 : wr.cell? ⟨b, 1, none⟩ = some (.slice (some ⟨rb, ro, none⟩) n cap) := block_cell hm
    have d2 : wr.cell? ⟨b, 2, none⟩ = some (.int .i64 ((k + i : Nat) : Int)) := block_cell hm
    have f0 : ∀ i, wr.frozen? ⟨b, i, none⟩ = false := fun i => block_free hm
    have HM := Lib.hid hm
    have HB := Lib.hid hb
    have HOK := Lib.hid hok
    clear hm hb hok
    obtain ⟨p, hp⟩ : ∃ p : Nat, k + i = p := ⟨_, rfl⟩
    rw [hp] at d2
    have HP := Lib.hid hp
    by_cases hi2 : i < 2
    · have q0 : (i : Int) < 2 := by omega
      by_cases hpn : p < n
      · have q1 : ¬ (n : Int) ≤ (p : Int) := by omega
        have q2 : (p : Int) < (n : Int) := by omega
        obtain ⟨c, hc⟩ : ∃ c, gl l p = c := ⟨_, rfl⟩
        have c0 := (HR.out.block (w' := wr) (x := rb) (fun a ha => by cases ha; rfl) HB.out.size (HB.out.block rb hrb)).cell hpn
        rw [hc] at c0
        have HC := Lib.hid hc
        obtain ⟨N, hN⟩ : ∃ N, hexS l k i = N := ⟨_, rfl⟩
        rw [hN]
        have HNN := Lib.hid hN
        clear hc hN hp
        have HMQ := Lib.hid (fun q => (show RdM (wr.drewN q) b (.slice (some ⟨rb, ro, none⟩) n cap) ((k + i : Nat) : Int) false from HM.out))
        have HBQ := Lib.hid (fun q => (show Below b w (wr.drewN q) from ⟨HB.out.os, HB.out.tape, HB.out.output, HB.out.size, HB.out.block⟩))
        go_wp2_with fail
        go_quiet (fail)
        go_wp2_with fail
        go_quiet (fail)
        go_upto_block 2 with (fail)
        go_cut [10] (fun dv wx => dv = .int .i64 (hexV c) ∧ ∃ q, wx = wr.drewN q)
        case first =>
          have HX := Lib.hid (hexV_cases c)
          go_wp2
          all_goals
            go_meet
            refine ⟨?_, _, rfl⟩
            have := HX.out
            first
              | (rw [show hexV c = -1 by omega])
              | (congr 1; omega)
        case rest =>
          obtain ⟨rfl, q, rfl⟩ := hcut
          have hD := hexV_le c
          obtain ⟨D, hDe⟩ : ∃ D, hexV c = D := ⟨_, rfl⟩
          rw [hDe] at hD ⊢
          have HDE := Lib.hid hDe
          clear hDe c0 q1 q2
          have hmq := HMQ.out q
          have hbq := HBQ.out q
          clear HMQ HBQ HM HB d1 d2 f0
          generalize wr.drewN q = wq at *
          have e2 : wq.cell? ⟨b, 2, none⟩ = some (.int .i64 (p : Int)) := by rw [← HP.out]; exact block_cell hmq
          have g0 : ∀ i, wq.frozen? ⟨b, i, none⟩ = false := fun i => block_free hmq
          have HMQ := Lib.hid hmq
          have HBQ := Lib.hid hbq
          clear hmq hbq
          obtain ⟨hD1, hD2⟩ := hD
          obtain rfl | rfl : i = 0 ∨ i = 1 := by omega
          · obtain rfl : N = 0 := by rw [← HNN.out, hexS_0]
            have HK1 := Lib.hid (show ((k + 1 : Nat) : Int) = (p : Int) + 1 by have := HP.out; omega)
            have HKP := Lib.hid (show k = p by have := HP.out; omega)
            have w1 : wrap64 D = D := wrap64_in (by omega) (by omega)
            have w2 : wrap64 (D * 16) = D * 16 := wrap64_in (by omega) (by omega)
            have w3 : IntKind.i64.wrap (D * 16) = D * 16 := IntWalk.i64_in _ (by omega)
            go_wp2_with fail
            go_loopg [11, 12] 1 (fun g lv jv wz => ∃ j : Nat, j + g = 1 ∧ lv = .int .i64 (if j = 0 then D else D * 16) ∧ jv = .int .i64 (1 + (j : Int)) ∧ wq = wz)
            case atStart => exact ⟨0, rfl, rfl, rfl, rfl⟩
            case round =>
              obtain ⟨j, hj, rfl, rfl, rfl⟩ := hrel
              by_cases hj0 : j = 0
              · subst hj0
                simp only [if_true]
                go_wp2
                go_roundg 0
                case measure => omega
                case rel => exact ⟨1, rfl, rfl, by first | rfl | go_num, rfl⟩
              · obtain rfl : j = 1 := by omega
                simp only [Nat.one_ne_zero, if_false]
                by_cases hneg : D < 0
                · skip
                  have HRES := Lib.hid (show hexR l k = -1 from by unfold hexR; rw [if_neg]; intro h; have h2 := HC.out; have h3 := HDE.out; have h4 := h.2.1; rw [HKP.out, h2, h3] at h4; omega)
                  go_wp2_with fail
                  refine (fail_c b _ _ _ _ _ HMQ.out).mono ?_
                  rintro e w2 ⟨rfl, hb2⟩
                  have HB2 := Lib.hid (HBQ.out.trans hb2)
                  clear hb2
                  go_wp2
                  go_ret
                  exact ⟨ret_int HRES.out.symm, HB2.out⟩
                · have q5 : ¬ (255 : Int) < D * 16 := by omega
                  have n1 : IntKind.i64.wrap ((p : Int) + 1) = (p : Int) + 1 := IntWalk.i64_in _ (by omega)
                  have n2 : wrap64 ((p : Int) + 1) = (p : Int) + 1 := wrap64_in (by omega) (by omega)
                  go_wp2
                  go_roundg 1
                  case measure => omega
                  case rel =>
                    refine ⟨1, rfl, ?_, rfl, ?_, HBQ.out.setCell (show b ≤ (⟨b, 2, none⟩ : Addr).block from Nat.le_refl _) _, ?_⟩
                    · rw [hexS_1, HKP.out, HC.out, HDE.out]
                    · have := block_set (i := 2) (.int .i64 ((p : Int) + 1)) HMQ.out
                      rw [HK1.out]
                      exact this
                    · intro j hj
                      obtain rfl : j = 0 := by omega
                      rw [Nat.add_zero, HKP.out, HC.out, HDE.out]
                      exact ⟨hpn, hneg⟩
          · have hok0 := HOK.out 0 (by omega)
            rw [Nat.add_zero] at hok0
            have hN0 : 0 ≤ N ∧ N ≤ 15 := by
              have h1 := hexS_1 l k
              have h2 := hexV_le (gl l k)
              have h3 := HNN.out
              omega
            obtain ⟨hN1, hN2⟩ := hN0
            have HOK0 := Lib.hid hok0
            clear hok0
            have HK1 := Lib.hid (show ((k + 2 : Nat) : Int) = (p : Int) + 1 by have := HP.out; omega)
            have HKP := Lib.hid (show k + 1 = p by have := HP.out; omega)
            have w1 : wrap64 (16 * N) = 16 * N := wrap64_in (by omega) (by omega)
            have w2 : wrap64 (16 * N + D) = 16 * N + D := wrap64_in (by omega) (by omega)
            have w3 : IntKind.i64.wrap (16 * N) = 16 * N := IntWalk.i64_in _ (by omega)
            have w4 : IntKind.i64.wrap (16 * N + D) = 16 * N + D := IntWalk.i64_in _ (by omega)
            go_wp2_with fail
            go_loopg [11, 12] 0 (fun g lv jv wz => g = 0 ∧ lv = .int .i64 (16 * N + D) ∧ jv = .int .i64 2 ∧ wq = wz)
            case atStart => exact ⟨rfl, rfl, rfl, rfl⟩
            case round =>
              obtain ⟨_, rfl, rfl, rfl⟩ := hrel
              by_cases hneg : D < 0
              · skip
                have HRES := Lib.hid (show hexR l k = -1 from by unfold hexR; rw [if_neg]; intro h; have h2 := HC.out; have h3 := HDE.out; have h4 := h.2.2; rw [HKP.out, h2, h3] at h4; omega)
                go_wp2_with fail
                refine (fail_c b _ _ _ _ _ HMQ.out).mono ?_
                rintro e w2 ⟨rfl, hb2⟩
                have HB2 := Lib.hid (HBQ.out.trans hb2)
                clear hb2
                go_wp2
                go_ret
                exact ⟨ret_int HRES.out.symm, HB2.out⟩
              · have q5 : ¬ (255 : Int) < 16 * N + D := by omega
                have n1 : IntKind.i64.wrap ((p : Int) + 1) = (p : Int) + 1 := IntWalk.i64_in _ (by omega)
                have n2 : wrap64 ((p : Int) + 1) = (p : Int) + 1 := wrap64_in (by omega) (by omega)
                go_wp2
                go_roundg 0
                case measure => omega
                case rel =>
                  refine ⟨2, rfl, ?_, rfl, ?_, HBQ.out.setCell (show b ≤ (⟨b, 2, none⟩ : Addr).block from Nat.le_refl _) _, ?_⟩
                  · rw [hexS_2, HKP.out, HC.out, HDE.out, ← HNN.out, hexS_1]
                  · have := block_set (i := 2) (.int .i64 ((p : Int) + 1)) HMQ.out
                    rw [HK1.out]
                    exact this
                  · intro j hj
                    obtain rfl | rfl : j = 0 ∨ j = 1 := by omega
                    · exact HOK0.out
                    · rw [HKP.out, HC.out, HDE.out]
                      exact ⟨hpn, hneg⟩
      · have q1 : (n : Int) ≤ (p : Int) := by omega
        have q2 : ¬ (p : Int) < (n : Int) := by omega
        have HRES := Lib.hid (show hexR l k = -1 from by unfold hexR; rw [if_neg]; intro h; have h1 := HP.out; have h2 := HN.out; have h3 := h.1; omega)
        have HMQ := Lib.hid (fun q => (show RdM (wr.drewN q) b (.slice (some ⟨rb, ro, none⟩) n cap) ((k + i : Nat) : Int) false from HM.out))
        have HBQ := Lib.hid (fun q => (show Below b w (wr.drewN q) from ⟨HB.out.os, HB.out.tape, HB.out.output, HB.out.size, HB.out.block⟩))
        clear hp
        go_wp2_with fail
        go_quiet (fail)
        go_wp2_with fail
        refine (fail_c b _ _ _ _ _ (HMQ.out _)).mono ?_
        rintro e w2 ⟨rfl, hb2⟩
        have HB2 := Lib.hid ((HBQ.out _).trans hb2)
        clear hb2
        go_wp2
        go_ret
        exact ⟨ret_int HRES.out.symm, HB2.out⟩
    · obtain rfl : i = 2 := by omega
      have h0 := HOK.out 0 (by omega)
      have h1 := HOK.out 1 (by omega)
      rw [Nat.add_zero] at h0
      have HRES := Lib.hid (show hexS l k 2 = hexR l k from by unfold hexR; rw [if_pos ⟨by have := HN.out; omega, h0.2, h1.2⟩, hexS_2])
      clear h0 h1 hp hi2
      go_wp2
      go_ret
      exact ⟨ret_int HRES.out, HB.out⟩
set_option maxRecDepth 100000 in
set_option maxHeartbeats 4000000 in
theorem hexed_c (rb ro n cap : Nat) (l : List Int) (k : Nat) (w : World) (hn : l.length = n) (hn2 : n < 100000) (hk : k < 100000) (hr : IsInts w (some ⟨rb, ro, none⟩) n (gl l)) (hrb : rb < w.heap.size) :
    Calls Tryd.prog 44 #[.slice (some ⟨rb, ro, none⟩) n cap, .int .i64 (k : Int)] w fun e w' => e = .returned (.int .i64 (hexR l k)) ∧ Below w.heap.size w w' := by
  have hm : RdM (w.alloc (.cells #[.pointer none, .slice (some ⟨rb, ro, none⟩) n cap, .int .i64 (k : Int), .bool false] 110)) w.heap.size (.slice (some ⟨rb, ro, none⟩) n cap) k false := one_new w _
  have hb := below_new2 w (.cells #[.pointer none, .slice (some ⟨rb, ro, none⟩) n cap, .int .i64 (k : Int), .bool false] 110)
  have HM := Lib.hid hm
  have HB := Lib.hid hb
  have HR := Lib.hid (hr.later hb)
  clear hm hb hr
  go_enter Tryd.func44, Tryd.ntmps44
  go_wp2_with fail
  refine (hex_c w.heap.size rb ro n cap l k _ hn hn2 hk HM.out HR.out hrb).mono ?_
  rintro e w2 ⟨rfl, hb2⟩
  have HB2 := Lib.hid (HB.out.trans hb2)
  clear hb2
  go_wp2
  go_ret
  exact ⟨rfl, HB2.out⟩
end Go.Proofs.YtdegdoilpamjjaaDoor
