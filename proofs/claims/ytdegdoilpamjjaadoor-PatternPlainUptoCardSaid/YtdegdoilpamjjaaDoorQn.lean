/- The walk of the law PatternPlain. Condition: fewer than 2^28 ints of a line. -/
import Derived.Test.YtdegdoilpamjjaaDoorQl
import Derived.Test.YtdegdoilpamjjaaDoorQm
namespace Go.Proofs.YtdegdoilpamjjaaDoor
open Go.RowKit
set_option linter.unusedVariables false
set_option linter.unusedSimpArgs false
theorem own_lit (w : World) (x : Int) : OwnInts (w.alloc (.cells #[.int .i64 x] 3)) w.heap.size (.slice (some ⟨w.heap.size, 0, none⟩) 1 1) [x] :=
  ⟨rfl, .inr ⟨w.heap.size, 1, _, rfl, Nat.le_refl _, one_new w _, Nat.le_refl _, by decide, rfl, rfl⟩⟩
theorem own_nil {w : World} {base : Nat} {s : Option Addr} {n c : Nat} {l : List Int} (h : OwnInts w base (.slice s n c) l) (hs : s = none) : n = 0 ∧ c = 0 := by
  subst hs
  rcases h.2 with ⟨h1, h2⟩ | ⟨g, cap, cur, h1, _⟩
  · injection h1 with _ h3 h4
    exact ⟨h3, h4⟩
  · injection h1 with h3
    cases h3
theorem own_is {w : World} {base : Nat} {s : Option Addr} {n c : Nat} {l : List Int} (h : OwnInts w base (.slice s n c) l) : IsInts w s n (gl l) := by
  obtain ⟨sa, m, cap, hv, hn, hi⟩ := h.shape
  obtain ⟨rfl, rfl, rfl⟩ := Value.slice.inj hv
  exact hi
theorem own_len {w : World} {base : Nat} {s : Option Addr} {n c : Nat} {l : List Int} (h : OwnInts w base (.slice s n c) l) : l.length = n ∧ n ≤ c := by
  rcases h.2 with ⟨h1, h2⟩ | ⟨g, cap, cur, h1, _, _, h2, _⟩
  · injection h1 with _ h3 h4
    omega
  · injection h1 with h0 h3 h4
    omega
theorem pre_lst {L W : List Int} {s : Nat} (h : s + W.length ≤ L.length) : preM L W s W.length ↔ lst (fun i => gl L (s + i)) W.length = lst (gl W) W.length := by
  constructor
  · intro hp
    exact lst_congr fun i hi => (hp i hi).2
  · intro he i hi
    exact ⟨by omega, lst_ext he i hi⟩
theorem first_one {L W : List Int} {st s t : Nat} (h : FirstAt L W st s) (k : FirstAt L W st t) : s = t := by
  obtain ⟨h1, h2, h3⟩ := h
  obtain ⟨k1, k2, k3⟩ := k
  rcases Nat.lt_trichotomy s t with e | e | e
  · exact absurd h2 (k3 s h1 e)
  · exact e
  · exact absurd k2 (h3 t k1 e)
theorem own_some {w : World} {base : Nat} {s : Option Addr} {n c : Nat} {l : List Int} (h : OwnInts w base (.slice s n c) l) (hn : 0 < n) : ∃ g, s = some ⟨g, 0, none⟩ := by
  rcases h.2 with ⟨h1, h2⟩ | ⟨g, cap, cur, h1, _⟩
  · injection h1 with _ h3 h4
    omega
  · injection h1 with h3
    exact ⟨g, h3⟩
theorem ints_shift {w : World} {g n s k : Nat} {f : Nat → Int} (h : IsInts w (some ⟨g, 0, none⟩) n f) (hs : s + k ≤ n) : IsInts w (some ⟨g, s, none⟩) k (fun i => f (s + i)) := by
  rcases h with h | ⟨b, off, e, hb, hc⟩
  · exact .inl (by omega)
  · cases e
    refine .inr ⟨g, s, rfl, hb, fun i hi => ?_⟩
    have := hc (s + i) (by omega)
    rw [Nat.zero_add] at this
    exact this
/-- the plain loop: is the word found yet? -/
def RelW (L W : List Int) (st nL gg : Nat) (wv sv : Value) : Prop :=
  ∃ s : Nat, sv = .int .i64 s ∧ st ≤ s ∧ s + gg = st + nL + 2 ∧ ((wv = .int .i64 (-1) ∧ s ≤ st + nL + 1 ∧ ∀ t, st ≤ t → t < s → ¬ preM L W t W.length) ∨ ∃ t0, wv = .int .i64 (t0 : Nat) ∧ s = t0 + 1 ∧ FirstAt L W st t0 ∧ t0 + W.length ≤ L.length)
set_option maxRecDepth 100000 in
set_option maxHeartbeats 16000000 in
theorem law_plain (a0 : Option Addr) (n0 c0 : Nat) (f0 : Nat → Int) (a1 : Option Addr) (n1 c1 : Nat) (f1 : Nat → Int) (at' : Int) (w : World) (hn0 : n0 < 16777216) (hn1 : n1 < 16777216) (hr0 : IsInts w a0 n0 f0) (hr1 : IsInts w a1 n1 f1)
    (hnil0 : a0 = none → n0 = 0 ∧ c0 = 0) (hnil1 : a1 = none → n1 = 0 ∧ c1 = 0) :
    Calls Tryd.prog 4 #[.slice a0 n0 c0, .slice a1 n1 c1, .int .i64 at'] w fun e w' => e = .returned (.bool true) ∧ Below w.heap.size w w' := by
  by_cases hbig : 100 < n0
  · have q1 : (100 : Int) < (n0 : Int) := by omega
    clear hr0 hr1 hnil0 hnil1
    go_enter Tryd.func4, Tryd.ntmps4
    go_wp2
    go_ret
    exact ⟨rfl, Below.refl _ _⟩
  · have q1 : ¬ (100 : Int) < (n0 : Int) := by omega
    obtain ⟨at2, hat2⟩ : ∃ at2 : Int, min at' 1048576 = at2 := ⟨_, rfl⟩
    have hmin1 : (if (1048576 : Int) < at' then 1048576 else at') = at2 := by split <;> omega
    have hmin3 : (if at' < (1048576 : Int) then at' else 1048576) = at2 := by split <;> omega
    have HAT := Lib.hid (show at2 ≤ 1048576 from by omega)
    obtain ⟨W, hW⟩ : ∃ W, ([120] : List Int) ++ lst f0 n0 = W := ⟨_, rfl⟩
    obtain ⟨L, hL⟩ : ∃ L, lst f1 n1 ++ W = L := ⟨_, rfl⟩
    obtain ⟨k, hk⟩ : ∃ k, n0 + 1 = k := ⟨_, rfl⟩
    obtain ⟨nL, hnL⟩ : ∃ nL, n1 + k = nL := ⟨_, rfl⟩
    have HWL := Lib.hid (show W.length = k from by rw [← hW, List.length_append, lst_len, ← hk]; show 1 + n0 = n0 + 1; omega)
    have HLL := Lib.hid (show L.length = nL from by rw [← hL, List.length_append, lst_len, HWL.out, hnL])
    have HE1 := Lib.hid (show ([120] : List Int).length + n0 = k from by show 1 + n0 = k; omega)
    have HE2 := Lib.hid (show (lst f1 n1).length + k = nL from by rw [lst_len, hnL])
    have HW := Lib.hid hW
    have HLW := Lib.hid hL
    have HK := Lib.hid hk
    have HNL := Lib.hid hnL
    have HR0 := Lib.hid hr0
    have HR1 := Lib.hid hr1
    have HN0 := Lib.hid hnil0
    have HN1 := Lib.hid hnil1
    have HO1 := Lib.hid (own_lit w 120)
    have HB1 := Lib.hid (below_newJ w (.cells #[.int .i64 120] 3))
    clear hW hL hk hnL hr0 hr1 hnil0 hnil1 hat2
    go_enter Tryd.func4, Tryd.ntmps4
    go_wp2_with (first
      | (at_builtin; refine wpList_append_onto rfl _ _ rfl w.heap.size (.slice (some ⟨w.heap.size, 0, none⟩) 1 1) [120] rfl HO1.out a0 n0 c0 f0 rfl (HR0.out.later HB1.out) HN0.out (by show 1 + n0 < _; omega) HB1.out.size ?_; intro s2 c2 w2 ho2 hb2; rw [HW.out, HE1.out] at ho2; rw [HE1.out]; have HO2 := Lib.hid ho2; have HB2 := Lib.hid (HB1.out.trans hb2); have HR12 := Lib.hid (HR1.out.later (HB1.out.trans hb2)); clear ho2 hb2)
      | (at_builtin; refine wpList_append_all rfl _ _ rfl rfl a1 n1 c1 f1 rfl HR12.out HN1.out (by omega) w2.heap.size (Nat.le_refl _) ?_; intro s3 c3 w3 ho3 hb3 _ _ _; have HO3 := Lib.hid ho3; have HB3 := Lib.hid hb3; have HO23 := Lib.hid (HO2.out.later hb3); clear ho3 hb3)
      | (at_builtin; refine wpList_append_onto rfl _ _ rfl w2.heap.size (.slice s3 n1 c3) (lst f1 n1) rfl HO3.out s2 k c2 (gl W) rfl (own_is HO23.out) (own_nil HO23.out) (by rw [lst_len]; have := HK.out; omega) HB3.out.size ?_; intro s4 c4 w4 ho4 hb4; rw [show lst f1 n1 ++ lst (gl W) k = L from by rw [← HLW.out]; congr 1; rw [← HWL.out]; exact lst_get W, HE2.out] at ho4; rw [HE2.out]; have HO4 := Lib.hid ho4; have HB4 := Lib.hid (HB3.out.trans hb4); clear ho4 hb4))
    have HW4 := Lib.hid (HO2.out.later HB4.out)
    have HBa := Lib.hid (HB2.out.trans (HB4.out.mono HB2.out.size))
    clear HO1 HB1 HO2 HB2 HR12 HO3 HB3 HO23 HB4
    refine (quoted_c s2 k c2 W w4 HWL.out (by have := HK.out; omega) (own_is HW4.out)).mono ?_
    rintro e w5 ⟨s5, m5, c5, rfl, hm5, ho5, hb5⟩
    have HO5 := Lib.hid ho5
    have HM5 := Lib.hid hm5
    have HB5 := Lib.hid hb5
    clear ho5 hm5 hb5
    go_wp2_with fail
    refine (compiled_c s5 m5 c5 W w5 HM5.out.symm (by
      have h1 := HM5.out
      have h2 := qd_len W
      have h3 := HWL.out
      have h4 := HK.out
      omega) (by have := HWL.out; have := HK.out; omega) (by have := HWL.out; have := HK.out; omega) (own_is HO5.out) (own_nil HO5.out)).mono ?_
    rintro e w6 ⟨pb, base, ga, cA, vs, rfl, hb6, hp6⟩
    have HP := Lib.hid hp6
    have HB6 := Lib.hid (HB5.out.trans (hb6.mono HB5.out.size))
    have HWO := Lib.hid (HW4.out.later HB6.out)
    have HLO := Lib.hid (HO4.out.later HB6.out)
    have HBb := Lib.hid (HBa.out.trans (HB6.out.mono HBa.out.size))
    clear hb6 hp6 HW4 HO4 HBa HB5 HO5 HB6
    go_wp2_with fail
    refine (groups_c pb w6 _ _ HP.out.pas.blk).mono ?_
    rintro e w7 ⟨rfl, rfl⟩
    obtain ⟨st, hst⟩ : ∃ st, at2.toNat = st := ⟨_, rfl⟩
    have hmx1 : (if (0 : Int) < at2 then at2 else 0) = (st : Int) := by split <;> omega
    have hmx3 : (if at2 < (0 : Int) then 0 else at2) = (st : Int) := by split <;> omega
    have HST := Lib.hid hst
    have hst20 : st ≤ 1048576 := by have := HAT.out; omega
    clear hst
    have hkp : 0 < k := by have := HK.out; omega
    obtain ⟨gL, rfl⟩ := own_some HLO.out (by have := HNL.out; omega)
    have HCL := Lib.hid (own_len HLO.out).2
    go_wp2_with fail
    go_loopg [8, 9] (nL + 2) (fun gg wv sv wr => Below w7.heap.size w7 wr ∧ RelW L W st nL gg wv sv)
    case atStart => exact ⟨Below.refl _ _, st, rfl, Nat.le_refl _, by omega, .inl ⟨rfl, by omega, fun t h1 h2 => by omega⟩⟩
    case round =>
      obtain ⟨hbl, s, rfl, hst1, hgs, ⟨rfl, hsn, hno⟩ | ⟨t0, rfl, rfl, hfi, htn⟩⟩ := hrel
      · have HNO := Lib.hid hno
        have HBL := Lib.hid hbl
        clear hno hbl
        have q2 : (0 : Int) ≤ (s : Int) := by omega
        have q3 : IntKind.i64.wrap ((s : Int) + (k : Int)) = ((s + k : Nat) : Int) := by have := HNL.out; have := HK.out; rw [IntKind.wrap_i64]; omega
        have q4 : IntKind.i64.wrap ((s : Int) + 1) = ((s + 1 : Nat) : Int) := by have := HNL.out; have := HK.out; rw [IntKind.wrap_i64]; omega
        by_cases hfit : s + k ≤ nL
        · have HLr := Lib.hid (HLO.out.later HBL.out)
          have HWr := Lib.hid (HWO.out.later HBL.out)
          have q5 : ((s + k : Nat) : Int) ≤ (nL : Int) := by omega
          have q6 : (s : Int) ≤ ((s + k : Nat) : Int) := by omega
          have q7 : ((s + k : Nat) : Int) ≤ (c4 : Int) := by have := HCL.out; omega
          have q8 : s + k - s = k := by omega
          have q9 : ((s + k : Nat) : Int).toNat = s + k := by omega
          have HSM := Lib.hid (same_any (some ⟨gL, s, none⟩) s2 k (c4 - s) k c2 (fun i => gl L (s + i)) (gl W) wr (by unfold maxLen; have := HK.out; omega) (by unfold maxLen; have := HK.out; omega) (ints_shift (own_is HLr.out) hfit) (own_is HWr.out))
          have HFIT := Lib.hid hfit
          clear hfit
          go_wp2_with fail
          refine HSM.out.mono ?_
          rintro e w8 ⟨rfl, hb8⟩
          have HB8 := Lib.hid (HBL.out.trans (hb8.mono HBL.out.size))
          clear hb8 HLr HWr HSM
          by_cases hp : preM L W s W.length
          · rw [sameB_of (show lst (fun i => gl L (s + i)) k = lst (gl W) k from by
              have h := (pre_lst (by have := HFIT.out; have := HLL.out; have := HWL.out; omega)).1 hp
              rw [HWL.out] at h
              exact h)]
            have HPR := Lib.hid hp
            clear hp
            go_wp2
            go_roundg (gk - 1)
            case measure => omega
            case rel => exact ⟨HB8.out, s + 1, by go_num, by omega, by have := HFIT.out; have := HNL.out; omega, .inr ⟨s, rfl, rfl, ⟨hst1, HPR.out, HNO.out⟩, by have := HFIT.out; have := HLL.out; have := HWL.out; omega⟩⟩
          · rw [sameB_not (show ¬ lst (fun i => gl L (s + i)) k = lst (gl W) k from fun h => hp ((pre_lst (by have := HFIT.out; have := HLL.out; have := HWL.out; omega)).2 (by rw [HWL.out]; exact h)))]
            have HPR := Lib.hid hp
            clear hp
            go_wp2
            go_roundg (gk - 1)
            case measure => have := HFIT.out; omega
            case rel => exact ⟨HB8.out, s + 1, by go_num, by omega, by have := HFIT.out; have := HNL.out; omega, .inl ⟨rfl, by have := HFIT.out; omega, fun t h1 h2 => by
              by_cases e : t < s
              · exact HNO.out t h1 e
              · obtain rfl : t = s := by omega
                exact HPR.out⟩⟩
        · have HNA := Lib.hid (show NoAt L W st from fun t h1 hp => by
            by_cases e : t < s
            · exact HNO.out t h1 e hp
            · have := (hp (W.length - 1) (by have := HWL.out; omega)).1
              have := HWL.out
              have := HLL.out
              omega)
          have q5 : ¬ ((s + k : Nat) : Int) ≤ (nL : Int) := by omega
          have HLr := Lib.hid (HLO.out.later HBL.out)
          have HPr := Lib.hid (HP.out.later HBL.out)
          have HBz := Lib.hid (HBb.out.trans (HBL.out.mono HBb.out.size))
          go_wp2_with fail
          refine (match_q _ base pb W ga cA vs HPr.out (by have := HWL.out; omega) (by have := HWL.out; have := HK.out; omega) (some ⟨gL, 0, none⟩) nL c4 L HLL.out (by have := HNL.out; have := HK.out; omega) (own_is HLr.out) at2).mono ?_
          rw [HST.out]
          rintro e w8 ⟨hb8, ⟨s', hf', rfl⟩ | ⟨hno', rfl⟩⟩
          · exact absurd hf'.2.1 (HNA.out s' hf'.1)
          · have HB8 := Lib.hid (HBz.out.trans (hb8.mono HBz.out.size))
            have HZ8 := Lib.hid (Nat.le_trans HBz.out.size hb8.size)
            clear hb8 hno'
            go_upto_region 16 with (refine wpList_store_row rfl 23 _ _ rfl w8.heap.size mZ rfl rfl _ _ (one_new w8 _) mZ_info rfl mZ_all ?_)
            have HBf := Lib.hid ((HB8.out.trans ((below_newJ w8 (.cells mZ 23)).mono HZ8.out)).trans (row_below (w := w8.alloc (.cells mZ 23)) (g := w8.heap.size) mZ HZ8.out))
            change Code.wp _ _ _ _ ((w8.alloc (.cells mZ 23)).setRow w8.heap.size mZ)
            generalize (w8.alloc (.cells mZ 23)).setRow w8.heap.size mZ = w9 at HBf ⊢
            go_wp2
            go_ret
            exact ⟨rfl, HBf.out⟩
      · have HFI := Lib.hid hfi
        have HTN := Lib.hid htn
        have HBL := Lib.hid hbl
        clear hbl hfi htn
        have q2 : (0 : Int) ≤ (t0 : Int) + 1 := by omega
        have q3 : IntKind.i64.wrap ((t0 : Int) + 1 + (k : Int)) = (t0 : Int) + 1 + (k : Int) := by
          have := HTN.out; have := HLL.out; have := HNL.out; have := HK.out; have := HWL.out
          rw [IntKind.wrap_i64]; omega
        have q4 : ¬ ((t0 : Nat) : Int) < 0 := by omega
        by_cases hfit : t0 + 1 + k ≤ nL
        · have q5 : (t0 : Int) + 1 + (k : Int) ≤ (nL : Int) := by omega
          have HLr := Lib.hid (HLO.out.later HBL.out)
          have HPr := Lib.hid (HP.out.later HBL.out)
          have HBz := Lib.hid (HBb.out.trans (HBL.out.mono HBb.out.size))
          go_wp2_with fail
          refine (match_q _ base pb W ga cA vs HPr.out (by have := HWL.out; omega) (by have := HWL.out; have := HK.out; omega) (some ⟨gL, 0, none⟩) nL c4 L HLL.out (by have := HNL.out; have := HK.out; omega) (own_is HLr.out) at2).mono ?_
          rw [HST.out]
          rintro e w8 ⟨hb8, ⟨s', hf', rfl⟩ | ⟨hno', rfl⟩⟩
          · obtain rfl := first_one HFI.out hf'
            have HB8 := Lib.hid (HBz.out.trans (hb8.mono HBz.out.size))
            have HZ8 := Lib.hid (Nat.le_trans HBz.out.size hb8.size)
            clear hb8 hf'
            generalize ht0 : ((t0 + W.length : Nat) : Int) = tt
            have q5 : IntKind.i64.wrap ((t0 : Int) + (k : Int)) = tt := by
              have := HWL.out; have := HTN.out; have := HLL.out; have := HNL.out; have := HK.out
              rw [IntKind.wrap_i64]; omega
            have q6 : ¬ (t0 : Int) < 0 := by omega
            clear ht0
            go_upto_region 16 with (refine wpList_store_row rfl 23 _ _ rfl w8.heap.size (mM t0 tt) rfl rfl _ _ (one_new w8 (.cells mZ 23)) (mM_info t0 tt) rfl (mM_all t0 tt) ?_)
            have HBf := Lib.hid ((HB8.out.trans ((below_newJ w8 (.cells mZ 23)).mono HZ8.out)).trans (row_below (w := w8.alloc (.cells mZ 23)) (g := w8.heap.size) (mM t0 tt) HZ8.out))
            have hx9 := row_set (mM t0 tt) (one_new w8 (.cells mZ 23))
            change Code.wp _ _ _ _ ((w8.alloc (.cells mZ 23)).setRow w8.heap.size (mM t0 tt))
            generalize (w8.alloc (.cells mZ 23)).setRow w8.heap.size (mM t0 tt) = w9 at HBf hx9 ⊢
            have z0 : w9.cell? ⟨w8.heap.size, 0, none⟩ = some (.int .i64 t0) := block_cell hx9
            have z1 : w9.cell? ⟨w8.heap.size, 1, none⟩ = some (.int .i64 tt) := block_cell hx9
            have z2 : w9.cell? ⟨w8.heap.size, 2, none⟩ = some (.int .i64 (-1)) := block_cell hx9
            have z3 : w9.cell? ⟨w8.heap.size, 19, none⟩ = some (.int .i64 (-1)) := block_cell hx9
            clear hx9
            go_wp2
            go_ret
            exact ⟨rfl, HBf.out⟩
          · exact absurd HFI.out.2.1 (hno' t0 HFI.out.1)
        · have q5 : ¬ (t0 : Int) + 1 + (k : Int) ≤ (nL : Int) := by omega
          have HLr := Lib.hid (HLO.out.later HBL.out)
          have HPr := Lib.hid (HP.out.later HBL.out)
          have HBz := Lib.hid (HBb.out.trans (HBL.out.mono HBb.out.size))
          go_wp2_with fail
          refine (match_q _ base pb W ga cA vs HPr.out (by have := HWL.out; omega) (by have := HWL.out; have := HK.out; omega) (some ⟨gL, 0, none⟩) nL c4 L HLL.out (by have := HNL.out; have := HK.out; omega) (own_is HLr.out) at2).mono ?_
          rw [HST.out]
          rintro e w8 ⟨hb8, ⟨s', hf', rfl⟩ | ⟨hno', rfl⟩⟩
          · obtain rfl := first_one HFI.out hf'
            have HB8 := Lib.hid (HBz.out.trans (hb8.mono HBz.out.size))
            have HZ8 := Lib.hid (Nat.le_trans HBz.out.size hb8.size)
            clear hb8 hf'
            generalize ht0 : ((t0 + W.length : Nat) : Int) = tt
            have q5 : IntKind.i64.wrap ((t0 : Int) + (k : Int)) = tt := by
              have := HWL.out; have := HTN.out; have := HLL.out; have := HNL.out; have := HK.out
              rw [IntKind.wrap_i64]; omega
            have q6 : ¬ (t0 : Int) < 0 := by omega
            clear ht0
            go_upto_region 16 with (refine wpList_store_row rfl 23 _ _ rfl w8.heap.size (mM t0 tt) rfl rfl _ _ (one_new w8 (.cells mZ 23)) (mM_info t0 tt) rfl (mM_all t0 tt) ?_)
            have HBf := Lib.hid ((HB8.out.trans ((below_newJ w8 (.cells mZ 23)).mono HZ8.out)).trans (row_below (w := w8.alloc (.cells mZ 23)) (g := w8.heap.size) (mM t0 tt) HZ8.out))
            have hx9 := row_set (mM t0 tt) (one_new w8 (.cells mZ 23))
            change Code.wp _ _ _ _ ((w8.alloc (.cells mZ 23)).setRow w8.heap.size (mM t0 tt))
            generalize (w8.alloc (.cells mZ 23)).setRow w8.heap.size (mM t0 tt) = w9 at HBf hx9 ⊢
            have z0 : w9.cell? ⟨w8.heap.size, 0, none⟩ = some (.int .i64 t0) := block_cell hx9
            have z1 : w9.cell? ⟨w8.heap.size, 1, none⟩ = some (.int .i64 tt) := block_cell hx9
            have z2 : w9.cell? ⟨w8.heap.size, 2, none⟩ = some (.int .i64 (-1)) := block_cell hx9
            have z3 : w9.cell? ⟨w8.heap.size, 19, none⟩ = some (.int .i64 (-1)) := block_cell hx9
            clear hx9
            go_wp2
            go_ret
            exact ⟨rfl, HBf.out⟩
          · exact absurd HFI.out.2.1 (hno' t0 HFI.out.1)
end Go.Proofs.YtdegdoilpamjjaaDoor
