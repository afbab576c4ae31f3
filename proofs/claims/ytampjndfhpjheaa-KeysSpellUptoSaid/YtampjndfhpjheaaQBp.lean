/- Contracts of the document's side: digits, whole. Condition: rows of fewer than 2^29 keys. Contract: KeysBack. Condition: a register and an argument of 64 bits. Contracts of the document's side: whole (printed by gen_el3.py). Condition: lists of fewer than 2^20. Contract of the document's side: better, with no best yet (printed by gen_el3.py). Condition: lists of fewer than 2^20. Contract of the document's side: better, with a best (printed by gen_el3.py). Condition: lists of fewer than 2^20. Contract of the document's side: better (printed by gen_el3.py). Condition: lists of fewer than 2^20. -/
import Derived.Deep.DeepCutAuto
import Derived.Test.YtampjndfhpjheaaQAd
import Derived.Test.YtampjndfhpjheaaQAe
import Derived.Test.YtampjndfhpjheaaQBf
import Derived.Test.YtampjndfhpjheaaQAo
import Derived.Test.YtampjndfhpjheaaQBk
import Derived.Test.YtampjndfhpjheaaQBe
import Derived.Test.YtampjndfhpjheaaQBo
namespace Go.Proofs.Ytampjndfhpjheaa
open Go.RowKit
set_option linter.unusedVariables false
set_option linter.unusedSimpArgs false
set_option maxRecDepth 100000 in
set_option maxHeartbeats 4000000 in
theorem digits_c (ct : Int) (w : World) (h0 : 0 ≤ ct) (h1 : ct ≤ 9999) :
  Calls Try.prog 56 #[.int .i64 ct] w fun e w' => ∃ s k c, e = .returned (.slice s k c) ∧ k = (digitsP 5 ct []).length ∧ k ≤ 5 ∧ OwnInts w' w.heap.size (.slice s k c) (digitsP 5 ct []) ∧ Below w.heap.size w w' := by
 go_enter Try.func56, Try.ntmps56
 go_wp2_with fail
 go_loopg [0, 3] 5 (fun gg nv cv wr => ∃ (m : Int) (out : List Int) (s : Option Addr) (k : Nat), nv = .int .i64 m ∧ cv = .slice s out.length k ∧ digF gg m ∧ digitsP gg m out = digitsP 5 ct [] ∧ out.length + gg ≤ 5 ∧ 0 ≤ m ∧ m ≤ 9999 ∧ OwnInts wr w.heap.size (.slice s out.length k) out ∧ Below w.heap.size w wr)
 case atStart => exact ⟨ct, [], none, 0, rfl, rfl, .inl rfl, rfl, by decide, h0, h1, OwnInts.nil _ _, Below.refl _ _⟩
 case round =>
  obtain ⟨m, out, s, k, rfl, rfl, hf, hd, hlen, hm0, hm1, ho, hb⟩ := hrel
  by_cases hm : 0 < m
  ·
   obtain ⟨g, rfl, hg⟩ := digF_step hf hm hm1
   rw [digits_step hm hm1] at hd
   have HG := Lib.hid hg
   have HD := Lib.hid hd
   have HO := Lib.hid ho
   have HBB := Lib.hid hb
   have ht1 : m.tmod 10 = m % 10 := Int.tmod_eq_emod_of_nonneg (by omega)
   have ht2 : m.tdiv 10 = m / 10 := Int.tdiv_eq_ediv_of_nonneg (by omega)
   have hx0 : 0 ≤ m % 10 := by omega
   have hx1 : m % 10 < 10 := by omega
   have hq0 : 0 ≤ m / 10 := by omega
   have hq1 : m / 10 ≤ 9999 := by omega
   have HB2 := Lib.hid (below_new2 wr (.cells #[.int .i64 (48 + m % 10)] 3))
   have HNE := Lib.hid (show IsInts (wr.alloc (.cells #[.int .i64 (48 + m % 10)] 3)) (some ⟨wr.heap.size, 0, none⟩) 1 (gl [48 + m % 10]) from .inr ⟨wr.heap.size, 0, rfl, by simp, fun i hi => by
    obtain rfl : i = 0 := by omega
    exact block_cell (one_new wr _)⟩)
   have hlo : out.length < 1073741824 := by omega
   clear hf hg hd ho hb
   go_wp2_with fail
   refine (joined3_c (some ⟨wr.heap.size, 0, none⟩) s none 1 1 out.length k 0 0 [48 + m % 10] out [] _ rfl rfl rfl (by decide) hlo (by decide) HNE.out (HO.out.is.later HB2.out) (.inl rfl)).mono ?_
   rintro e w3 ⟨s3, k3, c3, rfl, hk3, ho3, hb3⟩
   have HO3 := Lib.hid ho3
   have HB3 := Lib.hid ((HBB.out.trans (HB2.out.mono HBB.out.size)).trans (hb3.mono (by have := HBB.out.size; simp; omega)))
   have HK3 := Lib.hid hk3
   clear ho3 hb3 hk3
   go_wp2
   go_roundg g
   case measure => omega
   case rel =>
    have e : k3 = ((48 + m % 10) :: out).length := by rw [HK3.out]; simp; omega
    have hz : w.heap.size ≤ (wr.alloc (.cells #[.int .i64 (48 + m % 10)] 3)).heap.size := by have := HBB.out.size; simp; omega
    refine ⟨m / 10, (48 + m % 10) :: out, s3, c3, rfl, by rw [e], HG.out, HD.out, by simp; omega, hq0, hq1, ?_, HB3.out⟩
    rw [← e]
    have h := HO3.out.mono hz
    simpa using h
  ·
   have hde := digits_end (f := gk) (m := m) (out := out) (fun h => hm h.1)
   rw [hde] at hd
   have HO := Lib.hid ho
   have HBB := Lib.hid hb
   have HD := Lib.hid hd
   clear hf hd ho hb hde
   go_wp2
   go_ret
   exact ⟨_, _, _, rfl, by rw [← HD.out], by omega, by rw [← HD.out]; exact HO.out, HBB.out⟩
end Go.Proofs.Ytampjndfhpjheaa
namespace Go.Proofs.Ytampjndfhpjheaa
open Go.RowKit
set_option linter.unusedVariables false
end Go.Proofs.Ytampjndfhpjheaa
namespace Go.Proofs.Ytampjndfhpjheaa
open Go.RowKit
set_option linter.unusedVariables false
set_option linter.unusedSimpArgs false
theorem neqI_nil (w : World) : (binOp .neq 33 (.slice none 0 0) (.slice none 0 0)).run Try.prog w = .ok (.bool false) w := by kernel_rfl
theorem neqI_some (a : Addr) (n c : Nat) (w : World) : (binOp .neq 33 (.slice (some a) n c) (.slice none 0 0)).run Try.prog w = .ok (.bool true) w := by kernel_rfl
def BestV (w : World) (v : Value) (o : Option (List Int)) : Prop := (o = none ∧ v = .slice none 0 0) ∨ ∃ l a n c, o = some l ∧ v = .slice (some a) n c ∧ n = l.length ∧ 0 < n ∧ n < 1048576 ∧ n ≤ c ∧ IsInts w (some a) n (gl l)
theorem BestV.later {w w' : World} {v : Value} {o : Option (List Int)} (h : BestV w v o) (hb : Below w.heap.size w w') : BestV w' v o := by
 rcases h with h | ⟨l, a, n, c, h1, h2, h3, h4, h5, h6, h7⟩
 · exact .inl h
 · exact .inr ⟨l, a, n, c, h1, h2, h3, h4, h5, h6, h7.later hb⟩
set_option maxRecDepth 100000 in
set_option maxHeartbeats 8000000 in
theorem whole_c (x : DR) (arg : Int) (w : World) (hx : KOk w x.q) (hk : x.q.k.length < 1000) :
  Calls Try.prog 57 #[.agg #[.slice (some ⟨x.q.g, x.q.off, none⟩) x.q.n x.q.c, .int .i64 x.b.verb, .int .i64 x.b.move, .int .i64 x.b.arg, .bool x.b.more], .int .i64 arg] w
   fun e w' => ∃ s n c, e = .returned (.slice s n c) ∧ n = (wholeD x.q.k x.b arg).length ∧ n < 1001 ∧ IsInts w' s n (gl (wholeD x.q.k x.b arg)) ∧ Below w.heap.size w w' := by
 obtain ⟨⟨qg, qo, qn, qc, qk⟩, ⟨bv, bm, ba, bmo, bo⟩⟩ := x
 have hqn : qn = qk.length := hx.1
 simp only at hk
 have hbn := below_new2 w (.cells #[.slice (some ⟨qg, qo, none⟩) qn qc, .int .i64 bv, .int .i64 bm, .int .i64 ba, .bool bmo] 103)
 have hon := one_new w (.cells #[.slice (some ⟨qg, qo, none⟩) qn qc, .int .i64 bv, .int .i64 bm, .int .i64 ba, .bool bmo] 103)
 obtain ⟨w1, hw1⟩ : ∃ w1, w1 = w.alloc (.cells #[.slice (some ⟨qg, qo, none⟩) qn qc, .int .i64 bv, .int .i64 bm, .int .i64 ba, .bool bmo] 103) := ⟨_, rfl⟩
 rw [← hw1] at hbn hon
 have HX := Lib.hid (hx.kept (hbn.block _ hx.lt))
 have HBN := Lib.hid hbn
 have HW1 := Lib.hid hw1
 have HQN := Lib.hid hqn
 obtain ⟨z0, z1, z2, z3, z4⟩ := cells5 hon
 have hqn2 : qn < 1000 := by omega
 clear hx hbn hon hw1 hqn hk
 cases bmo
 ·
  go_enter Try.func57, Try.ntmps57
  go_upto_region 1 with (fail)
  rw [← HW1.out]
  go_wp2
  go_ret
  exact ⟨some ⟨qg, qo, none⟩, qn, ⟨qc, rfl⟩, HQN.out, by omega, HX.out.is, HBN.out⟩
 ·
  have hb2 := below_new2 w1 (.cells #[.int .i64 arg] 3)
  have HNE := Lib.hid (show IsInts (w1.alloc (.cells #[.int .i64 arg] 3)) (some ⟨w1.heap.size, 0, none⟩) 1 (gl [arg]) from .inr ⟨w1.heap.size, 0, rfl, by simp, fun i hi => by
   obtain rfl : i = 0 := by omega
   exact block_cell (one_new w1 _)⟩)
  have HB2 := Lib.hid hb2
  clear hb2
  go_enter Try.func57, Try.ntmps57
  go_upto_region 1 with (fail)
  rw [← HW1.out]
  go_wp2_with fail
  refine (joined3_c (some ⟨qg, qo, none⟩) (some ⟨w1.heap.size, 0, none⟩) none qn qc 1 1 0 0 qk [arg] [] _ HQN.out.symm rfl rfl (by omega) (by decide) (by decide) (HX.out.is.later HB2.out) HNE.out (.inl rfl)).mono ?_
  rintro e w3 ⟨s3, k3, c3, rfl, hk3, ho3, hb3⟩
  have HO3 := Lib.hid ho3.is
  have HK3 := Lib.hid hk3
  have HB3 := Lib.hid (HBN.out.trans ((bt HB2.out hb3).mono HBN.out.size))
  clear hk3 ho3 hb3
  go_wp2
  go_ret
  refine ⟨s3, k3, c3, rfl, by rw [HK3.out, HQN.out]; simp [wholeD], by rw [HK3.out]; omega, ?_, HB3.out⟩
  have h := HO3.out
  rw [List.append_nil] at h
  exact h
end Go.Proofs.Ytampjndfhpjheaa
namespace Go.Proofs.Ytampjndfhpjheaa
open Go.RowKit
set_option linter.unusedVariables false
set_option linter.unusedSimpArgs false
set_option maxRecDepth 100000 in
set_option maxHeartbeats 20000000 in
theorem better_n (tb : Nat) (sel : Bool) (bv : Value) (best : Option (List Int)) (ka : Addr) (kn kc : Nat) (keys : List Int) (x1 x2 x3 x4 x5 : Int) (w : World) (ht : TabD w tb sel) (hcs : best = none) (hb : BestV w bv best) (hk : keys.length = kn) (h0 : 0 < kn) (hkn : kn < 1048576) (hkc : kn ≤ kc) (hr : IsInts w (some ka) kn (gl keys)) :
  Calls Try.prog 58 #[.pointer (some ⟨tb, 0, none⟩), bv, .slice (some ka) kn kc, .agg #[.int .i64 x1, .int .i64 x2, .int .i64 x3, .int .i64 x4, .int .i64 x5]] w
   fun e w' => ∃ v, e = .returned v ∧ BestV w' v (tryD sel ⟨x1, x2, x3, x4, x5⟩ best keys) ∧ Below w.heap.size w w' := by
 obtain ⟨R, hR⟩ : ∃ R, tryD sel ⟨x1, x2, x3, x4, x5⟩ best keys = R := ⟨_, rfl⟩
 have hT : ∀ v w', BestV w' v best ∨ BestV w' v (some keys) → True := fun _ _ _ => trivial
 clear hT
 rw [hR]
 unfold tryD at hR
 have hbn := below_new2 w (.cells #[.int .i64 x1, .int .i64 x2, .int .i64 x3, .int .i64 x4, .int .i64 x5] 44)
 have hon := one_new w (.cells #[.int .i64 x1, .int .i64 x2, .int .i64 x3, .int .i64 x4, .int .i64 x5] 44)
 obtain ⟨w1, hw1⟩ : ∃ w1, w1 = w.alloc (.cells #[.int .i64 x1, .int .i64 x2, .int .i64 x3, .int .i64 x4, .int .i64 x5] 44) := ⟨_, rfl⟩
 rw [← hw1] at hbn hon
 have HKB := Lib.hid (show BestV w (.slice (some ka) kn kc) (some keys) from .inr ⟨keys, ka, kn, kc, rfl, rfl, hk.symm, h0, hkn, hkc, hr⟩)
 have HR0 := Lib.hid hR
 have HW1 := Lib.hid hw1
 have HBN := Lib.hid hbn
 have HON := Lib.hid hon
 have HT := Lib.hid ht
 have HCS := Lib.hid hcs
 have HB := Lib.hid hb
 have HK := Lib.hid hk
 have HR := Lib.hid hr
 have hcon : keys.contains 27 = true ↔ ∃ j, j < kn ∧ gl keys j = 27 := by
  rw [List.contains_iff_mem, List.mem_iff_getElem]
  constructor
  ·
   rintro ⟨j, hj, e⟩
   refine ⟨j, by omega, ?_⟩
   unfold gl; rw [List.getD_eq_getElem?_getD, List.getElem?_eq_getElem hj]; exact e
  ·
   rintro ⟨j, hj, e⟩
   refine ⟨j, by omega, ?_⟩
   unfold gl at e; rw [List.getD_eq_getElem?_getD, List.getElem?_eq_getElem (by omega)] at e; exact e
 have HCON := Lib.hid hcon
 clear hR hw1 hbn hon ht hb hk hr hcon hcs
 go_enter Try.func58, Try.ntmps58
 go_upto_region 1 with (fail)
 rw [← HW1.out]
 go_wp2_with fail
 go_loopg [9] kn (fun gg iv wr => ∃ k : Nat, k + gg = kn ∧ iv = .int .i64 k ∧ (∀ j, j < k → gl keys j ≠ 27) ∧ w1 = wr)
 case atStart => exact ⟨0, by omega, rfl, fun j hj => absurd hj (Nat.not_lt_zero _), rfl⟩
 case round =>
  obtain ⟨k, hkk, rfl, hne, rfl⟩ := hrel
  by_cases hlt : k < kn
  ·
   obtain ⟨kb, ko, hka, y0⟩ := HR.out.at HBN.out hlt
   obtain ⟨y, hy⟩ : ∃ y, gl keys k = y := ⟨_, rfl⟩
   rw [hy] at y0
   cases hka
   have HY := Lib.hid hy
   have HNE := Lib.hid hne
   clear hy hne
   have q1 : (k : Int) < (kn : Int) := by omega
   have q2 : (0 : Int) ≤ (k : Int) := by omega
   by_cases h27 : y = 27
   ·
    subst h27
    have e : best = R := by
     have h := HR0.out
     rw [if_pos (HCON.out.2 ⟨k, hlt, HY.out⟩)] at h; exact h
    have HE := Lib.hid e
    clear e
    go_wp2
    go_ret
    exact ⟨_, rfl, by rw [← HE.out]; exact HB.out.later HBN.out, HBN.out⟩
   ·
    have q3 : (y == 27) = false := by rw [beq_eq_false_iff_ne]; exact h27
    go_wp2
    go_roundg (gk - 1)
    case measure => omega
    case rel =>
     refine ⟨k + 1, by omega, by go_num, fun j hj => ?_, rfl⟩
     by_cases e : j = k
     · rw [e, HY.out]; exact h27
     · exact HNE.out j (by omega)
  ·
   have hnc : ¬ keys.contains 27 = true := fun e => by
    obtain ⟨j, hj, e2⟩ := HCON.out.1 e
    exact hne j (by omega) e2
   have hv := HR0.out
   rw [if_neg hnc] at hv
   have HV := Lib.hid hv
   have hkk2 : k = kn := by omega
   clear hnc hv hne HR0 HCON
   subst hkk2
   have hrd := reads_c tb sel (some ka) k kc keys w1 (HT.out.later HBN.out) HK.out (by omega) hkc (HR.out.later HBN.out)
   have HRD := Lib.hid (fun (X : World) (hX : Below w1.heap.size w1 X) => reads_c tb sel (some ka) k kc keys X ((HT.out.later HBN.out).later hX) HK.out (by omega) hkc ((HR.out.later HBN.out).later hX))
   clear hrd
   obtain ⟨M, hM⟩ : ∃ M, readD sel keys = M := ⟨_, rfl⟩
   rw [hM] at HV HRD
   obtain ⟨m, ⟨d1, d2, d3, d4, d5⟩⟩ := M
   replace HRD : Hid (∀ (X : World), Below w1.heap.size w1 X → Calls Try.prog 61 #[.pointer (some ⟨tb, 0, none⟩), .slice (some ka) k kc] X fun e w' => e = .returned (.tuple #[.agg #[.int .i64 d1, .int .i64 d2, .int .i64 d3, .int .i64 d4, .int .i64 d5], .int .i64 (m : Nat)]) ∧ Below X.heap.size X w') := HRD
   clear hM
   have hB := HB.out.later HBN.out
   rcases HB.out with ⟨hb1, hb2⟩ | ⟨l, a, n, c, hb1, hb2, hb3, hb4, hb5, hb6, hb7⟩
   ·
    subst hb1
    subst hb2
    clear HCS
    have hnn := neqI_nil
    have hv := HV.out
    rw [if_neg (by intro h; cases h)] at hv
    replace HV := Lib.hid hv
    have HBB := Lib.hid HB.out
    have hrf := Below.refl w1.heap.size w1
    clear hv hB
    go_wp2_with fail
    refine (HRD.out w1 hrf).mono ?_
    rintro e w4 ⟨rfl, hb4⟩
    have HB4 := Lib.hid (hrf.trans (hb4.mono hrf.size))
    clear hb4
    go_upto_region 9 with (fail)
    have hb5 : Below w4.heap.size w4 (w4.alloc (.cells #[.int .i64 d1, .int .i64 d2, .int .i64 d3, .int .i64 d4, .int .i64 d5] 44)) := below_new2 w4 _
    have hk5 := one_new w4 (.cells #[.int .i64 d1, .int .i64 d2, .int .i64 d3, .int .i64 d4, .int .i64 d5] 44)
    generalize w4.alloc (.cells #[.int .i64 d1, .int .i64 d2, .int .i64 d3, .int .i64 d4, .int .i64 d5] 44) = w5 at hb5 hk5 ⊢
    generalize hcc : w4.heap.size = cc at hb5 hk5 ⊢
    have hz4 : w1.heap.size ≤ cc := by rw [← hcc]; exact HB4.out.size
    have HB5 := Lib.hid (HB4.out.trans (hb5.mono hz4))
    have HF := Lib.hid (HBN.out.trans (HB5.out.mono HBN.out.size))
    obtain ⟨p0, p1, p2, p3, p4⟩ := cells5 hk5
    obtain ⟨z0, z1, z2, z3, z4⟩ := cells5 ((HB5.out.block _ (heap_lt HON.out)).trans HON.out)
    clear hb5 hk5 hcc
    by_cases hm : m = 1
    ·
     subst hm
     by_cases e1 : d1 = x1
     ·
      subst e1
      by_cases e2 : d2 = x2
      ·
       subst e2
       by_cases e3 : d3 = x3
       ·
        subst e3
        by_cases e4 : d4 = x4
        ·
         subst e4
         by_cases e5 : d5 = x5
         ·
          subst e5
          have hv := HV.out
          rw [if_pos rfl] at hv
          have HVV := Lib.hid hv
          clear hv HV
          go_wp2
          go_ret
          exact ⟨_, rfl, by rw [← HVV.out]; exact HKB.out.later HF.out, HF.out⟩
         ·
          have hv := HV.out
          rw [if_neg (by intro h; injection h with _ h; injection h; contradiction)] at hv
          have HVV := Lib.hid hv
          have q9 : (d5 == x5) = false := by rw [beq_eq_false_iff_ne]; exact e5
          clear hv HV
          go_wp2
          go_ret
          exact ⟨_, rfl, by rw [← HVV.out]; exact HBB.out.later HF.out, HF.out⟩
        ·
         have hv := HV.out
         rw [if_neg (by intro h; injection h with _ h; injection h; contradiction)] at hv
         have HVV := Lib.hid hv
         have q9 : (d4 == x4) = false := by rw [beq_eq_false_iff_ne]; exact e4
         clear hv HV
         go_wp2
         go_ret
         exact ⟨_, rfl, by rw [← HVV.out]; exact HBB.out.later HF.out, HF.out⟩
       ·
        have hv := HV.out
        rw [if_neg (by intro h; injection h with _ h; injection h; contradiction)] at hv
        have HVV := Lib.hid hv
        have q9 : (d3 == x3) = false := by rw [beq_eq_false_iff_ne]; exact e3
        clear hv HV
        go_wp2
        go_ret
        exact ⟨_, rfl, by rw [← HVV.out]; exact HBB.out.later HF.out, HF.out⟩
      ·
       have hv := HV.out
       rw [if_neg (by intro h; injection h with _ h; injection h; contradiction)] at hv
       have HVV := Lib.hid hv
       have q9 : (d2 == x2) = false := by rw [beq_eq_false_iff_ne]; exact e2
       clear hv HV
       go_wp2
       go_ret
       exact ⟨_, rfl, by rw [← HVV.out]; exact HBB.out.later HF.out, HF.out⟩
     ·
      have hv := HV.out
      rw [if_neg (by intro h; injection h with _ h; injection h; contradiction)] at hv
      have HVV := Lib.hid hv
      have q9 : (d1 == x1) = false := by rw [beq_eq_false_iff_ne]; exact e1
      clear hv HV
      go_wp2
      go_ret
      exact ⟨_, rfl, by rw [← HVV.out]; exact HBB.out.later HF.out, HF.out⟩
    ·
     have hv := HV.out
     rw [if_neg (by intro h; injection h with h _; exact hm h)] at hv
     have HVV := Lib.hid hv
     have q9 : ((m : Int) != 1) = true := by rw [bne_iff_ne]; omega
     clear hv HV
     go_wp2
     go_ret
     exact ⟨_, rfl, by rw [← HVV.out]; exact HBB.out.later HF.out, HF.out⟩
   · exact absurd HCS.out (by rw [hb1]; simp)
end Go.Proofs.Ytampjndfhpjheaa
namespace Go.Proofs.Ytampjndfhpjheaa
open Go.RowKit
set_option linter.unusedVariables false
set_option linter.unusedSimpArgs false
set_option maxRecDepth 100000 in
set_option maxHeartbeats 20000000 in
theorem better_s (tb : Nat) (sel : Bool) (bv : Value) (best : Option (List Int)) (ka : Addr) (kn kc : Nat) (keys : List Int) (x1 x2 x3 x4 x5 : Int) (w : World) (ht : TabD w tb sel) (hcs : ¬ best = none) (hb : BestV w bv best) (hk : keys.length = kn) (h0 : 0 < kn) (hkn : kn < 1048576) (hkc : kn ≤ kc) (hr : IsInts w (some ka) kn (gl keys)) :
  Calls Try.prog 58 #[.pointer (some ⟨tb, 0, none⟩), bv, .slice (some ka) kn kc, .agg #[.int .i64 x1, .int .i64 x2, .int .i64 x3, .int .i64 x4, .int .i64 x5]] w
   fun e w' => ∃ v, e = .returned v ∧ BestV w' v (tryD sel ⟨x1, x2, x3, x4, x5⟩ best keys) ∧ Below w.heap.size w w' := by
 obtain ⟨R, hR⟩ : ∃ R, tryD sel ⟨x1, x2, x3, x4, x5⟩ best keys = R := ⟨_, rfl⟩
 have hT : ∀ v w', BestV w' v best ∨ BestV w' v (some keys) → True := fun _ _ _ => trivial
 clear hT
 rw [hR]
 unfold tryD at hR
 have hbn := below_new2 w (.cells #[.int .i64 x1, .int .i64 x2, .int .i64 x3, .int .i64 x4, .int .i64 x5] 44)
 have hon := one_new w (.cells #[.int .i64 x1, .int .i64 x2, .int .i64 x3, .int .i64 x4, .int .i64 x5] 44)
 obtain ⟨w1, hw1⟩ : ∃ w1, w1 = w.alloc (.cells #[.int .i64 x1, .int .i64 x2, .int .i64 x3, .int .i64 x4, .int .i64 x5] 44) := ⟨_, rfl⟩
 rw [← hw1] at hbn hon
 have HKB := Lib.hid (show BestV w (.slice (some ka) kn kc) (some keys) from .inr ⟨keys, ka, kn, kc, rfl, rfl, hk.symm, h0, hkn, hkc, hr⟩)
 have HR0 := Lib.hid hR
 have HW1 := Lib.hid hw1
 have HBN := Lib.hid hbn
 have HON := Lib.hid hon
 have HT := Lib.hid ht
 have HCS := Lib.hid hcs
 have HB := Lib.hid hb
 have HK := Lib.hid hk
 have HR := Lib.hid hr
 have hcon : keys.contains 27 = true ↔ ∃ j, j < kn ∧ gl keys j = 27 := by
  rw [List.contains_iff_mem, List.mem_iff_getElem]
  constructor
  ·
   rintro ⟨j, hj, e⟩
   refine ⟨j, by omega, ?_⟩
   unfold gl; rw [List.getD_eq_getElem?_getD, List.getElem?_eq_getElem hj]; exact e
  ·
   rintro ⟨j, hj, e⟩
   refine ⟨j, by omega, ?_⟩
   unfold gl at e; rw [List.getD_eq_getElem?_getD, List.getElem?_eq_getElem (by omega)] at e; exact e
 have HCON := Lib.hid hcon
 clear hR hw1 hbn hon ht hb hk hr hcon hcs
 go_enter Try.func58, Try.ntmps58
 go_upto_region 1 with (fail)
 rw [← HW1.out]
 go_wp2_with fail
 go_loopg [9] kn (fun gg iv wr => ∃ k : Nat, k + gg = kn ∧ iv = .int .i64 k ∧ (∀ j, j < k → gl keys j ≠ 27) ∧ w1 = wr)
 case atStart => exact ⟨0, by omega, rfl, fun j hj => absurd hj (Nat.not_lt_zero _), rfl⟩
 case round =>
  obtain ⟨k, hkk, rfl, hne, rfl⟩ := hrel
  by_cases hlt : k < kn
  ·
   obtain ⟨kb, ko, hka, y0⟩ := HR.out.at HBN.out hlt
   obtain ⟨y, hy⟩ : ∃ y, gl keys k = y := ⟨_, rfl⟩
   rw [hy] at y0
   cases hka
   have HY := Lib.hid hy
   have HNE := Lib.hid hne
   clear hy hne
   have q1 : (k : Int) < (kn : Int) := by omega
   have q2 : (0 : Int) ≤ (k : Int) := by omega
   by_cases h27 : y = 27
   ·
    subst h27
    have e : best = R := by
     have h := HR0.out
     rw [if_pos (HCON.out.2 ⟨k, hlt, HY.out⟩)] at h; exact h
    have HE := Lib.hid e
    clear e
    go_wp2
    go_ret
    exact ⟨_, rfl, by rw [← HE.out]; exact HB.out.later HBN.out, HBN.out⟩
   ·
    have q3 : (y == 27) = false := by rw [beq_eq_false_iff_ne]; exact h27
    go_wp2
    go_roundg (gk - 1)
    case measure => omega
    case rel =>
     refine ⟨k + 1, by omega, by go_num, fun j hj => ?_, rfl⟩
     by_cases e : j = k
     · rw [e, HY.out]; exact h27
     · exact HNE.out j (by omega)
  ·
   have hnc : ¬ keys.contains 27 = true := fun e => by
    obtain ⟨j, hj, e2⟩ := HCON.out.1 e
    exact hne j (by omega) e2
   have hv := HR0.out
   rw [if_neg hnc] at hv
   have HV := Lib.hid hv
   have hkk2 : k = kn := by omega
   clear hnc hv hne HR0 HCON
   subst hkk2
   have hrd := reads_c tb sel (some ka) k kc keys w1 (HT.out.later HBN.out) HK.out (by omega) hkc (HR.out.later HBN.out)
   have HRD := Lib.hid (fun (X : World) (hX : Below w1.heap.size w1 X) => reads_c tb sel (some ka) k kc keys X ((HT.out.later HBN.out).later hX) HK.out (by omega) hkc ((HR.out.later HBN.out).later hX))
   clear hrd
   obtain ⟨M, hM⟩ : ∃ M, readD sel keys = M := ⟨_, rfl⟩
   rw [hM] at HV HRD
   obtain ⟨m, ⟨d1, d2, d3, d4, d5⟩⟩ := M
   replace HRD : Hid (∀ (X : World), Below w1.heap.size w1 X → Calls Try.prog 61 #[.pointer (some ⟨tb, 0, none⟩), .slice (some ka) k kc] X fun e w' => e = .returned (.tuple #[.agg #[.int .i64 d1, .int .i64 d2, .int .i64 d3, .int .i64 d4, .int .i64 d5], .int .i64 (m : Nat)]) ∧ Below X.heap.size X w') := HRD
   clear hM
   have hB := HB.out.later HBN.out
   rcases HB.out with ⟨hb1, hb2⟩ | ⟨l, a, n, c, hb1, hb2, hb3, hb4, hb5, hb6, hb7⟩
   · exact absurd hb1 HCS.out
   ·
    subst hb1
    subst hb2
    clear HCS
    have hnn := neqI_some
    have hlc := less_c (some ka) (some a) k kc n c keys l w1 HK.out hb3.symm (by omega) (by omega) (HR.out.later HBN.out) (hb7.later HBN.out)
    have HBB := Lib.hid HB.out
    have hls : lessD (some l) keys = betterB keys l := rfl
    cases hbt : betterB keys l
    ·
     rw [hbt] at hlc hls
     have hv := HV.out
     rw [if_pos hls] at hv
     have HVV := Lib.hid hv
     have HLC := Lib.hid hlc
     clear hv hlc HV hB hb3 hb7 hls hbt
     go_wp2_with fail
     refine HLC.out.mono ?_
     rintro e w3 ⟨rfl, hb8⟩
     have HF := Lib.hid (HBN.out.trans (hb8.mono HBN.out.size))
     clear hb8
     go_wp2
     go_ret
     exact ⟨_, rfl, by rw [← HVV.out]; exact HBB.out.later HF.out, HF.out⟩
    ·
     rw [hbt] at hlc hls
     have hv := HV.out
     rw [if_neg (by rw [hls]; decide)] at hv
     replace HV := Lib.hid hv
     have HLC := Lib.hid hlc
     clear hv hlc hB hb3 hb7 hls hbt
     go_wp2_with fail
     refine HLC.out.mono ?_
     rintro e w3 ⟨rfl, hb8⟩
     go_wp2_with fail
     refine (HRD.out w3 hb8).mono ?_
     rintro e w4 ⟨rfl, hb4⟩
     have HB4 := Lib.hid (hb8.trans (hb4.mono hb8.size))
     clear hb4
     go_upto_region 9 with (fail)
     have hb5 : Below w4.heap.size w4 (w4.alloc (.cells #[.int .i64 d1, .int .i64 d2, .int .i64 d3, .int .i64 d4, .int .i64 d5] 44)) := below_new2 w4 _
     have hk5 := one_new w4 (.cells #[.int .i64 d1, .int .i64 d2, .int .i64 d3, .int .i64 d4, .int .i64 d5] 44)
     generalize w4.alloc (.cells #[.int .i64 d1, .int .i64 d2, .int .i64 d3, .int .i64 d4, .int .i64 d5] 44) = w5 at hb5 hk5 ⊢
     generalize hcc : w4.heap.size = cc at hb5 hk5 ⊢
     have hz4 : w1.heap.size ≤ cc := by rw [← hcc]; exact HB4.out.size
     have HB5 := Lib.hid (HB4.out.trans (hb5.mono hz4))
     have HF := Lib.hid (HBN.out.trans (HB5.out.mono HBN.out.size))
     obtain ⟨p0, p1, p2, p3, p4⟩ := cells5 hk5
     obtain ⟨z0, z1, z2, z3, z4⟩ := cells5 ((HB5.out.block _ (heap_lt HON.out)).trans HON.out)
     clear hb5 hk5 hcc
     by_cases hm : m = 1
     ·
      subst hm
      by_cases e1 : d1 = x1
      ·
       subst e1
       by_cases e2 : d2 = x2
       ·
        subst e2
        by_cases e3 : d3 = x3
        ·
         subst e3
         by_cases e4 : d4 = x4
         ·
          subst e4
          by_cases e5 : d5 = x5
          ·
           subst e5
           have hv := HV.out
           rw [if_pos rfl] at hv
           have HVV := Lib.hid hv
           clear hv HV
           go_wp2
           go_ret
           exact ⟨_, rfl, by rw [← HVV.out]; exact HKB.out.later HF.out, HF.out⟩
          ·
           have hv := HV.out
           rw [if_neg (by intro h; injection h with _ h; injection h; contradiction)] at hv
           have HVV := Lib.hid hv
           have q9 : (d5 == x5) = false := by rw [beq_eq_false_iff_ne]; exact e5
           clear hv HV
           go_wp2
           go_ret
           exact ⟨_, rfl, by rw [← HVV.out]; exact HBB.out.later HF.out, HF.out⟩
         ·
          have hv := HV.out
          rw [if_neg (by intro h; injection h with _ h; injection h; contradiction)] at hv
          have HVV := Lib.hid hv
          have q9 : (d4 == x4) = false := by rw [beq_eq_false_iff_ne]; exact e4
          clear hv HV
          go_wp2
          go_ret
          exact ⟨_, rfl, by rw [← HVV.out]; exact HBB.out.later HF.out, HF.out⟩
        ·
         have hv := HV.out
         rw [if_neg (by intro h; injection h with _ h; injection h; contradiction)] at hv
         have HVV := Lib.hid hv
         have q9 : (d3 == x3) = false := by rw [beq_eq_false_iff_ne]; exact e3
         clear hv HV
         go_wp2
         go_ret
         exact ⟨_, rfl, by rw [← HVV.out]; exact HBB.out.later HF.out, HF.out⟩
       ·
        have hv := HV.out
        rw [if_neg (by intro h; injection h with _ h; injection h; contradiction)] at hv
        have HVV := Lib.hid hv
        have q9 : (d2 == x2) = false := by rw [beq_eq_false_iff_ne]; exact e2
        clear hv HV
        go_wp2
        go_ret
        exact ⟨_, rfl, by rw [← HVV.out]; exact HBB.out.later HF.out, HF.out⟩
      ·
       have hv := HV.out
       rw [if_neg (by intro h; injection h with _ h; injection h; contradiction)] at hv
       have HVV := Lib.hid hv
       have q9 : (d1 == x1) = false := by rw [beq_eq_false_iff_ne]; exact e1
       clear hv HV
       go_wp2
       go_ret
       exact ⟨_, rfl, by rw [← HVV.out]; exact HBB.out.later HF.out, HF.out⟩
     ·
      have hv := HV.out
      rw [if_neg (by intro h; injection h with h _; exact hm h)] at hv
      have HVV := Lib.hid hv
      have q9 : ((m : Int) != 1) = true := by rw [bne_iff_ne]; omega
      clear hv HV
      go_wp2
      go_ret
      exact ⟨_, rfl, by rw [← HVV.out]; exact HBB.out.later HF.out, HF.out⟩
end Go.Proofs.Ytampjndfhpjheaa
namespace Go.Proofs.Ytampjndfhpjheaa
open Go.RowKit
set_option linter.unusedVariables false
theorem better_c (tb : Nat) (sel : Bool) (bv : Value) (best : Option (List Int)) (ka : Addr) (kn kc : Nat) (keys : List Int) (x1 x2 x3 x4 x5 : Int) (w : World) (ht : TabD w tb sel) (hb : BestV w bv best) (hk : keys.length = kn) (h0 : 0 < kn) (hkn : kn < 1048576) (hkc : kn ≤ kc) (hr : IsInts w (some ka) kn (gl keys)) :
  Calls Try.prog 58 #[.pointer (some ⟨tb, 0, none⟩), bv, .slice (some ka) kn kc, .agg #[.int .i64 x1, .int .i64 x2, .int .i64 x3, .int .i64 x4, .int .i64 x5]] w
   fun e w' => ∃ v, e = .returned v ∧ BestV w' v (tryD sel ⟨x1, x2, x3, x4, x5⟩ best keys) ∧ Below w.heap.size w w' := by
 by_cases hc : best = none
 · exact better_n tb sel bv best ka kn kc keys x1 x2 x3 x4 x5 w ht hc hb hk h0 hkn hkc hr
 · exact better_s tb sel bv best ka kn kc keys x1 x2 x3 x4 x5 w ht hc hb hk h0 hkn hkc hr
end Go.Proofs.Ytampjndfhpjheaa
