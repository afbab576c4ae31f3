/- Contract of the document's side: Reads. Condition: lists of fewer than 2^30. -/
import Derived.Test.YtampjndfhpjheaaQBn
namespace Go.Proofs.Ytampjndfhpjheaa
open Go.RowKit
set_option linter.unusedVariables false
set_option linter.unusedSimpArgs false
theorem prefxD_bd : ∀ (f : Nat) (r c : Int) (l : List Int), 0 ≤ c → c ≤ 9999 → 0 ≤ (prefxD f r c l).2.1 ∧ (prefxD f r c l).2.1 ≤ 9999
 | 0, r, c, l, h0, h1 => ⟨h0, h1⟩
 | f + 1, r, c, [], h0, h1 => ⟨h0, h1⟩
 | f + 1, r, c, x :: t, h0, h1 => by
  by_cases hx : x = 34
  ·
   subst hx
   cases t with
   | nil => exact ⟨h0, h1⟩
   | cons y u =>
    rw [prefxD_q]
    split
    · exact ⟨h0, h1⟩
    · exact prefxD_bd f y c u h0 h1
  ·
   rw [prefxD_n _ _ _ _ _ hx]
   split
   ·
    have := numP_bd h0 h1 (x :: t)
    exact prefxD_bd f r _ _ this.1 this.2
   · exact ⟨h0, h1⟩
theorem prefsD_bd (l : List Int) : 0 ≤ (prefsD l).2.1 ∧ (prefsD l).2.1 ≤ 9999 := prefxD_bd _ 0 0 l (by decide) (by decide)
theorem scan_cons {sel : Bool} {p : List Int} {x : Int} {t : List Int} {say : Nat} {M : Nat × Cmd} (h : docAt sel p (x :: t) = M) : scanD sel p (x :: t) say = if condD p x = true then (if M.1 = 1 then M else scanD sel (p ++ [x]) t (if M.1 = 0 then 0 else say)) else scanD sel (p ++ [x]) t say := by
 subst h; rfl
theorem take_nxt {l : List Int} {n k : Nat} (hl : l.length = n) (hk : k < n) : l.take k ++ [gl l k] = l.take (k + 1) := by
 subst hl
 rw [List.take_add_one, List.getElem?_eq_getElem hk]
 unfold gl
 rw [List.getD_eq_getElem?_getD, List.getElem?_eq_getElem hk]; rfl
set_option maxRecDepth 100000 in
set_option maxHeartbeats 8000000 in
theorem reads_c (tb : Nat) (sel : Bool) (ls : Option Addr) (ln lc : Nat) (l : List Int) (w : World) (ht : TabD w tb sel) (hl : l.length = ln) (hln : ln < 1073741823) (hcap : ln ≤ lc) (hrl : IsInts w ls ln (gl l)) :
   Calls Try.prog 61 #[.pointer (some ⟨tb, 0, none⟩), .slice ls ln lc] w
    fun e w' => e = .returned (.tuple #[.agg (readD sel l).2.cells, .int .i64 ((readD sel l).1 : Nat)]) ∧ Below w.heap.size w w' := by
 obtain ⟨A, hA⟩ : ∃ A, readD sel l = A := ⟨_, rfl⟩
 rw [hA]
 unfold readD at hA
 have hbn := below_new2 w (.cells #[.int .i64 0, .int .i64 0, .int .i64 0, .int .i64 0, .int .i64 0] 44)
 have hon := one_new w (.cells #[.int .i64 0, .int .i64 0, .int .i64 0, .int .i64 0, .int .i64 0] 44)
 obtain ⟨w1, hw1⟩ : ∃ w1, w1 = w.alloc (.cells #[.int .i64 0, .int .i64 0, .int .i64 0, .int .i64 0, .int .i64 0] 44) := ⟨_, rfl⟩
 rw [← hw1] at hbn hon
 have hpc := prefixes_c ls ln lc l w1 hl (by omega) (hrl.later hbn)
 obtain ⟨⟨r0, c0, ok0, op0⟩, hP⟩ : ∃ P, prefsD l = P := ⟨_, rfl⟩
 rw [hP] at hpc hA
 simp only at hpc hA
 have HPC := Lib.hid hpc
 have HA := Lib.hid hA
 have HW1 := Lib.hid hw1
 have HBN := Lib.hid hbn
 have HON := Lib.hid hon
 have HT := Lib.hid ht
 have HRL := Lib.hid hrl
 have HLN := Lib.hid hl
 clear hpc hA hP hw1 hbn hon ht hrl hl
 go_enter Try.func61, Try.ntmps61
 go_upto_region 1 with (fail)
 rw [← HW1.out]
 go_wp2_with fail
 refine HPC.out.mono ?_
 rintro e w2 ⟨rfl, rfl⟩
 obtain ⟨say0, hsay, hv⟩ : ∃ say0 : Nat, say0 = (if (ok0 || op0) = true then 0 else 2) ∧ scanD sel (l.take 0) (l.drop 0) say0 = A := by
   refine ⟨_, rfl, ?_⟩
   have hA := HA.out
   cases ok0 <;> cases op0 <;> exact hA
 have HA2 := Lib.hid hv
 have HSAY := Lib.hid hsay
 clear hsay hv HA HPC
 go_upto_region 3 with (fail)
 go_cut [28] from 25 to 28 (fun v wc => v = .bool (ok0 || op0) ∧ w2 = wc)
 case first =>
   cases ok0
   ·
    cases op0
    ·
     go_wp2_with fail
     go_meet
     exact ⟨rfl, rfl⟩
    ·
     go_wp2_with fail
     go_meet
     exact ⟨rfl, rfl⟩
   ·
    go_wp2_with fail
    go_meet
    exact ⟨rfl, rfl⟩
 case rest =>
  obtain ⟨rfl, rfl⟩ := hcut
  generalize (ok0 || op0) = bo at HSAY ⊢
  go_upto_if 28 with (fail)
  go_cut [6, 28] (fun v v2 wc => v = .int .i64 (say0 : Nat) ∧ w2 = wc)
  case first =>
   cases bo
   ·
    have e : say0 = 2 := HSAY.out
    subst e
    go_wp2_with fail
    go_meet
    exact ⟨rfl, rfl⟩
   ·
    have e : say0 = 0 := HSAY.out
    subst e
    go_wp2_with fail
    go_meet
    exact ⟨rfl, rfl⟩
  case rest =>
    obtain ⟨rfl, rfl⟩ := hcut
    go_wp2_with fail
    go_loopg [6, 11] (ln + 1) (fun gg sv iv wr => ∃ (k say : Nat), sv = .int .i64 (say : Nat) ∧ iv = .int .i64 k ∧ k ≤ ln ∧ ln - k < gg ∧ scanD sel (l.take k) (l.drop k) say = A ∧ wr.heap[w.heap.size]? = some (.cells #[.int .i64 0, .int .i64 0, .int .i64 0, .int .i64 0, .int .i64 0] 44 (0, 0)) ∧ Below w.heap.size w wr)
    case atStart => exact ⟨0, say0, rfl, rfl, by omega, by omega, HA2.out, HON.out, HBN.out⟩
    case round =>
     obtain ⟨k, say, rfl, rfl, hkn, hgg, hA, hcb, hbl⟩ := hrel
     clear HA2 HON HBN
     by_cases hlt : k < ln
     ·
      have hrw := HRL.out.later hbl
      obtain ⟨lb, lo, hls, y0⟩ := HRL.out.at hbl hlt
      have hdk := drop_at HLN.out hlt
      have htk := take_nxt HLN.out hlt
      obtain ⟨x, hx⟩ : ∃ x, gl l k = x := ⟨_, rfl⟩
      rw [hx] at y0 hdk htk
      rw [hdk] at hA
      have hpk := prefixes_c ls k lc (l.take k) wr (by rw [List.length_take, HLN.out]; omega) (by omega) (hrw.take (by omega))
      have hpb := prefsD_bd (l.take k)
      have hcd : condD (l.take k) x = ((prefsD (l.take k)).2.2.1 && !(decide (l.take k ≠ []) && digB x && endsD (l.take k))) := rfl
      have hdoc : docAt sel (l.take k) (x :: l.drop (k + 1)) = docRow (docR sel) (docO sel) docD (prefsD (l.take k)).1 (prefsD (l.take k)).2.1 (l.drop k) := by rw [hdk]; rfl
      obtain ⟨⟨r, c, ok, op⟩, hP⟩ : ∃ P, prefsD (l.take k) = P := ⟨_, rfl⟩
      rw [hP] at hpk hcd hdoc hpb
      simp only at hpk hcd hdoc hpb
      obtain ⟨M, hM⟩ : ∃ M, docAt sel (l.take k) (x :: l.drop (k + 1)) = M := ⟨_, rfl⟩
      rw [scan_cons hM, htk] at hA
      rw [hM] at hdoc
      obtain ⟨C, hC⟩ : ∃ C, condD (l.take k) x = C := ⟨_, rfl⟩
      rw [hC] at hA hcd
      subst hls
      have hend : ∀ k', k = k' + 1 → Calls Try.prog 96 #[.slice (some ⟨lb, lo, none⟩) k lc] wr fun e w' => e = .returned (.bool (endsD (l.take k))) ∧ w' = wr := fun k' e => by
       subst e
       exact endsIn_c (some ⟨lb, lo, none⟩) k' lc (l.take (k' + 1)) wr (by rw [List.length_take, HLN.out]; omega) (by omega) (by omega) (hrw.take (by omega))
      have hne : k ≠ 0 → decide (l.take k ≠ []) = true := fun e => by
       rw [decide_eq_true_iff]
       intro e2
       have := congrArg List.length e2
       rw [List.length_take, HLN.out] at this
       simp at this; omega
      have hne0 : k = 0 → decide (l.take k ≠ []) = false := fun e => by subst e; rfl
      have HPK := Lib.hid hpk
      have HCD := Lib.hid hcd
      have HDOC := Lib.hid hdoc
      have HA := Lib.hid hA
      have HCB := Lib.hid hcb
      have HBL := Lib.hid hbl
      have HEND := Lib.hid hend
      have HNE := Lib.hid hne
      have HNE0 := Lib.hid hne0
      clear hpk hcd hdoc hA hcb hbl hend hne hne0 hM hC hP hx hdk htk hrw
      have q1 : (k : Int) < (ln : Int) := by omega
      have q2 : (0 : Int) ≤ (k : Int) := by omega
      have q3 : (k : Int) ≤ (lc : Int) := by omega
      go_wp2_with fail
      refine HPK.out.mono ?_
      rintro e w3 ⟨rfl, rfl⟩
      go_upto_region 9 with (fail)
      go_cut [62] from 44 to 62 (fun v wc => v = .bool (!C) ∧ w3 = wc)
      case first =>
       cases ok
       ·
        have e : C = false := by rw [HCD.out]; rfl
        subst e
        go_wp2_with fail
        go_meet
        exact ⟨rfl, rfl⟩
       ·
        by_cases hk0 : k = 0
        ·
         have e : C = true := by rw [HCD.out, HNE0.out hk0]; rfl
         subst e
         subst hk0
         go_wp2_with fail
         go_meet
         exact ⟨rfl, rfl⟩
        ·
         have q4 : (0 : Int) < (k : Int) := by omega
         obtain ⟨k', hk'⟩ : ∃ k', k = k' + 1 := ⟨k - 1, by omega⟩
         have hec := HEND.out k' hk'
         obtain ⟨E, hE⟩ : ∃ E, endsD (l.take k) = E := ⟨_, rfl⟩
         rw [hE] at hec
         have hcd := HCD.out
         rw [HNE.out hk0, hE] at hcd
         have HEC := Lib.hid hec
         have HCD2 := Lib.hid hcd
         clear hec hcd hE hk'
         go_wp2_with fail
         refine (isDigit_c x w3).mono ?_
         rintro e w4 ⟨rfl, rfl⟩
         cases hdx : digB x
         ·
          have e : C = true := by rw [HCD2.out, hdx]; rfl
          subst e
          go_wp2_with fail
          go_meet
          exact ⟨rfl, rfl⟩
         ·
          have e : C = !E := by rw [HCD2.out, hdx]; simp
          go_wp2_with fail
          refine HEC.out.mono ?_
          rintro e5 w5 ⟨rfl, rfl⟩
          cases E
          ·
           have e2 : C = true := e
           clear e
           subst e2
           go_wp2_with fail
           go_meet
           exact ⟨rfl, rfl⟩
          ·
           have e2 : C = false := e
           clear e
           subst e2
           go_wp2_with fail
           go_meet
           exact ⟨rfl, rfl⟩
      case rest =>
       obtain ⟨rfl, rfl⟩ := hcut
       cases C
       ·
        have hA := HA.out
        rw [if_neg (by decide)] at hA
        have HA3 := Lib.hid hA
        clear hA
        go_wp2
        go_roundg (gk - 1)
        case measure => omega
        case rel => exact ⟨k + 1, say, rfl, by go_num, by omega, by omega, HA3.out, HCB.out, HBL.out⟩
       ·
        have hA := HA.out
        rw [if_pos rfl] at hA
        have hrd : IsInts w3 (some ⟨lb, lo + k, none⟩) (ln - k) (gl (l.drop k)) := (HRL.out.later HBL.out).drop (by omega)
        have hrc := drow_c tb sel (some ⟨lb, lo + k, none⟩) (ln - k) (lc - k) (l.drop k) r c w3 (HT.out.later HBL.out) (by rw [List.length_drop, HLN.out]) (by omega) (by omega) hrd hpb.1 hpb.2
        rw [← HDOC.out] at hrc
        obtain ⟨m, ⟨d1, d2, d3, d4, d5⟩⟩ := M
        replace hrc : Calls Try.prog 97 #[.pointer (some ⟨tb, 0, none⟩), .slice (some ⟨lb, lo + k, none⟩) (ln - k) (lc - k), .int .i64 r, .int .i64 c] w3 fun e w' => e = .returned (.tuple #[.agg #[.int .i64 d1, .int .i64 d2, .int .i64 d3, .int .i64 d4, .int .i64 d5], .int .i64 (m : Nat)]) ∧ Below w3.heap.size w3 w' := hrc
        simp only at hA
        have HRC := Lib.hid hrc
        have HA3 := Lib.hid hA
        have hsz := HBL.out.size
        clear hrc hA hrd HA HDOC HCD HEND HNE HNE0 HPK
        go_wp2_with fail
        refine HRC.out.mono ?_
        rintro e w4 ⟨rfl, hb4⟩
        have HB4 := Lib.hid (HBL.out.trans (hb4.mono hsz))
        have HCB4 := Lib.hid ((hb4.block _ (heap_lt HCB.out)).trans HCB.out)
        clear hb4
        go_upto_region 11 with (fail)
        have hb5 : Below w4.heap.size w4 (w4.alloc (.cells #[.int .i64 d1, .int .i64 d2, .int .i64 d3, .int .i64 d4, .int .i64 d5] 44)) := below_new2 w4 _
        have hk5 := one_new w4 (.cells #[.int .i64 d1, .int .i64 d2, .int .i64 d3, .int .i64 d4, .int .i64 d5] 44)
        generalize w4.alloc (.cells #[.int .i64 d1, .int .i64 d2, .int .i64 d3, .int .i64 d4, .int .i64 d5] 44) = w5 at hb5 hk5 ⊢
        generalize hcc : w4.heap.size = cc at hb5 hk5 ⊢
        have hz4 : w.heap.size ≤ cc := by rw [← hcc]; exact HB4.out.size
        have HCB5 := Lib.hid ((hb5.block _ (by rw [← hcc]; exact heap_lt HCB4.out)).trans HCB4.out)
        have HB5 := Lib.hid (HB4.out.trans (hb5.mono hz4))
        have HK5 := Lib.hid hk5
        clear hb5 hk5 hcc
        by_cases hm : m = 1
        ·
         subst hm
         have hv := HA3.out
         rw [if_pos rfl] at hv
         subst hv
         obtain ⟨x0, x1, x2, x3, x4⟩ := cells5 HK5.out
         obtain ⟨z0, z1, z2, z3, z4⟩ := cells5 HCB5.out
         obtain ⟨f0, f1, f2, f3, f4⟩ := free5 HCB5.out
         have HX := Lib.hid (cmd5_at (a0 := .int .i64 d1) (a1 := .int .i64 d2) (a2 := .int .i64 d3) (a3 := .int .i64 d4) (a4 := .int .i64 d5) HCB5.out)
         have HY := Lib.hid (row5_below (a0 := .int .i64 d1) (a1 := .int .i64 d2) (a2 := .int .i64 d3) (a3 := .int .i64 d4) (a4 := .int .i64 d5) HB5.out (Nat.le_refl _))
         clear HA3 HCB HBL HRC
         go_wp2
         have hx := HX.out
         have hy := HY.out
         generalize ((((w5.setCell ⟨w.heap.size, 0, none⟩ (.int .i64 d1)).setCell ⟨w.heap.size, 1, none⟩ (.int .i64 d2)).setCell ⟨w.heap.size, 2, none⟩ (.int .i64 d3)).setCell ⟨w.heap.size, 3, none⟩ (.int .i64 d4)).setCell ⟨w.heap.size, 4, none⟩ (.int .i64 d5) = w8 at hx hy ⊢
         obtain ⟨y0, y1, y2, y3, y4⟩ := cells5 hx
         exact bodyPost_ret (v := .tuple #[.agg #[.int .i64 d1, .int .i64 d2, .int .i64 d3, .int .i64 d4, .int .i64 d5], .int .i64 1]) (by simp [results, Try.results61, go_sem, y0, y1, y2, y3, y4]) rfl ⟨rfl, hy⟩
        ·
         have hv := HA3.out
         rw [if_neg hm] at hv
         have q20 : ((m : Int) == 1) = false := by rw [beq_eq_false_iff_ne]; omega
         by_cases hm0 : m = 0
         ·
          subst hm0
          rw [if_pos rfl] at hv
          have HVW := Lib.hid hv
          clear hv HA3
          go_wp2
          go_roundg (gk - 1)
          case measure => omega
          case rel => exact ⟨k + 1, 0, rfl, by go_num, by omega, by omega, HVW.out, HCB5.out, HB5.out⟩
         ·
          rw [if_neg hm0] at hv
          have HVW := Lib.hid hv
          have q21 : ((m : Int) == 0) = false := by rw [beq_eq_false_iff_ne]; omega
          clear hv HA3
          go_wp2
          go_roundg (gk - 1)
          case measure => omega
          case rel => exact ⟨k + 1, say, rfl, by go_num, by omega, by omega, HVW.out, HCB5.out, HB5.out⟩
     ·
      obtain rfl : k = ln := by omega
      rw [drop_end HLN.out (Nat.lt_irrefl _)] at hA
      have hA2 : (say, cmd0) = A := hA
      subst hA2
      have HX := Lib.hid (cmd5_at (a0 := .int .i64 0) (a1 := .int .i64 0) (a2 := .int .i64 0) (a3 := .int .i64 0) (a4 := .int .i64 0) hcb)
      have HY := Lib.hid (row5_below (a0 := .int .i64 0) (a1 := .int .i64 0) (a2 := .int .i64 0) (a3 := .int .i64 0) (a4 := .int .i64 0) hbl (Nat.le_refl _))
      obtain ⟨x0, x1, x2, x3, x4⟩ := cells5 hcb
      obtain ⟨f0, f1, f2, f3, f4⟩ := free5 hcb
      clear hcb hbl hA
      go_wp2
      have hx := HX.out
      have hy := HY.out
      generalize ((((wr.setCell ⟨w.heap.size, 0, none⟩ (.int .i64 0)).setCell ⟨w.heap.size, 1, none⟩ (.int .i64 0)).setCell ⟨w.heap.size, 2, none⟩ (.int .i64 0)).setCell ⟨w.heap.size, 3, none⟩ (.int .i64 0)).setCell ⟨w.heap.size, 4, none⟩ (.int .i64 0) = w4 at hx hy ⊢
      obtain ⟨y0, y1, y2, y3, y4⟩ := cells5 hx
      exact bodyPost_ret (v := .tuple #[.agg #[.int .i64 0, .int .i64 0, .int .i64 0, .int .i64 0, .int .i64 0], .int .i64 say]) (by simp [results, Try.results61, go_sem, y0, y1, y2, y3, y4]) rfl ⟨rfl, hy⟩
end Go.Proofs.Ytampjndfhpjheaa
