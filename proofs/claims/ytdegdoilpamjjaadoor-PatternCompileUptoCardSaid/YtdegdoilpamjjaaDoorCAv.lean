/- Contract: run, in general. -/
import Derived.Deep.RegionHeld3
import Derived.Deep.CutRange
import Derived.Test.YtdegdoilpamjjaaDoorCAr
import Derived.Test.YtdegdoilpamjjaaDoorCAq
namespace Go.Proofs.YtdegdoilpamjjaaDoor
open Go.RowKit
set_option linter.unusedVariables false
set_option linter.unusedSimpArgs false
def nextR (G : GlyD) (acts : List ActD) (deep : Nat) (line : List Int) (g a : Nat) (r : (Nat → Nat) × List ThD × Option BestD) : Option BestD := runR G acts deep line g (a + 1) r.1 r.2.1 r.2.2
def contR (G : GlyD) (acts : List ActD) (deep : Nat) (line : List Int) (g a : Nat) (best : Option BestD) (r : (Nat → Nat) × List ThD) : Option BestD := if (r.2.isEmpty && best.isSome) = true then best else nextR G acts deep line g a (stepP' G acts deep line a r.2 r.1 [] best)
theorem runR_eq (G : GlyD) (acts : List ActD) (deep : Nat) (line : List Int) (g a : Nat) (seen : Nat → Nat) (th : List ThD) (best : Option BestD) (h : a ≤ line.length) :
  runR G acts deep line (g + 1) a seen th best = contR G acts deep line g a best (if best.isNone then addAll G acts deep line a 0 (a : Int) [] seen th else (seen, th)) := by
 rw [runR, if_neg (by omega)]
 rfl
theorem runR_end (G : GlyD) (acts : List ActD) (deep : Nat) (line : List Int) (g a : Nat) (seen : Nat → Nat) (th : List ThD) (best : Option BestD) (h : line.length < a) : runR G acts deep line g a seen th best = best := by
 cases g with
 | zero => rw [runR]
 | succ g => rw [runR, if_pos h]
def RunE : Option BestD → Ending → Prop
 | none, e => e = .returned (.tuple #[.agg mZg, .bool false])
 | some b, e => e = .returned (.tuple #[.agg (mLg (mKg b 20)), .bool true])
set_option maxRecDepth 100000 in
set_option maxHeartbeats 64000000 in
theorem run_g (w : World) (B E base pb : Nat) (groups : Int) (deep : Nat) (acts : List ActD) (hpat : PaG w B E base pb groups deep acts) (lv : Nat → Nat) (hwf : WfA acts deep lv) (N : Nat) (hN : acts.length * (deep + 1) = N) (hN12 : N < 900000000000)
  (sl : Option Addr) (n c : Nat) (line : List Int) (hln : line.length = n) (hli : IsInts w sl n (gl line)) (h30 : n < 536870912) (start : Nat) (hst : start ≤ n) (ht : Tabs w) (RES : Option BestD) (hRES : runR G0 acts deep line (n + 2) start (fun _ => 0) [] none = RES) :
  Calls Tryd.prog 32 #[.pointer (some ⟨pb, 0, none⟩), .slice sl n c, .int .i64 start] w fun e w' => Below w.heap.size w w' ∧ RunE RES e := by
 obtain ⟨ga, cA, hcl⟩ := hpat.cells hwf.pos
 have hbase : base ≤ w.heap.size := by
  obtain ⟨_, _, _, hx⟩ := hpat
  exact Nat.le_of_lt (Nat.lt_of_le_of_lt hx.low (heap_lt hx.blk))
 have hA : acts.length ≤ N := by rw [← hN]; exact Nat.le_mul_of_pos_right _ (by omega)
 have hD : deep < N + 1 := by
  have := Nat.mul_le_mul_right (deep + 1) hwf.pos
  rw [Nat.one_mul] at this
  omega
 have hNi : (acts.length : Int) * ((deep : Int) + 1) = (N : Int) := by rw [← hN]; simp
 have hmk : ∀ (w : World), (Instr.makeSlice 22 (.int .i64 (N : Int)) (.int .i64 (N : Int))).run Tryd.prog w = .ok (.slice (some ⟨w.heap.size, 0, none⟩) N N) (w.alloc (.cells (madeCells #[.int .i64 0] N) 3)) :=
  fun w => run_make_row' (P := Tryd.prog) 22 3 (.int .i64 0) 8 Tryd.underlying22 Tryd.infoInt rfl .i64 .i64 N (by omega) (by omega) w
 have i1 : IntKind.i64.wrap ((deep : Int) + 1) = (deep : Int) + 1 := by rw [IntKind.wrap_i64]; omega
 have i2 : IntKind.i64.wrap ((acts.length : Int) * ((deep : Int) + 1)) = (N : Int) := by rw [IntKind.wrap_i64, hNi]; omega
 have HCL := Lib.hid hcl
 have HPAT := Lib.hid hpat
 have HWF := Lib.hid hwf
 have HNN := Lib.hid hN
 have HLN := Lib.hid hln
 have HLI := Lib.hid hli
 have HT := Lib.hid ht
 have HRES := Lib.hid hRES
 clear hcl hpat hwf hN hln hli ht hRES hNi
 go_enter Tryd.func32, Tryd.ntmps32
 go_wp2_with fail
 have hr6 := one_new w (.cells mZg 23)
 have hb1 := below_newJ w (.cells mZg 23)
 have hz1 := size_new w (.cells mZg 23)
 change Code.wp _ _ _ _ (w.alloc (.cells mZg 23))
 obtain ⟨k0, k2, -⟩ := HCL.out (w.alloc (.cells mZg 23)) hb1
 generalize w.alloc (.cells mZg 23) = w1 at hr6 hb1 hz1 k0 k2 ⊢
 have HR6 := Lib.hid hr6
 have HB1 := Lib.hid hb1
 have HZ1 := Lib.hid hz1
 clear hr6 hb1 hz1
 go_region
 have HRB := Lib.hid (RunG.begin w1 pb N (.slice sl n c))
 have HPW := Lib.hid (HPAT.out.later hbase HB1.out)
 have HLW := Lib.hid (HLI.out.later HB1.out)
 have HTW := Lib.hid (HT.out.later HB1.out)
 clear k0 k2 hmk HPAT HLI HT
 generalize ((w1.alloc (.cells (madeCells #[.int .i64 0] N) 3)).alloc (.cells #[.pointer (some ⟨pb, 0, none⟩), .slice sl n c, .int .i64 0, .slice (some ⟨w1.heap.size, 0, none⟩) N N, .slice none 0 0] 102)).drew = w3 at HRB ⊢
 generalize w1.heap.size + 1 = rn at HRB ⊢
 generalize hsbb : w1.heap.size = sb at HRB ⊢
 have HSB := Lib.hid hsbb
 clear hsbb
 have r2 : w3.cell? ⟨rn, 2, none⟩ = some (.int .i64 0) := block_cell HRB.out.blk
 have f2 : w3.frozen? ⟨rn, 2, none⟩ = false := block_free HRB.out.blk
 go_upto_block 0 with fail
 have H0 := Lib.hid (HRB.out.setAt start)
 clear r2 f2 HRB
 generalize w3.setCell ⟨rn, 2, none⟩ (.int .i64 start) = w4 at H0 ⊢
 go_cut [9, 10, 11, 12, 14, 15] from 38 to 130 (fun bv tv v11 v12 v14 v15 wx => ∃ own, BestR wx w1.heap.size own RES bv tv ∧ Below w1.heap.size w1 wx)
 case first =>
  go_upto_region 5 with (fail)
  go_loopg [9, 10] (n + 2) (fun gg bv tv wr => ∃ (a : Nat) (seen : Nat → Nat) (th : List ThD) (sT : Option Addr) (cT : Nat) (best : Option BestD), RunG w1 wr rn sb pb (.slice sl n c) N a seen th sT cT ∧ runR G0 acts deep line gg a seen th best = RES ∧ a ≤ n + 1 ∧ n + 1 < a + gg ∧ th.length + marksP a seen N ≤ N ∧ (∀ i, seen i ≤ a + 1) ∧ (∀ x ∈ th, x.act < acts.length) ∧ BestR wr w1.heap.size ((Value.slice sT th.length cT).ownBlock) best bv tv)
  case atStart => exact ⟨start, fun _ => 0, [], none, 0, none, H0.out, HRES.out, by omega, by omega, by have := marksP_le start (fun _ => 0) N; simpa using this, fun i => Nat.zero_le _, fun x hx => (by cases hx), rfl, rfl⟩
  case round =>
   clear H0 HRES
   obtain ⟨a, seen, th, sT, cT, best, hr, hR, ha1, hag, hmk, hsn, htl, hbest⟩ := hrel
   have r2 : wr.cell? ⟨rn, 2, none⟩ = some (.int .i64 a) := block_cell hr.blk
   by_cases hlt : a ≤ n
   ·
    obtain ⟨g, rfl⟩ : ∃ g, gk = g + 1 := ⟨gk - 1, by omega⟩
    rw [runR_eq _ _ _ _ _ _ _ _ _ (by rw [HLN.out]; exact hlt)] at hR
    have q1 : (a : Int) ≤ (n : Int) := by omega
    have HR0 := Lib.hid hr
    have HRR := Lib.hid hR
    have HMK := Lib.hid hmk
    have HSN := Lib.hid hsn
    have HTL := Lib.hid htl
    have HBE := Lib.hid hbest
    clear hr hR hmk hsn htl hbest
    go_upto_region 7 with (fail)
    go_step3
    go_upto_region 7 with (fail)
    go_cut [53] from 52 to 53 (fun v wx => v = .bool best.isNone ∧ wr = wx)
    case first =>
     cases best with
     | none =>
      obtain ⟨rfl, rfl⟩ := HBE.out
      go_wp2_with fail
      go_meet
      exact ⟨rfl, rfl⟩
     | some b =>
      obtain ⟨bx, a', q, rfl, rfl, -⟩ := HBE.out
      go_wp2_with fail
      go_meet
      exact ⟨rfl, rfl⟩
    case rest =>
    obtain ⟨rfl, rfl⟩ := hcut
    go_upto_if 53 with (fail)
    go_cut [] from 54 to 59 (fun wx => ∃ (seen1 : Nat → Nat) (th1 : List ThD) (sT1 : Option Addr) (cT1 : Nat), RunG w1 wx rn sb pb (.slice sl n c) N a seen1 th1 sT1 cT1 ∧ contR G0 acts deep line g a best (seen1, th1) = RES ∧ th1.length + marksP a seen1 N ≤ N ∧ (∀ i, seen1 i ≤ a + 1) ∧ (∀ x ∈ th1, x.act < acts.length) ∧ BestR wx w1.heap.size ((Value.slice sT1 th1.length cT1).ownBlock) best u9 u10)
    case first =>
     cases best with
     | none =>
      obtain ⟨rfl, rfl⟩ := HBE.out
      have hadd := add_g w1 wr rn sb pb sl n c line HLN.out HLW.out (by omega) N a hlt seen th sT cT HR0.out B E base groups deep acts HPW.out lv HWF.out HNN.out hN12 HMK.out 0 (by decide) (.inr ⟨by decide, by have := HWF.out.pos; simpa using this, Nat.zero_le _⟩) (a : Int) none [] rfl
      have HADD := Lib.hid hadd
      have hok := addP_ok (stand := standsP (wordAt G0 line) n a) (at' := a) (fr := (a : Int)) HWF.out (N + 2) seen th [⟨0, 0, []⟩] (fun x hx => by obtain rfl := List.mem_singleton.mp hx; exact .inr ⟨by decide, by have := HWF.out.pos; simpa using this, Nat.zero_le _⟩) HTL.out HSN.out
      have HOK := Lib.hid hok
      clear hadd hok
      go_wp2_with fail
      refine HADD.out.mono ?_
      rintro e w5 ⟨rfl, ht5, seen1, th1, sT1, cT1, heq, hr5, hm5, hob⟩
      have hok := HOK.out
      have hall : addAll G0 acts deep line a 0 (a : Int) [] seen th = (seen1, th1) := by
       unfold addAll
       rw [HLN.out, HNN.out]
       exact heq
      have hRR : contR G0 acts deep line g a none (addAll G0 acts deep line a 0 (a : Int) [] seen th) = RES := HRR.out
      rw [hall] at hRR
      rw [heq] at hok
      have HF := Lib.hid (And.intro hr5 (And.intro hRR (And.intro hm5 hok)))
      clear ht5 heq hr5 hm5 hob hok hall hRR HADD HOK
      go_wp2
      go_meet
      exact ⟨seen1, th1, sT1, cT1, HF.out.1, HF.out.2.1, HF.out.2.2.1, HF.out.2.2.2.1, HF.out.2.2.2.2, rfl, rfl⟩
     | some b =>
      obtain ⟨bx, a', q, rfl, rfl, hbx⟩ := HBE.out
      have hRR : contR G0 acts deep line g a (some b) (seen, th) = RES := HRR.out
      have HF := Lib.hid hRR
      clear hRR
      go_wp2
      go_meet
      exact ⟨seen, th, sT, cT, HR0.out, HF.out, HMK.out, HSN.out, HTL.out, ⟨bx, a', q, rfl, rfl, hbx⟩⟩
    case rest =>
    obtain ⟨seen1, th1, sT1, cT1, hr, hR, hmk, hsn, htl, hbest⟩ := hcut
    clear HR0 HRR HMK HSN HTL HBE r2
    obtain ⟨m, hm⟩ : ∃ m, th1.length = m := ⟨_, rfl⟩
    have r4 : wc.cell? ⟨rn, 4, none⟩ = some (.slice sT1 m cT1) := by rw [← hm]; exact block_cell hr.blk
    have f4 : wc.frozen? ⟨rn, 4, none⟩ = false := block_free hr.blk
    have HCLR := Lib.hid hr.clear
    have HOLD := Lib.hid (fun h0 => hr.old h0)
    have HML := Lib.hid hm
    have hown : ∀ x, (Value.slice sT1 th1.length cT1).ownBlock = some x → x < wc.heap.size := fun x hx => by
     obtain ⟨xs, h1, _⟩ := hr.own
     exact (World.ownsRow.lt h1 x hx).2
    have hbest6 : BestR (wc.setCell ⟨rn, 4, none⟩ (.slice none 0 0)) w1.heap.size none best u9 u10 := hbest.keep (fun x cs T hx hT => ((hr.oth 4 (.slice none 0 0)).2.2.2 hx (by rcases hT with rfl | ⟨rfl, _⟩ <;> decide)).trans hx) (.inr (.inl rfl))
    have HBE := Lib.hid hbest6
    have HRR := Lib.hid hR
    have HMK := Lib.hid hmk
    have HSN := Lib.hid hsn
    have HTL := Lib.hid htl
    have HRG := Lib.hid hr
    clear hr hbest hbest6 hR hmk hsn htl hm hown
    go_upto_region 11 with (fail)
    generalize hw6 : wc.setCell ⟨rn, 4, none⟩ (.slice none 0 0) = w6 at HCLR HBE HOLD ⊢
    clear hw6 r4 f4 HRG
    go_cut [73] from 67 to 73 (fun v wx => v = .bool (decide (m = 0) && best.isSome) ∧ w6 = wx)
    case first =>
     by_cases hm0 : m = 0
     ·
      subst hm0
      cases best with
      | none =>
       obtain ⟨rfl, rfl⟩ := HBE.out
       go_wp2_with fail
       go_meet
       exact ⟨rfl, rfl⟩
      | some b =>
       obtain ⟨bx, a', q, rfl, rfl, -⟩ := HBE.out
       go_wp2_with fail
       go_meet
       exact ⟨rfl, rfl⟩
     ·
      have e0 : ((m : Int) == 0) = false := by rw [beq_eq_false_iff_ne]; omega
      go_wp2_with fail
      go_meet
      exact ⟨by rw [decide_eq_false hm0]; rfl, rfl⟩
    case rest =>
    obtain ⟨rfl, rfl⟩ := hcut
    have hemp : th1.isEmpty = decide (m = 0) := by
     rw [← HML.out]
     cases th1 <;> simp
    obtain ⟨dd, hdd⟩ : ∃ dd, (decide (m = 0) && best.isSome) = dd := ⟨_, rfl⟩
    rw [hdd]
    have hRR : (if dd = true then best else nextR G0 acts deep line g a (stepP' G0 acts deep line a th1 seen1 [] best)) = RES := by
     have := HRR.out
     unfold contR at this
     simp only [hemp, hdd] at this
     exact this
    clear hemp hdd
    cases dd with
    | true =>
     obtain rfl : best = RES := hRR
     have HBL := Lib.hid HCLR.out.below
     go_wp2
     rw [Exit.noGoto_exit]
     first
      | (go_wp2; go_meet)
      | (go_end0; go_meet)
      | (simp only [Exit.inBlock, Exit.then]; go_meet)
     exact ⟨_, HBE.out, HBL.out⟩
    | false =>
     have hRR2 : nextR G0 acts deep line g a (stepP' G0 acts deep line a th1 seen1 [] best) = RES := hRR
     have HR2 := Lib.hid hRR2
     have r2 : w6.cell? ⟨rn, 2, none⟩ = some (.int .i64 a) := block_cell HCLR.out.blk
     clear hRR hRR2 HRR
     go_upto_region 13 with (fail)
     go_wp2_with fail
     go_step3
     go_wp2_with fail
     go_loopg [9, 10, 80] m (fun gg bv tv iv wr => ∃ (k : Nat) (seen2 : Nat → Nat) (th2 : List ThD) (sT2 : Option Addr) (cT2 : Nat) (best2 : Option BestD), k + gg = m ∧ iv = .int .i64 k ∧ RunG w1 wr rn sb pb (.slice sl n c) N a seen2 th2 sT2 cT2 ∧ Touch (fun b => b = rn ∨ b = sb) w6 wr ∧ (∀ x, (Value.slice sT2 th2.length cT2).ownBlock = some x → w6.heap.size ≤ x) ∧ nextR G0 acts deep line g a (stepP' G0 acts deep line a (th1.drop k) seen2 th2 best2) = RES ∧ th2.length + marksP (a + 1) seen2 N ≤ N ∧ (∀ i, seen2 i ≤ a + 1 + 1) ∧ (∀ x ∈ th2, x.act < acts.length) ∧ BestR wr w1.heap.size ((Value.slice sT2 th2.length cT2).ownBlock) best2 bv tv)
     case atStart => exact ⟨0, seen1, [], none, 0, best, by omega, rfl, HCLR.out, Touch.refl _ _, fun x hx => (by cases hx), by rw [List.drop_zero]; exact HR2.out, by have := marksP_le (a + 1) seen1 N; simpa using this, fun i => Nat.le_succ_of_le (HSN.out i), fun x hx => (by cases hx), HBE.out⟩
     case round =>
      clear r2 HCLR HBE HR2
      obtain ⟨k, seen2, th2, sT2, cT2, best2, hk, rfl, hr, htc, hown, hR, hmk, hsn, htl, hbest⟩ := hrel
      have r2 : wr.cell? ⟨rn, 2, none⟩ = some (.int .i64 a) := block_cell hr.blk
      have f2 : wr.frozen? ⟨rn, 2, none⟩ = false := block_free hr.blk
      have q9 : IntKind.i64.wrap ((a : Int) + 1) = (a : Int) + 1 := by rw [IntKind.wrap_i64]; omega
      by_cases hlt2 : k < m
      ·
       have hkt : k < th1.length := by rw [HML.out]; exact hlt2
       obtain ⟨go, rfl, hold⟩ := HOLD.out (by omega)
       obtain ⟨q, t0, t1, t2, hnq⟩ := hold wr htc k hkt
       have hj := HTL.out th1[k] (List.getElem_mem hkt)
       rw [List.drop_eq_getElem_cons hkt, stepP_cons _ _ _ _ _ _ _ _ _ _ hj] at hR
       have hWb : Below w.heap.size w wr := HB1.out.trans (hr.below.mono HB1.out.size)
       have hbig : w1.heap.size ≤ wr.heap.size := hr.below.size
       generalize th1[k] = t at t0 t1 t2 hnq hj hR
       obtain ⟨j, fr, nts⟩ := t
       simp only at t0 t1 t2 hnq hj hR
       have q10 : (k : Int) < (m : Int) := by omega
       have q11 : (0 : Int) ≤ (k : Int) := by omega
       have q12 : IntKind.i64.wrap ((k : Int) + 1) = ((k + 1 : Nat) : Int) := by rw [IntKind.wrap_i64]; have := HMK.out; have := HML.out; omega
       have hb2 := below_newJ wr (.cells #[.int .i64 j, .int .i64 fr, .pointer q] 107)
       have HR2 := Lib.hid (hr.later hb2)
       have HTB := Lib.hid (one_new wr (.cells #[.int .i64 j, .int .i64 fr, .pointer q] 107))
       have HTC := Lib.hid (htc.trans (Touch.of (O := fun _ => False) hb2) (fun _ h => h.elim))
       have HNQ := Lib.hid (hnq.keep (KeepSl.below hb2))
       have HBE2 := Lib.hid (hbest.keep (w' := wr.alloc (.cells #[.int .i64 j, .int .i64 fr, .pointer q] 107)) (own' := (Value.slice sT2 th2.length cT2).ownBlock) (fun x cs T hx _ => (hb2.block x (heap_lt hx)).trans hx) (.inl rfl))
       have hownlt : ∀ x, (Value.slice sT2 th2.length cT2).ownBlock = some x → x < wr.heap.size := fun x hx => by
        obtain ⟨xs, h1, _⟩ := hr.own
        exact (World.ownsRow.lt h1 x hx).2
       have HOL := Lib.hid hownlt
       have HOW := Lib.hid hown
       have HRR := Lib.hid hR
       have HMK2 := Lib.hid hmk
       have HSN2 := Lib.hid hsn
       have HTL2 := Lib.hid htl
       have HBIG := Lib.hid hbig
       have HKK := Lib.hid hk
       have HLK := Lib.hid hlt2
       have HWB := Lib.hid (hWb.trans (hb2.mono hWb.size))
       clear hr htc hown hR hmk hsn htl hbest hold hkt hnq hWb hb2 hownlt hbig
       go_upto_region 16 with (fail)
       obtain ⟨tb, htb⟩ : ∃ tb, wr.heap.size = tb := ⟨_, rfl⟩
       rw [htb] at HTB HOL HBIG ⊢
       generalize wr.alloc (.cells #[.int .i64 j, .int .i64 fr, .pointer q] 107) = w8 at HR2 HTB HTC HNQ HBE2 HWB ⊢
       clear t0 t1 t2 r2 f2 htb
       obtain ⟨p0, -, hac⟩ := HCL.out w8 HWB.out
       obtain ⟨c0, c1, c2, sv, c3, hks⟩ := hac j hj
       have hb3 := below_newJ w8 (.cells #[.int .i64 0, .int .i64 0, .int .i64 0, .pointer none] 80)
       obtain ⟨y1, -, hac2⟩ := HCL.out (w8.alloc (.cells #[.int .i64 0, .int .i64 0, .int .i64 0, .pointer none] 80)) (HWB.out.trans (hb3.mono HWB.out.size))
       obtain ⟨z0, z1, z2, sv', z3, hks'⟩ := hac2 j hj
       have hsv : sv' = sv := by
        have h1 := (cell_later hb3 c3).symm.trans z3
        injection h1 with h1
        injection h1 with h1
        exact h1.symm
       subst hsv
       have wt := HWF.out.take j hj
       generalize acts[j] = aa at c0 c1 c2 hks z0 z1 z2 HRR wt
       obtain ⟨kd, ax, ay, aset⟩ := aa
       simp only at c0 c1 c2 hks z0 z1 z2 HRR wt
       have x0 : w8.cell? ⟨tb, 0, none⟩ = some (.int .i64 j) := block_cell HTB.out
       have xn0 : (w8.alloc (.cells #[.int .i64 0, .int .i64 0, .int .i64 0, .pointer none] 80)).cell? ⟨tb, 0, none⟩ = some (.int .i64 j) := block_cell ((hb3.block _ (heap_lt HTB.out)).trans HTB.out)
       have i7 : (0 : Int) ≤ (j : Int) := by omega
       have i8 : (j : Int) < (acts.length : Int) := by omega
       have hlt1 : ga < w8.heap.size := cell_lt c0
       have hlt3 : tb < w8.heap.size := cell_lt x0
       have hlt4 : pb < w8.heap.size := cell_lt p0
       have HKS := Lib.hid hks
       have HWT := Lib.hid wt
       clear hks' hks hac hac2 hb3 wt
       go_region
       have hb6 : Below w8.heap.size w8 (w8.alloc (.cells #[.int .i64 kd, .int .i64 ax, .int .i64 ay, .pointer sv'] 80)).drew := (below_newJ w8 _).drew
       have HR8 := Lib.hid (HR2.out.later hb6)
       have HT8 := Lib.hid ((hb6.block _ (heap_lt HTB.out)).trans HTB.out)
       have HTC8 := Lib.hid (HTC.out.trans (Touch.of (O := fun _ => False) hb6) (fun _ h => h.elim))
       have HNQ8 := Lib.hid (HNQ.out.keep (KeepSl.below hb6))
       have HBE8 := Lib.hid (HBE2.out.keep (w' := (w8.alloc (.cells #[.int .i64 kd, .int .i64 ax, .int .i64 ay, .pointer sv'] 80)).drew) (own' := (Value.slice sT2 th2.length cT2).ownBlock) (fun x cs T hx _ => (hb6.block x (heap_lt hx)).trans hx) (.inl rfl))
       have HKS8 := Lib.hid (HKS.out.keep (w' := (w8.alloc (.cells #[.int .i64 kd, .int .i64 ax, .int .i64 ay, .pointer sv'] 80)).drew) fun b hb => hb6.block b (by have := HPW.out.le; have := HWB.out.size; omega))
       have HWB8 := Lib.hid (HWB.out.trans (hb6.mono HWB.out.size))
       have HA8 := Lib.hid (show (w8.alloc (.cells #[.int .i64 kd, .int .i64 ax, .int .i64 ay, .pointer sv'] 80)).drew.heap[w8.heap.size]? = some (.cells #[.int .i64 kd, .int .i64 ax, .int .i64 ay, .pointer sv'] 80 (0, 0)) from one_new w8 _)
       clear x0 xn0 p0 y1 c0 c1 c2 c3 z0 z1 z2 z3 hlt1 hlt3 hlt4 hb6 HR2 HTB HTC HNQ HBE2 HKS HWB
       generalize w8.heap.size = ab at HA8 ⊢
       generalize (w8.alloc (.cells #[.int .i64 kd, .int .i64 ax, .int .i64 ay, .pointer sv'] 80)).drew = w9 at HR8 HT8 HTC8 HNQ8 HBE8 HKS8 HWB8 HA8 ⊢
       have y0 : w9.cell? ⟨ab, 0, none⟩ = some (.int .i64 kd) := block_cell HA8.out
       have r2 : w9.cell? ⟨rn, 2, none⟩ = some (.int .i64 a) := block_cell HR8.out.blk
       have f2 : w9.frozen? ⟨rn, 2, none⟩ = false := block_free HR8.out.blk
       by_cases h6 : kd = 6
       ·
        subst h6
        rw [if_pos rfl] at HRR
        have HRA := Lib.hid (HR8.out.setAt (a + 1))
        rw [show ((a + 1 : Nat) : Int) = (a : Int) + 1 from by omega] at HRA
        have hbb : BestR (w9.setCell ⟨rn, 2, none⟩ (.int .i64 ((a : Int) + 1))) w1.heap.size ((Value.slice sT2 th2.length cT2).ownBlock) (some ⟨fr, a, nts⟩) (.pointer (some ⟨tb, 0, none⟩)) (.int .i64 a) :=
         ⟨tb, j, q, rfl, rfl, ((HR8.out.oth 2 _).2.2.2 HT8.out (by decide)).trans HT8.out, HBIG.out, HNQ8.out.keep (HR8.out.oth 2 _).2.2.1, fun e => by have := HOL.out tb e; omega⟩
        have HBB := Lib.hid hbb
        clear hbb
        go_wp2
        rw [Exit.noGoto_normal]
        go_wp2
        generalize w9.setCell ⟨rn, 2, none⟩ (.int .i64 ((a : Int) + 1)) = w10 at HRA HBB ⊢
        go_roundg g
        case measure => omega
        case rel => exact ⟨a + 1, seen2, th2, sT2, cT2, some ⟨fr, a, nts⟩, HRA.out, HRR.out, by omega, by omega, HMK2.out, HSN2.out, HTL2.out, HBB.out⟩
       ·
        rw [if_neg h6] at HRR
        have e6 : (kd == 6) = false := by rw [beq_eq_false_iff_ne]; exact h6
        by_cases h0 : kd = 0
        ·
         subst h0
         obtain ⟨hj1, s, rfl, hsk, hs1, hs2⟩ := HWT.out rfl
         have hbs : ∃ bs, sv' = some ⟨bs, 0, none⟩ := by
          have := HKS8.out
          unfold PtrR at this
          cases this
          exact ⟨_, rfl⟩
         obtain ⟨bs, rfl⟩ := hbs
         by_cases hn : a < n
         ·
          obtain ⟨lb, lo, hsl, lc0⟩ := HLW.out.at HR8.out.below hn
          obtain ⟨y, hy⟩ : ∃ y, gl line a = y := ⟨_, rfl⟩
          have hy2 : line.getD a 0 = y := hy
          rw [hy] at lc0
          have z3 : w9.cell? ⟨ab, 3, none⟩ = some (.pointer (some ⟨bs, 0, none⟩)) := block_cell HA8.out
          have hEw : E ≤ w9.drew.heap.size := by
           have h1 := HPW.out.le
           have h2 := HWB8.out.size
           show E ≤ w9.heap.size
           omega
          have htk := takes_g w9.drew B E bs s y (PtrR.keep (w' := w9.drew) HKS8.out fun b _ => rfl) hEw hsk hs1 hs2 ((HTW.out.later HR8.out.below).later (Below.refl w9.heap.size w9).drew)
          obtain ⟨dk, hdk⟩ : ∃ dk, takesP G0 s y = dk := ⟨_, rfl⟩
          rw [hdk] at htk
          have HTK := Lib.hid htk
          have hif : (if dk = true then nextR G0 acts deep line g a (stepP' G0 acts deep line a (th1.drop (k + 1)) (addAll G0 acts deep line (a + 1) ((j + 1 : Nat) : Int) fr nts seen2 th2).1 (addAll G0 acts deep line (a + 1) ((j + 1 : Nat) : Int) fr nts seen2 th2).2 best2) else nextR G0 acts deep line g a (stepP' G0 acts deep line a (th1.drop (k + 1)) seen2 th2 best2)) = RES := by
           have := HRR
           rw [HLN.out, hy2] at this
           have e1 : takesP G0 ((some s).getD ⟨[], [], false, false⟩) y = dk := hdk
           rw [e1] at this
           cases dk
           ·
            rw [if_neg (fun h => absurd h.2.2 (by decide))] at this
            exact this
           ·
            rw [if_pos ⟨rfl, hn, rfl⟩] at this
            exact this
          have HIF := Lib.hid hif
          subst hsl
          have u1 : (a : Int) < (n : Int) := by omega
          have u2 : (0 : Int) ≤ (a : Int) := by omega
          clear hy hy2 hdk htk hif HRR hEw
          go_wp2_with fail
          have hSd : w9.drew.cell? ⟨ab, 3, none⟩ = some (.pointer (some ⟨bs, 0, none⟩)) ∧ w9.drew.cell? ⟨lb, lo + a, none⟩ = some (.int .i64 y) ∧ Below w9.heap.size w9 w9.drew := ⟨z3, lc0, (Below.refl w9.heap.size w9).drew⟩
          have HSD := Lib.hid hSd
          have hab9 : ab < w9.heap.size := heap_lt HA8.out
          have hlb9 : lb < w9.heap.size := cell_lt lc0
          clear hSd
          go_region_held3 (fun w' => w'.cell? ⟨ab, 3, none⟩ = some (.pointer (some ⟨bs, 0, none⟩)) ∧ w'.cell? ⟨lb, lo + a, none⟩ = some (.int .i64 y) ∧ Below w9.heap.size w9 w')
           (first | with_reducible exact HSD.out | with_reducible exact hs10.out | go_keep)
           (first | (go_at_call 48; refine HTK.out.mono ?_; rintro e w10 ⟨rfl, hb10⟩; have HB10 := Lib.hid hb10; have hs10 := Lib.hid (show w10.cell? ⟨ab, 3, none⟩ = some (.pointer (some ⟨bs, 0, none⟩)) ∧ w10.cell? ⟨lb, lo + a, none⟩ = some (.int .i64 y) ∧ Below w9.heap.size w9 w10 from ⟨(hb10.cell (p := ⟨ab, 3, none⟩) hab9).trans z3, (hb10.cell (p := ⟨lb, lo + a, none⟩) hlb9).trans lc0, ((Below.refl w9.heap.size w9).drew).trans hb10⟩); clear hb10))
          all_goals
           have hbd : Below w9.heap.size w9 w10 := ((Below.refl w9.heap.size w9).drew).trans (HB10.out.mono (Nat.le_refl _))
           have HR10 := Lib.hid (HR8.out.later hbd)
           have HT10 := Lib.hid ((hbd.block _ (heap_lt HT8.out)).trans HT8.out)
           have HTC10 := Lib.hid (HTC8.out.trans (Touch.of (O := fun _ => False) hbd) (fun _ h => h.elim))
           have HNQ10 := Lib.hid (HNQ8.out.keep (KeepSl.below hbd))
           have HBE10 := Lib.hid (HBE8.out.keep (w' := w10) (own' := (Value.slice sT2 th2.length cT2).ownBlock) (fun x cs T hx _ => (hbd.block x (heap_lt hx)).trans hx) (.inl rfl))
           clear hbd HB10 z3 lc0 y0 r2 f2 HR8 HT8 HTC8 HNQ8 HBE8 HKS8 HWB8 HA8 HTK
           cases dk with
           | false =>
            have HRN : nextR G0 acts deep line g a (stepP' G0 acts deep line a (th1.drop (k + 1)) seen2 th2 best2) = RES := HIF.out
            have HRX := Lib.hid HRN
            clear HRN HIF
            go_wp2
            go_roundg (gk - 1)
            case measure => have := HKK.out; have := HLK.out; omega
            case rel => exact ⟨k + 1, seen2, th2, sT2, cT2, best2, by have := HKK.out; have := HLK.out; omega, by go_num, HR10.out, HTC10.out, HOW.out, HRX.out, HMK2.out, HSN2.out, HTL2.out, HBE10.out⟩
           | true =>
            have HRN : nextR G0 acts deep line g a (stepP' G0 acts deep line a (th1.drop (k + 1)) (addAll G0 acts deep line (a + 1) ((j + 1 : Nat) : Int) fr nts seen2 th2).1 (addAll G0 acts deep line (a + 1) ((j + 1 : Nat) : Int) fr nts seen2 th2).2 best2) = RES := HIF.out
            have HRX := Lib.hid HRN
            clear HRN HIF
            have r2 : w10.cell? ⟨rn, 2, none⟩ = some (.int .i64 a) := block_cell HR10.out.blk
            have f2 : w10.frozen? ⟨rn, 2, none⟩ = false := block_free HR10.out.blk
            have HRA := Lib.hid (HR10.out.setAt (a + 1))
            have HTA := Lib.hid (((HR10.out.oth 2 (.int .i64 ((a + 1 : Nat) : Int))).2.2.2 HT10.out (by decide)).trans HT10.out)
            have HTCA := Lib.hid (HTC10.out.trans (Touch.setCell (fun b => b = rn) w10 (p := ⟨rn, 2, none⟩) rfl (.int .i64 ((a + 1 : Nat) : Int))) (fun x h => .inl (.inl h)))
            have HNQA := Lib.hid (HNQ10.out.keep (HR10.out.oth 2 (.int .i64 ((a + 1 : Nat) : Int))).2.2.1)
            have HBEA := Lib.hid (HBE10.out.keep (w' := w10.setCell ⟨rn, 2, none⟩ (.int .i64 ((a + 1 : Nat) : Int))) (own' := (Value.slice sT2 th2.length cT2).ownBlock) (fun x cs T hx hT => ((HR10.out.oth 2 _).2.2.2 hx (by rcases hT with rfl | ⟨rfl, _⟩ <;> decide)).trans hx) (.inl rfl))
            go_upto_region 23 with (fail)
            rw [show ((a : Int) + 1) = ((a + 1 : Nat) : Int) from by omega]
            clear r2 f2 HR10 HT10 HTC10 HNQ10 HBE10
            generalize w10.setCell ⟨rn, 2, none⟩ (.int .i64 ((a + 1 : Nat) : Int)) = w11 at HRA HTA HTCA HNQA HBEA ⊢
            have hgt : Tgt acts lv 0 ((j + 1 : Nat) : Int) := .inr ⟨by omega, by rw [Int.toNat_natCast]; exact hj1, Nat.zero_le _⟩
            have hadd := add_g w1 w11 rn sb pb (some ⟨lb, lo, none⟩) n c line HLN.out HLW.out (by omega) N (a + 1) (by omega) seen2 th2 sT2 cT2 HRA.out B E base groups deep acts HPW.out lv HWF.out HNN.out hN12 HMK2.out ((j + 1 : Nat) : Int) (by omega) hgt fr q nts HNQA.out
            have hok := addP_ok (stand := standsP (wordAt G0 line) n (a + 1)) (at' := a + 1) (fr := fr) HWF.out (N + 2) seen2 th2 [⟨((j + 1 : Nat) : Int), 0, nts⟩] (fun x hx => by obtain rfl := List.mem_singleton.mp hx; exact hgt) HTL2.out HSN2.out
            have HADD := Lib.hid hadd
            have HOK := Lib.hid hok
            have x0 : w11.cell? ⟨tb, 0, none⟩ = some (.int .i64 j) := block_cell HTA.out
            have x1 : w11.cell? ⟨tb, 1, none⟩ = some (.int .i64 fr) := block_cell HTA.out
            have x2 : w11.cell? ⟨tb, 2, none⟩ = some (.pointer q) := block_cell HTA.out
            have x3 : IntKind.i64.wrap ((j : Int) + 1) = ((j + 1 : Nat) : Int) := by rw [IntKind.wrap_i64]; omega
            clear hadd hok hgt
            go_wp2_with fail
            refine HADD.out.mono ?_
            rintro e w12 ⟨rfl, ht12, seen3, th3, sT3, cT3, heq, hr12, hm12, hob⟩
            have r2 : w12.cell? ⟨rn, 2, none⟩ = some (.int .i64 ((a + 1 : Nat) : Int)) := block_cell hr12.blk
            have f2 : w12.frozen? ⟨rn, 2, none⟩ = false := block_free hr12.blk
            have hall : addAll G0 acts deep line (a + 1) ((j + 1 : Nat) : Int) fr nts seen2 th2 = (seen3, th3) := by
             unfold addAll
             rw [HLN.out, HNN.out]
             exact heq
            have hok := HOK.out
            rw [heq] at hok
            have hrx := HRX.out
            rw [hall] at hrx
            have HRY := Lib.hid hrx
            have HOKK := Lib.hid hok
            have HRZ := Lib.hid (hr12.setAt a)
            have hown2 := HOW.out
            have htc12 := HTCA.out.trans ht12 (fun x hx => by
             rcases hx with hx | hx | hx
             · exact .inl (.inl hx)
             · exact .inl (.inr hx)
             · exact .inr (hown2 x hx))
            have HTZ := Lib.hid (htc12.trans (Touch.setCell (fun b => b = rn) w12 (p := ⟨rn, 2, none⟩) rfl (.int .i64 (a : Int))) (fun x h => .inl (.inl h)))
            have hwsz : w6.heap.size ≤ w11.heap.size := HTCA.out.size
            have HOZ := Lib.hid (show ∀ x, (Value.slice sT3 th3.length cT3).ownBlock = some x → w6.heap.size ≤ x from fun x hx => by
             rcases hob with e | ⟨b', e, hb'⟩
             · exact hown2 x (e.symm.trans hx)
             · rw [e] at hx; injection hx with hx; omega)
            have hbe12 : BestR w12 w1.heap.size ((Value.slice sT3 th3.length cT3).ownBlock) best2 u9 u10 := HBEA.out.keep (fun x cs T hx hT => (ht12.block x (heap_lt hx) (fun e => by
             obtain ⟨ics, his, _⟩ := HRA.out.seen
             rcases e with e | e | e
             · exact type_ne hx HRA.out.blk (by rcases hT with rfl | ⟨rfl, _⟩ <;> decide) e
             · exact type_ne hx his (by rcases hT with rfl | ⟨rfl, _⟩ <;> decide) e
             ·
              rcases hT with rfl | ⟨rfl, hne⟩
              ·
               obtain ⟨xs3, ho3, _⟩ := HRA.out.own
               obtain ⟨c3, h3⟩ := own_type ho3 e
               exact type_ne hx h3 (by decide) rfl
              · exact hne e)).trans hx) (by
             rcases hob with e | ⟨b', e, hb'⟩
             · exact .inl e
             · exact .inr (.inr ⟨b', e, hb'⟩))
            have HBZ := Lib.hid (hbe12.keep (w' := w12.setCell ⟨rn, 2, none⟩ (.int .i64 (a : Int))) (own' := (Value.slice sT3 th3.length cT3).ownBlock) (fun x cs T hx hT => ((hr12.oth 2 _).2.2.2 hx (by rcases hT with rfl | ⟨rfl, _⟩ <;> decide)).trans hx) (.inl rfl))
            have HMZ := Lib.hid hm12
            clear ht12 heq hr12 hm12 hob hall hok hrx hown2 htc12 hwsz hbe12 HADD HOK HRX x0 x1 x2 HRA HTA HTCA HNQA HBEA
            go_wp2
            generalize w12.setCell ⟨rn, 2, none⟩ (.int .i64 (a : Int)) = w13 at HRZ HTZ HBZ ⊢
            go_roundg (gk - 1)
            case measure => have := HKK.out; have := HLK.out; omega
            case rel => exact ⟨k + 1, seen3, th3, sT3, cT3, best2, by have := HKK.out; have := HLK.out; omega, by go_num, HRZ.out, HTZ.out, HOZ.out, HRY.out, HMZ.out, HOKK.out.1, HOKK.out.2, HBZ.out⟩
         ·
          have HRN : nextR G0 acts deep line g a (stepP' G0 acts deep line a (th1.drop (k + 1)) seen2 th2 best2) = RES := by
           have := HRR
           rw [HLN.out, if_neg (fun h => hn h.2.1)] at this
           exact this
          have HRX := Lib.hid HRN
          have v1 : decide ((a : Int) < (n : Int)) = false := decide_eq_false (by omega)
          have v1b : decide (a < n) = false := decide_eq_false hn
          clear HRN HRR
          go_wp2_with fail
          go_quiet (fail)
          have hbd : Below w9.heap.size w9 (World.drewN w9 nq) := below_drewN (Below.refl _ _)
          have HRG := Lib.hid (HR8.out.later hbd)
          have HTG := Lib.hid (HTC8.out.trans (Touch.of (O := fun _ => False) hbd) (fun _ h => h.elim))
          have HBG := Lib.hid (HBE8.out.keep (w' := World.drewN w9 nq) (own' := (Value.slice sT2 th2.length cT2).ownBlock) (fun x cs T hx _ => (hbd.block x (heap_lt hx)).trans hx) (.inl rfl))
          clear hbd HR8 HTC8 HBE8 HT8 HA8 HNQ8 HKS8 HWB8 y0 r2 f2
          generalize World.drewN w9 nq = w10 at HRG HTG HBG ⊢
          go_wp2
          go_roundg (gk - 1)
          case measure => have := HKK.out; have := HLK.out; omega
          case rel => exact ⟨k + 1, seen2, th2, sT2, cT2, best2, by have := HKK.out; have := HLK.out; omega, by go_num, HRG.out, HTG.out, HOW.out, HRX.out, HMK2.out, HSN2.out, HTL2.out, HBG.out⟩
        ·
         have HRN : nextR G0 acts deep line g a (stepP' G0 acts deep line a (th1.drop (k + 1)) seen2 th2 best2) = RES := by
          have := HRR
          rw [if_neg (fun h => h0 h.1)] at this
          exact this
         have HRX := Lib.hid HRN
         have e00 : (kd == 0) = false := by rw [beq_eq_false_iff_ne]; exact h0
         clear HRN HRR r2 f2
         go_wp2
         go_roundg (gk - 1)
         case measure => have := HKK.out; have := HLK.out; omega
         case rel => exact ⟨k + 1, seen2, th2, sT2, cT2, best2, by have := HKK.out; have := HLK.out; omega, by go_num, HR8.out, HTC8.out, HOW.out, HRX.out, HMK2.out, HSN2.out, HTL2.out, HBE8.out⟩
      ·
       obtain rfl : k = m := by omega
       rw [List.drop_of_length_le (by rw [HML.out]; exact Nat.le_refl _), stepP'] at hR
       have HRA := Lib.hid (hr.setAt (a + 1))
       have HBA := Lib.hid (hbest.keep (w' := wr.setCell ⟨rn, 2, none⟩ (.int .i64 ((a + 1 : Nat) : Int))) (own' := (Value.slice sT2 th2.length cT2).ownBlock) (fun x cs T hx hT => ((hr.oth 2 _).2.2.2 hx (by rcases hT with rfl | ⟨rfl, _⟩ <;> decide)).trans hx) (.inl rfl))
       have HRR := Lib.hid hR
       have HMK2 := Lib.hid hmk
       have HSN2 := Lib.hid hsn
       have HTL2 := Lib.hid htl
       rw [show ((a + 1 : Nat) : Int) = (a : Int) + 1 from by omega] at HRA HBA
       clear hr htc hown hR hmk hsn htl hbest
       go_wp2
       rw [Exit.noGoto_normal]
       go_wp2
       generalize wr.setCell ⟨rn, 2, none⟩ (.int .i64 ((a : Int) + 1)) = w7 at HRA HBA ⊢
       go_roundg g
       case measure => omega
       case rel => exact ⟨a + 1, seen2, th2, sT2, cT2, best2, HRA.out, HRR.out, by omega, by omega, HMK2.out, HSN2.out, HTL2.out, HBA.out⟩
   ·
    rw [runR_end _ _ _ _ _ _ _ _ _ (by rw [HLN.out]; omega)] at hR
    subst hR
    have HBE := Lib.hid hbest
    have HBL := Lib.hid hr.below
    clear hr hbest
    go_wp2
    go_meet
    exact ⟨_, HBE.out, HBL.out⟩
 case rest =>
  obtain ⟨own, hbest, hbl⟩ := hcut
  cases RES with
  | none =>
   obtain ⟨rfl, rfl⟩ := hbest
   have hr6 := (hbl.block _ (heap_lt HR6.out)).trans HR6.out
   have HBL := Lib.hid hbl
   clear hbl
   go_wp2_with (refine wpList_store_row rfl 23 _ _ rfl w.heap.size mZg rfl rfl _ _ hr6 mZg_info rfl mZg_all ?_)
   refine bodyPost_ret (run_resultsg _ w.heap.size mZg false _ rfl rfl (row_setg mZg hr6) mZg_info) rfl ⟨?_, rfl⟩
   exact (HB1.out.trans (HBL.out.mono HB1.out.size)).trans (row_belowg mZg (Nat.le_refl _))
  | some b =>
   obtain ⟨bx, a, q, rfl, rfl, hbx, hlo, hn, -⟩ := hbest
   have HBL := Lib.hid hbl
   have HBX := Lib.hid hbx
   have HNT := Lib.hid hn
   obtain ⟨s, hs⟩ : ∃ s, b.from' = s := ⟨_, rfl⟩
   obtain ⟨tt, htt⟩ : ∃ tt, (b.to' : Int) = tt := ⟨_, rfl⟩
   have HSS := Lib.hid hs
   have HTT := Lib.hid htt
   rw [hs] at HBX
   rw [htt]
   clear hbl hbx hn hs htt
   go_upto_region 29 with (fail)
   have xb1 : wc.cell? ⟨bx, 1, none⟩ = some (.int .i64 s) := block_cell HBX.out
   have hbm := below_newJ wc (.cells mZg 23)
   have x1 : (wc.alloc (.cells mZg 23)).cell? ⟨bx, 1, none⟩ = some (.int .i64 s) := (hbm.cell (p := ⟨bx, 1, none⟩) (heap_lt HBX.out)).trans xb1
   clear hbm xb1
   go_upto_region 30 with (fail)
   have hm2 : (#[.int .i64 s, .int .i64 tt, .int .i64 0, .int .i64 0, .int .i64 0, .int .i64 0, .int .i64 0, .int .i64 0, .int .i64 0, .int .i64 0, .int .i64 0, .int .i64 0, .int .i64 0, .int .i64 0, .int .i64 0, .int .i64 0, .int .i64 0, .int .i64 0, .int .i64 0, .int .i64 0] : Array Value) = mLg (mKg b 2) := by rw [mKg_2, HSS.out, HTT.out]
   rw [hm2]
   have hmb := one_new wc (.cells (mLg (mKg b 2)) 23)
   have hbb := below_newJ wc (.cells (mLg (mKg b 2)) 23)
   have HMB := Lib.hid hmb
   have HBB := Lib.hid hbb
   clear hmb hbb x1 hm2
   generalize wc.alloc (.cells (mLg (mKg b 2)) 23) = w6 at HMB HBB ⊢
   obtain ⟨mb, hmbe⟩ : ∃ mb, wc.heap.size = mb := ⟨_, rfl⟩
   rw [hmbe] at HMB HBB ⊢
   have HBXL := Lib.hid (show bx < mb from by rw [← hmbe]; exact heap_lt HBX.out)
   have HR6L := Lib.hid (show w.heap.size < mb from by rw [← hmbe]; exact Nat.lt_of_lt_of_le (heap_lt HR6.out) HBL.out.size)
   have HX6 := Lib.hid ((HBB.out.block bx HBXL.out).trans HBX.out)
   have HR66 := Lib.hid (show w6.heap[w.heap.size]? = some (.cells mZg 23 (0, 0)) from ((HBB.out.block w.heap.size HR6L.out)).trans ((HBL.out.block w.heap.size (heap_lt HR6.out)).trans HR6.out))
   have HT6 := Lib.hid (show Below w.heap.size w w6 from (HB1.out.trans (HBL.out.mono HB1.out.size)).trans (HBB.out.mono (by have := HR6L.out; omega)))
   have HN6 := Lib.hid (HNT.out.keep fun x cs hx => (HBB.out.block x (by rw [← hmbe]; exact heap_lt hx)).trans hx)
   clear hmbe
   go_wp2_with fail
   go_loopg [17] 18 (fun gg kv wq => ∃ k : Nat, k + gg = 20 ∧ 2 ≤ k ∧ kv = .int .i64 k ∧ wq.heap[mb]? = some (.cells (mLg (mKg b k)) 23 (0, 0)) ∧ Below mb w6 wq ∧ NoteR wq w1.heap.size q b.notes)
   case atStart => exact ⟨2, rfl, by omega, rfl, HMB.out, Below.refl _ _, HN6.out⟩
   case round =>
    obtain ⟨k, hk, hk2, rfl, hm, hbq, hnq⟩ := hrel
    have HM := Lib.hid hm
    have HBQ := Lib.hid hbq
    have HNQ := Lib.hid hnq
    have xb2 : wr.cell? ⟨bx, 2, none⟩ = some (.pointer q) := block_cell ((hbq.block bx HBXL.out).trans HX6.out)
    clear hm hbq hnq
    by_cases hlt20 : k < 20
    ·
     have e1 : (k : Int) < 20 := by omega
     have e2 : (0 : Int) ≤ (k : Int) := by omega
     have e3 : IntKind.i64.wrap ((k : Int) + 1) = ((k + 1 : Nat) : Int) := by rw [IntKind.wrap_i64]; omega
     have e4 : IntKind.i64.wrap (k : Int) = (k : Int) := by rw [IntKind.wrap_i64]; omega
     have m0 : wr.cell? ⟨mb, k, none⟩ = some (.int .i64 (mKg b k k)) := (block_cell HM.out).trans (mLg_at _ k hlt20)
     have m1 : wr.frozen? ⟨mb, k, none⟩ = false := block_free HM.out
     have hms : (wr.setCell ⟨mb, k, none⟩ (.int .i64 (noteIn b.notes (k : Int)))).heap[mb]? = some (.cells (mLg (mKg b (k + 1))) 23 (0, 0)) := by
      rw [block_set _ HM.out, mKg_step b k hk2]
     have HMS := Lib.hid hms
     have HBS := Lib.hid (HBQ.out.setCell (p := ⟨mb, k, none⟩) (Nat.le_refl _) (.int .i64 (noteIn b.notes (k : Int))))
     have HNS := Lib.hid (HNQ.out.keep (KeepSl.set (p := ⟨mb, k, none⟩) (.int .i64 (noteIn b.notes (k : Int))) HM.out (by decide)))
     have hin := in_g wr w1.heap.size q b.notes (k : Int) HNQ.out
     obtain ⟨vv, hvv⟩ : ∃ vv, noteIn b.notes (k : Int) = vv := ⟨_, rfl⟩
     rw [hvv] at HMS HBS HNS hin
     have HIN := Lib.hid hin
     clear hms hin hvv
     go_wp2_with fail
     refine HIN.out.mono ?_
     rintro e w9 ⟨rfl, rfl⟩
     go_wp2
     go_roundg (gk - 1)
     case measure => omega
     case rel => exact ⟨k + 1, by omega, by omega, by go_num, HMS.out, HBS.out, HNS.out⟩
    ·
     obtain rfl : k = 20 := by omega
     have hr9 : wr.heap[w.heap.size]? = some (.cells mZg 23 (0, 0)) := (HBQ.out.block w.heap.size HR6L.out).trans HR66.out
     have hm20 := HM.out
     go_wp2_with (first
      | (refine wpList_load_row rfl 23 _ rfl mb rfl _ _ _ _ hm20 Tryd.underlying23 rfl (mLg_info _) ?_)
      | (refine wpList_store_row rfl 23 _ _ rfl w.heap.size (mLg (mKg b 20)) rfl rfl _ _ hr9 (mLg_info _) rfl (mLg_all _) ?_))
     refine bodyPost_ret (run_resultsg _ w.heap.size (mLg (mKg b 20)) true _ rfl rfl (row_setg (mLg (mKg b 20)) hr9) (mLg_info _)) rfl ⟨?_, rfl⟩
     exact (HT6.out.trans (HBQ.out.mono (by have := HR6L.out; omega))).trans (row_belowg (mLg (mKg b 20)) (Nat.le_refl _))
end Go.Proofs.YtdegdoilpamjjaaDoor
