/- Contracts of the document's reader of patterns: braces. Condition: no more than 2^30 ints. -/
import Derived.Test.YtdegdoilpamjjaaDoorCAs
namespace Go.Proofs.YtdegdoilpamjjaaDoor
open Go.RowKit
set_option linter.unusedVariables false
set_option linter.unusedSimpArgs false
set_option maxRecDepth 100000 in
set_option maxHeartbeats 16000000 in
theorem braces_f (w : World) (lo rb pb : Nat) (sl : Option Addr) (n c : Nat) (src : List Int) (ig : Bool) (s : RS) (nv : Value) (N : List NdF) (h : RfM w lo rb pb sl n c src ig s.at' false s.groups nv N) (j : Nat) (nd : Nd) (ht : trN N j nd) (is : Option Addr) (im ic : Nat) (ks : Option Addr) (km kc : Nat)
  (hx : KidF w rb pb nv ⟨6, 0, 0, -1, false, false, .slice is im ic, .slice ks km kc, [(j : Int)]⟩) (hN : N.length < 1000000) (B : Nat) (hKB : ∀ (le mo : Int) (lz : Bool), KGe B ⟨6, 0, le, mo, lz, false, .slice is im ic, .slice ks km kc, [(j : Int)]⟩) :
  Calls Tryd.prog 103 #[.pointer (some ⟨rb, 0, none⟩), .agg #[.int .i64 6, .int .i64 0, .int .i64 (0), .int .i64 (-1), .bool false, .bool false, .slice is im ic, .slice ks km kc]] w (NdP w lo rb pb sl n c src ig nv N B (fun _ => 1) (bracesP src nd s) (fun N' x k => trN N' k x)) := by
 obtain ⟨R, hR⟩ : ∃ R, bracesP src nd s = R := ⟨_, rfl⟩
 rw [hR]
 unfold bracesP at hR
 simp only at hR
 have hn30 := h.rd.n30
 have ob := below_newJ w (.cells #[.int .i64 6, .int .i64 0, .int .i64 (0), .int .i64 (-1), .bool false, .bool false, .slice is im ic, .slice ks km kc] 138)
 have oo := one_new w (.cells #[.int .i64 6, .int .i64 0, .int .i64 (0), .int .i64 (-1), .bool false, .bool false, .slice is im ic, .slice ks km kc] 138)
 have hrb : rb < w.heap.size := heap_lt h.rd.blk
 obtain ⟨lb, hlb⟩ : ∃ lb, w.heap.size = lb := ⟨_, rfl⟩
 generalize hw1 : w.alloc (.cells #[.int .i64 6, .int .i64 0, .int .i64 (0), .int .i64 (-1), .bool false, .bool false, .slice is im ic, .slice ks km kc] 138) = w1 at ob oo
 rw [hlb] at oo
 have LRB := Lib.hid (show rb < lb from by omega)
 have slx : ∀ y, sl = some y → y.block < lb := fun y hy => Nat.lt_of_lt_of_le (h.sll y hy) (by have := h.low.1; omega)
 obtain ⟨a, ha⟩ : ∃ a, s.at' = a := ⟨_, rfl⟩
 have f1 := h.rd.later ob
 rw [ha] at hR f1
 have F1 := Lib.hid f1
 have T1 := Lib.hid (Touch.of (O := fun b => b = rb) ob)
 have L1 := Lib.hid oo
 have HRa := Lib.hid hR
 have hata := f1.at'
 clear hR f1 ob oo
 go_enter Tryd.func103, Tryd.ntmps103
 go_wp2_with fail
 refine (sees_f rb pb sl n c src a false 45 0 w1 F1.out).mono ?_
 rintro e w2 ⟨rfl, m2, rfl⟩
 rw [sees_one (by decide)]
 by_cases h45 : pk src a 0 = 45
 ·
  rw [decide_eq_true h45]
  have hr := HRa.out
  rw [decide_eq_true h45] at hr
  simp only [if_true] at hr
  have HR := Lib.hid (show (match numP' src ⟨a + 1, s.groups⟩ with
   | .error e => .error e
   | .ok (least, s1) =>
    match (if pk src s1.at' 0 = 44 then numP' src { s1 with at' := s1.at' + 1 } else .ok (least, s1)) with
    | .error e => .error e
    | .ok (most, s2) => match nx src s2 with
     | .error e => .error e
     | .ok (c, s3) => if c ≠ 125 ∨ (0 ≤ most ∧ most < least) then .error (s3.at' - 1) else .ok (.again nd (max least 0) most true, s3)) = R from hr)
  have hlta : a < n := by
   have hl := h.rd.len
   unfold pk at h45
   split at h45 <;> omega
  have l1 : (w1.drewN m2).heap[lb]? = _ := L1.out
  have y4 : (w1.drewN m2).cell? ⟨lb, 4, none⟩ = some (.bool false) := block_cell l1
  have g4 : (w1.drewN m2).frozen? ⟨lb, 4, none⟩ = false := block_free l1
  have l2 := block_set (i := 4) (.bool true) l1
  have t2 := touch_below (touch_drewN (n := m2) T1.out) ((Below.refl w.heap.size (w1.drewN m2)).setCell (p := ⟨lb, 4, none⟩) (Nat.le_of_eq hlb) (.bool true))
  have f2 := (F1.out.drewN m2).below LRB.out (fun y hy => slx y hy) ((Below.refl lb (w1.drewN m2)).setCell (p := ⟨lb, 4, none⟩) (Nat.le_refl _) (.bool true))
  go_upto_region 3 with (fail)
  generalize (w1.drewN m2).setCell ⟨lb, 4, none⟩ (.bool true) = w2 at l2 t2 f2 ⊢
  clear y4 g4 l1 hw1 F1 T1 L1 HRa hr
  have b2 : w2.cell? ⟨rb, 2, none⟩ = some (.int .i64 a) := block_cell f2.blk
  have g2 : w2.frozen? ⟨rb, 2, none⟩ = false := block_free f2.blk
  have p3 : IntKind.i64.wrap ((a : Int) + 1) = (a : Int) + 1 := by rw [IntKind.wrap_i64]; omega
  have fs := f2.step 1 (by omega)
  have ts := t2.trans (Touch.setCell (fun b => b = rb) w2 (p := ⟨rb, 2, none⟩) rfl (.int .i64 ((a + 1 : Nat) : Int))) (fun x hx => .inl hx)
  have ls : (w2.setCell ⟨rb, 2, none⟩ (.int .i64 ((a + 1 : Nat) : Int))).heap[lb]? = _ := (Below.heap_setCell _ _ _ _ (show lb ≠ rb from by have := LRB.out; omega)).trans l2
  rw [show ((a + 1 : Nat) : Int) = (a : Int) + 1 from by omega] at fs ts ls
  go_upto_region 4 with (fail)
  generalize w2.setCell ⟨rb, 2, none⟩ (.int .i64 ((a : Int) + 1)) = w3 at fs ts ls ⊢
  have F3 := Lib.hid fs
  have T3 := Lib.hid ts
  have L3 := Lib.hid ls
  clear b2 g2 p3 l2 t2 f2 fs ts ls
  go_wp2_with fail
  refine (number_f rb pb sl n c src ⟨(a + 1), s.groups⟩ w3 F3.out).mono ?_
  rintro e w4 ⟨t4, h4⟩
  have T4 := Lib.hid (T3.out.trans t4 (fun y hy => .inl hy))
  have l4 := (t4.block lb (heap_lt L3.out) (fun e => by have := LRB.out; omega)).trans L3.out
  have L4 := Lib.hid l4
  have hrr := HR.out
  clear t4 l4 L3
  cases hnum : numP' src ⟨(a + 1), s.groups⟩ with
  | error k =>
   rw [hnum] at h4 hrr
   obtain ⟨⟨v, rfl, rfl⟩, f4⟩ := h4
   have FF := Lib.hid f4
   subst hrr
   clear HR f4 hnum
   go_wp2_with fail
   refine (sees_f rb pb sl n c src k true 44 0 w4 FF.out).mono ?_
   rintro e w5 ⟨rfl, m5, rfl⟩
   rw [sees_bad]
   have FF5 := Lib.hid (FF.out.drewN m5)
   have TT := Lib.hid (touch_drewN (n := m5) T4.out)
   have r3 : (w4.drewN m5).cell? ⟨rb, 3, none⟩ = some (.bool true) := block_cell FF5.out.blk
   clear FF
   have FF := FF5
   go_wp2
   go_ret
   exact NdP.err _ (Mv.of TT.out) (h.at_ TT.out FF.out)
  | ok r =>
   obtain ⟨least, s1⟩ := r
   rw [hnum] at h4 hrr
   obtain ⟨⟨v, rfl, rfl, le0, le1⟩, f4⟩ := h4
   have hg1 := (numR_more _ _ _ _ _ hnum).2
   obtain ⟨a4, gq⟩ := s1
   simp only at hg1 f4
   subst hg1
   have F4 := Lib.hid f4
   have HR4 := Lib.hid hrr
   clear HR f4 hnum hrr
   go_wp2_with fail
   refine (sees_f rb pb sl n c src a4 false 44 0 w4 F4.out).mono ?_
   rintro e w5 ⟨rfl, m5, rfl⟩
   rw [sees_one (by decide)]
   by_cases h44 : pk src a4 0 = 44
   ·
    rw [decide_eq_true h44]
    have hr5 := HR4.out
    rw [if_pos h44] at hr5
    have hlt4 : a4 < n := by
     have hl := h.rd.len
     unfold pk at h44
     split at h44 <;> omega
    have b2 : (w4.drewN m5).cell? ⟨rb, 2, none⟩ = some (.int .i64 a4) := block_cell (F4.out.drewN m5).blk
    have g2 : (w4.drewN m5).frozen? ⟨rb, 2, none⟩ = false := block_free (F4.out.drewN m5).blk
    have p3 : IntKind.i64.wrap ((a4 : Int) + 1) = (a4 : Int) + 1 := by rw [IntKind.wrap_i64]; omega
    have fs := (F4.out.drewN m5).step 1 (by omega)
    have ts := (touch_drewN (n := m5) T4.out).trans (Touch.setCell (fun b => b = rb) (w4.drewN m5) (p := ⟨rb, 2, none⟩) rfl (.int .i64 ((a4 + 1 : Nat) : Int))) (fun x hx => .inl hx)
    have ls : ((w4.drewN m5).setCell ⟨rb, 2, none⟩ (.int .i64 ((a4 + 1 : Nat) : Int))).heap[lb]? = _ := (Below.heap_setCell _ _ _ _ (show lb ≠ rb from by have := LRB.out; omega)).trans L4.out
    rw [show ((a4 + 1 : Nat) : Int) = (a4 : Int) + 1 from by omega] at fs ts ls
    go_upto_region 8 with (fail)
    generalize (w4.drewN m5).setCell ⟨rb, 2, none⟩ (.int .i64 ((a4 : Int) + 1)) = w5 at fs ts ls ⊢
    clear b2 g2 p3 F4 T4 L4 HR4
    go_wp2_with fail
    refine (number_f rb pb sl n c src ⟨a4 + 1, s.groups⟩ w5 fs).mono ?_
    rintro e w6 ⟨t6, h6⟩
    have T6 := Lib.hid (ts.trans t6 (fun y hy => .inl hy))
    have L6 := Lib.hid ((t6.block lb (heap_lt ls) (fun e => by have := LRB.out; omega)).trans ls)
    clear t6 ls ts fs
    cases hnum2 : numP' src ⟨a4 + 1, s.groups⟩ with
    | error k =>
     rw [hnum2] at h6 hr5
     obtain ⟨⟨v, rfl, rfl⟩, f6⟩ := h6
     have FF := Lib.hid f6
     have hr6 : R = .error k := hr5.symm
     subst hr6
     have r3 : w6.cell? ⟨rb, 3, none⟩ = some (.bool true) := block_cell FF.out.blk
     clear f6 hnum2 hr5
     go_wp2
     go_ret
     exact NdP.err _ (Mv.of T6.out) (h.at_ T6.out FF.out)
    | ok r =>
     obtain ⟨most, s2⟩ := r
     rw [hnum2] at h6 hr5
     obtain ⟨⟨v, rfl, rfl, mo0, mo1⟩, f6⟩ := h6
     have hg2 := (numR_more _ _ _ _ _ hnum2).2
     obtain ⟨a6, gq⟩ := s2
     simp only at hg2 f6 hr5
     subst hg2
     have F6 := Lib.hid f6
     have HR6 := Lib.hid hr5
     clear f6 hnum2 hr5
     have r1 : w6.cell? ⟨rb, 1, none⟩ = some (.slice sl n c) := block_cell F6.out.blk
     have r2 : w6.cell? ⟨rb, 2, none⟩ = some (.int .i64 a6) := block_cell F6.out.blk
     have r3 : w6.cell? ⟨rb, 3, none⟩ = some (.bool false) := block_cell F6.out.blk
     have g2 : w6.frozen? ⟨rb, 2, none⟩ = false := block_free F6.out.blk
     have hat5 := F6.out.at'
     have hlen := h.rd.len
     by_cases hlt : a6 < n
     ·
      obtain ⟨gg, off, hgs, c0⟩ := F6.out.src.at (Below.refl _ _) hlt
      have hnx : nx src ⟨a6, s.groups⟩ = .ok (gl src a6, ⟨a6 + 1, s.groups⟩) := if_neg (by rw [hlen]; show ¬ n ≤ a6; omega)
      have hr := HR6.out
      rw [hnx] at hr
      simp only at hr
      obtain ⟨x, hx⟩ : ∃ x, gl src a6 = x := ⟨_, rfl⟩
      rw [hx] at hr c0
      have HRX := Lib.hid hr
      have p1 : ¬ (n : Int) ≤ (a6 : Int) := by omega
      have p2 : (0 : Int) ≤ (a6 : Int) := by omega
      have p3 : IntKind.i64.wrap ((a6 : Int) + 1) = (a6 : Int) + 1 := by rw [IntKind.wrap_i64]; omega
      have p4 : (a6 : Int) < (n : Int) := by omega
      have p5 : decide (n ≤ a6) = false := decide_eq_false (by omega)
      clear hnx hr hx
      by_cases hc : x = 125
      ·
       subst hc
       have q1 : ((125 : Int) != 125) = false := by decide
       by_cases hml : 0 ≤ most ∧ most < least
       ·
        have hr := HRX.out
        rw [if_pos (.inr hml)] at hr
        subst hr
        obtain ⟨e1, e2⟩ := hml
        have d1 : decide (0 ≤ most) = true := decide_eq_true e1
        have d2 : decide (most < least) = true := decide_eq_true e2
        clear HRX HR6
        go_wp2_with fail
        go_quiet (fail)
        go_wp2_with fail
        refine (fail_f rb pb sl n c src a6 a6 (by omega) (w6.drewN nq) (F6.out.drewN nq)).mono ?_
        rintro e w9 ⟨rfl, t9, f9⟩
        have FF := Lib.hid f9
        have TT := Lib.hid ((touch_drewN (n := nq) T6.out).trans t9 (fun y hy => .inl hy))
        clear t9 f9
        go_wp2
        go_ret
        exact NdP.err _ (Mv.of TT.out) (h.at_ TT.out FF.out)
       ·
        have hr := HRX.out
        rw [if_neg (fun e => by rcases e with e | e; exact e rfl; exact hml e)] at hr
        subst hr
        clear HRX HR6
        rcases (show (least < 0 ∧ most < 0) ∨ (0 ≤ least ∧ most < 0) ∨ (least < 0 ∧ 0 ≤ most) ∨ (0 ≤ least ∧ 0 ≤ most ∧ least ≤ most) by omega) with ⟨e1, e2⟩ | ⟨e1, e2⟩ | ⟨e1, e2⟩ | ⟨e1, e2, e3⟩
        ·
         have HMX := Lib.hid (show max least 0 = 0 from by omega)
         have d1 : decide (0 ≤ most) = false := decide_eq_false (by omega)
         go_wp2_with fail
         go_quiet (fail)
         go_upto_region 13 with (fail)
         have hs1 := (F6.out.drewN nq).step 1 (by omega)
         have ec : ((a6 + 1 : Nat) : Int) = (a6 : Int) + 1 := by omega
         have ts1 := (touch_drewN (n := nq) T6.out).trans (Touch.setCell (fun b => b = rb) (w6.drewN nq) (p := ⟨rb, 2, none⟩) rfl (.int .i64 ((a6 + 1 : Nat) : Int))) (fun x hx => .inl hx)
         have ls1 : ((w6.drewN nq).setCell ⟨rb, 2, none⟩ (.int .i64 ((a6 + 1 : Nat) : Int))).heap[lb]? = _ := (Below.heap_setCell _ _ _ _ (show lb ≠ rb from by have := LRB.out; omega)).trans L6.out
         rw [ec] at hs1 ts1 ls1
         go_upto_region 14 with (fail)
         generalize (w6.drewN nq).setCell ⟨rb, 2, none⟩ (.int .i64 ((a6 : Int) + 1)) = w6 at hs1 ts1 ls1 ⊢
         clear r1 r2 r3 g2
         have y2 : w6.cell? ⟨lb, 2, none⟩ = some (.int .i64 0) := block_cell ls1
         have g2 : w6.frozen? ⟨lb, 2, none⟩ = false := block_free ls1
         have ls2 := block_set (i := 2) (.int .i64 (0)) ls1
         have ts2 := touch_below ts1 ((Below.refl w.heap.size w6).setCell (p := ⟨lb, 2, none⟩) (Nat.le_of_eq hlb) (.int .i64 (0)))
         have fs2 := hs1.below LRB.out (fun y hy => slx y hy) ((Below.refl lb w6).setCell (p := ⟨lb, 2, none⟩) (Nat.le_refl _) (.int .i64 (0)))
         go_upto_region 15 with (fail)
         generalize w6.setCell ⟨lb, 2, none⟩ (.int .i64 (0)) = w7 at ls2 ts2 fs2 ⊢
         clear y2 g2
         have y3 : w7.cell? ⟨lb, 3, none⟩ = some (.int .i64 (-1)) := block_cell ls2
         have g3 : w7.frozen? ⟨lb, 3, none⟩ = false := block_free ls2
         have ls3 := block_set (i := 3) (.int .i64 most) ls2
         have ts3 := touch_below ts2 ((Below.refl w.heap.size w7).setCell (p := ⟨lb, 3, none⟩) (Nat.le_of_eq hlb) (.int .i64 most))
         have fs3 := fs2.below LRB.out (fun y hy => slx y hy) ((Below.refl lb w7).setCell (p := ⟨lb, 3, none⟩) (Nat.le_refl _) (.int .i64 most))
         go_upto_region 16 with (fail)
         generalize w7.setCell ⟨lb, 3, none⟩ (.int .i64 most) = w8 at ls3 ts3 fs3 ⊢
         have z0 : w8.cell? ⟨lb, 0, none⟩ = some (.int .i64 6) := block_cell ls3
         have z1 : w8.cell? ⟨lb, 1, none⟩ = some (.int .i64 0) := block_cell ls3
         have z2 : w8.cell? ⟨lb, 2, none⟩ = some (.int .i64 (0)) := block_cell ls3
         have z3 : w8.cell? ⟨lb, 3, none⟩ = some (.int .i64 most) := block_cell ls3
         have z4 : w8.cell? ⟨lb, 4, none⟩ = some (.bool true) := block_cell ls3
         have z5 : w8.cell? ⟨lb, 5, none⟩ = some (.bool false) := block_cell ls3
         have z6 : w8.cell? ⟨lb, 6, none⟩ = some (.slice is im ic) := block_cell ls3
         have z7 : w8.cell? ⟨lb, 7, none⟩ = some (.slice ks km kc) := block_cell ls3
         have T8 := Lib.hid ts3
         have F8 := Lib.hid fs3
         have HND := Lib.hid (node_f w8 lo rb pb sl n c src ig (a6 + 1) false s.groups nv N (h.at_ ts3 fs3) ⟨6, 0, 0, most, true, false, .slice is im ic, .slice ks km kc, [(j : Int)]⟩ ⟨(hx.move (Mv.of ts3)).kv, (hx.move (Mv.of ts3)).it⟩ (by omega))
         clear hs1 ts1 ls1 ls2 ts2 fs2 ls3 ts3 fs3 y3 g3
         go_wp2_with fail
         refine HND.out.mono ?_
         rintro e w9 ⟨rfl, nv', hmv, hr9⟩
         have HMV := Lib.hid ((Mv.of (nv := nv) (pb := pb) T8.out).trans hmv)
         have HR9 := Lib.hid hr9
         clear hmv hr9 HND
         go_wp2
         go_ret
         exact NdP.one HMV.out HR9.out (hKB _ _ _) (by show trN _ _ (Nd.again nd (max least 0) most true); rw [trN]; exact ⟨_, List.getElem?_concat_length, rfl, HMX.out.symm, rfl, j, rfl, trN.more N _ nd j ht⟩) (Nat.le_refl _)
        ·
         have HMX := Lib.hid (show max least 0 = least from by omega)
         have m1 : (if (0 : Int) < least then least else 0) = least := by split <;> omega
         have m2 : (if least < (0 : Int) then 0 else least) = least := by split <;> omega
         have d1 : decide (0 ≤ most) = false := decide_eq_false (by omega)
         go_wp2_with fail
         go_quiet (fail)
         go_upto_region 13 with (fail)
         have hs1 := (F6.out.drewN nq).step 1 (by omega)
         have ec : ((a6 + 1 : Nat) : Int) = (a6 : Int) + 1 := by omega
         have ts1 := (touch_drewN (n := nq) T6.out).trans (Touch.setCell (fun b => b = rb) (w6.drewN nq) (p := ⟨rb, 2, none⟩) rfl (.int .i64 ((a6 + 1 : Nat) : Int))) (fun x hx => .inl hx)
         have ls1 : ((w6.drewN nq).setCell ⟨rb, 2, none⟩ (.int .i64 ((a6 + 1 : Nat) : Int))).heap[lb]? = _ := (Below.heap_setCell _ _ _ _ (show lb ≠ rb from by have := LRB.out; omega)).trans L6.out
         rw [ec] at hs1 ts1 ls1
         go_upto_region 14 with (fail)
         generalize (w6.drewN nq).setCell ⟨rb, 2, none⟩ (.int .i64 ((a6 : Int) + 1)) = w6 at hs1 ts1 ls1 ⊢
         clear r1 r2 r3 g2
         have y2 : w6.cell? ⟨lb, 2, none⟩ = some (.int .i64 0) := block_cell ls1
         have g2 : w6.frozen? ⟨lb, 2, none⟩ = false := block_free ls1
         have ls2 := block_set (i := 2) (.int .i64 (least)) ls1
         have ts2 := touch_below ts1 ((Below.refl w.heap.size w6).setCell (p := ⟨lb, 2, none⟩) (Nat.le_of_eq hlb) (.int .i64 (least)))
         have fs2 := hs1.below LRB.out (fun y hy => slx y hy) ((Below.refl lb w6).setCell (p := ⟨lb, 2, none⟩) (Nat.le_refl _) (.int .i64 (least)))
         go_upto_region 15 with (fail)
         generalize w6.setCell ⟨lb, 2, none⟩ (.int .i64 (least)) = w7 at ls2 ts2 fs2 ⊢
         clear y2 g2
         have y3 : w7.cell? ⟨lb, 3, none⟩ = some (.int .i64 (-1)) := block_cell ls2
         have g3 : w7.frozen? ⟨lb, 3, none⟩ = false := block_free ls2
         have ls3 := block_set (i := 3) (.int .i64 most) ls2
         have ts3 := touch_below ts2 ((Below.refl w.heap.size w7).setCell (p := ⟨lb, 3, none⟩) (Nat.le_of_eq hlb) (.int .i64 most))
         have fs3 := fs2.below LRB.out (fun y hy => slx y hy) ((Below.refl lb w7).setCell (p := ⟨lb, 3, none⟩) (Nat.le_refl _) (.int .i64 most))
         go_upto_region 16 with (fail)
         generalize w7.setCell ⟨lb, 3, none⟩ (.int .i64 most) = w8 at ls3 ts3 fs3 ⊢
         have z0 : w8.cell? ⟨lb, 0, none⟩ = some (.int .i64 6) := block_cell ls3
         have z1 : w8.cell? ⟨lb, 1, none⟩ = some (.int .i64 0) := block_cell ls3
         have z2 : w8.cell? ⟨lb, 2, none⟩ = some (.int .i64 (least)) := block_cell ls3
         have z3 : w8.cell? ⟨lb, 3, none⟩ = some (.int .i64 most) := block_cell ls3
         have z4 : w8.cell? ⟨lb, 4, none⟩ = some (.bool true) := block_cell ls3
         have z5 : w8.cell? ⟨lb, 5, none⟩ = some (.bool false) := block_cell ls3
         have z6 : w8.cell? ⟨lb, 6, none⟩ = some (.slice is im ic) := block_cell ls3
         have z7 : w8.cell? ⟨lb, 7, none⟩ = some (.slice ks km kc) := block_cell ls3
         have T8 := Lib.hid ts3
         have F8 := Lib.hid fs3
         have HND := Lib.hid (node_f w8 lo rb pb sl n c src ig (a6 + 1) false s.groups nv N (h.at_ ts3 fs3) ⟨6, 0, least, most, true, false, .slice is im ic, .slice ks km kc, [(j : Int)]⟩ ⟨(hx.move (Mv.of ts3)).kv, (hx.move (Mv.of ts3)).it⟩ (by omega))
         clear hs1 ts1 ls1 ls2 ts2 fs2 ls3 ts3 fs3 y3 g3
         go_wp2_with fail
         refine HND.out.mono ?_
         rintro e w9 ⟨rfl, nv', hmv, hr9⟩
         have HMV := Lib.hid ((Mv.of (nv := nv) (pb := pb) T8.out).trans hmv)
         have HR9 := Lib.hid hr9
         clear hmv hr9 HND
         go_wp2
         go_ret
         exact NdP.one HMV.out HR9.out (hKB _ _ _) (by show trN _ _ (Nd.again nd (max least 0) most true); rw [trN]; exact ⟨_, List.getElem?_concat_length, rfl, HMX.out.symm, rfl, j, rfl, trN.more N _ nd j ht⟩) (Nat.le_refl _)
        ·
         have HMX := Lib.hid (show max least 0 = 0 from by omega)
         have d1 : decide (0 ≤ most) = true := decide_eq_true (by omega)
         have d2 : decide (most < least) = false := decide_eq_false (by omega)
         go_wp2_with fail
         go_quiet (fail)
         go_upto_region 13 with (fail)
         have hs1 := (F6.out.drewN nq).step 1 (by omega)
         have ec : ((a6 + 1 : Nat) : Int) = (a6 : Int) + 1 := by omega
         have ts1 := (touch_drewN (n := nq) T6.out).trans (Touch.setCell (fun b => b = rb) (w6.drewN nq) (p := ⟨rb, 2, none⟩) rfl (.int .i64 ((a6 + 1 : Nat) : Int))) (fun x hx => .inl hx)
         have ls1 : ((w6.drewN nq).setCell ⟨rb, 2, none⟩ (.int .i64 ((a6 + 1 : Nat) : Int))).heap[lb]? = _ := (Below.heap_setCell _ _ _ _ (show lb ≠ rb from by have := LRB.out; omega)).trans L6.out
         rw [ec] at hs1 ts1 ls1
         go_upto_region 14 with (fail)
         generalize (w6.drewN nq).setCell ⟨rb, 2, none⟩ (.int .i64 ((a6 : Int) + 1)) = w6 at hs1 ts1 ls1 ⊢
         clear r1 r2 r3 g2
         have y2 : w6.cell? ⟨lb, 2, none⟩ = some (.int .i64 0) := block_cell ls1
         have g2 : w6.frozen? ⟨lb, 2, none⟩ = false := block_free ls1
         have ls2 := block_set (i := 2) (.int .i64 (0)) ls1
         have ts2 := touch_below ts1 ((Below.refl w.heap.size w6).setCell (p := ⟨lb, 2, none⟩) (Nat.le_of_eq hlb) (.int .i64 (0)))
         have fs2 := hs1.below LRB.out (fun y hy => slx y hy) ((Below.refl lb w6).setCell (p := ⟨lb, 2, none⟩) (Nat.le_refl _) (.int .i64 (0)))
         go_upto_region 15 with (fail)
         generalize w6.setCell ⟨lb, 2, none⟩ (.int .i64 (0)) = w7 at ls2 ts2 fs2 ⊢
         clear y2 g2
         have y3 : w7.cell? ⟨lb, 3, none⟩ = some (.int .i64 (-1)) := block_cell ls2
         have g3 : w7.frozen? ⟨lb, 3, none⟩ = false := block_free ls2
         have ls3 := block_set (i := 3) (.int .i64 most) ls2
         have ts3 := touch_below ts2 ((Below.refl w.heap.size w7).setCell (p := ⟨lb, 3, none⟩) (Nat.le_of_eq hlb) (.int .i64 most))
         have fs3 := fs2.below LRB.out (fun y hy => slx y hy) ((Below.refl lb w7).setCell (p := ⟨lb, 3, none⟩) (Nat.le_refl _) (.int .i64 most))
         go_upto_region 16 with (fail)
         generalize w7.setCell ⟨lb, 3, none⟩ (.int .i64 most) = w8 at ls3 ts3 fs3 ⊢
         have z0 : w8.cell? ⟨lb, 0, none⟩ = some (.int .i64 6) := block_cell ls3
         have z1 : w8.cell? ⟨lb, 1, none⟩ = some (.int .i64 0) := block_cell ls3
         have z2 : w8.cell? ⟨lb, 2, none⟩ = some (.int .i64 (0)) := block_cell ls3
         have z3 : w8.cell? ⟨lb, 3, none⟩ = some (.int .i64 most) := block_cell ls3
         have z4 : w8.cell? ⟨lb, 4, none⟩ = some (.bool true) := block_cell ls3
         have z5 : w8.cell? ⟨lb, 5, none⟩ = some (.bool false) := block_cell ls3
         have z6 : w8.cell? ⟨lb, 6, none⟩ = some (.slice is im ic) := block_cell ls3
         have z7 : w8.cell? ⟨lb, 7, none⟩ = some (.slice ks km kc) := block_cell ls3
         have T8 := Lib.hid ts3
         have F8 := Lib.hid fs3
         have HND := Lib.hid (node_f w8 lo rb pb sl n c src ig (a6 + 1) false s.groups nv N (h.at_ ts3 fs3) ⟨6, 0, 0, most, true, false, .slice is im ic, .slice ks km kc, [(j : Int)]⟩ ⟨(hx.move (Mv.of ts3)).kv, (hx.move (Mv.of ts3)).it⟩ (by omega))
         clear hs1 ts1 ls1 ls2 ts2 fs2 ls3 ts3 fs3 y3 g3
         go_wp2_with fail
         refine HND.out.mono ?_
         rintro e w9 ⟨rfl, nv', hmv, hr9⟩
         have HMV := Lib.hid ((Mv.of (nv := nv) (pb := pb) T8.out).trans hmv)
         have HR9 := Lib.hid hr9
         clear hmv hr9 HND
         go_wp2
         go_ret
         exact NdP.one HMV.out HR9.out (hKB _ _ _) (by show trN _ _ (Nd.again nd (max least 0) most true); rw [trN]; exact ⟨_, List.getElem?_concat_length, rfl, HMX.out.symm, rfl, j, rfl, trN.more N _ nd j ht⟩) (Nat.le_refl _)
        ·
         have HMX := Lib.hid (show max least 0 = least from by omega)
         have m1 : (if (0 : Int) < least then least else 0) = least := by split <;> omega
         have m2 : (if least < (0 : Int) then 0 else least) = least := by split <;> omega
         have d1 : decide (0 ≤ most) = true := decide_eq_true (by omega)
         have d2 : decide (most < least) = false := decide_eq_false (by omega)
         go_wp2_with fail
         go_quiet (fail)
         go_upto_region 13 with (fail)
         have hs1 := (F6.out.drewN nq).step 1 (by omega)
         have ec : ((a6 + 1 : Nat) : Int) = (a6 : Int) + 1 := by omega
         have ts1 := (touch_drewN (n := nq) T6.out).trans (Touch.setCell (fun b => b = rb) (w6.drewN nq) (p := ⟨rb, 2, none⟩) rfl (.int .i64 ((a6 + 1 : Nat) : Int))) (fun x hx => .inl hx)
         have ls1 : ((w6.drewN nq).setCell ⟨rb, 2, none⟩ (.int .i64 ((a6 + 1 : Nat) : Int))).heap[lb]? = _ := (Below.heap_setCell _ _ _ _ (show lb ≠ rb from by have := LRB.out; omega)).trans L6.out
         rw [ec] at hs1 ts1 ls1
         go_upto_region 14 with (fail)
         generalize (w6.drewN nq).setCell ⟨rb, 2, none⟩ (.int .i64 ((a6 : Int) + 1)) = w6 at hs1 ts1 ls1 ⊢
         clear r1 r2 r3 g2
         have y2 : w6.cell? ⟨lb, 2, none⟩ = some (.int .i64 0) := block_cell ls1
         have g2 : w6.frozen? ⟨lb, 2, none⟩ = false := block_free ls1
         have ls2 := block_set (i := 2) (.int .i64 (least)) ls1
         have ts2 := touch_below ts1 ((Below.refl w.heap.size w6).setCell (p := ⟨lb, 2, none⟩) (Nat.le_of_eq hlb) (.int .i64 (least)))
         have fs2 := hs1.below LRB.out (fun y hy => slx y hy) ((Below.refl lb w6).setCell (p := ⟨lb, 2, none⟩) (Nat.le_refl _) (.int .i64 (least)))
         go_upto_region 15 with (fail)
         generalize w6.setCell ⟨lb, 2, none⟩ (.int .i64 (least)) = w7 at ls2 ts2 fs2 ⊢
         clear y2 g2
         have y3 : w7.cell? ⟨lb, 3, none⟩ = some (.int .i64 (-1)) := block_cell ls2
         have g3 : w7.frozen? ⟨lb, 3, none⟩ = false := block_free ls2
         have ls3 := block_set (i := 3) (.int .i64 most) ls2
         have ts3 := touch_below ts2 ((Below.refl w.heap.size w7).setCell (p := ⟨lb, 3, none⟩) (Nat.le_of_eq hlb) (.int .i64 most))
         have fs3 := fs2.below LRB.out (fun y hy => slx y hy) ((Below.refl lb w7).setCell (p := ⟨lb, 3, none⟩) (Nat.le_refl _) (.int .i64 most))
         go_upto_region 16 with (fail)
         generalize w7.setCell ⟨lb, 3, none⟩ (.int .i64 most) = w8 at ls3 ts3 fs3 ⊢
         have z0 : w8.cell? ⟨lb, 0, none⟩ = some (.int .i64 6) := block_cell ls3
         have z1 : w8.cell? ⟨lb, 1, none⟩ = some (.int .i64 0) := block_cell ls3
         have z2 : w8.cell? ⟨lb, 2, none⟩ = some (.int .i64 (least)) := block_cell ls3
         have z3 : w8.cell? ⟨lb, 3, none⟩ = some (.int .i64 most) := block_cell ls3
         have z4 : w8.cell? ⟨lb, 4, none⟩ = some (.bool true) := block_cell ls3
         have z5 : w8.cell? ⟨lb, 5, none⟩ = some (.bool false) := block_cell ls3
         have z6 : w8.cell? ⟨lb, 6, none⟩ = some (.slice is im ic) := block_cell ls3
         have z7 : w8.cell? ⟨lb, 7, none⟩ = some (.slice ks km kc) := block_cell ls3
         have T8 := Lib.hid ts3
         have F8 := Lib.hid fs3
         have HND := Lib.hid (node_f w8 lo rb pb sl n c src ig (a6 + 1) false s.groups nv N (h.at_ ts3 fs3) ⟨6, 0, least, most, true, false, .slice is im ic, .slice ks km kc, [(j : Int)]⟩ ⟨(hx.move (Mv.of ts3)).kv, (hx.move (Mv.of ts3)).it⟩ (by omega))
         clear hs1 ts1 ls1 ls2 ts2 fs2 ls3 ts3 fs3 y3 g3
         go_wp2_with fail
         refine HND.out.mono ?_
         rintro e w9 ⟨rfl, nv', hmv, hr9⟩
         have HMV := Lib.hid ((Mv.of (nv := nv) (pb := pb) T8.out).trans hmv)
         have HR9 := Lib.hid hr9
         clear hmv hr9 HND
         go_wp2
         go_ret
         exact NdP.one HMV.out HR9.out (hKB _ _ _) (by show trN _ _ (Nd.again nd (max least 0) most true); rw [trN]; exact ⟨_, List.getElem?_concat_length, rfl, HMX.out.symm, rfl, j, rfl, trN.more N _ nd j ht⟩) (Nat.le_refl _)
      ·
       have hr := HRX.out
       rw [if_pos (.inl hc)] at hr
       subst hr
       have q1 : (x != 125) = true := by simp [hc]
       have q2 : (x == 125) = false := by simp [hc]
       clear HRX HR6
       go_wp2_with fail
       go_quiet (fail)
       go_wp2_with fail
       refine (fail_f rb pb sl n c src a6 a6 (by omega) (w6.drewN nq) (F6.out.drewN nq)).mono ?_
       rintro e w9 ⟨rfl, t9, f9⟩
       have FF := Lib.hid f9
       have TT := Lib.hid ((touch_drewN (n := nq) T6.out).trans t9 (fun y hy => .inl hy))
       clear t9 f9
       go_wp2
       go_ret
       exact NdP.err _ (Mv.of TT.out) (h.at_ TT.out FF.out)
     ·
      have hnx : nx src ⟨a6, s.groups⟩ = .error src.length := if_pos (by rw [hlen]; show n ≤ a6; omega)
      have hr := HR6.out
      rw [hnx] at hr
      have hr2 : R = .error a6 := by rw [← hr]; exact congrArg Except.error (show src.length = a6 by omega)
      subst hr2
      have p1 : (n : Int) ≤ (a6 : Int) := by omega
      clear hr hnx HR6
      go_wp2_with fail
      go_quiet (fail)
      go_wp2_with fail
      refine (fail_f rb pb sl n c src a6 a6 (by omega) (w6.drewN nq) (F6.out.drewN nq)).mono ?_
      rintro e w9 ⟨rfl, t9, f9⟩
      have FF := Lib.hid f9
      have TT := Lib.hid ((touch_drewN (n := nq) T6.out).trans t9 (fun y hy => .inl hy))
      clear t9 f9
      go_wp2
      go_ret
      exact NdP.err _ (Mv.of TT.out) (h.at_ TT.out FF.out)
   ·
    rw [decide_eq_false h44]
    have hr5 := HR4.out
    rw [if_neg h44] at hr5
    simp only at hr5
    have HR5 := Lib.hid hr5
    have F5 := Lib.hid (F4.out.drewN m5)
    have T5 := Lib.hid (touch_drewN (n := m5) T4.out)
    have L5 := Lib.hid (show (w4.drewN m5).heap[lb]? = _ from L4.out)
    generalize w4.drewN m5 = w5 at F5 T5 L5 ⊢
    clear hr5 HR4 F4 T4 L4
    have r1 : w5.cell? ⟨rb, 1, none⟩ = some (.slice sl n c) := block_cell F5.out.blk
    have r2 : w5.cell? ⟨rb, 2, none⟩ = some (.int .i64 a4) := block_cell F5.out.blk
    have r3 : w5.cell? ⟨rb, 3, none⟩ = some (.bool false) := block_cell F5.out.blk
    have g2 : w5.frozen? ⟨rb, 2, none⟩ = false := block_free F5.out.blk
    have hat5 := F5.out.at'
    have hlen := h.rd.len
    by_cases hlt : a4 < n
    ·
     obtain ⟨gg, off, hgs, c0⟩ := F5.out.src.at (Below.refl _ _) hlt
     have hnx : nx src ⟨a4, s.groups⟩ = .ok (gl src a4, ⟨a4 + 1, s.groups⟩) := if_neg (by rw [hlen]; show ¬ n ≤ a4; omega)
     have hr := HR5.out
     rw [hnx] at hr
     simp only at hr
     obtain ⟨x, hx⟩ : ∃ x, gl src a4 = x := ⟨_, rfl⟩
     rw [hx] at hr c0
     have HRX := Lib.hid hr
     have p1 : ¬ (n : Int) ≤ (a4 : Int) := by omega
     have p2 : (0 : Int) ≤ (a4 : Int) := by omega
     have p3 : IntKind.i64.wrap ((a4 : Int) + 1) = (a4 : Int) + 1 := by rw [IntKind.wrap_i64]; omega
     have p4 : (a4 : Int) < (n : Int) := by omega
     have p5 : decide (n ≤ a4) = false := decide_eq_false (by omega)
     clear hnx hr hx
     by_cases hc : x = 125
     ·
      subst hc
      have q1 : ((125 : Int) != 125) = false := by decide
      by_cases hml : 0 ≤ least ∧ least < least
      · omega
      ·
       have hr := HRX.out
       rw [if_neg (fun e => by rcases e with e | e; exact e rfl; exact hml e)] at hr
       subst hr
       clear HRX HR5
       rcases (show least < 0 ∨ 0 ≤ least by omega) with e1 | e1
       ·
        have HMX := Lib.hid (show max least 0 = 0 from by omega)
        have d1 : decide (0 ≤ least) = false := decide_eq_false (by omega)
        go_wp2_with fail
        go_quiet (fail)
        go_upto_region 13 with (fail)
        have hs1 := (F5.out.drewN nq).step 1 (by omega)
        have ec : ((a4 + 1 : Nat) : Int) = (a4 : Int) + 1 := by omega
        have ts1 := (touch_drewN (n := nq) T5.out).trans (Touch.setCell (fun b => b = rb) (w5.drewN nq) (p := ⟨rb, 2, none⟩) rfl (.int .i64 ((a4 + 1 : Nat) : Int))) (fun x hx => .inl hx)
        have ls1 : ((w5.drewN nq).setCell ⟨rb, 2, none⟩ (.int .i64 ((a4 + 1 : Nat) : Int))).heap[lb]? = _ := (Below.heap_setCell _ _ _ _ (show lb ≠ rb from by have := LRB.out; omega)).trans L5.out
        rw [ec] at hs1 ts1 ls1
        go_upto_region 14 with (fail)
        generalize (w5.drewN nq).setCell ⟨rb, 2, none⟩ (.int .i64 ((a4 : Int) + 1)) = w6 at hs1 ts1 ls1 ⊢
        clear r1 r2 r3 g2
        have y2 : w6.cell? ⟨lb, 2, none⟩ = some (.int .i64 0) := block_cell ls1
        have g2 : w6.frozen? ⟨lb, 2, none⟩ = false := block_free ls1
        have ls2 := block_set (i := 2) (.int .i64 (0)) ls1
        have ts2 := touch_below ts1 ((Below.refl w.heap.size w6).setCell (p := ⟨lb, 2, none⟩) (Nat.le_of_eq hlb) (.int .i64 (0)))
        have fs2 := hs1.below LRB.out (fun y hy => slx y hy) ((Below.refl lb w6).setCell (p := ⟨lb, 2, none⟩) (Nat.le_refl _) (.int .i64 (0)))
        go_upto_region 15 with (fail)
        generalize w6.setCell ⟨lb, 2, none⟩ (.int .i64 (0)) = w7 at ls2 ts2 fs2 ⊢
        clear y2 g2
        have y3 : w7.cell? ⟨lb, 3, none⟩ = some (.int .i64 (-1)) := block_cell ls2
        have g3 : w7.frozen? ⟨lb, 3, none⟩ = false := block_free ls2
        have ls3 := block_set (i := 3) (.int .i64 least) ls2
        have ts3 := touch_below ts2 ((Below.refl w.heap.size w7).setCell (p := ⟨lb, 3, none⟩) (Nat.le_of_eq hlb) (.int .i64 least))
        have fs3 := fs2.below LRB.out (fun y hy => slx y hy) ((Below.refl lb w7).setCell (p := ⟨lb, 3, none⟩) (Nat.le_refl _) (.int .i64 least))
        go_upto_region 16 with (fail)
        generalize w7.setCell ⟨lb, 3, none⟩ (.int .i64 least) = w8 at ls3 ts3 fs3 ⊢
        have z0 : w8.cell? ⟨lb, 0, none⟩ = some (.int .i64 6) := block_cell ls3
        have z1 : w8.cell? ⟨lb, 1, none⟩ = some (.int .i64 0) := block_cell ls3
        have z2 : w8.cell? ⟨lb, 2, none⟩ = some (.int .i64 (0)) := block_cell ls3
        have z3 : w8.cell? ⟨lb, 3, none⟩ = some (.int .i64 least) := block_cell ls3
        have z4 : w8.cell? ⟨lb, 4, none⟩ = some (.bool true) := block_cell ls3
        have z5 : w8.cell? ⟨lb, 5, none⟩ = some (.bool false) := block_cell ls3
        have z6 : w8.cell? ⟨lb, 6, none⟩ = some (.slice is im ic) := block_cell ls3
        have z7 : w8.cell? ⟨lb, 7, none⟩ = some (.slice ks km kc) := block_cell ls3
        have T8 := Lib.hid ts3
        have F8 := Lib.hid fs3
        have HND := Lib.hid (node_f w8 lo rb pb sl n c src ig (a4 + 1) false s.groups nv N (h.at_ ts3 fs3) ⟨6, 0, 0, least, true, false, .slice is im ic, .slice ks km kc, [(j : Int)]⟩ ⟨(hx.move (Mv.of ts3)).kv, (hx.move (Mv.of ts3)).it⟩ (by omega))
        clear hs1 ts1 ls1 ls2 ts2 fs2 ls3 ts3 fs3 y3 g3
        go_wp2_with fail
        refine HND.out.mono ?_
        rintro e w9 ⟨rfl, nv', hmv, hr9⟩
        have HMV := Lib.hid ((Mv.of (nv := nv) (pb := pb) T8.out).trans hmv)
        have HR9 := Lib.hid hr9
        clear hmv hr9 HND
        go_wp2
        go_ret
        exact NdP.one HMV.out HR9.out (hKB _ _ _) (by show trN _ _ (Nd.again nd (max least 0) least true); rw [trN]; exact ⟨_, List.getElem?_concat_length, rfl, HMX.out.symm, rfl, j, rfl, trN.more N _ nd j ht⟩) (Nat.le_refl _)
       ·
        have HMX := Lib.hid (show max least 0 = least from by omega)
        have m1 : (if (0 : Int) < least then least else 0) = least := by split <;> omega
        have m2 : (if least < (0 : Int) then 0 else least) = least := by split <;> omega
        have d1 : decide (0 ≤ least) = true := decide_eq_true (by omega)
        have d2 : decide (least < least) = false := decide_eq_false (by omega)
        go_wp2_with fail
        go_quiet (fail)
        go_upto_region 13 with (fail)
        have hs1 := (F5.out.drewN nq).step 1 (by omega)
        have ec : ((a4 + 1 : Nat) : Int) = (a4 : Int) + 1 := by omega
        have ts1 := (touch_drewN (n := nq) T5.out).trans (Touch.setCell (fun b => b = rb) (w5.drewN nq) (p := ⟨rb, 2, none⟩) rfl (.int .i64 ((a4 + 1 : Nat) : Int))) (fun x hx => .inl hx)
        have ls1 : ((w5.drewN nq).setCell ⟨rb, 2, none⟩ (.int .i64 ((a4 + 1 : Nat) : Int))).heap[lb]? = _ := (Below.heap_setCell _ _ _ _ (show lb ≠ rb from by have := LRB.out; omega)).trans L5.out
        rw [ec] at hs1 ts1 ls1
        go_upto_region 14 with (fail)
        generalize (w5.drewN nq).setCell ⟨rb, 2, none⟩ (.int .i64 ((a4 : Int) + 1)) = w6 at hs1 ts1 ls1 ⊢
        clear r1 r2 r3 g2
        have y2 : w6.cell? ⟨lb, 2, none⟩ = some (.int .i64 0) := block_cell ls1
        have g2 : w6.frozen? ⟨lb, 2, none⟩ = false := block_free ls1
        have ls2 := block_set (i := 2) (.int .i64 (least)) ls1
        have ts2 := touch_below ts1 ((Below.refl w.heap.size w6).setCell (p := ⟨lb, 2, none⟩) (Nat.le_of_eq hlb) (.int .i64 (least)))
        have fs2 := hs1.below LRB.out (fun y hy => slx y hy) ((Below.refl lb w6).setCell (p := ⟨lb, 2, none⟩) (Nat.le_refl _) (.int .i64 (least)))
        go_upto_region 15 with (fail)
        generalize w6.setCell ⟨lb, 2, none⟩ (.int .i64 (least)) = w7 at ls2 ts2 fs2 ⊢
        clear y2 g2
        have y3 : w7.cell? ⟨lb, 3, none⟩ = some (.int .i64 (-1)) := block_cell ls2
        have g3 : w7.frozen? ⟨lb, 3, none⟩ = false := block_free ls2
        have ls3 := block_set (i := 3) (.int .i64 least) ls2
        have ts3 := touch_below ts2 ((Below.refl w.heap.size w7).setCell (p := ⟨lb, 3, none⟩) (Nat.le_of_eq hlb) (.int .i64 least))
        have fs3 := fs2.below LRB.out (fun y hy => slx y hy) ((Below.refl lb w7).setCell (p := ⟨lb, 3, none⟩) (Nat.le_refl _) (.int .i64 least))
        go_upto_region 16 with (fail)
        generalize w7.setCell ⟨lb, 3, none⟩ (.int .i64 least) = w8 at ls3 ts3 fs3 ⊢
        have z0 : w8.cell? ⟨lb, 0, none⟩ = some (.int .i64 6) := block_cell ls3
        have z1 : w8.cell? ⟨lb, 1, none⟩ = some (.int .i64 0) := block_cell ls3
        have z2 : w8.cell? ⟨lb, 2, none⟩ = some (.int .i64 (least)) := block_cell ls3
        have z3 : w8.cell? ⟨lb, 3, none⟩ = some (.int .i64 least) := block_cell ls3
        have z4 : w8.cell? ⟨lb, 4, none⟩ = some (.bool true) := block_cell ls3
        have z5 : w8.cell? ⟨lb, 5, none⟩ = some (.bool false) := block_cell ls3
        have z6 : w8.cell? ⟨lb, 6, none⟩ = some (.slice is im ic) := block_cell ls3
        have z7 : w8.cell? ⟨lb, 7, none⟩ = some (.slice ks km kc) := block_cell ls3
        have T8 := Lib.hid ts3
        have F8 := Lib.hid fs3
        have HND := Lib.hid (node_f w8 lo rb pb sl n c src ig (a4 + 1) false s.groups nv N (h.at_ ts3 fs3) ⟨6, 0, least, least, true, false, .slice is im ic, .slice ks km kc, [(j : Int)]⟩ ⟨(hx.move (Mv.of ts3)).kv, (hx.move (Mv.of ts3)).it⟩ (by omega))
        clear hs1 ts1 ls1 ls2 ts2 fs2 ls3 ts3 fs3 y3 g3
        go_wp2_with fail
        refine HND.out.mono ?_
        rintro e w9 ⟨rfl, nv', hmv, hr9⟩
        have HMV := Lib.hid ((Mv.of (nv := nv) (pb := pb) T8.out).trans hmv)
        have HR9 := Lib.hid hr9
        clear hmv hr9 HND
        go_wp2
        go_ret
        exact NdP.one HMV.out HR9.out (hKB _ _ _) (by show trN _ _ (Nd.again nd (max least 0) least true); rw [trN]; exact ⟨_, List.getElem?_concat_length, rfl, HMX.out.symm, rfl, j, rfl, trN.more N _ nd j ht⟩) (Nat.le_refl _)
     ·
      have hr := HRX.out
      rw [if_pos (.inl hc)] at hr
      subst hr
      have q1 : (x != 125) = true := by simp [hc]
      have q2 : (x == 125) = false := by simp [hc]
      clear HRX HR5
      go_wp2_with fail
      go_quiet (fail)
      go_wp2_with fail
      refine (fail_f rb pb sl n c src a4 a4 (by omega) (w5.drewN nq) (F5.out.drewN nq)).mono ?_
      rintro e w9 ⟨rfl, t9, f9⟩
      have FF := Lib.hid f9
      have TT := Lib.hid ((touch_drewN (n := nq) T5.out).trans t9 (fun y hy => .inl hy))
      clear t9 f9
      go_wp2
      go_ret
      exact NdP.err _ (Mv.of TT.out) (h.at_ TT.out FF.out)
    ·
     have hnx : nx src ⟨a4, s.groups⟩ = .error src.length := if_pos (by rw [hlen]; show n ≤ a4; omega)
     have hr := HR5.out
     rw [hnx] at hr
     have hr2 : R = .error a4 := by rw [← hr]; exact congrArg Except.error (show src.length = a4 by omega)
     subst hr2
     have p1 : (n : Int) ≤ (a4 : Int) := by omega
     clear hr hnx HR5
     go_wp2_with fail
     go_quiet (fail)
     go_wp2_with fail
     refine (fail_f rb pb sl n c src a4 a4 (by omega) (w5.drewN nq) (F5.out.drewN nq)).mono ?_
     rintro e w9 ⟨rfl, t9, f9⟩
     have FF := Lib.hid f9
     have TT := Lib.hid ((touch_drewN (n := nq) T5.out).trans t9 (fun y hy => .inl hy))
     clear t9 f9
     go_wp2
     go_ret
     exact NdP.err _ (Mv.of TT.out) (h.at_ TT.out FF.out)
 ·
  rw [decide_eq_false h45]
  have hr := HRa.out
  rw [decide_eq_false h45] at hr
  simp only [Bool.false_eq_true, if_false] at hr
  have HR := Lib.hid (show (match numP' src ⟨a, s.groups⟩ with
   | .error e => .error e
   | .ok (least, s1) =>
    match (if pk src s1.at' 0 = 44 then numP' src { s1 with at' := s1.at' + 1 } else .ok (least, s1)) with
    | .error e => .error e
    | .ok (most, s2) => match nx src s2 with
     | .error e => .error e
     | .ok (c, s3) => if c ≠ 125 ∨ (0 ≤ most ∧ most < least) then .error (s3.at' - 1) else .ok (.again nd (max least 0) most false, s3)) = R from by rw [← ha]; exact hr)
  have F3 := Lib.hid (F1.out.drewN m2)
  have T3 := Lib.hid (touch_drewN (n := m2) T1.out)
  have L3 := Lib.hid (show (w1.drewN m2).heap[lb]? = _ from L1.out)
  generalize w1.drewN m2 = w3 at F3 T3 L3 ⊢
  clear hw1 F1 T1 L1 HRa hr
  go_wp2_with fail
  refine (number_f rb pb sl n c src ⟨a, s.groups⟩ w3 F3.out).mono ?_
  rintro e w4 ⟨t4, h4⟩
  have T4 := Lib.hid (T3.out.trans t4 (fun y hy => .inl hy))
  have l4 := (t4.block lb (heap_lt L3.out) (fun e => by have := LRB.out; omega)).trans L3.out
  have L4 := Lib.hid l4
  have hrr := HR.out
  clear t4 l4 L3
  cases hnum : numP' src ⟨a, s.groups⟩ with
  | error k =>
   rw [hnum] at h4 hrr
   obtain ⟨⟨v, rfl, rfl⟩, f4⟩ := h4
   have FF := Lib.hid f4
   subst hrr
   clear HR f4 hnum
   go_wp2_with fail
   refine (sees_f rb pb sl n c src k true 44 0 w4 FF.out).mono ?_
   rintro e w5 ⟨rfl, m5, rfl⟩
   rw [sees_bad]
   have FF5 := Lib.hid (FF.out.drewN m5)
   have TT := Lib.hid (touch_drewN (n := m5) T4.out)
   have r3 : (w4.drewN m5).cell? ⟨rb, 3, none⟩ = some (.bool true) := block_cell FF5.out.blk
   clear FF
   have FF := FF5
   go_wp2
   go_ret
   exact NdP.err _ (Mv.of TT.out) (h.at_ TT.out FF.out)
  | ok r =>
   obtain ⟨least, s1⟩ := r
   rw [hnum] at h4 hrr
   obtain ⟨⟨v, rfl, rfl, le0, le1⟩, f4⟩ := h4
   have hg1 := (numR_more _ _ _ _ _ hnum).2
   obtain ⟨a4, gq⟩ := s1
   simp only at hg1 f4
   subst hg1
   have F4 := Lib.hid f4
   have HR4 := Lib.hid hrr
   clear HR f4 hnum hrr
   go_wp2_with fail
   refine (sees_f rb pb sl n c src a4 false 44 0 w4 F4.out).mono ?_
   rintro e w5 ⟨rfl, m5, rfl⟩
   rw [sees_one (by decide)]
   by_cases h44 : pk src a4 0 = 44
   ·
    rw [decide_eq_true h44]
    have hr5 := HR4.out
    rw [if_pos h44] at hr5
    have hlt4 : a4 < n := by
     have hl := h.rd.len
     unfold pk at h44
     split at h44 <;> omega
    have b2 : (w4.drewN m5).cell? ⟨rb, 2, none⟩ = some (.int .i64 a4) := block_cell (F4.out.drewN m5).blk
    have g2 : (w4.drewN m5).frozen? ⟨rb, 2, none⟩ = false := block_free (F4.out.drewN m5).blk
    have p3 : IntKind.i64.wrap ((a4 : Int) + 1) = (a4 : Int) + 1 := by rw [IntKind.wrap_i64]; omega
    have fs := (F4.out.drewN m5).step 1 (by omega)
    have ts := (touch_drewN (n := m5) T4.out).trans (Touch.setCell (fun b => b = rb) (w4.drewN m5) (p := ⟨rb, 2, none⟩) rfl (.int .i64 ((a4 + 1 : Nat) : Int))) (fun x hx => .inl hx)
    have ls : ((w4.drewN m5).setCell ⟨rb, 2, none⟩ (.int .i64 ((a4 + 1 : Nat) : Int))).heap[lb]? = _ := (Below.heap_setCell _ _ _ _ (show lb ≠ rb from by have := LRB.out; omega)).trans L4.out
    rw [show ((a4 + 1 : Nat) : Int) = (a4 : Int) + 1 from by omega] at fs ts ls
    go_upto_region 8 with (fail)
    generalize (w4.drewN m5).setCell ⟨rb, 2, none⟩ (.int .i64 ((a4 : Int) + 1)) = w5 at fs ts ls ⊢
    clear b2 g2 p3 F4 T4 L4 HR4
    go_wp2_with fail
    refine (number_f rb pb sl n c src ⟨a4 + 1, s.groups⟩ w5 fs).mono ?_
    rintro e w6 ⟨t6, h6⟩
    have T6 := Lib.hid (ts.trans t6 (fun y hy => .inl hy))
    have L6 := Lib.hid ((t6.block lb (heap_lt ls) (fun e => by have := LRB.out; omega)).trans ls)
    clear t6 ls ts fs
    cases hnum2 : numP' src ⟨a4 + 1, s.groups⟩ with
    | error k =>
     rw [hnum2] at h6 hr5
     obtain ⟨⟨v, rfl, rfl⟩, f6⟩ := h6
     have FF := Lib.hid f6
     have hr6 : R = .error k := hr5.symm
     subst hr6
     have r3 : w6.cell? ⟨rb, 3, none⟩ = some (.bool true) := block_cell FF.out.blk
     clear f6 hnum2 hr5
     go_wp2
     go_ret
     exact NdP.err _ (Mv.of T6.out) (h.at_ T6.out FF.out)
    | ok r =>
     obtain ⟨most, s2⟩ := r
     rw [hnum2] at h6 hr5
     obtain ⟨⟨v, rfl, rfl, mo0, mo1⟩, f6⟩ := h6
     have hg2 := (numR_more _ _ _ _ _ hnum2).2
     obtain ⟨a6, gq⟩ := s2
     simp only at hg2 f6 hr5
     subst hg2
     have F6 := Lib.hid f6
     have HR6 := Lib.hid hr5
     clear f6 hnum2 hr5
     have r1 : w6.cell? ⟨rb, 1, none⟩ = some (.slice sl n c) := block_cell F6.out.blk
     have r2 : w6.cell? ⟨rb, 2, none⟩ = some (.int .i64 a6) := block_cell F6.out.blk
     have r3 : w6.cell? ⟨rb, 3, none⟩ = some (.bool false) := block_cell F6.out.blk
     have g2 : w6.frozen? ⟨rb, 2, none⟩ = false := block_free F6.out.blk
     have hat5 := F6.out.at'
     have hlen := h.rd.len
     by_cases hlt : a6 < n
     ·
      obtain ⟨gg, off, hgs, c0⟩ := F6.out.src.at (Below.refl _ _) hlt
      have hnx : nx src ⟨a6, s.groups⟩ = .ok (gl src a6, ⟨a6 + 1, s.groups⟩) := if_neg (by rw [hlen]; show ¬ n ≤ a6; omega)
      have hr := HR6.out
      rw [hnx] at hr
      simp only at hr
      obtain ⟨x, hx⟩ : ∃ x, gl src a6 = x := ⟨_, rfl⟩
      rw [hx] at hr c0
      have HRX := Lib.hid hr
      have p1 : ¬ (n : Int) ≤ (a6 : Int) := by omega
      have p2 : (0 : Int) ≤ (a6 : Int) := by omega
      have p3 : IntKind.i64.wrap ((a6 : Int) + 1) = (a6 : Int) + 1 := by rw [IntKind.wrap_i64]; omega
      have p4 : (a6 : Int) < (n : Int) := by omega
      have p5 : decide (n ≤ a6) = false := decide_eq_false (by omega)
      clear hnx hr hx
      by_cases hc : x = 125
      ·
       subst hc
       have q1 : ((125 : Int) != 125) = false := by decide
       by_cases hml : 0 ≤ most ∧ most < least
       ·
        have hr := HRX.out
        rw [if_pos (.inr hml)] at hr
        subst hr
        obtain ⟨e1, e2⟩ := hml
        have d1 : decide (0 ≤ most) = true := decide_eq_true e1
        have d2 : decide (most < least) = true := decide_eq_true e2
        clear HRX HR6
        go_wp2_with fail
        go_quiet (fail)
        go_wp2_with fail
        refine (fail_f rb pb sl n c src a6 a6 (by omega) (w6.drewN nq) (F6.out.drewN nq)).mono ?_
        rintro e w9 ⟨rfl, t9, f9⟩
        have FF := Lib.hid f9
        have TT := Lib.hid ((touch_drewN (n := nq) T6.out).trans t9 (fun y hy => .inl hy))
        clear t9 f9
        go_wp2
        go_ret
        exact NdP.err _ (Mv.of TT.out) (h.at_ TT.out FF.out)
       ·
        have hr := HRX.out
        rw [if_neg (fun e => by rcases e with e | e; exact e rfl; exact hml e)] at hr
        subst hr
        clear HRX HR6
        rcases (show (least < 0 ∧ most < 0) ∨ (0 ≤ least ∧ most < 0) ∨ (least < 0 ∧ 0 ≤ most) ∨ (0 ≤ least ∧ 0 ≤ most ∧ least ≤ most) by omega) with ⟨e1, e2⟩ | ⟨e1, e2⟩ | ⟨e1, e2⟩ | ⟨e1, e2, e3⟩
        ·
         have HMX := Lib.hid (show max least 0 = 0 from by omega)
         have d1 : decide (0 ≤ most) = false := decide_eq_false (by omega)
         go_wp2_with fail
         go_quiet (fail)
         go_upto_region 13 with (fail)
         have hs1 := (F6.out.drewN nq).step 1 (by omega)
         have ec : ((a6 + 1 : Nat) : Int) = (a6 : Int) + 1 := by omega
         have ts1 := (touch_drewN (n := nq) T6.out).trans (Touch.setCell (fun b => b = rb) (w6.drewN nq) (p := ⟨rb, 2, none⟩) rfl (.int .i64 ((a6 + 1 : Nat) : Int))) (fun x hx => .inl hx)
         have ls1 : ((w6.drewN nq).setCell ⟨rb, 2, none⟩ (.int .i64 ((a6 + 1 : Nat) : Int))).heap[lb]? = _ := (Below.heap_setCell _ _ _ _ (show lb ≠ rb from by have := LRB.out; omega)).trans L6.out
         rw [ec] at hs1 ts1 ls1
         go_upto_region 14 with (fail)
         generalize (w6.drewN nq).setCell ⟨rb, 2, none⟩ (.int .i64 ((a6 : Int) + 1)) = w6 at hs1 ts1 ls1 ⊢
         clear r1 r2 r3 g2
         have y2 : w6.cell? ⟨lb, 2, none⟩ = some (.int .i64 0) := block_cell ls1
         have g2 : w6.frozen? ⟨lb, 2, none⟩ = false := block_free ls1
         have ls2 := block_set (i := 2) (.int .i64 (0)) ls1
         have ts2 := touch_below ts1 ((Below.refl w.heap.size w6).setCell (p := ⟨lb, 2, none⟩) (Nat.le_of_eq hlb) (.int .i64 (0)))
         have fs2 := hs1.below LRB.out (fun y hy => slx y hy) ((Below.refl lb w6).setCell (p := ⟨lb, 2, none⟩) (Nat.le_refl _) (.int .i64 (0)))
         go_upto_region 15 with (fail)
         generalize w6.setCell ⟨lb, 2, none⟩ (.int .i64 (0)) = w7 at ls2 ts2 fs2 ⊢
         clear y2 g2
         have y3 : w7.cell? ⟨lb, 3, none⟩ = some (.int .i64 (-1)) := block_cell ls2
         have g3 : w7.frozen? ⟨lb, 3, none⟩ = false := block_free ls2
         have ls3 := block_set (i := 3) (.int .i64 most) ls2
         have ts3 := touch_below ts2 ((Below.refl w.heap.size w7).setCell (p := ⟨lb, 3, none⟩) (Nat.le_of_eq hlb) (.int .i64 most))
         have fs3 := fs2.below LRB.out (fun y hy => slx y hy) ((Below.refl lb w7).setCell (p := ⟨lb, 3, none⟩) (Nat.le_refl _) (.int .i64 most))
         go_upto_region 16 with (fail)
         generalize w7.setCell ⟨lb, 3, none⟩ (.int .i64 most) = w8 at ls3 ts3 fs3 ⊢
         have z0 : w8.cell? ⟨lb, 0, none⟩ = some (.int .i64 6) := block_cell ls3
         have z1 : w8.cell? ⟨lb, 1, none⟩ = some (.int .i64 0) := block_cell ls3
         have z2 : w8.cell? ⟨lb, 2, none⟩ = some (.int .i64 (0)) := block_cell ls3
         have z3 : w8.cell? ⟨lb, 3, none⟩ = some (.int .i64 most) := block_cell ls3
         have z4 : w8.cell? ⟨lb, 4, none⟩ = some (.bool false) := block_cell ls3
         have z5 : w8.cell? ⟨lb, 5, none⟩ = some (.bool false) := block_cell ls3
         have z6 : w8.cell? ⟨lb, 6, none⟩ = some (.slice is im ic) := block_cell ls3
         have z7 : w8.cell? ⟨lb, 7, none⟩ = some (.slice ks km kc) := block_cell ls3
         have T8 := Lib.hid ts3
         have F8 := Lib.hid fs3
         have HND := Lib.hid (node_f w8 lo rb pb sl n c src ig (a6 + 1) false s.groups nv N (h.at_ ts3 fs3) ⟨6, 0, 0, most, false, false, .slice is im ic, .slice ks km kc, [(j : Int)]⟩ ⟨(hx.move (Mv.of ts3)).kv, (hx.move (Mv.of ts3)).it⟩ (by omega))
         clear hs1 ts1 ls1 ls2 ts2 fs2 ls3 ts3 fs3 y3 g3
         go_wp2_with fail
         refine HND.out.mono ?_
         rintro e w9 ⟨rfl, nv', hmv, hr9⟩
         have HMV := Lib.hid ((Mv.of (nv := nv) (pb := pb) T8.out).trans hmv)
         have HR9 := Lib.hid hr9
         clear hmv hr9 HND
         go_wp2
         go_ret
         exact NdP.one HMV.out HR9.out (hKB _ _ _) (by show trN _ _ (Nd.again nd (max least 0) most false); rw [trN]; exact ⟨_, List.getElem?_concat_length, rfl, HMX.out.symm, rfl, j, rfl, trN.more N _ nd j ht⟩) (Nat.le_refl _)
        ·
         have HMX := Lib.hid (show max least 0 = least from by omega)
         have m1 : (if (0 : Int) < least then least else 0) = least := by split <;> omega
         have m2 : (if least < (0 : Int) then 0 else least) = least := by split <;> omega
         have d1 : decide (0 ≤ most) = false := decide_eq_false (by omega)
         go_wp2_with fail
         go_quiet (fail)
         go_upto_region 13 with (fail)
         have hs1 := (F6.out.drewN nq).step 1 (by omega)
         have ec : ((a6 + 1 : Nat) : Int) = (a6 : Int) + 1 := by omega
         have ts1 := (touch_drewN (n := nq) T6.out).trans (Touch.setCell (fun b => b = rb) (w6.drewN nq) (p := ⟨rb, 2, none⟩) rfl (.int .i64 ((a6 + 1 : Nat) : Int))) (fun x hx => .inl hx)
         have ls1 : ((w6.drewN nq).setCell ⟨rb, 2, none⟩ (.int .i64 ((a6 + 1 : Nat) : Int))).heap[lb]? = _ := (Below.heap_setCell _ _ _ _ (show lb ≠ rb from by have := LRB.out; omega)).trans L6.out
         rw [ec] at hs1 ts1 ls1
         go_upto_region 14 with (fail)
         generalize (w6.drewN nq).setCell ⟨rb, 2, none⟩ (.int .i64 ((a6 : Int) + 1)) = w6 at hs1 ts1 ls1 ⊢
         clear r1 r2 r3 g2
         have y2 : w6.cell? ⟨lb, 2, none⟩ = some (.int .i64 0) := block_cell ls1
         have g2 : w6.frozen? ⟨lb, 2, none⟩ = false := block_free ls1
         have ls2 := block_set (i := 2) (.int .i64 (least)) ls1
         have ts2 := touch_below ts1 ((Below.refl w.heap.size w6).setCell (p := ⟨lb, 2, none⟩) (Nat.le_of_eq hlb) (.int .i64 (least)))
         have fs2 := hs1.below LRB.out (fun y hy => slx y hy) ((Below.refl lb w6).setCell (p := ⟨lb, 2, none⟩) (Nat.le_refl _) (.int .i64 (least)))
         go_upto_region 15 with (fail)
         generalize w6.setCell ⟨lb, 2, none⟩ (.int .i64 (least)) = w7 at ls2 ts2 fs2 ⊢
         clear y2 g2
         have y3 : w7.cell? ⟨lb, 3, none⟩ = some (.int .i64 (-1)) := block_cell ls2
         have g3 : w7.frozen? ⟨lb, 3, none⟩ = false := block_free ls2
         have ls3 := block_set (i := 3) (.int .i64 most) ls2
         have ts3 := touch_below ts2 ((Below.refl w.heap.size w7).setCell (p := ⟨lb, 3, none⟩) (Nat.le_of_eq hlb) (.int .i64 most))
         have fs3 := fs2.below LRB.out (fun y hy => slx y hy) ((Below.refl lb w7).setCell (p := ⟨lb, 3, none⟩) (Nat.le_refl _) (.int .i64 most))
         go_upto_region 16 with (fail)
         generalize w7.setCell ⟨lb, 3, none⟩ (.int .i64 most) = w8 at ls3 ts3 fs3 ⊢
         have z0 : w8.cell? ⟨lb, 0, none⟩ = some (.int .i64 6) := block_cell ls3
         have z1 : w8.cell? ⟨lb, 1, none⟩ = some (.int .i64 0) := block_cell ls3
         have z2 : w8.cell? ⟨lb, 2, none⟩ = some (.int .i64 (least)) := block_cell ls3
         have z3 : w8.cell? ⟨lb, 3, none⟩ = some (.int .i64 most) := block_cell ls3
         have z4 : w8.cell? ⟨lb, 4, none⟩ = some (.bool false) := block_cell ls3
         have z5 : w8.cell? ⟨lb, 5, none⟩ = some (.bool false) := block_cell ls3
         have z6 : w8.cell? ⟨lb, 6, none⟩ = some (.slice is im ic) := block_cell ls3
         have z7 : w8.cell? ⟨lb, 7, none⟩ = some (.slice ks km kc) := block_cell ls3
         have T8 := Lib.hid ts3
         have F8 := Lib.hid fs3
         have HND := Lib.hid (node_f w8 lo rb pb sl n c src ig (a6 + 1) false s.groups nv N (h.at_ ts3 fs3) ⟨6, 0, least, most, false, false, .slice is im ic, .slice ks km kc, [(j : Int)]⟩ ⟨(hx.move (Mv.of ts3)).kv, (hx.move (Mv.of ts3)).it⟩ (by omega))
         clear hs1 ts1 ls1 ls2 ts2 fs2 ls3 ts3 fs3 y3 g3
         go_wp2_with fail
         refine HND.out.mono ?_
         rintro e w9 ⟨rfl, nv', hmv, hr9⟩
         have HMV := Lib.hid ((Mv.of (nv := nv) (pb := pb) T8.out).trans hmv)
         have HR9 := Lib.hid hr9
         clear hmv hr9 HND
         go_wp2
         go_ret
         exact NdP.one HMV.out HR9.out (hKB _ _ _) (by show trN _ _ (Nd.again nd (max least 0) most false); rw [trN]; exact ⟨_, List.getElem?_concat_length, rfl, HMX.out.symm, rfl, j, rfl, trN.more N _ nd j ht⟩) (Nat.le_refl _)
        ·
         have HMX := Lib.hid (show max least 0 = 0 from by omega)
         have d1 : decide (0 ≤ most) = true := decide_eq_true (by omega)
         have d2 : decide (most < least) = false := decide_eq_false (by omega)
         go_wp2_with fail
         go_quiet (fail)
         go_upto_region 13 with (fail)
         have hs1 := (F6.out.drewN nq).step 1 (by omega)
         have ec : ((a6 + 1 : Nat) : Int) = (a6 : Int) + 1 := by omega
         have ts1 := (touch_drewN (n := nq) T6.out).trans (Touch.setCell (fun b => b = rb) (w6.drewN nq) (p := ⟨rb, 2, none⟩) rfl (.int .i64 ((a6 + 1 : Nat) : Int))) (fun x hx => .inl hx)
         have ls1 : ((w6.drewN nq).setCell ⟨rb, 2, none⟩ (.int .i64 ((a6 + 1 : Nat) : Int))).heap[lb]? = _ := (Below.heap_setCell _ _ _ _ (show lb ≠ rb from by have := LRB.out; omega)).trans L6.out
         rw [ec] at hs1 ts1 ls1
         go_upto_region 14 with (fail)
         generalize (w6.drewN nq).setCell ⟨rb, 2, none⟩ (.int .i64 ((a6 : Int) + 1)) = w6 at hs1 ts1 ls1 ⊢
         clear r1 r2 r3 g2
         have y2 : w6.cell? ⟨lb, 2, none⟩ = some (.int .i64 0) := block_cell ls1
         have g2 : w6.frozen? ⟨lb, 2, none⟩ = false := block_free ls1
         have ls2 := block_set (i := 2) (.int .i64 (0)) ls1
         have ts2 := touch_below ts1 ((Below.refl w.heap.size w6).setCell (p := ⟨lb, 2, none⟩) (Nat.le_of_eq hlb) (.int .i64 (0)))
         have fs2 := hs1.below LRB.out (fun y hy => slx y hy) ((Below.refl lb w6).setCell (p := ⟨lb, 2, none⟩) (Nat.le_refl _) (.int .i64 (0)))
         go_upto_region 15 with (fail)
         generalize w6.setCell ⟨lb, 2, none⟩ (.int .i64 (0)) = w7 at ls2 ts2 fs2 ⊢
         clear y2 g2
         have y3 : w7.cell? ⟨lb, 3, none⟩ = some (.int .i64 (-1)) := block_cell ls2
         have g3 : w7.frozen? ⟨lb, 3, none⟩ = false := block_free ls2
         have ls3 := block_set (i := 3) (.int .i64 most) ls2
         have ts3 := touch_below ts2 ((Below.refl w.heap.size w7).setCell (p := ⟨lb, 3, none⟩) (Nat.le_of_eq hlb) (.int .i64 most))
         have fs3 := fs2.below LRB.out (fun y hy => slx y hy) ((Below.refl lb w7).setCell (p := ⟨lb, 3, none⟩) (Nat.le_refl _) (.int .i64 most))
         go_upto_region 16 with (fail)
         generalize w7.setCell ⟨lb, 3, none⟩ (.int .i64 most) = w8 at ls3 ts3 fs3 ⊢
         have z0 : w8.cell? ⟨lb, 0, none⟩ = some (.int .i64 6) := block_cell ls3
         have z1 : w8.cell? ⟨lb, 1, none⟩ = some (.int .i64 0) := block_cell ls3
         have z2 : w8.cell? ⟨lb, 2, none⟩ = some (.int .i64 (0)) := block_cell ls3
         have z3 : w8.cell? ⟨lb, 3, none⟩ = some (.int .i64 most) := block_cell ls3
         have z4 : w8.cell? ⟨lb, 4, none⟩ = some (.bool false) := block_cell ls3
         have z5 : w8.cell? ⟨lb, 5, none⟩ = some (.bool false) := block_cell ls3
         have z6 : w8.cell? ⟨lb, 6, none⟩ = some (.slice is im ic) := block_cell ls3
         have z7 : w8.cell? ⟨lb, 7, none⟩ = some (.slice ks km kc) := block_cell ls3
         have T8 := Lib.hid ts3
         have F8 := Lib.hid fs3
         have HND := Lib.hid (node_f w8 lo rb pb sl n c src ig (a6 + 1) false s.groups nv N (h.at_ ts3 fs3) ⟨6, 0, 0, most, false, false, .slice is im ic, .slice ks km kc, [(j : Int)]⟩ ⟨(hx.move (Mv.of ts3)).kv, (hx.move (Mv.of ts3)).it⟩ (by omega))
         clear hs1 ts1 ls1 ls2 ts2 fs2 ls3 ts3 fs3 y3 g3
         go_wp2_with fail
         refine HND.out.mono ?_
         rintro e w9 ⟨rfl, nv', hmv, hr9⟩
         have HMV := Lib.hid ((Mv.of (nv := nv) (pb := pb) T8.out).trans hmv)
         have HR9 := Lib.hid hr9
         clear hmv hr9 HND
         go_wp2
         go_ret
         exact NdP.one HMV.out HR9.out (hKB _ _ _) (by show trN _ _ (Nd.again nd (max least 0) most false); rw [trN]; exact ⟨_, List.getElem?_concat_length, rfl, HMX.out.symm, rfl, j, rfl, trN.more N _ nd j ht⟩) (Nat.le_refl _)
        ·
         have HMX := Lib.hid (show max least 0 = least from by omega)
         have m1 : (if (0 : Int) < least then least else 0) = least := by split <;> omega
         have m2 : (if least < (0 : Int) then 0 else least) = least := by split <;> omega
         have d1 : decide (0 ≤ most) = true := decide_eq_true (by omega)
         have d2 : decide (most < least) = false := decide_eq_false (by omega)
         go_wp2_with fail
         go_quiet (fail)
         go_upto_region 13 with (fail)
         have hs1 := (F6.out.drewN nq).step 1 (by omega)
         have ec : ((a6 + 1 : Nat) : Int) = (a6 : Int) + 1 := by omega
         have ts1 := (touch_drewN (n := nq) T6.out).trans (Touch.setCell (fun b => b = rb) (w6.drewN nq) (p := ⟨rb, 2, none⟩) rfl (.int .i64 ((a6 + 1 : Nat) : Int))) (fun x hx => .inl hx)
         have ls1 : ((w6.drewN nq).setCell ⟨rb, 2, none⟩ (.int .i64 ((a6 + 1 : Nat) : Int))).heap[lb]? = _ := (Below.heap_setCell _ _ _ _ (show lb ≠ rb from by have := LRB.out; omega)).trans L6.out
         rw [ec] at hs1 ts1 ls1
         go_upto_region 14 with (fail)
         generalize (w6.drewN nq).setCell ⟨rb, 2, none⟩ (.int .i64 ((a6 : Int) + 1)) = w6 at hs1 ts1 ls1 ⊢
         clear r1 r2 r3 g2
         have y2 : w6.cell? ⟨lb, 2, none⟩ = some (.int .i64 0) := block_cell ls1
         have g2 : w6.frozen? ⟨lb, 2, none⟩ = false := block_free ls1
         have ls2 := block_set (i := 2) (.int .i64 (least)) ls1
         have ts2 := touch_below ts1 ((Below.refl w.heap.size w6).setCell (p := ⟨lb, 2, none⟩) (Nat.le_of_eq hlb) (.int .i64 (least)))
         have fs2 := hs1.below LRB.out (fun y hy => slx y hy) ((Below.refl lb w6).setCell (p := ⟨lb, 2, none⟩) (Nat.le_refl _) (.int .i64 (least)))
         go_upto_region 15 with (fail)
         generalize w6.setCell ⟨lb, 2, none⟩ (.int .i64 (least)) = w7 at ls2 ts2 fs2 ⊢
         clear y2 g2
         have y3 : w7.cell? ⟨lb, 3, none⟩ = some (.int .i64 (-1)) := block_cell ls2
         have g3 : w7.frozen? ⟨lb, 3, none⟩ = false := block_free ls2
         have ls3 := block_set (i := 3) (.int .i64 most) ls2
         have ts3 := touch_below ts2 ((Below.refl w.heap.size w7).setCell (p := ⟨lb, 3, none⟩) (Nat.le_of_eq hlb) (.int .i64 most))
         have fs3 := fs2.below LRB.out (fun y hy => slx y hy) ((Below.refl lb w7).setCell (p := ⟨lb, 3, none⟩) (Nat.le_refl _) (.int .i64 most))
         go_upto_region 16 with (fail)
         generalize w7.setCell ⟨lb, 3, none⟩ (.int .i64 most) = w8 at ls3 ts3 fs3 ⊢
         have z0 : w8.cell? ⟨lb, 0, none⟩ = some (.int .i64 6) := block_cell ls3
         have z1 : w8.cell? ⟨lb, 1, none⟩ = some (.int .i64 0) := block_cell ls3
         have z2 : w8.cell? ⟨lb, 2, none⟩ = some (.int .i64 (least)) := block_cell ls3
         have z3 : w8.cell? ⟨lb, 3, none⟩ = some (.int .i64 most) := block_cell ls3
         have z4 : w8.cell? ⟨lb, 4, none⟩ = some (.bool false) := block_cell ls3
         have z5 : w8.cell? ⟨lb, 5, none⟩ = some (.bool false) := block_cell ls3
         have z6 : w8.cell? ⟨lb, 6, none⟩ = some (.slice is im ic) := block_cell ls3
         have z7 : w8.cell? ⟨lb, 7, none⟩ = some (.slice ks km kc) := block_cell ls3
         have T8 := Lib.hid ts3
         have F8 := Lib.hid fs3
         have HND := Lib.hid (node_f w8 lo rb pb sl n c src ig (a6 + 1) false s.groups nv N (h.at_ ts3 fs3) ⟨6, 0, least, most, false, false, .slice is im ic, .slice ks km kc, [(j : Int)]⟩ ⟨(hx.move (Mv.of ts3)).kv, (hx.move (Mv.of ts3)).it⟩ (by omega))
         clear hs1 ts1 ls1 ls2 ts2 fs2 ls3 ts3 fs3 y3 g3
         go_wp2_with fail
         refine HND.out.mono ?_
         rintro e w9 ⟨rfl, nv', hmv, hr9⟩
         have HMV := Lib.hid ((Mv.of (nv := nv) (pb := pb) T8.out).trans hmv)
         have HR9 := Lib.hid hr9
         clear hmv hr9 HND
         go_wp2
         go_ret
         exact NdP.one HMV.out HR9.out (hKB _ _ _) (by show trN _ _ (Nd.again nd (max least 0) most false); rw [trN]; exact ⟨_, List.getElem?_concat_length, rfl, HMX.out.symm, rfl, j, rfl, trN.more N _ nd j ht⟩) (Nat.le_refl _)
      ·
       have hr := HRX.out
       rw [if_pos (.inl hc)] at hr
       subst hr
       have q1 : (x != 125) = true := by simp [hc]
       have q2 : (x == 125) = false := by simp [hc]
       clear HRX HR6
       go_wp2_with fail
       go_quiet (fail)
       go_wp2_with fail
       refine (fail_f rb pb sl n c src a6 a6 (by omega) (w6.drewN nq) (F6.out.drewN nq)).mono ?_
       rintro e w9 ⟨rfl, t9, f9⟩
       have FF := Lib.hid f9
       have TT := Lib.hid ((touch_drewN (n := nq) T6.out).trans t9 (fun y hy => .inl hy))
       clear t9 f9
       go_wp2
       go_ret
       exact NdP.err _ (Mv.of TT.out) (h.at_ TT.out FF.out)
     ·
      have hnx : nx src ⟨a6, s.groups⟩ = .error src.length := if_pos (by rw [hlen]; show n ≤ a6; omega)
      have hr := HR6.out
      rw [hnx] at hr
      have hr2 : R = .error a6 := by rw [← hr]; exact congrArg Except.error (show src.length = a6 by omega)
      subst hr2
      have p1 : (n : Int) ≤ (a6 : Int) := by omega
      clear hr hnx HR6
      go_wp2_with fail
      go_quiet (fail)
      go_wp2_with fail
      refine (fail_f rb pb sl n c src a6 a6 (by omega) (w6.drewN nq) (F6.out.drewN nq)).mono ?_
      rintro e w9 ⟨rfl, t9, f9⟩
      have FF := Lib.hid f9
      have TT := Lib.hid ((touch_drewN (n := nq) T6.out).trans t9 (fun y hy => .inl hy))
      clear t9 f9
      go_wp2
      go_ret
      exact NdP.err _ (Mv.of TT.out) (h.at_ TT.out FF.out)
   ·
    rw [decide_eq_false h44]
    have hr5 := HR4.out
    rw [if_neg h44] at hr5
    simp only at hr5
    have HR5 := Lib.hid hr5
    have F5 := Lib.hid (F4.out.drewN m5)
    have T5 := Lib.hid (touch_drewN (n := m5) T4.out)
    have L5 := Lib.hid (show (w4.drewN m5).heap[lb]? = _ from L4.out)
    generalize w4.drewN m5 = w5 at F5 T5 L5 ⊢
    clear hr5 HR4 F4 T4 L4
    have r1 : w5.cell? ⟨rb, 1, none⟩ = some (.slice sl n c) := block_cell F5.out.blk
    have r2 : w5.cell? ⟨rb, 2, none⟩ = some (.int .i64 a4) := block_cell F5.out.blk
    have r3 : w5.cell? ⟨rb, 3, none⟩ = some (.bool false) := block_cell F5.out.blk
    have g2 : w5.frozen? ⟨rb, 2, none⟩ = false := block_free F5.out.blk
    have hat5 := F5.out.at'
    have hlen := h.rd.len
    by_cases hlt : a4 < n
    ·
     obtain ⟨gg, off, hgs, c0⟩ := F5.out.src.at (Below.refl _ _) hlt
     have hnx : nx src ⟨a4, s.groups⟩ = .ok (gl src a4, ⟨a4 + 1, s.groups⟩) := if_neg (by rw [hlen]; show ¬ n ≤ a4; omega)
     have hr := HR5.out
     rw [hnx] at hr
     simp only at hr
     obtain ⟨x, hx⟩ : ∃ x, gl src a4 = x := ⟨_, rfl⟩
     rw [hx] at hr c0
     have HRX := Lib.hid hr
     have p1 : ¬ (n : Int) ≤ (a4 : Int) := by omega
     have p2 : (0 : Int) ≤ (a4 : Int) := by omega
     have p3 : IntKind.i64.wrap ((a4 : Int) + 1) = (a4 : Int) + 1 := by rw [IntKind.wrap_i64]; omega
     have p4 : (a4 : Int) < (n : Int) := by omega
     have p5 : decide (n ≤ a4) = false := decide_eq_false (by omega)
     clear hnx hr hx
     by_cases hc : x = 125
     ·
      subst hc
      have q1 : ((125 : Int) != 125) = false := by decide
      by_cases hml : 0 ≤ least ∧ least < least
      · omega
      ·
       have hr := HRX.out
       rw [if_neg (fun e => by rcases e with e | e; exact e rfl; exact hml e)] at hr
       subst hr
       clear HRX HR5
       rcases (show least < 0 ∨ 0 ≤ least by omega) with e1 | e1
       ·
        have HMX := Lib.hid (show max least 0 = 0 from by omega)
        have d1 : decide (0 ≤ least) = false := decide_eq_false (by omega)
        go_wp2_with fail
        go_quiet (fail)
        go_upto_region 13 with (fail)
        have hs1 := (F5.out.drewN nq).step 1 (by omega)
        have ec : ((a4 + 1 : Nat) : Int) = (a4 : Int) + 1 := by omega
        have ts1 := (touch_drewN (n := nq) T5.out).trans (Touch.setCell (fun b => b = rb) (w5.drewN nq) (p := ⟨rb, 2, none⟩) rfl (.int .i64 ((a4 + 1 : Nat) : Int))) (fun x hx => .inl hx)
        have ls1 : ((w5.drewN nq).setCell ⟨rb, 2, none⟩ (.int .i64 ((a4 + 1 : Nat) : Int))).heap[lb]? = _ := (Below.heap_setCell _ _ _ _ (show lb ≠ rb from by have := LRB.out; omega)).trans L5.out
        rw [ec] at hs1 ts1 ls1
        go_upto_region 14 with (fail)
        generalize (w5.drewN nq).setCell ⟨rb, 2, none⟩ (.int .i64 ((a4 : Int) + 1)) = w6 at hs1 ts1 ls1 ⊢
        clear r1 r2 r3 g2
        have y2 : w6.cell? ⟨lb, 2, none⟩ = some (.int .i64 0) := block_cell ls1
        have g2 : w6.frozen? ⟨lb, 2, none⟩ = false := block_free ls1
        have ls2 := block_set (i := 2) (.int .i64 (0)) ls1
        have ts2 := touch_below ts1 ((Below.refl w.heap.size w6).setCell (p := ⟨lb, 2, none⟩) (Nat.le_of_eq hlb) (.int .i64 (0)))
        have fs2 := hs1.below LRB.out (fun y hy => slx y hy) ((Below.refl lb w6).setCell (p := ⟨lb, 2, none⟩) (Nat.le_refl _) (.int .i64 (0)))
        go_upto_region 15 with (fail)
        generalize w6.setCell ⟨lb, 2, none⟩ (.int .i64 (0)) = w7 at ls2 ts2 fs2 ⊢
        clear y2 g2
        have y3 : w7.cell? ⟨lb, 3, none⟩ = some (.int .i64 (-1)) := block_cell ls2
        have g3 : w7.frozen? ⟨lb, 3, none⟩ = false := block_free ls2
        have ls3 := block_set (i := 3) (.int .i64 least) ls2
        have ts3 := touch_below ts2 ((Below.refl w.heap.size w7).setCell (p := ⟨lb, 3, none⟩) (Nat.le_of_eq hlb) (.int .i64 least))
        have fs3 := fs2.below LRB.out (fun y hy => slx y hy) ((Below.refl lb w7).setCell (p := ⟨lb, 3, none⟩) (Nat.le_refl _) (.int .i64 least))
        go_upto_region 16 with (fail)
        generalize w7.setCell ⟨lb, 3, none⟩ (.int .i64 least) = w8 at ls3 ts3 fs3 ⊢
        have z0 : w8.cell? ⟨lb, 0, none⟩ = some (.int .i64 6) := block_cell ls3
        have z1 : w8.cell? ⟨lb, 1, none⟩ = some (.int .i64 0) := block_cell ls3
        have z2 : w8.cell? ⟨lb, 2, none⟩ = some (.int .i64 (0)) := block_cell ls3
        have z3 : w8.cell? ⟨lb, 3, none⟩ = some (.int .i64 least) := block_cell ls3
        have z4 : w8.cell? ⟨lb, 4, none⟩ = some (.bool false) := block_cell ls3
        have z5 : w8.cell? ⟨lb, 5, none⟩ = some (.bool false) := block_cell ls3
        have z6 : w8.cell? ⟨lb, 6, none⟩ = some (.slice is im ic) := block_cell ls3
        have z7 : w8.cell? ⟨lb, 7, none⟩ = some (.slice ks km kc) := block_cell ls3
        have T8 := Lib.hid ts3
        have F8 := Lib.hid fs3
        have HND := Lib.hid (node_f w8 lo rb pb sl n c src ig (a4 + 1) false s.groups nv N (h.at_ ts3 fs3) ⟨6, 0, 0, least, false, false, .slice is im ic, .slice ks km kc, [(j : Int)]⟩ ⟨(hx.move (Mv.of ts3)).kv, (hx.move (Mv.of ts3)).it⟩ (by omega))
        clear hs1 ts1 ls1 ls2 ts2 fs2 ls3 ts3 fs3 y3 g3
        go_wp2_with fail
        refine HND.out.mono ?_
        rintro e w9 ⟨rfl, nv', hmv, hr9⟩
        have HMV := Lib.hid ((Mv.of (nv := nv) (pb := pb) T8.out).trans hmv)
        have HR9 := Lib.hid hr9
        clear hmv hr9 HND
        go_wp2
        go_ret
        exact NdP.one HMV.out HR9.out (hKB _ _ _) (by show trN _ _ (Nd.again nd (max least 0) least false); rw [trN]; exact ⟨_, List.getElem?_concat_length, rfl, HMX.out.symm, rfl, j, rfl, trN.more N _ nd j ht⟩) (Nat.le_refl _)
       ·
        have HMX := Lib.hid (show max least 0 = least from by omega)
        have m1 : (if (0 : Int) < least then least else 0) = least := by split <;> omega
        have m2 : (if least < (0 : Int) then 0 else least) = least := by split <;> omega
        have d1 : decide (0 ≤ least) = true := decide_eq_true (by omega)
        have d2 : decide (least < least) = false := decide_eq_false (by omega)
        go_wp2_with fail
        go_quiet (fail)
        go_upto_region 13 with (fail)
        have hs1 := (F5.out.drewN nq).step 1 (by omega)
        have ec : ((a4 + 1 : Nat) : Int) = (a4 : Int) + 1 := by omega
        have ts1 := (touch_drewN (n := nq) T5.out).trans (Touch.setCell (fun b => b = rb) (w5.drewN nq) (p := ⟨rb, 2, none⟩) rfl (.int .i64 ((a4 + 1 : Nat) : Int))) (fun x hx => .inl hx)
        have ls1 : ((w5.drewN nq).setCell ⟨rb, 2, none⟩ (.int .i64 ((a4 + 1 : Nat) : Int))).heap[lb]? = _ := (Below.heap_setCell _ _ _ _ (show lb ≠ rb from by have := LRB.out; omega)).trans L5.out
        rw [ec] at hs1 ts1 ls1
        go_upto_region 14 with (fail)
        generalize (w5.drewN nq).setCell ⟨rb, 2, none⟩ (.int .i64 ((a4 : Int) + 1)) = w6 at hs1 ts1 ls1 ⊢
        clear r1 r2 r3 g2
        have y2 : w6.cell? ⟨lb, 2, none⟩ = some (.int .i64 0) := block_cell ls1
        have g2 : w6.frozen? ⟨lb, 2, none⟩ = false := block_free ls1
        have ls2 := block_set (i := 2) (.int .i64 (least)) ls1
        have ts2 := touch_below ts1 ((Below.refl w.heap.size w6).setCell (p := ⟨lb, 2, none⟩) (Nat.le_of_eq hlb) (.int .i64 (least)))
        have fs2 := hs1.below LRB.out (fun y hy => slx y hy) ((Below.refl lb w6).setCell (p := ⟨lb, 2, none⟩) (Nat.le_refl _) (.int .i64 (least)))
        go_upto_region 15 with (fail)
        generalize w6.setCell ⟨lb, 2, none⟩ (.int .i64 (least)) = w7 at ls2 ts2 fs2 ⊢
        clear y2 g2
        have y3 : w7.cell? ⟨lb, 3, none⟩ = some (.int .i64 (-1)) := block_cell ls2
        have g3 : w7.frozen? ⟨lb, 3, none⟩ = false := block_free ls2
        have ls3 := block_set (i := 3) (.int .i64 least) ls2
        have ts3 := touch_below ts2 ((Below.refl w.heap.size w7).setCell (p := ⟨lb, 3, none⟩) (Nat.le_of_eq hlb) (.int .i64 least))
        have fs3 := fs2.below LRB.out (fun y hy => slx y hy) ((Below.refl lb w7).setCell (p := ⟨lb, 3, none⟩) (Nat.le_refl _) (.int .i64 least))
        go_upto_region 16 with (fail)
        generalize w7.setCell ⟨lb, 3, none⟩ (.int .i64 least) = w8 at ls3 ts3 fs3 ⊢
        have z0 : w8.cell? ⟨lb, 0, none⟩ = some (.int .i64 6) := block_cell ls3
        have z1 : w8.cell? ⟨lb, 1, none⟩ = some (.int .i64 0) := block_cell ls3
        have z2 : w8.cell? ⟨lb, 2, none⟩ = some (.int .i64 (least)) := block_cell ls3
        have z3 : w8.cell? ⟨lb, 3, none⟩ = some (.int .i64 least) := block_cell ls3
        have z4 : w8.cell? ⟨lb, 4, none⟩ = some (.bool false) := block_cell ls3
        have z5 : w8.cell? ⟨lb, 5, none⟩ = some (.bool false) := block_cell ls3
        have z6 : w8.cell? ⟨lb, 6, none⟩ = some (.slice is im ic) := block_cell ls3
        have z7 : w8.cell? ⟨lb, 7, none⟩ = some (.slice ks km kc) := block_cell ls3
        have T8 := Lib.hid ts3
        have F8 := Lib.hid fs3
        have HND := Lib.hid (node_f w8 lo rb pb sl n c src ig (a4 + 1) false s.groups nv N (h.at_ ts3 fs3) ⟨6, 0, least, least, false, false, .slice is im ic, .slice ks km kc, [(j : Int)]⟩ ⟨(hx.move (Mv.of ts3)).kv, (hx.move (Mv.of ts3)).it⟩ (by omega))
        clear hs1 ts1 ls1 ls2 ts2 fs2 ls3 ts3 fs3 y3 g3
        go_wp2_with fail
        refine HND.out.mono ?_
        rintro e w9 ⟨rfl, nv', hmv, hr9⟩
        have HMV := Lib.hid ((Mv.of (nv := nv) (pb := pb) T8.out).trans hmv)
        have HR9 := Lib.hid hr9
        clear hmv hr9 HND
        go_wp2
        go_ret
        exact NdP.one HMV.out HR9.out (hKB _ _ _) (by show trN _ _ (Nd.again nd (max least 0) least false); rw [trN]; exact ⟨_, List.getElem?_concat_length, rfl, HMX.out.symm, rfl, j, rfl, trN.more N _ nd j ht⟩) (Nat.le_refl _)
     ·
      have hr := HRX.out
      rw [if_pos (.inl hc)] at hr
      subst hr
      have q1 : (x != 125) = true := by simp [hc]
      have q2 : (x == 125) = false := by simp [hc]
      clear HRX HR5
      go_wp2_with fail
      go_quiet (fail)
      go_wp2_with fail
      refine (fail_f rb pb sl n c src a4 a4 (by omega) (w5.drewN nq) (F5.out.drewN nq)).mono ?_
      rintro e w9 ⟨rfl, t9, f9⟩
      have FF := Lib.hid f9
      have TT := Lib.hid ((touch_drewN (n := nq) T5.out).trans t9 (fun y hy => .inl hy))
      clear t9 f9
      go_wp2
      go_ret
      exact NdP.err _ (Mv.of TT.out) (h.at_ TT.out FF.out)
    ·
     have hnx : nx src ⟨a4, s.groups⟩ = .error src.length := if_pos (by rw [hlen]; show n ≤ a4; omega)
     have hr := HR5.out
     rw [hnx] at hr
     have hr2 : R = .error a4 := by rw [← hr]; exact congrArg Except.error (show src.length = a4 by omega)
     subst hr2
     have p1 : (n : Int) ≤ (a4 : Int) := by omega
     clear hr hnx HR5
     go_wp2_with fail
     go_quiet (fail)
     go_wp2_with fail
     refine (fail_f rb pb sl n c src a4 a4 (by omega) (w5.drewN nq) (F5.out.drewN nq)).mono ?_
     rintro e w9 ⟨rfl, t9, f9⟩
     have FF := Lib.hid f9
     have TT := Lib.hid ((touch_drewN (n := nq) T5.out).trans t9 (fun y hy => .inl hy))
     clear t9 f9
     go_wp2
     go_ret
     exact NdP.err _ (Mv.of TT.out) (h.at_ TT.out FF.out)
end Go.Proofs.YtdegdoilpamjjaaDoor
