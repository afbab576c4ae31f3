/- Contracts of the document's reader of patterns: sign. Condition: no more than 2^30 ints. Contracts of the document's reader of patterns: stretch. Condition: no more than 2^30 ints. Contracts of the document's reader of patterns: code. Condition: no more than 2^30 ints. The document's reader of patterns: which node stands for what, in its list. No walk. -/
import Derived.Test.YtdegdoilpamjjaaDoorCAm
import Derived.Test.YtdegdoilpamjjaaDoorCAq
namespace Go.Proofs.YtdegdoilpamjjaaDoor
open Go.RowKit
set_option linter.unusedVariables false
set_option linter.unusedSimpArgs false
def itV (r : Int × Option Int) : Value := match r with
 | (y, none) => .tuple #[.agg #[.int .i64 0, .int .i64 y, .int .i64 y], .bool true]
 | (_, some k) => .tuple #[.agg #[.int .i64 k, .int .i64 0, .int .i64 0], .bool false]
def itBad (v : Value) : Prop := ∃ (x y z : Int) (b : Bool), v = .tuple #[.agg #[.int .i64 x, .int .i64 y, .int .i64 z], .bool b]
theorem itBad_mk (x y z : Int) (b : Bool) : itBad (.tuple #[.agg #[.int .i64 x, .int .i64 y, .int .i64 z], .bool b]) := ⟨x, y, z, b, rfl⟩
theorem sign_results (tmps : Array Value) (g : Nat) (x y z : Value) (b : Bool) (w : World) (h2 : tmps.getD 2 undef = .pointer (some ⟨g, 0, none⟩)) (h3 : tmps.getD 3 undef = .bool b) (hg : w.heap[g]? = some (.cells #[x, y, z] 153 (0, 0))) :
  (results Tryd.f105 tmps).run Tryd.prog w = .ok (.tuple #[.agg #[x, y, z], .bool b]) w := by
 have hl := run_loadVar_row (P := Tryd.prog) w g 153 153 #[x, y, z] (0, 0) _ hg Tryd.underlying153 rfl (by kernel_rfl)
 simp only [Array.getD_eq_getD_getElem?] at h2 h3
 simp [results, Tryd.results105, h2, h3, asAddr, hl]
theorem touch_below {O : Nat → Prop} {a b c : World} (h : Touch O a b) (k : Below a.heap.size b c) : Touch O a c :=
 ⟨k.os.trans h.os, k.tape.trans h.tape, k.output.trans h.output, Nat.le_trans h.size k.size, fun x hx hn => (k.block x hx).trans (h.block x hx hn)⟩
theorem FrM.below {w w' : World} {rb pb : Nat} {sl : Option Addr} {n c : Nat} {src : List Int} {a : Nat} {bad : Bool} {B : Nat} (h : FrM w rb pb sl n c src a bad) (hr : rb < B) (hs : ∀ x, sl = some x → x.block < B) (hb : Below B w w') : FrM w' rb pb sl n c src a bad :=
 { h with blk := (hb.block _ hr).trans h.blk, src := ints_kept h.src hb.size fun x hx => hb.block _ (hs x hx) }
theorem it_info {x y z : Int} : (Tryd.prog.info? 153).map (·.size) = some (#[Value.int .i64 x, .int .i64 y, .int .i64 z] : Array Value).size := by
 show _ = some 3
 kernel_rfl
theorem it_all (x y z : Int) : (#[Value.int .i64 x, .int .i64 y, .int .i64 z] : Array Value).all (·.oneCell') = true := by simp [Value.oneCell']
set_option maxRecDepth 100000 in
set_option maxHeartbeats 16000000 in
theorem sign_f (rb pb : Nat) (sl : Option Addr) (n c : Nat) (src : List Int) (s : RS) (w : World) (h : FrM w rb pb sl n c src s.at' false) (hlt : s.at' < n) :
  Calls Tryd.prog 105 #[.pointer (some ⟨rb, 0, none⟩)] w (FrP w rb pb sl n c src (signP src s) (fun x v => v = itV x) itBad) := by
 obtain ⟨g, off, hgs, c0⟩ := h.src.at (Below.refl _ _) hlt
 have hgw : g < w.heap.size := by
  rcases h.src with h0 | ⟨b', o', e, hb', hc'⟩
  · omega
  · rw [hgs] at e; cases e; exact hb'
 have hnx : nx src s = .ok (gl src s.at', { s with at' := s.at' + 1 }) := if_neg (by rw [h.len]; omega)
 obtain ⟨R, hR⟩ : ∃ R, signP src s = R := ⟨_, rfl⟩
 have hR2 := hR
 unfold signP at hR2
 rw [hnx] at hR2
 simp only at hR2
 rw [hR]
 have hb1 := below_newJ w (.cells #[.int .i64 0, .int .i64 0, .int .i64 0] 153)
 have ho := one_new w (.cells #[.int .i64 0, .int .i64 0, .int .i64 0] 153)
 have hrw : rb < w.heap.size := heap_lt h.blk
 have hlen := h.len
 have H1 := Lib.hid (h.later hb1)
 have HB1 := Lib.hid hb1
 have HO := Lib.hid ho
 obtain ⟨a, ha⟩ : ∃ a, s.at' = a := ⟨_, rfl⟩
 rw [ha] at hR2 c0 hlt H1
 have hat := h.at'
 have hn30 := h.n30
 rw [ha] at hat
 obtain ⟨x, hx⟩ : ∃ x, gl src a = x := ⟨_, rfl⟩
 rw [hx] at hR2 c0
 have HR2 := Lib.hid hR2
 subst hgs
 obtain ⟨bx, hbx⟩ : ∃ bx, w.heap.size = bx := ⟨_, rfl⟩
 have rbx : rb < bx := by omega
 have slx : ∀ y, some (⟨g, off, none⟩ : Addr) = some y → y.block < bx := fun y hy => by cases hy; show g < bx; omega
 have HBX := Lib.hid hbx
 have RBX := Lib.hid rbx
 clear h hb1 ho hR hR2 hnx
 generalize hw1 : w.alloc (.cells #[.int .i64 0, .int .i64 0, .int .i64 0] 153) = w1 at H1 HB1 HO
 rw [hbx] at HO
 have b1 : w1.cell? ⟨rb, 1, none⟩ = some (.slice (some ⟨g, off, none⟩) n c) := block_cell H1.out.blk
 have b2 : w1.cell? ⟨rb, 2, none⟩ = some (.int .i64 a) := block_cell H1.out.blk
 have f2 : w1.frozen? ⟨rb, 2, none⟩ = false := block_free H1.out.blk
 have c1 : w1.cell? ⟨g, off + a, none⟩ = some (.int .i64 x) := by
  rw [← hx]
  rcases H1.out.src with h0 | ⟨b', o', e, hb', hc'⟩
  · omega
  · cases e; exact hc' a hlt
 have p1 : (a : Int) < (n : Int) := by omega
 have p2 : (0 : Int) ≤ (a : Int) := by omega
 have p3 : IntKind.i64.wrap ((a : Int) + 1) = (a : Int) + 1 := by rw [IntKind.wrap_i64]; omega
 clear c0 hx ha
 go_enter Tryd.func105, Tryd.ntmps105
 go_wp2_with fail
 go_quiet (fail)
 go_upto_region 3 with (fail)
 have fs := (H1.out.drewN nq).step 1 (by omega)
 have ts := (touch_drewN (Touch.of (O := fun b => b = rb) HB1.out)).trans (Touch.setCell (fun b => b = rb) (w1.drewN nq) (p := ⟨rb, 2, none⟩) rfl (.int .i64 ((a + 1 : Nat) : Int))) (fun x hx => .inl hx)
 have is : ((w1.drewN nq).setCell ⟨rb, 2, none⟩ (.int .i64 ((a + 1 : Nat) : Int))).heap[bx]? = some (.cells #[.int .i64 0, .int .i64 0, .int .i64 0] 153 (0, 0)) := (Below.heap_setCell _ _ _ _ (show bx ≠ rb from by omega)).trans HO.out
 rw [show ((a + 1 : Nat) : Int) = (a : Int) + 1 from by omega] at fs ts is
 generalize (w1.drewN nq).setCell ⟨rb, 2, none⟩ (.int .i64 ((a : Int) + 1)) = w2 at fs ts is ⊢
 have F2 := Lib.hid fs
 have T2 := Lib.hid ts
 have I2 := Lib.hid is
 clear hw1 b1 b2 f2 c1 p1 p2 p3 H1 HB1 HO fs ts is
 by_cases hx92 : x = 92
 ·
  have hr := HR2.out
  rw [if_neg (by omega)] at hr
  have HRX := Lib.hid hr
  subst hx92
  have b1 : w2.cell? ⟨rb, 1, none⟩ = some (.slice (some ⟨g, off, none⟩) n c) := block_cell F2.out.blk
  have b2 : w2.cell? ⟨rb, 2, none⟩ = some (.int .i64 ((a + 1 : Nat) : Int)) := block_cell F2.out.blk
  have f2 : w2.frozen? ⟨rb, 2, none⟩ = false := block_free F2.out.blk
  clear hr HR2
  by_cases hlt2 : a + 1 < n
  ·
   have hnx2 : nx src { s with at' := a + 1 } = .ok (gl src (a + 1), { s with at' := a + 1 + 1 }) := if_neg (by rw [hlen]; show ¬ n ≤ a + 1; omega)
   have hr := HRX.out
   rw [hnx2] at hr
   simp only at hr
   obtain ⟨y, hy⟩ : ∃ y, gl src (a + 1) = y := ⟨_, rfl⟩
   rw [hy] at hr
   have HR3 := Lib.hid hr
   have c2 : w2.cell? ⟨g, off + (a + 1), none⟩ = some (.int .i64 y) := by
    rw [← hy]
    rcases F2.out.src with h0 | ⟨b', o', e, hb', hc'⟩
    · omega
    · cases e; exact hc' (a + 1) hlt2
   obtain ⟨a1, ha1⟩ : ∃ a1, a + 1 = a1 := ⟨_, rfl⟩
   have q0 : ¬ (n : Int) ≤ (a1 : Int) := by omega
   have q1 : (a1 : Int) < (n : Int) := by omega
   have q2 : (0 : Int) ≤ (a1 : Int) := by omega
   have q3 : IntKind.i64.wrap ((a1 : Int) + 1) = (a1 : Int) + 1 := by rw [IntKind.wrap_i64]; omega
   have q4 : decide (n ≤ a1) = false := decide_eq_false (by omega)
   rw [ha1] at b2 c2 HR3
   clear hnx2 hy hr HRX
   go_wp2_with fail
   go_quiet (fail)
   have fq := F2.out.drewN nq
   have tq := touch_drewN (n := nq) T2.out
   have iq : (w2.drewN nq).heap[bx]? = some (.cells #[.int .i64 0, .int .i64 0, .int .i64 0] 153 (0, 0)) := I2.out
   have b1q : (w2.drewN nq).cell? ⟨rb, 1, none⟩ = some (.slice (some ⟨g, off, none⟩) n c) := b1
   have b2q : (w2.drewN nq).cell? ⟨rb, 2, none⟩ = some (.int .i64 (a1 : Int)) := b2
   have f2q : (w2.drewN nq).frozen? ⟨rb, 2, none⟩ = false := f2
   have c2q : (w2.drewN nq).cell? ⟨g, off + a1, none⟩ = some (.int .i64 y) := c2
   generalize w2.drewN nq = w2b at fq tq iq b1q b2q f2q c2q ⊢
   clear b1 b2 f2 c2 F2 T2 I2
   go_wp2_with fail
   go_quiet (fail)
   go_upto_region 10 with (fail)
   have fs := (fq.drewN nq).step 1 (by omega)
   have ts := (touch_drewN tq).trans (Touch.setCell (fun b => b = rb) (w2b.drewN nq) (p := ⟨rb, 2, none⟩) rfl (.int .i64 ((a + 1 + 1 : Nat) : Int))) (fun x hx => .inl hx)
   have is : ((w2b.drewN nq).setCell ⟨rb, 2, none⟩ (.int .i64 ((a + 1 + 1 : Nat) : Int))).heap[bx]? = some (.cells #[.int .i64 0, .int .i64 0, .int .i64 0] 153 (0, 0)) := (Below.heap_setCell _ _ _ _ (show bx ≠ rb from by omega)).trans iq
   rw [show ((a + 1 + 1 : Nat) : Int) = (a1 : Int) + 1 from by omega] at fs ts is
   generalize (w2b.drewN nq).setCell ⟨rb, 2, none⟩ (.int .i64 ((a1 : Int) + 1)) = w3 at fs ts is ⊢
   have F3 := Lib.hid fs
   have T3 := Lib.hid ts
   have I3 := Lib.hid is
   have A1 := Lib.hid ha1
   have r2 : w3.cell? ⟨rb, 2, none⟩ = some (.int .i64 ((a + 1 + 1 : Nat) : Int)) := block_cell F3.out.blk
   rw [show ((a + 1 + 1 : Nat) : Int) = (a1 : Int) + 1 from by omega] at r2
   rw [← ha1] at HR3
   clear b1q b2q f2q c2q fq tq iq fs ts is
   by_cases e92 : y = 92
   ·
    subst e92
    have hr := HR3.out
    rw [if_pos (by decide)] at hr
    subst hr
    clear HR3
    go_wp2_with (refine wpList_store_row rfl 153 _ _ rfl bx #[.int .i64 (0), .int .i64 (92), .int .i64 (92)] rfl rfl _ _ I3.out it_info rfl (it_all _ _ _) ?_)
    refine bodyPost_ret (sign_results _ bx (.int .i64 (0)) (.int .i64 (92)) (.int .i64 (92)) true _ rfl rfl (row_setg #[.int .i64 (0), .int .i64 (92), .int .i64 (92)] I3.out)) rfl ?_
    exact ⟨touch_below T3.out (row_belowg _ (Nat.le_of_eq HBX.out)), ⟨_, rfl, rfl⟩, F3.out.below rbx slx (row_belowg _ (Nat.le_refl _))⟩
   by_cases e93 : y = 93
   ·
    subst e93
    have hr := HR3.out
    rw [if_pos (by decide)] at hr
    subst hr
    clear HR3
    go_wp2_with (refine wpList_store_row rfl 153 _ _ rfl bx #[.int .i64 (0), .int .i64 (93), .int .i64 (93)] rfl rfl _ _ I3.out it_info rfl (it_all _ _ _) ?_)
    refine bodyPost_ret (sign_results _ bx (.int .i64 (0)) (.int .i64 (93)) (.int .i64 (93)) true _ rfl rfl (row_setg #[.int .i64 (0), .int .i64 (93), .int .i64 (93)] I3.out)) rfl ?_
    exact ⟨touch_below T3.out (row_belowg _ (Nat.le_of_eq HBX.out)), ⟨_, rfl, rfl⟩, F3.out.below rbx slx (row_belowg _ (Nat.le_refl _))⟩
   by_cases e94 : y = 94
   ·
    subst e94
    have hr := HR3.out
    rw [if_pos (by decide)] at hr
    subst hr
    clear HR3
    go_wp2_with (refine wpList_store_row rfl 153 _ _ rfl bx #[.int .i64 (0), .int .i64 (94), .int .i64 (94)] rfl rfl _ _ I3.out it_info rfl (it_all _ _ _) ?_)
    refine bodyPost_ret (sign_results _ bx (.int .i64 (0)) (.int .i64 (94)) (.int .i64 (94)) true _ rfl rfl (row_setg #[.int .i64 (0), .int .i64 (94), .int .i64 (94)] I3.out)) rfl ?_
    exact ⟨touch_below T3.out (row_belowg _ (Nat.le_of_eq HBX.out)), ⟨_, rfl, rfl⟩, F3.out.below rbx slx (row_belowg _ (Nat.le_refl _))⟩
   by_cases e45 : y = 45
   ·
    subst e45
    have hr := HR3.out
    rw [if_pos (by decide)] at hr
    subst hr
    clear HR3
    go_wp2_with (refine wpList_store_row rfl 153 _ _ rfl bx #[.int .i64 (0), .int .i64 (45), .int .i64 (45)] rfl rfl _ _ I3.out it_info rfl (it_all _ _ _) ?_)
    refine bodyPost_ret (sign_results _ bx (.int .i64 (0)) (.int .i64 (45)) (.int .i64 (45)) true _ rfl rfl (row_setg #[.int .i64 (0), .int .i64 (45), .int .i64 (45)] I3.out)) rfl ?_
    exact ⟨touch_below T3.out (row_belowg _ (Nat.le_of_eq HBX.out)), ⟨_, rfl, rfl⟩, F3.out.below rbx slx (row_belowg _ (Nat.le_refl _))⟩
   by_cases e116 : y = 116
   ·
    subst e116
    have hr := HR3.out
    rw [if_neg (by omega)] at hr
    rw [if_pos rfl] at hr
    subst hr
    clear HR3
    go_wp2_with (refine wpList_store_row rfl 153 _ _ rfl bx #[.int .i64 (0), .int .i64 (9), .int .i64 (9)] rfl rfl _ _ I3.out it_info rfl (it_all _ _ _) ?_)
    refine bodyPost_ret (sign_results _ bx (.int .i64 (0)) (.int .i64 (9)) (.int .i64 (9)) true _ rfl rfl (row_setg #[.int .i64 (0), .int .i64 (9), .int .i64 (9)] I3.out)) rfl ?_
    exact ⟨touch_below T3.out (row_belowg _ (Nat.le_of_eq HBX.out)), ⟨_, rfl, rfl⟩, F3.out.below rbx slx (row_belowg _ (Nat.le_refl _))⟩
   by_cases e101 : y = 101
   ·
    subst e101
    have hr := HR3.out
    rw [if_neg (by omega)] at hr
    rw [if_neg (by omega)] at hr
    rw [if_pos rfl] at hr
    subst hr
    clear HR3
    go_wp2_with (refine wpList_store_row rfl 153 _ _ rfl bx #[.int .i64 (0), .int .i64 (27), .int .i64 (27)] rfl rfl _ _ I3.out it_info rfl (it_all _ _ _) ?_)
    refine bodyPost_ret (sign_results _ bx (.int .i64 (0)) (.int .i64 (27)) (.int .i64 (27)) true _ rfl rfl (row_setg #[.int .i64 (0), .int .i64 (27), .int .i64 (27)] I3.out)) rfl ?_
    exact ⟨touch_below T3.out (row_belowg _ (Nat.le_of_eq HBX.out)), ⟨_, rfl, rfl⟩, F3.out.below rbx slx (row_belowg _ (Nat.le_refl _))⟩
   by_cases e120 : y = 120
   ·
    subst e120
    have hr := HR3.out
    rw [if_neg (by omega)] at hr
    rw [if_neg (by omega)] at hr
    rw [if_neg (by omega)] at hr
    rw [if_pos rfl] at hr
    go_wp2_with fail
    refine (hex_f 2 (by decide) 255 (by decide) (by decide) rb pb (some ⟨g, off, none⟩) n c src { s with at' := a + 1 + 1 } w3 F3.out).mono ?_
    rintro e w4 ⟨t4, h4⟩
    have I4 := Lib.hid ((t4.block bx (heap_lt I3.out) (fun e => by have := RBX.out; omega)).trans I3.out)
    have T4 := Lib.hid (T3.out.trans t4 (fun y hy => .inl hy))
    cases hh : hexP src 255 2 0 { s with at' := a + 1 + 1 } with
    | error k =>
     rw [hh] at h4 hr
     obtain ⟨⟨v, rfl, rfl⟩, f4⟩ := h4
     have F4 := Lib.hid f4
     subst hr
     clear HR3 t4 hh
     go_wp2_with (refine wpList_store_row rfl 153 _ _ rfl bx #[.int .i64 (0), .int .i64 (0), .int .i64 (0)] rfl rfl _ _ I4.out it_info rfl (it_all _ _ _) ?_)
     refine bodyPost_ret (sign_results _ bx (.int .i64 (0)) (.int .i64 (0)) (.int .i64 (0)) true _ rfl rfl (row_setg #[.int .i64 (0), .int .i64 (0), .int .i64 (0)] I4.out)) rfl ?_
     exact ⟨touch_below T4.out (row_belowg _ (Nat.le_of_eq HBX.out)), ⟨_, rfl, itBad_mk _ _ _ _⟩, F4.out.below rbx slx (row_belowg _ (Nat.le_refl _))⟩
    | ok r =>
     obtain ⟨v, s4⟩ := r
     rw [hh] at h4 hr
     obtain ⟨⟨v', rfl, rfl, v0, v1⟩, f4⟩ := h4
     have F4 := Lib.hid f4
     subst hr
     have q1 : IntKind.i64.wrap (-1 - v) = -1 - v := by rw [IntKind.wrap_i64]; omega
     clear HR3 t4 hh
     go_wp2_with (refine wpList_store_row rfl 153 _ _ rfl bx #[.int .i64 (0), .int .i64 (-1 - v), .int .i64 (-1 - v)] rfl rfl _ _ I4.out it_info rfl (it_all _ _ _) ?_)
     refine bodyPost_ret (sign_results _ bx (.int .i64 (0)) (.int .i64 (-1 - v)) (.int .i64 (-1 - v)) true _ rfl rfl (row_setg #[.int .i64 (0), .int .i64 (-1 - v), .int .i64 (-1 - v)] I4.out)) rfl ?_
     exact ⟨touch_below T4.out (row_belowg _ (Nat.le_of_eq HBX.out)), ⟨_, rfl, rfl⟩, F4.out.below rbx slx (row_belowg _ (Nat.le_refl _))⟩
   by_cases e100 : y = 100
   ·
    subst e100
    have hr := HR3.out
    rw [if_neg (by omega)] at hr
    rw [if_neg (by omega)] at hr
    rw [if_neg (by omega)] at hr
    rw [if_neg (by omega)] at hr
    rw [if_pos (by decide)] at hr
    subst hr
    clear HR3
    go_wp2_with (refine wpList_store_row rfl 153 _ _ rfl bx #[.int .i64 (100), .int .i64 (0), .int .i64 (0)] rfl rfl _ _ I3.out it_info rfl (it_all _ _ _) ?_)
    refine bodyPost_ret (sign_results _ bx (.int .i64 (100)) (.int .i64 (0)) (.int .i64 (0)) false _ rfl rfl (row_setg #[.int .i64 (100), .int .i64 (0), .int .i64 (0)] I3.out)) rfl ?_
    exact ⟨touch_below T3.out (row_belowg _ (Nat.le_of_eq HBX.out)), ⟨_, rfl, rfl⟩, F3.out.below rbx slx (row_belowg _ (Nat.le_refl _))⟩
   by_cases e115 : y = 115
   ·
    subst e115
    have hr := HR3.out
    rw [if_neg (by omega)] at hr
    rw [if_neg (by omega)] at hr
    rw [if_neg (by omega)] at hr
    rw [if_neg (by omega)] at hr
    rw [if_pos (by decide)] at hr
    subst hr
    clear HR3
    go_wp2_with (refine wpList_store_row rfl 153 _ _ rfl bx #[.int .i64 (115), .int .i64 (0), .int .i64 (0)] rfl rfl _ _ I3.out it_info rfl (it_all _ _ _) ?_)
    refine bodyPost_ret (sign_results _ bx (.int .i64 (115)) (.int .i64 (0)) (.int .i64 (0)) false _ rfl rfl (row_setg #[.int .i64 (115), .int .i64 (0), .int .i64 (0)] I3.out)) rfl ?_
    exact ⟨touch_below T3.out (row_belowg _ (Nat.le_of_eq HBX.out)), ⟨_, rfl, rfl⟩, F3.out.below rbx slx (row_belowg _ (Nat.le_refl _))⟩
   by_cases e119 : y = 119
   ·
    subst e119
    have hr := HR3.out
    rw [if_neg (by omega)] at hr
    rw [if_neg (by omega)] at hr
    rw [if_neg (by omega)] at hr
    rw [if_neg (by omega)] at hr
    rw [if_pos (by decide)] at hr
    subst hr
    clear HR3
    go_wp2_with (refine wpList_store_row rfl 153 _ _ rfl bx #[.int .i64 (119), .int .i64 (0), .int .i64 (0)] rfl rfl _ _ I3.out it_info rfl (it_all _ _ _) ?_)
    refine bodyPost_ret (sign_results _ bx (.int .i64 (119)) (.int .i64 (0)) (.int .i64 (0)) false _ rfl rfl (row_setg #[.int .i64 (119), .int .i64 (0), .int .i64 (0)] I3.out)) rfl ?_
    exact ⟨touch_below T3.out (row_belowg _ (Nat.le_of_eq HBX.out)), ⟨_, rfl, rfl⟩, F3.out.below rbx slx (row_belowg _ (Nat.le_refl _))⟩
   by_cases e108 : y = 108
   ·
    subst e108
    have hr := HR3.out
    rw [if_neg (by omega)] at hr
    rw [if_neg (by omega)] at hr
    rw [if_neg (by omega)] at hr
    rw [if_neg (by omega)] at hr
    rw [if_pos (by decide)] at hr
    subst hr
    clear HR3
    go_wp2_with (refine wpList_store_row rfl 153 _ _ rfl bx #[.int .i64 (108), .int .i64 (0), .int .i64 (0)] rfl rfl _ _ I3.out it_info rfl (it_all _ _ _) ?_)
    refine bodyPost_ret (sign_results _ bx (.int .i64 (108)) (.int .i64 (0)) (.int .i64 (0)) false _ rfl rfl (row_setg #[.int .i64 (108), .int .i64 (0), .int .i64 (0)] I3.out)) rfl ?_
    exact ⟨touch_below T3.out (row_belowg _ (Nat.le_of_eq HBX.out)), ⟨_, rfl, rfl⟩, F3.out.below rbx slx (row_belowg _ (Nat.le_refl _))⟩
   by_cases e117 : y = 117
   ·
    subst e117
    have hr := HR3.out
    rw [if_neg (by omega)] at hr
    rw [if_neg (by omega)] at hr
    rw [if_neg (by omega)] at hr
    rw [if_neg (by omega)] at hr
    rw [if_pos (by decide)] at hr
    subst hr
    clear HR3
    go_wp2_with (refine wpList_store_row rfl 153 _ _ rfl bx #[.int .i64 (117), .int .i64 (0), .int .i64 (0)] rfl rfl _ _ I3.out it_info rfl (it_all _ _ _) ?_)
    refine bodyPost_ret (sign_results _ bx (.int .i64 (117)) (.int .i64 (0)) (.int .i64 (0)) false _ rfl rfl (row_setg #[.int .i64 (117), .int .i64 (0), .int .i64 (0)] I3.out)) rfl ?_
    exact ⟨touch_below T3.out (row_belowg _ (Nat.le_of_eq HBX.out)), ⟨_, rfl, rfl⟩, F3.out.below rbx slx (row_belowg _ (Nat.le_refl _))⟩
   have hr := HR3.out
   rw [if_neg (by omega)] at hr
   rw [if_neg (by omega)] at hr
   rw [if_neg (by omega)] at hr
   rw [if_neg (by omega)] at hr
   rw [if_neg (by omega)] at hr
   have hr2 : R = .error a1 := by
    rw [← hr]
    exact congrArg Except.error (show a + 1 + 1 - 1 = a1 from by have := A1.out; omega)
   subst hr2
   have q9 : IntKind.i64.wrap ((a1 : Int) + 1 - 1) = (a1 : Int) := by rw [IntKind.wrap_i64]; omega
   clear hr
   go_wp2_with fail
   refine (fail_f rb pb (some ⟨g, off, none⟩) n c src (a + 1 + 1) a1 (by omega) w3 F3.out).mono ?_
   rintro e w4 ⟨rfl, t4, f4⟩
   have I4 := Lib.hid ((t4.block bx (heap_lt I3.out) (fun e => by have := RBX.out; omega)).trans I3.out)
   have T4 := Lib.hid (T3.out.trans t4 (fun y hy => .inl hy))
   have F4 := Lib.hid f4
   clear HR3 t4 f4
   go_wp2_with (refine wpList_store_row rfl 153 _ _ rfl bx #[.int .i64 (0), .int .i64 (0), .int .i64 (0)] rfl rfl _ _ I4.out it_info rfl (it_all _ _ _) ?_)
   refine bodyPost_ret (sign_results _ bx (.int .i64 (0)) (.int .i64 (0)) (.int .i64 (0)) false _ rfl rfl (row_setg #[.int .i64 (0), .int .i64 (0), .int .i64 (0)] I4.out)) rfl ?_
   exact ⟨touch_below T4.out (row_belowg _ (Nat.le_of_eq HBX.out)), ⟨_, rfl, itBad_mk _ _ _ _⟩, F4.out.below rbx slx (row_belowg _ (Nat.le_refl _))⟩
  ·
   have hnx2 : nx src { s with at' := a + 1 } = .error src.length := if_pos (by rw [hlen]; show n ≤ a + 1; omega)
   have hr := HRX.out
   rw [hnx2] at hr
   simp only at hr
   have hr2 : R = .error (a + 1) := by rw [← hr, hlen]; congr 1; omega
   subst hr2
   clear hr hnx2 HRX
   have q0 : (n : Int) ≤ ((a + 1 : Nat) : Int) := by omega
   go_wp2_with fail
   go_quiet (fail)
   go_wp2_with fail
   refine (fail_f rb pb (some ⟨g, off, none⟩) n c src (a + 1) (a + 1) (by omega) _ (F2.out.drewN _)).mono ?_
   rintro e w4 ⟨rfl, t4, f4⟩
   have I4 := Lib.hid ((t4.block bx (heap_lt I2.out) (fun e => by have := RBX.out; omega)).trans I2.out)
   have T4 := Lib.hid ((touch_drewN T2.out).trans t4 (fun y hy => .inl hy))
   have F4 := Lib.hid f4
   clear t4 f4
   go_wp2_with (refine wpList_store_row rfl 153 _ _ rfl bx #[.int .i64 (0), .int .i64 (0), .int .i64 (0)] rfl rfl _ _ I4.out it_info rfl (it_all _ _ _) ?_)
   refine bodyPost_ret (sign_results _ bx (.int .i64 (0)) (.int .i64 (0)) (.int .i64 (0)) false _ rfl rfl (row_setg #[.int .i64 (0), .int .i64 (0), .int .i64 (0)] I4.out)) rfl ?_
   exact ⟨touch_below T4.out (row_belowg _ (Nat.le_of_eq HBX.out)), ⟨_, rfl, itBad_mk _ _ _ _⟩, F4.out.below rbx slx (row_belowg _ (Nat.le_refl _))⟩
 ·
  have hxb : (x != 92) = true := by simp [hx92]
  have hr := HR2.out
  rw [if_pos hx92] at hr
  subst hr
  clear HR2
  go_wp2_with (refine wpList_store_row rfl 153 _ _ rfl bx #[.int .i64 (0), .int .i64 (x), .int .i64 (x)] rfl rfl _ _ I2.out it_info rfl (it_all _ _ _) ?_)
  refine bodyPost_ret (sign_results _ bx (.int .i64 (0)) (.int .i64 (x)) (.int .i64 (x)) true _ rfl rfl (row_setg #[.int .i64 (0), .int .i64 (x), .int .i64 (x)] I2.out)) rfl ?_
  exact ⟨touch_below T2.out (row_belowg _ (Nat.le_of_eq HBX.out)), ⟨_, rfl, rfl⟩, F2.out.below rbx slx (row_belowg _ (Nat.le_refl _))⟩
end Go.Proofs.YtdegdoilpamjjaaDoor
namespace Go.Proofs.YtdegdoilpamjjaaDoor
open Go.RowKit
set_option linter.unusedVariables false
set_option linter.unusedSimpArgs false
def strP (src : List Int) (lo : Int) (s : RS) : RR Unit := match signP src { s with at' := s.at' + 1 } with
 | .error e => .error e
 | .ok ((_, some _), s2) => .error (s2.at' - 1)
 | .ok ((hi, none), s2) => if 0 ≤ lo ∧ lo ≤ hi then .ok ((), s2) else if rawB lo = true ∧ rawB hi = true ∧ hi ≤ lo then .ok ((), s2) else .error (s2.at' - 1)
def itOne (v : Value) : Prop := ∃ (x y z : Int), v = .agg #[.int .i64 x, .int .i64 y, .int .i64 z]
theorem itOne_mk (x y z : Int) : itOne (.agg #[.int .i64 x, .int .i64 y, .int .i64 z]) := ⟨x, y, z, rfl⟩
theorem stretch_results (tmps : Array Value) (g : Nat) (x y z : Value) (w : World) (h2 : tmps.getD 4 undef = .pointer (some ⟨g, 0, none⟩)) (hg : w.heap[g]? = some (.cells #[x, y, z] 153 (0, 0))) :
  (results Tryd.f106 tmps).run Tryd.prog w = .ok (.agg #[x, y, z]) w := by
 have hl := run_loadVar_row (P := Tryd.prog) w g 153 153 #[x, y, z] (0, 0) _ hg Tryd.underlying153 rfl (by kernel_rfl)
 simp only [Array.getD_eq_getD_getElem?] at h2
 simp [results, Tryd.results106, h2, asAddr, hl]
theorem sign_at {src : List Int} {s s2 : RS} {r : Int × Option Int} (h : signP src s = .ok (r, s2)) : s.at' + 1 ≤ s2.at' := (sign_more h).1
set_option maxRecDepth 100000 in
set_option maxHeartbeats 16000000 in
theorem stretch_f (rb pb : Nat) (sl : Option Addr) (n c : Nat) (src : List Int) (s : RS) (lo : Int) (w : World) (h : FrM w rb pb sl n c src s.at' false) (hlt : s.at' + 1 < n) :
  Calls Tryd.prog 106 #[.pointer (some ⟨rb, 0, none⟩), .agg #[.int .i64 0, .int .i64 lo, .int .i64 lo]] w (FrP w rb pb sl n c src (strP src lo s) (fun _ v => itOne v) itOne) := by
 obtain ⟨R, hR⟩ : ∃ R, strP src lo s = R := ⟨_, rfl⟩
 rw [hR]
 obtain ⟨g, off, hgs, -⟩ := h.src.at (Below.refl _ _) hlt
 have hgw : g < w.heap.size := by
  rcases h.src with h0 | ⟨b', o', e, hb', hc'⟩
  · omega
  · rw [hgs] at e; cases e; exact hb'
 subst hgs
 have hrw : rb < w.heap.size := heap_lt h.blk
 have hn30 := h.n30
 have HR := Lib.hid hR
 have HRW := Lib.hid hrw
 obtain ⟨a, ha⟩ : ∃ a, s.at' = a := ⟨_, rfl⟩
 have HA := Lib.hid ha
 rw [ha] at hlt h
 have ob := below_newJ w (.cells #[.int .i64 0, .int .i64 lo, .int .i64 lo] 153)
 have oo := one_new w (.cells #[.int .i64 0, .int .i64 lo, .int .i64 lo] 153)
 have os := size_new w (.cells #[.int .i64 0, .int .i64 lo, .int .i64 lo] 153)
 obtain ⟨b3, hb3⟩ : ∃ b3, w.heap.size = b3 := ⟨_, rfl⟩
 generalize hwA : w.alloc (.cells #[.int .i64 0, .int .i64 lo, .int .i64 lo] 153) = wA at ob oo os
 have pb1 := below_newJ wA (.cells #[.int .i64 0, .int .i64 0, .int .i64 0] 153)
 have po := one_new wA (.cells #[.int .i64 0, .int .i64 0, .int .i64 0] 153)
 have ps := size_new wA (.cells #[.int .i64 0, .int .i64 0, .int .i64 0] 153)
 obtain ⟨b4, hb4⟩ : ∃ b4, wA.heap.size = b4 := ⟨_, rfl⟩
 generalize hwB : wA.alloc (.cells #[.int .i64 0, .int .i64 0, .int .i64 0] 153) = wB at pb1 po ps
 rw [hb3] at oo
 rw [hb4] at po
 have hB : Below w.heap.size w wB := ob.trans (pb1.mono ob.size)
 have hFB := h.later hB
 have i3 : wB.heap[b3]? = some (.cells #[.int .i64 0, .int .i64 lo, .int .i64 lo] 153 (0, 0)) := (pb1.block b3 (by omega)).trans oo
 have B34 := Lib.hid (show rb < b4 ∧ w.heap.size ≤ b4 from by omega)
 have slx : ∀ y, some (⟨g, off, none⟩ : Addr) = some y → y.block < b3 := fun y hy => by cases hy; show g < b3; omega
 have b34 : b3 < b4 := by omega
 have rb3 : rb < b3 := by omega
 have B3 := Lib.hid (show w.heap.size = b3 ∧ rb < b3 ∧ b3 < b4 from by omega)
 have b2 : wB.cell? ⟨rb, 2, none⟩ = some (.int .i64 a) := block_cell hFB.blk
 have f2 : wB.frozen? ⟨rb, 2, none⟩ = false := block_free hFB.blk
 have p3 : IntKind.i64.wrap ((a : Int) + 1) = (a : Int) + 1 := by rw [IntKind.wrap_i64]; omega
 have FB := Lib.hid hFB
 have TB := Lib.hid (Touch.of (O := fun b => b = rb) hB)
 have I3 := Lib.hid i3
 have I4 := Lib.hid po
 have hlen := h.len
 clear hR ha h ob oo os pb1 po ps hB hFB i3
 go_enter Tryd.func106, Tryd.ntmps106
 go_upto_region 2 with (fail)
 have fs := FB.out.step 1 (by omega)
 have ts := TB.out.trans (Touch.setCell (fun b => b = rb) wB (p := ⟨rb, 2, none⟩) rfl (.int .i64 ((a + 1 : Nat) : Int))) (fun x hx => .inl hx)
 have is3 : (wB.setCell ⟨rb, 2, none⟩ (.int .i64 ((a + 1 : Nat) : Int))).heap[b3]? = _ := (Below.heap_setCell _ _ _ _ (show b3 ≠ rb from by omega)).trans I3.out
 have is4 : (wB.setCell ⟨rb, 2, none⟩ (.int .i64 ((a + 1 : Nat) : Int))).heap[b4]? = _ := (Below.heap_setCell _ _ _ _ (show b4 ≠ rb from by omega)).trans I4.out
 rw [show ((a + 1 : Nat) : Int) = (a : Int) + 1 from by omega] at fs ts is3 is4
 generalize wB.setCell ⟨rb, 2, none⟩ (.int .i64 ((a : Int) + 1)) = w2 at fs ts is3 is4 ⊢
 clear hwA hwB b2 f2 p3 FB TB I3 I4
 have HRR := Lib.hid (show (match signP src { s with at' := a + 1 } with
  | .error e => .error e
  | .ok ((_, some _), s2) => .error (s2.at' - 1)
  | .ok ((hi, none), s2) => if 0 ≤ lo ∧ lo ≤ hi then .ok ((), s2) else if rawB lo = true ∧ rawB hi = true ∧ hi ≤ lo then .ok ((), s2) else .error (s2.at' - 1)) = R from by rw [← HA.out]; exact HR.out)
 have T2 := Lib.hid ts
 have J3 := Lib.hid is3
 have J4 := Lib.hid is4
 clear HR ts is3 is4
 go_wp2_with fail
 refine (sign_f rb pb (some ⟨g, off, none⟩) n c src { s with at' := a + 1 } w2 fs hlt).mono ?_
 rintro e w3 ⟨t3, h3⟩
 have T3 := Lib.hid (T2.out.trans t3 (fun y hy => .inl hy))
 have k3 := (t3.block b3 (heap_lt J3.out) (fun e => by have := B3.out; omega)).trans J3.out
 have k4 := (t3.block b4 (heap_lt J4.out) (fun e => by have := B3.out; omega)).trans J4.out
 have K3 := Lib.hid k3
 have K4 := Lib.hid k4
 have hb5 : b4 < w3.heap.size := heap_lt k4
 clear t3 k3 k4 J3 J4 T2 fs
 cases hs : signP src { s with at' := a + 1 } with
 | error k =>
  rw [hs] at h3
  have hr := HRR.out
  rw [hs] at hr
  subst hr
  obtain ⟨⟨v, rfl, x, y, z, bo, rfl⟩, f3⟩ := h3
  have F3 := Lib.hid f3
  clear HRR f3 hs
  go_upto_region 3 with (refine wpList_store_row rfl 153 _ _ rfl w3.heap.size #[.int .i64 (x), .int .i64 (y), .int .i64 (z)] rfl rfl _ _ (one_new w3 (.cells #[.int .i64 0, .int .i64 0, .int .i64 0] 153)) it_info rfl (it_all _ _ _) ?_)
  have nb := (below_newJ w3 (.cells #[.int .i64 0, .int .i64 0, .int .i64 0] 153)).trans (row_belowg (w := w3.alloc (.cells #[.int .i64 0, .int .i64 0, .int .i64 0] 153)) (g := w3.heap.size) #[.int .i64 (x), .int .i64 (y), .int .i64 (z)] (Nat.le_refl _))
  have n5 := row_setg #[.int .i64 (x), .int .i64 (y), .int .i64 (z)] (one_new w3 (.cells #[.int .i64 0, .int .i64 0, .int .i64 0] 153))
  change Code.wp _ _ _ _ ((w3.alloc (.cells #[.int .i64 0, .int .i64 0, .int .i64 0] 153)).setRow w3.heap.size #[.int .i64 (x), .int .i64 (y), .int .i64 (z)])
  generalize (w3.alloc (.cells #[.int .i64 0, .int .i64 0, .int .i64 0] 153)).setRow w3.heap.size #[.int .i64 (x), .int .i64 (y), .int .i64 (z)] = w4 at nb n5 ⊢
  have F4 := Lib.hid (F3.out.later nb)
  have T4 := Lib.hid (T3.out.trans (Touch.of (O := fun b => b = rb) nb) (fun y hy => .inl hy))
  have L3 := Lib.hid ((nb.block b3 (by omega)).trans K3.out)
  have L4 := Lib.hid ((nb.block b4 (by omega)).trans K4.out)
  have x0 : w4.cell? ⟨b3, 0, none⟩ = some (.int .i64 0) := block_cell L3.out
  have x1 : w4.cell? ⟨b3, 1, none⟩ = some (.int .i64 lo) := block_cell L3.out
  have x2 : w4.cell? ⟨b3, 2, none⟩ = some (.int .i64 lo) := block_cell L3.out
  have r3 : w4.cell? ⟨rb, 3, none⟩ = some (.bool true) := block_cell F4.out.blk
  have r2 : w4.cell? ⟨rb, 2, none⟩ = some (.int .i64 k) := block_cell F4.out.blk
  obtain ⟨b5, hb5e⟩ : ∃ b5, w3.heap.size = b5 := ⟨_, rfl⟩
  rw [hb5e] at n5
  have N5 := Lib.hid n5
  have y1 : w4.cell? ⟨b5, 1, none⟩ = some (.int .i64 (y)) := block_cell n5
  clear nb F3 T3 K3 K4 n5
  go_wp2_with (refine wpList_store_row rfl 153 _ _ rfl b4 #[.int .i64 (0), .int .i64 (lo), .int .i64 (lo)] rfl rfl _ _ L4.out it_info rfl (it_all _ _ _) ?_)
  refine bodyPost_ret (stretch_results _ b4 (.int .i64 (0)) (.int .i64 (lo)) (.int .i64 (lo)) _ rfl (row_setg #[.int .i64 (0), .int .i64 (lo), .int .i64 (lo)] L4.out)) rfl ?_
  exact ⟨touch_below T4.out (row_belowg _ B34.out.2), ⟨_, rfl, itOne_mk _ _ _⟩, F4.out.below (by have := B34.out; omega) (fun y hy => Nat.lt_of_lt_of_le (slx y hy) (by have := B34.out; omega)) (row_belowg _ (Nat.le_refl _))⟩
 | ok r =>
  obtain ⟨⟨hi, o⟩, s2⟩ := r
  rw [hs] at h3
  have hr := HRR.out
  rw [hs] at hr
  have hat2 := sign_at hs
  obtain ⟨⟨v, rfl, hv⟩, f3⟩ := h3
  obtain ⟨a2, ha2⟩ : ∃ a2, s2.at' = a2 := ⟨_, rfl⟩
  rw [ha2] at f3 hat2
  have hat3 : 1 ≤ a2 := Nat.le_trans (by omega) hat2
  have F3 := Lib.hid f3
  have A2 := Lib.hid ha2
  cases o with
  | some k =>
   obtain rfl := hv
   rw [show itV (hi, some k) = .tuple #[.agg #[.int .i64 k, .int .i64 0, .int .i64 0], .bool false] from rfl]
   have HRE := Lib.hid (show R = .error (s2.at' - 1) from hr.symm)
   clear HRR f3 hs hr ha2
   go_upto_region 3 with (refine wpList_store_row rfl 153 _ _ rfl w3.heap.size #[.int .i64 (k), .int .i64 (0), .int .i64 (0)] rfl rfl _ _ (one_new w3 (.cells #[.int .i64 0, .int .i64 0, .int .i64 0] 153)) it_info rfl (it_all _ _ _) ?_)
   have nb := (below_newJ w3 (.cells #[.int .i64 0, .int .i64 0, .int .i64 0] 153)).trans (row_belowg (w := w3.alloc (.cells #[.int .i64 0, .int .i64 0, .int .i64 0] 153)) (g := w3.heap.size) #[.int .i64 (k), .int .i64 (0), .int .i64 (0)] (Nat.le_refl _))
   have n5 := row_setg #[.int .i64 (k), .int .i64 (0), .int .i64 (0)] (one_new w3 (.cells #[.int .i64 0, .int .i64 0, .int .i64 0] 153))
   change Code.wp _ _ _ _ ((w3.alloc (.cells #[.int .i64 0, .int .i64 0, .int .i64 0] 153)).setRow w3.heap.size #[.int .i64 (k), .int .i64 (0), .int .i64 (0)])
   generalize (w3.alloc (.cells #[.int .i64 0, .int .i64 0, .int .i64 0] 153)).setRow w3.heap.size #[.int .i64 (k), .int .i64 (0), .int .i64 (0)] = w4 at nb n5 ⊢
   have F4 := Lib.hid (F3.out.later nb)
   have T4 := Lib.hid (T3.out.trans (Touch.of (O := fun b => b = rb) nb) (fun y hy => .inl hy))
   have L3 := Lib.hid ((nb.block b3 (by omega)).trans K3.out)
   have L4 := Lib.hid ((nb.block b4 (by omega)).trans K4.out)
   have x0 : w4.cell? ⟨b3, 0, none⟩ = some (.int .i64 0) := block_cell L3.out
   have x1 : w4.cell? ⟨b3, 1, none⟩ = some (.int .i64 lo) := block_cell L3.out
   have x2 : w4.cell? ⟨b3, 2, none⟩ = some (.int .i64 lo) := block_cell L3.out
   have r3 : w4.cell? ⟨rb, 3, none⟩ = some (.bool false) := block_cell F4.out.blk
   have r2 : w4.cell? ⟨rb, 2, none⟩ = some (.int .i64 a2) := block_cell F4.out.blk
   obtain ⟨b5, hb5e⟩ : ∃ b5, w3.heap.size = b5 := ⟨_, rfl⟩
   rw [hb5e] at n5
   have N5 := Lib.hid n5
   have y1 : w4.cell? ⟨b5, 1, none⟩ = some (.int .i64 (0)) := block_cell n5
   clear nb F3 T3 K3 K4 n5
   have q1 : IntKind.i64.wrap ((a2 : Int) - 1) = ((a2 - 1 : Nat) : Int) := by have := F4.out.at'; rw [IntKind.wrap_i64]; omega
   obtain ⟨a3, ha3⟩ : ∃ a3, a2 - 1 = a3 := ⟨_, rfl⟩
   rw [ha3] at q1
   have hr3 : R = .error a3 := by rw [HRE.out, A2.out, ha3]
   subst hr3
   clear HRE
   go_wp2_with fail
   refine (fail_f rb pb (some ⟨g, off, none⟩) n c src a2 a3 (by have := F4.out.at'; omega) w4 F4.out).mono ?_
   rintro e w5 ⟨rfl, t5, f5⟩
   have F5 := Lib.hid f5
   have T5 := Lib.hid (T4.out.trans t5 (fun y hy => .inl hy))
   have m3 := (t5.block b3 (heap_lt L3.out) (fun e => by have := B3.out; omega)).trans L3.out
   have M4 := Lib.hid ((t5.block b4 (heap_lt L4.out) (fun e => by have := B3.out; omega)).trans L4.out)
   have z0 : w5.cell? ⟨b3, 0, none⟩ = some (.int .i64 0) := block_cell m3
   have z1 : w5.cell? ⟨b3, 1, none⟩ = some (.int .i64 lo) := block_cell m3
   have z2 : w5.cell? ⟨b3, 2, none⟩ = some (.int .i64 lo) := block_cell m3
   clear t5 f5 m3 x0 x1 x2 r2 r3 y1
   go_wp2_with (refine wpList_store_row rfl 153 _ _ rfl b4 #[.int .i64 (0), .int .i64 (lo), .int .i64 (lo)] rfl rfl _ _ M4.out it_info rfl (it_all _ _ _) ?_)
   refine bodyPost_ret (stretch_results _ b4 (.int .i64 (0)) (.int .i64 (lo)) (.int .i64 (lo)) _ rfl (row_setg #[.int .i64 (0), .int .i64 (lo), .int .i64 (lo)] M4.out)) rfl ?_
   exact ⟨touch_below T5.out (row_belowg _ B34.out.2), ⟨_, rfl, itOne_mk _ _ _⟩, F5.out.below (by have := B34.out; omega) (fun y hy => Nat.lt_of_lt_of_le (slx y hy) (by have := B34.out; omega)) (row_belowg _ (Nat.le_refl _))⟩
  | none =>
   obtain rfl := hv
   rw [show itV (hi, none) = .tuple #[.agg #[.int .i64 0, .int .i64 hi, .int .i64 hi], .bool true] from rfl]
   have HR2 := Lib.hid hr
   clear HRR f3 hs hr ha2
   go_upto_region 3 with (refine wpList_store_row rfl 153 _ _ rfl w3.heap.size #[.int .i64 (0), .int .i64 (hi), .int .i64 (hi)] rfl rfl _ _ (one_new w3 (.cells #[.int .i64 0, .int .i64 0, .int .i64 0] 153)) it_info rfl (it_all _ _ _) ?_)
   have nb := (below_newJ w3 (.cells #[.int .i64 0, .int .i64 0, .int .i64 0] 153)).trans (row_belowg (w := w3.alloc (.cells #[.int .i64 0, .int .i64 0, .int .i64 0] 153)) (g := w3.heap.size) #[.int .i64 (0), .int .i64 (hi), .int .i64 (hi)] (Nat.le_refl _))
   have n5 := row_setg #[.int .i64 (0), .int .i64 (hi), .int .i64 (hi)] (one_new w3 (.cells #[.int .i64 0, .int .i64 0, .int .i64 0] 153))
   change Code.wp _ _ _ _ ((w3.alloc (.cells #[.int .i64 0, .int .i64 0, .int .i64 0] 153)).setRow w3.heap.size #[.int .i64 (0), .int .i64 (hi), .int .i64 (hi)])
   generalize (w3.alloc (.cells #[.int .i64 0, .int .i64 0, .int .i64 0] 153)).setRow w3.heap.size #[.int .i64 (0), .int .i64 (hi), .int .i64 (hi)] = w4 at nb n5 ⊢
   have F4 := Lib.hid (F3.out.later nb)
   have T4 := Lib.hid (T3.out.trans (Touch.of (O := fun b => b = rb) nb) (fun y hy => .inl hy))
   have L3 := Lib.hid ((nb.block b3 (by omega)).trans K3.out)
   have L4 := Lib.hid ((nb.block b4 (by omega)).trans K4.out)
   have x0 : w4.cell? ⟨b3, 0, none⟩ = some (.int .i64 0) := block_cell L3.out
   have x1 : w4.cell? ⟨b3, 1, none⟩ = some (.int .i64 lo) := block_cell L3.out
   have x2 : w4.cell? ⟨b3, 2, none⟩ = some (.int .i64 lo) := block_cell L3.out
   have r3 : w4.cell? ⟨rb, 3, none⟩ = some (.bool false) := block_cell F4.out.blk
   have r2 : w4.cell? ⟨rb, 2, none⟩ = some (.int .i64 a2) := block_cell F4.out.blk
   obtain ⟨b5, hb5e⟩ : ∃ b5, w3.heap.size = b5 := ⟨_, rfl⟩
   rw [hb5e] at n5
   have N5 := Lib.hid n5
   have y1 : w4.cell? ⟨b5, 1, none⟩ = some (.int .i64 (hi)) := block_cell n5
   clear nb F3 T3 K3 K4 n5
   by_cases p0 : 0 ≤ lo
   ·
    by_cases p1 : lo ≤ hi
    ·
     have hr2 := HR2.out
     rw [if_pos ⟨p0, p1⟩] at hr2
     subst hr2
     have hw1 : rawB lo = false := by unfold rawB; exact decide_eq_false (by omega)
     clear HR2
     go_wp2_with fail
     refine (raw_f lo w4).mono ?_
     rintro e w5 ⟨rfl, rfl⟩
     rw [hw1]
     have d3 := block_set (i := 2) (.int .i64 hi) L3.out
     have d4 : (w5.setCell ⟨b3, 2, none⟩ (.int .i64 hi)).heap[b4]? = _ := (Below.heap_setCell _ _ _ _ (show b4 ≠ b3 from by omega)).trans L4.out
     have td := touch_below T4.out ((Below.refl w.heap.size w5).setCell (p := ⟨b3, 2, none⟩) (Nat.le_of_eq B3.out.1) (.int .i64 hi))
     have fd := F4.out.below rb3 slx ((Below.refl b3 w5).setCell (p := ⟨b3, 2, none⟩) (Nat.le_refl _) (.int .i64 hi))
     have fr3 : w5.frozen? ⟨b3, 2, none⟩ = false := block_free L3.out
     go_upto_region 15 with (fail)
     generalize w5.setCell ⟨b3, 2, none⟩ (.int .i64 hi) = w7 at d3 d4 td fd ⊢
     have z0 : w7.cell? ⟨b3, 0, none⟩ = some (.int .i64 0) := block_cell d3
     have z1 : w7.cell? ⟨b3, 1, none⟩ = some (.int .i64 lo) := block_cell d3
     have z2 : w7.cell? ⟨b3, 2, none⟩ = some (.int .i64 hi) := block_cell d3
     have fd2 : FrM w7 rb pb (some ⟨g, off, none⟩) n c src s2.at' false := by rw [A2.out]; exact fd
     clear x0 x1 x2 r2 r3 y1 d3 fr3
     go_wp2_with (refine wpList_store_row rfl 153 _ _ rfl b4 #[.int .i64 (0), .int .i64 (lo), .int .i64 (hi)] rfl rfl _ _ d4 it_info rfl (it_all _ _ _) ?_)
     refine bodyPost_ret (stretch_results _ b4 (.int .i64 (0)) (.int .i64 (lo)) (.int .i64 (hi)) _ rfl (row_setg #[.int .i64 (0), .int .i64 (lo), .int .i64 (hi)] d4)) rfl ?_
     exact ⟨touch_below td (row_belowg _ B34.out.2), ⟨_, rfl, itOne_mk _ _ _⟩, fd2.below (by have := B34.out; omega) (fun y hy => Nat.lt_of_lt_of_le (slx y hy) (by have := B34.out; omega)) (row_belowg _ (Nat.le_refl _))⟩
    ·
     have hw1 : rawB lo = false := by unfold rawB; exact decide_eq_false (by omega)
     have hr2 := HR2.out
     rw [if_neg (fun e => p1 e.2), if_neg (fun e => by rw [hw1] at e; cases e.1)] at hr2
     have HRE := Lib.hid hr2.symm
     clear hr2
     have p2 : ¬ lo ≤ hi := p1
     clear HR2
     go_wp2_with fail
     refine (raw_f lo w4).mono ?_
     rintro e w5 ⟨rfl, rfl⟩
     rw [hw1]
     have q1 : IntKind.i64.wrap ((a2 : Int) - 1) = ((a2 - 1 : Nat) : Int) := by have := F4.out.at'; rw [IntKind.wrap_i64]; omega
     obtain ⟨a3, ha3⟩ : ∃ a3, a2 - 1 = a3 := ⟨_, rfl⟩
     rw [ha3] at q1
     have hr3 : R = .error a3 := by rw [HRE.out, A2.out, ha3]
     subst hr3
     clear HRE
     go_wp2_with fail
     refine (fail_f rb pb (some ⟨g, off, none⟩) n c src a2 a3 (by have := F4.out.at'; omega) w5 F4.out).mono ?_
     rintro e w8 ⟨rfl, t5, f5⟩
     have F5 := Lib.hid f5
     have T5 := Lib.hid (T4.out.trans t5 (fun y hy => .inl hy))
     have m3 := (t5.block b3 (heap_lt L3.out) (fun e => by have := B3.out; omega)).trans L3.out
     have M4 := Lib.hid ((t5.block b4 (heap_lt L4.out) (fun e => by have := B3.out; omega)).trans L4.out)
     have z0 : w8.cell? ⟨b3, 0, none⟩ = some (.int .i64 0) := block_cell m3
     have z1 : w8.cell? ⟨b3, 1, none⟩ = some (.int .i64 lo) := block_cell m3
     have z2 : w8.cell? ⟨b3, 2, none⟩ = some (.int .i64 lo) := block_cell m3
     have m3k := m3
     clear t5 f5 m3 x0 x1 x2 r2 r3 y1
     go_upto_region 14 with (fail)
     have z3 : w8.frozen? ⟨b3, 2, none⟩ = false := block_free m3k
     have d3 := block_set (i := 2) (.int .i64 hi) m3k
     have d4 : (w8.setCell ⟨b3, 2, none⟩ (.int .i64 hi)).heap[b4]? = _ := (Below.heap_setCell _ _ _ _ (show b4 ≠ b3 from by omega)).trans M4.out
     have td := touch_below T5.out ((Below.refl w.heap.size w8).setCell (p := ⟨b3, 2, none⟩) (Nat.le_of_eq B3.out.1) (.int .i64 hi))
     have fd := F5.out.below rb3 slx ((Below.refl b3 w8).setCell (p := ⟨b3, 2, none⟩) (Nat.le_refl _) (.int .i64 hi))
     go_upto_region 15 with (fail)
     generalize w8.setCell ⟨b3, 2, none⟩ (.int .i64 hi) = w7 at d3 d4 td fd ⊢
     clear z0 z1 z2 z3
     have z0 : w7.cell? ⟨b3, 0, none⟩ = some (.int .i64 0) := block_cell d3
     have z1 : w7.cell? ⟨b3, 1, none⟩ = some (.int .i64 lo) := block_cell d3
     have z2 : w7.cell? ⟨b3, 2, none⟩ = some (.int .i64 hi) := block_cell d3
     clear d3 m3k
     go_wp2_with (refine wpList_store_row rfl 153 _ _ rfl b4 #[.int .i64 (0), .int .i64 (lo), .int .i64 (hi)] rfl rfl _ _ d4 it_info rfl (it_all _ _ _) ?_)
     refine bodyPost_ret (stretch_results _ b4 (.int .i64 (0)) (.int .i64 (lo)) (.int .i64 (hi)) _ rfl (row_setg #[.int .i64 (0), .int .i64 (lo), .int .i64 (hi)] d4)) rfl ?_
     exact ⟨touch_below td (row_belowg _ B34.out.2), ⟨_, rfl, itOne_mk _ _ _⟩, fd.below (by have := B34.out; omega) (fun y hy => Nat.lt_of_lt_of_le (slx y hy) (by have := B34.out; omega)) (row_belowg _ (Nat.le_refl _))⟩
   ·
    cases hw1 : rawB lo with
    | false =>
     have hr2 := HR2.out
     rw [if_neg (fun e => p0 e.1), if_neg (fun e => by rw [hw1] at e; cases e.1)] at hr2
     have HRE := Lib.hid hr2.symm
     clear hr2
     clear HR2
     go_wp2_with fail
     refine (raw_f lo w4).mono ?_
     rintro e w5 ⟨rfl, rfl⟩
     rw [hw1]
     have q1 : IntKind.i64.wrap ((a2 : Int) - 1) = ((a2 - 1 : Nat) : Int) := by have := F4.out.at'; rw [IntKind.wrap_i64]; omega
     obtain ⟨a3, ha3⟩ : ∃ a3, a2 - 1 = a3 := ⟨_, rfl⟩
     rw [ha3] at q1
     have hr3 : R = .error a3 := by rw [HRE.out, A2.out, ha3]
     subst hr3
     clear HRE
     go_wp2_with fail
     refine (fail_f rb pb (some ⟨g, off, none⟩) n c src a2 a3 (by have := F4.out.at'; omega) w5 F4.out).mono ?_
     rintro e w8 ⟨rfl, t5, f5⟩
     have F5 := Lib.hid f5
     have T5 := Lib.hid (T4.out.trans t5 (fun y hy => .inl hy))
     have m3 := (t5.block b3 (heap_lt L3.out) (fun e => by have := B3.out; omega)).trans L3.out
     have M4 := Lib.hid ((t5.block b4 (heap_lt L4.out) (fun e => by have := B3.out; omega)).trans L4.out)
     have z0 : w8.cell? ⟨b3, 0, none⟩ = some (.int .i64 0) := block_cell m3
     have z1 : w8.cell? ⟨b3, 1, none⟩ = some (.int .i64 lo) := block_cell m3
     have z2 : w8.cell? ⟨b3, 2, none⟩ = some (.int .i64 lo) := block_cell m3
     have m3k := m3
     clear t5 f5 m3 x0 x1 x2 r2 r3 y1
     go_upto_region 14 with (fail)
     have z3 : w8.frozen? ⟨b3, 2, none⟩ = false := block_free m3k
     have d3 := block_set (i := 2) (.int .i64 hi) m3k
     have d4 : (w8.setCell ⟨b3, 2, none⟩ (.int .i64 hi)).heap[b4]? = _ := (Below.heap_setCell _ _ _ _ (show b4 ≠ b3 from by omega)).trans M4.out
     have td := touch_below T5.out ((Below.refl w.heap.size w8).setCell (p := ⟨b3, 2, none⟩) (Nat.le_of_eq B3.out.1) (.int .i64 hi))
     have fd := F5.out.below rb3 slx ((Below.refl b3 w8).setCell (p := ⟨b3, 2, none⟩) (Nat.le_refl _) (.int .i64 hi))
     go_upto_region 15 with (fail)
     generalize w8.setCell ⟨b3, 2, none⟩ (.int .i64 hi) = w7 at d3 d4 td fd ⊢
     clear z0 z1 z2 z3
     have z0 : w7.cell? ⟨b3, 0, none⟩ = some (.int .i64 0) := block_cell d3
     have z1 : w7.cell? ⟨b3, 1, none⟩ = some (.int .i64 lo) := block_cell d3
     have z2 : w7.cell? ⟨b3, 2, none⟩ = some (.int .i64 hi) := block_cell d3
     clear d3 m3k
     go_wp2_with (refine wpList_store_row rfl 153 _ _ rfl b4 #[.int .i64 (0), .int .i64 (lo), .int .i64 (hi)] rfl rfl _ _ d4 it_info rfl (it_all _ _ _) ?_)
     refine bodyPost_ret (stretch_results _ b4 (.int .i64 (0)) (.int .i64 (lo)) (.int .i64 (hi)) _ rfl (row_setg #[.int .i64 (0), .int .i64 (lo), .int .i64 (hi)] d4)) rfl ?_
     exact ⟨touch_below td (row_belowg _ B34.out.2), ⟨_, rfl, itOne_mk _ _ _⟩, fd.below (by have := B34.out; omega) (fun y hy => Nat.lt_of_lt_of_le (slx y hy) (by have := B34.out; omega)) (row_belowg _ (Nat.le_refl _))⟩
    | true =>
     cases hw2 : rawB hi with
     | false =>
      have hr2 := HR2.out
      rw [if_neg (fun e => p0 e.1), if_neg (fun e => by rw [hw2] at e; cases e.2.1)] at hr2
      have HRE := Lib.hid hr2.symm
      clear hr2
      clear HR2
      go_wp2_with fail
      refine (raw_f lo w4).mono ?_
      rintro e w5 ⟨rfl, rfl⟩
      rw [hw1]
      go_wp2_with fail
      refine (raw_f hi w5).mono ?_
      rintro e w6 ⟨rfl, rfl⟩
      rw [hw2]
      have q1 : IntKind.i64.wrap ((a2 : Int) - 1) = ((a2 - 1 : Nat) : Int) := by have := F4.out.at'; rw [IntKind.wrap_i64]; omega
      obtain ⟨a3, ha3⟩ : ∃ a3, a2 - 1 = a3 := ⟨_, rfl⟩
      rw [ha3] at q1
      have hr3 : R = .error a3 := by rw [HRE.out, A2.out, ha3]
      subst hr3
      clear HRE
      go_wp2_with fail
      refine (fail_f rb pb (some ⟨g, off, none⟩) n c src a2 a3 (by have := F4.out.at'; omega) w6 F4.out).mono ?_
      rintro e w8 ⟨rfl, t5, f5⟩
      have F5 := Lib.hid f5
      have T5 := Lib.hid (T4.out.trans t5 (fun y hy => .inl hy))
      have m3 := (t5.block b3 (heap_lt L3.out) (fun e => by have := B3.out; omega)).trans L3.out
      have M4 := Lib.hid ((t5.block b4 (heap_lt L4.out) (fun e => by have := B3.out; omega)).trans L4.out)
      have z0 : w8.cell? ⟨b3, 0, none⟩ = some (.int .i64 0) := block_cell m3
      have z1 : w8.cell? ⟨b3, 1, none⟩ = some (.int .i64 lo) := block_cell m3
      have z2 : w8.cell? ⟨b3, 2, none⟩ = some (.int .i64 lo) := block_cell m3
      have m3k := m3
      clear t5 f5 m3 x0 x1 x2 r2 r3 y1
      go_upto_region 14 with (fail)
      have z3 : w8.frozen? ⟨b3, 2, none⟩ = false := block_free m3k
      have d3 := block_set (i := 2) (.int .i64 hi) m3k
      have d4 : (w8.setCell ⟨b3, 2, none⟩ (.int .i64 hi)).heap[b4]? = _ := (Below.heap_setCell _ _ _ _ (show b4 ≠ b3 from by omega)).trans M4.out
      have td := touch_below T5.out ((Below.refl w.heap.size w8).setCell (p := ⟨b3, 2, none⟩) (Nat.le_of_eq B3.out.1) (.int .i64 hi))
      have fd := F5.out.below rb3 slx ((Below.refl b3 w8).setCell (p := ⟨b3, 2, none⟩) (Nat.le_refl _) (.int .i64 hi))
      go_upto_region 15 with (fail)
      generalize w8.setCell ⟨b3, 2, none⟩ (.int .i64 hi) = w7 at d3 d4 td fd ⊢
      clear z0 z1 z2 z3
      have z0 : w7.cell? ⟨b3, 0, none⟩ = some (.int .i64 0) := block_cell d3
      have z1 : w7.cell? ⟨b3, 1, none⟩ = some (.int .i64 lo) := block_cell d3
      have z2 : w7.cell? ⟨b3, 2, none⟩ = some (.int .i64 hi) := block_cell d3
      clear d3 m3k
      go_wp2_with (refine wpList_store_row rfl 153 _ _ rfl b4 #[.int .i64 (0), .int .i64 (lo), .int .i64 (hi)] rfl rfl _ _ d4 it_info rfl (it_all _ _ _) ?_)
      refine bodyPost_ret (stretch_results _ b4 (.int .i64 (0)) (.int .i64 (lo)) (.int .i64 (hi)) _ rfl (row_setg #[.int .i64 (0), .int .i64 (lo), .int .i64 (hi)] d4)) rfl ?_
      exact ⟨touch_below td (row_belowg _ B34.out.2), ⟨_, rfl, itOne_mk _ _ _⟩, fd.below (by have := B34.out; omega) (fun y hy => Nat.lt_of_lt_of_le (slx y hy) (by have := B34.out; omega)) (row_belowg _ (Nat.le_refl _))⟩
     | true =>
      by_cases p1 : hi ≤ lo
      ·
       have hr2 := HR2.out
       rw [if_neg (fun e => p0 e.1), if_pos ⟨hw1, hw2, p1⟩] at hr2
       subst hr2
       clear HR2
       go_wp2_with fail
       refine (raw_f lo w4).mono ?_
       rintro e w5 ⟨rfl, rfl⟩
       rw [hw1]
       go_wp2_with fail
       refine (raw_f hi w5).mono ?_
       rintro e w6 ⟨rfl, rfl⟩
       rw [hw2]
       have d3 := block_set (i := 2) (.int .i64 hi) L3.out
       have d4 : (w6.setCell ⟨b3, 2, none⟩ (.int .i64 hi)).heap[b4]? = _ := (Below.heap_setCell _ _ _ _ (show b4 ≠ b3 from by omega)).trans L4.out
       have td := touch_below T4.out ((Below.refl w.heap.size w6).setCell (p := ⟨b3, 2, none⟩) (Nat.le_of_eq B3.out.1) (.int .i64 hi))
       have fd := F4.out.below rb3 slx ((Below.refl b3 w6).setCell (p := ⟨b3, 2, none⟩) (Nat.le_refl _) (.int .i64 hi))
       have fr3 : w6.frozen? ⟨b3, 2, none⟩ = false := block_free L3.out
       go_upto_region 15 with (fail)
       generalize w6.setCell ⟨b3, 2, none⟩ (.int .i64 hi) = w7 at d3 d4 td fd ⊢
       have z0 : w7.cell? ⟨b3, 0, none⟩ = some (.int .i64 0) := block_cell d3
       have z1 : w7.cell? ⟨b3, 1, none⟩ = some (.int .i64 lo) := block_cell d3
       have z2 : w7.cell? ⟨b3, 2, none⟩ = some (.int .i64 hi) := block_cell d3
       have fd2 : FrM w7 rb pb (some ⟨g, off, none⟩) n c src s2.at' false := by rw [A2.out]; exact fd
       clear x0 x1 x2 r2 r3 y1 d3 fr3
       go_wp2_with (refine wpList_store_row rfl 153 _ _ rfl b4 #[.int .i64 (0), .int .i64 (lo), .int .i64 (hi)] rfl rfl _ _ d4 it_info rfl (it_all _ _ _) ?_)
       refine bodyPost_ret (stretch_results _ b4 (.int .i64 (0)) (.int .i64 (lo)) (.int .i64 (hi)) _ rfl (row_setg #[.int .i64 (0), .int .i64 (lo), .int .i64 (hi)] d4)) rfl ?_
       exact ⟨touch_below td (row_belowg _ B34.out.2), ⟨_, rfl, itOne_mk _ _ _⟩, fd2.below (by have := B34.out; omega) (fun y hy => Nat.lt_of_lt_of_le (slx y hy) (by have := B34.out; omega)) (row_belowg _ (Nat.le_refl _))⟩
      ·
       have hr2 := HR2.out
       rw [if_neg (fun e => p0 e.1), if_neg (fun e => p1 e.2.2)] at hr2
       have p2 : decide (hi ≤ lo) = false := decide_eq_false p1
       have p3 : lo < hi := by omega
       have HRE := Lib.hid hr2.symm
       clear hr2
       clear HR2
       go_wp2_with fail
       refine (raw_f lo w4).mono ?_
       rintro e w5 ⟨rfl, rfl⟩
       rw [hw1]
       go_wp2_with fail
       refine (raw_f hi w5).mono ?_
       rintro e w6 ⟨rfl, rfl⟩
       rw [hw2]
       have q1 : IntKind.i64.wrap ((a2 : Int) - 1) = ((a2 - 1 : Nat) : Int) := by have := F4.out.at'; rw [IntKind.wrap_i64]; omega
       obtain ⟨a3, ha3⟩ : ∃ a3, a2 - 1 = a3 := ⟨_, rfl⟩
       rw [ha3] at q1
       have hr3 : R = .error a3 := by rw [HRE.out, A2.out, ha3]
       subst hr3
       clear HRE
       go_wp2_with fail
       refine (fail_f rb pb (some ⟨g, off, none⟩) n c src a2 a3 (by have := F4.out.at'; omega) w6 F4.out).mono ?_
       rintro e w8 ⟨rfl, t5, f5⟩
       have F5 := Lib.hid f5
       have T5 := Lib.hid (T4.out.trans t5 (fun y hy => .inl hy))
       have m3 := (t5.block b3 (heap_lt L3.out) (fun e => by have := B3.out; omega)).trans L3.out
       have M4 := Lib.hid ((t5.block b4 (heap_lt L4.out) (fun e => by have := B3.out; omega)).trans L4.out)
       have z0 : w8.cell? ⟨b3, 0, none⟩ = some (.int .i64 0) := block_cell m3
       have z1 : w8.cell? ⟨b3, 1, none⟩ = some (.int .i64 lo) := block_cell m3
       have z2 : w8.cell? ⟨b3, 2, none⟩ = some (.int .i64 lo) := block_cell m3
       have m3k := m3
       clear t5 f5 m3 x0 x1 x2 r2 r3 y1
       go_upto_region 14 with (fail)
       have z3 : w8.frozen? ⟨b3, 2, none⟩ = false := block_free m3k
       have d3 := block_set (i := 2) (.int .i64 hi) m3k
       have d4 : (w8.setCell ⟨b3, 2, none⟩ (.int .i64 hi)).heap[b4]? = _ := (Below.heap_setCell _ _ _ _ (show b4 ≠ b3 from by omega)).trans M4.out
       have td := touch_below T5.out ((Below.refl w.heap.size w8).setCell (p := ⟨b3, 2, none⟩) (Nat.le_of_eq B3.out.1) (.int .i64 hi))
       have fd := F5.out.below rb3 slx ((Below.refl b3 w8).setCell (p := ⟨b3, 2, none⟩) (Nat.le_refl _) (.int .i64 hi))
       go_upto_region 15 with (fail)
       generalize w8.setCell ⟨b3, 2, none⟩ (.int .i64 hi) = w7 at d3 d4 td fd ⊢
       clear z0 z1 z2 z3
       have z0 : w7.cell? ⟨b3, 0, none⟩ = some (.int .i64 0) := block_cell d3
       have z1 : w7.cell? ⟨b3, 1, none⟩ = some (.int .i64 lo) := block_cell d3
       have z2 : w7.cell? ⟨b3, 2, none⟩ = some (.int .i64 hi) := block_cell d3
       clear d3 m3k
       go_wp2_with (refine wpList_store_row rfl 153 _ _ rfl b4 #[.int .i64 (0), .int .i64 (lo), .int .i64 (hi)] rfl rfl _ _ d4 it_info rfl (it_all _ _ _) ?_)
       refine bodyPost_ret (stretch_results _ b4 (.int .i64 (0)) (.int .i64 (lo)) (.int .i64 (hi)) _ rfl (row_setg #[.int .i64 (0), .int .i64 (lo), .int .i64 (hi)] d4)) rfl ?_
       exact ⟨touch_below td (row_belowg _ B34.out.2), ⟨_, rfl, itOne_mk _ _ _⟩, fd.below (by have := B34.out; omega) (fun y hy => Nat.lt_of_lt_of_le (slx y hy) (by have := B34.out; omega)) (row_belowg _ (Nat.le_refl _))⟩
end Go.Proofs.YtdegdoilpamjjaaDoor
namespace Go.Proofs.YtdegdoilpamjjaaDoor
open Go.RowKit
set_option linter.unusedVariables false
set_option linter.unusedSimpArgs false
def codP (src : List Int) (s : RS) : RR Int := match nx src s with
 | .error e => .error e
 | .ok (x, s3) => if x = 117 then hexP src 65535 4 0 s3 else if x = 85 then hexP src 1114111 6 0 s3 else .error (s3.at' - 1)
set_option maxRecDepth 100000 in
set_option maxHeartbeats 8000000 in
theorem code_f (rb pb : Nat) (sl : Option Addr) (n c : Nat) (src : List Int) (s : RS) (w : World) (h : FrM w rb pb sl n c src s.at' false) :
  Calls Tryd.prog 107 #[.pointer (some ⟨rb, 0, none⟩)] w (FrP w rb pb sl n c src (codP src s) (fun x v => v = .int .i64 x ∧ 0 ≤ x ∧ x ≤ 1114111) (fun v => ∃ x : Int, v = .int .i64 x ∧ -1 ≤ x ∧ x ≤ 0)) := by
 obtain ⟨R, hR⟩ : ∃ R, codP src s = R := ⟨_, rfl⟩
 rw [hR]
 have hlen := h.len
 have hat := h.at'
 have hn30 := h.n30
 have b1 : w.cell? ⟨rb, 1, none⟩ = some (.slice sl n c) := block_cell h.blk
 have b2 : w.cell? ⟨rb, 2, none⟩ = some (.int .i64 s.at') := block_cell h.blk
 have f2 : w.frozen? ⟨rb, 2, none⟩ = false := block_free h.blk
 unfold codP at hR
 by_cases hlt : s.at' < n
 ·
  obtain ⟨g, off, hgs, c0⟩ := h.src.at (Below.refl _ _) hlt
  have hnx : nx src s = .ok (gl src s.at', { s with at' := s.at' + 1 }) := if_neg (by rw [hlen]; omega)
  rw [hnx] at hR
  simp only at hR
  subst hgs
  obtain ⟨x, hx⟩ : ∃ x, gl src s.at' = x := ⟨_, rfl⟩
  rw [hx] at hR c0
  obtain ⟨a, ha⟩ : ∃ a, s.at' = a := ⟨_, rfl⟩
  rw [ha] at b2 hlt c0 hat h
  have hR2 : (if x = 117 then hexP src 65535 4 0 { s with at' := a + 1 } else if x = 85 then hexP src 1114111 6 0 { s with at' := a + 1 } else .error a) = R := by
   rw [← ha]; exact hR
  have HRR := Lib.hid hR2
  have F := Lib.hid h
  have p1 : ¬ (n : Int) ≤ (a : Int) := by omega
  have p2 : (0 : Int) ≤ (a : Int) := by omega
  have p3 : IntKind.i64.wrap ((a : Int) + 1) = (a : Int) + 1 := by rw [IntKind.wrap_i64]; omega
  have p4 : (a : Int) < (n : Int) := by omega
  have p5 : decide (n ≤ a) = false := decide_eq_false (by omega)
  clear hR hR2 hnx h hx ha
  by_cases e1 : x = 117
  ·
   subst e1
   have hr := HRR.out
   rw [if_pos rfl] at hr
   have HX := Lib.hid hr
   have fs := fun m => (F.out.drewN m).step 1 (by omega)
   have ec : ((a + 1 : Nat) : Int) = (a : Int) + 1 := by omega
   rw [ec] at fs
   have ts := fun m => (touch_drewN (n := m) (Touch.refl (fun b => b = rb) w)).trans (Touch.setCell (fun b => b = rb) (w.drewN m) (p := ⟨rb, 2, none⟩) rfl (.int .i64 ((a : Int) + 1))) (fun x hx => .inl hx)
   clear HRR hr ec
   go_enter Tryd.func107, Tryd.ntmps107
   go_wp2_with fail
   go_quiet (fail)
   go_wp2_with fail
   go_quiet (fail)
   go_wp2_with fail
   refine (hex_f 4 (by decide) 65535 (by decide) (by decide) rb pb (some ⟨g, off, none⟩) n c src { s with at' := a + 1 } _ (fs _)).mono ?_
   rintro e w4 ⟨t4, h4⟩
   have t5 := (ts _).trans t4 (fun y hy => .inl hy)
   have T5 := Lib.hid t5
   have hh := HX.out
   cases hq : hexP src 65535 4 0 { s with at' := a + 1 } with
   | error k =>
    rw [hq] at h4 hh
    obtain ⟨⟨v, rfl, rfl⟩, f4⟩ := h4
    have F4 := Lib.hid f4
    subst hh
    clear HX f4 t4 t5 fs ts hq F
    go_wp2
    go_ret
    exact ⟨T5.out, ⟨_, rfl, -1, rfl, by omega, by omega⟩, F4.out⟩
   | ok r =>
    obtain ⟨v, s4⟩ := r
    rw [hq] at h4 hh
    obtain ⟨⟨v', rfl, rfl, v0, v1⟩, f4⟩ := h4
    have F4 := Lib.hid f4
    subst hh
    clear HX f4 t4 t5 fs ts hq F
    go_wp2
    go_ret
    exact ⟨T5.out, ⟨_, rfl, rfl, by omega, by omega⟩, F4.out⟩
  by_cases e2 : x = 85
  ·
   subst e2
   have hr := HRR.out
   rw [if_neg (by omega), if_pos rfl] at hr
   have HX := Lib.hid hr
   have fs := fun m => (F.out.drewN m).step 1 (by omega)
   have ec : ((a + 1 : Nat) : Int) = (a : Int) + 1 := by omega
   rw [ec] at fs
   have ts := fun m => (touch_drewN (n := m) (Touch.refl (fun b => b = rb) w)).trans (Touch.setCell (fun b => b = rb) (w.drewN m) (p := ⟨rb, 2, none⟩) rfl (.int .i64 ((a : Int) + 1))) (fun x hx => .inl hx)
   clear HRR hr ec
   go_enter Tryd.func107, Tryd.ntmps107
   go_wp2_with fail
   go_quiet (fail)
   go_wp2_with fail
   go_quiet (fail)
   go_wp2_with fail
   refine (hex_f 6 (by decide) 1114111 (by decide) (by decide) rb pb (some ⟨g, off, none⟩) n c src { s with at' := a + 1 } _ (fs _)).mono ?_
   rintro e w4 ⟨t4, h4⟩
   have t5 := (ts _).trans t4 (fun y hy => .inl hy)
   have T5 := Lib.hid t5
   have hh := HX.out
   cases hq : hexP src 1114111 6 0 { s with at' := a + 1 } with
   | error k =>
    rw [hq] at h4 hh
    obtain ⟨⟨v, rfl, rfl⟩, f4⟩ := h4
    have F4 := Lib.hid f4
    subst hh
    clear HX f4 t4 t5 fs ts hq F
    go_wp2
    go_ret
    exact ⟨T5.out, ⟨_, rfl, -1, rfl, by omega, by omega⟩, F4.out⟩
   | ok r =>
    obtain ⟨v, s4⟩ := r
    rw [hq] at h4 hh
    obtain ⟨⟨v', rfl, rfl, v0, v1⟩, f4⟩ := h4
    have F4 := Lib.hid f4
    subst hh
    clear HX f4 t4 t5 fs ts hq F
    go_wp2
    go_ret
    exact ⟨T5.out, ⟨_, rfl, rfl, by omega, by omega⟩, F4.out⟩
  ·
   have hr := HRR.out
   rw [if_neg e1, if_neg e2] at hr
   subst hr
   have e3 : (x != 117) = true := by simp [e1]
   have e4 : (x != 85) = true := by simp [e2]
   clear HRR
   go_enter Tryd.func107, Tryd.ntmps107
   go_wp2_with fail
   go_quiet (fail)
   go_wp2_with fail
   refine (fail_f rb pb (some ⟨g, off, none⟩) n c src a a (by omega) _ (F.out.drewN _)).mono ?_
   rintro e w4 ⟨rfl, t4, f4⟩
   have F4 := Lib.hid f4
   have T4 := Lib.hid ((touch_drewN (Touch.refl (fun b => b = rb) w)).trans t4 (fun y hy => .inl hy))
   clear t4 f4 F
   go_wp2
   go_ret
   exact ⟨T4.out, ⟨_, rfl, 0, rfl, by omega, by omega⟩, F4.out⟩
 ·
  have hnx : nx src s = .error src.length := if_pos (by rw [hlen]; omega)
  rw [hnx] at hR
  have hr : R = .error s.at' := by rw [← hR, hlen]; exact congrArg Except.error (show n = s.at' by omega)
  subst hr
  obtain ⟨a, ha⟩ : ∃ a, s.at' = a := ⟨_, rfl⟩
  rw [ha] at b2 hlt hat h ⊢
  have F := Lib.hid h
  have p1 : (n : Int) ≤ (a : Int) := by omega
  have p5 : n ≤ a := by omega
  have HRR := hR
  clear hR hnx h ha
  clear HRR
  go_enter Tryd.func107, Tryd.ntmps107
  go_wp2_with fail
  go_quiet (fail)
  go_wp2_with fail
  refine (fail_f rb pb sl n c src a a (by omega) _ (F.out.drewN _)).mono ?_
  rintro e w4 ⟨rfl, t4, f4⟩
  have F4 := Lib.hid f4
  have T4 := Lib.hid ((touch_drewN (Touch.refl (fun b => b = rb) w)).trans t4 (fun y hy => .inl hy))
  clear t4 f4 F
  go_wp2
  go_ret
  exact ⟨T4.out, ⟨_, rfl, 0, rfl, by omega, by omega⟩, F4.out⟩
end Go.Proofs.YtdegdoilpamjjaaDoor
namespace Go.Proofs.YtdegdoilpamjjaaDoor
open Go.RowKit
set_option linter.unusedVariables false
mutual
def trN (N : List NdF) : Nat → Nd → Prop
 | k, .set _ _ _ _ => ∃ x, N[k]? = some x ∧ x.kind = 1 ∧ x.kids = []
 | k, .edge _ => ∃ x, N[k]? = some x ∧ x.kind = 2 ∧ x.kids = []
 | k, .row l => ∃ x, N[k]? = some x ∧ x.kind = 3 ∧ trL N x.kids l
 | k, .choice l => ∃ x, N[k]? = some x ∧ x.kind = 4 ∧ trL N x.kids l
 | k, .group n g => ∃ x, N[k]? = some x ∧ x.kind = 5 ∧ x.group = g ∧ ∃ j : Nat, x.kids = [(j : Int)] ∧ trN N j n
 | k, .again n le mo _ => ∃ x, N[k]? = some x ∧ x.kind = 6 ∧ x.least = le ∧ x.most = mo ∧ ∃ j : Nat, x.kids = [(j : Int)] ∧ trN N j n
def trL (N : List NdF) : List Int → List Nd → Prop
 | ks, [] => ks = []
 | ks, n :: ns => ∃ (j : Nat) (r : List Int), ks = (j : Int) :: r ∧ trN N j n ∧ trL N r ns
end
theorem get_more {α : Type} {N : List α} {k : Nat} {x : α} (M : List α) (h : N[k]? = some x) : (N ++ M)[k]? = some x := by
 rw [List.getElem?_append_left (List.getElem?_eq_some_iff.mp h).1]; exact h
mutual
theorem trN.more (N M : List NdF) : ∀ (nd : Nd) (k : Nat), trN N k nd → trN (N ++ M) k nd
 | .set _ _ _ _, k, h => by
  rw [trN] at h ⊢
  obtain ⟨x, h1, h2⟩ := h
  exact ⟨x, get_more M h1, h2⟩
 | .edge _, k, h => by
  rw [trN] at h ⊢
  obtain ⟨x, h1, h2⟩ := h
  exact ⟨x, get_more M h1, h2⟩
 | .row l, k, h => by
  rw [trN] at h ⊢
  obtain ⟨x, h1, h2, h3⟩ := h
  exact ⟨x, get_more M h1, h2, trL.more N M l _ h3⟩
 | .choice l, k, h => by
  rw [trN] at h ⊢
  obtain ⟨x, h1, h2, h3⟩ := h
  exact ⟨x, get_more M h1, h2, trL.more N M l _ h3⟩
 | .group n g, k, h => by
  rw [trN] at h ⊢
  obtain ⟨x, h1, h2, h3, j, h4, h5⟩ := h
  exact ⟨x, get_more M h1, h2, h3, j, h4, trN.more N M n j h5⟩
 | .again n _ _ _, k, h => by
  rw [trN] at h ⊢
  obtain ⟨x, h1, h2, h3, h4, j, h5, h6⟩ := h
  exact ⟨x, get_more M h1, h2, h3, h4, j, h5, trN.more N M n j h6⟩
theorem trL.more (N M : List NdF) : ∀ (l : List Nd) (ks : List Int), trL N ks l → trL (N ++ M) ks l
 | [], ks, h => by
  rw [trL] at h ⊢; exact h
 | n :: ns, ks, h => by
  rw [trL] at h ⊢
  obtain ⟨j, r, h1, h2, h3⟩ := h
  exact ⟨j, r, h1, trN.more N M n j h2, trL.more N M ns r h3⟩
end
theorem trL.push {N : List NdF} : ∀ {l : List Nd} {ks : List Int} {n : Nd} {j : Nat}, trL N ks l → trN N j n → trL N (ks ++ [(j : Int)]) (l ++ [n])
 | [], ks, n, j, h, hn => by
  rw [trL] at h
  subst h
  show trL N [(j : Int)] [n]
  rw [trL]
  exact ⟨j, [], rfl, hn, by rw [trL]⟩
 | m :: l, ks, n, j, h, hn => by
  rw [trL] at h
  obtain ⟨i, r, rfl, h2, h3⟩ := h
  show trL N ((i : Int) :: (r ++ [(j : Int)])) (m :: (l ++ [n]))
  rw [trL]
  exact ⟨i, _, rfl, h2, trL.push h3 hn⟩
def KGe (B : Nat) (x : NdF) : Prop := ∀ (a : Addr) (m c : Nat), x.kv = .slice (some a) m c → B ≤ a.block
def NdP {α : Type} (w : World) (lo rb pb : Nat) (sl : Option Addr) (n c : Nat) (src : List Int) (ig : Bool) (nv : Value) (N : List NdF) (B : Nat) (D : Nat → Nat) (r : RR α) (V : List NdF → α → Nat → Prop) (e : Ending) (w' : World) : Prop :=
 ∃ (k : Nat) (nv' : Value) (M : List NdF), e = .returned (.int .i64 k) ∧ Mv rb pb w nv w' nv' ∧ (∀ x ∈ M, KGe B x) ∧ match r with
  | .error p => (∃ g, RfM w' lo rb pb sl n c src ig p true g nv' (N ++ M)) ∧ M.length ≤ D n
  | .ok (x, s) => RfM w' lo rb pb sl n c src ig s.at' false s.groups nv' (N ++ M) ∧ V (N ++ M) x k ∧ M.length ≤ D s.at'
section
variable {α : Type} {w w' : World} {lo rb pb : Nat} {sl : Option Addr} {n c : Nat} {src : List Int} {ig : Bool} {nv nv' : Value} {N : List NdF} {B : Nat} {D : Nat → Nat} {V : List NdF → α → Nat → Prop}
theorem NdP.err {p g : Nat} (k : Nat) (hm : Mv rb pb w nv w' nv) (hr : RfM w' lo rb pb sl n c src ig p true g nv N) : NdP (α := α) w lo rb pb sl n c src ig nv N B D (.error p) V (.returned (.int .i64 k)) w' :=
 ⟨k, nv, [], rfl, hm, (by intro x hx; cases hx), ⟨g, by rw [List.append_nil]; exact hr⟩, Nat.zero_le _⟩
theorem NdP.one {y : α} {s : RS} {x : NdF} (hm : Mv rb pb w nv w' nv') (hr : RfM w' lo rb pb sl n c src ig s.at' false s.groups nv' (N ++ [x])) (hk : KGe B x) (hv : V (N ++ [x]) y N.length) (hD : 1 ≤ D s.at') : NdP w lo rb pb sl n c src ig nv N B D (.ok (y, s)) V (.returned (.int .i64 N.length)) w' :=
 ⟨N.length, nv', [x], rfl, hm, fun z hz => by rw [List.mem_singleton] at hz; exact hz ▸ hk, hr, hv, hD⟩
theorem NdP.nil {y : α} {s : RS} (k : Nat) (hm : Mv rb pb w nv w' nv) (hr : RfM w' lo rb pb sl n c src ig s.at' false s.groups nv N) (hv : V N y k) : NdP w lo rb pb sl n c src ig nv N B D (.ok (y, s)) V (.returned (.int .i64 k)) w' :=
 ⟨k, nv, [], rfl, hm, (by intro x hx; cases hx), by rw [List.append_nil]; exact hr, by rw [List.append_nil]; exact hv, Nat.zero_le _⟩
end
theorem kge_none {B : Nat} {x : NdF} {m c : Nat} (h : x.kv = .slice none m c) : KGe B x := fun a m' c' e => by rw [h] at e; cases e
theorem kge_some {B b : Nat} {x : NdF} {m c : Nat} (h : x.kv = .slice (some ⟨b, 0, none⟩) m c) (hb : B ≤ b) : KGe B x := fun a m' c' e => by rw [h] at e; cases e; exact hb
end Go.Proofs.YtdegdoilpamjjaaDoor
