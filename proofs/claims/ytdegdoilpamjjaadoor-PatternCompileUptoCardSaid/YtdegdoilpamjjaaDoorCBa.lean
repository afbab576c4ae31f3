/- Contracts of the document's reader of patterns: escape. Condition: no more than 2^30 ints. -/
import Derived.Test.YtdegdoilpamjjaaDoorCAx
import Derived.Test.YtdegdoilpamjjaaDoorCAt
namespace Go.Proofs.YtdegdoilpamjjaaDoor
open Go.RowKit
set_option linter.unusedVariables false
set_option linter.unusedSimpArgs false
theorem letter_f (c : Int) (w : World) : Calls Tryd.prog 62 #[.int .i64 c] w fun e w' => e = .returned (.bool (letB c)) ∧ w = w' := by
 go_enter Tryd.func62, Tryd.ntmps62
 go_wp2
 all_goals
  go_ret
  exact ⟨congrArg Ending.returned (congrArg Value.bool (by unfold letB; rw [Bool.eq_iff_iff]; simp; omega)), rfl⟩
theorem codP_more {src : List Int} {s s1 : RS} {v : Int} (h : codP src s = .ok (v, s1)) : s.at' ≤ s1.at' ∧ s1.groups = s.groups := by
 unfold codP at h
 cases hx : nx src s with
 | error e => rw [hx] at h; cases h
 | ok r =>
  obtain ⟨x, s3⟩ := r
  rw [hx] at h
  simp only at h
  have h3 := nx_more hx
  split at h
  ·
   have := hexP_more _ _ _ _ _ h
   exact ⟨by omega, this.2.trans h3.2⟩
  ·
   split at h
   ·
    have := hexP_more _ _ _ _ _ h
    exact ⟨by omega, this.2.trans h3.2⟩
   · cases h
set_option maxRecDepth 100000 in
set_option maxHeartbeats 32000000 in
theorem escape_f (w : World) (lo rb pb : Nat) (sl : Option Addr) (n c : Nat) (src : List Int) (ig fold : Bool) (s : RS) (nv : Value) (N : List NdF) (h : RfM w lo rb pb sl n c src ig s.at' false s.groups nv N) (hN : N.length < 100000) (B : Nat) :
  Calls Tryd.prog 102 #[.pointer (some ⟨rb, 0, none⟩)] w (NdP w lo rb pb sl n c src ig nv N B (fun _ => 1) (escP src fold s) (fun N' x k => trN N' k x)) := by
 obtain ⟨a, g⟩ := s
 simp only at h
 obtain ⟨R, hR⟩ : ∃ R, escP src fold ⟨a, g⟩ = R := ⟨_, rfl⟩
 rw [hR]
 unfold escP at hR
 have hn30 := h.rd.n30
 have hlen := h.rd.len
 have hat := h.rd.at'
 have hrb : rb < w.heap.size := heap_lt h.rd.blk
 have b1 : w.cell? ⟨rb, 1, none⟩ = some (.slice sl n c) := block_cell h.rd.blk
 have b2 : w.cell? ⟨rb, 2, none⟩ = some (.int .i64 a) := block_cell h.rd.blk
 have slw : ∀ y, sl = some y → y.block < w.heap.size := fun y hy => Nat.lt_of_lt_of_le (h.sll y hy) (by have := h.low.1; omega)
 have H0 := Lib.hid h
 by_cases hlt : a < n
 ·
  obtain ⟨gb, off, hgs, c0⟩ := h.rd.src.at (Below.refl _ _) hlt
  have hnx : nx src ⟨a, g⟩ = .ok (gl src a, ⟨a + 1, g⟩) := if_neg (by rw [hlen]; show ¬ n ≤ a; omega)
  rw [hnx] at hR
  simp only at hR
  obtain ⟨x, hx⟩ : ∃ x, gl src a = x := ⟨_, rfl⟩
  rw [hx] at hR c0
  have HR := Lib.hid hR
  subst hgs
  have q1 : ¬ (n : Int) ≤ (a : Int) := by omega
  have q2 : (0 : Int) ≤ (a : Int) := by omega
  have q3 : (a : Int) < (n : Int) := by omega
  have p3 : IntKind.i64.wrap ((a : Int) + 1) = (a : Int) + 1 := by rw [IntKind.wrap_i64]; omega
  clear hR hnx hx h
  go_enter Tryd.func102, Tryd.ntmps102
  go_wp2_with fail
  go_quiet (fail)
  have Fq := Lib.hid (H0.out.rd.drewN nq)
  have Tq := Lib.hid (touch_drewN (n := nq) (Touch.refl (fun b => b = rb) w))
  have c1 : (w.drewN nq).cell? ⟨gb, off + a, none⟩ = some (.int .i64 x) := c0
  have hsz1 : (w.drewN nq).heap.size = w.heap.size := rfl
  clear b1 b2 c0
  generalize w.drewN nq = w1 at Fq Tq c1 hsz1 ⊢
  have b1 : w1.cell? ⟨rb, 1, none⟩ = some (.slice (some ⟨gb, off, none⟩) n c) := block_cell Fq.out.blk
  have b2 : w1.cell? ⟨rb, 2, none⟩ = some (.int .i64 a) := block_cell Fq.out.blk
  go_wp2_with fail
  go_quiet (fail)
  have Fr := Lib.hid (Fq.out.drewN nq)
  have Tr := Lib.hid (touch_drewN (n := nq) Tq.out)
  have hsz2 : (w1.drewN nq).heap.size = w.heap.size := hsz1
  clear b1 b2 c1 hsz1 Fq Tq
  generalize w1.drewN nq = w1 at Fr Tr hsz2 ⊢
  have b2 : w1.cell? ⟨rb, 2, none⟩ = some (.int .i64 a) := block_cell Fr.out.blk
  have g2 : w1.frozen? ⟨rb, 2, none⟩ = false := block_free Fr.out.blk
  have fs := Fr.out.step 1 (by omega)
  have ts := Tr.out.trans (Touch.setCell (fun b => b = rb) w1 (p := ⟨rb, 2, none⟩) rfl (.int .i64 ((a + 1 : Nat) : Int))) (fun x hx => .inl hx)
  have hs3 : (w1.setCell ⟨rb, 2, none⟩ (.int .i64 ((a + 1 : Nat) : Int))).heap.size = w.heap.size := by rw [← hsz2]; simp
  rw [show ((a + 1 : Nat) : Int) = (a : Int) + 1 from by omega] at fs ts hs3
  go_upto_region 5 with (fail)
  generalize w1.setCell ⟨rb, 2, none⟩ (.int .i64 ((a : Int) + 1)) = w2 at fs ts hs3 ⊢
  clear b2 g2 Fr Tr hsz2
  have ob := below_newJ w2 (.cells #[.int .i64 0, .int .i64 0, .int .i64 0, .int .i64 0, .bool false, .bool false, .slice none 0 0, .slice none 0 0] 138)
  have oo := one_new w2 (.cells #[.int .i64 0, .int .i64 0, .int .i64 0, .int .i64 0, .bool false, .bool false, .slice none 0 0, .slice none 0 0] 138)
  rw [hs3] at ob oo
  obtain ⟨lb, hlb⟩ : ∃ lb, w.heap.size = lb := ⟨_, rfl⟩
  generalize hw3 : w2.alloc (.cells #[.int .i64 0, .int .i64 0, .int .i64 0, .int .i64 0, .bool false, .bool false, .slice none 0 0, .slice none 0 0] 138) = w3 at ob oo
  rw [hlb] at oo hs3 hrb
  have LRB := Lib.hid (show rb < lb ∧ w.heap.size = lb from by omega)
  have slx : ∀ y, (some ⟨gb, off, none⟩ : Option Addr) = some y → y.block < lb := fun y hy => by have := slw y hy; omega
  have PO := Lib.hid oo
  have fs3 := fs.below (B := lb) LRB.out.1 slx (by rw [← hlb]; exact ob)
  have ts3 := touch_below ts ob
  have PF := Lib.hid fs3
  have PT := Lib.hid ts3
  clear ob oo fs ts fs3 ts3 slw
  go_upto_region 6 with (refine wpList_store_row rfl 138 _ _ rfl lb #[.int .i64 (1), .int .i64 (0), .int .i64 (0), .int .i64 (0), .bool false, .bool false, .slice none 0 0, .slice none 0 0] rfl rfl _ _ PO.out fnode_info rfl (fnode_all _ _ _ _ _ _ _ _ _ _ _ _) ?_)
  have F4 := Lib.hid (PF.out.below (B := lb) LRB.out.1 slx (row_belowg (w := w3) (g := lb) #[.int .i64 (1), .int .i64 (0), .int .i64 (0), .int .i64 (0), .bool false, .bool false, .slice none 0 0, .slice none 0 0] (Nat.le_refl _)))
  have T4 := Lib.hid (touch_below PT.out (row_belowg (w := w3) (B := w.heap.size) (g := lb) #[.int .i64 (1), .int .i64 (0), .int .i64 (0), .int .i64 (0), .bool false, .bool false, .slice none 0 0, .slice none 0 0] (by have := LRB.out; omega)))
  have L4 := Lib.hid (row_setg #[.int .i64 (1), .int .i64 (0), .int .i64 (0), .int .i64 (0), .bool false, .bool false, .slice none 0 0, .slice none 0 0] PO.out)
  generalize w3.setRow lb #[.int .i64 (1), .int .i64 (0), .int .i64 (0), .int .i64 (0), .bool false, .bool false, .slice none 0 0, .slice none 0 0] = w4 at F4 T4 L4 ⊢
  clear hw3 PO PF PT
  by_cases e100 : x = 100
  ·
   subst e100
   have hr := HR.out
   rw [if_pos (by decide)] at hr
   subst hr
   clear HR
   have y6 : w4.cell? ⟨lb, 6, none⟩ = some (.slice none 0 0) := block_cell L4.out
   have g6 : w4.frozen? ⟨lb, 6, none⟩ = false := block_free L4.out
   have nb := below_newJ w4 (.cells #[.int .i64 (100), .int .i64 (0), .int .i64 (0)] 153)
   obtain ⟨ib, hib⟩ : ∃ ib, w4.heap.size = ib := ⟨_, rfl⟩
   generalize hwN : w4.alloc (.cells #[.int .i64 (100), .int .i64 (0), .int .i64 (0)] 153) = wN at nb
   have hwb : w.heap.size ≤ w4.heap.size := T4.out.size
   have fN := F4.out.later nb
   have tN := touch_below T4.out (nb.mono hwb)
   have lN : wN.heap[lb]? = _ := (nb.block lb (heap_lt L4.out)).trans L4.out
   have y6 : wN.cell? ⟨lb, 6, none⟩ = some (.slice none 0 0) := block_cell lN
   have g6 : wN.frozen? ⟨lb, 6, none⟩ = false := block_free lN
   have ls := block_set (i := 6) (.slice (some ⟨ib, 0, none⟩) 1 1) lN
   have ts := touch_below tN ((Below.refl w.heap.size wN).setCell (p := ⟨lb, 6, none⟩) (by have := LRB.out; show w.heap.size ≤ lb; omega) (.slice (some ⟨ib, 0, none⟩) 1 1))
   have fs := fN.below (by have := LRB.out; omega) (fun y hy => slx y hy) ((Below.refl lb wN).setCell (p := ⟨lb, 6, none⟩) (Nat.le_refl _) (.slice (some ⟨ib, 0, none⟩) 1 1))
   go_upto_region 17 with (fail)
   generalize wN.setCell ⟨lb, 6, none⟩ (.slice (some ⟨ib, 0, none⟩) 1 1) = w6 at ls ts fs ⊢
   have F6 := Lib.hid fs
   have T6 := Lib.hid ts
   have L6 := Lib.hid ls
   clear y6 g6 fs ts ls fN tN lN nb L4 F4 T4 hwN
   have z0 : w6.cell? ⟨lb, 0, none⟩ = some (.int .i64 1) := block_cell L6.out
   have z1 : w6.cell? ⟨lb, 1, none⟩ = some (.int .i64 0) := block_cell L6.out
   have z2 : w6.cell? ⟨lb, 2, none⟩ = some (.int .i64 0) := block_cell L6.out
   have z3 : w6.cell? ⟨lb, 3, none⟩ = some (.int .i64 0) := block_cell L6.out
   have z4 : w6.cell? ⟨lb, 4, none⟩ = some (.bool false) := block_cell L6.out
   have z5 : w6.cell? ⟨lb, 5, none⟩ = some (.bool false) := block_cell L6.out
   have z6 : w6.cell? ⟨lb, 6, none⟩ = some (.slice (some ⟨ib, 0, none⟩) 1 1) := block_cell L6.out
   have z7 : w6.cell? ⟨lb, 7, none⟩ = some (.slice none 0 0) := block_cell L6.out
   have HND := Lib.hid (node_f w6 lo rb pb _ n c src ig (a + 1) false g nv N (H0.out.at_ T6.out F6.out) ⟨1, 0, 0, 0, false, false, .slice (some ⟨ib, 0, none⟩) 1 1, .slice none 0 0, []⟩ (KidF.none _ _ _ _ _ _ _ _ _) (by omega))
   have TTT := T6
   clear L6 F6 T6
   go_wp2_with fail
   refine HND.out.mono ?_
   rintro e w9 ⟨rfl, nv', hmv, hr9⟩
   have HMV := Lib.hid ((Mv.of (nv := nv) (pb := pb) TTT.out).trans hmv)
   have HR9 := Lib.hid hr9
   clear hmv hr9 HND TTT
   go_wp2
   go_ret
   exact NdP.one HMV.out HR9.out (kge_none rfl) (trN_set rfl rfl) (Nat.le_refl _)
  by_cases e115 : x = 115
  ·
   subst e115
   have hr := HR.out
   rw [if_pos (by decide)] at hr
   subst hr
   clear HR
   have y6 : w4.cell? ⟨lb, 6, none⟩ = some (.slice none 0 0) := block_cell L4.out
   have g6 : w4.frozen? ⟨lb, 6, none⟩ = false := block_free L4.out
   have nb := below_newJ w4 (.cells #[.int .i64 (115), .int .i64 (0), .int .i64 (0)] 153)
   obtain ⟨ib, hib⟩ : ∃ ib, w4.heap.size = ib := ⟨_, rfl⟩
   generalize hwN : w4.alloc (.cells #[.int .i64 (115), .int .i64 (0), .int .i64 (0)] 153) = wN at nb
   have hwb : w.heap.size ≤ w4.heap.size := T4.out.size
   have fN := F4.out.later nb
   have tN := touch_below T4.out (nb.mono hwb)
   have lN : wN.heap[lb]? = _ := (nb.block lb (heap_lt L4.out)).trans L4.out
   have y6 : wN.cell? ⟨lb, 6, none⟩ = some (.slice none 0 0) := block_cell lN
   have g6 : wN.frozen? ⟨lb, 6, none⟩ = false := block_free lN
   have ls := block_set (i := 6) (.slice (some ⟨ib, 0, none⟩) 1 1) lN
   have ts := touch_below tN ((Below.refl w.heap.size wN).setCell (p := ⟨lb, 6, none⟩) (by have := LRB.out; show w.heap.size ≤ lb; omega) (.slice (some ⟨ib, 0, none⟩) 1 1))
   have fs := fN.below (by have := LRB.out; omega) (fun y hy => slx y hy) ((Below.refl lb wN).setCell (p := ⟨lb, 6, none⟩) (Nat.le_refl _) (.slice (some ⟨ib, 0, none⟩) 1 1))
   go_upto_region 17 with (fail)
   generalize wN.setCell ⟨lb, 6, none⟩ (.slice (some ⟨ib, 0, none⟩) 1 1) = w6 at ls ts fs ⊢
   have F6 := Lib.hid fs
   have T6 := Lib.hid ts
   have L6 := Lib.hid ls
   clear y6 g6 fs ts ls fN tN lN nb L4 F4 T4 hwN
   have z0 : w6.cell? ⟨lb, 0, none⟩ = some (.int .i64 1) := block_cell L6.out
   have z1 : w6.cell? ⟨lb, 1, none⟩ = some (.int .i64 0) := block_cell L6.out
   have z2 : w6.cell? ⟨lb, 2, none⟩ = some (.int .i64 0) := block_cell L6.out
   have z3 : w6.cell? ⟨lb, 3, none⟩ = some (.int .i64 0) := block_cell L6.out
   have z4 : w6.cell? ⟨lb, 4, none⟩ = some (.bool false) := block_cell L6.out
   have z5 : w6.cell? ⟨lb, 5, none⟩ = some (.bool false) := block_cell L6.out
   have z6 : w6.cell? ⟨lb, 6, none⟩ = some (.slice (some ⟨ib, 0, none⟩) 1 1) := block_cell L6.out
   have z7 : w6.cell? ⟨lb, 7, none⟩ = some (.slice none 0 0) := block_cell L6.out
   have HND := Lib.hid (node_f w6 lo rb pb _ n c src ig (a + 1) false g nv N (H0.out.at_ T6.out F6.out) ⟨1, 0, 0, 0, false, false, .slice (some ⟨ib, 0, none⟩) 1 1, .slice none 0 0, []⟩ (KidF.none _ _ _ _ _ _ _ _ _) (by omega))
   have TTT := T6
   clear L6 F6 T6
   go_wp2_with fail
   refine HND.out.mono ?_
   rintro e w9 ⟨rfl, nv', hmv, hr9⟩
   have HMV := Lib.hid ((Mv.of (nv := nv) (pb := pb) TTT.out).trans hmv)
   have HR9 := Lib.hid hr9
   clear hmv hr9 HND TTT
   go_wp2
   go_ret
   exact NdP.one HMV.out HR9.out (kge_none rfl) (trN_set rfl rfl) (Nat.le_refl _)
  by_cases e119 : x = 119
  ·
   subst e119
   have hr := HR.out
   rw [if_pos (by decide)] at hr
   subst hr
   clear HR
   have y6 : w4.cell? ⟨lb, 6, none⟩ = some (.slice none 0 0) := block_cell L4.out
   have g6 : w4.frozen? ⟨lb, 6, none⟩ = false := block_free L4.out
   have nb := below_newJ w4 (.cells #[.int .i64 (119), .int .i64 (0), .int .i64 (0)] 153)
   obtain ⟨ib, hib⟩ : ∃ ib, w4.heap.size = ib := ⟨_, rfl⟩
   generalize hwN : w4.alloc (.cells #[.int .i64 (119), .int .i64 (0), .int .i64 (0)] 153) = wN at nb
   have hwb : w.heap.size ≤ w4.heap.size := T4.out.size
   have fN := F4.out.later nb
   have tN := touch_below T4.out (nb.mono hwb)
   have lN : wN.heap[lb]? = _ := (nb.block lb (heap_lt L4.out)).trans L4.out
   have y6 : wN.cell? ⟨lb, 6, none⟩ = some (.slice none 0 0) := block_cell lN
   have g6 : wN.frozen? ⟨lb, 6, none⟩ = false := block_free lN
   have ls := block_set (i := 6) (.slice (some ⟨ib, 0, none⟩) 1 1) lN
   have ts := touch_below tN ((Below.refl w.heap.size wN).setCell (p := ⟨lb, 6, none⟩) (by have := LRB.out; show w.heap.size ≤ lb; omega) (.slice (some ⟨ib, 0, none⟩) 1 1))
   have fs := fN.below (by have := LRB.out; omega) (fun y hy => slx y hy) ((Below.refl lb wN).setCell (p := ⟨lb, 6, none⟩) (Nat.le_refl _) (.slice (some ⟨ib, 0, none⟩) 1 1))
   go_upto_region 17 with (fail)
   generalize wN.setCell ⟨lb, 6, none⟩ (.slice (some ⟨ib, 0, none⟩) 1 1) = w6 at ls ts fs ⊢
   have F6 := Lib.hid fs
   have T6 := Lib.hid ts
   have L6 := Lib.hid ls
   clear y6 g6 fs ts ls fN tN lN nb L4 F4 T4 hwN
   have z0 : w6.cell? ⟨lb, 0, none⟩ = some (.int .i64 1) := block_cell L6.out
   have z1 : w6.cell? ⟨lb, 1, none⟩ = some (.int .i64 0) := block_cell L6.out
   have z2 : w6.cell? ⟨lb, 2, none⟩ = some (.int .i64 0) := block_cell L6.out
   have z3 : w6.cell? ⟨lb, 3, none⟩ = some (.int .i64 0) := block_cell L6.out
   have z4 : w6.cell? ⟨lb, 4, none⟩ = some (.bool false) := block_cell L6.out
   have z5 : w6.cell? ⟨lb, 5, none⟩ = some (.bool false) := block_cell L6.out
   have z6 : w6.cell? ⟨lb, 6, none⟩ = some (.slice (some ⟨ib, 0, none⟩) 1 1) := block_cell L6.out
   have z7 : w6.cell? ⟨lb, 7, none⟩ = some (.slice none 0 0) := block_cell L6.out
   have HND := Lib.hid (node_f w6 lo rb pb _ n c src ig (a + 1) false g nv N (H0.out.at_ T6.out F6.out) ⟨1, 0, 0, 0, false, false, .slice (some ⟨ib, 0, none⟩) 1 1, .slice none 0 0, []⟩ (KidF.none _ _ _ _ _ _ _ _ _) (by omega))
   have TTT := T6
   clear L6 F6 T6
   go_wp2_with fail
   refine HND.out.mono ?_
   rintro e w9 ⟨rfl, nv', hmv, hr9⟩
   have HMV := Lib.hid ((Mv.of (nv := nv) (pb := pb) TTT.out).trans hmv)
   have HR9 := Lib.hid hr9
   clear hmv hr9 HND TTT
   go_wp2
   go_ret
   exact NdP.one HMV.out HR9.out (kge_none rfl) (trN_set rfl rfl) (Nat.le_refl _)
  by_cases e108 : x = 108
  ·
   subst e108
   have hr := HR.out
   rw [if_pos (by decide)] at hr
   subst hr
   clear HR
   have y6 : w4.cell? ⟨lb, 6, none⟩ = some (.slice none 0 0) := block_cell L4.out
   have g6 : w4.frozen? ⟨lb, 6, none⟩ = false := block_free L4.out
   have nb := below_newJ w4 (.cells #[.int .i64 (108), .int .i64 (0), .int .i64 (0)] 153)
   obtain ⟨ib, hib⟩ : ∃ ib, w4.heap.size = ib := ⟨_, rfl⟩
   generalize hwN : w4.alloc (.cells #[.int .i64 (108), .int .i64 (0), .int .i64 (0)] 153) = wN at nb
   have hwb : w.heap.size ≤ w4.heap.size := T4.out.size
   have fN := F4.out.later nb
   have tN := touch_below T4.out (nb.mono hwb)
   have lN : wN.heap[lb]? = _ := (nb.block lb (heap_lt L4.out)).trans L4.out
   have y6 : wN.cell? ⟨lb, 6, none⟩ = some (.slice none 0 0) := block_cell lN
   have g6 : wN.frozen? ⟨lb, 6, none⟩ = false := block_free lN
   have ls := block_set (i := 6) (.slice (some ⟨ib, 0, none⟩) 1 1) lN
   have ts := touch_below tN ((Below.refl w.heap.size wN).setCell (p := ⟨lb, 6, none⟩) (by have := LRB.out; show w.heap.size ≤ lb; omega) (.slice (some ⟨ib, 0, none⟩) 1 1))
   have fs := fN.below (by have := LRB.out; omega) (fun y hy => slx y hy) ((Below.refl lb wN).setCell (p := ⟨lb, 6, none⟩) (Nat.le_refl _) (.slice (some ⟨ib, 0, none⟩) 1 1))
   go_upto_region 17 with (fail)
   generalize wN.setCell ⟨lb, 6, none⟩ (.slice (some ⟨ib, 0, none⟩) 1 1) = w6 at ls ts fs ⊢
   have F6 := Lib.hid fs
   have T6 := Lib.hid ts
   have L6 := Lib.hid ls
   clear y6 g6 fs ts ls fN tN lN nb L4 F4 T4 hwN
   have z0 : w6.cell? ⟨lb, 0, none⟩ = some (.int .i64 1) := block_cell L6.out
   have z1 : w6.cell? ⟨lb, 1, none⟩ = some (.int .i64 0) := block_cell L6.out
   have z2 : w6.cell? ⟨lb, 2, none⟩ = some (.int .i64 0) := block_cell L6.out
   have z3 : w6.cell? ⟨lb, 3, none⟩ = some (.int .i64 0) := block_cell L6.out
   have z4 : w6.cell? ⟨lb, 4, none⟩ = some (.bool false) := block_cell L6.out
   have z5 : w6.cell? ⟨lb, 5, none⟩ = some (.bool false) := block_cell L6.out
   have z6 : w6.cell? ⟨lb, 6, none⟩ = some (.slice (some ⟨ib, 0, none⟩) 1 1) := block_cell L6.out
   have z7 : w6.cell? ⟨lb, 7, none⟩ = some (.slice none 0 0) := block_cell L6.out
   have HND := Lib.hid (node_f w6 lo rb pb _ n c src ig (a + 1) false g nv N (H0.out.at_ T6.out F6.out) ⟨1, 0, 0, 0, false, false, .slice (some ⟨ib, 0, none⟩) 1 1, .slice none 0 0, []⟩ (KidF.none _ _ _ _ _ _ _ _ _) (by omega))
   have TTT := T6
   clear L6 F6 T6
   go_wp2_with fail
   refine HND.out.mono ?_
   rintro e w9 ⟨rfl, nv', hmv, hr9⟩
   have HMV := Lib.hid ((Mv.of (nv := nv) (pb := pb) TTT.out).trans hmv)
   have HR9 := Lib.hid hr9
   clear hmv hr9 HND TTT
   go_wp2
   go_ret
   exact NdP.one HMV.out HR9.out (kge_none rfl) (trN_set rfl rfl) (Nat.le_refl _)
  by_cases e117 : x = 117
  ·
   subst e117
   have hr := HR.out
   rw [if_pos (by decide)] at hr
   subst hr
   clear HR
   have y6 : w4.cell? ⟨lb, 6, none⟩ = some (.slice none 0 0) := block_cell L4.out
   have g6 : w4.frozen? ⟨lb, 6, none⟩ = false := block_free L4.out
   have nb := below_newJ w4 (.cells #[.int .i64 (117), .int .i64 (0), .int .i64 (0)] 153)
   obtain ⟨ib, hib⟩ : ∃ ib, w4.heap.size = ib := ⟨_, rfl⟩
   generalize hwN : w4.alloc (.cells #[.int .i64 (117), .int .i64 (0), .int .i64 (0)] 153) = wN at nb
   have hwb : w.heap.size ≤ w4.heap.size := T4.out.size
   have fN := F4.out.later nb
   have tN := touch_below T4.out (nb.mono hwb)
   have lN : wN.heap[lb]? = _ := (nb.block lb (heap_lt L4.out)).trans L4.out
   have y6 : wN.cell? ⟨lb, 6, none⟩ = some (.slice none 0 0) := block_cell lN
   have g6 : wN.frozen? ⟨lb, 6, none⟩ = false := block_free lN
   have ls := block_set (i := 6) (.slice (some ⟨ib, 0, none⟩) 1 1) lN
   have ts := touch_below tN ((Below.refl w.heap.size wN).setCell (p := ⟨lb, 6, none⟩) (by have := LRB.out; show w.heap.size ≤ lb; omega) (.slice (some ⟨ib, 0, none⟩) 1 1))
   have fs := fN.below (by have := LRB.out; omega) (fun y hy => slx y hy) ((Below.refl lb wN).setCell (p := ⟨lb, 6, none⟩) (Nat.le_refl _) (.slice (some ⟨ib, 0, none⟩) 1 1))
   go_upto_region 17 with (fail)
   generalize wN.setCell ⟨lb, 6, none⟩ (.slice (some ⟨ib, 0, none⟩) 1 1) = w6 at ls ts fs ⊢
   have F6 := Lib.hid fs
   have T6 := Lib.hid ts
   have L6 := Lib.hid ls
   clear y6 g6 fs ts ls fN tN lN nb L4 F4 T4 hwN
   have z0 : w6.cell? ⟨lb, 0, none⟩ = some (.int .i64 1) := block_cell L6.out
   have z1 : w6.cell? ⟨lb, 1, none⟩ = some (.int .i64 0) := block_cell L6.out
   have z2 : w6.cell? ⟨lb, 2, none⟩ = some (.int .i64 0) := block_cell L6.out
   have z3 : w6.cell? ⟨lb, 3, none⟩ = some (.int .i64 0) := block_cell L6.out
   have z4 : w6.cell? ⟨lb, 4, none⟩ = some (.bool false) := block_cell L6.out
   have z5 : w6.cell? ⟨lb, 5, none⟩ = some (.bool false) := block_cell L6.out
   have z6 : w6.cell? ⟨lb, 6, none⟩ = some (.slice (some ⟨ib, 0, none⟩) 1 1) := block_cell L6.out
   have z7 : w6.cell? ⟨lb, 7, none⟩ = some (.slice none 0 0) := block_cell L6.out
   have HND := Lib.hid (node_f w6 lo rb pb _ n c src ig (a + 1) false g nv N (H0.out.at_ T6.out F6.out) ⟨1, 0, 0, 0, false, false, .slice (some ⟨ib, 0, none⟩) 1 1, .slice none 0 0, []⟩ (KidF.none _ _ _ _ _ _ _ _ _) (by omega))
   have TTT := T6
   clear L6 F6 T6
   go_wp2_with fail
   refine HND.out.mono ?_
   rintro e w9 ⟨rfl, nv', hmv, hr9⟩
   have HMV := Lib.hid ((Mv.of (nv := nv) (pb := pb) TTT.out).trans hmv)
   have HR9 := Lib.hid hr9
   clear hmv hr9 HND TTT
   go_wp2
   go_ret
   exact NdP.one HMV.out HR9.out (kge_none rfl) (trN_set rfl rfl) (Nat.le_refl _)
  by_cases e68 : x = 68
  ·
   subst e68
   have hr := HR.out
   rw [if_neg (by decide)] at hr
   rw [if_pos (by decide)] at hr
   subst hr
   clear HR
   have y6 : w4.cell? ⟨lb, 6, none⟩ = some (.slice none 0 0) := block_cell L4.out
   have g6 : w4.frozen? ⟨lb, 6, none⟩ = false := block_free L4.out
   have nb := below_newJ w4 (.cells #[.int .i64 (100), .int .i64 (0), .int .i64 (0)] 153)
   obtain ⟨ib, hib⟩ : ∃ ib, w4.heap.size = ib := ⟨_, rfl⟩
   generalize hwN : w4.alloc (.cells #[.int .i64 (100), .int .i64 (0), .int .i64 (0)] 153) = wN at nb
   have hwb : w.heap.size ≤ w4.heap.size := T4.out.size
   have fN := F4.out.later nb
   have tN := touch_below T4.out (nb.mono hwb)
   have lN : wN.heap[lb]? = _ := (nb.block lb (heap_lt L4.out)).trans L4.out
   have y6 : wN.cell? ⟨lb, 6, none⟩ = some (.slice none 0 0) := block_cell lN
   have g6 : wN.frozen? ⟨lb, 6, none⟩ = false := block_free lN
   have ls := block_set (i := 6) (.slice (some ⟨ib, 0, none⟩) 1 1) lN
   have ts := touch_below tN ((Below.refl w.heap.size wN).setCell (p := ⟨lb, 6, none⟩) (by have := LRB.out; show w.heap.size ≤ lb; omega) (.slice (some ⟨ib, 0, none⟩) 1 1))
   have fs := fN.below (by have := LRB.out; omega) (fun y hy => slx y hy) ((Below.refl lb wN).setCell (p := ⟨lb, 6, none⟩) (Nat.le_refl _) (.slice (some ⟨ib, 0, none⟩) 1 1))
   go_upto_region 22 with (fail)
   generalize wN.setCell ⟨lb, 6, none⟩ (.slice (some ⟨ib, 0, none⟩) 1 1) = w6 at ls ts fs ⊢
   have F6 := Lib.hid fs
   have T6 := Lib.hid ts
   have L6 := Lib.hid ls
   clear y6 g6 fs ts ls fN tN lN nb L4 F4 T4 hwN
   have y5 : w6.cell? ⟨lb, 5, none⟩ = some (.bool false) := block_cell L6.out
   have g5 : w6.frozen? ⟨lb, 5, none⟩ = false := block_free L6.out
   have ls := block_set (i := 5) (.bool true) L6.out
   have ts := touch_below T6.out ((Below.refl w.heap.size w6).setCell (p := ⟨lb, 5, none⟩) (by have := LRB.out; show w.heap.size ≤ lb; omega) (.bool true))
   have fs := F6.out.below (by have := LRB.out; omega) (fun y hy => slx y hy) ((Below.refl lb w6).setCell (p := ⟨lb, 5, none⟩) (Nat.le_refl _) (.bool true))
   go_upto_region 23 with (fail)
   generalize w6.setCell ⟨lb, 5, none⟩ (.bool true) = w7 at ls ts fs ⊢
   have F7 := Lib.hid fs
   have T7 := Lib.hid ts
   have L7 := Lib.hid ls
   clear y5 g5 fs ts ls F6 T6 L6
   have z0 : w7.cell? ⟨lb, 0, none⟩ = some (.int .i64 1) := block_cell L7.out
   have z1 : w7.cell? ⟨lb, 1, none⟩ = some (.int .i64 0) := block_cell L7.out
   have z2 : w7.cell? ⟨lb, 2, none⟩ = some (.int .i64 0) := block_cell L7.out
   have z3 : w7.cell? ⟨lb, 3, none⟩ = some (.int .i64 0) := block_cell L7.out
   have z4 : w7.cell? ⟨lb, 4, none⟩ = some (.bool false) := block_cell L7.out
   have z5 : w7.cell? ⟨lb, 5, none⟩ = some (.bool true) := block_cell L7.out
   have z6 : w7.cell? ⟨lb, 6, none⟩ = some (.slice (some ⟨ib, 0, none⟩) 1 1) := block_cell L7.out
   have z7 : w7.cell? ⟨lb, 7, none⟩ = some (.slice none 0 0) := block_cell L7.out
   have HND := Lib.hid (node_f w7 lo rb pb _ n c src ig (a + 1) false g nv N (H0.out.at_ T7.out F7.out) ⟨1, 0, 0, 0, false, true, .slice (some ⟨ib, 0, none⟩) 1 1, .slice none 0 0, []⟩ (KidF.none _ _ _ _ _ _ _ _ _) (by omega))
   have TTT := T7
   clear L7 F7 T7
   go_wp2_with fail
   refine HND.out.mono ?_
   rintro e w9 ⟨rfl, nv', hmv, hr9⟩
   have HMV := Lib.hid ((Mv.of (nv := nv) (pb := pb) TTT.out).trans hmv)
   have HR9 := Lib.hid hr9
   clear hmv hr9 HND TTT
   go_wp2
   go_ret
   exact NdP.one HMV.out HR9.out (kge_none rfl) (trN_set rfl rfl) (Nat.le_refl _)
  by_cases e83 : x = 83
  ·
   subst e83
   have hr := HR.out
   rw [if_neg (by decide)] at hr
   rw [if_pos (by decide)] at hr
   subst hr
   clear HR
   have y6 : w4.cell? ⟨lb, 6, none⟩ = some (.slice none 0 0) := block_cell L4.out
   have g6 : w4.frozen? ⟨lb, 6, none⟩ = false := block_free L4.out
   have nb := below_newJ w4 (.cells #[.int .i64 (115), .int .i64 (0), .int .i64 (0)] 153)
   obtain ⟨ib, hib⟩ : ∃ ib, w4.heap.size = ib := ⟨_, rfl⟩
   generalize hwN : w4.alloc (.cells #[.int .i64 (115), .int .i64 (0), .int .i64 (0)] 153) = wN at nb
   have hwb : w.heap.size ≤ w4.heap.size := T4.out.size
   have fN := F4.out.later nb
   have tN := touch_below T4.out (nb.mono hwb)
   have lN : wN.heap[lb]? = _ := (nb.block lb (heap_lt L4.out)).trans L4.out
   have y6 : wN.cell? ⟨lb, 6, none⟩ = some (.slice none 0 0) := block_cell lN
   have g6 : wN.frozen? ⟨lb, 6, none⟩ = false := block_free lN
   have ls := block_set (i := 6) (.slice (some ⟨ib, 0, none⟩) 1 1) lN
   have ts := touch_below tN ((Below.refl w.heap.size wN).setCell (p := ⟨lb, 6, none⟩) (by have := LRB.out; show w.heap.size ≤ lb; omega) (.slice (some ⟨ib, 0, none⟩) 1 1))
   have fs := fN.below (by have := LRB.out; omega) (fun y hy => slx y hy) ((Below.refl lb wN).setCell (p := ⟨lb, 6, none⟩) (Nat.le_refl _) (.slice (some ⟨ib, 0, none⟩) 1 1))
   go_upto_region 22 with (fail)
   generalize wN.setCell ⟨lb, 6, none⟩ (.slice (some ⟨ib, 0, none⟩) 1 1) = w6 at ls ts fs ⊢
   have F6 := Lib.hid fs
   have T6 := Lib.hid ts
   have L6 := Lib.hid ls
   clear y6 g6 fs ts ls fN tN lN nb L4 F4 T4 hwN
   have y5 : w6.cell? ⟨lb, 5, none⟩ = some (.bool false) := block_cell L6.out
   have g5 : w6.frozen? ⟨lb, 5, none⟩ = false := block_free L6.out
   have ls := block_set (i := 5) (.bool true) L6.out
   have ts := touch_below T6.out ((Below.refl w.heap.size w6).setCell (p := ⟨lb, 5, none⟩) (by have := LRB.out; show w.heap.size ≤ lb; omega) (.bool true))
   have fs := F6.out.below (by have := LRB.out; omega) (fun y hy => slx y hy) ((Below.refl lb w6).setCell (p := ⟨lb, 5, none⟩) (Nat.le_refl _) (.bool true))
   go_upto_region 23 with (fail)
   generalize w6.setCell ⟨lb, 5, none⟩ (.bool true) = w7 at ls ts fs ⊢
   have F7 := Lib.hid fs
   have T7 := Lib.hid ts
   have L7 := Lib.hid ls
   clear y5 g5 fs ts ls F6 T6 L6
   have z0 : w7.cell? ⟨lb, 0, none⟩ = some (.int .i64 1) := block_cell L7.out
   have z1 : w7.cell? ⟨lb, 1, none⟩ = some (.int .i64 0) := block_cell L7.out
   have z2 : w7.cell? ⟨lb, 2, none⟩ = some (.int .i64 0) := block_cell L7.out
   have z3 : w7.cell? ⟨lb, 3, none⟩ = some (.int .i64 0) := block_cell L7.out
   have z4 : w7.cell? ⟨lb, 4, none⟩ = some (.bool false) := block_cell L7.out
   have z5 : w7.cell? ⟨lb, 5, none⟩ = some (.bool true) := block_cell L7.out
   have z6 : w7.cell? ⟨lb, 6, none⟩ = some (.slice (some ⟨ib, 0, none⟩) 1 1) := block_cell L7.out
   have z7 : w7.cell? ⟨lb, 7, none⟩ = some (.slice none 0 0) := block_cell L7.out
   have HND := Lib.hid (node_f w7 lo rb pb _ n c src ig (a + 1) false g nv N (H0.out.at_ T7.out F7.out) ⟨1, 0, 0, 0, false, true, .slice (some ⟨ib, 0, none⟩) 1 1, .slice none 0 0, []⟩ (KidF.none _ _ _ _ _ _ _ _ _) (by omega))
   have TTT := T7
   clear L7 F7 T7
   go_wp2_with fail
   refine HND.out.mono ?_
   rintro e w9 ⟨rfl, nv', hmv, hr9⟩
   have HMV := Lib.hid ((Mv.of (nv := nv) (pb := pb) TTT.out).trans hmv)
   have HR9 := Lib.hid hr9
   clear hmv hr9 HND TTT
   go_wp2
   go_ret
   exact NdP.one HMV.out HR9.out (kge_none rfl) (trN_set rfl rfl) (Nat.le_refl _)
  by_cases e87 : x = 87
  ·
   subst e87
   have hr := HR.out
   rw [if_neg (by decide)] at hr
   rw [if_pos (by decide)] at hr
   subst hr
   clear HR
   have y6 : w4.cell? ⟨lb, 6, none⟩ = some (.slice none 0 0) := block_cell L4.out
   have g6 : w4.frozen? ⟨lb, 6, none⟩ = false := block_free L4.out
   have nb := below_newJ w4 (.cells #[.int .i64 (119), .int .i64 (0), .int .i64 (0)] 153)
   obtain ⟨ib, hib⟩ : ∃ ib, w4.heap.size = ib := ⟨_, rfl⟩
   generalize hwN : w4.alloc (.cells #[.int .i64 (119), .int .i64 (0), .int .i64 (0)] 153) = wN at nb
   have hwb : w.heap.size ≤ w4.heap.size := T4.out.size
   have fN := F4.out.later nb
   have tN := touch_below T4.out (nb.mono hwb)
   have lN : wN.heap[lb]? = _ := (nb.block lb (heap_lt L4.out)).trans L4.out
   have y6 : wN.cell? ⟨lb, 6, none⟩ = some (.slice none 0 0) := block_cell lN
   have g6 : wN.frozen? ⟨lb, 6, none⟩ = false := block_free lN
   have ls := block_set (i := 6) (.slice (some ⟨ib, 0, none⟩) 1 1) lN
   have ts := touch_below tN ((Below.refl w.heap.size wN).setCell (p := ⟨lb, 6, none⟩) (by have := LRB.out; show w.heap.size ≤ lb; omega) (.slice (some ⟨ib, 0, none⟩) 1 1))
   have fs := fN.below (by have := LRB.out; omega) (fun y hy => slx y hy) ((Below.refl lb wN).setCell (p := ⟨lb, 6, none⟩) (Nat.le_refl _) (.slice (some ⟨ib, 0, none⟩) 1 1))
   go_upto_region 22 with (fail)
   generalize wN.setCell ⟨lb, 6, none⟩ (.slice (some ⟨ib, 0, none⟩) 1 1) = w6 at ls ts fs ⊢
   have F6 := Lib.hid fs
   have T6 := Lib.hid ts
   have L6 := Lib.hid ls
   clear y6 g6 fs ts ls fN tN lN nb L4 F4 T4 hwN
   have y5 : w6.cell? ⟨lb, 5, none⟩ = some (.bool false) := block_cell L6.out
   have g5 : w6.frozen? ⟨lb, 5, none⟩ = false := block_free L6.out
   have ls := block_set (i := 5) (.bool true) L6.out
   have ts := touch_below T6.out ((Below.refl w.heap.size w6).setCell (p := ⟨lb, 5, none⟩) (by have := LRB.out; show w.heap.size ≤ lb; omega) (.bool true))
   have fs := F6.out.below (by have := LRB.out; omega) (fun y hy => slx y hy) ((Below.refl lb w6).setCell (p := ⟨lb, 5, none⟩) (Nat.le_refl _) (.bool true))
   go_upto_region 23 with (fail)
   generalize w6.setCell ⟨lb, 5, none⟩ (.bool true) = w7 at ls ts fs ⊢
   have F7 := Lib.hid fs
   have T7 := Lib.hid ts
   have L7 := Lib.hid ls
   clear y5 g5 fs ts ls F6 T6 L6
   have z0 : w7.cell? ⟨lb, 0, none⟩ = some (.int .i64 1) := block_cell L7.out
   have z1 : w7.cell? ⟨lb, 1, none⟩ = some (.int .i64 0) := block_cell L7.out
   have z2 : w7.cell? ⟨lb, 2, none⟩ = some (.int .i64 0) := block_cell L7.out
   have z3 : w7.cell? ⟨lb, 3, none⟩ = some (.int .i64 0) := block_cell L7.out
   have z4 : w7.cell? ⟨lb, 4, none⟩ = some (.bool false) := block_cell L7.out
   have z5 : w7.cell? ⟨lb, 5, none⟩ = some (.bool true) := block_cell L7.out
   have z6 : w7.cell? ⟨lb, 6, none⟩ = some (.slice (some ⟨ib, 0, none⟩) 1 1) := block_cell L7.out
   have z7 : w7.cell? ⟨lb, 7, none⟩ = some (.slice none 0 0) := block_cell L7.out
   have HND := Lib.hid (node_f w7 lo rb pb _ n c src ig (a + 1) false g nv N (H0.out.at_ T7.out F7.out) ⟨1, 0, 0, 0, false, true, .slice (some ⟨ib, 0, none⟩) 1 1, .slice none 0 0, []⟩ (KidF.none _ _ _ _ _ _ _ _ _) (by omega))
   have TTT := T7
   clear L7 F7 T7
   go_wp2_with fail
   refine HND.out.mono ?_
   rintro e w9 ⟨rfl, nv', hmv, hr9⟩
   have HMV := Lib.hid ((Mv.of (nv := nv) (pb := pb) TTT.out).trans hmv)
   have HR9 := Lib.hid hr9
   clear hmv hr9 HND TTT
   go_wp2
   go_ret
   exact NdP.one HMV.out HR9.out (kge_none rfl) (trN_set rfl rfl) (Nat.le_refl _)
  by_cases e116 : x = 116
  ·
   subst e116
   have hr := HR.out
   rw [if_neg (by decide)] at hr
   rw [if_neg (by decide)] at hr
   rw [if_pos (rfl)] at hr
   subst hr
   clear HR
   have r3 : w4.cell? ⟨rb, 3, none⟩ = some (.bool false) := block_cell F4.out.blk
   go_upto_region 35 with (fail)
   have y6 : w4.cell? ⟨lb, 6, none⟩ = some (.slice none 0 0) := block_cell L4.out
   have g6 : w4.frozen? ⟨lb, 6, none⟩ = false := block_free L4.out
   have nb := below_newJ w4 (.cells #[.int .i64 (0), .int .i64 (9), .int .i64 (9)] 153)
   obtain ⟨ib, hib⟩ : ∃ ib, w4.heap.size = ib := ⟨_, rfl⟩
   generalize hwN : w4.alloc (.cells #[.int .i64 (0), .int .i64 (9), .int .i64 (9)] 153) = wN at nb
   have hwb : w.heap.size ≤ w4.heap.size := T4.out.size
   have fN := F4.out.later nb
   have tN := touch_below T4.out (nb.mono hwb)
   have lN : wN.heap[lb]? = _ := (nb.block lb (heap_lt L4.out)).trans L4.out
   have y6 : wN.cell? ⟨lb, 6, none⟩ = some (.slice none 0 0) := block_cell lN
   have g6 : wN.frozen? ⟨lb, 6, none⟩ = false := block_free lN
   have ls := block_set (i := 6) (.slice (some ⟨ib, 0, none⟩) 1 1) lN
   have ts := touch_below tN ((Below.refl w.heap.size wN).setCell (p := ⟨lb, 6, none⟩) (by have := LRB.out; show w.heap.size ≤ lb; omega) (.slice (some ⟨ib, 0, none⟩) 1 1))
   have fs := fN.below (by have := LRB.out; omega) (fun y hy => slx y hy) ((Below.refl lb wN).setCell (p := ⟨lb, 6, none⟩) (Nat.le_refl _) (.slice (some ⟨ib, 0, none⟩) 1 1))
   go_upto_region 36 with (fail)
   generalize wN.setCell ⟨lb, 6, none⟩ (.slice (some ⟨ib, 0, none⟩) 1 1) = w6 at ls ts fs ⊢
   have F6 := Lib.hid fs
   have T6 := Lib.hid ts
   have L6 := Lib.hid ls
   clear y6 g6 fs ts ls fN tN lN nb L4 F4 T4 hwN
   have z0 : w6.cell? ⟨lb, 0, none⟩ = some (.int .i64 1) := block_cell L6.out
   have z1 : w6.cell? ⟨lb, 1, none⟩ = some (.int .i64 0) := block_cell L6.out
   have z2 : w6.cell? ⟨lb, 2, none⟩ = some (.int .i64 0) := block_cell L6.out
   have z3 : w6.cell? ⟨lb, 3, none⟩ = some (.int .i64 0) := block_cell L6.out
   have z4 : w6.cell? ⟨lb, 4, none⟩ = some (.bool false) := block_cell L6.out
   have z5 : w6.cell? ⟨lb, 5, none⟩ = some (.bool false) := block_cell L6.out
   have z6 : w6.cell? ⟨lb, 6, none⟩ = some (.slice (some ⟨ib, 0, none⟩) 1 1) := block_cell L6.out
   have z7 : w6.cell? ⟨lb, 7, none⟩ = some (.slice none 0 0) := block_cell L6.out
   have HND := Lib.hid (node_f w6 lo rb pb _ n c src ig (a + 1) false g nv N (H0.out.at_ T6.out F6.out) ⟨1, 0, 0, 0, false, false, .slice (some ⟨ib, 0, none⟩) 1 1, .slice none 0 0, []⟩ (KidF.none _ _ _ _ _ _ _ _ _) (by omega))
   have TTT := T6
   clear L6 F6 T6
   go_wp2_with fail
   refine HND.out.mono ?_
   rintro e w9 ⟨rfl, nv', hmv, hr9⟩
   have HMV := Lib.hid ((Mv.of (nv := nv) (pb := pb) TTT.out).trans hmv)
   have HR9 := Lib.hid hr9
   clear hmv hr9 HND TTT
   go_wp2
   go_ret
   exact NdP.one HMV.out HR9.out (kge_none rfl) (trN_set rfl rfl) (Nat.le_refl _)
  by_cases e101 : x = 101
  ·
   subst e101
   have hr := HR.out
   rw [if_neg (by decide)] at hr
   rw [if_neg (by decide)] at hr
   rw [if_neg (by decide)] at hr
   rw [if_pos (rfl)] at hr
   subst hr
   clear HR
   have r3 : w4.cell? ⟨rb, 3, none⟩ = some (.bool false) := block_cell F4.out.blk
   go_upto_region 35 with (fail)
   have y6 : w4.cell? ⟨lb, 6, none⟩ = some (.slice none 0 0) := block_cell L4.out
   have g6 : w4.frozen? ⟨lb, 6, none⟩ = false := block_free L4.out
   have nb := below_newJ w4 (.cells #[.int .i64 (0), .int .i64 (27), .int .i64 (27)] 153)
   obtain ⟨ib, hib⟩ : ∃ ib, w4.heap.size = ib := ⟨_, rfl⟩
   generalize hwN : w4.alloc (.cells #[.int .i64 (0), .int .i64 (27), .int .i64 (27)] 153) = wN at nb
   have hwb : w.heap.size ≤ w4.heap.size := T4.out.size
   have fN := F4.out.later nb
   have tN := touch_below T4.out (nb.mono hwb)
   have lN : wN.heap[lb]? = _ := (nb.block lb (heap_lt L4.out)).trans L4.out
   have y6 : wN.cell? ⟨lb, 6, none⟩ = some (.slice none 0 0) := block_cell lN
   have g6 : wN.frozen? ⟨lb, 6, none⟩ = false := block_free lN
   have ls := block_set (i := 6) (.slice (some ⟨ib, 0, none⟩) 1 1) lN
   have ts := touch_below tN ((Below.refl w.heap.size wN).setCell (p := ⟨lb, 6, none⟩) (by have := LRB.out; show w.heap.size ≤ lb; omega) (.slice (some ⟨ib, 0, none⟩) 1 1))
   have fs := fN.below (by have := LRB.out; omega) (fun y hy => slx y hy) ((Below.refl lb wN).setCell (p := ⟨lb, 6, none⟩) (Nat.le_refl _) (.slice (some ⟨ib, 0, none⟩) 1 1))
   go_upto_region 36 with (fail)
   generalize wN.setCell ⟨lb, 6, none⟩ (.slice (some ⟨ib, 0, none⟩) 1 1) = w6 at ls ts fs ⊢
   have F6 := Lib.hid fs
   have T6 := Lib.hid ts
   have L6 := Lib.hid ls
   clear y6 g6 fs ts ls fN tN lN nb L4 F4 T4 hwN
   have z0 : w6.cell? ⟨lb, 0, none⟩ = some (.int .i64 1) := block_cell L6.out
   have z1 : w6.cell? ⟨lb, 1, none⟩ = some (.int .i64 0) := block_cell L6.out
   have z2 : w6.cell? ⟨lb, 2, none⟩ = some (.int .i64 0) := block_cell L6.out
   have z3 : w6.cell? ⟨lb, 3, none⟩ = some (.int .i64 0) := block_cell L6.out
   have z4 : w6.cell? ⟨lb, 4, none⟩ = some (.bool false) := block_cell L6.out
   have z5 : w6.cell? ⟨lb, 5, none⟩ = some (.bool false) := block_cell L6.out
   have z6 : w6.cell? ⟨lb, 6, none⟩ = some (.slice (some ⟨ib, 0, none⟩) 1 1) := block_cell L6.out
   have z7 : w6.cell? ⟨lb, 7, none⟩ = some (.slice none 0 0) := block_cell L6.out
   have HND := Lib.hid (node_f w6 lo rb pb _ n c src ig (a + 1) false g nv N (H0.out.at_ T6.out F6.out) ⟨1, 0, 0, 0, false, false, .slice (some ⟨ib, 0, none⟩) 1 1, .slice none 0 0, []⟩ (KidF.none _ _ _ _ _ _ _ _ _) (by omega))
   have TTT := T6
   clear L6 F6 T6
   go_wp2_with fail
   refine HND.out.mono ?_
   rintro e w9 ⟨rfl, nv', hmv, hr9⟩
   have HMV := Lib.hid ((Mv.of (nv := nv) (pb := pb) TTT.out).trans hmv)
   have HR9 := Lib.hid hr9
   clear hmv hr9 HND TTT
   go_wp2
   go_ret
   exact NdP.one HMV.out HR9.out (kge_none rfl) (trN_set rfl rfl) (Nat.le_refl _)
  by_cases e120 : x = 120
  ·
   subst e120
   have hr := HR.out
   rw [if_neg (by decide)] at hr
   rw [if_neg (by decide)] at hr
   rw [if_neg (by decide)] at hr
   rw [if_neg (by decide)] at hr
   rw [if_pos (rfl)] at hr
   go_wp2_with fail
   refine (hex_f 2 (by decide) 255 (by decide) (by decide) rb pb (some ⟨gb, off, none⟩) n c src ⟨a + 1, g⟩ w4 F4.out).mono ?_
   rintro e w5 ⟨t5, h5⟩
   have T5 := Lib.hid (T4.out.trans t5 (fun y hy => .inl hy))
   have L5 := Lib.hid ((t5.block lb (heap_lt L4.out) (by have := LRB.out; show ¬ lb = rb; omega)).trans L4.out)
   clear t5 T4 L4 F4
   cases hh : hexP src 255 2 0 ⟨a + 1, g⟩ with
   | error k =>
    rw [hh] at h5 hr
    obtain ⟨⟨v, rfl, hv⟩, f5⟩ := h5
    subst hv
    have F5 := Lib.hid f5
    subst hr
    have r3 : w5.cell? ⟨rb, 3, none⟩ = some (.bool true) := block_cell f5.blk
    clear f5 HR hh
    go_wp2
    go_ret
    exact NdP.err _ (Mv.of T5.out) (H0.out.at_ T5.out F5.out)
   | ok r =>
    obtain ⟨v, s5⟩ := r
    obtain ⟨a5, g5⟩ := s5
    have hg5 := (hexP_more _ _ _ _ _ hh).2
    simp only at hg5
    have hg6 := hg5.symm
    subst hg6
    rw [hh] at h5 hr
    obtain ⟨⟨v', rfl, rfl, v0, v1⟩, f5⟩ := h5
    have F5 := Lib.hid f5
    subst hr
    have r3 : w5.cell? ⟨rb, 3, none⟩ = some (.bool false) := block_cell F5.out.blk
    have q7 : IntKind.i64.wrap (-1 - v) = -1 - v := by rw [IntKind.wrap_i64]; omega
    clear f5 HR hh
    go_upto_region 35 with (fail)
    have y6 : w5.cell? ⟨lb, 6, none⟩ = some (.slice none 0 0) := block_cell L5.out
    have g6 : w5.frozen? ⟨lb, 6, none⟩ = false := block_free L5.out
    have nb := below_newJ w5 (.cells #[.int .i64 (0), .int .i64 ((-1 - v)), .int .i64 ((-1 - v))] 153)
    obtain ⟨ib, hib⟩ : ∃ ib, w5.heap.size = ib := ⟨_, rfl⟩
    generalize hwN : w5.alloc (.cells #[.int .i64 (0), .int .i64 ((-1 - v)), .int .i64 ((-1 - v))] 153) = wN at nb
    have hwb : w.heap.size ≤ w5.heap.size := T5.out.size
    have fN := F5.out.later nb
    have tN := touch_below T5.out (nb.mono hwb)
    have lN : wN.heap[lb]? = _ := (nb.block lb (heap_lt L5.out)).trans L5.out
    have y6 : wN.cell? ⟨lb, 6, none⟩ = some (.slice none 0 0) := block_cell lN
    have g6 : wN.frozen? ⟨lb, 6, none⟩ = false := block_free lN
    have ls := block_set (i := 6) (.slice (some ⟨ib, 0, none⟩) 1 1) lN
    have ts := touch_below tN ((Below.refl w.heap.size wN).setCell (p := ⟨lb, 6, none⟩) (by have := LRB.out; show w.heap.size ≤ lb; omega) (.slice (some ⟨ib, 0, none⟩) 1 1))
    have fs := fN.below (by have := LRB.out; omega) (fun y hy => slx y hy) ((Below.refl lb wN).setCell (p := ⟨lb, 6, none⟩) (Nat.le_refl _) (.slice (some ⟨ib, 0, none⟩) 1 1))
    go_upto_region 36 with (fail)
    generalize wN.setCell ⟨lb, 6, none⟩ (.slice (some ⟨ib, 0, none⟩) 1 1) = w6 at ls ts fs ⊢
    have F6 := Lib.hid fs
    have T6 := Lib.hid ts
    have L6 := Lib.hid ls
    clear y6 g6 fs ts ls fN tN lN nb L5 F5 T5 hwN
    have z0 : w6.cell? ⟨lb, 0, none⟩ = some (.int .i64 1) := block_cell L6.out
    have z1 : w6.cell? ⟨lb, 1, none⟩ = some (.int .i64 0) := block_cell L6.out
    have z2 : w6.cell? ⟨lb, 2, none⟩ = some (.int .i64 0) := block_cell L6.out
    have z3 : w6.cell? ⟨lb, 3, none⟩ = some (.int .i64 0) := block_cell L6.out
    have z4 : w6.cell? ⟨lb, 4, none⟩ = some (.bool false) := block_cell L6.out
    have z5 : w6.cell? ⟨lb, 5, none⟩ = some (.bool false) := block_cell L6.out
    have z6 : w6.cell? ⟨lb, 6, none⟩ = some (.slice (some ⟨ib, 0, none⟩) 1 1) := block_cell L6.out
    have z7 : w6.cell? ⟨lb, 7, none⟩ = some (.slice none 0 0) := block_cell L6.out
    have HND := Lib.hid (node_f w6 lo rb pb _ n c src ig a5 false g nv N (H0.out.at_ T6.out F6.out) ⟨1, 0, 0, 0, false, false, .slice (some ⟨ib, 0, none⟩) 1 1, .slice none 0 0, []⟩ (KidF.none _ _ _ _ _ _ _ _ _) (by omega))
    have TTT := T6
    clear L6 F6 T6
    go_wp2_with fail
    refine HND.out.mono ?_
    rintro e w9 ⟨rfl, nv', hmv, hr9⟩
    have HMV := Lib.hid ((Mv.of (nv := nv) (pb := pb) TTT.out).trans hmv)
    have HR9 := Lib.hid hr9
    clear hmv hr9 HND TTT
    go_wp2
    go_ret
    exact NdP.one HMV.out HR9.out (kge_none rfl) (trN_set rfl rfl) (Nat.le_refl _)
  by_cases e37 : x = 37
  ·
   subst e37
   have hr := HR.out
   rw [if_neg (by decide)] at hr
   rw [if_neg (by decide)] at hr
   rw [if_neg (by decide)] at hr
   rw [if_neg (by decide)] at hr
   rw [if_neg (by decide)] at hr
   rw [if_pos (rfl)] at hr
   go_wp2_with fail
   refine (code_f rb pb (some ⟨gb, off, none⟩) n c src ⟨a + 1, g⟩ w4 F4.out).mono ?_
   rintro e w5 ⟨t5, h5⟩
   have T5 := Lib.hid (T4.out.trans t5 (fun y hy => .inl hy))
   have L5 := Lib.hid ((t5.block lb (heap_lt L4.out) (by have := LRB.out; show ¬ lb = rb; omega)).trans L4.out)
   clear t5 T4 L4 F4
   cases hh : codP src ⟨a + 1, g⟩ with
   | error k =>
    rw [hh] at h5 hr
    obtain ⟨⟨v, rfl, hv⟩, f5⟩ := h5
    obtain ⟨vi, rfl, hvi⟩ := hv
    have F5 := Lib.hid f5
    subst hr
    have r3 : w5.cell? ⟨rb, 3, none⟩ = some (.bool true) := block_cell f5.blk
    clear f5 HR hh
    go_wp2
    go_ret
    exact NdP.err _ (Mv.of T5.out) (H0.out.at_ T5.out F5.out)
   | ok r =>
    obtain ⟨v, s5⟩ := r
    obtain ⟨a5, g5⟩ := s5
    have hg5 := (codP_more hh).2
    simp only at hg5
    have hg6 := hg5.symm
    subst hg6
    rw [hh] at h5 hr
    obtain ⟨⟨v', rfl, rfl, v0, v1⟩, f5⟩ := h5
    have F5 := Lib.hid f5
    subst hr
    have r3 : w5.cell? ⟨rb, 3, none⟩ = some (.bool false) := block_cell F5.out.blk
    clear f5 HR hh
    go_upto_region 35 with (fail)
    have y6 : w5.cell? ⟨lb, 6, none⟩ = some (.slice none 0 0) := block_cell L5.out
    have g6 : w5.frozen? ⟨lb, 6, none⟩ = false := block_free L5.out
    have nb := below_newJ w5 (.cells #[.int .i64 (0), .int .i64 (v), .int .i64 (v)] 153)
    obtain ⟨ib, hib⟩ : ∃ ib, w5.heap.size = ib := ⟨_, rfl⟩
    generalize hwN : w5.alloc (.cells #[.int .i64 (0), .int .i64 (v), .int .i64 (v)] 153) = wN at nb
    have hwb : w.heap.size ≤ w5.heap.size := T5.out.size
    have fN := F5.out.later nb
    have tN := touch_below T5.out (nb.mono hwb)
    have lN : wN.heap[lb]? = _ := (nb.block lb (heap_lt L5.out)).trans L5.out
    have y6 : wN.cell? ⟨lb, 6, none⟩ = some (.slice none 0 0) := block_cell lN
    have g6 : wN.frozen? ⟨lb, 6, none⟩ = false := block_free lN
    have ls := block_set (i := 6) (.slice (some ⟨ib, 0, none⟩) 1 1) lN
    have ts := touch_below tN ((Below.refl w.heap.size wN).setCell (p := ⟨lb, 6, none⟩) (by have := LRB.out; show w.heap.size ≤ lb; omega) (.slice (some ⟨ib, 0, none⟩) 1 1))
    have fs := fN.below (by have := LRB.out; omega) (fun y hy => slx y hy) ((Below.refl lb wN).setCell (p := ⟨lb, 6, none⟩) (Nat.le_refl _) (.slice (some ⟨ib, 0, none⟩) 1 1))
    go_upto_region 36 with (fail)
    generalize wN.setCell ⟨lb, 6, none⟩ (.slice (some ⟨ib, 0, none⟩) 1 1) = w6 at ls ts fs ⊢
    have F6 := Lib.hid fs
    have T6 := Lib.hid ts
    have L6 := Lib.hid ls
    clear y6 g6 fs ts ls fN tN lN nb L5 F5 T5 hwN
    have z0 : w6.cell? ⟨lb, 0, none⟩ = some (.int .i64 1) := block_cell L6.out
    have z1 : w6.cell? ⟨lb, 1, none⟩ = some (.int .i64 0) := block_cell L6.out
    have z2 : w6.cell? ⟨lb, 2, none⟩ = some (.int .i64 0) := block_cell L6.out
    have z3 : w6.cell? ⟨lb, 3, none⟩ = some (.int .i64 0) := block_cell L6.out
    have z4 : w6.cell? ⟨lb, 4, none⟩ = some (.bool false) := block_cell L6.out
    have z5 : w6.cell? ⟨lb, 5, none⟩ = some (.bool false) := block_cell L6.out
    have z6 : w6.cell? ⟨lb, 6, none⟩ = some (.slice (some ⟨ib, 0, none⟩) 1 1) := block_cell L6.out
    have z7 : w6.cell? ⟨lb, 7, none⟩ = some (.slice none 0 0) := block_cell L6.out
    have HND := Lib.hid (node_f w6 lo rb pb _ n c src ig a5 false g nv N (H0.out.at_ T6.out F6.out) ⟨1, 0, 0, 0, false, false, .slice (some ⟨ib, 0, none⟩) 1 1, .slice none 0 0, []⟩ (KidF.none _ _ _ _ _ _ _ _ _) (by omega))
    have TTT := T6
    clear L6 F6 T6
    go_wp2_with fail
    refine HND.out.mono ?_
    rintro e w9 ⟨rfl, nv', hmv, hr9⟩
    have HMV := Lib.hid ((Mv.of (nv := nv) (pb := pb) TTT.out).trans hmv)
    have HR9 := Lib.hid hr9
    clear hmv hr9 HND TTT
    go_wp2
    go_ret
    exact NdP.one HMV.out HR9.out (kge_none rfl) (trN_set rfl rfl) (Nat.le_refl _)
  by_cases hbad : letP x = true ∨ x = 40 ∨ x = 41 ∨ x = 124 ∨ x = 43 ∨ x = 63 ∨ x = 123 ∨ x = 60 ∨ x = 62
  ·
   have hr := HR.out
   rw [if_neg (by omega)] at hr
   rw [if_neg (by omega)] at hr
   rw [if_neg (by omega)] at hr
   rw [if_neg (by omega)] at hr
   rw [if_neg (by omega)] at hr
   rw [if_neg (by omega)] at hr
   rw [if_pos (hbad)] at hr
   subst hr
   clear HR
   cases hl : letB x with
   | true =>
    clear hbad
    have r2 : w4.cell? ⟨rb, 2, none⟩ = some (.int .i64 ((a : Int) + 1)) := by
     have r2 : w4.cell? ⟨rb, 2, none⟩ = some (.int .i64 ((a + 1 : Nat) : Int)) := block_cell F4.out.blk
     rw [r2]
     rfl
    have q8 : IntKind.i64.wrap ((a : Int) + 1 - 1) = (a : Int) := by rw [IntKind.wrap_i64]; omega
    go_wp2_with fail
    refine (letter_f x w4).mono ?_
    rintro e w5 ⟨rfl, rfl⟩
    rw [hl]
    go_wp2_with fail
    refine (fail_f rb pb _ n c src (a + 1) a (by omega) _ F4.out).mono ?_
    rintro e w9 ⟨rfl, t9, f9⟩
    have FF := Lib.hid f9
    have TT := Lib.hid ((T4.out).trans t9 (fun y hy => .inl hy))
    clear t9 f9
    go_wp2
    go_ret
    exact NdP.err _ (Mv.of TT.out) (H0.out.at_ TT.out FF.out)
   | false =>
    have hb2 : x = 40 ∨ x = 41 ∨ x = 124 ∨ x = 43 ∨ x = 63 ∨ x = 123 ∨ x = 60 ∨ x = 62 := by
     rcases hbad with hb | hb
     ·
      rw [← letB_is, hl] at hb
      cases hb
     · exact hb
    clear hbad hl
    rcases hb2 with rfl | rfl | rfl | rfl | rfl | rfl | rfl | rfl
    ·
     have r2 : w4.cell? ⟨rb, 2, none⟩ = some (.int .i64 ((a : Int) + 1)) := by
      have r2 : w4.cell? ⟨rb, 2, none⟩ = some (.int .i64 ((a + 1 : Nat) : Int)) := block_cell F4.out.blk
      rw [r2]
      rfl
     have q8 : IntKind.i64.wrap ((a : Int) + 1 - 1) = (a : Int) := by rw [IntKind.wrap_i64]; omega
     go_wp2_with fail
     refine (letter_f 40 w4).mono ?_
     rintro e w5 ⟨rfl, rfl⟩
     rw [show letB 40 = false from rfl]
     go_wp2_with fail
     refine (fail_f rb pb _ n c src (a + 1) a (by omega) _ F4.out).mono ?_
     rintro e w9 ⟨rfl, t9, f9⟩
     have FF := Lib.hid f9
     have TT := Lib.hid ((T4.out).trans t9 (fun y hy => .inl hy))
     clear t9 f9
     go_wp2
     go_ret
     exact NdP.err _ (Mv.of TT.out) (H0.out.at_ TT.out FF.out)
    ·
     have r2 : w4.cell? ⟨rb, 2, none⟩ = some (.int .i64 ((a : Int) + 1)) := by
      have r2 : w4.cell? ⟨rb, 2, none⟩ = some (.int .i64 ((a + 1 : Nat) : Int)) := block_cell F4.out.blk
      rw [r2]
      rfl
     have q8 : IntKind.i64.wrap ((a : Int) + 1 - 1) = (a : Int) := by rw [IntKind.wrap_i64]; omega
     go_wp2_with fail
     refine (letter_f 41 w4).mono ?_
     rintro e w5 ⟨rfl, rfl⟩
     rw [show letB 41 = false from rfl]
     go_wp2_with fail
     refine (fail_f rb pb _ n c src (a + 1) a (by omega) _ F4.out).mono ?_
     rintro e w9 ⟨rfl, t9, f9⟩
     have FF := Lib.hid f9
     have TT := Lib.hid ((T4.out).trans t9 (fun y hy => .inl hy))
     clear t9 f9
     go_wp2
     go_ret
     exact NdP.err _ (Mv.of TT.out) (H0.out.at_ TT.out FF.out)
    ·
     have r2 : w4.cell? ⟨rb, 2, none⟩ = some (.int .i64 ((a : Int) + 1)) := by
      have r2 : w4.cell? ⟨rb, 2, none⟩ = some (.int .i64 ((a + 1 : Nat) : Int)) := block_cell F4.out.blk
      rw [r2]
      rfl
     have q8 : IntKind.i64.wrap ((a : Int) + 1 - 1) = (a : Int) := by rw [IntKind.wrap_i64]; omega
     go_wp2_with fail
     refine (letter_f 124 w4).mono ?_
     rintro e w5 ⟨rfl, rfl⟩
     rw [show letB 124 = false from rfl]
     go_wp2_with fail
     refine (fail_f rb pb _ n c src (a + 1) a (by omega) _ F4.out).mono ?_
     rintro e w9 ⟨rfl, t9, f9⟩
     have FF := Lib.hid f9
     have TT := Lib.hid ((T4.out).trans t9 (fun y hy => .inl hy))
     clear t9 f9
     go_wp2
     go_ret
     exact NdP.err _ (Mv.of TT.out) (H0.out.at_ TT.out FF.out)
    ·
     have r2 : w4.cell? ⟨rb, 2, none⟩ = some (.int .i64 ((a : Int) + 1)) := by
      have r2 : w4.cell? ⟨rb, 2, none⟩ = some (.int .i64 ((a + 1 : Nat) : Int)) := block_cell F4.out.blk
      rw [r2]
      rfl
     have q8 : IntKind.i64.wrap ((a : Int) + 1 - 1) = (a : Int) := by rw [IntKind.wrap_i64]; omega
     go_wp2_with fail
     refine (letter_f 43 w4).mono ?_
     rintro e w5 ⟨rfl, rfl⟩
     rw [show letB 43 = false from rfl]
     go_wp2_with fail
     refine (fail_f rb pb _ n c src (a + 1) a (by omega) _ F4.out).mono ?_
     rintro e w9 ⟨rfl, t9, f9⟩
     have FF := Lib.hid f9
     have TT := Lib.hid ((T4.out).trans t9 (fun y hy => .inl hy))
     clear t9 f9
     go_wp2
     go_ret
     exact NdP.err _ (Mv.of TT.out) (H0.out.at_ TT.out FF.out)
    ·
     have r2 : w4.cell? ⟨rb, 2, none⟩ = some (.int .i64 ((a : Int) + 1)) := by
      have r2 : w4.cell? ⟨rb, 2, none⟩ = some (.int .i64 ((a + 1 : Nat) : Int)) := block_cell F4.out.blk
      rw [r2]
      rfl
     have q8 : IntKind.i64.wrap ((a : Int) + 1 - 1) = (a : Int) := by rw [IntKind.wrap_i64]; omega
     go_wp2_with fail
     refine (letter_f 63 w4).mono ?_
     rintro e w5 ⟨rfl, rfl⟩
     rw [show letB 63 = false from rfl]
     go_wp2_with fail
     refine (fail_f rb pb _ n c src (a + 1) a (by omega) _ F4.out).mono ?_
     rintro e w9 ⟨rfl, t9, f9⟩
     have FF := Lib.hid f9
     have TT := Lib.hid ((T4.out).trans t9 (fun y hy => .inl hy))
     clear t9 f9
     go_wp2
     go_ret
     exact NdP.err _ (Mv.of TT.out) (H0.out.at_ TT.out FF.out)
    ·
     have r2 : w4.cell? ⟨rb, 2, none⟩ = some (.int .i64 ((a : Int) + 1)) := by
      have r2 : w4.cell? ⟨rb, 2, none⟩ = some (.int .i64 ((a + 1 : Nat) : Int)) := block_cell F4.out.blk
      rw [r2]
      rfl
     have q8 : IntKind.i64.wrap ((a : Int) + 1 - 1) = (a : Int) := by rw [IntKind.wrap_i64]; omega
     go_wp2_with fail
     refine (letter_f 123 w4).mono ?_
     rintro e w5 ⟨rfl, rfl⟩
     rw [show letB 123 = false from rfl]
     go_wp2_with fail
     refine (fail_f rb pb _ n c src (a + 1) a (by omega) _ F4.out).mono ?_
     rintro e w9 ⟨rfl, t9, f9⟩
     have FF := Lib.hid f9
     have TT := Lib.hid ((T4.out).trans t9 (fun y hy => .inl hy))
     clear t9 f9
     go_wp2
     go_ret
     exact NdP.err _ (Mv.of TT.out) (H0.out.at_ TT.out FF.out)
    ·
     have r2 : w4.cell? ⟨rb, 2, none⟩ = some (.int .i64 ((a : Int) + 1)) := by
      have r2 : w4.cell? ⟨rb, 2, none⟩ = some (.int .i64 ((a + 1 : Nat) : Int)) := block_cell F4.out.blk
      rw [r2]
      rfl
     have q8 : IntKind.i64.wrap ((a : Int) + 1 - 1) = (a : Int) := by rw [IntKind.wrap_i64]; omega
     go_wp2_with fail
     refine (letter_f 60 w4).mono ?_
     rintro e w5 ⟨rfl, rfl⟩
     rw [show letB 60 = false from rfl]
     go_wp2_with fail
     refine (fail_f rb pb _ n c src (a + 1) a (by omega) _ F4.out).mono ?_
     rintro e w9 ⟨rfl, t9, f9⟩
     have FF := Lib.hid f9
     have TT := Lib.hid ((T4.out).trans t9 (fun y hy => .inl hy))
     clear t9 f9
     go_wp2
     go_ret
     exact NdP.err _ (Mv.of TT.out) (H0.out.at_ TT.out FF.out)
    ·
     have r2 : w4.cell? ⟨rb, 2, none⟩ = some (.int .i64 ((a : Int) + 1)) := by
      have r2 : w4.cell? ⟨rb, 2, none⟩ = some (.int .i64 ((a + 1 : Nat) : Int)) := block_cell F4.out.blk
      rw [r2]
      rfl
     have q8 : IntKind.i64.wrap ((a : Int) + 1 - 1) = (a : Int) := by rw [IntKind.wrap_i64]; omega
     go_wp2_with fail
     refine (letter_f 62 w4).mono ?_
     rintro e w5 ⟨rfl, rfl⟩
     rw [show letB 62 = false from rfl]
     go_wp2_with fail
     refine (fail_f rb pb _ n c src (a + 1) a (by omega) _ F4.out).mono ?_
     rintro e w9 ⟨rfl, t9, f9⟩
     have FF := Lib.hid f9
     have TT := Lib.hid ((T4.out).trans t9 (fun y hy => .inl hy))
     clear t9 f9
     go_wp2
     go_ret
     exact NdP.err _ (Mv.of TT.out) (H0.out.at_ TT.out FF.out)
  ·
   have hr := HR.out
   rw [if_neg (by omega)] at hr
   rw [if_neg (by omega)] at hr
   rw [if_neg (by omega)] at hr
   rw [if_neg (by omega)] at hr
   rw [if_neg (by omega)] at hr
   rw [if_neg (by omega)] at hr
   rw [if_neg (hbad)] at hr
   subst hr
   clear HR
   have hl : letB x = false := by
    cases hq : letB x with
    | false => rfl
    | true => exact absurd (.inl (by rw [← letB_is]; exact hq)) hbad
   have n40 : ¬ x = 40 := fun e => hbad (by simp [e])
   have b40 : (x == 40) = false := by simp [n40]
   have d40 : decide (x = 40) = false := decide_eq_false n40
   have n41 : ¬ x = 41 := fun e => hbad (by simp [e])
   have b41 : (x == 41) = false := by simp [n41]
   have d41 : decide (x = 41) = false := decide_eq_false n41
   have n124 : ¬ x = 124 := fun e => hbad (by simp [e])
   have b124 : (x == 124) = false := by simp [n124]
   have d124 : decide (x = 124) = false := decide_eq_false n124
   have n43 : ¬ x = 43 := fun e => hbad (by simp [e])
   have b43 : (x == 43) = false := by simp [n43]
   have d43 : decide (x = 43) = false := decide_eq_false n43
   have n63 : ¬ x = 63 := fun e => hbad (by simp [e])
   have b63 : (x == 63) = false := by simp [n63]
   have d63 : decide (x = 63) = false := decide_eq_false n63
   have n123 : ¬ x = 123 := fun e => hbad (by simp [e])
   have b123 : (x == 123) = false := by simp [n123]
   have d123 : decide (x = 123) = false := decide_eq_false n123
   have n60 : ¬ x = 60 := fun e => hbad (by simp [e])
   have b60 : (x == 60) = false := by simp [n60]
   have d60 : decide (x = 60) = false := decide_eq_false n60
   have n62 : ¬ x = 62 := fun e => hbad (by simp [e])
   have b62 : (x == 62) = false := by simp [n62]
   have d62 : decide (x = 62) = false := decide_eq_false n62
   clear hbad
   have r3 : w4.cell? ⟨rb, 3, none⟩ = some (.bool false) := block_cell F4.out.blk
   go_wp2_with fail
   refine (letter_f x w4).mono ?_
   rintro e w5 ⟨rfl, rfl⟩
   rw [hl]
   go_upto_region 35 with (fail)
   have y6 : w4.cell? ⟨lb, 6, none⟩ = some (.slice none 0 0) := block_cell L4.out
   have g6 : w4.frozen? ⟨lb, 6, none⟩ = false := block_free L4.out
   have nb := below_newJ w4 (.cells #[.int .i64 (0), .int .i64 (x), .int .i64 (x)] 153)
   obtain ⟨ib, hib⟩ : ∃ ib, w4.heap.size = ib := ⟨_, rfl⟩
   generalize hwN : w4.alloc (.cells #[.int .i64 (0), .int .i64 (x), .int .i64 (x)] 153) = wN at nb
   have hwb : w.heap.size ≤ w4.heap.size := T4.out.size
   have fN := F4.out.later nb
   have tN := touch_below T4.out (nb.mono hwb)
   have lN : wN.heap[lb]? = _ := (nb.block lb (heap_lt L4.out)).trans L4.out
   have y6 : wN.cell? ⟨lb, 6, none⟩ = some (.slice none 0 0) := block_cell lN
   have g6 : wN.frozen? ⟨lb, 6, none⟩ = false := block_free lN
   have ls := block_set (i := 6) (.slice (some ⟨ib, 0, none⟩) 1 1) lN
   have ts := touch_below tN ((Below.refl w.heap.size wN).setCell (p := ⟨lb, 6, none⟩) (by have := LRB.out; show w.heap.size ≤ lb; omega) (.slice (some ⟨ib, 0, none⟩) 1 1))
   have fs := fN.below (by have := LRB.out; omega) (fun y hy => slx y hy) ((Below.refl lb wN).setCell (p := ⟨lb, 6, none⟩) (Nat.le_refl _) (.slice (some ⟨ib, 0, none⟩) 1 1))
   go_upto_region 36 with (fail)
   generalize wN.setCell ⟨lb, 6, none⟩ (.slice (some ⟨ib, 0, none⟩) 1 1) = w6 at ls ts fs ⊢
   have F6 := Lib.hid fs
   have T6 := Lib.hid ts
   have L6 := Lib.hid ls
   clear y6 g6 fs ts ls fN tN lN nb L4 F4 T4 hwN
   have z0 : w6.cell? ⟨lb, 0, none⟩ = some (.int .i64 1) := block_cell L6.out
   have z1 : w6.cell? ⟨lb, 1, none⟩ = some (.int .i64 0) := block_cell L6.out
   have z2 : w6.cell? ⟨lb, 2, none⟩ = some (.int .i64 0) := block_cell L6.out
   have z3 : w6.cell? ⟨lb, 3, none⟩ = some (.int .i64 0) := block_cell L6.out
   have z4 : w6.cell? ⟨lb, 4, none⟩ = some (.bool false) := block_cell L6.out
   have z5 : w6.cell? ⟨lb, 5, none⟩ = some (.bool false) := block_cell L6.out
   have z6 : w6.cell? ⟨lb, 6, none⟩ = some (.slice (some ⟨ib, 0, none⟩) 1 1) := block_cell L6.out
   have z7 : w6.cell? ⟨lb, 7, none⟩ = some (.slice none 0 0) := block_cell L6.out
   have HND := Lib.hid (node_f w6 lo rb pb _ n c src ig (a + 1) false g nv N (H0.out.at_ T6.out F6.out) ⟨1, 0, 0, 0, false, false, .slice (some ⟨ib, 0, none⟩) 1 1, .slice none 0 0, []⟩ (KidF.none _ _ _ _ _ _ _ _ _) (by omega))
   have TTT := T6
   clear L6 F6 T6
   go_wp2_with fail
   refine HND.out.mono ?_
   rintro e w9 ⟨rfl, nv', hmv, hr9⟩
   have HMV := Lib.hid ((Mv.of (nv := nv) (pb := pb) TTT.out).trans hmv)
   have HR9 := Lib.hid hr9
   clear hmv hr9 HND TTT
   go_wp2
   go_ret
   exact NdP.one HMV.out HR9.out (kge_none rfl) (trN_set rfl rfl) (Nat.le_refl _)
 ·
  have hnx : nx src ⟨a, g⟩ = .error src.length := if_pos (by rw [hlen]; show n ≤ a; omega)
  rw [hnx] at hR
  have hr2 : R = .error a := by rw [← hR]; exact congrArg Except.error (show src.length = a by omega)
  subst hr2
  have q1 : (n : Int) ≤ (a : Int) := by omega
  clear hR hnx h
  go_enter Tryd.func102, Tryd.ntmps102
  go_wp2_with fail
  go_quiet (fail)
  have Fq := Lib.hid (H0.out.rd.drewN nq)
  have Tq := Lib.hid (touch_drewN (n := nq) (Touch.refl (fun b => b = rb) w))
  clear b1 b2
  generalize w.drewN nq = w1 at Fq Tq ⊢
  have b2 : w1.cell? ⟨rb, 2, none⟩ = some (.int .i64 a) := block_cell Fq.out.blk
  go_wp2_with fail
  refine (fail_f rb pb _ n c src a a (by omega) w1 Fq.out).mono ?_
  rintro e w9 ⟨rfl, t9, f9⟩
  have FF := Lib.hid f9
  have TT := Lib.hid ((Tq.out).trans t9 (fun y hy => .inl hy))
  clear t9 f9
  go_wp2
  go_ret
  exact NdP.err _ (Mv.of TT.out) (H0.out.at_ TT.out FF.out)
end Go.Proofs.YtdegdoilpamjjaaDoor
