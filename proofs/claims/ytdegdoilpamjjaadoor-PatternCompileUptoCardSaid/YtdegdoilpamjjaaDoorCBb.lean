/- Contracts of the document's reader of patterns: single. Condition: no more than 2^30 ints. Contracts of the document's reader of patterns: member, and so all of it. Condition: no more than 2^30 ints. Contract of the document's Parts: the parts of a node, as the program counts them. Condition: fewer than 10^9 nodes. -/
import Derived.Test.YtdegdoilpamjjaaDoorCBa
import Derived.Test.YtdegdoilpamjjaaDoorCAz
import Derived.Test.YtdegdoilpamjjaaDoorCAq
namespace Go.Proofs.YtdegdoilpamjjaaDoor
open Go.RowKit
set_option linter.unusedVariables false
set_option linter.unusedSimpArgs false
set_option maxRecDepth 100000 in
set_option maxHeartbeats 32000000 in
theorem single_f (w : World) (lo rb pb : Nat) (sl : Option Addr) (n c : Nat) (src : List Int) (ig fold : Bool) (s : RS) (nv : Value) (N : List NdF) (h : RfM w lo rb pb sl n c src ig s.at' false s.groups nv N) (hN : N.length < 100000) (B : Nat) (hlt : s.at' < n) :
  Calls Tryd.prog 91 #[.pointer (some ⟨rb, 0, none⟩)] w (NdP w lo rb pb sl n c src ig nv N B (fun _ => 1) (sngP src fold s) (fun N' x k => trN N' k x)) := by
 obtain ⟨a, g⟩ := s
 simp only at h hlt
 obtain ⟨R, hR⟩ : ∃ R, sngP src fold ⟨a, g⟩ = R := ⟨_, rfl⟩
 rw [hR]
 unfold sngP at hR
 have hn30 := h.rd.n30
 have hlen := h.rd.len
 have hrb : rb < w.heap.size := heap_lt h.rd.blk
 have b1 : w.cell? ⟨rb, 1, none⟩ = some (.slice sl n c) := block_cell h.rd.blk
 have b2 : w.cell? ⟨rb, 2, none⟩ = some (.int .i64 a) := block_cell h.rd.blk
 have slw : ∀ y, sl = some y → y.block < w.heap.size := fun y hy => Nat.lt_of_lt_of_le (h.sll y hy) (by have := h.low.1; omega)
 have H0 := Lib.hid h
 obtain ⟨gb, off, hgs, c0⟩ := h.rd.src.at (Below.refl _ _) hlt
 have hnx : nx src ⟨a, g⟩ = .ok (gl src a, ⟨a + 1, g⟩) := if_neg (by rw [hlen]; show ¬ n ≤ a; omega)
 rw [hnx] at hR
 simp only at hR
 obtain ⟨x, hx⟩ : ∃ x, gl src a = x := ⟨_, rfl⟩
 rw [hx] at hR c0
 have HR := Lib.hid hR
 subst hgs
 have q2 : (0 : Int) ≤ (a : Int) := by omega
 have q3 : (a : Int) < (n : Int) := by omega
 have p3 : IntKind.i64.wrap ((a : Int) + 1) = (a : Int) + 1 := by rw [IntKind.wrap_i64]; omega
 clear hR hnx hx h
 go_enter Tryd.func91, Tryd.ntmps91
 go_wp2_with fail
 go_quiet (fail)
 have fs := H0.out.rd.drewN nq
 have ts := touch_drewN (n := nq) (Touch.refl (fun b => b = rb) w)
 have hs3 : (w.drewN nq).heap.size = w.heap.size := rfl
 clear b1 b2 c0
 generalize w.drewN nq = w2 at fs ts hs3 ⊢
 have ob := below_newJ w2 (.cells #[.int .i64 0, .int .i64 0, .int .i64 0, .int .i64 0, .bool false, .bool false, .slice none 0 0, .slice none 0 0] 138)
 have oo := one_new w2 (.cells #[.int .i64 0, .int .i64 0, .int .i64 0, .int .i64 0, .bool false, .bool false, .slice none 0 0, .slice none 0 0] 138)
 rw [hs3] at ob oo
 obtain ⟨lb, hlb⟩ : ∃ lb, w.heap.size = lb := ⟨_, rfl⟩
 generalize hw3 : w2.alloc (.cells #[.int .i64 0, .int .i64 0, .int .i64 0, .int .i64 0, .bool false, .bool false, .slice none 0 0, .slice none 0 0] 138) = w3 at ob oo
 rw [hlb] at oo hs3 hrb
 have LRB := Lib.hid (show rb < lb ∧ w.heap.size = lb from by omega)
 have slx : ∀ y, (some ⟨gb, off, none⟩ : Option Addr) = some y → y.block < lb := fun y hy => by have := slw y hy; omega
 have PO := Lib.hid oo
 have fs3 := fs.below (B := lb) LRB.out.1 slx (by rw [← hlb]; exact ob)
 have ts3 := touch_below ts ob
 have PF := Lib.hid fs3
 have PT := Lib.hid ts3
 clear ob oo fs ts fs3 ts3 slw
 go_upto_region 3 with (refine wpList_store_row rfl 138 _ _ rfl lb #[.int .i64 (1), .int .i64 (0), .int .i64 (0), .int .i64 (0), .bool false, .bool false, .slice none 0 0, .slice none 0 0] rfl rfl _ _ PO.out fnode_info rfl (fnode_all _ _ _ _ _ _ _ _ _ _ _ _) ?_)
 have F4 := Lib.hid (PF.out.below (B := lb) LRB.out.1 slx (row_belowg (w := w3) (g := lb) #[.int .i64 (1), .int .i64 (0), .int .i64 (0), .int .i64 (0), .bool false, .bool false, .slice none 0 0, .slice none 0 0] (Nat.le_refl _)))
 have T4 := Lib.hid (touch_below PT.out (row_belowg (w := w3) (B := w.heap.size) (g := lb) #[.int .i64 (1), .int .i64 (0), .int .i64 (0), .int .i64 (0), .bool false, .bool false, .slice none 0 0, .slice none 0 0] (by have := LRB.out; omega)))
 have L4 := Lib.hid (row_setg #[.int .i64 (1), .int .i64 (0), .int .i64 (0), .int .i64 (0), .bool false, .bool false, .slice none 0 0, .slice none 0 0] PO.out)
 generalize w3.setRow lb #[.int .i64 (1), .int .i64 (0), .int .i64 (0), .int .i64 (0), .bool false, .bool false, .slice none 0 0, .slice none 0 0] = w4 at F4 T4 L4 ⊢
 clear hw3 PO PF PT
 by_cases e42 : x = 42
 ·
  subst e42
  have hr := HR.out
  rw [if_pos rfl] at hr
  subst hr
  clear HR
  have r2 : w4.cell? ⟨rb, 2, none⟩ = some (.int .i64 a) := block_cell F4.out.blk
  go_wp2_with fail
  refine (fail_f rb pb _ n c src a a (by omega) _ F4.out).mono ?_
  rintro e w9 ⟨rfl, t9, f9⟩
  have FF := Lib.hid f9
  have TT := Lib.hid ((T4.out).trans t9 (fun y hy => .inl hy))
  clear t9 f9
  go_wp2
  go_ret
  exact NdP.err _ (Mv.of TT.out) (H0.out.at_ TT.out FF.out)
 by_cases e91 : x = 91
 ·
  subst e91
  have hr := HR.out
  rw [if_neg (by decide)] at hr
  rw [if_pos (rfl)] at hr
  subst hr
  clear HR
  have b2 : w4.cell? ⟨rb, 2, none⟩ = some (.int .i64 a) := block_cell F4.out.blk
  have g2 : w4.frozen? ⟨rb, 2, none⟩ = false := block_free F4.out.blk
  have fs := F4.out.step 1 (by omega)
  have ts := T4.out.trans (Touch.setCell (fun b => b = rb) w4 (p := ⟨rb, 2, none⟩) rfl (.int .i64 ((a + 1 : Nat) : Int))) (fun x hx => .inl hx)
  have ls : (w4.setCell ⟨rb, 2, none⟩ (.int .i64 ((a + 1 : Nat) : Int))).heap[lb]? = _ := (Below.heap_setCell _ _ _ _ (show lb ≠ rb from by have := LRB.out; omega)).trans L4.out
  rw [show ((a + 1 : Nat) : Int) = (a : Int) + 1 from by omega] at fs ts ls
  go_upto_region 8 with (fail)
  generalize w4.setCell ⟨rb, 2, none⟩ (.int .i64 ((a : Int) + 1)) = w5 at fs ts ls ⊢
  have F5 := Lib.hid fs
  have T5 := Lib.hid ts
  have L5 := Lib.hid ls
  clear b2 g2 fs ts ls F4 T4 L4
  go_wp2_with fail
  refine (class_f w5 lo rb pb _ n c src ig fold ⟨a + 1, g⟩ nv N (H0.out.at_ T5.out F5.out) hN B).mono ?_
  rintro e w9 ⟨k9, nv', M9, rfl, hmv, hm9⟩
  have HMV := Lib.hid ((Mv.of (nv := nv) (pb := pb) T5.out).trans hmv)
  have HM9 := Lib.hid hm9
  clear hmv hm9 T5 F5 L5
  go_wp2
  go_ret
  exact ⟨k9, nv', M9, rfl, HMV.out, HM9.out⟩
 by_cases e46 : x = 46
 ·
  subst e46
  have hr := HR.out
  rw [if_neg (by decide)] at hr
  rw [if_neg (by decide)] at hr
  rw [if_pos (rfl)] at hr
  subst hr
  clear HR
  have b2 : w4.cell? ⟨rb, 2, none⟩ = some (.int .i64 a) := block_cell F4.out.blk
  have g2 : w4.frozen? ⟨rb, 2, none⟩ = false := block_free F4.out.blk
  have fs := F4.out.step 1 (by omega)
  have ts := T4.out.trans (Touch.setCell (fun b => b = rb) w4 (p := ⟨rb, 2, none⟩) rfl (.int .i64 ((a + 1 : Nat) : Int))) (fun x hx => .inl hx)
  have ls : (w4.setCell ⟨rb, 2, none⟩ (.int .i64 ((a + 1 : Nat) : Int))).heap[lb]? = _ := (Below.heap_setCell _ _ _ _ (show lb ≠ rb from by have := LRB.out; omega)).trans L4.out
  rw [show ((a + 1 : Nat) : Int) = (a : Int) + 1 from by omega] at fs ts ls
  go_upto_region 11 with (fail)
  generalize w4.setCell ⟨rb, 2, none⟩ (.int .i64 ((a : Int) + 1)) = w5 at fs ts ls ⊢
  have F5 := Lib.hid fs
  have T5 := Lib.hid ts
  have L5 := Lib.hid ls
  clear b2 g2 fs ts ls F4 T4 L4
  have y5 : w5.cell? ⟨lb, 5, none⟩ = some (.bool false) := block_cell L5.out
  have g5 : w5.frozen? ⟨lb, 5, none⟩ = false := block_free L5.out
  have ls := block_set (i := 5) (.bool true) L5.out
  have ts := touch_below T5.out ((Below.refl w.heap.size w5).setCell (p := ⟨lb, 5, none⟩) (by have := LRB.out; show w.heap.size ≤ lb; omega) (.bool true))
  have fs := F5.out.below (by have := LRB.out; omega) (fun y hy => slx y hy) ((Below.refl lb w5).setCell (p := ⟨lb, 5, none⟩) (Nat.le_refl _) (.bool true))
  go_upto_region 12 with (fail)
  generalize w5.setCell ⟨lb, 5, none⟩ (.bool true) = w7 at ls ts fs ⊢
  have F7 := Lib.hid fs
  have T7 := Lib.hid ts
  have L7 := Lib.hid ls
  clear y5 g5 fs ts ls F5 T5 L5
  have z0 : w7.cell? ⟨lb, 0, none⟩ = some (.int .i64 1) := block_cell L7.out
  have z1 : w7.cell? ⟨lb, 1, none⟩ = some (.int .i64 0) := block_cell L7.out
  have z2 : w7.cell? ⟨lb, 2, none⟩ = some (.int .i64 0) := block_cell L7.out
  have z3 : w7.cell? ⟨lb, 3, none⟩ = some (.int .i64 0) := block_cell L7.out
  have z4 : w7.cell? ⟨lb, 4, none⟩ = some (.bool false) := block_cell L7.out
  have z5 : w7.cell? ⟨lb, 5, none⟩ = some (.bool true) := block_cell L7.out
  have z6 : w7.cell? ⟨lb, 6, none⟩ = some (.slice none 0 0) := block_cell L7.out
  have z7 : w7.cell? ⟨lb, 7, none⟩ = some (.slice none 0 0) := block_cell L7.out
  have HND := Lib.hid (node_f w7 lo rb pb _ n c src ig (a + 1) false g nv N (H0.out.at_ T7.out F7.out) ⟨1, 0, 0, 0, false, true, .slice none 0 0, .slice none 0 0, []⟩ (KidF.none _ _ _ _ _ _ _ _ _) (by omega))
  have TTT := T7
  clear L7 F7 T7
  go_wp2_with fail
  refine HND.out.mono ?_
  rintro e w9 ⟨rfl, nv', hmv, hr9⟩
  have HMV := Lib.hid ((Mv.of (nv := nv) (pb := pb) TTT.out).trans hmv)
  have HR9 := Lib.hid hr9
  clear hmv hr9 HND TTT
  go_wp2
  go_ret
  exact NdP.one HMV.out HR9.out (kge_none rfl) (trN_set rfl rfl) (Nat.le_refl _)
 by_cases e92 : x = 92
 ·
  subst e92
  have hr := HR.out
  rw [if_neg (by decide)] at hr
  rw [if_neg (by decide)] at hr
  rw [if_neg (by decide)] at hr
  rw [if_pos (rfl)] at hr
  subst hr
  clear HR
  have b2 : w4.cell? ⟨rb, 2, none⟩ = some (.int .i64 a) := block_cell F4.out.blk
  have g2 : w4.frozen? ⟨rb, 2, none⟩ = false := block_free F4.out.blk
  have fs := F4.out.step 1 (by omega)
  have ts := T4.out.trans (Touch.setCell (fun b => b = rb) w4 (p := ⟨rb, 2, none⟩) rfl (.int .i64 ((a + 1 : Nat) : Int))) (fun x hx => .inl hx)
  have ls : (w4.setCell ⟨rb, 2, none⟩ (.int .i64 ((a + 1 : Nat) : Int))).heap[lb]? = _ := (Below.heap_setCell _ _ _ _ (show lb ≠ rb from by have := LRB.out; omega)).trans L4.out
  rw [show ((a + 1 : Nat) : Int) = (a : Int) + 1 from by omega] at fs ts ls
  go_upto_region 15 with (fail)
  generalize w4.setCell ⟨rb, 2, none⟩ (.int .i64 ((a : Int) + 1)) = w5 at fs ts ls ⊢
  have F5 := Lib.hid fs
  have T5 := Lib.hid ts
  have L5 := Lib.hid ls
  clear b2 g2 fs ts ls F4 T4 L4
  go_wp2_with fail
  refine (escape_f w5 lo rb pb _ n c src ig fold ⟨a + 1, g⟩ nv N (H0.out.at_ T5.out F5.out) hN B).mono ?_
  rintro e w9 ⟨k9, nv', M9, rfl, hmv, hm9⟩
  have HMV := Lib.hid ((Mv.of (nv := nv) (pb := pb) T5.out).trans hmv)
  have HM9 := Lib.hid hm9
  clear hmv hm9 T5 F5 L5
  go_wp2
  go_ret
  exact ⟨k9, nv', M9, rfl, HMV.out, HM9.out⟩
 have hr := HR.out
 rw [if_neg (e42)] at hr
 rw [if_neg (e91)] at hr
 rw [if_neg (e46)] at hr
 rw [if_neg (e92)] at hr
 subst hr
 clear HR
 have b2 : w4.cell? ⟨rb, 2, none⟩ = some (.int .i64 a) := block_cell F4.out.blk
 have g2 : w4.frozen? ⟨rb, 2, none⟩ = false := block_free F4.out.blk
 have fs := F4.out.step 1 (by omega)
 have ts := T4.out.trans (Touch.setCell (fun b => b = rb) w4 (p := ⟨rb, 2, none⟩) rfl (.int .i64 ((a + 1 : Nat) : Int))) (fun x hx => .inl hx)
 have ls : (w4.setCell ⟨rb, 2, none⟩ (.int .i64 ((a + 1 : Nat) : Int))).heap[lb]? = _ := (Below.heap_setCell _ _ _ _ (show lb ≠ rb from by have := LRB.out; omega)).trans L4.out
 rw [show ((a + 1 : Nat) : Int) = (a : Int) + 1 from by omega] at fs ts ls
 go_upto_region 17 with (fail)
 generalize w4.setCell ⟨rb, 2, none⟩ (.int .i64 ((a : Int) + 1)) = w5 at fs ts ls ⊢
 have F5 := Lib.hid fs
 have T5 := Lib.hid ts
 have L5 := Lib.hid ls
 clear b2 g2 fs ts ls F4 T4 L4
 have y6 : w5.cell? ⟨lb, 6, none⟩ = some (.slice none 0 0) := block_cell L5.out
 have g6 : w5.frozen? ⟨lb, 6, none⟩ = false := block_free L5.out
 have nb := below_newJ w5 (.cells #[.int .i64 (0), .int .i64 (x), .int .i64 (x)] 153)
 obtain ⟨ib, hib⟩ : ∃ ib, w5.heap.size = ib := ⟨_, rfl⟩
 generalize hwN : w5.alloc (.cells #[.int .i64 (0), .int .i64 (x), .int .i64 (x)] 153) = wN at nb
 have hwb : w.heap.size ≤ w5.heap.size := T5.out.size
 have fN := F5.out.later nb
 have tN := touch_below T5.out (nb.mono hwb)
 have lN : wN.heap[lb]? = _ := (nb.block lb (heap_lt L5.out)).trans L5.out
 have y6 : wN.cell? ⟨lb, 6, none⟩ = some (.slice none 0 0) := block_cell lN
 have g6 : wN.frozen? ⟨lb, 6, none⟩ = false := block_free lN
 have ls := block_set (i := 6) (.slice (some ⟨ib, 0, none⟩) 1 1) lN
 have ts := touch_below tN ((Below.refl w.heap.size wN).setCell (p := ⟨lb, 6, none⟩) (by have := LRB.out; show w.heap.size ≤ lb; omega) (.slice (some ⟨ib, 0, none⟩) 1 1))
 have fs := fN.below (by have := LRB.out; omega) (fun y hy => slx y hy) ((Below.refl lb wN).setCell (p := ⟨lb, 6, none⟩) (Nat.le_refl _) (.slice (some ⟨ib, 0, none⟩) 1 1))
 go_upto_region 18 with (fail)
 generalize wN.setCell ⟨lb, 6, none⟩ (.slice (some ⟨ib, 0, none⟩) 1 1) = w6 at ls ts fs ⊢
 have F6 := Lib.hid fs
 have T6 := Lib.hid ts
 have L6 := Lib.hid ls
 clear y6 g6 fs ts ls fN tN lN nb L5 F5 T5 hwN
 have z0 : w6.cell? ⟨lb, 0, none⟩ = some (.int .i64 1) := block_cell L6.out
 have z1 : w6.cell? ⟨lb, 1, none⟩ = some (.int .i64 0) := block_cell L6.out
 have z2 : w6.cell? ⟨lb, 2, none⟩ = some (.int .i64 0) := block_cell L6.out
 have z3 : w6.cell? ⟨lb, 3, none⟩ = some (.int .i64 0) := block_cell L6.out
 have z4 : w6.cell? ⟨lb, 4, none⟩ = some (.bool false) := block_cell L6.out
 have z5 : w6.cell? ⟨lb, 5, none⟩ = some (.bool false) := block_cell L6.out
 have z6 : w6.cell? ⟨lb, 6, none⟩ = some (.slice (some ⟨ib, 0, none⟩) 1 1) := block_cell L6.out
 have z7 : w6.cell? ⟨lb, 7, none⟩ = some (.slice none 0 0) := block_cell L6.out
 have HND := Lib.hid (node_f w6 lo rb pb _ n c src ig (a + 1) false g nv N (H0.out.at_ T6.out F6.out) ⟨1, 0, 0, 0, false, false, .slice (some ⟨ib, 0, none⟩) 1 1, .slice none 0 0, []⟩ (KidF.none _ _ _ _ _ _ _ _ _) (by omega))
 have TTT := T6
 clear L6 F6 T6
 go_wp2_with fail
 refine HND.out.mono ?_
 rintro e w9 ⟨rfl, nv', hmv, hr9⟩
 have HMV := Lib.hid ((Mv.of (nv := nv) (pb := pb) TTT.out).trans hmv)
 have HR9 := Lib.hid hr9
 clear hmv hr9 HND TTT
 go_wp2
 go_ret
 exact NdP.one HMV.out HR9.out (kge_none rfl) (trN_set rfl rfl) (Nat.le_refl _)
end Go.Proofs.YtdegdoilpamjjaaDoor
namespace Go.Proofs.YtdegdoilpamjjaaDoor
open Go.RowKit
set_option linter.unusedVariables false
set_option linter.unusedSimpArgs false
theorem trN_edge {N : List NdF} {x : NdF} {c : Int} (h : x.kind = 2) (h2 : x.kids = []) : trN (N ++ [x]) N.length (.edge c) := by
 rw [trN]
 exact ⟨x, List.getElem?_concat_length, h, h2⟩
theorem times_at (src : List Int) (x : Nd) (s : RS) : ∀ (y : Nd) (s1 : RS), timesP src x s = .ok (y, s1) → s.at' ≤ s1.at' := by
 intro y s1 h
 unfold timesP at h
 split at h
 · cases h; exact Nat.le_succ _
 ·
  split at h
  · cases h; exact Nat.le_add_right _ _
  ·
   split at h
   · cases h; exact Nat.le_add_right _ _
   ·
    split at h
    ·
     unfold bracesP at h
     simp only at h
     cases h1 : numP' src (if decide (pk src (s.at' + 2) 0 = 45) = true then { at' := s.at' + 2 + 1, groups := s.groups } else { at' := s.at' + 2, groups := s.groups }) with
     | error e => rw [h1] at h; cases h
     | ok r =>
      obtain ⟨v, s2⟩ := r
      rw [h1] at h
      simp only at h
      have m1 := (numR_more _ _ _ _ _ h1).1
      have m0 : s.at' + 2 ≤ s2.at' := by split at m1 <;> simp only at m1 <;> omega
      cases h2 : (if pk src s2.at' 0 = 44 then numP' src { at' := s2.at' + 1, groups := s2.groups } else .ok (v, s2)) with
      | error e => rw [h2] at h; cases h
      | ok r =>
       obtain ⟨v3, s3⟩ := r
       rw [h2] at h
       simp only at h
       have m2 : s2.at' ≤ s3.at' := by
        split at h2
        ·
         have := (numR_more _ _ _ _ _ h2).1
         simp only at this
         omega
        · cases h2; exact Nat.le_refl _
       cases h3 : nx src s3 with
       | error e => rw [h3] at h; cases h
       | ok r =>
        obtain ⟨v4, s4⟩ := r
        rw [h3] at h
        simp only at h
        have m3 := (nx_more h3).1
        split at h
        · cases h
        · cases h; omega
    · cases h; exact Nat.le_refl _
set_option maxRecDepth 100000 in
set_option maxHeartbeats 64000000 in
theorem member_f (F : Nat) (w : World) (lo rb pb : Nat) (sl : Option Addr) (n c : Nat) (src : List Int) (ig fold : Bool) (s : RS) (nv : Value) (N : List NdF) (h : RfM w lo rb pb sl n c src ig s.at' false s.groups nv N) (hlt : s.at' < n) (hF : 4 * (n - s.at') + 6 ≤ F) (hN : N.length + 2 * (n - s.at') < 90000) (hg9 : s.groups ≤ 9) (hM : MemF lo rb pb sl n c src ig fold F) :
  Calls Tryd.prog 78 #[.pointer (some ⟨rb, 0, none⟩)] w (NdP w lo rb pb sl n c src ig nv N w.heap.size (fun a => 2 * (a - s.at')) (memP src fold F s) (fun N' x k => trN N' k x)) := by
 obtain ⟨f, rfl⟩ : ∃ f, F = f + 1 + 1 := ⟨F - 2, by omega⟩
 obtain ⟨a, g⟩ := s
 simp only at h hlt hF hN hg9 ⊢
 rw [memP_eq]
 simp only
 have hn30 := h.rd.n30
 have hlen := h.rd.len
 obtain ⟨gb, off, hgs, c0⟩ := h.rd.src.at (Below.refl _ _) hlt
 have hpk : pk src a 0 = gl src a := if_pos (by rw [hlen]; exact hlt)
 rw [hpk]
 obtain ⟨x, hx⟩ : ∃ x, gl src a = x := ⟨_, rfl⟩
 rw [hx] at c0 ⊢
 have HX := Lib.hid hx
 obtain ⟨R, hR⟩ : ∃ R : RR Nd, (if x = 94 ∨ x = 36 then .ok (.edge x, { at' := a + 1, groups := g }) else if escB src a 60 = true ∨ escB src a 62 = true then .ok (.edge (srcAt src (a + 1)), { at' := a + 2, groups := g }) else memT src (thingP src fold (f + 1) ⟨a, g⟩)) = R := ⟨_, rfl⟩
 rw [hR]
 have HR := Lib.hid hR
 have HM := Lib.hid hM
 have r1 : w.cell? ⟨rb, 1, none⟩ = some (.slice sl n c) := block_cell h.rd.blk
 have r2 : w.cell? ⟨rb, 2, none⟩ = some (.int .i64 a) := block_cell h.rd.blk
 have H0 := Lib.hid h
 subst hgs
 have q2 : (0 : Int) ≤ (a : Int) := by omega
 have q3 : (a : Int) < (n : Int) := by omega
 clear hR hx hpk hM h
 go_enter Tryd.func78, Tryd.ntmps78
 go_wp2_with fail
 go_quiet (fail)
 have H1 := Lib.hid (H0.out.drewN nq)
 have MM := Lib.hid (Mv.new (rb := rb) (pb := pb) (nv := nv) (below_drewN (n := nq) (Below.refl w.heap.size w)))
 clear r1 r2 c0 H0
 generalize w.drewN nq = w1 at H1 MM ⊢
 by_cases hE1 : x = 94 ∨ x = 36
 ·
  have hr := HR.out
  rw [if_pos hE1] at hr
  have HRE := Lib.hid hr.symm
  clear HR hr
  rcases hE1 with rfl | rfl
  ·
   go_upto_region 3 with (fail)
   have b2 : w1.cell? ⟨rb, 2, none⟩ = some (.int .i64 a) := block_cell H1.out.rd.blk
   have g2 : w1.frozen? ⟨rb, 2, none⟩ = false := block_free H1.out.rd.blk
   have p3 : IntKind.i64.wrap ((a : Int) + 1) = (a : Int) + 1 := by rw [IntKind.wrap_i64]; omega
   have hs := (H1.out.go 1 (by omega))
   rw [show ((a + 1 : Nat) : Int) = (a : Int) + 1 from by omega] at hs
   have HS := Lib.hid hs.1
   have MS := Lib.hid (MM.out.trans hs.2)
   clear hs H1 MM
   go_upto_region 4 with (fail)
   generalize w1.setCell ⟨rb, 2, none⟩ (.int .i64 ((a : Int) + 1)) = w7 at HS MS ⊢
   clear b2 g2 p3
   have nb := below_newJ w7 (.cells #[.int .i64 0, .int .i64 94, .int .i64 0] 153)
   obtain ⟨ib, hib⟩ : ∃ ib, w7.heap.size = ib := ⟨_, rfl⟩
   have HS8 := Lib.hid (HS.out.later nb)
   have MS8 := Lib.hid (MS.out.trans (Mv.new (rb := rb) (pb := pb) (nv := nv) nb))
   have HND := Lib.hid (node_f (w7.alloc (.cells #[.int .i64 0, .int .i64 94, .int .i64 0] 153)) lo rb pb _ n c src ig (a + 1) false g nv N HS8.out ⟨2, 0, 0, 0, false, false, .slice (some ⟨ib, 0, none⟩) 1 1, .slice none 0 0, []⟩ (KidF.none _ _ _ _ _ _ _ _ _) (by omega))
   clear nb HS MS HS8
   go_wp2_with fail
   refine HND.out.mono ?_
   rintro e w9 ⟨rfl, nv', hmv, hr9⟩
   have HMV := Lib.hid (MS8.out.trans hmv)
   have HR9 := Lib.hid hr9
   clear hmv hr9 HND MS8
   go_wp2
   go_ret
   rw [HRE.out]
   exact NdP.one HMV.out HR9.out (kge_none rfl) (trN_edge rfl rfl) (by simp only; omega)
  ·
   go_upto_region 3 with (fail)
   have b2 : w1.cell? ⟨rb, 2, none⟩ = some (.int .i64 a) := block_cell H1.out.rd.blk
   have g2 : w1.frozen? ⟨rb, 2, none⟩ = false := block_free H1.out.rd.blk
   have p3 : IntKind.i64.wrap ((a : Int) + 1) = (a : Int) + 1 := by rw [IntKind.wrap_i64]; omega
   have hs := (H1.out.go 1 (by omega))
   rw [show ((a + 1 : Nat) : Int) = (a : Int) + 1 from by omega] at hs
   have HS := Lib.hid hs.1
   have MS := Lib.hid (MM.out.trans hs.2)
   clear hs H1 MM
   go_upto_region 4 with (fail)
   generalize w1.setCell ⟨rb, 2, none⟩ (.int .i64 ((a : Int) + 1)) = w7 at HS MS ⊢
   clear b2 g2 p3
   have nb := below_newJ w7 (.cells #[.int .i64 0, .int .i64 36, .int .i64 0] 153)
   obtain ⟨ib, hib⟩ : ∃ ib, w7.heap.size = ib := ⟨_, rfl⟩
   have HS8 := Lib.hid (HS.out.later nb)
   have MS8 := Lib.hid (MS.out.trans (Mv.new (rb := rb) (pb := pb) (nv := nv) nb))
   have HND := Lib.hid (node_f (w7.alloc (.cells #[.int .i64 0, .int .i64 36, .int .i64 0] 153)) lo rb pb _ n c src ig (a + 1) false g nv N HS8.out ⟨2, 0, 0, 0, false, false, .slice (some ⟨ib, 0, none⟩) 1 1, .slice none 0 0, []⟩ (KidF.none _ _ _ _ _ _ _ _ _) (by omega))
   clear nb HS MS HS8
   go_wp2_with fail
   refine HND.out.mono ?_
   rintro e w9 ⟨rfl, nv', hmv, hr9⟩
   have HMV := Lib.hid (MS8.out.trans hmv)
   have HR9 := Lib.hid hr9
   clear hmv hr9 HND MS8
   go_wp2
   go_ret
   rw [HRE.out]
   exact NdP.one HMV.out HR9.out (kge_none rfl) (trN_edge rfl rfl) (by simp only; omega)
 have hr := HR.out
 rw [if_neg hE1] at hr
 have n94 : ¬ x = 94 := fun e => hE1 (.inl e)
 have n36 : ¬ x = 36 := fun e => hE1 (.inr e)
 have b94 : (x == 94) = false := by simp [n94]
 have b36 : (x == 36) = false := by simp [n36]
 have HR1 := Lib.hid hr
 clear HR hr hE1
 go_wp2_with fail
 refine (sees_f rb pb _ n c src a false 92 60 w1 H1.out.rd).mono ?_
 rintro e w_ ⟨rfl, m2, rfl⟩
 rw [sees_two (by decide)]
 have H2 := Lib.hid (H1.out.drewN m2)
 have MM2 := Lib.hid (MM.out.trans (Mv.new (rb := rb) (pb := pb) (nv := nv) (below_drewN (n := m2) (Below.refl w1.heap.size w1))))
 clear H1 MM
 generalize w1.drewN m2 = w2 at H2 MM2 ⊢
 by_cases h60 : escB src a 60 = true
 ·
  have hr := HR1.out
  rw [if_pos (Or.inl h60)] at hr
  obtain ⟨e1, e2, e3⟩ := escB_is.mp h60
  rw [e3] at hr
  rw [h60]
  have HRE := Lib.hid hr.symm
  clear HR1 hr h60 e2
  have MM := MM2
  clear MM2
  have hlt1 : a + 1 < n := by omega
  have r1 : w2.cell? ⟨rb, 1, none⟩ = some (.slice (some ⟨gb, off, none⟩) n c) := block_cell H2.out.rd.blk
  have r2 : w2.cell? ⟨rb, 2, none⟩ = some (.int .i64 a) := block_cell H2.out.rd.blk
  have c1 : w2.cell? ⟨gb, off + (a + 1), none⟩ = some (.int .i64 60) := by
   rcases H2.out.rd.src with h0 | ⟨b', o', e, hb', hc'⟩
   · omega
   ·
    cases e
    have := hc' (a + 1) hlt1
    rw [this]
    exact congrArg some (congrArg (Value.int .i64) e3)
  obtain ⟨a4, ha4⟩ : ∃ a4, a + 1 = a4 := ⟨_, rfl⟩
  rw [ha4] at c1
  have p5 : IntKind.i64.wrap ((a : Int) + 1) = (a4 : Int) := by rw [IntKind.wrap_i64]; omega
  have q5 : ((a4 : Nat) : Int) < (n : Int) := by omega
  have q6 : (0 : Int) ≤ ((a4 : Nat) : Int) := by omega
  have HA4 := Lib.hid ha4
  have HE := Lib.hid e3
  clear e3 ha4
  go_wp2_with fail
  go_quiet (fail)
  have H5 := Lib.hid (H2.out.drewN nq)
  have MM5 := Lib.hid (MM.out.trans (Mv.new (rb := rb) (pb := pb) (nv := nv) (below_drewN (n := nq) (Below.refl w2.heap.size w2))))
  clear H2 MM r1 r2 c1 p5 q5 q6
  generalize w2.drewN nq = w5 at H5 MM5 ⊢
  have MM := MM5
  clear MM5
  have b2 : w5.cell? ⟨rb, 2, none⟩ = some (.int .i64 a) := block_cell H5.out.rd.blk
  have g2 : w5.frozen? ⟨rb, 2, none⟩ = false := block_free H5.out.rd.blk
  have p3 : IntKind.i64.wrap ((a : Int) + 2) = (a : Int) + 2 := by rw [IntKind.wrap_i64]; omega
  have hs := (H5.out.go 2 (by omega))
  rw [show ((a + 2 : Nat) : Int) = (a : Int) + 2 from by omega] at hs
  have HS := Lib.hid hs.1
  have MS := Lib.hid (MM.out.trans hs.2)
  clear hs H5 MM
  go_upto_region 8 with (fail)
  generalize w5.setCell ⟨rb, 2, none⟩ (.int .i64 ((a : Int) + 2)) = w7 at HS MS ⊢
  clear b2 g2 p3
  have nb := below_newJ w7 (.cells #[.int .i64 0, .int .i64 60, .int .i64 0] 153)
  obtain ⟨ib, hib⟩ : ∃ ib, w7.heap.size = ib := ⟨_, rfl⟩
  have HS8 := Lib.hid (HS.out.later nb)
  have MS8 := Lib.hid (MS.out.trans (Mv.new (rb := rb) (pb := pb) (nv := nv) nb))
  have HND := Lib.hid (node_f (w7.alloc (.cells #[.int .i64 0, .int .i64 60, .int .i64 0] 153)) lo rb pb _ n c src ig (a + 2) false g nv N HS8.out ⟨2, 0, 0, 0, false, false, .slice (some ⟨ib, 0, none⟩) 1 1, .slice none 0 0, []⟩ (KidF.none _ _ _ _ _ _ _ _ _) (by omega))
  clear nb HS MS HS8
  go_wp2_with fail
  refine HND.out.mono ?_
  rintro e w9 ⟨rfl, nv', hmv, hr9⟩
  have HMV := Lib.hid (MS8.out.trans hmv)
  have HR9 := Lib.hid hr9
  clear hmv hr9 HND MS8
  go_wp2
  go_ret
  rw [HRE.out]
  exact NdP.one HMV.out HR9.out (kge_none rfl) (trN_edge rfl rfl) (by simp only; omega)
 rw [Bool.eq_false_iff.mpr h60]
 go_wp2_with fail
 refine (sees_f rb pb _ n c src a false 92 62 w2 H2.out.rd).mono ?_
 rintro e w_ ⟨rfl, m3, rfl⟩
 rw [sees_two (by decide)]
 have H3 := Lib.hid (H2.out.drewN m3)
 have MM3 := Lib.hid (MM2.out.trans (Mv.new (rb := rb) (pb := pb) (nv := nv) (below_drewN (n := m3) (Below.refl w2.heap.size w2))))
 clear H2 MM2
 generalize w2.drewN m3 = w3 at H3 MM3 ⊢
 by_cases h62 : escB src a 62 = true
 ·
  have hr := HR1.out
  rw [if_pos (Or.inr h62)] at hr
  obtain ⟨e1, e2, e3⟩ := escB_is.mp h62
  rw [e3] at hr
  rw [h62]
  have HRE := Lib.hid hr.symm
  clear HR1 hr h62 e2
  have MM := MM3
  clear MM3
  have hlt1 : a + 1 < n := by omega
  have r1 : w3.cell? ⟨rb, 1, none⟩ = some (.slice (some ⟨gb, off, none⟩) n c) := block_cell H3.out.rd.blk
  have r2 : w3.cell? ⟨rb, 2, none⟩ = some (.int .i64 a) := block_cell H3.out.rd.blk
  have c1 : w3.cell? ⟨gb, off + (a + 1), none⟩ = some (.int .i64 62) := by
   rcases H3.out.rd.src with h0 | ⟨b', o', e, hb', hc'⟩
   · omega
   ·
    cases e
    have := hc' (a + 1) hlt1
    rw [this]
    exact congrArg some (congrArg (Value.int .i64) e3)
  obtain ⟨a4, ha4⟩ : ∃ a4, a + 1 = a4 := ⟨_, rfl⟩
  rw [ha4] at c1
  have p5 : IntKind.i64.wrap ((a : Int) + 1) = (a4 : Int) := by rw [IntKind.wrap_i64]; omega
  have q5 : ((a4 : Nat) : Int) < (n : Int) := by omega
  have q6 : (0 : Int) ≤ ((a4 : Nat) : Int) := by omega
  have HA4 := Lib.hid ha4
  have HE := Lib.hid e3
  clear e3 ha4
  go_wp2_with fail
  go_quiet (fail)
  have H5 := Lib.hid (H3.out.drewN nq)
  have MM5 := Lib.hid (MM.out.trans (Mv.new (rb := rb) (pb := pb) (nv := nv) (below_drewN (n := nq) (Below.refl w3.heap.size w3))))
  clear H3 MM r1 r2 c1 p5 q5 q6
  generalize w3.drewN nq = w5 at H5 MM5 ⊢
  have MM := MM5
  clear MM5
  have b2 : w5.cell? ⟨rb, 2, none⟩ = some (.int .i64 a) := block_cell H5.out.rd.blk
  have g2 : w5.frozen? ⟨rb, 2, none⟩ = false := block_free H5.out.rd.blk
  have p3 : IntKind.i64.wrap ((a : Int) + 2) = (a : Int) + 2 := by rw [IntKind.wrap_i64]; omega
  have hs := (H5.out.go 2 (by omega))
  rw [show ((a + 2 : Nat) : Int) = (a : Int) + 2 from by omega] at hs
  have HS := Lib.hid hs.1
  have MS := Lib.hid (MM.out.trans hs.2)
  clear hs H5 MM
  go_upto_region 8 with (fail)
  generalize w5.setCell ⟨rb, 2, none⟩ (.int .i64 ((a : Int) + 2)) = w7 at HS MS ⊢
  clear b2 g2 p3
  have nb := below_newJ w7 (.cells #[.int .i64 0, .int .i64 62, .int .i64 0] 153)
  obtain ⟨ib, hib⟩ : ∃ ib, w7.heap.size = ib := ⟨_, rfl⟩
  have HS8 := Lib.hid (HS.out.later nb)
  have MS8 := Lib.hid (MS.out.trans (Mv.new (rb := rb) (pb := pb) (nv := nv) nb))
  have HND := Lib.hid (node_f (w7.alloc (.cells #[.int .i64 0, .int .i64 62, .int .i64 0] 153)) lo rb pb _ n c src ig (a + 2) false g nv N HS8.out ⟨2, 0, 0, 0, false, false, .slice (some ⟨ib, 0, none⟩) 1 1, .slice none 0 0, []⟩ (KidF.none _ _ _ _ _ _ _ _ _) (by omega))
  clear nb HS MS HS8
  go_wp2_with fail
  refine HND.out.mono ?_
  rintro e w9 ⟨rfl, nv', hmv, hr9⟩
  have HMV := Lib.hid (MS8.out.trans hmv)
  have HR9 := Lib.hid hr9
  clear hmv hr9 HND MS8
  go_wp2
  go_ret
  rw [HRE.out]
  exact NdP.one HMV.out HR9.out (kge_none rfl) (trN_edge rfl rfl) (by simp only; omega)
 rw [Bool.eq_false_iff.mpr h62]
 have hr := HR1.out
 rw [if_neg (fun e => e.elim h60 h62)] at hr
 have hpt := thing_parts src fold f ⟨a, g⟩ (by rw [hlen]; exact hlt)
 have HON := Lib.hid ((reader_on src fold (f + 1)).1 ⟨a, g⟩)
 simp only at hpt
 have HR2 := Lib.hid hr
 clear HR1 hr h60 h62
 go_wp2_with fail
 refine (sees_f rb pb _ n c src a false 92 40 w3 H3.out.rd).mono ?_
 rintro e w_ ⟨rfl, m4, rfl⟩
 rw [sees_two (by decide)]
 have H4 := Lib.hid (H3.out.drewN m4)
 have MM4 := Lib.hid (MM3.out.trans (Mv.new (rb := rb) (pb := pb) (nv := nv) (below_drewN (n := m4) (Below.refl w3.heap.size w3))))
 clear H3 MM3
 generalize w3.drewN m4 = w4 at H4 MM4 ⊢
 by_cases h40 : escB src a 40 = true
 ·
  rw [if_pos h40] at hpt
  rw [h40]
  have e1 := (escB_is.mp h40).1
  have hrt := HR2.out
  rw [hpt] at hrt
  have HRT := Lib.hid hrt
  have HTP := Lib.hid hpt
  have hsz4 := MM4.out.touch.size
  clear hrt hpt HR2 h40
  go_wp2_with fail
  refine (grouped_t f w4 lo rb pb _ n c src ig fold ⟨a, g⟩ nv N H4.out (by show a + 2 ≤ n; omega) hN (by show 4 * (n - (a + 2)) + 9 ≤ f; omega) hg9 (fun f' s' w' nv' N' hf' => HM.out f' s' w' nv' N' (by omega))).mono ?_
  rintro e w5 ⟨k5, nv5, M5, rfl, hmv, hkg, hres⟩
  have hkg : ∀ x ∈ M5, KGe w.heap.size x := fun x hx => (hkg x hx).mono hsz4
  have HMV := Lib.hid (MM4.out.trans hmv)
  have hr := HRT.out
  cases hth : (if g = 9 then .error (a + 1) else insP src fold f (g + 1 : Nat) { at' := a + 2, groups := g + 1 } : RR Nd) with
  | error kk =>
   rw [hth] at hres hr
   obtain ⟨⟨g5, hr5⟩, hl5⟩ := hres
   have hl5 : M5.length ≤ 2 * (n - a) - 1 := hl5
   have HR5 := Lib.hid hr5
   have HRE := Lib.hid (show R = .error kk from hr.symm)
   have r3 : w5.cell? ⟨rb, 3, none⟩ = some (.bool true) := block_cell hr5.rd.blk
   have HKG := Lib.hid hkg
   clear hmv hr5 hr hth HRT hkg
   go_wp2
   go_ret
   rw [HRE.out]
   exact ⟨0, nv5, M5, rfl, HMV.out, HKG.out, ⟨_, HR5.out⟩, by simp only; omega⟩
  | ok r =>
   obtain ⟨x5, s5⟩ := r
   rw [hth] at hres hr
   obtain ⟨hr5, ht5, hl5⟩ := hres
   have hl5 : M5.length ≤ 2 * (s5.at' - a) - 1 := hl5
   have hon : a + 1 ≤ s5.at' := by have := (HON.out _ _ (HTP.out.trans hth)).1; simp only at this; omega
   have hat5 := hr5.rd.at'
   have HR5 := Lib.hid hr5
   have HT5 := Lib.hid ht5
   have HRE := Lib.hid (show timesP src x5 s5 = R from hr)
   have r3 : w5.cell? ⟨rb, 3, none⟩ = some (.bool false) := block_cell hr5.rd.blk
   have HKG := Lib.hid hkg
   have hsz := HMV.out.touch.size
   clear hmv hr5 ht5 hr hth HRT hkg
   go_wp2_with fail
   refine (repeated_f w5 lo rb pb _ n c src ig s5 nv5 (N ++ M5) HR5.out k5 x5 HT5.out (by simp only [List.length_append]; omega) w.heap.size hsz).mono ?_
   rintro e w6 ⟨k6, nv6, M6, rfl, hmv, hkg, hres⟩
   have HMV6 := Lib.hid (HMV.out.trans hmv)
   have HKG6 := Lib.hid (show ∀ x ∈ M5 ++ M6, KGe w.heap.size x from fun x hx => (List.mem_append.mp hx).elim (HKG.out x) (hkg x))
   have HRS := Lib.hid hres
   have HTO := Lib.hid (times_at src x5 s5)
   clear hmv hkg hres r3 HKG HMV HR5 HT5
   go_wp2
   go_ret
   have hres := HRS.out
   rw [← HRE.out]
   cases htm : timesP src x5 s5 with
   | error kk =>
    rw [htm] at hres
    obtain ⟨⟨g6, hr6⟩, hl6⟩ := hres
    have hl6 : M6.length ≤ 1 := hl6
    rw [List.append_assoc] at hr6
    exact ⟨k6, nv6, M5 ++ M6, rfl, HMV6.out, HKG6.out, ⟨_, hr6⟩, by simp only [List.length_append]; omega⟩
   | ok r =>
    obtain ⟨x6, s6⟩ := r
    rw [htm] at hres
    obtain ⟨hr6, ht6, hl6⟩ := hres
    have hl6 : M6.length ≤ 1 := hl6
    have hon6 := HTO.out _ _ htm
    rw [List.append_assoc] at hr6 ht6
    exact ⟨k6, nv6, M5 ++ M6, rfl, HMV6.out, HKG6.out, hr6, ht6, by simp only [List.length_append]; omega⟩
 rw [if_neg h40] at hpt
 rw [Bool.eq_false_iff.mpr h40]
 have r1 : w4.cell? ⟨rb, 1, none⟩ = some (.slice (some ⟨gb, off, none⟩) n c) := block_cell H4.out.rd.blk
 have r2 : w4.cell? ⟨rb, 2, none⟩ = some (.int .i64 a) := block_cell H4.out.rd.blk
 have HS37 := Lib.hid (fun m => by
  have hh := sees_f rb pb (some ⟨gb, off, none⟩) n c src a false 92 37 (w4.drewN m) (H4.out.rd.drewN m)
  rw [sees_two (by decide)] at hh
  exact hh)
 have p4 : IntKind.i64.wrap ((a : Int) + 2) = (a : Int) + 2 := by rw [IntKind.wrap_i64]; omega
 by_cases h37 : escB src a 37 = true
 ·
  rw [h37] at HS37
  by_cases hlt2 : a + 2 < n
  ·
   have c2 : w4.cell? ⟨gb, off + (a + 2), none⟩ = some (.int .i64 (gl src (a + 2))) := by
    rcases H4.out.rd.src with h0 | ⟨b', o', e, hb', hc'⟩
    · omega
    ·
     cases e
     exact hc' (a + 2) hlt2
   have hsa : srcAt src (a + 2) = gl src (a + 2) := rfl
   rw [hsa] at hpt
   obtain ⟨y, hy⟩ : ∃ y, gl src (a + 2) = y := ⟨_, rfl⟩
   rw [hy] at c2 hpt
   obtain ⟨a4, ha4⟩ : ∃ a4, a + 2 = a4 := ⟨_, rfl⟩
   rw [ha4] at c2
   have p5 : IntKind.i64.wrap ((a : Int) + 2) = (a4 : Int) := by rw [p4]; omega
   have q5 : ((a4 : Nat) : Int) < (n : Int) := by omega
   have q6 : (0 : Int) ≤ ((a4 : Nat) : Int) := by omega
   clear p4 hsa hy
   by_cases hy40 : y = 40
   ·
    subst hy40
    rw [if_pos ⟨h37, by rw [hlen]; exact hlt2, rfl⟩] at hpt
    have hrt := HR2.out
    rw [hpt] at hrt
    have HRT := Lib.hid hrt
    have HTP := Lib.hid hpt
    have HA4 := Lib.hid ha4
    clear hrt hpt HR2 h37 h40 ha4
    go_wp2_with fail
    go_quiet (first | (go_at_call 66; first | with_reducible exact Calls.quiet_of (HS37.out _)))
    have H5 := Lib.hid (H4.out.drewN nq)
    have MM5 := Lib.hid (MM4.out.trans (Mv.new (rb := rb) (pb := pb) (nv := nv) (below_drewN (n := nq) (Below.refl w4.heap.size w4))))
    clear H4 MM4 HS37 r1 r2 c2 p5 q5 q6
    generalize w4.drewN nq = w4b at H5 MM5 ⊢
    have hsz4 := MM5.out.touch.size
    go_wp2_with fail
    refine (grouped_n f w4b lo rb pb _ n c src ig fold ⟨a, g⟩ nv N H5.out (by show a + 3 ≤ n; omega) hN (by show 4 * (n - (a + 3)) + 9 ≤ f; omega) hg9 (fun f' s' w' nv' N' hf' => HM.out f' s' w' nv' N' (by omega))).mono ?_
    rintro e w5 ⟨k5, nv5, M5, rfl, hmv, hkg, hres⟩
    have hkg : ∀ x ∈ M5, KGe w.heap.size x := fun x hx => (hkg x hx).mono hsz4
    have HMV := Lib.hid (MM5.out.trans hmv)
    have hr := HRT.out
    cases hth : insP src fold f 0 { at' := a + 3, groups := g } with
    | error kk =>
     rw [hth] at hres hr
     obtain ⟨⟨g5, hr5⟩, hl5⟩ := hres
     have hl5 : M5.length ≤ 2 * (n - a) - 1 := hl5
     have HR5 := Lib.hid hr5
     have HRE := Lib.hid (show R = .error kk from hr.symm)
     have r3 : w5.cell? ⟨rb, 3, none⟩ = some (.bool true) := block_cell hr5.rd.blk
     have HKG := Lib.hid hkg
     clear hmv hr5 hr hth HRT hkg
     go_wp2
     go_ret
     rw [HRE.out]
     exact ⟨0, nv5, M5, rfl, HMV.out, HKG.out, ⟨_, HR5.out⟩, by simp only; omega⟩
    | ok r =>
     obtain ⟨x5, s5⟩ := r
     rw [hth] at hres hr
     obtain ⟨hr5, ht5, hl5⟩ := hres
     have hl5 : M5.length ≤ 2 * (s5.at' - a) - 1 := hl5
     have hon : a + 1 ≤ s5.at' := by have := (HON.out _ _ (HTP.out.trans hth)).1; simp only at this; omega
     have hat5 := hr5.rd.at'
     have HR5 := Lib.hid hr5
     have HT5 := Lib.hid ht5
     have HRE := Lib.hid (show timesP src x5 s5 = R from hr)
     have r3 : w5.cell? ⟨rb, 3, none⟩ = some (.bool false) := block_cell hr5.rd.blk
     have HKG := Lib.hid hkg
     have hsz := HMV.out.touch.size
     clear hmv hr5 ht5 hr hth HRT hkg
     go_wp2_with fail
     refine (repeated_f w5 lo rb pb _ n c src ig s5 nv5 (N ++ M5) HR5.out k5 x5 HT5.out (by simp only [List.length_append]; omega) w.heap.size hsz).mono ?_
     rintro e w6 ⟨k6, nv6, M6, rfl, hmv, hkg, hres⟩
     have HMV6 := Lib.hid (HMV.out.trans hmv)
     have HKG6 := Lib.hid (show ∀ x ∈ M5 ++ M6, KGe w.heap.size x from fun x hx => (List.mem_append.mp hx).elim (HKG.out x) (hkg x))
     have HRS := Lib.hid hres
     have HTO := Lib.hid (times_at src x5 s5)
     clear hmv hkg hres r3 HKG HMV HR5 HT5
     go_wp2
     go_ret
     have hres := HRS.out
     rw [← HRE.out]
     cases htm : timesP src x5 s5 with
     | error kk =>
      rw [htm] at hres
      obtain ⟨⟨g6, hr6⟩, hl6⟩ := hres
      have hl6 : M6.length ≤ 1 := hl6
      rw [List.append_assoc] at hr6
      exact ⟨k6, nv6, M5 ++ M6, rfl, HMV6.out, HKG6.out, ⟨_, hr6⟩, by simp only [List.length_append]; omega⟩
     | ok r =>
      obtain ⟨x6, s6⟩ := r
      rw [htm] at hres
      obtain ⟨hr6, ht6, hl6⟩ := hres
      have hl6 : M6.length ≤ 1 := hl6
      have hon6 := HTO.out _ _ htm
      rw [List.append_assoc] at hr6 ht6
      exact ⟨k6, nv6, M5 ++ M6, rfl, HMV6.out, HKG6.out, hr6, ht6, by simp only [List.length_append]; omega⟩
   ·
    rw [if_neg (fun e => hy40 e.2.2)] at hpt
    have bq : (y == 40) = false := by simp [hy40]
    have HA4 := Lib.hid ha4
    clear h37 h40 ha4
    go_wp2_with fail
    go_quiet (first | (go_at_call 66; first | with_reducible exact Calls.quiet_of (HS37.out _)))
    have H5 := Lib.hid (H4.out.drewN nq)
    have MM5 := Lib.hid (MM4.out.trans (Mv.new (rb := rb) (pb := pb) (nv := nv) (below_drewN (n := nq) (Below.refl w4.heap.size w4))))
    clear H4 MM4 HS37 r1 r2 c2 p5 q5 q6
    generalize w4.drewN nq = w4b at H5 MM5 ⊢
    have hrt := HR2.out
    rw [hpt] at hrt
    have HRT := Lib.hid hrt
    have HTP := Lib.hid hpt
    clear hrt hpt HR2
    go_wp2_with fail
    refine (single_f w4b lo rb pb _ n c src ig fold ⟨a, g⟩ nv N H5.out (by omega) w.heap.size hlt).mono ?_
    rintro e w5 ⟨k5, nv5, M5, rfl, hmv, hkg, hres⟩
    have HMV := Lib.hid (MM5.out.trans hmv)
    have hr := HRT.out
    cases hth : sngP src fold ⟨a, g⟩ with
    | error kk =>
     rw [hth] at hres hr
     obtain ⟨⟨g5, hr5⟩, hl5⟩ := hres
     have hl5 : M5.length ≤ 2 * (n - a) - 1 := Nat.le_trans (show M5.length ≤ 1 from hl5) (by omega)
     have HR5 := Lib.hid hr5
     have HRE := Lib.hid (show R = .error kk from hr.symm)
     have r3 : w5.cell? ⟨rb, 3, none⟩ = some (.bool true) := block_cell hr5.rd.blk
     have HKG := Lib.hid hkg
     clear hmv hr5 hr hth HRT hkg
     go_wp2
     go_ret
     rw [HRE.out]
     exact ⟨0, nv5, M5, rfl, HMV.out, HKG.out, ⟨_, HR5.out⟩, by simp only; omega⟩
    | ok r =>
     obtain ⟨x5, s5⟩ := r
     rw [hth] at hres hr
     obtain ⟨hr5, ht5, hl5⟩ := hres
     have hl5 : M5.length ≤ 1 := hl5
     have hon : a + 1 ≤ s5.at' := by have := (HON.out _ _ (HTP.out.trans hth)).1; simp only at this; omega
     have hat5 := hr5.rd.at'
     have HR5 := Lib.hid hr5
     have HT5 := Lib.hid ht5
     have HRE := Lib.hid (show timesP src x5 s5 = R from hr)
     have r3 : w5.cell? ⟨rb, 3, none⟩ = some (.bool false) := block_cell hr5.rd.blk
     have HKG := Lib.hid hkg
     have hsz := HMV.out.touch.size
     clear hmv hr5 ht5 hr hth HRT hkg
     go_wp2_with fail
     refine (repeated_f w5 lo rb pb _ n c src ig s5 nv5 (N ++ M5) HR5.out k5 x5 HT5.out (by simp only [List.length_append]; omega) w.heap.size hsz).mono ?_
     rintro e w6 ⟨k6, nv6, M6, rfl, hmv, hkg, hres⟩
     have HMV6 := Lib.hid (HMV.out.trans hmv)
     have HKG6 := Lib.hid (show ∀ x ∈ M5 ++ M6, KGe w.heap.size x from fun x hx => (List.mem_append.mp hx).elim (HKG.out x) (hkg x))
     have HRS := Lib.hid hres
     have HTO := Lib.hid (times_at src x5 s5)
     clear hmv hkg hres r3 HKG HMV HR5 HT5
     go_wp2
     go_ret
     have hres := HRS.out
     rw [← HRE.out]
     cases htm : timesP src x5 s5 with
     | error kk =>
      rw [htm] at hres
      obtain ⟨⟨g6, hr6⟩, hl6⟩ := hres
      have hl6 : M6.length ≤ 1 := hl6
      rw [List.append_assoc] at hr6
      exact ⟨k6, nv6, M5 ++ M6, rfl, HMV6.out, HKG6.out, ⟨_, hr6⟩, by simp only [List.length_append]; omega⟩
     | ok r =>
      obtain ⟨x6, s6⟩ := r
      rw [htm] at hres
      obtain ⟨hr6, ht6, hl6⟩ := hres
      have hl6 : M6.length ≤ 1 := hl6
      have hon6 := HTO.out _ _ htm
      rw [List.append_assoc] at hr6 ht6
      exact ⟨k6, nv6, M5 ++ M6, rfl, HMV6.out, HKG6.out, hr6, ht6, by simp only [List.length_append]; omega⟩
  ·
   rw [if_neg (fun e => hlt2 (by have := e.2.1; omega))] at hpt
   have q5 : ¬ ((a : Int) + 2) < (n : Int) := by omega
   have q6 : decide (((a : Int) + 2) < (n : Int)) = false := decide_eq_false q5
   clear h37 h40
   go_wp2_with fail
   go_quiet (first | (go_at_call 66; first | with_reducible exact Calls.quiet_of (HS37.out _)))
   have H5 := Lib.hid (H4.out.drewN nq)
   have MM5 := Lib.hid (MM4.out.trans (Mv.new (rb := rb) (pb := pb) (nv := nv) (below_drewN (n := nq) (Below.refl w4.heap.size w4))))
   clear H4 MM4 HS37 r1 r2
   generalize w4.drewN nq = w4b at H5 MM5 ⊢
   have hrt := HR2.out
   rw [hpt] at hrt
   have HRT := Lib.hid hrt
   have HTP := Lib.hid hpt
   clear hrt hpt HR2
   go_wp2_with fail
   refine (single_f w4b lo rb pb _ n c src ig fold ⟨a, g⟩ nv N H5.out (by omega) w.heap.size hlt).mono ?_
   rintro e w5 ⟨k5, nv5, M5, rfl, hmv, hkg, hres⟩
   have HMV := Lib.hid (MM5.out.trans hmv)
   have hr := HRT.out
   cases hth : sngP src fold ⟨a, g⟩ with
   | error kk =>
    rw [hth] at hres hr
    obtain ⟨⟨g5, hr5⟩, hl5⟩ := hres
    have hl5 : M5.length ≤ 2 * (n - a) - 1 := Nat.le_trans (show M5.length ≤ 1 from hl5) (by omega)
    have HR5 := Lib.hid hr5
    have HRE := Lib.hid (show R = .error kk from hr.symm)
    have r3 : w5.cell? ⟨rb, 3, none⟩ = some (.bool true) := block_cell hr5.rd.blk
    have HKG := Lib.hid hkg
    clear hmv hr5 hr hth HRT hkg
    go_wp2
    go_ret
    rw [HRE.out]
    exact ⟨0, nv5, M5, rfl, HMV.out, HKG.out, ⟨_, HR5.out⟩, by simp only; omega⟩
   | ok r =>
    obtain ⟨x5, s5⟩ := r
    rw [hth] at hres hr
    obtain ⟨hr5, ht5, hl5⟩ := hres
    have hl5 : M5.length ≤ 1 := hl5
    have hon : a + 1 ≤ s5.at' := by have := (HON.out _ _ (HTP.out.trans hth)).1; simp only at this; omega
    have hat5 := hr5.rd.at'
    have HR5 := Lib.hid hr5
    have HT5 := Lib.hid ht5
    have HRE := Lib.hid (show timesP src x5 s5 = R from hr)
    have r3 : w5.cell? ⟨rb, 3, none⟩ = some (.bool false) := block_cell hr5.rd.blk
    have HKG := Lib.hid hkg
    have hsz := HMV.out.touch.size
    clear hmv hr5 ht5 hr hth HRT hkg
    go_wp2_with fail
    refine (repeated_f w5 lo rb pb _ n c src ig s5 nv5 (N ++ M5) HR5.out k5 x5 HT5.out (by simp only [List.length_append]; omega) w.heap.size hsz).mono ?_
    rintro e w6 ⟨k6, nv6, M6, rfl, hmv, hkg, hres⟩
    have HMV6 := Lib.hid (HMV.out.trans hmv)
    have HKG6 := Lib.hid (show ∀ x ∈ M5 ++ M6, KGe w.heap.size x from fun x hx => (List.mem_append.mp hx).elim (HKG.out x) (hkg x))
    have HRS := Lib.hid hres
    have HTO := Lib.hid (times_at src x5 s5)
    clear hmv hkg hres r3 HKG HMV HR5 HT5
    go_wp2
    go_ret
    have hres := HRS.out
    rw [← HRE.out]
    cases htm : timesP src x5 s5 with
    | error kk =>
     rw [htm] at hres
     obtain ⟨⟨g6, hr6⟩, hl6⟩ := hres
     have hl6 : M6.length ≤ 1 := hl6
     rw [List.append_assoc] at hr6
     exact ⟨k6, nv6, M5 ++ M6, rfl, HMV6.out, HKG6.out, ⟨_, hr6⟩, by simp only [List.length_append]; omega⟩
    | ok r =>
     obtain ⟨x6, s6⟩ := r
     rw [htm] at hres
     obtain ⟨hr6, ht6, hl6⟩ := hres
     have hl6 : M6.length ≤ 1 := hl6
     have hon6 := HTO.out _ _ htm
     rw [List.append_assoc] at hr6 ht6
     exact ⟨k6, nv6, M5 ++ M6, rfl, HMV6.out, HKG6.out, hr6, ht6, by simp only [List.length_append]; omega⟩
 ·
  rw [Bool.eq_false_iff.mpr h37] at HS37
  rw [if_neg (fun e => h37 e.1)] at hpt
  clear h37 h40
  go_wp2_with fail
  go_quiet (first | (go_at_call 66; first | with_reducible exact Calls.quiet_of (HS37.out _)))
  have H5 := Lib.hid (H4.out.drewN nq)
  have MM5 := Lib.hid (MM4.out.trans (Mv.new (rb := rb) (pb := pb) (nv := nv) (below_drewN (n := nq) (Below.refl w4.heap.size w4))))
  clear H4 MM4 HS37 r1 r2
  generalize w4.drewN nq = w4b at H5 MM5 ⊢
  have hrt := HR2.out
  rw [hpt] at hrt
  have HRT := Lib.hid hrt
  have HTP := Lib.hid hpt
  clear hrt hpt HR2
  go_wp2_with fail
  refine (single_f w4b lo rb pb _ n c src ig fold ⟨a, g⟩ nv N H5.out (by omega) w.heap.size hlt).mono ?_
  rintro e w5 ⟨k5, nv5, M5, rfl, hmv, hkg, hres⟩
  have HMV := Lib.hid (MM5.out.trans hmv)
  have hr := HRT.out
  cases hth : sngP src fold ⟨a, g⟩ with
  | error kk =>
   rw [hth] at hres hr
   obtain ⟨⟨g5, hr5⟩, hl5⟩ := hres
   have hl5 : M5.length ≤ 2 * (n - a) - 1 := Nat.le_trans (show M5.length ≤ 1 from hl5) (by omega)
   have HR5 := Lib.hid hr5
   have HRE := Lib.hid (show R = .error kk from hr.symm)
   have r3 : w5.cell? ⟨rb, 3, none⟩ = some (.bool true) := block_cell hr5.rd.blk
   have HKG := Lib.hid hkg
   clear hmv hr5 hr hth HRT hkg
   go_wp2
   go_ret
   rw [HRE.out]
   exact ⟨0, nv5, M5, rfl, HMV.out, HKG.out, ⟨_, HR5.out⟩, by simp only; omega⟩
  | ok r =>
   obtain ⟨x5, s5⟩ := r
   rw [hth] at hres hr
   obtain ⟨hr5, ht5, hl5⟩ := hres
   have hl5 : M5.length ≤ 1 := hl5
   have hon : a + 1 ≤ s5.at' := by have := (HON.out _ _ (HTP.out.trans hth)).1; simp only at this; omega
   have hat5 := hr5.rd.at'
   have HR5 := Lib.hid hr5
   have HT5 := Lib.hid ht5
   have HRE := Lib.hid (show timesP src x5 s5 = R from hr)
   have r3 : w5.cell? ⟨rb, 3, none⟩ = some (.bool false) := block_cell hr5.rd.blk
   have HKG := Lib.hid hkg
   have hsz := HMV.out.touch.size
   clear hmv hr5 ht5 hr hth HRT hkg
   go_wp2_with fail
   refine (repeated_f w5 lo rb pb _ n c src ig s5 nv5 (N ++ M5) HR5.out k5 x5 HT5.out (by simp only [List.length_append]; omega) w.heap.size hsz).mono ?_
   rintro e w6 ⟨k6, nv6, M6, rfl, hmv, hkg, hres⟩
   have HMV6 := Lib.hid (HMV.out.trans hmv)
   have HKG6 := Lib.hid (show ∀ x ∈ M5 ++ M6, KGe w.heap.size x from fun x hx => (List.mem_append.mp hx).elim (HKG.out x) (hkg x))
   have HRS := Lib.hid hres
   have HTO := Lib.hid (times_at src x5 s5)
   clear hmv hkg hres r3 HKG HMV HR5 HT5
   go_wp2
   go_ret
   have hres := HRS.out
   rw [← HRE.out]
   cases htm : timesP src x5 s5 with
   | error kk =>
    rw [htm] at hres
    obtain ⟨⟨g6, hr6⟩, hl6⟩ := hres
    have hl6 : M6.length ≤ 1 := hl6
    rw [List.append_assoc] at hr6
    exact ⟨k6, nv6, M5 ++ M6, rfl, HMV6.out, HKG6.out, ⟨_, hr6⟩, by simp only [List.length_append]; omega⟩
   | ok r =>
    obtain ⟨x6, s6⟩ := r
    rw [htm] at hres
    obtain ⟨hr6, ht6, hl6⟩ := hres
    have hl6 : M6.length ≤ 1 := hl6
    have hon6 := HTO.out _ _ htm
    rw [List.append_assoc] at hr6 ht6
    exact ⟨k6, nv6, M5 ++ M6, rfl, HMV6.out, HKG6.out, hr6, ht6, by simp only [List.length_append]; omega⟩
theorem mem_all (lo rb pb : Nat) (sl : Option Addr) (n c : Nat) (src : List Int) (ig fold : Bool) : ∀ F, MemF lo rb pb sl n c src ig fold F
 | 0 => fun f s w nv N hf => absurd hf (Nat.not_lt_zero f)
 | F + 1 => fun f s w nv N hf h hlt hF hN hg => by
  rcases Nat.lt_or_ge f F with hf2 | hf2
  · exact mem_all lo rb pb sl n c src ig fold F f s w nv N hf2 h hlt hF hN hg
  ·
   obtain rfl : f = F := by omega
   exact member_f f w lo rb pb sl n c src ig fold s nv N h hlt hF hN hg (mem_all lo rb pb sl n c src ig fold f)
end Go.Proofs.YtdegdoilpamjjaaDoor
namespace Go.Proofs.YtdegdoilpamjjaaDoor
open Go.RowKit
set_option linter.unusedVariables false
set_option linter.unusedSimpArgs false
structure PtM (w : World) (pb lo : Nat) (rt g : Int) (ig : Bool) (nv : Value) (N : List NdF) : Prop where
 blk : w.heap[pb]? = some (.cells #[nv, .int .i64 rt, .int .i64 g, .bool ig] 67 (0, 0))
 own : w.ownsRow lo 138 8 nv N.length (N.flatMap cellsF)
 kid : ∀ x ∈ N, ∃ s m c, x.kv = .slice s m c ∧ x.kids.length = m ∧ IsInts w s m (gl x.kids)
 it : ∀ x ∈ N, ∃ s m c, x.items = .slice s m c
 few : N.length < 1000000
theorem PtM.later {w w' : World} {pb lo : Nat} {rt g : Int} {ig : Bool} {nv : Value} {N : List NdF} (h : PtM w pb lo rt g ig nv N) (hb : Below w.heap.size w w') : PtM w' pb lo rt g ig nv N :=
 ⟨(hb.block _ (heap_lt h.blk)).trans h.blk, own_later h.own hb, fun x hx => by
  obtain ⟨s, m, c, h1, h2, h3⟩ := h.kid x hx
  exact ⟨s, m, c, h1, h2, h3.later hb⟩, h.it, h.few⟩
theorem flat_at : ∀ (N : List NdF) (k i : Nat) (hk : k < N.length), i < 8 → (N.flatMap cellsF)[k * 8 + i]? = (cellsF N[k])[i]?
 | x :: N, 0, i, hk, hi => by
  rw [List.flatMap_cons, List.getElem?_append_left (by show _ < 8; omega)]
  simp
 | x :: N, k + 1, i, hk, hi => by
  rw [List.flatMap_cons, List.getElem?_append_right (by show 8 ≤ _; omega)]
  have := flat_at N k i (by simpa using hk) hi
  rw [show (k + 1) * 8 + i - (cellsF x).length = k * 8 + i from by show (k + 1) * 8 + i - 8 = _; omega, this]
  rfl
theorem PtM.cells {w : World} {pb lo : Nat} {rt g : Int} {ig : Bool} {nv : Value} {N : List NdF} (h : PtM w pb lo rt g ig nv N) {k : Nat} (hk : k < N.length) :
  ∃ gb cA, nv = .slice (some ⟨gb, 0, none⟩) N.length cA ∧ ∀ i v, i < 8 → (cellsF N[k])[i]? = some v → w.cell? ⟨gb, k * 8 + i, none⟩ = some v := by
 have ho := h.own
 have hnv : ∃ gb cA, nv = .slice (some ⟨gb, 0, none⟩) N.length cA := by
  rcases ho.2 with ⟨h1, h2⟩ | ⟨gb, cap, cur, h1, _⟩
  · omega
  · exact ⟨gb, cap, h1⟩
 obtain ⟨gb, cA, rfl⟩ := hnv
 refine ⟨gb, cA, rfl, fun i v hi hv => ?_⟩
 rw [World.ownsRow.cellAt ho (k * 8 + i) (by have := Nat.mul_le_mul_right 8 (show k + 1 ≤ N.length from hk); omega), flat_at N k i hk hi]
 exact hv
def cEnd (most least : Int) : Int := if most < 0 then least + 1 else most
def endP (kd gr le mo : Int) (len : Nat) (s : Int) : Int :=
 if kd = 1 ∨ kd = 2 then 1 else min 4097 (if kd = 4 then s + len - 1 else if kd = 5 then (if 0 < gr then s + 2 else s) else if kd = 6 then s * max 1 (cEnd mo le) + 1 else s)
theorem endP_1 (gr le mo : Int) (len : Nat) (s : Int) : endP 1 gr le mo len s = 1 := by unfold endP; rw [if_pos (Or.inl rfl)]
theorem endP_2 (gr le mo : Int) (len : Nat) (s : Int) : endP 2 gr le mo len s = 1 := by unfold endP; rw [if_pos (Or.inr rfl)]
theorem endP_3 (gr le mo : Int) (len : Nat) (s : Int) : endP 3 gr le mo len s = min 4097 s := by unfold endP; rw [if_neg (by omega), if_neg (by omega), if_neg (by omega), if_neg (by omega)]
theorem endP_4 (gr le mo : Int) (len : Nat) (s : Int) : endP 4 gr le mo len s = min 4097 (s + len - 1) := by unfold endP; rw [if_neg (by omega), if_pos rfl]
theorem endP_5 (gr le mo : Int) (len : Nat) (s : Int) : endP 5 gr le mo len s = min 4097 (if 0 < gr then s + 2 else s) := by unfold endP; rw [if_neg (by omega), if_neg (by omega), if_pos rfl]
theorem endP_6 (gr le mo : Int) (len : Nat) (s : Int) : endP 6 gr le mo len s = min 4097 (s * max 1 (cEnd mo le) + 1) := by unfold endP; rw [if_neg (by omega), if_neg (by omega), if_neg (by omega), if_pos rfl]
theorem total_bd : ∀ (L : List Nd) (t : Int), (∀ m ∈ L, 0 ≤ partsP m ∧ partsP m ≤ 4097) → 0 ≤ t → t ≤ 4097 → 0 ≤ totalP L t ∧ totalP L t ≤ 4097
 | [], t, _, h0, h1 => by rw [totalP]; exact ⟨h0, h1⟩
 | n :: L, t, h, h0, h1 => by
  have hn := h n (List.mem_cons_self ..)
  rw [totalP]
  refine total_bd L _ (fun m hm => h m (List.mem_cons_of_mem _ hm)) ?_ ?_ <;> unfold lidP <;> omega
theorem bounds_parts {n : Nd} (h : GoodN n) : 0 ≤ partsP n ∧ partsP n ≤ 4097 := by
 refine ⟨(good_sz h).1, ?_⟩
 induction h with
 | set => rw [partsP]; omega
 | edge => rw [partsP]; omega
 | row l hl h ih =>
  rw [partsP]
  exact (total_bd l 0 (fun m hm => ⟨(good_sz (h m hm)).1, ih m hm⟩) (by omega) (by omega)).2
 | choice l h0 hl h ih => rw [partsP]; unfold lidP; omega
 | group n k h0 h9 h ih => rw [partsP]; split; exact ih; unfold lidP; omega
 | again n le mo lz h0 h1 h2 h3 h4 h ih => rw [partsP]; unfold lidP; omega
set_option maxRecDepth 100000 in
set_option maxHeartbeats 32000000 in
theorem parts_core (w : World) (pb lo : Nat) (rt g : Int) (ig : Bool) (nv : Value) (N : List NdF) (h : PtM w pb lo rt g ig nv N) (k : Nat) (hk : k < N.length) (L : List Nd) (hL : N[k].kids.length = L.length) (hL1 : L.length ≤ 1000000)
  (hkd : N[k].kind = 1 ∨ N[k].kind = 2 ∨ N[k].kind = 3 ∨ N[k].kind = 4 ∨ N[k].kind = 5 ∨ (N[k].kind = 6 ∧ 0 ≤ N[k].least ∧ N[k].least ≤ 255 ∧ -1 ≤ N[k].most ∧ N[k].most ≤ 255))
  (hC : ∀ i (hi : i < L.length), ∃ j : Nat, gl N[k].kids i = j ∧ 0 ≤ partsP L[i] ∧ partsP L[i] ≤ 4097 ∧ ∀ W, Below w.heap.size w W → Calls Tryd.prog 52 #[.pointer (some ⟨pb, 0, none⟩), .int .i64 j] W fun e W' => e = .returned (.int .i64 (partsP L[i])) ∧ Below W.heap.size W W') :
  Calls Tryd.prog 52 #[.pointer (some ⟨pb, 0, none⟩), .int .i64 k] w fun e w' => e = .returned (.int .i64 (endP N[k].kind N[k].group N[k].least N[k].most L.length (totalP L 0))) ∧ Below w.heap.size w w' := by
 obtain ⟨gb, cA, hnv, hcl⟩ := h.cells hk
 obtain ⟨ks, km, kc, hkv, hkl, hki⟩ := h.kid N[k] (List.getElem_mem hk)
 obtain ⟨is, im, ic, hit⟩ := h.it N[k] (List.getElem_mem hk)
 subst hnv
 have hp0 : w.cell? ⟨pb, 0, none⟩ = some (.slice (some ⟨gb, 0, none⟩) N.length cA) := block_cell h.blk
 have hfew := h.few
 obtain ⟨len, hlen⟩ : ∃ len, N.length = len := ⟨_, rfl⟩
 generalize hxk : N[k] = x at *
 obtain ⟨kd, gr, le, mo, lz, nt, it, kv, kids⟩ := x
 simp only at hkv hit hL hC hkd hkl hki hcl ⊢
 subst hkv hit
 have n0 : w.cell? ⟨gb, k * 8, none⟩ = some (.int .i64 kd) := hcl 0 _ (by decide) rfl
 have n1 : w.cell? ⟨gb, k * 8 + 1, none⟩ = some (.int .i64 gr) := hcl 1 _ (by decide) rfl
 have n2 : w.cell? ⟨gb, k * 8 + 2, none⟩ = some (.int .i64 le) := hcl 2 _ (by decide) rfl
 have n3 : w.cell? ⟨gb, k * 8 + 3, none⟩ = some (.int .i64 mo) := hcl 3 _ (by decide) rfl
 have n4 : w.cell? ⟨gb, k * 8 + 4, none⟩ = some (.bool lz) := hcl 4 _ (by decide) rfl
 have n5 : w.cell? ⟨gb, k * 8 + 5, none⟩ = some (.bool nt) := hcl 5 _ (by decide) rfl
 have n6 : w.cell? ⟨gb, k * 8 + 6, none⟩ = some (.slice is im ic) := hcl 6 _ (by decide) rfl
 have n7 : w.cell? ⟨gb, k * 8 + 7, none⟩ = some (.slice ks km kc) := hcl 7 _ (by decide) rfl
 rw [hlen] at hp0 hk hfew
 have q1 : (k : Int) < (len : Int) := by omega
 have q2 : (0 : Int) ≤ (k : Int) := by omega
 have hkm : km = L.length := by omega
 obtain ⟨T, hT⟩ : ∃ T, totalP L 0 = T := ⟨_, rfl⟩
 have hTb : 0 ≤ T ∧ T ≤ 4097 := by
  rw [← hT]
  refine total_bd L 0 (fun m hm => ?_) (by omega) (by omega)
  obtain ⟨i, hi, rfl⟩ := List.getElem_of_mem hm
  obtain ⟨j, _, h1, h2, _⟩ := hC i hi
  exact ⟨h1, h2⟩
 rw [hT]
 obtain ⟨nl, hnl⟩ : ∃ nl, L.length = nl := ⟨_, rfl⟩
 rw [hnl] at hkm hL1
 have hkm2 := hkm.symm
 subst hkm2
 have HT := Lib.hid hT
 have HNL := Lib.hid hnl
 have HC := Lib.hid hC
 have HKI := Lib.hid hki
 have ob := below_newJ w (.cells #[.int .i64 0, .int .i64 0, .int .i64 0, .int .i64 0, .bool false, .bool false, .slice none 0 0, .slice none 0 0] 138)
 have oo := one_new w (.cells #[.int .i64 0, .int .i64 0, .int .i64 0, .int .i64 0, .bool false, .bool false, .slice none 0 0, .slice none 0 0] 138)
 obtain ⟨lb, hlb⟩ : ∃ lb, w.heap.size = lb := ⟨_, rfl⟩
 generalize hw1 : w.alloc (.cells #[.int .i64 0, .int .i64 0, .int .i64 0, .int .i64 0, .bool false, .bool false, .slice none 0 0, .slice none 0 0] 138) = w1 at ob oo
 rw [hlb] at oo
 have PO := Lib.hid oo
 have PB := Lib.hid ob
 have HLB := Lib.hid hlb
 have HLEN := Lib.hid hlen
 clear ob oo hT hnl hC hki h hcl hL hkl hxk hlen
 go_enter Tryd.func52, Tryd.ntmps52
 go_upto_region 2 with (refine wpList_store_row rfl 138 _ _ rfl lb #[.int .i64 kd, .int .i64 gr, .int .i64 le, .int .i64 mo, .bool lz, .bool nt, .slice is im ic, .slice ks nl kc] rfl rfl _ _ PO.out fnode_info rfl (fnode_all _ _ _ _ _ _ _ _ _ _ _ _) ?_)
 have HB2 := Lib.hid (show Below w.heap.size w (w1.setRow lb #[.int .i64 kd, .int .i64 gr, .int .i64 le, .int .i64 mo, .bool lz, .bool nt, .slice is im ic, .slice ks nl kc]) from PB.out.trans (row_belowg _ (by have := HLB.out; omega)))
 have L2 := Lib.hid (row_setg #[.int .i64 kd, .int .i64 gr, .int .i64 le, .int .i64 mo, .bool lz, .bool nt, .slice is im ic, .slice ks nl kc] PO.out)
 generalize w1.setRow lb #[.int .i64 kd, .int .i64 gr, .int .i64 le, .int .i64 mo, .bool lz, .bool nt, .slice is im ic, .slice ks nl kc] = w2 at HB2 L2 ⊢
 clear hw1 PO PB n0 n1 n2 n3 n4 n5 n6 n7 hp0 q1 q2 hlb
 go_wp2_with fail
 go_loopg [6, 7] nl (fun gg sv iv wr => ∃ (i : Nat) (t : Int), sv = .int .i64 t ∧ iv = .int .i64 i ∧ i + gg = nl ∧ 0 ≤ t ∧ t ≤ 4097 ∧ totalP (L.drop i) t = T ∧ Below w.heap.size w wr ∧ wr.heap[lb]? = some (.cells #[.int .i64 kd, .int .i64 gr, .int .i64 le, .int .i64 mo, .bool lz, .bool nt, .slice is im ic, .slice ks nl kc] 138 (0, 0)))
 case atStart => exact ⟨0, 0, rfl, rfl, by omega, by omega, by omega, by rw [List.drop_zero]; exact HT.out, HB2.out, L2.out⟩
 case round =>
  clear HB2 L2
  obtain ⟨i, t, rfl, rfl, hi, ht0, ht1, htt, hbw, hlk⟩ := hrel
  have HBW := Lib.hid hbw
  have LK := Lib.hid hlk
  have HTT := Lib.hid htt
  have y7 : wr.cell? ⟨lb, 7, none⟩ = some (.slice ks nl kc) := block_cell hlk
  clear hbw hlk htt
  by_cases hlt : i < nl
  ·
   have q3 : (i : Int) < (nl : Int) := by omega
   have q4 : (0 : Int) ≤ (i : Int) := by omega
   have p3 : IntKind.i64.wrap ((i : Int) + 1) = (i : Int) + 1 := by rw [IntKind.wrap_i64]; omega
   have hiL : i < L.length := by have := HNL.out; omega
   obtain ⟨j, hj, hp0, hp1, hcall⟩ := HC.out i hiL
   obtain ⟨kg, off, hks, ck⟩ := (HKI.out.later HBW.out).at (Below.refl _ _) hlt
   rw [hj] at ck
   subst hks
   have htt2 := HTT.out
   rw [List.drop_eq_getElem_cons hiL, totalP] at htt2
   obtain ⟨P, hP⟩ : ∃ P, partsP L[i] = P := ⟨_, rfl⟩
   rw [hP] at htt2 hp0 hp1 hcall
   obtain ⟨M, hM⟩ : ∃ M, lidP (t + P) = M := ⟨_, rfl⟩
   rw [hM] at htt2
   unfold lidP at hM
   have hM0 : 0 ≤ M ∧ M ≤ 4097 := by omega
   have HT2 := Lib.hid htt2
   have HCL := Lib.hid (hcall wr HBW.out)
   have m1 : (if t + P < 4097 then t + P else 4097) = M := by rw [← hM]; split <;> omega
   have m2 : (if 4097 < t + P then 4097 else t + P) = M := by rw [← hM]; split <;> omega
   have p4 : IntKind.i64.wrap (t + P) = t + P := by rw [IntKind.wrap_i64]; omega
   have hgk : i + 1 + (gk - 1) = nl := by omega
   clear hcall htt2 hM hP hj
   go_wp2_with fail
   refine HCL.out.mono ?_
   rintro e w4 ⟨rfl, hb4⟩
   have HBW4 := Lib.hid (HBW.out.trans (hb4.mono HBW.out.size))
   have LK4 := Lib.hid ((hb4.block lb (heap_lt LK.out)).trans LK.out)
   clear hb4
   go_wp2
   go_roundg (gk - 1)
   case measure => omega
   case rel => exact ⟨i + 1, M, rfl, by congr 1, hgk, hM0.1, hM0.2, HT2.out, HBW4.out, LK4.out⟩
  ·
   have hin : nl = i := by omega
   subst hin
   have htT : t = T := by
    have := HTT.out
    rw [List.drop_of_length_le (by have := HNL.out; omega), totalP] at this
    exact this
   subst htT
   have q3 : ¬ ((nl : Nat) : Int) < (nl : Int) := by omega
   have y0 : wr.cell? ⟨lb, 0, none⟩ = some (.int .i64 kd) := block_cell LK.out
   have y1 : wr.cell? ⟨lb, 1, none⟩ = some (.int .i64 gr) := block_cell LK.out
   have y2 : wr.cell? ⟨lb, 2, none⟩ = some (.int .i64 le) := block_cell LK.out
   have y3 : wr.cell? ⟨lb, 3, none⟩ = some (.int .i64 mo) := block_cell LK.out
   rcases hkd with rfl | rfl | rfl | rfl | rfl | ⟨rfl, l0, l1, k0, k1⟩
   ·
    go_wp2
    go_ret
    exact ⟨by rw [endP_1]; rfl, HBW.out⟩
   ·
    go_wp2
    go_ret
    exact ⟨by rw [endP_2]; rfl, HBW.out⟩
   ·
    have m1 : (if t < 4097 then t else 4097) = t := by split <;> omega
    have m2 : (if 4097 < t then 4097 else t) = t := by split <;> omega
    have HE := Lib.hid (show endP 3 gr le mo nl t = t from by rw [endP_3]; omega)
    go_wp2
    go_ret
    exact ⟨by rw [HNL.out, HE.out]; rfl, HBW.out⟩
   ·
    obtain ⟨V, hV⟩ : ∃ V, t + (nl : Int) - 1 = V := ⟨_, rfl⟩
    have p5 : IntKind.i64.wrap (t + (nl : Int)) = t + (nl : Int) := by rw [IntKind.wrap_i64]; omega
    have p6 : IntKind.i64.wrap (t + (nl : Int) - 1) = V := by rw [IntKind.wrap_i64]; omega
    obtain ⟨M, hM⟩ : ∃ M, min 4097 V = M := ⟨_, rfl⟩
    have m1 : (if V < 4097 then V else 4097) = M := by rw [← hM]; split <;> omega
    have m2 : (if 4097 < V then 4097 else V) = M := by rw [← hM]; split <;> omega
    have HE := Lib.hid (show endP 4 gr le mo nl t = M from by rw [endP_4, hV, hM])
    clear hM hV
    go_wp2
    go_ret
    exact ⟨by rw [HNL.out, HE.out]; rfl, HBW.out⟩
   ·
    by_cases hg : 0 < gr
    ·
     obtain ⟨V, hV⟩ : ∃ V, t + 2 = V := ⟨_, rfl⟩
     have p5 : IntKind.i64.wrap (t + 2) = V := by rw [IntKind.wrap_i64]; omega
     obtain ⟨M, hM⟩ : ∃ M, min 4097 V = M := ⟨_, rfl⟩
     have m1 : (if V < 4097 then V else 4097) = M := by rw [← hM]; split <;> omega
     have m2 : (if 4097 < V then 4097 else V) = M := by rw [← hM]; split <;> omega
     have HE := Lib.hid (show endP 5 gr le mo nl t = M from by rw [endP_5, if_pos hg, hV, hM])
     clear hM hV
     go_wp2
     go_ret
     exact ⟨by rw [HNL.out, HE.out]; rfl, HBW.out⟩
    ·
     have m1 : (if t < 4097 then t else 4097) = t := by split <;> omega
     have m2 : (if 4097 < t then 4097 else t) = t := by split <;> omega
     have HE := Lib.hid (show endP 5 gr le mo nl t = t from by rw [endP_5, if_neg hg]; omega)
     have hg2 : gr ≤ 0 := by omega
     go_wp2
     go_ret
     exact ⟨by rw [HNL.out, HE.out]; rfl, HBW.out⟩
   ·
    have hc0 : 0 ≤ cEnd mo le ∧ cEnd mo le ≤ 256 := by unfold cEnd; split <;> omega
    obtain ⟨X, hX⟩ : ∃ X, max 1 (cEnd mo le) = X := ⟨_, rfl⟩
    have hX0 : 1 ≤ X ∧ X ≤ 256 := by omega
    have hpr : 0 ≤ t * X ∧ t * X ≤ 4097 * 256 := by
     refine ⟨Int.mul_nonneg ht0 (by omega), ?_⟩
     have h1 := Int.mul_le_mul_of_nonneg_right ht1 (show 0 ≤ X by omega)
     have h2 := Int.mul_le_mul_of_nonneg_left hX0.2 (show (0 : Int) ≤ 4097 by omega)
     omega
    obtain ⟨Y, hY⟩ : ∃ Y, t * X = Y := ⟨_, rfl⟩
    rw [hY] at hpr
    have p5 : IntKind.i64.wrap (t * X) = Y := by rw [hY, IntKind.wrap_i64]; omega
    obtain ⟨V, hV⟩ : ∃ V, Y + 1 = V := ⟨_, rfl⟩
    have p6 : IntKind.i64.wrap (Y + 1) = V := by rw [IntKind.wrap_i64]; omega
    obtain ⟨M, hM⟩ : ∃ M, min 4097 V = M := ⟨_, rfl⟩
    have m1 : (if V < 4097 then V else 4097) = M := by rw [← hM]; split <;> omega
    have m2 : (if 4097 < V then 4097 else V) = M := by rw [← hM]; split <;> omega
    have HE := Lib.hid (show endP 6 gr le mo nl t = M from by rw [endP_6, hX, hY, hV, hM])
    unfold cEnd at hX
    by_cases hm : mo < 0
    ·
     rw [if_pos hm] at hX
     have p7 : IntKind.i64.wrap (le + 1) = le + 1 := by rw [IntKind.wrap_i64]; omega
     have x1 : (if 1 < le + 1 then le + 1 else 1) = X := by rw [← hX]; split <;> omega
     have x2 : (if le + 1 < 1 then 1 else le + 1) = X := by rw [← hX]; split <;> omega
     clear hM hV hY hX hc0
     go_wp2
     go_ret
     exact ⟨by rw [HNL.out, HE.out]; rfl, HBW.out⟩
    ·
     rw [if_neg hm] at hX
     have x1 : (if 1 < mo then mo else 1) = X := by rw [← hX]; split <;> omega
     have x2 : (if mo < 1 then 1 else mo) = X := by rw [← hX]; split <;> omega
     have hm2 : 0 ≤ mo := by omega
     clear hM hV hY hX hc0
     go_wp2
     go_ret
     exact ⟨by rw [HNL.out, HE.out]; rfl, HBW.out⟩
theorem trL.at {N : List NdF} : ∀ {L : List Nd} {ks : List Int}, trL N ks L → ks.length = L.length ∧ ∀ i (hi : i < L.length), ∃ j : Nat, gl ks i = j ∧ trN N j L[i]
 | [], ks, h => by
  rw [trL] at h
  subst h
  exact ⟨rfl, fun i hi => absurd hi (Nat.not_lt_zero i)⟩
 | n :: L, ks, h => by
  rw [trL] at h
  obtain ⟨j, r, rfl, h1, h2⟩ := h
  obtain ⟨a1, a2⟩ := trL.at h2
  refine ⟨by simp [a1], fun i hi => ?_⟩
  cases i with
  | zero => exact ⟨j, rfl, h1⟩
  | succ i =>
   obtain ⟨q, b1, b2⟩ := a2 i (by simpa using hi)
   exact ⟨q, b1, b2⟩
theorem get_lt {N : List NdF} {k : Nat} {x : NdF} (h : N[k]? = some x) : ∃ hk : k < N.length, N[k] = x := List.getElem?_eq_some_iff.mp h
theorem parts_doc {pb lo : Nat} {rt g : Int} {ig : Bool} {nv : Value} {N : List NdF} {nd : Nd} (hg : GoodN nd) : ∀ (k : Nat) (w : World), PtM w pb lo rt g ig nv N → trN N k nd →
  Calls Tryd.prog 52 #[.pointer (some ⟨pb, 0, none⟩), .int .i64 k] w fun e w' => e = .returned (.int .i64 (partsP nd)) ∧ Below w.heap.size w w' := by
 induction hg with
 | set r kk nt fd hr hk hl =>
  intro k w h ht
  rw [trN] at ht
  obtain ⟨x, hx, h1, h2⟩ := ht
  obtain ⟨hk', rfl⟩ := get_lt hx
  refine (parts_core w pb lo rt g ig nv N h k hk' [] (by rw [h2]; rfl) (Nat.zero_le _) (.inl h1) (fun i hi => absurd hi (Nat.not_lt_zero i))).mono ?_
  rintro e w' ⟨rfl, hb⟩
  exact ⟨by rw [partsP, h1, endP_1], hb⟩
 | edge c hw =>
  intro k w h ht
  rw [trN] at ht
  obtain ⟨x, hx, h1, h2⟩ := ht
  obtain ⟨hk', rfl⟩ := get_lt hx
  refine (parts_core w pb lo rt g ig nv N h k hk' [] (by rw [h2]; rfl) (Nat.zero_le _) (.inr (.inl h1)) (fun i hi => absurd hi (Nat.not_lt_zero i))).mono ?_
  rintro e w' ⟨rfl, hb⟩
  exact ⟨by rw [partsP, h1, endP_2], hb⟩
 | row l hl hm ih =>
  intro k w h ht
  rw [trN] at ht
  obtain ⟨x, hx, h1, h2⟩ := ht
  obtain ⟨hk', rfl⟩ := get_lt hx
  obtain ⟨a1, a2⟩ := h2.at
  refine (parts_core w pb lo rt g ig nv N h k hk' l a1 hl (.inr (.inr (.inl h1))) (fun i hi => ?_)).mono ?_
  ·
   obtain ⟨j, b1, b2⟩ := a2 i hi
   have hp := bounds_parts (hm l[i] (List.getElem_mem hi))
   exact ⟨j, b1, hp.1, hp.2, fun W hW => ih l[i] (List.getElem_mem hi) j W (h.later hW) b2⟩
  ·
   rintro e w' ⟨rfl, hb⟩
   refine ⟨?_, hb⟩
   have := (total_bd l 0 (fun m hm' => bounds_parts (hm m hm')) (by omega) (by omega))
   rw [partsP, h1, endP_3]
   rw [show min 4097 (totalP l 0) = totalP l 0 from by omega]
 | choice l h0 hl hm ih =>
  intro k w h ht
  rw [trN] at ht
  obtain ⟨x, hx, h1, h2⟩ := ht
  obtain ⟨hk', rfl⟩ := get_lt hx
  obtain ⟨a1, a2⟩ := h2.at
  refine (parts_core w pb lo rt g ig nv N h k hk' l a1 hl (.inr (.inr (.inr (.inl h1)))) (fun i hi => ?_)).mono ?_
  ·
   obtain ⟨j, b1, b2⟩ := a2 i hi
   have hp := bounds_parts (hm l[i] (List.getElem_mem hi))
   exact ⟨j, b1, hp.1, hp.2, fun W hW => ih l[i] (List.getElem_mem hi) j W (h.later hW) b2⟩
  ·
   rintro e w' ⟨rfl, hb⟩
   refine ⟨?_, hb⟩
   rw [partsP, h1, endP_4]
   unfold lidP
   rw [show min 4097 (totalP l 0 + (l.length : Int) - 1) = min (totalP l 0 + l.length - 1) 4097 from by omega]
 | group n q h0 h9 hn ih =>
  intro k w h ht
  rw [trN] at ht
  obtain ⟨x, hx, h1, h2, j, h3, h4⟩ := ht
  obtain ⟨hk', rfl⟩ := get_lt hx
  have hp := bounds_parts hn
  refine (parts_core w pb lo rt g ig nv N h k hk' [n] (by rw [h3]; rfl) (Nat.le_of_ble_eq_true rfl) (.inr (.inr (.inr (.inr (.inl h1))))) (fun i hi => ?_)).mono ?_
  ·
   obtain rfl : i = 0 := by simpa using hi
   exact ⟨j, by rw [h3]; rfl, hp.1, hp.2, fun W hW => ih j W (h.later hW) h4⟩
  ·
   rintro e w' ⟨rfl, hb⟩
   refine ⟨?_, hb⟩
   rw [partsP, h1, h2]
   have e1 : totalP [n] 0 = partsP n := by rw [totalP, totalP]; unfold lidP; omega
   rw [e1, endP_5]
   by_cases hq : q = 0
   ·
    subst hq
    rw [if_neg (by omega), if_pos rfl, show min 4097 (partsP n) = partsP n from by omega]
   ·
    rw [if_pos (by omega), if_neg hq]
    unfold lidP
    rw [show min 4097 (partsP n + 2) = min (partsP n + 2) 4097 from by omega]
 | again n le mo lz h0 h1' h2' h3' h4' hn ih =>
  intro k w h ht
  rw [trN] at ht
  obtain ⟨x, hx, h1, h2, h2b, j, h3, h4⟩ := ht
  obtain ⟨hk', rfl⟩ := get_lt hx
  have hp := bounds_parts hn
  refine (parts_core w pb lo rt g ig nv N h k hk' [n] (by rw [h3]; rfl) (Nat.le_of_ble_eq_true rfl) (.inr (.inr (.inr (.inr (.inr ⟨h1, by omega, by omega, by omega, by omega⟩))))) (fun i hi => ?_)).mono ?_
  ·
   obtain rfl : i = 0 := by simpa using hi
   exact ⟨j, by rw [h3]; rfl, hp.1, hp.2, fun W hW => ih j W (h.later hW) h4⟩
  ·
   rintro e w' ⟨rfl, hb⟩
   refine ⟨?_, hb⟩
   rw [partsP, h1, h2, h2b]
   have e1 : totalP [n] 0 = partsP n := by rw [totalP, totalP]; unfold lidP; omega
   rw [e1, endP_6]
   unfold lidP cEnd
   rw [Int.max_comm 1, Int.mul_comm (partsP n), Int.min_comm]
end Go.Proofs.YtdegdoilpamjjaaDoor
