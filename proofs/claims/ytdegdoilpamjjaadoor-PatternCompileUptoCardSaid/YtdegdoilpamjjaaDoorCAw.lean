/- Contracts of the document's reader of patterns: repeated. Condition: no more than 2^30 ints. -/
import Derived.Test.YtdegdoilpamjjaaDoorCAu
import Derived.Test.YtdegdoilpamjjaaDoorCAt
namespace Go.Proofs.YtdegdoilpamjjaaDoor
open Go.RowKit
set_option linter.unusedVariables false
set_option linter.unusedSimpArgs false
theorem fnode_info {x y z u : Int} {a b : Bool} {s t : Option Addr} {i j k l : Nat} : (Tryd.prog.info? 138).map (·.size) = some (#[Value.int .i64 x, .int .i64 y, .int .i64 z, .int .i64 u, .bool a, .bool b, .slice s i j, .slice t k l] : Array Value).size := by
 show _ = some 8
 kernel_rfl
theorem fnode_all (x y z u : Int) (a b : Bool) (s t : Option Addr) (i j k l : Nat) : (#[Value.int .i64 x, .int .i64 y, .int .i64 z, .int .i64 u, .bool a, .bool b, .slice s i j, .slice t k l] : Array Value).all (·.oneCell') = true := by simp [Value.oneCell']
theorem KidF.one {w : World} {rb pb kb : Nat} {nv : Value} {j : Nat} (hk : w.heap[kb]? = some (.cells #[.int .i64 (j : Int)] 3 (0, 0))) (h1 : kb ≠ rb) (h2 : kb ≠ pb) (h3 : nv.ownBlock ≠ some kb) (k g le mo : Int) (lz nt : Bool) :
  KidF w rb pb nv ⟨k, g, le, mo, lz, nt, .slice none 0 0, .slice (some ⟨kb, 0, none⟩) 1 1, [(j : Int)]⟩ := by
 refine ⟨⟨_, _, _, rfl, rfl, .inr ⟨kb, 0, rfl, heap_lt hk, fun i hi => ?_⟩, fun a ha => ?_⟩, ⟨_, _, _, rfl⟩⟩
 ·
  obtain rfl : i = 0 := Nat.lt_one_iff.mp hi
  exact block_cell hk
 ·
  cases ha
  exact ⟨heap_lt hk, h1, h2, h3⟩
theorem trN_times {N : List NdF} {x : NdF} {j : Nat} {nd : Nd} (lz : Bool) (le mo : Int) (p : x.kind = 6 ∧ x.least = le ∧ x.most = mo ∧ x.kids = [(j : Int)]) (ht : trN N j nd) : trN (N ++ [x]) N.length (.again nd le mo lz) := by
 rw [trN]
 exact ⟨x, List.getElem?_concat_length, p.1, p.2.1, p.2.2.1, j, p.2.2.2, trN.more N _ nd j ht⟩
set_option maxRecDepth 100000 in
set_option maxHeartbeats 16000000 in
theorem repeated_f (w : World) (lo rb pb : Nat) (sl : Option Addr) (n c : Nat) (src : List Int) (ig : Bool) (s : RS) (nv : Value) (N : List NdF) (h : RfM w lo rb pb sl n c src ig s.at' false s.groups nv N) (j : Nat) (nd : Nd) (ht : trN N j nd) (hN : N.length < 100000) (B : Nat) (hB : B ≤ w.heap.size) :
  Calls Tryd.prog 92 #[.pointer (some ⟨rb, 0, none⟩), .int .i64 j] w (NdP w lo rb pb sl n c src ig nv N B (fun _ => 1) (timesP src nd s) (fun N' x k => trN N' k x)) := by
 obtain ⟨a, g⟩ := s
 simp only at h
 obtain ⟨R, hR⟩ : ∃ R, timesP src nd ⟨a, g⟩ = R := ⟨_, rfl⟩
 rw [hR]
 unfold timesP at hR
 simp only at hR
 have hn30 := h.rd.n30
 have hrb : rb < w.heap.size := heap_lt h.rd.blk
 have hpb : pb < w.heap.size := heap_lt h.pbk
 have hnb : ∀ b, nv.ownBlock = some b → b < w.heap.size := fun b hb => (World.ownsRow.lt h.own b hb).2
 have ob := below_newJ w (.cells #[.int .i64 j] 3)
 have oo := one_new w (.cells #[.int .i64 j] 3)
 have os := size_new w (.cells #[.int .i64 j] 3)
 obtain ⟨kb, hkb⟩ : ∃ kb, w.heap.size = kb := ⟨_, rfl⟩
 generalize hwA : w.alloc (.cells #[.int .i64 j] 3) = wA at ob oo os
 rw [hkb] at oo
 have pb1 := below_newJ wA (.cells #[.int .i64 0, .int .i64 0, .int .i64 0, .int .i64 0, .bool false, .bool false, .slice none 0 0, .slice none 0 0] 138)
 have po := one_new wA (.cells #[.int .i64 0, .int .i64 0, .int .i64 0, .int .i64 0, .bool false, .bool false, .slice none 0 0, .slice none 0 0] 138)
 obtain ⟨lb, hlb⟩ : ∃ lb, wA.heap.size = lb := ⟨_, rfl⟩
 generalize hwB : wA.alloc (.cells #[.int .i64 0, .int .i64 0, .int .i64 0, .int .i64 0, .bool false, .bool false, .slice none 0 0, .slice none 0 0] 138) = wB at pb1 po
 rw [hlb] at po
 have LRB := Lib.hid (show rb < kb ∧ pb < kb ∧ kb < lb ∧ w.heap.size = kb from by omega)
 have slx : ∀ y, sl = some y → y.block < lb := fun y hy => Nat.lt_of_lt_of_le (h.sll y hy) (by have := h.low.1; omega)
 have PO := Lib.hid po
 have HR := Lib.hid hR
 have F0 := Lib.hid h.rd
 clear os hR
 go_enter Tryd.func92, Tryd.ntmps92
 go_upto_region 2 with (refine wpList_store_row rfl 138 _ _ rfl lb #[.int .i64 6, .int .i64 0, .int .i64 (0), .int .i64 (-1), .bool false, .bool false, .slice none 0 0, .slice (some ⟨kb, 0, none⟩) 1 1] rfl rfl _ _ PO.out fnode_info rfl (fnode_all _ _ _ _ _ _ _ _ _ _ _ _) ?_)
 have hb2 : Below w.heap.size w (wB.setRow lb #[.int .i64 6, .int .i64 0, .int .i64 (0), .int .i64 (-1), .bool false, .bool false, .slice none 0 0, .slice (some ⟨kb, 0, none⟩) 1 1]) := (ob.trans (pb1.mono ob.size)).trans (row_belowg _ (by have := LRB.out; omega))
 have l1 := row_setg #[.int .i64 6, .int .i64 0, .int .i64 (0), .int .i64 (-1), .bool false, .bool false, .slice none 0 0, .slice (some ⟨kb, 0, none⟩) 1 1] PO.out
 have k1 : (wB.setRow lb #[.int .i64 6, .int .i64 0, .int .i64 (0), .int .i64 (-1), .bool false, .bool false, .slice none 0 0, .slice (some ⟨kb, 0, none⟩) 1 1]).heap[kb]? = some (.cells #[.int .i64 j] 3 (0, 0)) := ((row_belowg (B := lb) (w := wB) (g := lb) #[.int .i64 6, .int .i64 0, .int .i64 (0), .int .i64 (-1), .bool false, .bool false, .slice none 0 0, .slice (some ⟨kb, 0, none⟩) 1 1] (Nat.le_refl _)).block kb (by have := LRB.out; omega)).trans ((pb1.block kb (by have := LRB.out; omega)).trans oo)
 have F1 := Lib.hid (F0.out.later hb2)
 have T1 := Lib.hid (Touch.of (O := fun b => b = rb) hb2)
 have L1 := Lib.hid l1
 have K1 := Lib.hid k1
 clear hb2 l1 k1 F0
 generalize wB.setRow lb #[.int .i64 6, .int .i64 0, .int .i64 (0), .int .i64 (-1), .bool false, .bool false, .slice none 0 0, .slice (some ⟨kb, 0, none⟩) 1 1] = w1 at F1 T1 L1 K1 ⊢
 clear hwA hwB ob oo pb1 po PO
 go_wp2_with fail
 refine (sees_f rb pb sl n c src a false 42 0 w1 F1.out).mono ?_
 rintro e w_ ⟨rfl, m2, rfl⟩
 rw [sees_one (by decide)]
 by_cases h42 : pk src a 0 = 42
 ·
  rw [decide_eq_true h42]
  have hlta : a < n := by
   have hl := h.rd.len
   unfold pk at h42
   split at h42 <;> omega
  have F2 := Lib.hid (F1.out.drewN m2)
  have T2 := Lib.hid (touch_drewN (n := m2) T1.out)
  have L2 := Lib.hid (show (w1.drewN m2).heap[lb]? = _ from L1.out)
  have K2 := Lib.hid (show (w1.drewN m2).heap[kb]? = _ from K1.out)
  clear F1 T1 L1 K1
  generalize w1.drewN m2 = w2 at F2 T2 L2 K2 ⊢
  have hata := F2.out.at'
  have b2 : w2.cell? ⟨rb, 2, none⟩ = some (.int .i64 a) := block_cell F2.out.blk
  have g2 : w2.frozen? ⟨rb, 2, none⟩ = false := block_free F2.out.blk
  have p3 : IntKind.i64.wrap ((a : Int) + 1) = (a : Int) + 1 := by rw [IntKind.wrap_i64]; omega
  have fs := F2.out.step 1 (by omega)
  have ts := T2.out.trans (Touch.setCell (fun b => b = rb) w2 (p := ⟨rb, 2, none⟩) rfl (.int .i64 ((a + 1 : Nat) : Int))) (fun x hx => .inl hx)
  have ls : (w2.setCell ⟨rb, 2, none⟩ (.int .i64 ((a + 1 : Nat) : Int))).heap[lb]? = _ := (Below.heap_setCell _ _ _ _ (show lb ≠ rb from by have := LRB.out; omega)).trans L2.out
  have ks : (w2.setCell ⟨rb, 2, none⟩ (.int .i64 ((a + 1 : Nat) : Int))).heap[kb]? = _ := (Below.heap_setCell _ _ _ _ (show kb ≠ rb from by have := LRB.out; omega)).trans K2.out
  have ec : ((a + 1 : Nat) : Int) = (a : Int) + 1 := by omega
  rw [ec] at fs ts ls ks
  go_upto_region 4 with (fail)
  generalize w2.setCell ⟨rb, 2, none⟩ (.int .i64 ((a : Int) + 1)) = w3 at fs ts ls ks ⊢
  have F3 := Lib.hid fs
  have T3 := Lib.hid ts
  have L3 := Lib.hid ls
  have K3 := Lib.hid ks
  clear b2 g2 p3 fs ts ls ks F2 T2 L2 K2
  have hr := HR.out
  rw [if_pos h42] at hr
  subst hr
  have z0 : w3.cell? ⟨lb, 0, none⟩ = some (.int .i64 6) := block_cell L3.out
  have z1 : w3.cell? ⟨lb, 1, none⟩ = some (.int .i64 0) := block_cell L3.out
  have z2 : w3.cell? ⟨lb, 2, none⟩ = some (.int .i64 (0)) := block_cell L3.out
  have z3 : w3.cell? ⟨lb, 3, none⟩ = some (.int .i64 (-1)) := block_cell L3.out
  have z4 : w3.cell? ⟨lb, 4, none⟩ = some (.bool false) := block_cell L3.out
  have z5 : w3.cell? ⟨lb, 5, none⟩ = some (.bool false) := block_cell L3.out
  have z6 : w3.cell? ⟨lb, 6, none⟩ = some (.slice none 0 0) := block_cell L3.out
  have z7 : w3.cell? ⟨lb, 7, none⟩ = some (.slice (some ⟨kb, 0, none⟩) 1 1) := block_cell L3.out
  have HND := Lib.hid (node_f w3 lo rb pb sl n c src ig (a + 1) false g nv N (h.at_ T3.out F3.out) ⟨6, 0, 0, -1, false, false, .slice none 0 0, .slice (some ⟨kb, 0, none⟩) 1 1, [(j : Int)]⟩ (KidF.one K3.out (by have := LRB.out; omega) (by have := LRB.out; omega) (fun e => by have := hnb _ e; have := LRB.out; omega) _ _ _ _ _ _) (by omega))
  have TT := T3
  clear HR L3 K3 F3 T3
  go_wp2_with fail
  refine HND.out.mono ?_
  rintro e w9 ⟨rfl, nv', hmv, hr9⟩
  have HMV := Lib.hid ((Mv.of (nv := nv) (pb := pb) TT.out).trans hmv)
  have HR9 := Lib.hid hr9
  clear hmv hr9 HND TT
  go_wp2
  go_ret
  exact NdP.one HMV.out HR9.out (kge_some rfl (by have := LRB.out; omega)) (trN_times _ _ _ ⟨rfl, rfl, rfl, rfl⟩ ht) (Nat.le_refl _)
 ·
  rw [decide_eq_false h42]
  have F2 := Lib.hid (F1.out.drewN m2)
  have T2 := Lib.hid (touch_drewN (n := m2) T1.out)
  have L2 := Lib.hid (show (w1.drewN m2).heap[lb]? = _ from L1.out)
  have K2 := Lib.hid (show (w1.drewN m2).heap[kb]? = _ from K1.out)
  clear F1 T1 L1 K1
  generalize w1.drewN m2 = w2 at F2 T2 L2 K2 ⊢
  go_wp2_with fail
  refine (sees_f rb pb sl n c src a false 92 43 w2 F2.out).mono ?_
  rintro e w_ ⟨rfl, m3, rfl⟩
  rw [sees_two (by decide)]
  by_cases h43 : escB src a 43 = true
  ·
   rw [h43]
   have hlta : a + 1 < n := by
    have hl := h.rd.len
    have := (escB_is.mp h43).1
    omega
   have F3 := Lib.hid (F2.out.drewN m3)
   have T3 := Lib.hid (touch_drewN (n := m3) T2.out)
   have L3 := Lib.hid (show (w2.drewN m3).heap[lb]? = _ from L2.out)
   have K3 := Lib.hid (show (w2.drewN m3).heap[kb]? = _ from K2.out)
   clear F2 T2 L2 K2
   generalize w2.drewN m3 = w3 at F3 T3 L3 K3 ⊢
   have hata := F3.out.at'
   have b2 : w3.cell? ⟨rb, 2, none⟩ = some (.int .i64 a) := block_cell F3.out.blk
   have g2 : w3.frozen? ⟨rb, 2, none⟩ = false := block_free F3.out.blk
   have p3 : IntKind.i64.wrap ((a : Int) + 2) = (a : Int) + 2 := by rw [IntKind.wrap_i64]; omega
   have fs := F3.out.step 2 (by omega)
   have ts := T3.out.trans (Touch.setCell (fun b => b = rb) w3 (p := ⟨rb, 2, none⟩) rfl (.int .i64 ((a + 2 : Nat) : Int))) (fun x hx => .inl hx)
   have ls : (w3.setCell ⟨rb, 2, none⟩ (.int .i64 ((a + 2 : Nat) : Int))).heap[lb]? = _ := (Below.heap_setCell _ _ _ _ (show lb ≠ rb from by have := LRB.out; omega)).trans L3.out
   have ks : (w3.setCell ⟨rb, 2, none⟩ (.int .i64 ((a + 2 : Nat) : Int))).heap[kb]? = _ := (Below.heap_setCell _ _ _ _ (show kb ≠ rb from by have := LRB.out; omega)).trans K3.out
   have ec : ((a + 2 : Nat) : Int) = (a : Int) + 2 := by omega
   rw [ec] at fs ts ls ks
   go_upto_region 7 with (fail)
   generalize w3.setCell ⟨rb, 2, none⟩ (.int .i64 ((a : Int) + 2)) = w4 at fs ts ls ks ⊢
   have F4 := Lib.hid fs
   have T4 := Lib.hid ts
   have L4 := Lib.hid ls
   have K4 := Lib.hid ks
   clear b2 g2 p3 fs ts ls ks F3 T3 L3 K3
   have y2 : w4.cell? ⟨lb, 2, none⟩ = some (.int .i64 (0)) := block_cell L4.out
   have g2 : w4.frozen? ⟨lb, 2, none⟩ = false := block_free L4.out
   have ls := block_set (i := 2) (.int .i64 (1)) L4.out
   have ts := touch_below T4.out ((Below.refl w.heap.size w4).setCell (p := ⟨lb, 2, none⟩) (by have := LRB.out; show w.heap.size ≤ lb; omega) (.int .i64 (1)))
   have fs := F4.out.below (by have := LRB.out; omega) (fun y hy => slx y hy) ((Below.refl lb w4).setCell (p := ⟨lb, 2, none⟩) (Nat.le_refl _) (.int .i64 (1)))
   have ks : (w4.setCell ⟨lb, 2, none⟩ (.int .i64 (1))).heap[kb]? = _ := (Below.heap_setCell _ _ _ _ (show kb ≠ lb from by have := LRB.out; omega)).trans K4.out
   go_upto_region 8 with (fail)
   generalize w4.setCell ⟨lb, 2, none⟩ (.int .i64 (1)) = w5 at ls ts fs ks ⊢
   have F5 := Lib.hid fs
   have T5 := Lib.hid ts
   have L5 := Lib.hid ls
   have K5 := Lib.hid ks
   clear y2 g2 fs ts ls ks F4 T4 L4 K4
   have hr := HR.out
   rw [if_neg h42, if_pos h43] at hr
   subst hr
   have z0 : w5.cell? ⟨lb, 0, none⟩ = some (.int .i64 6) := block_cell L5.out
   have z1 : w5.cell? ⟨lb, 1, none⟩ = some (.int .i64 0) := block_cell L5.out
   have z2 : w5.cell? ⟨lb, 2, none⟩ = some (.int .i64 (1)) := block_cell L5.out
   have z3 : w5.cell? ⟨lb, 3, none⟩ = some (.int .i64 (-1)) := block_cell L5.out
   have z4 : w5.cell? ⟨lb, 4, none⟩ = some (.bool false) := block_cell L5.out
   have z5 : w5.cell? ⟨lb, 5, none⟩ = some (.bool false) := block_cell L5.out
   have z6 : w5.cell? ⟨lb, 6, none⟩ = some (.slice none 0 0) := block_cell L5.out
   have z7 : w5.cell? ⟨lb, 7, none⟩ = some (.slice (some ⟨kb, 0, none⟩) 1 1) := block_cell L5.out
   have HND := Lib.hid (node_f w5 lo rb pb sl n c src ig (a + 2) false g nv N (h.at_ T5.out F5.out) ⟨6, 0, 1, -1, false, false, .slice none 0 0, .slice (some ⟨kb, 0, none⟩) 1 1, [(j : Int)]⟩ (KidF.one K5.out (by have := LRB.out; omega) (by have := LRB.out; omega) (fun e => by have := hnb _ e; have := LRB.out; omega) _ _ _ _ _ _) (by omega))
   have TT := T5
   clear HR L5 K5 F5 T5
   go_wp2_with fail
   refine HND.out.mono ?_
   rintro e w9 ⟨rfl, nv', hmv, hr9⟩
   have HMV := Lib.hid ((Mv.of (nv := nv) (pb := pb) TT.out).trans hmv)
   have HR9 := Lib.hid hr9
   clear hmv hr9 HND TT
   go_wp2
   go_ret
   exact NdP.one HMV.out HR9.out (kge_some rfl (by have := LRB.out; omega)) (trN_times _ _ _ ⟨rfl, rfl, rfl, rfl⟩ ht) (Nat.le_refl _)
  ·
   rw [Bool.eq_false_iff.mpr h43]
   have F3 := Lib.hid (F2.out.drewN m3)
   have T3 := Lib.hid (touch_drewN (n := m3) T2.out)
   have L3 := Lib.hid (show (w2.drewN m3).heap[lb]? = _ from L2.out)
   have K3 := Lib.hid (show (w2.drewN m3).heap[kb]? = _ from K2.out)
   clear F2 T2 L2 K2
   generalize w2.drewN m3 = w3 at F3 T3 L3 K3 ⊢
   go_wp2_with fail
   refine (sees_f rb pb sl n c src a false 92 63 w3 F3.out).mono ?_
   rintro e w_ ⟨rfl, m4, rfl⟩
   rw [sees_two (by decide)]
   by_cases h63 : escB src a 63 = true
   ·
    rw [h63]
    have hlta : a + 1 < n := by
     have hl := h.rd.len
     have := (escB_is.mp h63).1
     omega
    have F4 := Lib.hid (F3.out.drewN m4)
    have T4 := Lib.hid (touch_drewN (n := m4) T3.out)
    have L4 := Lib.hid (show (w3.drewN m4).heap[lb]? = _ from L3.out)
    have K4 := Lib.hid (show (w3.drewN m4).heap[kb]? = _ from K3.out)
    clear F3 T3 L3 K3
    generalize w3.drewN m4 = w4 at F4 T4 L4 K4 ⊢
    have hata := F4.out.at'
    have b2 : w4.cell? ⟨rb, 2, none⟩ = some (.int .i64 a) := block_cell F4.out.blk
    have g2 : w4.frozen? ⟨rb, 2, none⟩ = false := block_free F4.out.blk
    have p3 : IntKind.i64.wrap ((a : Int) + 2) = (a : Int) + 2 := by rw [IntKind.wrap_i64]; omega
    have fs := F4.out.step 2 (by omega)
    have ts := T4.out.trans (Touch.setCell (fun b => b = rb) w4 (p := ⟨rb, 2, none⟩) rfl (.int .i64 ((a + 2 : Nat) : Int))) (fun x hx => .inl hx)
    have ls : (w4.setCell ⟨rb, 2, none⟩ (.int .i64 ((a + 2 : Nat) : Int))).heap[lb]? = _ := (Below.heap_setCell _ _ _ _ (show lb ≠ rb from by have := LRB.out; omega)).trans L4.out
    have ks : (w4.setCell ⟨rb, 2, none⟩ (.int .i64 ((a + 2 : Nat) : Int))).heap[kb]? = _ := (Below.heap_setCell _ _ _ _ (show kb ≠ rb from by have := LRB.out; omega)).trans K4.out
    have ec : ((a + 2 : Nat) : Int) = (a : Int) + 2 := by omega
    rw [ec] at fs ts ls ks
    go_upto_region 11 with (fail)
    generalize w4.setCell ⟨rb, 2, none⟩ (.int .i64 ((a : Int) + 2)) = w5 at fs ts ls ks ⊢
    have F5 := Lib.hid fs
    have T5 := Lib.hid ts
    have L5 := Lib.hid ls
    have K5 := Lib.hid ks
    clear b2 g2 p3 fs ts ls ks F4 T4 L4 K4
    have y2 : w5.cell? ⟨lb, 3, none⟩ = some (.int .i64 (-1)) := block_cell L5.out
    have g2 : w5.frozen? ⟨lb, 3, none⟩ = false := block_free L5.out
    have ls := block_set (i := 3) (.int .i64 (1)) L5.out
    have ts := touch_below T5.out ((Below.refl w.heap.size w5).setCell (p := ⟨lb, 3, none⟩) (by have := LRB.out; show w.heap.size ≤ lb; omega) (.int .i64 (1)))
    have fs := F5.out.below (by have := LRB.out; omega) (fun y hy => slx y hy) ((Below.refl lb w5).setCell (p := ⟨lb, 3, none⟩) (Nat.le_refl _) (.int .i64 (1)))
    have ks : (w5.setCell ⟨lb, 3, none⟩ (.int .i64 (1))).heap[kb]? = _ := (Below.heap_setCell _ _ _ _ (show kb ≠ lb from by have := LRB.out; omega)).trans K5.out
    go_upto_region 12 with (fail)
    generalize w5.setCell ⟨lb, 3, none⟩ (.int .i64 (1)) = w6 at ls ts fs ks ⊢
    have F6 := Lib.hid fs
    have T6 := Lib.hid ts
    have L6 := Lib.hid ls
    have K6 := Lib.hid ks
    clear y2 g2 fs ts ls ks F5 T5 L5 K5
    have hr := HR.out
    rw [if_neg h42, if_neg h43, if_pos h63] at hr
    subst hr
    have z0 : w6.cell? ⟨lb, 0, none⟩ = some (.int .i64 6) := block_cell L6.out
    have z1 : w6.cell? ⟨lb, 1, none⟩ = some (.int .i64 0) := block_cell L6.out
    have z2 : w6.cell? ⟨lb, 2, none⟩ = some (.int .i64 (0)) := block_cell L6.out
    have z3 : w6.cell? ⟨lb, 3, none⟩ = some (.int .i64 (1)) := block_cell L6.out
    have z4 : w6.cell? ⟨lb, 4, none⟩ = some (.bool false) := block_cell L6.out
    have z5 : w6.cell? ⟨lb, 5, none⟩ = some (.bool false) := block_cell L6.out
    have z6 : w6.cell? ⟨lb, 6, none⟩ = some (.slice none 0 0) := block_cell L6.out
    have z7 : w6.cell? ⟨lb, 7, none⟩ = some (.slice (some ⟨kb, 0, none⟩) 1 1) := block_cell L6.out
    have HND := Lib.hid (node_f w6 lo rb pb sl n c src ig (a + 2) false g nv N (h.at_ T6.out F6.out) ⟨6, 0, 0, 1, false, false, .slice none 0 0, .slice (some ⟨kb, 0, none⟩) 1 1, [(j : Int)]⟩ (KidF.one K6.out (by have := LRB.out; omega) (by have := LRB.out; omega) (fun e => by have := hnb _ e; have := LRB.out; omega) _ _ _ _ _ _) (by omega))
    have TT := T6
    clear HR L6 K6 F6 T6
    go_wp2_with fail
    refine HND.out.mono ?_
    rintro e w9 ⟨rfl, nv', hmv, hr9⟩
    have HMV := Lib.hid ((Mv.of (nv := nv) (pb := pb) TT.out).trans hmv)
    have HR9 := Lib.hid hr9
    clear hmv hr9 HND TT
    go_wp2
    go_ret
    exact NdP.one HMV.out HR9.out (kge_some rfl (by have := LRB.out; omega)) (trN_times _ _ _ ⟨rfl, rfl, rfl, rfl⟩ ht) (Nat.le_refl _)
   ·
    rw [Bool.eq_false_iff.mpr h63]
    have F4 := Lib.hid (F3.out.drewN m4)
    have T4 := Lib.hid (touch_drewN (n := m4) T3.out)
    have L4 := Lib.hid (show (w3.drewN m4).heap[lb]? = _ from L3.out)
    have K4 := Lib.hid (show (w3.drewN m4).heap[kb]? = _ from K3.out)
    clear F3 T3 L3 K3
    generalize w3.drewN m4 = w4 at F4 T4 L4 K4 ⊢
    go_wp2_with fail
    refine (sees_f rb pb sl n c src a false 92 123 w4 F4.out).mono ?_
    rintro e w_ ⟨rfl, m5, rfl⟩
    rw [sees_two (by decide)]
    by_cases h123 : escB src a 123 = true
    ·
     rw [h123]
     have hlta : a + 1 < n := by
      have hl := h.rd.len
      have := (escB_is.mp h123).1
      omega
     have F5 := Lib.hid (F4.out.drewN m5)
     have T5 := Lib.hid (touch_drewN (n := m5) T4.out)
     have L5 := Lib.hid (show (w4.drewN m5).heap[lb]? = _ from L4.out)
     have K5 := Lib.hid (show (w4.drewN m5).heap[kb]? = _ from K4.out)
     clear F4 T4 L4 K4
     generalize w4.drewN m5 = w5 at F5 T5 L5 K5 ⊢
     have hata := F5.out.at'
     have b2 : w5.cell? ⟨rb, 2, none⟩ = some (.int .i64 a) := block_cell F5.out.blk
     have g2 : w5.frozen? ⟨rb, 2, none⟩ = false := block_free F5.out.blk
     have p3 : IntKind.i64.wrap ((a : Int) + 2) = (a : Int) + 2 := by rw [IntKind.wrap_i64]; omega
     have fs := F5.out.step 2 (by omega)
     have ts := T5.out.trans (Touch.setCell (fun b => b = rb) w5 (p := ⟨rb, 2, none⟩) rfl (.int .i64 ((a + 2 : Nat) : Int))) (fun x hx => .inl hx)
     have ls : (w5.setCell ⟨rb, 2, none⟩ (.int .i64 ((a + 2 : Nat) : Int))).heap[lb]? = _ := (Below.heap_setCell _ _ _ _ (show lb ≠ rb from by have := LRB.out; omega)).trans L5.out
     have ks : (w5.setCell ⟨rb, 2, none⟩ (.int .i64 ((a + 2 : Nat) : Int))).heap[kb]? = _ := (Below.heap_setCell _ _ _ _ (show kb ≠ rb from by have := LRB.out; omega)).trans K5.out
     have ec : ((a + 2 : Nat) : Int) = (a : Int) + 2 := by omega
     rw [ec] at fs ts ls ks
     go_upto_region 15 with (fail)
     generalize w5.setCell ⟨rb, 2, none⟩ (.int .i64 ((a : Int) + 2)) = w6 at fs ts ls ks ⊢
     have F6 := Lib.hid fs
     have T6 := Lib.hid ts
     have L6 := Lib.hid ls
     have K6 := Lib.hid ks
     clear b2 g2 p3 fs ts ls ks F5 T5 L5 K5
     have hr := HR.out
     rw [if_neg h42, if_neg h43, if_neg h63, if_pos h123] at hr
     subst hr
     have z0 : w6.cell? ⟨lb, 0, none⟩ = some (.int .i64 6) := block_cell L6.out
     have z1 : w6.cell? ⟨lb, 1, none⟩ = some (.int .i64 0) := block_cell L6.out
     have z2 : w6.cell? ⟨lb, 2, none⟩ = some (.int .i64 (0)) := block_cell L6.out
     have z3 : w6.cell? ⟨lb, 3, none⟩ = some (.int .i64 (-1)) := block_cell L6.out
     have z4 : w6.cell? ⟨lb, 4, none⟩ = some (.bool false) := block_cell L6.out
     have z5 : w6.cell? ⟨lb, 5, none⟩ = some (.bool false) := block_cell L6.out
     have z6 : w6.cell? ⟨lb, 6, none⟩ = some (.slice none 0 0) := block_cell L6.out
     have z7 : w6.cell? ⟨lb, 7, none⟩ = some (.slice (some ⟨kb, 0, none⟩) 1 1) := block_cell L6.out
     have HND := Lib.hid (braces_f w6 lo rb pb sl n c src ig ⟨a + 2, g⟩ nv N (h.at_ T6.out F6.out) j nd ht none 0 0 (some ⟨kb, 0, none⟩) 1 1 (KidF.one K6.out (by have := LRB.out; omega) (by have := LRB.out; omega) (fun e => by have := hnb _ e; have := LRB.out; omega) _ _ _ _ _ _) (by omega) B (fun _ _ _ => kge_some rfl (by have := LRB.out; omega)))
     have TT := T6
     clear HR L6 K6 F6 T6
     go_wp2_with fail
     refine HND.out.mono ?_
     rintro e w9 ⟨k9, nv', M9, rfl, hmv, hm9⟩
     have HMV := Lib.hid ((Mv.of (nv := nv) (pb := pb) TT.out).trans hmv)
     have HM9 := Lib.hid hm9
     clear hmv hm9 HND TT
     go_wp2
     go_ret
     exact ⟨k9, nv', M9, rfl, HMV.out, HM9.out⟩
    ·
     rw [Bool.eq_false_iff.mpr h123]
     have F5 := Lib.hid (F4.out.drewN m5)
     have T5 := Lib.hid (touch_drewN (n := m5) T4.out)
     have L5 := Lib.hid (show (w4.drewN m5).heap[lb]? = _ from L4.out)
     have K5 := Lib.hid (show (w4.drewN m5).heap[kb]? = _ from K4.out)
     clear F4 T4 L4 K4
     generalize w4.drewN m5 = w5 at F5 T5 L5 K5 ⊢
     have hr := HR.out
     rw [if_neg h42, if_neg h43, if_neg h63, if_neg h123] at hr
     subst hr
     clear HR
     go_wp2
     go_ret
     exact NdP.nil j (Mv.of T5.out) (h.at_ T5.out F5.out) ht
end Go.Proofs.YtdegdoilpamjjaaDoor
