/- Contracts of the document's reader of patterns: class. Condition: no more than 2^30 ints. -/
import Derived.Test.YtdegdoilpamjjaaDoorCAw
import Derived.Test.YtdegdoilpamjjaaDoorCAg
namespace Go.Proofs.YtdegdoilpamjjaaDoor
open Go.RowKit
set_option linter.unusedVariables false
set_option linter.unusedSimpArgs false
theorem Tryd.infoItemF : (Tryd.prog.info? 153).map (fun i => (i.zero, i.size, i.bytes)) = some (some (.agg #[.int .i64 0, .int .i64 0, .int .i64 0]), 3, 24) := by kernel_rfl
structure ClF (w0 w : World) (rb pb : Nat) (sl : Option Addr) (n c : Nat) (src : List Int) (lb a : Nat) (bad nt : Bool) (si : Option Addr) (m ci : Nat) (xs : List Value) : Prop where
 rd : FrM w rb pb sl n c src a bad
 tch : Touch (fun b => b = rb) w0 w
 rbl : rb < w0.heap.size
 sll : ∀ x, sl = some x → x.block < w0.heap.size
 lge : w0.heap.size ≤ lb
 blk : w.heap[lb]? = some (.cells #[.int .i64 1, .int .i64 0, .int .i64 0, .int .i64 0, .bool false, .bool nt, .slice si m ci, .slice none 0 0] 138 (0, 0))
 own : w.ownsRow w0.heap.size 153 3 (.slice si m ci) m xs
section
variable {w0 w w' : World} {rb pb : Nat} {sl : Option Addr} {n c : Nat} {src : List Int} {lb a a' : Nat} {bad bad' nt : Bool} {si : Option Addr} {m ci : Nat} {xs : List Value}
theorem ClF.lts (h : ClF w0 w rb pb sl n c src lb a bad nt si m ci xs) : w0.heap.size ≤ w.heap.size := h.tch.size
theorem ClF.szl (h : ClF w0 w rb pb sl n c src lb a bad nt si m ci xs) : w0.heap.size ≤ w.heap.size := h.tch.size
theorem ClF.moved (h : ClF w0 w rb pb sl n c src lb a bad nt si m ci xs) (ht : Touch (fun b => b = rb) w w') (hf : FrM w' rb pb sl n c src a' bad') : ClF w0 w' rb pb sl n c src lb a' bad' nt si m ci xs := by
 have hl := h.lge
 have hr := h.rbl
 refine ⟨hf, h.tch.trans ht (fun x hx => .inl hx), h.rbl, h.sll, h.lge, (ht.block lb (heap_lt h.blk) (by show ¬ lb = rb; omega)).trans h.blk, own_kept h.own fun b hb => ?_⟩
 have hl := World.ownsRow.lt h.own b hb
 exact ht.block b hl.2 (by show ¬ b = rb; omega)
theorem ClF.neg (h : ClF w0 w rb pb sl n c src lb a bad nt si m ci xs) (x : Bool) : ClF w0 (w.setCell ⟨lb, 5, none⟩ (.bool x)) rb pb sl n c src lb a bad x si m ci xs := by
 have hb4 : Below w0.heap.size w (w.setCell ⟨lb, 5, none⟩ (.bool x)) := (Below.refl _ _).setCell (p := ⟨lb, 5, none⟩) h.lge _
 refine ⟨h.rd.below h.rbl h.sll hb4, touch_below h.tch hb4, h.rbl, h.sll, h.lge, by rw [block_set _ h.blk]; rfl, own_kept h.own fun b hb => ?_⟩
 obtain ⟨cs, h1⟩ := own_type h.own hb
 exact Below.heap_setCell _ ⟨lb, 5, none⟩ _ _ (type_ne h1 h.blk (by decide))
theorem ClF.push (h : ClF w0 w rb pb sl n c src lb a bad nt si m ci xs) {ys : List Value} {w3 : World} {s' : Option Addr} {c' : Nat} (hp : Pushed w w3 w0.heap.size 153 3 (.slice si m ci) m ys s' c') :
  ClF w0 (w3.setCell ⟨lb, 6, none⟩ (.slice s' (m + 1) c')) rb pb sl n c src lb a bad nt s' (m + 1) c' ys := by
 obtain ⟨ho, hb, hoth, hgr, hat⟩ := hp
 have c3 := hoth _ _ _ h.blk (by decide)
 have hb4 : Below w0.heap.size w (w3.setCell ⟨lb, 6, none⟩ (.slice s' (m + 1) c')) := hb.trans ((Below.refl _ _).setCell (p := ⟨lb, 6, none⟩) h.lge _)
 refine ⟨h.rd.below h.rbl h.sll hb4, touch_below h.tch hb4, h.rbl, h.sll, h.lge, by rw [block_set _ c3]; rfl, own_kept ho fun b hb => ?_⟩
 obtain ⟨cs, h1⟩ := own_type ho hb
 exact Below.heap_setCell _ ⟨lb, 6, none⟩ _ _ (type_ne h1 c3 (by decide))
theorem ClF.row {ib : Nat} (h : ClF w0 w rb pb sl n c src lb a bad nt si m ci xs) (hb : Below ib w w') (h0 : w0.heap.size ≤ ib) (hl : lb < ib) (ho : ∀ b, (Value.slice si m ci).ownBlock = some b → b < ib) : ClF w0 w' rb pb sl n c src lb a bad nt si m ci xs :=
 ⟨h.rd.below h.rbl h.sll (hb.mono h0), touch_below h.tch (hb.mono h0), h.rbl, h.sll, h.lge, (hb.block lb hl).trans h.blk, own_kept h.own fun b hb' => hb.block b (ho b hb')⟩
end
theorem str_err {src : List Int} {f : Nat} {rs : List (Int × Int)} {ks : List Int} {lo : Int} {s : RS} {k : Nat} (h : strP src lo s = .error k) : clsH src f rs ks lo (signP src { s with at' := s.at' + 1 }) = .error k := by
 unfold strP at h
 cases hs : signP src { s with at' := s.at' + 1 } with
 | error e =>
  rw [hs] at h
  exact congrArg Except.error (Except.error.inj h)
 | ok r =>
  obtain ⟨⟨hi, o⟩, s2⟩ := r
  rw [hs] at h
  cases o with
  | some k2 => exact congrArg Except.error (Except.error.inj h)
  | none =>
   simp only at h
   unfold clsH
   simp only
   split at h
   · cases h
   ·
    rename_i h1
    rw [if_neg h1]
    split at h
    · cases h
    ·
     rename_i h2
     rw [if_neg h2]
     exact congrArg Except.error (Except.error.inj h)
theorem str_ok {src : List Int} {f : Nat} {rs : List (Int × Int)} {ks : List Int} {lo : Int} {s s7 : RS} {u : Unit} {R1 : RR (List (Int × Int) × List Int)} (h : strP src lo s = .ok (u, s7)) (hr : clsH src f rs ks lo (signP src { s with at' := s.at' + 1 }) = R1) :
  ∃ rs', classR src f false rs' ks s7 = R1 ∧ s.at' + 2 ≤ s7.at' ∧ s7.groups = s.groups := by
 unfold strP at h
 cases hs : signP src { s with at' := s.at' + 1 } with
 | error e => rw [hs] at h; cases h
 | ok r =>
  obtain ⟨⟨hi, o⟩, s2⟩ := r
  have hm := sign_more hs
  rw [hs] at h hr
  cases o with
  | some k2 => cases h
  | none =>
   simp only at h
   unfold clsH at hr
   simp only at hr
   split at h
   ·
    rename_i h1
    rw [if_pos h1] at hr
    cases h
    exact ⟨_, hr, hm.1, hm.2⟩
   ·
    rename_i h1
    rw [if_neg h1] at hr
    split at h
    ·
     rename_i h2
     rw [if_pos h2] at hr
     cases h
     exact ⟨_, hr, hm.1, hm.2⟩
    · cases h
theorem trN_set {N : List NdF} {x : NdF} {rs : List (Int × Int)} {ks : List Int} {nt fold : Bool} (h : x.kind = 1) (h2 : x.kids = []) : trN (N ++ [x]) N.length (.set rs ks nt fold) := by
 rw [trN]
 exact ⟨x, List.getElem?_concat_length, h, h2⟩
theorem KidF.none {w : World} {rb pb : Nat} {nv : Value} (k g le mo : Int) (lz nt : Bool) (si : Option Addr) (m ci : Nat) : KidF w rb pb nv ⟨k, g, le, mo, lz, nt, .slice si m ci, .slice Option.none 0 0, []⟩ :=
 ⟨⟨_, _, _, rfl, rfl, .inl rfl, fun a ha => by cases ha⟩, ⟨_, _, _, rfl⟩⟩
def RelF (w wr : World) (rb pb : Nat) (sl : Option Addr) (n c : Nat) (src : List Int) (lb g : Nat) (nt : Bool) (R1 : RR (List (Int × Int) × List Int)) (gg : Nat) (fv : Value) : Prop :=
 ∃ (a : Nat) (bad first : Bool) (si : Option Addr) (m ci : Nat) (xs : List Value) (rs : List (Int × Int)) (ks : List Int) (f : Nat), fv = .bool first ∧ ClF w wr rb pb sl n c src lb a bad nt si m ci xs ∧ gg = (if bad then 0 else n + 1 - a) ∧
  ((bad = false ∧ classR src f first rs ks ⟨a, g⟩ = R1 ∧ n + 1 - a < f ∧ m ≤ a) ∨ (bad = true ∧ R1 = .error a))
set_option maxRecDepth 100000 in
set_option maxHeartbeats 32000000 in
theorem class_f (w : World) (lo rb pb : Nat) (sl : Option Addr) (n c : Nat) (src : List Int) (ig fold : Bool) (s : RS) (nv : Value) (N : List NdF) (h : RfM w lo rb pb sl n c src ig s.at' false s.groups nv N) (hN : N.length < 100000) (B : Nat) :
  Calls Tryd.prog 101 #[.pointer (some ⟨rb, 0, none⟩)] w (NdP w lo rb pb sl n c src ig nv N B (fun _ => 1) (classP src fold s) (fun N' x k => trN N' k x)) := by
 obtain ⟨a, g⟩ := s
 simp only at h
 rw [classP_eq]
 simp only
 obtain ⟨RR, hRR⟩ : ∃ RR, clsR (decide (pk src a 0 = 94)) fold (classR src (src.length + 2) true [] [] (if decide (pk src a 0 = 94) = true then { at' := a + 1, groups := g } else ⟨a, g⟩)) = RR := ⟨_, rfl⟩
 rw [hRR]
 have HRR := Lib.hid hRR
 clear hRR
 have hn30 := h.rd.n30
 have hlen := h.rd.len
 have hrb : rb < w.heap.size := heap_lt h.rd.blk
 have RBW := Lib.hid hrb
 have ob := below_newJ w (.cells #[.int .i64 0, .int .i64 0, .int .i64 0, .int .i64 0, .bool false, .bool false, .slice none 0 0, .slice none 0 0] 138)
 have oo := one_new w (.cells #[.int .i64 0, .int .i64 0, .int .i64 0, .int .i64 0, .bool false, .bool false, .slice none 0 0, .slice none 0 0] 138)
 obtain ⟨lb, hlb⟩ : ∃ lb, w.heap.size = lb := ⟨_, rfl⟩
 generalize hw1 : w.alloc (.cells #[.int .i64 0, .int .i64 0, .int .i64 0, .int .i64 0, .bool false, .bool false, .slice none 0 0, .slice none 0 0] 138) = w1 at ob oo
 rw [hlb] at oo
 have LB := Lib.hid hlb
 have PO := Lib.hid oo
 have slx : ∀ y, sl = some y → y.block < w.heap.size := fun y hy => Nat.lt_of_lt_of_le (h.sll y hy) (by have := h.low.1; omega)
 have HL := Lib.hid (show ClF w (w1.setRow lb #[.int .i64 (1), .int .i64 (0), .int .i64 (0), .int .i64 (0), .bool false, .bool false, .slice none 0 0, .slice none 0 0]) rb pb sl n c src lb a false false none 0 0 [] from by
  have hb2 : Below w.heap.size w (w1.setRow lb #[.int .i64 (1), .int .i64 (0), .int .i64 (0), .int .i64 (0), .bool false, .bool false, .slice none 0 0, .slice none 0 0]) := ob.trans (row_belowg _ (by omega))
  exact ⟨h.rd.later hb2, Touch.of hb2, hrb, slx, by omega, row_setg #[.int .i64 (1), .int .i64 (0), .int .i64 (0), .int .i64 (0), .bool false, .bool false, .slice none 0 0, .slice none 0 0] oo, World.ownsRow_nil _ _ _ _⟩)
 have H0 := Lib.hid h
 have SLX := Lib.hid slx
 clear ob oo h slx hrb
 go_enter Tryd.func101, Tryd.ntmps101
 go_upto_region 2 with (refine wpList_store_row rfl 138 _ _ rfl lb #[.int .i64 (1), .int .i64 (0), .int .i64 (0), .int .i64 (0), .bool false, .bool false, .slice none 0 0, .slice none 0 0] rfl rfl _ _ PO.out fnode_info rfl (fnode_all _ _ _ _ _ _ _ _ _ _ _ _) ?_)
 generalize w1.setRow lb #[.int .i64 (1), .int .i64 (0), .int .i64 (0), .int .i64 (0), .bool false, .bool false, .slice none 0 0, .slice none 0 0] = w2 at HL ⊢
 clear hw1 PO
 go_wp2_with fail
 refine (sees_f rb pb sl n c src a false 94 0 w2 HL.out.rd).mono ?_
 rintro e w3 ⟨rfl, m3, rfl⟩
 rw [sees_one (by decide)]
 have HL3 := Lib.hid (HL.out.moved (touch_drewN (n := m3) (Touch.refl _ _)) (HL.out.rd.drewN m3))
 clear HL
 generalize w2.drewN m3 = w3 at HL3 ⊢
 obtain ⟨nt, hnt⟩ : ∃ nt, decide (pk src a 0 = 94) = nt := ⟨_, rfl⟩
 rw [hnt]
 have HNT := Lib.hid hnt
 clear hnt
 go_upto_if 9 with (fail)
 go_cut [] from 10 to 17 (fun wc => ∃ a1, a1 = (if nt = true then a + 1 else a) ∧ ClF w wc rb pb sl n c src lb a1 false nt none 0 0 [])
 case first =>
  cases nt with
  | true =>
   have h94 := of_decide_eq_true HNT.out
   have hlta : a < n := by
    unfold pk at h94
    split at h94 <;> omega
   clear h94
   have z5 : w3.cell? ⟨lb, 5, none⟩ = some (.bool false) := block_cell HL3.out.blk
   have g5 : w3.frozen? ⟨lb, 5, none⟩ = false := block_free HL3.out.blk
   have HL4 := Lib.hid (HL3.out.neg true)
   go_upto_region 4 with (fail)
   generalize w3.setCell ⟨lb, 5, none⟩ (.bool true) = w4 at HL4 ⊢
   clear z5 g5 HL3
   have b2 : w4.cell? ⟨rb, 2, none⟩ = some (.int .i64 a) := block_cell HL4.out.rd.blk
   have g2 : w4.frozen? ⟨rb, 2, none⟩ = false := block_free HL4.out.rd.blk
   have p3 : IntKind.i64.wrap ((a : Int) + 1) = (a : Int) + 1 := by rw [IntKind.wrap_i64]; omega
   have hs := HL4.out.moved (Touch.setCell (fun b => b = rb) w4 (p := ⟨rb, 2, none⟩) rfl (.int .i64 ((a + 1 : Nat) : Int))) (HL4.out.rd.step 1 (by omega))
   rw [show ((a + 1 : Nat) : Int) = (a : Int) + 1 from by omega] at hs
   have HS := Lib.hid hs
   clear hs
   go_wp2
   go_meet
   exact ⟨_, by simp, HS.out⟩
  | false =>
   go_wp2
   go_meet
   exact ⟨_, by simp, HL3.out⟩
 case rest =>
  obtain ⟨a1, ha1, hcl⟩ := hcut
  have HCL := Lib.hid hcl
  obtain ⟨R1, hR1⟩ : ∃ R1, classR src (src.length + 2) true [] [] ⟨a1, g⟩ = R1 := ⟨_, rfl⟩
  have e1 : (if decide (pk src a 0 = 94) = true then ({ at' := a + 1, groups := g } : RS) else ⟨a, g⟩) = ⟨a1, g⟩ := by
   rw [HNT.out, ha1]
   cases nt <;> rfl
  have hrr := HRR.out
  rw [e1, hR1, HNT.out] at hrr
  have HRC := Lib.hid hrr.symm
  have HR1 := Lib.hid hR1
  clear hcl HL3 e1 hR1 ha1 HNT hrr HRR
  go_wp2_with fail
  go_loopg [4] (n + 1 - a1) (fun gg fv wr => RelF w wr rb pb sl n c src lb g nt R1 gg fv)
  case atStart => exact ⟨a1, false, true, none, 0, 0, [], [], [], src.length + 2, rfl, HCL.out, rfl, .inl ⟨rfl, HR1.out, by omega, Nat.zero_le _⟩⟩
  case round =>
   clear HCL HR1
   obtain ⟨a, bad, first, si, m, ci, xs, rs, ks, f, rfl, hC, hg, hcase⟩ := hrel
   have HC := Lib.hid hC
   have hat := hC.rd.at'
   rcases hcase with ⟨rfl, hcr, hf, hm⟩ | ⟨rfl, hR1⟩
   ·
    obtain ⟨f, rfl⟩ : ∃ f', f = f' + 1 := ⟨f - 1, by omega⟩
    rw [classR_step] at hcr
    rw [if_neg Bool.false_ne_true] at hg
    have r3 : wr.cell? ⟨rb, 3, none⟩ = some (.bool false) := block_cell hC.rd.blk
    have r2 : wr.cell? ⟨rb, 2, none⟩ = some (.int .i64 a) := block_cell hC.rd.blk
    have r1 : wr.cell? ⟨rb, 1, none⟩ = some (.slice sl n c) := block_cell hC.rd.blk
    by_cases hlt : a < n
    ·
     obtain ⟨gb, off, hgs, c0⟩ := hC.rd.src.at (Below.refl _ _) hlt
     have hpk : pk src a 0 = gl src a := if_pos (by rw [hlen]; exact hlt)
     simp only at hcr
     rw [hpk] at hcr
     obtain ⟨x, hx⟩ : ∃ x, gl src a = x := ⟨_, rfl⟩
     rw [hx] at c0 hcr
     have HCR := Lib.hid hcr
     subst hgs
     have q1 : ¬ (n : Int) ≤ (a : Int) := by omega
     have q2 : (0 : Int) ≤ (a : Int) := by omega
     have q3 : (a : Int) < (n : Int) := by omega
     have p3 : IntKind.i64.wrap ((a : Int) + 1) = (a : Int) + 1 := by rw [IntKind.wrap_i64]; omega
     clear hC hpk hx hcr
     go_wp2_with fail
     go_quiet (fail)
     have HCq := Lib.hid (HC.out.moved (touch_drewN (n := nq) (Touch.refl _ _)) (HC.out.rd.drewN nq))
     have c0q : (wr.drewN nq).cell? ⟨gb, off + a, none⟩ = some (.int .i64 x) := c0
     clear HC r1 r2 r3 c0
     generalize wr.drewN nq = wr at HCq c0q ⊢
     have HC := HCq
     have c0 := c0q
     clear HCq c0q
     have r2 : wr.cell? ⟨rb, 2, none⟩ = some (.int .i64 a) := block_cell HC.out.rd.blk
     have r1 : wr.cell? ⟨rb, 1, none⟩ = some (.slice (some ⟨gb, off, none⟩) n c) := block_cell HC.out.rd.blk
     by_cases h93 : x = 93 ∧ first = false
     ·
      obtain ⟨rfl, rfl⟩ := h93
      have hr := HCR.out
      rw [if_pos ⟨rfl, rfl⟩] at hr
      subst hr
      have d1 : decide ((93 : Int) = 93) = true := rfl
      clear HCR
      go_wp2_with fail
      go_quiet (fail)
      have HC2 := Lib.hid ((HC.out.moved (touch_drewN (n := nq) (Touch.refl _ _)) (HC.out.rd.drewN nq)))
      clear HC r1 r2 c0
      generalize wr.drewN nq = w4 at HC2 ⊢
      have b2 : w4.cell? ⟨rb, 2, none⟩ = some (.int .i64 a) := block_cell HC2.out.rd.blk
      have g2 : w4.frozen? ⟨rb, 2, none⟩ = false := block_free HC2.out.rd.blk
      have hs := HC2.out.moved (Touch.setCell (fun b => b = rb) w4 (p := ⟨rb, 2, none⟩) rfl (.int .i64 ((a + 1 : Nat) : Int))) (HC2.out.rd.step 1 (by omega))
      rw [show ((a + 1 : Nat) : Int) = (a : Int) + 1 from by omega] at hs
      have HS := Lib.hid hs
      go_upto_region 11 with (fail)
      generalize w4.setCell ⟨rb, 2, none⟩ (.int .i64 ((a : Int) + 1)) = w5 at HS ⊢
      clear hs HC2 b2 g2
      have z0 : w5.cell? ⟨lb, 0, none⟩ = some (.int .i64 1) := block_cell HS.out.blk
      have z1 : w5.cell? ⟨lb, 1, none⟩ = some (.int .i64 0) := block_cell HS.out.blk
      have z2 : w5.cell? ⟨lb, 2, none⟩ = some (.int .i64 0) := block_cell HS.out.blk
      have z3 : w5.cell? ⟨lb, 3, none⟩ = some (.int .i64 0) := block_cell HS.out.blk
      have z4 : w5.cell? ⟨lb, 4, none⟩ = some (.bool false) := block_cell HS.out.blk
      have z5 : w5.cell? ⟨lb, 5, none⟩ = some (.bool nt) := block_cell HS.out.blk
      have z6 : w5.cell? ⟨lb, 6, none⟩ = some (.slice si m ci) := block_cell HS.out.blk
      have z7 : w5.cell? ⟨lb, 7, none⟩ = some (.slice none 0 0) := block_cell HS.out.blk
      have HND := Lib.hid (node_f w5 lo rb pb _ n c src ig (a + 1) false g nv N (H0.out.at_ HS.out.tch HS.out.rd) ⟨1, 0, 0, 0, false, nt, .slice si m ci, .slice none 0 0, []⟩ (KidF.none _ _ _ _ _ _ _ _ _) (by omega))
      have TT := Lib.hid HS.out.tch
      clear HS
      go_wp2_with fail
      refine HND.out.mono ?_
      rintro e w9 ⟨rfl, nv', hmv, hr9⟩
      have HMV := Lib.hid ((Mv.of (nv := nv) (pb := pb) TT.out).trans hmv)
      have HR9 := Lib.hid hr9
      clear hmv hr9 HND TT
      go_wp2
      go_ret
      rw [HRC.out]
      exact NdP.one HMV.out HR9.out (kge_none rfl) (trN_set rfl rfl) (Nat.le_refl _)
     ·
      have HSG := Lib.hid (show clsB src f rs ks (signP src ⟨a, g⟩) = R1 from by rw [← HCR.out, if_neg (fun hh => h93 ⟨hh.2, hh.1⟩)])
      have hd : (decide (x = 93) && !first) = false := by
       cases first
       · simpa using h93
       · simp
      have HH := Lib.hid (show (x = 93 ∧ first = true) ∨ (¬ x = 93) from by
       by_cases hx : x = 93
       · exact .inl ⟨hx, by cases first; exact absurd ⟨hx, rfl⟩ h93; rfl⟩
       · exact .inr hx)
      clear HCR h93 hd
      go_upto_region 9 with (fail)
      go_cut [53] from 39 to 53 (fun v wc => v = .bool false ∧ ClF w wc rb pb (some ⟨gb, off, none⟩) n c src lb a false nt si m ci xs)
      case first =>
       rcases HH.out with ⟨rfl, rfl⟩ | hx93
       ·
        clear HH
        go_wp2_with fail
        go_quiet (fail)
        have HC2 := HC.out.moved (touch_drewN (n := nq) (Touch.refl _ _)) (HC.out.rd.drewN nq)
        go_wp2
        go_meet
        exact ⟨rfl, HC2⟩
       ·
        have hxb : (x == 93) = false := by simp [hx93]
        clear HH
        go_wp2_with fail
        go_quiet (fail)
        have HC2 := HC.out.moved (touch_drewN (n := nq) (Touch.refl _ _)) (HC.out.rd.drewN nq)
        go_wp2
        go_meet
        exact ⟨rfl, HC2⟩
      case rest =>
       obtain ⟨rfl, hcl⟩ := hcut
       have HC2 := Lib.hid hcl
       clear hcl HC HH r1 r2 c0 q1 q2 q3 p3
       go_wp2_with fail
       have hltP : a < n := hlt
       refine (sign_f rb pb _ n c src ⟨a, g⟩ wc HC2.out.rd hltP).mono ?_
       rintro e w3 ⟨t3, h3⟩
       have hsg := HSG.out
       cases hs : signP src ⟨a, g⟩ with
       | error k =>
        rw [hs] at h3 hsg
        obtain ⟨⟨v, rfl, x, y, z, bo, rfl⟩, f3⟩ := h3
        have HRB := Lib.hid (show R1 = .error k from hsg.symm)
        have F3 := Lib.hid f3
        have HC3 := Lib.hid (HC2.out.moved t3 f3)
        clear HSG hsg hs f3 t3 HC2
        cases bo with
        | true =>
         go_upto_region 14 with (refine wpList_store_row rfl 153 _ _ rfl w3.heap.size #[.int .i64 (x), .int .i64 (y), .int .i64 (z)] rfl rfl _ _ (one_new w3 (.cells #[.int .i64 0, .int .i64 0, .int .i64 0] 153)) it_info rfl (it_all _ _ _) ?_)
         have nb := (below_newJ w3 (.cells #[.int .i64 0, .int .i64 0, .int .i64 0] 153)).trans (row_belowg (w := w3.alloc (.cells #[.int .i64 0, .int .i64 0, .int .i64 0] 153)) (g := w3.heap.size) #[.int .i64 (x), .int .i64 (y), .int .i64 (z)] (Nat.le_refl _))
         have n5 := row_setg #[.int .i64 (x), .int .i64 (y), .int .i64 (z)] (one_new w3 (.cells #[.int .i64 0, .int .i64 0, .int .i64 0] 153))
         change Code.wp _ _ _ _ ((w3.alloc (.cells #[.int .i64 0, .int .i64 0, .int .i64 0] 153)).setRow w3.heap.size #[.int .i64 (x), .int .i64 (y), .int .i64 (z)])
         generalize (w3.alloc (.cells #[.int .i64 0, .int .i64 0, .int .i64 0] 153)).setRow w3.heap.size #[.int .i64 (x), .int .i64 (y), .int .i64 (z)] = w5 at nb n5 ⊢
         have F5 := Lib.hid (F3.out.later nb)
         have HC5 := Lib.hid (HC3.out.moved (Touch.of nb) F5.out)
         obtain ⟨ib, hib⟩ : ∃ ib, w3.heap.size = ib := ⟨_, rfl⟩
         rw [hib] at n5 ⊢
         have IBW := Lib.hid (show w.heap.size ≤ ib from by have := HC3.out.lts; omega)
         have OIB := Lib.hid (show ∀ b, (Value.slice si m ci).ownBlock = some b → b < ib from fun b hb => by have := (World.ownsRow.lt HC3.out.own b hb).2; omega)
         have LIB := Lib.hid (show lb < ib from by have := heap_lt HC3.out.blk; omega)
         have I5 := Lib.hid n5
         have hifr : rb < ib := Nat.lt_of_lt_of_le RBW.out IBW.out
         clear nb n5 hib
         have r3 : w5.cell? ⟨rb, 3, none⟩ = some (.bool true) := block_cell F5.out.blk
         have r2 : w5.cell? ⟨rb, 2, none⟩ = some (.int .i64 k) := block_cell F5.out.blk
         have r1 : w5.cell? ⟨rb, 1, none⟩ = some (.slice (some ⟨gb, off, none⟩) n c) := block_cell F5.out.blk
         clear HC3 F3
         go_wp2_with fail
         go_quiet (fail)
         have HC6 := Lib.hid (HC5.out.moved (touch_drewN (n := nq) (Touch.refl _ _)) (F5.out.drewN nq))
         have I6 := Lib.hid (show (w5.drewN nq).heap[ib]? = _ from I5.out)
         have F6 := Lib.hid (F5.out.drewN nq)
         clear HC5 I5 F5 r1 r2 r3
         generalize w5.drewN nq = w6 at HC6 I6 F6 ⊢
         have x0 : w6.cell? ⟨ib, 0, none⟩ = some (.int .i64 (x)) := block_cell I6.out
         have x1 : w6.cell? ⟨ib, 1, none⟩ = some (.int .i64 (y)) := block_cell I6.out
         have x2 : w6.cell? ⟨ib, 2, none⟩ = some (.int .i64 (z)) := block_cell I6.out
         have l6 : w6.cell? ⟨lb, 6, none⟩ = some (.slice si m ci) := block_cell HC6.out.blk
         have hsz := HC6.out.szl
         go_wp2_with (first | (at_builtin; refine wpList_push_g Tryd.underlying136 Tryd.infoItemF rfl (by decide) (by decide) [.int .i64 (x), .int .i64 (y), .int .i64 (z)] (by intro u hu; simp only [List.mem_cons, List.not_mem_nil, or_false] at hu; rcases hu with rfl | rfl | rfl <;> rfl) rfl rfl _ _ rfl w.heap.size (.slice si m ci) m xs rfl rfl HC6.out.own (by omega) (by omega) ?_; intro s' c' w8 hp; have HC8 := Lib.hid (HC6.out.push hp); have c4 := hp.2.2.1 _ _ _ HC6.out.blk (by decide); have c3 : w8.cell? ⟨lb, 6, none⟩ = some (.slice si m ci) := block_cell c4; have f3 : w8.frozen? ⟨lb, 6, none⟩ = false := block_free c4; clear hp c4))
         generalize w8.setCell ⟨lb, 6, none⟩ (.slice s' (m + 1) c') = w9 at HC8 ⊢
         go_roundg 0
         case measure => omega
         case rel => exact ⟨k, true, false, _, _, _, _, [], [], 0, rfl, HC8.out, rfl, .inr ⟨rfl, HRB.out⟩⟩
        | false =>
         go_upto_region 14 with (refine wpList_store_row rfl 153 _ _ rfl w3.heap.size #[.int .i64 (x), .int .i64 (y), .int .i64 (z)] rfl rfl _ _ (one_new w3 (.cells #[.int .i64 0, .int .i64 0, .int .i64 0] 153)) it_info rfl (it_all _ _ _) ?_)
         have nb := (below_newJ w3 (.cells #[.int .i64 0, .int .i64 0, .int .i64 0] 153)).trans (row_belowg (w := w3.alloc (.cells #[.int .i64 0, .int .i64 0, .int .i64 0] 153)) (g := w3.heap.size) #[.int .i64 (x), .int .i64 (y), .int .i64 (z)] (Nat.le_refl _))
         have n5 := row_setg #[.int .i64 (x), .int .i64 (y), .int .i64 (z)] (one_new w3 (.cells #[.int .i64 0, .int .i64 0, .int .i64 0] 153))
         change Code.wp _ _ _ _ ((w3.alloc (.cells #[.int .i64 0, .int .i64 0, .int .i64 0] 153)).setRow w3.heap.size #[.int .i64 (x), .int .i64 (y), .int .i64 (z)])
         generalize (w3.alloc (.cells #[.int .i64 0, .int .i64 0, .int .i64 0] 153)).setRow w3.heap.size #[.int .i64 (x), .int .i64 (y), .int .i64 (z)] = w5 at nb n5 ⊢
         have F5 := Lib.hid (F3.out.later nb)
         have HC5 := Lib.hid (HC3.out.moved (Touch.of nb) F5.out)
         obtain ⟨ib, hib⟩ : ∃ ib, w3.heap.size = ib := ⟨_, rfl⟩
         rw [hib] at n5 ⊢
         have IBW := Lib.hid (show w.heap.size ≤ ib from by have := HC3.out.lts; omega)
         have OIB := Lib.hid (show ∀ b, (Value.slice si m ci).ownBlock = some b → b < ib from fun b hb => by have := (World.ownsRow.lt HC3.out.own b hb).2; omega)
         have LIB := Lib.hid (show lb < ib from by have := heap_lt HC3.out.blk; omega)
         have I5 := Lib.hid n5
         have hifr : rb < ib := Nat.lt_of_lt_of_le RBW.out IBW.out
         clear nb n5 hib
         have r3 : w5.cell? ⟨rb, 3, none⟩ = some (.bool true) := block_cell F5.out.blk
         have r2 : w5.cell? ⟨rb, 2, none⟩ = some (.int .i64 k) := block_cell F5.out.blk
         have r1 : w5.cell? ⟨rb, 1, none⟩ = some (.slice (some ⟨gb, off, none⟩) n c) := block_cell F5.out.blk
         clear HC3 F3
         go_wp2_with fail
         go_quiet (fail)
         have HC6 := Lib.hid (HC5.out.moved (touch_drewN (n := nq) (Touch.refl _ _)) (F5.out.drewN nq))
         have I6 := Lib.hid (show (w5.drewN nq).heap[ib]? = _ from I5.out)
         have F6 := Lib.hid (F5.out.drewN nq)
         clear HC5 I5 F5 r1 r2 r3
         generalize w5.drewN nq = w6 at HC6 I6 F6 ⊢
         have x0 : w6.cell? ⟨ib, 0, none⟩ = some (.int .i64 (x)) := block_cell I6.out
         have x1 : w6.cell? ⟨ib, 1, none⟩ = some (.int .i64 (y)) := block_cell I6.out
         have x2 : w6.cell? ⟨ib, 2, none⟩ = some (.int .i64 (z)) := block_cell I6.out
         have l6 : w6.cell? ⟨lb, 6, none⟩ = some (.slice si m ci) := block_cell HC6.out.blk
         have hsz := HC6.out.szl
         go_wp2_with (first | (at_builtin; refine wpList_push_g Tryd.underlying136 Tryd.infoItemF rfl (by decide) (by decide) [.int .i64 (x), .int .i64 (y), .int .i64 (z)] (by intro u hu; simp only [List.mem_cons, List.not_mem_nil, or_false] at hu; rcases hu with rfl | rfl | rfl <;> rfl) rfl rfl _ _ rfl w.heap.size (.slice si m ci) m xs rfl rfl HC6.out.own (by omega) (by omega) ?_; intro s' c' w8 hp; have HC8 := Lib.hid (HC6.out.push hp); have c4 := hp.2.2.1 _ _ _ HC6.out.blk (by decide); have c3 : w8.cell? ⟨lb, 6, none⟩ = some (.slice si m ci) := block_cell c4; have f3 : w8.frozen? ⟨lb, 6, none⟩ = false := block_free c4; clear hp c4))
         generalize w8.setCell ⟨lb, 6, none⟩ (.slice s' (m + 1) c') = w9 at HC8 ⊢
         go_roundg 0
         case measure => omega
         case rel => exact ⟨k, true, false, _, _, _, _, [], [], 0, rfl, HC8.out, rfl, .inr ⟨rfl, HRB.out⟩⟩
       | ok r =>
        obtain ⟨⟨lo', o⟩, s3⟩ := r
        rw [hs] at h3 hsg
        obtain ⟨⟨v, rfl, hv⟩, f3⟩ := h3
        have hat3 := sign_at hs
        have hg3 := (sign_more hs).2
        obtain ⟨a3, g3⟩ := s3
        simp only at hat3 hg3 f3
        subst hg3
        obtain rfl := hv
        have F3 := Lib.hid f3
        have hat4 := f3.at'
        have HC3 := Lib.hid (HC2.out.moved t3 f3)
        clear HSG hs f3 t3 HC2
        cases o with
        | some kk =>
         rw [show itV (lo', some kk) = .tuple #[.agg #[.int .i64 kk, .int .i64 0, .int .i64 0], .bool false] from rfl]
         have HRG := Lib.hid (show classR src f false rs (ks ++ [kk]) ⟨a3, g3⟩ = R1 from hsg)
         clear hsg
         go_upto_region 14 with (refine wpList_store_row rfl 153 _ _ rfl w3.heap.size #[.int .i64 (kk), .int .i64 (0), .int .i64 (0)] rfl rfl _ _ (one_new w3 (.cells #[.int .i64 0, .int .i64 0, .int .i64 0] 153)) it_info rfl (it_all _ _ _) ?_)
         have nb := (below_newJ w3 (.cells #[.int .i64 0, .int .i64 0, .int .i64 0] 153)).trans (row_belowg (w := w3.alloc (.cells #[.int .i64 0, .int .i64 0, .int .i64 0] 153)) (g := w3.heap.size) #[.int .i64 (kk), .int .i64 (0), .int .i64 (0)] (Nat.le_refl _))
         have n5 := row_setg #[.int .i64 (kk), .int .i64 (0), .int .i64 (0)] (one_new w3 (.cells #[.int .i64 0, .int .i64 0, .int .i64 0] 153))
         change Code.wp _ _ _ _ ((w3.alloc (.cells #[.int .i64 0, .int .i64 0, .int .i64 0] 153)).setRow w3.heap.size #[.int .i64 (kk), .int .i64 (0), .int .i64 (0)])
         generalize (w3.alloc (.cells #[.int .i64 0, .int .i64 0, .int .i64 0] 153)).setRow w3.heap.size #[.int .i64 (kk), .int .i64 (0), .int .i64 (0)] = w5 at nb n5 ⊢
         have F5 := Lib.hid (F3.out.later nb)
         have HC5 := Lib.hid (HC3.out.moved (Touch.of nb) F5.out)
         obtain ⟨ib, hib⟩ : ∃ ib, w3.heap.size = ib := ⟨_, rfl⟩
         rw [hib] at n5 ⊢
         have IBW := Lib.hid (show w.heap.size ≤ ib from by have := HC3.out.lts; omega)
         have OIB := Lib.hid (show ∀ b, (Value.slice si m ci).ownBlock = some b → b < ib from fun b hb => by have := (World.ownsRow.lt HC3.out.own b hb).2; omega)
         have LIB := Lib.hid (show lb < ib from by have := heap_lt HC3.out.blk; omega)
         have I5 := Lib.hid n5
         have hifr : rb < ib := Nat.lt_of_lt_of_le RBW.out IBW.out
         clear nb n5 hib
         have r3 : w5.cell? ⟨rb, 3, none⟩ = some (.bool false) := block_cell F5.out.blk
         have r2 : w5.cell? ⟨rb, 2, none⟩ = some (.int .i64 a3) := block_cell F5.out.blk
         have r1 : w5.cell? ⟨rb, 1, none⟩ = some (.slice (some ⟨gb, off, none⟩) n c) := block_cell F5.out.blk
         clear HC3 F3
         go_wp2_with fail
         go_quiet (fail)
         have HC6 := Lib.hid (HC5.out.moved (touch_drewN (n := nq) (Touch.refl _ _)) (F5.out.drewN nq))
         have I6 := Lib.hid (show (w5.drewN nq).heap[ib]? = _ from I5.out)
         have F6 := Lib.hid (F5.out.drewN nq)
         clear HC5 I5 F5 r1 r2 r3
         generalize w5.drewN nq = w6 at HC6 I6 F6 ⊢
         have x0 : w6.cell? ⟨ib, 0, none⟩ = some (.int .i64 (kk)) := block_cell I6.out
         have x1 : w6.cell? ⟨ib, 1, none⟩ = some (.int .i64 (0)) := block_cell I6.out
         have x2 : w6.cell? ⟨ib, 2, none⟩ = some (.int .i64 (0)) := block_cell I6.out
         have l6 : w6.cell? ⟨lb, 6, none⟩ = some (.slice si m ci) := block_cell HC6.out.blk
         have hsz := HC6.out.szl
         go_wp2_with (first | (at_builtin; refine wpList_push_g Tryd.underlying136 Tryd.infoItemF rfl (by decide) (by decide) [.int .i64 (kk), .int .i64 (0), .int .i64 (0)] (by intro u hu; simp only [List.mem_cons, List.not_mem_nil, or_false] at hu; rcases hu with rfl | rfl | rfl <;> rfl) rfl rfl _ _ rfl w.heap.size (.slice si m ci) m xs rfl rfl HC6.out.own (by omega) (by omega) ?_; intro s' c' w8 hp; have HC8 := Lib.hid (HC6.out.push hp); have c4 := hp.2.2.1 _ _ _ HC6.out.blk (by decide); have c3 : w8.cell? ⟨lb, 6, none⟩ = some (.slice si m ci) := block_cell c4; have f3 : w8.frozen? ⟨lb, 6, none⟩ = false := block_free c4; clear hp c4))
         generalize w8.setCell ⟨lb, 6, none⟩ (.slice s' (m + 1) c') = w9 at HC8 ⊢
         go_roundg (n + 1 - a3)
         case measure => omega
         case rel => exact ⟨a3, false, false, _, _, _, _, rs, (ks ++ [kk]), f, rfl, HC8.out, rfl, .inl ⟨rfl, HRG.out, by omega, by omega⟩⟩
        | none =>
         rw [show itV (lo', none) = .tuple #[.agg #[.int .i64 0, .int .i64 lo', .int .i64 lo'], .bool true] from rfl]
         have HRN := Lib.hid (show (if pk src a3 0 = 45 ∧ a3 + 1 < src.length ∧ pk src a3 1 ≠ 93 then clsH src f rs ks lo' (signP src ⟨a3 + 1, g3⟩) else classR src f false (rs ++ [(lo', lo')]) ks ⟨a3, g3⟩) = R1 from hsg)
         clear hsg
         go_upto_region 14 with (refine wpList_store_row rfl 153 _ _ rfl w3.heap.size #[.int .i64 (0), .int .i64 (lo'), .int .i64 (lo')] rfl rfl _ _ (one_new w3 (.cells #[.int .i64 0, .int .i64 0, .int .i64 0] 153)) it_info rfl (it_all _ _ _) ?_)
         have nb := (below_newJ w3 (.cells #[.int .i64 0, .int .i64 0, .int .i64 0] 153)).trans (row_belowg (w := w3.alloc (.cells #[.int .i64 0, .int .i64 0, .int .i64 0] 153)) (g := w3.heap.size) #[.int .i64 (0), .int .i64 (lo'), .int .i64 (lo')] (Nat.le_refl _))
         have n5 := row_setg #[.int .i64 (0), .int .i64 (lo'), .int .i64 (lo')] (one_new w3 (.cells #[.int .i64 0, .int .i64 0, .int .i64 0] 153))
         change Code.wp _ _ _ _ ((w3.alloc (.cells #[.int .i64 0, .int .i64 0, .int .i64 0] 153)).setRow w3.heap.size #[.int .i64 (0), .int .i64 (lo'), .int .i64 (lo')])
         generalize (w3.alloc (.cells #[.int .i64 0, .int .i64 0, .int .i64 0] 153)).setRow w3.heap.size #[.int .i64 (0), .int .i64 (lo'), .int .i64 (lo')] = w5 at nb n5 ⊢
         have F5 := Lib.hid (F3.out.later nb)
         have HC5 := Lib.hid (HC3.out.moved (Touch.of nb) F5.out)
         obtain ⟨ib, hib⟩ : ∃ ib, w3.heap.size = ib := ⟨_, rfl⟩
         rw [hib] at n5 ⊢
         have IBW := Lib.hid (show w.heap.size ≤ ib from by have := HC3.out.lts; omega)
         have OIB := Lib.hid (show ∀ b, (Value.slice si m ci).ownBlock = some b → b < ib from fun b hb => by have := (World.ownsRow.lt HC3.out.own b hb).2; omega)
         have LIB := Lib.hid (show lb < ib from by have := heap_lt HC3.out.blk; omega)
         have I5 := Lib.hid n5
         have hifr : rb < ib := Nat.lt_of_lt_of_le RBW.out IBW.out
         clear nb n5 hib
         have r3 : w5.cell? ⟨rb, 3, none⟩ = some (.bool false) := block_cell F5.out.blk
         have r2 : w5.cell? ⟨rb, 2, none⟩ = some (.int .i64 a3) := block_cell F5.out.blk
         have r1 : w5.cell? ⟨rb, 1, none⟩ = some (.slice (some ⟨gb, off, none⟩) n c) := block_cell F5.out.blk
         clear HC3 F3
         have HS := Lib.hid (fun m => by
          have hh := sees_f rb pb (some ⟨gb, off, none⟩) n c src a3 false 45 0 (w5.drewN m) (F5.out.drewN m)
          rw [sees_one (by decide)] at hh
          exact hh)
         by_cases h45 : pk src a3 0 = 45
         ·
          rw [decide_eq_true h45] at HS
          have hlt3 : a3 < n := by
           unfold pk at h45
           split at h45 <;> omega
          have p4 : IntKind.i64.wrap ((a3 : Int) + 1) = (a3 : Int) + 1 := by rw [IntKind.wrap_i64]; omega
          by_cases hlt4 : a3 + 1 < n
          ·
           have c1 : w5.cell? ⟨gb, off + (a3 + 1), none⟩ = some (.int .i64 (gl src (a3 + 1))) := by
            rcases F5.out.src with h0 | ⟨b', o', e, hb', hc'⟩
            · omega
            ·
             cases e
             exact hc' (a3 + 1) hlt4
           have hpk1 : pk src a3 1 = gl src (a3 + 1) := if_pos (by rw [hlen]; exact hlt4)
           rw [hpk1, hlen] at HRN
           obtain ⟨y, hy⟩ : ∃ y, gl src (a3 + 1) = y := ⟨_, rfl⟩
           rw [hy] at c1 HRN
           obtain ⟨a4, ha4⟩ : ∃ a4, a3 + 1 = a4 := ⟨_, rfl⟩
           rw [ha4] at c1
           have p5 : IntKind.i64.wrap ((a3 : Int) + 1) = (a4 : Int) := by rw [p4]; omega
           have q5 : ((a4 : Nat) : Int) < (n : Int) := by omega
           have q6 : (0 : Int) ≤ ((a4 : Nat) : Int) := by omega
           have HP4 := Lib.hid p4
           have HA4 := Lib.hid ha4
           have HLT4 := Lib.hid hlt4
           clear hpk1 hy p4 ha4
           by_cases h93b : y = 93
           ·
            subst h93b
            have HRG := Lib.hid (show classR src f false (rs ++ [(lo', lo')]) ks ⟨a3, g3⟩ = R1 from by rw [← HRN.out, if_neg (fun hh => hh.2.2 rfl)])
            clear HRN
            go_wp2_with fail
            go_quiet (first | (go_at_call 66; first | with_reducible exact Calls.quiet_of (HS.out _)))
            have HC6 := Lib.hid (HC5.out.moved (touch_drewN (n := nq) (Touch.refl _ _)) (F5.out.drewN nq))
            have I6 := Lib.hid (show (w5.drewN nq).heap[ib]? = _ from I5.out)
            have F6 := Lib.hid (F5.out.drewN nq)
            clear HS c1 p5 HC5 I5 F5 r1 r2 r3
            generalize w5.drewN nq = w6 at HC6 I6 F6 ⊢
            have x0 : w6.cell? ⟨ib, 0, none⟩ = some (.int .i64 (0)) := block_cell I6.out
            have x1 : w6.cell? ⟨ib, 1, none⟩ = some (.int .i64 (lo')) := block_cell I6.out
            have x2 : w6.cell? ⟨ib, 2, none⟩ = some (.int .i64 (lo')) := block_cell I6.out
            have l6 : w6.cell? ⟨lb, 6, none⟩ = some (.slice si m ci) := block_cell HC6.out.blk
            have hsz := HC6.out.szl
            go_wp2_with (first | (at_builtin; refine wpList_push_g Tryd.underlying136 Tryd.infoItemF rfl (by decide) (by decide) [.int .i64 (0), .int .i64 (lo'), .int .i64 (lo')] (by intro u hu; simp only [List.mem_cons, List.not_mem_nil, or_false] at hu; rcases hu with rfl | rfl | rfl <;> rfl) rfl rfl _ _ rfl w.heap.size (.slice si m ci) m xs rfl rfl HC6.out.own (by omega) (by omega) ?_; intro s' c' w8 hp; have HC8 := Lib.hid (HC6.out.push hp); have c4 := hp.2.2.1 _ _ _ HC6.out.blk (by decide); have c3 : w8.cell? ⟨lb, 6, none⟩ = some (.slice si m ci) := block_cell c4; have f3 : w8.frozen? ⟨lb, 6, none⟩ = false := block_free c4; clear hp c4))
            generalize w8.setCell ⟨lb, 6, none⟩ (.slice s' (m + 1) c') = w9 at HC8 ⊢
            go_roundg (n + 1 - a3)
            case measure => omega
            case rel => exact ⟨a3, false, false, _, _, _, _, (rs ++ [(lo', lo')]), ks, f, rfl, HC8.out, rfl, .inl ⟨rfl, HRG.out, by omega, by omega⟩⟩
           ·
            have HRH := Lib.hid (show clsH src f rs ks lo' (signP src ⟨a3 + 1, g3⟩) = R1 from by rw [← HRN.out, if_pos ⟨h45, HLT4.out, h93b⟩])
            have hne : (y != 93) = true := by simp [h93b]
            clear HRN
            go_wp2_with fail
            go_quiet (first | (go_at_call 66; first | with_reducible exact Calls.quiet_of (HS.out _)))
            have HC6 := Lib.hid (HC5.out.moved (touch_drewN (n := nq) (Touch.refl _ _)) (F5.out.drewN nq))
            have I6 := Lib.hid (show (w5.drewN nq).heap[ib]? = _ from I5.out)
            have F6 := Lib.hid (F5.out.drewN nq)
            clear HS c1 p5 HC5 I5 F5 r1 r2 r3
            generalize w5.drewN nq = w6 at HC6 I6 F6 ⊢
            have x0 : w6.cell? ⟨ib, 0, none⟩ = some (.int .i64 0) := block_cell I6.out
            have x1 : w6.cell? ⟨ib, 1, none⟩ = some (.int .i64 lo') := block_cell I6.out
            have x2 : w6.cell? ⟨ib, 2, none⟩ = some (.int .i64 lo') := block_cell I6.out
            go_wp2_with fail
            refine (stretch_f rb pb (some ⟨gb, off, none⟩) n c src ⟨a3, g3⟩ lo' w6 F6.out HLT4.out).mono ?_
            rintro e w7 ⟨t7, h7⟩
            have I7 := (t7.block ib (heap_lt I6.out) (by show ¬ ib = rb; omega)).trans I6.out
            cases hst : strP src lo' ⟨a3, g3⟩ with
            | error k =>
             rw [hst] at h7
             obtain ⟨⟨v, rfl, x, y2, z, rfl⟩, f7⟩ := h7
             have HRB := Lib.hid (show R1 = .error k from by rw [← HRH.out]; exact str_err hst)
             clear HRH
             have HC7 := Lib.hid (HC6.out.moved t7 f7)
             have F7 := Lib.hid f7
             have J7 := Lib.hid I7
             clear t7 f7 I7 x0 x1 x2 HC6 I6 F6 hst
             go_upto_region 16 with (refine wpList_store_row rfl 153 _ _ rfl ib #[.int .i64 (x), .int .i64 (y2), .int .i64 (z)] rfl rfl _ _ J7.out it_info rfl (it_all _ _ _) ?_)
             have hb8 : Below ib w7 (w7.setRow ib #[.int .i64 (x), .int .i64 (y2), .int .i64 (z)]) := row_belowg _ (Nat.le_refl _)
             have HC8 := Lib.hid (HC7.out.row hb8 IBW.out LIB.out OIB.out)
             have J8 := Lib.hid (row_setg #[.int .i64 (x), .int .i64 (y2), .int .i64 (z)] J7.out)
             generalize w7.setRow ib #[.int .i64 (x), .int .i64 (y2), .int .i64 (z)] = wq at HC8 J8 ⊢
             clear hb8 HC7 J7 F7
             have x0 : wq.cell? ⟨ib, 0, none⟩ = some (.int .i64 (x)) := block_cell J8.out
             have x1 : wq.cell? ⟨ib, 1, none⟩ = some (.int .i64 (y2)) := block_cell J8.out
             have x2 : wq.cell? ⟨ib, 2, none⟩ = some (.int .i64 (z)) := block_cell J8.out
             have l6 : wq.cell? ⟨lb, 6, none⟩ = some (.slice si m ci) := block_cell HC8.out.blk
             have hsz := HC8.out.szl
             go_wp2_with (first | (at_builtin; refine wpList_push_g Tryd.underlying136 Tryd.infoItemF rfl (by decide) (by decide) [.int .i64 (x), .int .i64 (y2), .int .i64 (z)] (by intro u hu; simp only [List.mem_cons, List.not_mem_nil, or_false] at hu; rcases hu with rfl | rfl | rfl <;> rfl) rfl rfl _ _ rfl w.heap.size (.slice si m ci) m xs rfl rfl HC8.out.own (by omega) (by omega) ?_; intro s' c' w8 hp; have HC9 := Lib.hid (HC8.out.push hp); have c4 := hp.2.2.1 _ _ _ HC8.out.blk (by decide); have c3 : w8.cell? ⟨lb, 6, none⟩ = some (.slice si m ci) := block_cell c4; have f3 : w8.frozen? ⟨lb, 6, none⟩ = false := block_free c4; clear hp c4))
             generalize w8.setCell ⟨lb, 6, none⟩ (.slice s' (m + 1) c') = w9 at HC9 ⊢
             go_roundg 0
             case measure => omega
             case rel => exact ⟨k, true, false, _, _, _, _, [], [], 0, rfl, HC9.out, rfl, .inr ⟨rfl, HRB.out⟩⟩
            | ok r =>
             obtain ⟨u, s7⟩ := r
             rw [hst] at h7
             obtain ⟨⟨v, rfl, x, y2, z, rfl⟩, f7⟩ := h7
             obtain ⟨rs7, hr7, hat7, hg7⟩ := str_ok hst HRH.out
             obtain ⟨a7, g7⟩ := s7
             simp only at hg7 hat7 f7
             subst hg7
             have HRG := Lib.hid hr7
             clear HRH
             have HC7 := Lib.hid (HC6.out.moved t7 f7)
             have F7 := Lib.hid f7
             have J7 := Lib.hid I7
             clear t7 f7 I7 x0 x1 x2 HC6 I6 F6 hst hr7
             have hat8 := F7.out.at'
             go_upto_region 16 with (refine wpList_store_row rfl 153 _ _ rfl ib #[.int .i64 (x), .int .i64 (y2), .int .i64 (z)] rfl rfl _ _ J7.out it_info rfl (it_all _ _ _) ?_)
             have hb8 : Below ib w7 (w7.setRow ib #[.int .i64 (x), .int .i64 (y2), .int .i64 (z)]) := row_belowg _ (Nat.le_refl _)
             have HC8 := Lib.hid (HC7.out.row hb8 IBW.out LIB.out OIB.out)
             have J8 := Lib.hid (row_setg #[.int .i64 (x), .int .i64 (y2), .int .i64 (z)] J7.out)
             generalize w7.setRow ib #[.int .i64 (x), .int .i64 (y2), .int .i64 (z)] = wq at HC8 J8 ⊢
             clear hb8 HC7 J7 F7
             have x0 : wq.cell? ⟨ib, 0, none⟩ = some (.int .i64 (x)) := block_cell J8.out
             have x1 : wq.cell? ⟨ib, 1, none⟩ = some (.int .i64 (y2)) := block_cell J8.out
             have x2 : wq.cell? ⟨ib, 2, none⟩ = some (.int .i64 (z)) := block_cell J8.out
             have l6 : wq.cell? ⟨lb, 6, none⟩ = some (.slice si m ci) := block_cell HC8.out.blk
             have hsz := HC8.out.szl
             go_wp2_with (first | (at_builtin; refine wpList_push_g Tryd.underlying136 Tryd.infoItemF rfl (by decide) (by decide) [.int .i64 (x), .int .i64 (y2), .int .i64 (z)] (by intro u hu; simp only [List.mem_cons, List.not_mem_nil, or_false] at hu; rcases hu with rfl | rfl | rfl <;> rfl) rfl rfl _ _ rfl w.heap.size (.slice si m ci) m xs rfl rfl HC8.out.own (by omega) (by omega) ?_; intro s' c' w8 hp; have HC9 := Lib.hid (HC8.out.push hp); have c4 := hp.2.2.1 _ _ _ HC8.out.blk (by decide); have c3 : w8.cell? ⟨lb, 6, none⟩ = some (.slice si m ci) := block_cell c4; have f3 : w8.frozen? ⟨lb, 6, none⟩ = false := block_free c4; clear hp c4))
             generalize w8.setCell ⟨lb, 6, none⟩ (.slice s' (m + 1) c') = w9 at HC9 ⊢
             go_roundg (n + 1 - a7)
             case measure => omega
             case rel => exact ⟨a7, false, false, _, _, _, _, rs7, ks, f, rfl, HC9.out, rfl, .inl ⟨rfl, HRG.out, by omega, by omega⟩⟩
          ·
           have HRG := Lib.hid (show classR src f false (rs ++ [(lo', lo')]) ks ⟨a3, g3⟩ = R1 from by rw [← HRN.out, if_neg (fun hh => by have := hh.2.1; omega)])
           have q5 : ¬ ((a3 : Int) + 1) < (n : Int) := by omega
           have q6 : decide (((a3 : Int) + 1) < (n : Int)) = false := decide_eq_false q5
           clear HRN
           go_wp2_with fail
           go_quiet (first | (go_at_call 66; first | with_reducible exact Calls.quiet_of (HS.out _)))
           have HC6 := Lib.hid (HC5.out.moved (touch_drewN (n := nq) (Touch.refl _ _)) (F5.out.drewN nq))
           have I6 := Lib.hid (show (w5.drewN nq).heap[ib]? = _ from I5.out)
           have F6 := Lib.hid (F5.out.drewN nq)
           clear HS HC5 I5 F5 r1 r2 r3
           generalize w5.drewN nq = w6 at HC6 I6 F6 ⊢
           have x0 : w6.cell? ⟨ib, 0, none⟩ = some (.int .i64 (0)) := block_cell I6.out
           have x1 : w6.cell? ⟨ib, 1, none⟩ = some (.int .i64 (lo')) := block_cell I6.out
           have x2 : w6.cell? ⟨ib, 2, none⟩ = some (.int .i64 (lo')) := block_cell I6.out
           have l6 : w6.cell? ⟨lb, 6, none⟩ = some (.slice si m ci) := block_cell HC6.out.blk
           have hsz := HC6.out.szl
           go_wp2_with (first | (at_builtin; refine wpList_push_g Tryd.underlying136 Tryd.infoItemF rfl (by decide) (by decide) [.int .i64 (0), .int .i64 (lo'), .int .i64 (lo')] (by intro u hu; simp only [List.mem_cons, List.not_mem_nil, or_false] at hu; rcases hu with rfl | rfl | rfl <;> rfl) rfl rfl _ _ rfl w.heap.size (.slice si m ci) m xs rfl rfl HC6.out.own (by omega) (by omega) ?_; intro s' c' w8 hp; have HC8 := Lib.hid (HC6.out.push hp); have c4 := hp.2.2.1 _ _ _ HC6.out.blk (by decide); have c3 : w8.cell? ⟨lb, 6, none⟩ = some (.slice si m ci) := block_cell c4; have f3 : w8.frozen? ⟨lb, 6, none⟩ = false := block_free c4; clear hp c4))
           generalize w8.setCell ⟨lb, 6, none⟩ (.slice s' (m + 1) c') = w9 at HC8 ⊢
           go_roundg (n + 1 - a3)
           case measure => omega
           case rel => exact ⟨a3, false, false, _, _, _, _, (rs ++ [(lo', lo')]), ks, f, rfl, HC8.out, rfl, .inl ⟨rfl, HRG.out, by omega, by omega⟩⟩
         ·
          rw [decide_eq_false h45] at HS
          have HRG := Lib.hid (show classR src f false (rs ++ [(lo', lo')]) ks ⟨a3, g3⟩ = R1 from by rw [← HRN.out, if_neg (fun hh => h45 hh.1)])
          clear HRN
          go_wp2_with fail
          go_quiet (first | (go_at_call 66; first | with_reducible exact Calls.quiet_of (HS.out _)))
          have HC6 := Lib.hid (HC5.out.moved (touch_drewN (n := nq) (Touch.refl _ _)) (F5.out.drewN nq))
          have I6 := Lib.hid (show (w5.drewN nq).heap[ib]? = _ from I5.out)
          have F6 := Lib.hid (F5.out.drewN nq)
          clear HS HC5 I5 F5 r1 r2 r3
          generalize w5.drewN nq = w6 at HC6 I6 F6 ⊢
          have x0 : w6.cell? ⟨ib, 0, none⟩ = some (.int .i64 (0)) := block_cell I6.out
          have x1 : w6.cell? ⟨ib, 1, none⟩ = some (.int .i64 (lo')) := block_cell I6.out
          have x2 : w6.cell? ⟨ib, 2, none⟩ = some (.int .i64 (lo')) := block_cell I6.out
          have l6 : w6.cell? ⟨lb, 6, none⟩ = some (.slice si m ci) := block_cell HC6.out.blk
          have hsz := HC6.out.szl
          go_wp2_with (first | (at_builtin; refine wpList_push_g Tryd.underlying136 Tryd.infoItemF rfl (by decide) (by decide) [.int .i64 (0), .int .i64 (lo'), .int .i64 (lo')] (by intro u hu; simp only [List.mem_cons, List.not_mem_nil, or_false] at hu; rcases hu with rfl | rfl | rfl <;> rfl) rfl rfl _ _ rfl w.heap.size (.slice si m ci) m xs rfl rfl HC6.out.own (by omega) (by omega) ?_; intro s' c' w8 hp; have HC8 := Lib.hid (HC6.out.push hp); have c4 := hp.2.2.1 _ _ _ HC6.out.blk (by decide); have c3 : w8.cell? ⟨lb, 6, none⟩ = some (.slice si m ci) := block_cell c4; have f3 : w8.frozen? ⟨lb, 6, none⟩ = false := block_free c4; clear hp c4))
          generalize w8.setCell ⟨lb, 6, none⟩ (.slice s' (m + 1) c') = w9 at HC8 ⊢
          go_roundg (n + 1 - a3)
          case measure => omega
          case rel => exact ⟨a3, false, false, _, _, _, _, (rs ++ [(lo', lo')]), ks, f, rfl, HC8.out, rfl, .inl ⟨rfl, HRG.out, by omega, by omega⟩⟩
    ·
     have hnx : nx src ⟨a, g⟩ = .error src.length := if_pos (by rw [hlen]; show n ≤ a; omega)
     have hpk : pk src a 0 = -4611686018427387904 := if_neg (by rw [hlen]; show ¬ a + 0 < n; omega)
     have hr : R1 = .error a := by
      rw [← hcr]
      simp only
      rw [hpk, if_neg (fun hh => by have := hh.2; omega)]
      unfold signP
      rw [hnx]
      show clsB src f rs ks (.error src.length) = _
      exact congrArg Except.error (show src.length = a by omega)
     subst hr
     have q1 : (n : Int) ≤ (a : Int) := by omega
     clear hcr hnx hpk hC
     go_wp2_with fail
     go_quiet (fail)
     have HC2 := Lib.hid ((HC.out.moved (touch_drewN (n := nq) (Touch.refl _ _)) (HC.out.rd.drewN nq)))
     clear HC r1 r2 r3
     generalize World.drewN _ nq = w4 at HC2 ⊢
     have b2 : w4.cell? ⟨rb, 2, none⟩ = some (.int .i64 a) := block_cell HC2.out.rd.blk
     go_wp2_with fail
     refine (fail_f rb pb _ n c src a a (by omega) w4 HC2.out.rd).mono ?_
     rintro e w5 ⟨rfl, t5, f5⟩
     have HC5 := Lib.hid (HC2.out.moved t5 f5)
     clear HC2 t5 f5 b2
     go_wp2
     go_ret
     rw [HRC.out]
     exact NdP.err _ (Mv.of HC5.out.tch) (H0.out.at_ HC5.out.tch HC5.out.rd)
   ·
    subst hR1
    have r3 : wr.cell? ⟨rb, 3, none⟩ = some (.bool true) := block_cell hC.rd.blk
    clear hC
    go_wp2
    go_ret
    rw [HRC.out]
    exact NdP.err _ (Mv.of HC.out.tch) (H0.out.at_ HC.out.tch HC.out.rd)
end Go.Proofs.YtdegdoilpamjjaaDoor
