/- Contract of the pattern's reader: times at braces. Condition: no more than 2^30 ints. Contract of the pattern's reader at a quoted list: pattern. Condition: no more than 2^30 ints. parts of what a quoted list is read to: as many as it has ints. What class of the reader builds, in memory; how far sign goes. No walk but one. Contracts: emit, and compile of a set, a row of sets, a choice of one row. Condition: no more than 100000 acts. -/
import Derived.Test.YtdegdoilpamjjaaDoorCAd
namespace Go.Proofs.YtdegdoilpamjjaaDoor
open Go.RowKit
set_option linter.unusedVariables false
set_option linter.unusedSimpArgs false
theorem AgB.moved {w0 w w' : World} {rb g : Nat} {nv : Value} {least most : Int} {lazy : Bool} (h : AgB w0 w rb g nv least most lazy) (ht : Touch (fun b => b = rb) w w') : AgB w0 w' rb g nv least most lazy :=
 ⟨(ht.block g (heap_lt h.blk) h.ne).trans h.blk, h.ne, h.touch.trans ht (fun x hx => .inl hx)⟩
theorem AgB.put3 {w0 w : World} {rb : Nat} {nv : Value} {least most : Int} {lazy x : Bool} (h : AgB w0 w rb w0.heap.size nv least most lazy) : AgB w0 (w.setCell ⟨w0.heap.size, 3, none⟩ (.bool x)) rb w0.heap.size nv least most x :=
 ⟨by rw [block_set _ h.blk]; rfl, h.ne, h.touch.trans (Touch.setCell (fun b => b = w0.heap.size) w (p := ⟨w0.heap.size, 3, none⟩) rfl _) (fun y hy => .inr (Nat.le_of_eq hy.symm))⟩
theorem pk_lt {src : List Int} {a : Nat} (h : pk src a 0 ≠ -4611686018427387904) : a < src.length := by
 unfold pk at h
 split at h
 · omega
 · exact absurd rfl h
set_option maxRecDepth 100000 in
set_option maxHeartbeats 16000000 in
theorem timesR_braces (rb : Nat) (sl : Option Addr) (n c : Nat) (src : List Int) (s : RS) (fold : Bool) (nv : Value) (nd : Nd) (w : World) (h : RdM w rb sl n c src s fold) (B E : Nat) (hn : NdR w B E nv nd) (hrB : rb < B) (hBw : B ≤ w.heap.size) (hEw : E ≤ w.heap.size) (n42 : pk src s.at' 0 ≠ 42) (e43 : escB src s.at' 43 = false) (e63 : escB src s.at' 63 = false) (e123 : escB src s.at' 123 = true) :
  Calls Tryd.prog 69 #[.pointer (some ⟨rb, 0, none⟩), nv] w (RdP w rb sl n c src fold (bracesP src nd { s with at' := s.at' + 2 }) (fun x w' v => NdR w' B w'.heap.size v x)) := by
 obtain ⟨s2, hs2⟩ : ∃ s2, ({ s with at' := s.at' + 2 } : RS) = s2 := ⟨_, rfl⟩
 rw [hs2]
 obtain ⟨RR, hRR⟩ : ∃ RR, bracesP src nd s2 = RR := ⟨_, rfl⟩
 rw [hRR]
 have HRR := Lib.hid hRR
 have HS2 := Lib.hid hs2
 clear hRR hs2
 obtain ⟨t0, v0, hnv⟩ := hn.iface
 subst hnv
 have hrb := heap_lt h.blk
 have hA := AgB.new w rb (.iface t0 v0) hrb _ rfl
 have hR := h.later (below_newJ w (.cells #[.iface t0 v0, .int .i64 0, .int .i64 (-1), .bool false] 142 (0, 0)))
 have HN := Lib.hid hn
 have HA := Lib.hid hA
 have HR := Lib.hid hR
 have hn30 := h.n30
 obtain ⟨hlt, hch⟩ := esc_at e123
 rw [h.len] at hlt
 obtain ⟨gs, off, hg, _⟩ := h.src.at (Below.refl _ _) hlt
 have hsb : ∀ a, sl = some a → a.block ≠ w.heap.size := by
  intro a ha
  rcases h.src with h0 | ⟨b', o', e, hb', hc'⟩
  · omega
  ·
   rw [e] at ha; injection ha with ha; subst ha
   exact Nat.ne_of_lt hb'
 have hne := h.ne _ hg
 have hns := hsb _ hg
 subst hg
 have HSB := Lib.hid hsb
 have E43 := Lib.hid e43
 have E63 := Lib.hid e63
 have E123 := Lib.hid e123
 clear h hn hA hR hsb e43 e63 e123
 go_enter Tryd.func69, Tryd.ntmps69
 go_wp2_with fail
 refine (peek_c rb _ n c src s fold 0 _ HR.out (by decide)).mono ?_
 rintro e w2 ⟨rfl, m, rfl⟩
 have HR2 := Lib.hid (HR.out.drewN m)
 have HA2 := Lib.hid (HA.out.drewN m)
 clear HR HA
 generalize World.drewN _ m = w2 at HR2 HA2 ⊢
 generalize pk src s.at' 0 = p0 at n42 ⊢
 have N42 : (p0 == 42) = false := by rw [beq_eq_false_iff_ne]; exact n42
 go_wp2_with fail
 refine (escaped_c rb _ n c src s fold 43 _ HR2.out).mono ?_
 rintro e w3 ⟨rfl, m, rfl⟩
 rw [E43.out]
 have HR3 := Lib.hid (HR2.out.drewN m)
 have HA3 := Lib.hid (HA2.out.drewN m)
 clear HR2 HA2
 generalize World.drewN _ m = w3 at HR3 HA3 ⊢
 go_wp2_with fail
 refine (escaped_c rb _ n c src s fold 63 _ HR3.out).mono ?_
 rintro e w4 ⟨rfl, m, rfl⟩
 rw [E63.out]
 have HR4 := Lib.hid (HR3.out.drewN m)
 have HA4 := Lib.hid (HA3.out.drewN m)
 clear HR3 HA3
 generalize World.drewN _ m = w4 at HR4 HA4 ⊢
 go_wp2_with fail
 refine (escaped_c rb _ n c src s fold 123 _ HR4.out).mono ?_
 rintro e w5 ⟨rfl, m, rfl⟩
 rw [E123.out]
 have HR5 := Lib.hid (HR4.out.drewN m)
 have HA5 := Lib.hid (HA4.out.drewN m)
 clear HR4 HA4
 generalize World.drewN _ m = w5 at HR5 HA5 ⊢
 have b1 : w5.cell? ⟨rb, 1, none⟩ = some (.int .i64 s.at') := block_cell HR5.out.blk
 have f1 : w5.frozen? ⟨rb, 1, none⟩ = false := block_free HR5.out.blk
 have q3 : IntKind.i64.wrap ((s.at' : Int) + 2) = ((s.at' + 2 : Nat) : Int) := by rw [IntKind.wrap_i64]; omega
 have HA8 := Lib.hid (HA5.out.step (.int .i64 ((s.at' + 2 : Nat) : Int)))
 have HR8 := Lib.hid (HR5.out.step 2 (by omega))
 go_upto_region 12 with (fail)
 rw [show ((s.at' : Int) + 2) = ((s.at' + 2 : Nat) : Int) from by omega]
 generalize World.setCell _ _ _ = w8 at HA8 HR8 ⊢
 clear HA5 HR5 b1 f1
 have b0 : w8.cell? ⟨rb, 0, none⟩ = some (.slice (some ⟨gs, off, none⟩) n c) := block_cell HR8.out.blk
 have b1 : w8.cell? ⟨rb, 1, none⟩ = some (.int .i64 ((s.at' + 2 : Nat) : Int)) := block_cell HR8.out.blk
 have c0 : w8.cell? ⟨gs, off + (s.at' + 1), none⟩ = some (.int .i64 123) := by
  obtain ⟨g', o', e, c0⟩ := HR8.out.src.at (Below.refl _ _) hlt
  cases e
  rw [hch] at c0
  exact c0
 have q5 : IntKind.i64.wrap (((s.at' + 2 : Nat) : Int) - 1) = ((s.at' + 1 : Nat) : Int) := by rw [IntKind.wrap_i64]; omega
 have q4 : decide (n ≤ s.at' + 1) = false := decide_eq_false (by omega)
 go_quiet (fail)
 have HA9 := Lib.hid (HA8.out.drewN nq)
 have HR9 := Lib.hid (HR8.out.drewN nq)
 clear HA8 HR8 b0 b1 c0 q5 q4
 generalize World.drewN w8 nq = w9 at HA9 HR9 ⊢
 rw [HS2.out] at HR9
 clear q3
 go_wp2_with fail
 refine (peek_c rb _ n c src s2 fold 0 _ HR9.out (by decide)).mono ?_
 rintro e w10 ⟨rfl, m, rfl⟩
 have HAa := Lib.hid (HA9.out.drewN m)
 have HRa := Lib.hid (HR9.out.drewN m)
 clear HA9 HR9
 generalize World.drewN _ m = wa at HAa HRa ⊢
 by_cases h45 : pk src s2.at' 0 = 45
 ·
  have hlt2 := pk_lt (show pk src s2.at' 0 ≠ -4611686018427387904 from by rw [h45]; decide)
  have H45 := Lib.hid h45
  rw [h45]
  clear h45
  have b1 : wa.cell? ⟨rb, 1, none⟩ = some (.int .i64 s2.at') := block_cell HRa.out.blk
  have f1 : wa.frozen? ⟨rb, 1, none⟩ = false := block_free HRa.out.blk
  have z3 : wa.cell? ⟨w.heap.size, 3, none⟩ = some (.bool false) := block_cell HAa.out.blk
  have z3f : wa.frozen? ⟨w.heap.size, 3, none⟩ = false := block_free HAa.out.blk
  have hl2 := HRa.out.len
  have HAz := Lib.hid (HAa.out.put3 (x := true))
  have HRz := Lib.hid (HRa.out.put (w0 := w) w.heap.size 3 (.bool true) HAa.out.ne HSB.out)
  go_upto_region 16 with (fail)
  generalize World.setCell _ _ _ = wz at HAz HRz ⊢
  clear b1 f1 z3 z3f HAa HRa
  have b1 : wz.cell? ⟨rb, 1, none⟩ = some (.int .i64 s2.at') := block_cell HRz.out.blk
  have f1 : wz.frozen? ⟨rb, 1, none⟩ = false := block_free HRz.out.blk
  have q3 : IntKind.i64.wrap ((s2.at' : Int) + 1) = ((s2.at' + 1 : Nat) : Int) := by rw [IntKind.wrap_i64]; omega
  have HAy := Lib.hid (HAz.out.step (.int .i64 ((s2.at' + 1 : Nat) : Int)))
  have HRy := Lib.hid (HRz.out.step 1 (by omega))
  go_upto_region 17 with (fail)
  rw [show ((s2.at' : Int) + 1) = ((s2.at' + 1 : Nat) : Int) from by omega]
  generalize World.setCell _ _ _ = wy at HAy HRy ⊢
  clear HAz HRz b1 f1 q3 hl2 hlt2
  go_wp2_with fail
  refine (number_c rb _ n c src { s2 with at' := s2.at' + 1 } fold _ HRy.out).mono ?_
  generalize hn1 : numP' src { s2 with at' := s2.at' + 1 } = R1
  rintro e wb ⟨htb, hb⟩
  have HAb := Lib.hid (HAy.out.moved htb)
  clear htb
  cases R1 with
  | error kk =>
   simp only at hb
   subst hb
   have hres : RR = .error kk := by rw [← HRR.out]; unfold bracesP; simp [H45.out, decide_true, if_true, hn1]
   have HRES := Lib.hid hres
   clear hres
   go_wp2
   refine ⟨rfl, HAb.out.touch, ?_⟩
   rw [HRES.out]
   try rfl
  | ok rr =>
   obtain ⟨least, s3⟩ := rr
   obtain ⟨⟨v3, rfl, rfl, hl1, hl2⟩, hR3⟩ := hb
   have HRb := Lib.hid hR3
   clear hR3
   go_wp2_with fail
   refine (peek_c rb _ n c src s3 fold 0 _ HRb.out (by decide)).mono ?_
   rintro e wc ⟨rfl, m, rfl⟩
   have HAc := Lib.hid (HAb.out.drewN m)
   have HRc := Lib.hid (HRb.out.drewN m)
   clear HAb HRb
   generalize World.drewN _ m = wc at HAc HRc ⊢
   by_cases h44 : pk src s3.at' 0 = 44
   ·
    have hlt3 := pk_lt (show pk src s3.at' 0 ≠ -4611686018427387904 from by rw [h44]; decide)
    have H44 := Lib.hid h44
    rw [h44]
    clear h44
    have b1 : wc.cell? ⟨rb, 1, none⟩ = some (.int .i64 s3.at') := block_cell HRc.out.blk
    have f1 : wc.frozen? ⟨rb, 1, none⟩ = false := block_free HRc.out.blk
    have hl3 := HRc.out.len
    have q3 : IntKind.i64.wrap ((s3.at' : Int) + 1) = ((s3.at' + 1 : Nat) : Int) := by rw [IntKind.wrap_i64]; omega
    have HAe := Lib.hid (HAc.out.step (.int .i64 ((s3.at' + 1 : Nat) : Int)))
    have HRe := Lib.hid (HRc.out.step 1 (by omega))
    go_upto_region 21 with (fail)
    rw [show ((s3.at' : Int) + 1) = ((s3.at' + 1 : Nat) : Int) from by omega]
    generalize World.setCell _ _ _ = we at HAe HRe ⊢
    clear HAc HRc b1 f1 q3 hl3 hlt3
    go_wp2_with fail
    refine (number_c rb _ n c src _ fold _ HRe.out).mono ?_
    generalize hn2 : numP' src { s3 with at' := s3.at' + 1 } = R2
    rintro e wf ⟨htf, hf⟩
    have HAf2 := Lib.hid (HAe.out.moved htf)
    clear htf
    cases R2 with
    | error kk =>
     simp only at hf
     subst hf
     have hres : RR = .error kk := by rw [← HRR.out]; unfold bracesP; simp [H45.out, decide_true, if_true, hn1, H44.out, hn2]
     have HRES := Lib.hid hres
     clear hres
     go_wp2
     refine ⟨rfl, HAf2.out.touch, ?_⟩
     rw [HRES.out]
     try rfl
    | ok rr =>
     obtain ⟨most, s5⟩ := rr
     obtain ⟨⟨v5, rfl, rfl, hm1, hm2⟩, hR5⟩ := hf
     have HRf2 := Lib.hid hR5
     clear hR5
     go_wp2_with fail
     refine (next_c rb _ n c src s5 fold _ HRf2.out).mono ?_
     generalize hnx : nx src s5 = RN
     rintro e wd ⟨htd, hd⟩
     have HTd := Lib.hid (HAf2.out.moved htd)
     clear htd
     cases RN with
     | error kk =>
      simp only at hd
      subst hd
      have hres : RR = .error kk := by rw [← HRR.out]; unfold bracesP; simp [H45.out, decide_true, if_true, hn1, H44.out, if_true, hn2, hnx]
      have HRES := Lib.hid hres
      clear hres
      go_wp2
      refine ⟨rfl, HTd.out.touch, ?_⟩
      rw [HRES.out]
      try rfl
     | ok rr =>
      obtain ⟨ch, s6⟩ := rr
      obtain ⟨⟨v6, rfl, rfl⟩, hR6⟩ := hd
      have HR6 := Lib.hid hR6
      have hs6 : 1 ≤ s6.at' := by
       have h := hnx
       unfold nx at h
       split at h
       · cases h
       ·
        injection h with h
        injection h with _ h
        rw [← h]; show 1 ≤ _ + 1; omega
      have b1 : wd.cell? ⟨rb, 1, none⟩ = some (.int .i64 s6.at') := block_cell hR6.blk
      have q7 : IntKind.i64.wrap ((s6.at' : Int) - 1) = ((s6.at' - 1 : Nat) : Int) := by have := hR6.at'; rw [IntKind.wrap_i64]; omega
      clear hR6
      by_cases hbad : ch ≠ 125 ∨ (0 ≤ most ∧ most < least)
      ·
       have hres : RR = .error (s6.at' - 1) := by rw [← HRR.out]; unfold bracesP; simp only [H45.out, decide_true, if_true, hn1, H44.out, if_true, hn2, hnx]; exact if_pos hbad
       have HRES := Lib.hid hres
       clear hres
       by_cases h125 : ch = 125
       ·
        have hbad2 : 0 ≤ most ∧ most < least := by
         rcases hbad with h | h
         · exact absurd h125 h
         · exact h
        obtain ⟨u1, u2⟩ := hbad2
        subst h125
        clear hbad hnx
        go_wp2
        refine ⟨rfl, HTd.out.touch, ?_⟩
        rw [HRES.out]
        try rfl
       ·
        have n125 : (ch == 125) = false := by rw [beq_eq_false_iff_ne]; exact h125
        have n125b : (ch != 125) = true := by rw [bne_iff_ne]; exact h125
        clear hbad hnx
        go_wp2
        refine ⟨rfl, HTd.out.touch, ?_⟩
        rw [HRES.out]
        try rfl
      ·
       have hres : RR = .ok (.again nd (max least 0) most true, s6) := by rw [← HRR.out]; unfold bracesP; simp only [H45.out, decide_true, if_true, hn1, H44.out, if_true, hn2, hnx]; exact if_neg hbad
       have HRES := Lib.hid hres
       clear hres
       have h125 : ch = 125 := Classical.byContradiction fun h => hbad (.inl h)
       have hok : ¬ (0 ≤ most ∧ most < least) := fun h => hbad (.inr h)
       subst h125
       clear hbad hnx
       have hmx1 : (if (0 : Int) < least then least else 0) = max least 0 := by split <;> omega
       have hmx3 : (if least < (0 : Int) then 0 else least) = max least 0 := by split <;> omega
       have hmx4 : 0 ≤ least → max least 0 = least := fun h => by omega
       have hmx5 : ¬ 0 ≤ least → max least 0 = 0 := fun h => by omega
       generalize max least 0 = mx at hmx1 hmx3 hmx4 hmx5 HRES ⊢
       have y1 : wd.cell? ⟨w.heap.size, 1, none⟩ = some (.int .i64 0) := block_cell HTd.out.blk
       have y2 : wd.cell? ⟨w.heap.size, 2, none⟩ = some (.int .i64 (-1)) := block_cell HTd.out.blk
       have y1f : wd.frozen? ⟨w.heap.size, 1, none⟩ = false := block_free HTd.out.blk
       have y2f : wd.frozen? ⟨w.heap.size, 2, none⟩ = false := block_free HTd.out.blk
       have HAf := Lib.hid ((HTd.out.put1 (x := mx)).put2 (x := most))
       have HRf := Lib.hid ((HR6.out.put (w0 := w) w.heap.size 1 (.int .i64 mx) HTd.out.ne HSB.out).put (w0 := w) w.heap.size 2 (.int .i64 most) HTd.out.ne HSB.out)
       clear b1 q7 hs6
       by_cases hm0 : 0 ≤ most
       ·
        have hml : ¬ most < least := fun h => hok ⟨hm0, h⟩
        clear hok hmx4 hmx5
        go_wp2
        go_ret
        refine ⟨HAf.out.touch, ?_⟩
        rw [HRES.out]
        exact ⟨⟨_, rfl, HAf.out.nodeR HN.out hrB hBw hEw⟩, HRf.out⟩
       ·
        clear hok hmx4 hmx5
        go_wp2
        go_ret
        refine ⟨HAf.out.touch, ?_⟩
        rw [HRES.out]
        exact ⟨⟨_, rfl, HAf.out.nodeR HN.out hrB hBw hEw⟩, HRf.out⟩
   ·
    have n44 : (pk src s3.at' 0 == 44) = false := by rw [beq_eq_false_iff_ne]; exact h44
    have H44 := Lib.hid h44
    generalize pk src s3.at' 0 = p3 at n44 ⊢
    clear h44
    go_wp2_with fail
    refine (next_c rb _ n c src s3 fold _ HRc.out).mono ?_
    generalize hnx : nx src s3 = RN
    rintro e wd ⟨htd, hd⟩
    have HTd := Lib.hid (HAc.out.moved htd)
    clear htd
    cases RN with
    | error kk =>
     simp only at hd
     subst hd
     have hres : RR = .error kk := by rw [← HRR.out]; unfold bracesP; simp [H45.out, decide_true, if_true, hn1, if_neg H44.out, hnx]
     have HRES := Lib.hid hres
     clear hres
     go_wp2
     refine ⟨rfl, HTd.out.touch, ?_⟩
     rw [HRES.out]
     try rfl
    | ok rr =>
     obtain ⟨ch, s6⟩ := rr
     obtain ⟨⟨v6, rfl, rfl⟩, hR6⟩ := hd
     have HR6 := Lib.hid hR6
     have hs6 : 1 ≤ s6.at' := by
      have h := hnx
      unfold nx at h
      split at h
      · cases h
      ·
       injection h with h
       injection h with _ h
       rw [← h]; show 1 ≤ _ + 1; omega
     have b1 : wd.cell? ⟨rb, 1, none⟩ = some (.int .i64 s6.at') := block_cell hR6.blk
     have q7 : IntKind.i64.wrap ((s6.at' : Int) - 1) = ((s6.at' - 1 : Nat) : Int) := by have := hR6.at'; rw [IntKind.wrap_i64]; omega
     clear hR6
     by_cases hbad : ch ≠ 125 ∨ (0 ≤ least ∧ least < least)
     ·
      have hres : RR = .error (s6.at' - 1) := by rw [← HRR.out]; unfold bracesP; simp only [H45.out, decide_true, if_true, hn1, if_neg H44.out, hnx]; exact if_pos hbad
      have HRES := Lib.hid hres
      clear hres
      by_cases h125 : ch = 125
      ·
       have hbad2 : 0 ≤ least ∧ least < least := by
        rcases hbad with h | h
        · exact absurd h125 h
        · exact h
       exact absurd hbad2.2 (Int.lt_irrefl _)
      ·
       have n125 : (ch == 125) = false := by rw [beq_eq_false_iff_ne]; exact h125
       have n125b : (ch != 125) = true := by rw [bne_iff_ne]; exact h125
       clear hbad hnx
       go_wp2
       refine ⟨rfl, HTd.out.touch, ?_⟩
       rw [HRES.out]
       try rfl
     ·
      have hres : RR = .ok (.again nd (max least 0) least true, s6) := by rw [← HRR.out]; unfold bracesP; simp only [H45.out, decide_true, if_true, hn1, if_neg H44.out, hnx]; exact if_neg hbad
      have HRES := Lib.hid hres
      clear hres
      have h125 : ch = 125 := Classical.byContradiction fun h => hbad (.inl h)
      have hok : ¬ (0 ≤ least ∧ least < least) := fun h => hbad (.inr h)
      subst h125
      clear hbad hnx
      have hmx1 : (if (0 : Int) < least then least else 0) = max least 0 := by split <;> omega
      have hmx3 : (if least < (0 : Int) then 0 else least) = max least 0 := by split <;> omega
      have hmx4 : 0 ≤ least → max least 0 = least := fun h => by omega
      have hmx5 : ¬ 0 ≤ least → max least 0 = 0 := fun h => by omega
      generalize max least 0 = mx at hmx1 hmx3 hmx4 hmx5 HRES ⊢
      have y1 : wd.cell? ⟨w.heap.size, 1, none⟩ = some (.int .i64 0) := block_cell HTd.out.blk
      have y2 : wd.cell? ⟨w.heap.size, 2, none⟩ = some (.int .i64 (-1)) := block_cell HTd.out.blk
      have y1f : wd.frozen? ⟨w.heap.size, 1, none⟩ = false := block_free HTd.out.blk
      have y2f : wd.frozen? ⟨w.heap.size, 2, none⟩ = false := block_free HTd.out.blk
      have HAf := Lib.hid ((HTd.out.put1 (x := mx)).put2 (x := least))
      have HRf := Lib.hid ((HR6.out.put (w0 := w) w.heap.size 1 (.int .i64 mx) HTd.out.ne HSB.out).put (w0 := w) w.heap.size 2 (.int .i64 least) HTd.out.ne HSB.out)
      clear b1 q7 hs6
      by_cases hm0 : 0 ≤ least
      ·
       have e := hmx4 hm0
       subst e
       clear hok hmx4 hmx5 hmx1 hmx3
       go_wp2
       go_ret
       refine ⟨HAf.out.touch, ?_⟩
       rw [HRES.out]
       exact ⟨⟨_, rfl, HAf.out.nodeR HN.out hrB hBw hEw⟩, HRf.out⟩
      ·
       have e := hmx5 hm0
       subst e
       clear hok hmx4 hmx5 hmx1 hmx3
       go_wp2
       go_ret
       refine ⟨HAf.out.touch, ?_⟩
       rw [HRES.out]
       exact ⟨⟨_, rfl, HAf.out.nodeR HN.out hrB hBw hEw⟩, HRf.out⟩
 ·
  have n45 : (pk src s2.at' 0 == 45) = false := by rw [beq_eq_false_iff_ne]; exact h45
  have H45 := Lib.hid (show decide (pk src s2.at' 0 = 45) = false from decide_eq_false h45)
  generalize pk src s2.at' 0 = p2 at n45 ⊢
  clear h45
  go_wp2_with fail
  refine (number_c rb _ n c src s2 fold _ HRa.out).mono ?_
  generalize hn1 : numP' src s2 = R1
  rintro e wb ⟨htb, hb⟩
  have HAb := Lib.hid (HAa.out.moved htb)
  clear htb
  cases R1 with
  | error kk =>
   simp only at hb
   subst hb
   have hres : RR = .error kk := by rw [← HRR.out]; unfold bracesP; simp [H45.out, Bool.false_eq_true, if_false, hn1]
   have HRES := Lib.hid hres
   clear hres
   go_wp2
   refine ⟨rfl, HAb.out.touch, ?_⟩
   rw [HRES.out]
   try rfl
  | ok rr =>
   obtain ⟨least, s3⟩ := rr
   obtain ⟨⟨v3, rfl, rfl, hl1, hl2⟩, hR3⟩ := hb
   have HRb := Lib.hid hR3
   clear hR3
   go_wp2_with fail
   refine (peek_c rb _ n c src s3 fold 0 _ HRb.out (by decide)).mono ?_
   rintro e wc ⟨rfl, m, rfl⟩
   have HAc := Lib.hid (HAb.out.drewN m)
   have HRc := Lib.hid (HRb.out.drewN m)
   clear HAb HRb
   generalize World.drewN _ m = wc at HAc HRc ⊢
   by_cases h44 : pk src s3.at' 0 = 44
   ·
    have hlt3 := pk_lt (show pk src s3.at' 0 ≠ -4611686018427387904 from by rw [h44]; decide)
    have H44 := Lib.hid h44
    rw [h44]
    clear h44
    have b1 : wc.cell? ⟨rb, 1, none⟩ = some (.int .i64 s3.at') := block_cell HRc.out.blk
    have f1 : wc.frozen? ⟨rb, 1, none⟩ = false := block_free HRc.out.blk
    have hl3 := HRc.out.len
    have q3 : IntKind.i64.wrap ((s3.at' : Int) + 1) = ((s3.at' + 1 : Nat) : Int) := by rw [IntKind.wrap_i64]; omega
    have HAe := Lib.hid (HAc.out.step (.int .i64 ((s3.at' + 1 : Nat) : Int)))
    have HRe := Lib.hid (HRc.out.step 1 (by omega))
    go_upto_region 21 with (fail)
    rw [show ((s3.at' : Int) + 1) = ((s3.at' + 1 : Nat) : Int) from by omega]
    generalize World.setCell _ _ _ = we at HAe HRe ⊢
    clear HAc HRc b1 f1 q3 hl3 hlt3
    go_wp2_with fail
    refine (number_c rb _ n c src _ fold _ HRe.out).mono ?_
    generalize hn2 : numP' src { s3 with at' := s3.at' + 1 } = R2
    rintro e wf ⟨htf, hf⟩
    have HAf2 := Lib.hid (HAe.out.moved htf)
    clear htf
    cases R2 with
    | error kk =>
     simp only at hf
     subst hf
     have hres : RR = .error kk := by rw [← HRR.out]; unfold bracesP; simp [H45.out, Bool.false_eq_true, if_false, hn1, H44.out, hn2]
     have HRES := Lib.hid hres
     clear hres
     go_wp2
     refine ⟨rfl, HAf2.out.touch, ?_⟩
     rw [HRES.out]
     try rfl
    | ok rr =>
     obtain ⟨most, s5⟩ := rr
     obtain ⟨⟨v5, rfl, rfl, hm1, hm2⟩, hR5⟩ := hf
     have HRf2 := Lib.hid hR5
     clear hR5
     go_wp2_with fail
     refine (next_c rb _ n c src s5 fold _ HRf2.out).mono ?_
     generalize hnx : nx src s5 = RN
     rintro e wd ⟨htd, hd⟩
     have HTd := Lib.hid (HAf2.out.moved htd)
     clear htd
     cases RN with
     | error kk =>
      simp only at hd
      subst hd
      have hres : RR = .error kk := by rw [← HRR.out]; unfold bracesP; simp [H45.out, Bool.false_eq_true, if_false, hn1, H44.out, if_true, hn2, hnx]
      have HRES := Lib.hid hres
      clear hres
      go_wp2
      refine ⟨rfl, HTd.out.touch, ?_⟩
      rw [HRES.out]
      try rfl
     | ok rr =>
      obtain ⟨ch, s6⟩ := rr
      obtain ⟨⟨v6, rfl, rfl⟩, hR6⟩ := hd
      have HR6 := Lib.hid hR6
      have hs6 : 1 ≤ s6.at' := by
       have h := hnx
       unfold nx at h
       split at h
       · cases h
       ·
        injection h with h
        injection h with _ h
        rw [← h]; show 1 ≤ _ + 1; omega
      have b1 : wd.cell? ⟨rb, 1, none⟩ = some (.int .i64 s6.at') := block_cell hR6.blk
      have q7 : IntKind.i64.wrap ((s6.at' : Int) - 1) = ((s6.at' - 1 : Nat) : Int) := by have := hR6.at'; rw [IntKind.wrap_i64]; omega
      clear hR6
      by_cases hbad : ch ≠ 125 ∨ (0 ≤ most ∧ most < least)
      ·
       have hres : RR = .error (s6.at' - 1) := by rw [← HRR.out]; unfold bracesP; simp only [H45.out, Bool.false_eq_true, if_false, hn1, H44.out, if_true, hn2, hnx]; exact if_pos hbad
       have HRES := Lib.hid hres
       clear hres
       by_cases h125 : ch = 125
       ·
        have hbad2 : 0 ≤ most ∧ most < least := by
         rcases hbad with h | h
         · exact absurd h125 h
         · exact h
        obtain ⟨u1, u2⟩ := hbad2
        subst h125
        clear hbad hnx
        go_wp2
        refine ⟨rfl, HTd.out.touch, ?_⟩
        rw [HRES.out]
        try rfl
       ·
        have n125 : (ch == 125) = false := by rw [beq_eq_false_iff_ne]; exact h125
        have n125b : (ch != 125) = true := by rw [bne_iff_ne]; exact h125
        clear hbad hnx
        go_wp2
        refine ⟨rfl, HTd.out.touch, ?_⟩
        rw [HRES.out]
        try rfl
      ·
       have hres : RR = .ok (.again nd (max least 0) most false, s6) := by rw [← HRR.out]; unfold bracesP; simp only [H45.out, Bool.false_eq_true, if_false, hn1, H44.out, if_true, hn2, hnx]; exact if_neg hbad
       have HRES := Lib.hid hres
       clear hres
       have h125 : ch = 125 := Classical.byContradiction fun h => hbad (.inl h)
       have hok : ¬ (0 ≤ most ∧ most < least) := fun h => hbad (.inr h)
       subst h125
       clear hbad hnx
       have hmx1 : (if (0 : Int) < least then least else 0) = max least 0 := by split <;> omega
       have hmx3 : (if least < (0 : Int) then 0 else least) = max least 0 := by split <;> omega
       have hmx4 : 0 ≤ least → max least 0 = least := fun h => by omega
       have hmx5 : ¬ 0 ≤ least → max least 0 = 0 := fun h => by omega
       generalize max least 0 = mx at hmx1 hmx3 hmx4 hmx5 HRES ⊢
       have y1 : wd.cell? ⟨w.heap.size, 1, none⟩ = some (.int .i64 0) := block_cell HTd.out.blk
       have y2 : wd.cell? ⟨w.heap.size, 2, none⟩ = some (.int .i64 (-1)) := block_cell HTd.out.blk
       have y1f : wd.frozen? ⟨w.heap.size, 1, none⟩ = false := block_free HTd.out.blk
       have y2f : wd.frozen? ⟨w.heap.size, 2, none⟩ = false := block_free HTd.out.blk
       have HAf := Lib.hid ((HTd.out.put1 (x := mx)).put2 (x := most))
       have HRf := Lib.hid ((HR6.out.put (w0 := w) w.heap.size 1 (.int .i64 mx) HTd.out.ne HSB.out).put (w0 := w) w.heap.size 2 (.int .i64 most) HTd.out.ne HSB.out)
       clear b1 q7 hs6
       by_cases hm0 : 0 ≤ most
       ·
        have hml : ¬ most < least := fun h => hok ⟨hm0, h⟩
        clear hok hmx4 hmx5
        go_wp2
        go_ret
        refine ⟨HAf.out.touch, ?_⟩
        rw [HRES.out]
        exact ⟨⟨_, rfl, HAf.out.nodeR HN.out hrB hBw hEw⟩, HRf.out⟩
       ·
        clear hok hmx4 hmx5
        go_wp2
        go_ret
        refine ⟨HAf.out.touch, ?_⟩
        rw [HRES.out]
        exact ⟨⟨_, rfl, HAf.out.nodeR HN.out hrB hBw hEw⟩, HRf.out⟩
   ·
    have n44 : (pk src s3.at' 0 == 44) = false := by rw [beq_eq_false_iff_ne]; exact h44
    have H44 := Lib.hid h44
    generalize pk src s3.at' 0 = p3 at n44 ⊢
    clear h44
    go_wp2_with fail
    refine (next_c rb _ n c src s3 fold _ HRc.out).mono ?_
    generalize hnx : nx src s3 = RN
    rintro e wd ⟨htd, hd⟩
    have HTd := Lib.hid (HAc.out.moved htd)
    clear htd
    cases RN with
    | error kk =>
     simp only at hd
     subst hd
     have hres : RR = .error kk := by rw [← HRR.out]; unfold bracesP; simp [H45.out, Bool.false_eq_true, if_false, hn1, if_neg H44.out, hnx]
     have HRES := Lib.hid hres
     clear hres
     go_wp2
     refine ⟨rfl, HTd.out.touch, ?_⟩
     rw [HRES.out]
     try rfl
    | ok rr =>
     obtain ⟨ch, s6⟩ := rr
     obtain ⟨⟨v6, rfl, rfl⟩, hR6⟩ := hd
     have HR6 := Lib.hid hR6
     have hs6 : 1 ≤ s6.at' := by
      have h := hnx
      unfold nx at h
      split at h
      · cases h
      ·
       injection h with h
       injection h with _ h
       rw [← h]; show 1 ≤ _ + 1; omega
     have b1 : wd.cell? ⟨rb, 1, none⟩ = some (.int .i64 s6.at') := block_cell hR6.blk
     have q7 : IntKind.i64.wrap ((s6.at' : Int) - 1) = ((s6.at' - 1 : Nat) : Int) := by have := hR6.at'; rw [IntKind.wrap_i64]; omega
     clear hR6
     by_cases hbad : ch ≠ 125 ∨ (0 ≤ least ∧ least < least)
     ·
      have hres : RR = .error (s6.at' - 1) := by rw [← HRR.out]; unfold bracesP; simp only [H45.out, Bool.false_eq_true, if_false, hn1, if_neg H44.out, hnx]; exact if_pos hbad
      have HRES := Lib.hid hres
      clear hres
      by_cases h125 : ch = 125
      ·
       have hbad2 : 0 ≤ least ∧ least < least := by
        rcases hbad with h | h
        · exact absurd h125 h
        · exact h
       exact absurd hbad2.2 (Int.lt_irrefl _)
      ·
       have n125 : (ch == 125) = false := by rw [beq_eq_false_iff_ne]; exact h125
       have n125b : (ch != 125) = true := by rw [bne_iff_ne]; exact h125
       clear hbad hnx
       go_wp2
       refine ⟨rfl, HTd.out.touch, ?_⟩
       rw [HRES.out]
       try rfl
     ·
      have hres : RR = .ok (.again nd (max least 0) least false, s6) := by rw [← HRR.out]; unfold bracesP; simp only [H45.out, Bool.false_eq_true, if_false, hn1, if_neg H44.out, hnx]; exact if_neg hbad
      have HRES := Lib.hid hres
      clear hres
      have h125 : ch = 125 := Classical.byContradiction fun h => hbad (.inl h)
      have hok : ¬ (0 ≤ least ∧ least < least) := fun h => hbad (.inr h)
      subst h125
      clear hbad hnx
      have hmx1 : (if (0 : Int) < least then least else 0) = max least 0 := by split <;> omega
      have hmx3 : (if least < (0 : Int) then 0 else least) = max least 0 := by split <;> omega
      have hmx4 : 0 ≤ least → max least 0 = least := fun h => by omega
      have hmx5 : ¬ 0 ≤ least → max least 0 = 0 := fun h => by omega
      generalize max least 0 = mx at hmx1 hmx3 hmx4 hmx5 HRES ⊢
      have y1 : wd.cell? ⟨w.heap.size, 1, none⟩ = some (.int .i64 0) := block_cell HTd.out.blk
      have y2 : wd.cell? ⟨w.heap.size, 2, none⟩ = some (.int .i64 (-1)) := block_cell HTd.out.blk
      have y1f : wd.frozen? ⟨w.heap.size, 1, none⟩ = false := block_free HTd.out.blk
      have y2f : wd.frozen? ⟨w.heap.size, 2, none⟩ = false := block_free HTd.out.blk
      have HAf := Lib.hid ((HTd.out.put1 (x := mx)).put2 (x := least))
      have HRf := Lib.hid ((HR6.out.put (w0 := w) w.heap.size 1 (.int .i64 mx) HTd.out.ne HSB.out).put (w0 := w) w.heap.size 2 (.int .i64 least) HTd.out.ne HSB.out)
      clear b1 q7 hs6
      by_cases hm0 : 0 ≤ least
      ·
       have e := hmx4 hm0
       subst e
       clear hok hmx4 hmx5 hmx1 hmx3
       go_wp2
       go_ret
       refine ⟨HAf.out.touch, ?_⟩
       rw [HRES.out]
       exact ⟨⟨_, rfl, HAf.out.nodeR HN.out hrB hBw hEw⟩, HRf.out⟩
      ·
       have e := hmx5 hm0
       subst e
       clear hok hmx4 hmx5 hmx1 hmx3
       go_wp2
       go_ret
       refine ⟨HAf.out.touch, ?_⟩
       rw [HRES.out]
       exact ⟨⟨_, rfl, HAf.out.nodeR HN.out hrB hBw hEw⟩, HRf.out⟩
theorem timesR_c (rb : Nat) (sl : Option Addr) (n c : Nat) (src : List Int) (s : RS) (fold : Bool) (nv : Value) (nd : Nd) (w : World) (h : RdM w rb sl n c src s fold) (B E : Nat) (hn : NdR w B E nv nd) (hrB : rb < B) (hBw : B ≤ w.heap.size) (hEw : E ≤ w.heap.size) :
  Calls Tryd.prog 69 #[.pointer (some ⟨rb, 0, none⟩), nv] w (RdP w rb sl n c src fold (timesP src nd s) (fun x w' v => NdR w' B w'.heap.size v x)) := by
 unfold timesP
 by_cases h42 : pk src s.at' 0 = 42
 · rw [if_pos h42]; exact timesR_star rb sl n c src s fold nv nd w h B E hn hrB hBw hEw h42
 ·
  rw [if_neg h42]
  by_cases h43 : escB src s.at' 43 = true
  · rw [if_pos h43]; exact timesR_plus rb sl n c src s fold nv nd w h B E hn hrB hBw hEw h42 h43
  ·
   rw [if_neg h43]
   have e43 : escB src s.at' 43 = false := by simpa using h43
   by_cases h63 : escB src s.at' 63 = true
   · rw [if_pos h63]; exact timesR_quest rb sl n c src s fold nv nd w h B E hn hrB hBw hEw h42 e43 h63
   ·
    rw [if_neg h63]
    have e63 : escB src s.at' 63 = false := by simpa using h63
    by_cases h123 : escB src s.at' 123 = true
    · rw [if_pos h123]; exact timesR_braces rb sl n c src s fold nv nd w h B E hn hrB hBw hEw h42 e43 e63 h123
    ·
     rw [if_neg h123]
     exact timesR_none rb sl n c src s fold nv nd w h B E hn hrB hBw hEw h42 e43 e63 (by simpa using h123)
end Go.Proofs.YtdegdoilpamjjaaDoor
namespace Go.Proofs.YtdegdoilpamjjaaDoor
open Go.RowKit
set_option linter.unusedVariables false
set_option linter.unusedSimpArgs false
theorem Tryd.infoNode : (Tryd.prog.info? 74).map (fun i => (i.zero, i.size, i.bytes)) = some (some .nilIface, 1, 16) := by kernel_rfl
theorem RdM.re {w0 w : World} {rb : Nat} {sl : Option Addr} {n c : Nat} {src : List Int} {s0 s : RS} {fold : Bool} (h : RdM w0 rb sl n c src s0 fold) (ht : Touch (fun b => b = rb) w0 w) (hb : RdB w rb sl n c s fold) (ha : s.at' ≤ n) : RdM w rb sl n c src s fold := by
 refine ⟨hb, h.len, ?_, h.ne, ha, h.n30⟩
 rcases h.src with h0 | ⟨b', o', e, hb', hc'⟩
 · exact .inl h0
 · exact .inr ⟨b', o', e, Nat.lt_of_lt_of_le hb' ht.size, fun i hi => (World.cell?_of_block (w := w0) (ht.block b' hb' (h.ne _ e))).trans (hc' i hi)⟩
theorem touch_far {w0 a b : World} {rb : Nat} (h : Touch (fun b => b = rb) w0 a) (k : Below w0.heap.size a b) : Touch (fun b => b = rb) w0 b :=
 h.trans (O' := fun x => w0.heap.size ≤ x) ⟨k.os, k.tape, k.output, k.size, fun x hx hn => k.block x (by omega)⟩ (fun x hx => .inr hx)
structure PatS (w0 w : World) (rb : Nat) (sl : Option Addr) (n c : Nat) (fold : Bool) (l : List Int) (cb mb k : Nat) (sM : Option Addr) (cM : Nat) (vs : List Value) : Prop where
 blk : RdB w rb sl n c ⟨posQ l k, 0⟩ fold
 tch : Touch (fun b => b = rb) w0 w
 cge : w0.heap.size ≤ cb
 mge : w0.heap.size ≤ mb
 cblk : w.heap[cb]? = some (.cells #[.slice none 0 0] 114 (0, 0))
 mblk : w.heap[mb]? = some (.cells #[.slice sM k cM] 117 (0, 0))
 own : w.ownsRow w0.heap.size 74 1 (.slice sM k cM) k vs
 sets : ∀ i (hi : i < vs.length) (hj : i < l.length), SetN w fold vs[i] l[i]
theorem PatS.len {w0 w : World} {rb : Nat} {sl : Option Addr} {n c : Nat} {fold : Bool} {l : List Int} {cb mb k : Nat} {sM : Option Addr} {cM : Nat} {vs : List Value} (h : PatS w0 w rb sl n c fold l cb mb k sM cM vs) : vs.length = k := by
 rw [h.own.1, Nat.mul_one]
theorem PatS.read {w0 w w2 : World} {rb : Nat} {sl : Option Addr} {n c : Nat} {fold : Bool} {l : List Int} {cb mb k : Nat} {sM : Option Addr} {cM : Nat} {vs : List Value} (h : PatS w0 w rb sl n c fold l cb mb k sM cM vs) (ht : Touch (fun b => b = rb) w w2) :
  w2.heap[cb]? = some (.cells #[.slice none 0 0] 114 (0, 0)) ∧ w2.heap[mb]? = some (.cells #[.slice sM k cM] 117 (0, 0)) ∧ w2.ownsRow w0.heap.size 74 1 (.slice sM k cM) k vs ∧ KeepS w w2 ∧ Touch (fun b => b = rb) w0 w2 := by
 refine ⟨(ht.block _ (heap_lt h.cblk) (type_ne h.cblk h.blk (by decide))).trans h.cblk, (ht.block _ (heap_lt h.mblk) (type_ne h.mblk h.blk (by decide))).trans h.mblk, ?_, KeepS.touch ht h.blk (by decide) (by decide), h.tch.trans ht (fun x hx => .inl hx)⟩
 refine own_kept h.own fun b hb => ?_
 obtain ⟨cs, h1⟩ := own_type h.own hb
 exact ht.block _ (heap_lt h1) (type_ne h1 h.blk (by decide))
theorem PatS.push {w0 w w2 w3 : World} {rb : Nat} {sl : Option Addr} {n c : Nat} {fold : Bool} {l : List Int} {cb mb k : Nat} {sM : Option Addr} {cM : Nat} {vs : List Value} (h : PatS w0 w rb sl n c fold l cb mb k sM cM vs) (ht : Touch (fun b => b = rb) w w2) {v : Value}
  (hr : RdB w2 rb sl n c ⟨posQ l (k + 1), 0⟩ fold) (hk : k < l.length) (hv : SetN w2 fold v l[k]) {s' : Option Addr} {c' : Nat} (ho : w3.ownsRow w0.heap.size 74 1 (.slice s' (k + 1) c') (k + 1) (vs ++ [v])) (hb : Below w0.heap.size w2 w3) (hoth : Oth 74 w2 w3) :
  PatS w0 (w3.setCell ⟨mb, 0, none⟩ (.slice s' (k + 1) c')) rb sl n c fold l cb mb (k + 1) s' c' (vs ++ [v]) := by
 obtain ⟨p1, p2, p3, p4, p5⟩ := h.read ht
 have m3 := hoth _ _ _ p2 (by decide)
 have c3 := hoth _ _ _ p1 (by decide)
 have r3 := hoth _ _ _ hr (by decide)
 have k3 : KeepS w2 w3 := KeepS.oth hoth (by decide) (by decide)
 have k4 : KeepS w3 (w3.setCell ⟨mb, 0, none⟩ (.slice s' (k + 1) c')) := KeepS.setCell _ m3 (by decide) (by decide)
 have hm : ∀ x, x ≠ mb → (w3.setCell ⟨mb, 0, none⟩ (.slice s' (k + 1) c')).heap[x]? = w3.heap[x]? := fun x hx => Below.heap_setCell _ _ _ _ hx
 refine ⟨(hm rb (type_ne r3 m3 (by decide))).trans r3, ?_, h.cge, h.mge, (hm cb (type_ne c3 m3 (by decide))).trans c3, ?_, ?_, ?_⟩
 · exact (touch_far p5 hb).trans (Touch.setCell (fun b => b = mb) w3 (p := ⟨mb, 0, none⟩) rfl _) (fun x hx => .inr (by rw [hx]; exact h.mge))
 · rw [block_set _ m3]; rfl
 ·
  refine own_kept ho fun b hb => ?_
  obtain ⟨cs, h1⟩ := own_type ho hb
  exact hm b (type_ne h1 m3 (by decide))
 ·
  intro i hi hj
  by_cases e : i < vs.length
  ·
   rw [List.getElem_append_left e]
   exact (((h.sets i e hj).keep p4).keep k3).keep k4
  ·
   have hl := h.len
   rw [List.length_append, List.length_singleton] at hi
   obtain rfl : i = vs.length := by omega
   rw [List.getElem_append_right (Nat.le_refl _)]
   have e2 : l[vs.length]'hj = l[k] := by congr 1
   rw [e2]
   simpa using (hv.keep k3).keep k4
structure PatE (w0 w : World) (rb : Nat) (sl : Option Addr) (n c : Nat) (fold : Bool) (l : List Int) (cb mb : Nat) (sR : Option Addr) (cR : Nat) (sM : Option Addr) (cM : Nat) (vs : List Value) : Prop where
 blk : RdB w rb sl n c ⟨(qd l).length, 0⟩ fold
 tch : Touch (fun b => b = rb) w0 w
 cblk : w.heap[cb]? = some (.cells #[.slice sR 1 cR] 114 (0, 0))
 mblk : w.heap[mb]? = some (.cells #[.slice sM l.length cM] 117 (0, 0))
 ownR : w.ownsRow w0.heap.size 74 1 (.slice sR 1 cR) 1 [.iface 115 (.pointer (some ⟨mb, 0, none⟩))]
 own : w.ownsRow w0.heap.size 74 1 (.slice sM l.length cM) l.length vs
 sets : ∀ i (hi : i < vs.length) (hj : i < l.length), SetN w fold vs[i] l[i]
theorem PatS.done {w0 w w3 : World} {rb : Nat} {sl : Option Addr} {n c : Nat} {fold : Bool} {l : List Int} {cb mb : Nat} {sM : Option Addr} {cM : Nat} {vs : List Value} (h : PatS w0 w rb sl n c fold l cb mb l.length sM cM vs)
  {s' : Option Addr} {c' : Nat} (ho : w3.ownsRow w.heap.size 74 1 (.slice s' 1 c') 1 [.iface 115 (.pointer (some ⟨mb, 0, none⟩))]) (hb : Below w.heap.size w w3) :
  PatE w0 (w3.setCell ⟨cb, 0, none⟩ (.slice s' 1 c')) rb sl n c fold l cb mb s' c' sM cM vs := by
 have hz := h.tch.size
 have hk : ∀ {b : Nat} {o : Obj}, w.heap[b]? = some o → w3.heap[b]? = some o := fun {b o} h1 => (hb.block b (heap_lt h1)).trans h1
 have m3 := hk h.mblk
 have c3 := hk h.cblk
 have r3 := hk h.blk
 have k3 : KeepS w w3 := KeepS.below hb
 have k4 : KeepS w3 (w3.setCell ⟨cb, 0, none⟩ (.slice s' 1 c')) := KeepS.setCell _ c3 (by decide) (by decide)
 have hm : ∀ x, x ≠ cb → (w3.setCell ⟨cb, 0, none⟩ (.slice s' 1 c')).heap[x]? = w3.heap[x]? := fun x hx => Below.heap_setCell _ _ _ _ hx
 have ho3 := own_later h.own hb
 refine ⟨?_, ?_, ?_, (hm mb (type_ne m3 c3 (by decide))).trans m3, ?_, ?_, fun i hi hj => ((h.sets i hi hj).keep k3).keep k4⟩
 · rw [← posQ_all]; exact (hm rb (type_ne r3 c3 (by decide))).trans r3
 · exact (touch_far h.tch (hb.mono hz)).trans (Touch.setCell (fun b => b = cb) w3 (p := ⟨cb, 0, none⟩) rfl _) (fun x hx => .inr (by rw [hx]; exact h.cge))
 · rw [block_set _ c3]; rfl
 ·
  refine own_mono (own_kept ho fun b hb => ?_) hz
  obtain ⟨cs, h1⟩ := own_type ho hb
  exact hm b (type_ne h1 c3 (by decide))
 ·
  refine own_kept ho3 fun b hb => ?_
  obtain ⟨cs, h1⟩ := own_type ho3 hb
  exact hm b (type_ne h1 c3 (by decide))
theorem PatE.drewN {w0 w : World} {rb : Nat} {sl : Option Addr} {n c : Nat} {fold : Bool} {l : List Int} {cb mb : Nat} {sR : Option Addr} {cR : Nat} {sM : Option Addr} {cM : Nat} {vs : List Value} (h : PatE w0 w rb sl n c fold l cb mb sR cR sM cM vs) (m : Nat) : PatE w0 (w.drewN m) rb sl n c fold l cb mb sR cR sM cM vs :=
 ⟨h.blk, touch_drewN h.tch, h.cblk, h.mblk, h.ownR, h.own, h.sets⟩
theorem PatS.begin (w0 w1 : World) (rb : Nat) (sl : Option Addr) (n c : Nat) (fold : Bool) (l : List Int) (hr : RdB w0 rb sl n c ⟨0, 0⟩ fold) (hw1 : w0.alloc (.cells #[.slice none 0 0] 114) = w1) (o : Obj) (ho : o = .cells #[.slice none 0 0] 117) :
  PatS w0 (w1.alloc o) rb sl n c fold l w0.heap.size (w0.heap.size + 1) 0 none 0 [] := by
 have hb1 := below_newJ w0 (.cells #[.slice none 0 0] 114)
 have hz := size_new w0 (.cells #[.slice none 0 0] 114)
 have h1 := one_new w0 (.cells #[.slice none 0 0] 114)
 rw [hw1] at hb1 hz h1
 clear hw1
 have h2 := one_new w1 o
 have h1' := at_new o h1
 have hb2 := hb1.alloc (by omega) o
 subst ho
 rw [hz] at h2
 exact ⟨(hb2.block _ (heap_lt hr)).trans hr, Touch.of hb2, Nat.le_refl _, by omega, h1', h2, World.ownsRow_nil _ _ _ 1, fun i hi => absurd hi (by simp)⟩
theorem PatS.drewN {w0 w : World} {rb : Nat} {sl : Option Addr} {n c : Nat} {fold : Bool} {l : List Int} {cb mb k : Nat} {sM : Option Addr} {cM : Nat} {vs : List Value} (h : PatS w0 w rb sl n c fold l cb mb k sM cM vs) (m : Nat) : PatS w0 (w.drewN m) rb sl n c fold l cb mb k sM cM vs :=
 ⟨h.blk, touch_drewN h.tch, h.cge, h.mge, h.cblk, h.mblk, h.own, h.sets⟩
end Go.Proofs.YtdegdoilpamjjaaDoor
namespace Go.Proofs.YtdegdoilpamjjaaDoor
open Go.RowKit
set_option linter.unusedVariables false
set_option linter.unusedSimpArgs false
theorem PM.drewN {W : World} {nv : Value} {k : Int} (h : PM W nv k) (m : Nat) : PM (W.drewN m) nv k := by
 obtain ⟨t, p, f, q, h1, h2, h3, h4, h5⟩ := h
 refine ⟨t, p, f, q, h1, h2, h3, fun m' => ?_, h5⟩
 have := h4 (m + m')
 rw [← World.drewN_drewN] at this
 exact this
theorem sumP_bound (ks : List Int) (t : Int) (ht : 0 ≤ t ∧ t ≤ 4097) (h : ∀ k ∈ ks, 0 ≤ k) : 0 ≤ sumP ks t ∧ sumP ks t ≤ 4097 := by
 induction ks generalizing t with
 | nil => exact ht
 | cons k ks ih =>
  refine ih (lidP (t + k)) ?_ (fun x hx => h x (List.mem_cons_of_mem _ hx))
  have := h k (List.mem_cons_self ..)
  unfold lidP
  omega
set_option maxRecDepth 100000 in
set_option maxHeartbeats 4000000 in
theorem parts_choice (b g off c : Nat) (vs : List Value) (ks : List Int) (w : World) (h : w.heap[b]? = some (.cells #[.slice (some ⟨g, off, none⟩) vs.length c] 114 (0, 0))) (hl : ks.length = vs.length) (hn : vs.length < 1073741824)
  (hc : ∀ i (hi : i < vs.length), w.cell? ⟨g, off + i, none⟩ = some vs[i]) (hP : ∀ i (hi : i < vs.length) (hj : i < ks.length), PM w vs[i] ks[i]) (hS : 0 ≤ sumP ks 0 ∧ sumP ks 0 ≤ 4097) :
  Calls Tryd.prog 127 #[.pointer (some ⟨b, 0, none⟩)] w fun e w' => e = .returned (.int .i64 (lidP (sumP ks 0 + vs.length - 1))) ∧ ∃ m, w' = w.drewN m := by
 have hT : ∀ m, Calls Tryd.prog 129 #[.slice (some ⟨g, off, none⟩) vs.length c] (w.drewN m) fun e w' => e = .returned (.int .i64 (sumP ks 0)) ∧ ∃ m', w' = (w.drewN m).drewN m' :=
  fun m => total_c g off c vs ks (w.drewN m) hl hn (fun i hi => hc i hi) (fun i hi hj => (hP i hi hj).drewN m)
 have HT := Lib.hid hT
 have b0 : w.cell? ⟨b, 0, none⟩ = some (.slice (some ⟨g, off, none⟩) vs.length c) := block_cell h
 clear h hl hc hP hT
 generalize sumP ks 0 = S at HT hS ⊢
 generalize vs.length = n at HT b0 hn ⊢
 obtain ⟨h1, h2⟩ := hS
 have q1 : IntKind.i64.wrap (S + (n : Int)) = S + (n : Int) := by rw [IntKind.wrap_i64]; omega
 have q2 : IntKind.i64.wrap (S + (n : Int) - 1) = S + (n : Int) - 1 := by rw [IntKind.wrap_i64]; omega
 have HLD : Hid (∀ m, Calls Tryd.prog 128 #[.int .i64 (S + (n : Int) - 1)] (w.drewN m) fun e w' => e = .returned (.int .i64 (lidP (S + (n : Int) - 1))) ∧ ∃ m', w' = (w.drewN m).drewN m') := Lib.hid (fun m => (lid_c _ _).mono (fun e w' ⟨h1, h2⟩ => ⟨h1, 0, h2.trans rfl⟩))
 go_enter Tryd.func127, Tryd.ntmps127
 go_wp2_with fail
 go_quiet (first | (go_at_call 129; with_reducible exact Calls.quiet_of (HT.out _)) | (go_at_call 128; with_reducible exact Calls.quiet_of (HLD.out _)))
 go_wp2
 go_ret
 exact ⟨rfl, _, rfl⟩
theorem sumP_ones (n : Nat) (t : Int) (ht : 0 ≤ t) (h : t + n ≤ 4097) : sumP (List.replicate n 1) t = t + n := by
 induction n generalizing t with
 | zero => show t = _; omega
 | succ n ih =>
  show sumP (List.replicate n 1) (lidP (t + 1)) = _
  have e : lidP (t + 1) = t + 1 := by unfold lidP; omega
  rw [e, ih (t + 1) (by omega) (by omega)]
  omega
theorem SetN.pm {w : World} {fold : Bool} {v : Value} {x : Int} (h : SetN w fold v x) : PM w v 1 := by
 obtain ⟨b, g, rfl, _, _⟩ := h
 exact ⟨_, _, _, _, rfl, fun w => parts_m_set _ w, fun w => parts_f_set _ w, fun m => (parts_set _ _).mono (fun e w' ⟨h1, h2⟩ => ⟨h1, 0, h2.trans rfl⟩), by decide, by decide⟩
theorem own_block {w : World} {base : Nat} {e : TypeId} {n : Nat} {v : Value} {vs : List Value} (h : w.ownsRow base e 1 v n vs) (hn : 0 < n) : ∃ g c, v = .slice (some ⟨g, 0, none⟩) n c ∧ vs.length = n ∧ ∀ i (hi : i < vs.length), w.cell? ⟨g, 0 + i, none⟩ = some vs[i] := by
 have h' := h
 rcases h.2 with ⟨h1, h2⟩ | ⟨g, cap, cur, h1, _, _, h2, _⟩
 · omega
 ·
  subst h1
  have hl : vs.length = n := by rw [h.1, Nat.mul_one]
  refine ⟨g, cap, rfl, hl, fun i hi => ?_⟩
  rw [Nat.zero_add, World.ownsRow.cellAt h' i (by omega), List.getElem?_eq_getElem hi]
set_option maxRecDepth 100000 in
theorem PatE.parts {w0 w : World} {rb : Nat} {sl : Option Addr} {n c : Nat} {fold : Bool} {l : List Int} {cb mb : Nat} {sR : Option Addr} {cR : Nat} {sM : Option Addr} {cM : Nat} {vs : List Value} (h : PatE w0 w rb sl n c fold l cb mb sR cR sM cM vs) (hl : 0 < l.length) (hl2 : l.length ≤ 4000) :
  Calls Tryd.prog 127 #[.pointer (some ⟨cb, 0, none⟩)] w fun e w' => e = .returned (.int .i64 l.length) ∧ ∃ m, w' = w.drewN m := by
 obtain ⟨g, c1, e1, hlen, hcell⟩ := own_block h.own hl
 obtain ⟨rfl, -, rfl⟩ := Value.slice.inj e1
 have hrow : PM w (.iface 115 (.pointer (some ⟨mb, 0, none⟩))) l.length := by
  refine ⟨_, _, _, _, rfl, fun w => parts_m_row _ w, fun w => parts_f_row _ w, fun m => ?_, by omega, by omega⟩
  have hm := h.mblk
  rw [← hlen] at hm
  have := parts_row mb g 0 _ vs (List.replicate vs.length 1) (w.drewN m) hm (by simp) (by omega) (fun i hi => hcell i hi) (fun i hi hj => by
   rw [List.getElem_replicate]
   exact ((h.sets i hi (by omega)).pm).drewN m)
  rw [sumP_ones _ 0 (by decide) (by omega), hlen, Int.zero_add] at this
  exact this
 obtain ⟨g2, c2, e2, hlen2, hcell2⟩ := own_block h.ownR (by decide)
 obtain ⟨rfl, -, rfl⟩ := Value.slice.inj e2
 have := parts_choice cb g2 0 _ [.iface 115 (.pointer (some ⟨mb, 0, none⟩))] [(l.length : Int)] w h.cblk rfl (by show 1 < _; omega) hcell2 (fun i hi hj => by
  have : i = 0 := by simpa using hi
  subst this
  exact hrow) (sumP_bound _ _ (by decide) (by intro k hk; rw [List.mem_singleton] at hk; omega))
 have e : lidP (sumP [(l.length : Int)] 0 + ([Value.iface 115 (.pointer (some ⟨mb, 0, none⟩))] : List Value).length - 1) = l.length := by
  show lidP (lidP (0 + (l.length : Int)) + ((1 : Nat) : Int) - 1) = _
  unfold lidP
  omega
 rw [e] at this
 exact this
end Go.Proofs.YtdegdoilpamjjaaDoor
namespace Go.Proofs.YtdegdoilpamjjaaDoor
open Go.RowKit
set_option linter.unusedVariables false
set_option linter.unusedSimpArgs false
theorem raw_c (a : Int) (w : World) : Calls Tryd.prog 94 #[.int .i64 a] w fun e w' => e = .returned (.bool (rawB a)) ∧ w' = w := by
 obtain ⟨d, hd⟩ : ∃ d, rawB a = d := ⟨_, rfl⟩
 rw [hd]
 have HD := Lib.hid hd
 clear hd
 by_cases h1 : -256 ≤ a
 ·
  by_cases h2 : a < 0
  ·
   go_enter Tryd.func94, Tryd.ntmps94
   go_wp2
   go_ret
   exact ⟨ret_bool (by rw [← HD.out]; unfold rawB; simp [h1, h2]), rfl⟩
  ·
   go_enter Tryd.func94, Tryd.ntmps94
   go_wp2
   go_ret
   exact ⟨ret_bool (by rw [← HD.out]; unfold rawB; simp [h1, h2]), rfl⟩
 ·
  go_enter Tryd.func94, Tryd.ntmps94
  go_wp2
  go_ret
  exact ⟨ret_bool (by rw [← HD.out]; unfold rawB; exact (decide_eq_false (by omega)).symm), rfl⟩
theorem nx_more {src : List Int} {s s1 : RS} {c : Int} (h : nx src s = .ok (c, s1)) : s1.at' = s.at' + 1 ∧ s1.groups = s.groups := by
 unfold nx at h
 split at h
 · cases h
 ·
  injection h with h
  injection h with _ h
  rw [← h]
  exact ⟨rfl, rfl⟩
theorem hexP_more {src : List Int} {top : Int} : ∀ (i : Nat) (n : Int) (s s1 : RS) (v : Int), hexP src top i n s = .ok (v, s1) → s.at' ≤ s1.at' ∧ s1.groups = s.groups
 | 0, n, s, s1, v, h => by
  unfold hexP at h
  injection h with h
  injection h with _ h
  rw [← h]
  exact ⟨Nat.le_refl _, rfl⟩
 | i + 1, n, s, s1, v, h => by
  unfold hexP at h
  split at h
  · cases h
  ·
   rename_i c s2 hn
   obtain ⟨h1, h2⟩ := nx_more hn
   split at h
   · cases h
   ·
    obtain ⟨h3, h4⟩ := hexP_more i _ _ _ _ h
    exact ⟨by omega, by rw [h4, h2]⟩
theorem sign_more {src : List Int} {s s1 : RS} {r : Int × Option Int} (h : signP src s = .ok (r, s1)) : s.at' + 1 ≤ s1.at' ∧ s1.groups = s.groups := by
 unfold signP at h
 split at h
 · cases h
 ·
  rename_i c s2 hn
  obtain ⟨h1, h2⟩ := nx_more hn
  split at h
  ·
   injection h with h
   injection h with _ h
   rw [← h]
   exact ⟨by omega, h2⟩
  ·
   split at h
   · cases h
   ·
    rename_i c2 s3 hn2
    obtain ⟨h3, h4⟩ := nx_more hn2
    have hh : ∀ (x : RR (Int × Option Int)), x = .ok (r, s1) → (∃ q, x = .ok (q, s3)) → s.at' + 1 ≤ s1.at' ∧ s1.groups = s.groups := by
     rintro x hx ⟨q, hq⟩
     rw [hx] at hq
     injection hq with hq
     injection hq with _ hq
     rw [hq]
     exact ⟨by omega, by rw [h4, h2]⟩
    split at h
    · exact hh _ h ⟨_, rfl⟩
    ·
     split at h
     · exact hh _ h ⟨_, rfl⟩
     ·
      split at h
      · exact hh _ h ⟨_, rfl⟩
      ·
       split at h
       ·
        split at h
        · cases h
        ·
         rename_i v s4 hx
         obtain ⟨h5, h6⟩ := hexP_more _ _ _ _ _ hx
         injection h with h
         injection h with _ h
         rw [← h]
         exact ⟨by omega, by rw [h6, h4, h2]⟩
       ·
        split at h
        · exact hh _ h ⟨_, rfl⟩
        · cases h
theorem Tryd.infoSpan : (Tryd.prog.info? 144).map (fun i => (i.zero, i.size, i.bytes)) = some (some (.agg #[.int .i64 0, .int .i64 0]), 2, 16) := by kernel_rfl
theorem Tryd.infoKind : (Tryd.prog.info? 97).map (fun i => (i.zero, i.size, i.bytes)) = some (some .nilFunc, 1, 8) := by kernel_rfl
theorem spanV_push (l : List (Int × Int)) (x : Int × Int) : spanV (l ++ [x]) = spanV l ++ [.int .i64 x.1, .int .i64 x.2] := by unfold spanV; rw [List.flatMap_append]; simp
theorem kindsV_push (l : List Int) (x : Int) : kindsV (l ++ [x]) = kindsV l ++ [kindV x] := by unfold kindsV; rw [List.map_append]; rfl
structure ClS (w0 w : World) (rb : Nat) (sl : Option Addr) (n c : Nat) (src : List Int) (fold : Bool) (sb : Nat) (s : RS) (nt : Bool) (rs : List (Int × Int)) (ks : List Int) (s1 : Option Addr) (n1 c1 : Nat) (s2 : Option Addr) (n2 c2 : Nat) : Prop where
 rd : RdM w rb sl n c src s fold
 tch : Touch (fun b => b = rb) w0 w
 sge : w0.heap.size ≤ sb
 blk : w.heap[sb]? = some (.cells #[.slice s1 n1 c1, .slice s2 n2 c2, .bool nt, .bool fold] 135 (0, 0))
 own1 : w.ownsRow w0.heap.size 144 2 (.slice s1 n1 c1) n1 (spanV rs)
 own2 : w.ownsRow w0.heap.size 97 1 (.slice s2 n2 c2) n2 (kindsV ks)
theorem ClS.moved {w0 w w' : World} {rb : Nat} {sl : Option Addr} {n c : Nat} {src : List Int} {fold : Bool} {sb : Nat} {s s' : RS} {nt : Bool} {rs : List (Int × Int)} {ks : List Int} {s1 : Option Addr} {n1 c1 : Nat} {s2 : Option Addr} {n2 c2 : Nat} (h : ClS w0 w rb sl n c src fold sb s nt rs ks s1 n1 c1 s2 n2 c2)
  (ht : Touch (fun b => b = rb) w w') (hr : RdM w' rb sl n c src s' fold) : ClS w0 w' rb sl n c src fold sb s' nt rs ks s1 n1 c1 s2 n2 c2 := by
 have hk : ∀ (b : Nat) (cs : Array Value) (t : TypeId), w.heap[b]? = some (.cells cs t (0, 0)) → t ≠ 72 → w'.heap[b]? = w.heap[b]? := fun b cs t hb hne => ht.block b (heap_lt hb) (type_ne hb h.rd.blk hne)
 refine ⟨hr, h.tch.trans ht (fun x hx => .inl hx), h.sge, (hk _ _ _ h.blk (by decide)).trans h.blk, own_kept h.own1 fun b hb => ?_, own_kept h.own2 fun b hb => ?_⟩
 ·
  obtain ⟨cs, h1⟩ := own_type h.own1 hb
  exact hk _ _ _ h1 (by decide)
 ·
  obtain ⟨cs, h1⟩ := own_type h.own2 hb
  exact hk _ _ _ h1 (by decide)
theorem RdM.oth {T : TypeId} {w0 w w' : World} {rb : Nat} {sl : Option Addr} {n c : Nat} {src : List Int} {s s0 : RS} {fold : Bool} (h0 : RdM w0 rb sl n c src s0 fold) (h : RdM w rb sl n c src s fold) (ht : Touch (fun b => b = rb) w0 w) (hb : Below w0.heap.size w w') : RdM w' rb sl n c src s fold :=
 h0.re (touch_far ht hb) ((hb.block rb (heap_lt h0.blk)).trans h.blk) h.at'
theorem ClS.span {w0 w w3 : World} {rb : Nat} {sl : Option Addr} {n c : Nat} {src : List Int} {fold : Bool} {sb : Nat} {s s0 : RS} {nt : Bool} {rs : List (Int × Int)} {ks : List Int} {s1 : Option Addr} {n1 c1 : Nat} {s2 : Option Addr} {n2 c2 : Nat} (h0 : RdM w0 rb sl n c src s0 fold) (h : ClS w0 w rb sl n c src fold sb s nt rs ks s1 n1 c1 s2 n2 c2)
  {x : Int × Int} {s' : Option Addr} {c' : Nat} (ho : w3.ownsRow w0.heap.size 144 2 (.slice s' (n1 + 1) c') (n1 + 1) (spanV rs ++ [.int .i64 x.1, .int .i64 x.2])) (hb : Below w0.heap.size w w3) (hoth : Oth 144 w w3) :
  ClS w0 (w3.setCell ⟨sb, 0, none⟩ (.slice s' (n1 + 1) c')) rb sl n c src fold sb s nt (rs ++ [x]) ks s' (n1 + 1) c' s2 n2 c2 := by
 have b3 := hoth _ _ _ h.blk (by decide)
 have hb4 : Below w0.heap.size w (w3.setCell ⟨sb, 0, none⟩ (.slice s' (n1 + 1) c')) := hb.setCell (p := ⟨sb, 0, none⟩) h.sge _
 refine ⟨RdM.oth (T := 0) h0 h.rd h.tch hb4, touch_far h.tch hb4, h.sge, by rw [block_set _ b3]; rfl, ?_, own_kept h.own2 fun b hb => ?_⟩
 ·
  rw [spanV_push]
  refine own_kept ho fun b hb => ?_
  obtain ⟨cs, h1⟩ := own_type ho hb
  exact Below.heap_setCell _ ⟨sb, 0, none⟩ _ _ (type_ne h1 b3 (by decide))
 ·
  obtain ⟨cs, h1⟩ := own_type h.own2 hb
  have h2 := hoth _ _ _ h1 (by decide)
  exact ((Below.heap_setCell _ ⟨sb, 0, none⟩ _ _ (type_ne h2 b3 (by decide))).trans h2).trans h1.symm
theorem ClS.kind {w0 w w3 : World} {rb : Nat} {sl : Option Addr} {n c : Nat} {src : List Int} {fold : Bool} {sb : Nat} {s s0 : RS} {nt : Bool} {rs : List (Int × Int)} {ks : List Int} {s1 : Option Addr} {n1 c1 : Nat} {s2 : Option Addr} {n2 c2 : Nat} (h0 : RdM w0 rb sl n c src s0 fold) (h : ClS w0 w rb sl n c src fold sb s nt rs ks s1 n1 c1 s2 n2 c2)
  {x : Int} {s' : Option Addr} {c' : Nat} (ho : w3.ownsRow w0.heap.size 97 1 (.slice s' (n2 + 1) c') (n2 + 1) (kindsV ks ++ [kindV x])) (hb : Below w0.heap.size w w3) (hoth : Oth 97 w w3) :
  ClS w0 (w3.setCell ⟨sb, 1, none⟩ (.slice s' (n2 + 1) c')) rb sl n c src fold sb s nt rs (ks ++ [x]) s1 n1 c1 s' (n2 + 1) c' := by
 have b3 := hoth _ _ _ h.blk (by decide)
 have hb4 : Below w0.heap.size w (w3.setCell ⟨sb, 1, none⟩ (.slice s' (n2 + 1) c')) := hb.setCell (p := ⟨sb, 1, none⟩) h.sge _
 refine ⟨RdM.oth (T := 0) h0 h.rd h.tch hb4, touch_far h.tch hb4, h.sge, by rw [block_set _ b3]; rfl, own_kept h.own1 fun b hb => ?_, ?_⟩
 ·
  obtain ⟨cs, h1⟩ := own_type h.own1 hb
  have h2 := hoth _ _ _ h1 (by decide)
  exact ((Below.heap_setCell _ ⟨sb, 1, none⟩ _ _ (type_ne h2 b3 (by decide))).trans h2).trans h1.symm
 ·
  rw [kindsV_push]
  refine own_kept ho fun b hb => ?_
  obtain ⟨cs, h1⟩ := own_type ho hb
  exact Below.heap_setCell _ ⟨sb, 1, none⟩ _ _ (type_ne h1 b3 (by decide))
theorem own_slr {w : World} {B k : Nat} {t : TypeId} {s : Option Addr} {m c : Nat} {xs : List Value} (h : w.ownsRow B t k (.slice s m c) m xs) : SlR w B w.heap.size k (.slice s m c) xs := by
 refine ⟨s, m, c, rfl, by rw [h.1], ?_⟩
 rcases h.2 with ⟨h1, h2⟩ | ⟨g, cap, cur, h1, hg, hgg, _, _, _, htk⟩
 · exact .inl (by rw [h.1, h2, Nat.zero_mul])
 ·
  obtain ⟨rfl, -, rfl⟩ := Value.slice.inj h1
  refine .inr ⟨g, 0, cur, _, _, rfl, hg, heap_lt hgg, hgg, fun i hi => ?_⟩
  rw [Nat.zero_add, ← htk, List.getElem?_take, if_pos (by rw [← h.1]; exact hi)]
  simp
theorem ClS.node {w0 w : World} {rb : Nat} {sl : Option Addr} {n c : Nat} {src : List Int} {fold : Bool} {sb : Nat} {s : RS} {nt : Bool} {rs : List (Int × Int)} {ks : List Int} {s1 : Option Addr} {n1 c1 : Nat} {s2 : Option Addr} {n2 c2 : Nat} (h : ClS w0 w rb sl n c src fold sb s nt rs ks s1 n1 c1 s2 n2 c2) :
  NdR w w0.heap.size w.heap.size (.iface 78 (.pointer (some ⟨sb, 0, none⟩))) (.set rs ks nt fold) :=
 .set sb _ _ rs ks nt fold h.sge (heap_lt h.blk) h.blk (own_slr h.own1) (own_slr h.own2)
end Go.Proofs.YtdegdoilpamjjaaDoor
namespace Go.Proofs.YtdegdoilpamjjaaDoor
open Go.RowKit
set_option linter.unusedVariables false
set_option linter.unusedSimpArgs false
theorem Tryd.infoAct : (Tryd.prog.info? 80).map (fun i => (i.zero, i.size, i.bytes)) = some (some (.agg #[.int .i64 0, .int .i64 0, .int .i64 0, .pointer none]), 4, 32) := by kernel_rfl
structure PaS (w : World) (base pb : Nat) (groups : Int) (n : Nat) (xs : List Value) (sA : Option Addr) (cA : Nat) : Prop where
 blk : w.heap[pb]? = some (.cells #[.slice sA n cA, .int .i64 groups, .int .i64 0] 62 (0, 0))
 own : w.ownsRow base 80 4 (.slice sA n cA) n xs
 low : base ≤ pb
structure FrA (base : Nat) (w w' : World) : Prop where
 below : Below base w w'
 oth : ∀ (b : Nat) (cs : Array Value) (t : TypeId), w.heap[b]? = some (.cells cs t (0, 0)) → t ≠ 62 → t ≠ 80 → w'.heap[b]? = some (.cells cs t (0, 0))
theorem FrA.refl (base : Nat) (w : World) : FrA base w w := ⟨Below.refl _ _, fun _ _ _ h _ _ => h⟩
theorem FrA.trans {base : Nat} {a b c : World} (h : FrA base a b) (k : FrA base b c) : FrA base a c := ⟨h.below.trans k.below, fun x cs t h1 h2 h3 => k.oth x cs t (h.oth x cs t h1 h2 h3) h2 h3⟩
theorem FrA.new {base : Nat} {a b : World} (h : Below a.heap.size a b) (hb : base ≤ a.heap.size) : FrA base a b := ⟨h.mono hb, fun x cs t h1 _ _ => (h.block x (heap_lt h1)).trans h1⟩
theorem FrA.set {base : Nat} {w : World} {pb i : Nat} {cs : Array Value} (v : Value) (h : w.heap[pb]? = some (.cells cs 62 (0, 0))) (hb : base ≤ pb) : FrA base w (w.setCell ⟨pb, i, none⟩ v) :=
 ⟨(Below.refl base w).setCell (p := ⟨pb, i, none⟩) hb v, fun x cs t h1 h2 _ => (Below.heap_setCell _ _ _ _ (type_ne h1 h h2)).trans h1⟩
theorem FrA.push {base : Nat} {w w' : World} (h : Below base w w') (k : Oth 80 w w') : FrA base w w' := ⟨h, fun x cs t h1 _ h3 => k x cs t h1 h3⟩
theorem PaS.later {w w' : World} {base pb : Nat} {groups : Int} {n : Nat} {xs : List Value} {sA : Option Addr} {cA : Nat} (h : PaS w base pb groups n xs sA cA) (hb : Below w.heap.size w w') : PaS w' base pb groups n xs sA cA :=
 ⟨(hb.block _ (heap_lt h.blk)).trans h.blk, own_later h.own hb, h.low⟩
theorem PaS.push {w w3 : World} {base pb : Nat} {groups : Int} {n : Nat} {xs x : List Value} {sA : Option Addr} {cA : Nat} (h : PaS w base pb groups n xs sA cA) {s' : Option Addr} {c' : Nat} (ho : w3.ownsRow base 80 4 (.slice s' (n + 1) c') (n + 1) (xs ++ x)) (hb : Below base w w3) (k : Oth 80 w w3) :
  PaS (w3.setCell ⟨pb, 0, none⟩ (.slice s' (n + 1) c')) base pb groups (n + 1) (xs ++ x) s' c' ∧ FrA base w (w3.setCell ⟨pb, 0, none⟩ (.slice s' (n + 1) c')) := by
 have b3 := k _ _ _ h.blk (by decide)
 refine ⟨⟨by rw [block_set _ b3]; rfl, own_kept ho fun b hb => ?_, h.low⟩, (FrA.push hb k).trans (FrA.set _ b3 h.low)⟩
 obtain ⟨cs, h1⟩ := own_type ho hb
 exact Below.heap_setCell _ _ _ _ (type_ne h1 b3 (by decide))
theorem PaS.deep {w : World} {base pb : Nat} {groups : Int} {n : Nat} {xs : List Value} {sA : Option Addr} {cA : Nat} (h : PaS w base pb groups n xs sA cA) :
  PaS (w.setCell ⟨pb, 2, none⟩ (.int .i64 0)) base pb groups n xs sA cA ∧ FrA base w (w.setCell ⟨pb, 2, none⟩ (.int .i64 0)) := by
 refine ⟨⟨by rw [block_set _ h.blk]; rfl, own_kept h.own fun b hb => ?_, h.low⟩, FrA.set _ h.blk h.low⟩
 obtain ⟨cs, h1⟩ := own_type h.own hb
 exact Below.heap_setCell _ _ _ _ (type_ne h1 h.blk (by decide))
theorem four_one (k x y : Int) (sv : Option Addr) : ∀ u ∈ ([.int .i64 k, .int .i64 x, .int .i64 y, .pointer sv] : List Value), u.oneCell' = true := by
 intro u hu
 simp only [List.mem_cons, List.not_mem_nil, or_false] at hu
 rcases hu with rfl | rfl | rfl | rfl <;> rfl
theorem as_set_set (v : Value) (w : World) : (Instr.typeAssert (.iface 78 v) 74 78 true).run Tryd.prog w = .ok (.tuple #[v, .bool true]) w := by kernel_rfl
theorem as_row_set (v : Value) (w : World) : (Instr.typeAssert (.iface 115 v) 74 78 true).run Tryd.prog w = .ok (.tuple #[.pointer none, .bool false]) w := by kernel_rfl
theorem as_row_edge (v : Value) (w : World) : (Instr.typeAssert (.iface 115 v) 74 118 true).run Tryd.prog w = .ok (.tuple #[.pointer none, .bool false]) w := by kernel_rfl
theorem as_row_row (v : Value) (w : World) : (Instr.typeAssert (.iface 115 v) 74 115 true).run Tryd.prog w = .ok (.tuple #[v, .bool true]) w := by kernel_rfl
theorem as_choice_set (v : Value) (w : World) : (Instr.typeAssert (.iface 111 v) 74 78 true).run Tryd.prog w = .ok (.tuple #[.pointer none, .bool false]) w := by kernel_rfl
theorem as_choice_edge (v : Value) (w : World) : (Instr.typeAssert (.iface 111 v) 74 118 true).run Tryd.prog w = .ok (.tuple #[.pointer none, .bool false]) w := by kernel_rfl
theorem as_choice_row (v : Value) (w : World) : (Instr.typeAssert (.iface 111 v) 74 115 true).run Tryd.prog w = .ok (.tuple #[.pointer none, .bool false]) w := by kernel_rfl
theorem as_choice_choice (v : Value) (w : World) : (Instr.typeAssert (.iface 111 v) 74 111 true).run Tryd.prog w = .ok (.tuple #[v, .bool true]) w := by kernel_rfl
def actC (v : Value) : List Value := match v with | .iface _ (.pointer p) => [.int .i64 0, .int .i64 0, .int .i64 0, .pointer p] | _ => []
end Go.Proofs.YtdegdoilpamjjaaDoor
