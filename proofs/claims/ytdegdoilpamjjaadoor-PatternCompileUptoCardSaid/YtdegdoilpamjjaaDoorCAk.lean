/- Contract of the pattern's reader: member, above thing. Condition: no more than 2^30 ints. Contract of the pattern's reader: inside, above pattern. Condition: no more than 2^30 ints. Lists of nodes while they grow: each node has a stretch of blocks of its own, outside the blocks that are written. No walk. An append of one element, telling all that it leaves alone. No walk. The acts of a pattern in memory, while it is compiled; emit. No more than 10^9 acts. -/
import Derived.Test.YtdegdoilpamjjaaDoorCAj
import Derived.Test.YtdegdoilpamjjaaDoorCAf
import Derived.Test.YtdegdoilpamjjaaDoorCAh
import Derived.Test.YtdegdoilpamjjaaDoorCAi
namespace Go.Proofs.YtdegdoilpamjjaaDoor
open Go.RowKit
set_option linter.unusedVariables false
set_option linter.unusedSimpArgs false
theorem edgeR (w : World) (what : Int) : NdR (w.alloc (.cells #[.int .i64 what] 120)) w.heap.size (w.alloc (.cells #[.int .i64 what] 120)).heap.size (.iface 118 (.pointer (some ⟨w.heap.size, 0, none⟩))) (.edge what) :=
 .edge w.heap.size what (Nat.le_refl _) (heap_lt (one_new w _)) (one_new w _)
def memT (src : List Int) : RR Nd → RR Nd
 | .error e => .error e
 | .ok (x, s1) => timesP src x s1
theorem memP_eq (src : List Int) (fold : Bool) (f : Nat) (s : RS) : memP src fold (f + 1) s = if pk src s.at' 0 = 94 ∨ pk src s.at' 0 = 36 then .ok (.edge (pk src s.at' 0), { s with at' := s.at' + 1 })
  else if escB src s.at' 60 = true ∨ escB src s.at' 62 = true then .ok (.edge (srcAt src (s.at' + 1)), { s with at' := s.at' + 2 }) else memT src (thingP src fold f s) := by
 rw [memP]
 by_cases h1 : pk src s.at' 0 = 94 ∨ pk src s.at' 0 = 36
 · rw [if_pos h1, if_pos h1]
 ·
  rw [if_neg h1, if_neg h1]
  by_cases h2 : escB src s.at' 60 = true ∨ escB src s.at' 62 = true
  · rw [if_pos h2, if_pos h2]
  ·
   rw [if_neg h2, if_neg h2]
   rcases thingP src fold f s with e | ⟨x, s1⟩ <;> rfl
set_option maxRecDepth 100000 in
set_option maxHeartbeats 16000000 in
theorem member_c (rb : Nat) (sl : Option Addr) (n c : Nat) (src : List Int) (s : RS) (fold : Bool) (w : World) (f : Nat) (h : RdM w rb sl n c src s fold)
  (hTh : ∀ (w' : World), RdM w' rb sl n c src s fold → Calls Tryd.prog 70 #[.pointer (some ⟨rb, 0, none⟩)] w' (RdP w' rb sl n c src fold (thingP src fold f s) (fun x w'' v => NdR w'' w'.heap.size w''.heap.size v x))) :
  Calls Tryd.prog 54 #[.pointer (some ⟨rb, 0, none⟩)] w (RdP w rb sl n c src fold (memP src fold (f + 1) s) (fun x w' v => NdR w' w.heap.size w'.heap.size v x)) := by
 obtain ⟨RR, hRR⟩ : ∃ RR, memP src fold (f + 1) s = RR := ⟨_, rfl⟩
 rw [hRR]
 rw [memP_eq] at hRR
 have hn30 := h.n30
 have hlen := h.len
 have HTH := Lib.hid hTh
 have HR := Lib.hid h
 clear hTh h
 by_cases hE : pk src s.at' 0 = 94 ∨ pk src s.at' 0 = 36
 ·
  have hlt : s.at' < src.length := pk_lt (show pk src s.at' 0 ≠ -4611686018427387904 from by rcases hE with h | h <;> rw [h] <;> decide)
  rw [if_pos hE] at hRR
  have HRES := Lib.hid hRR.symm
  clear hRR
  go_enter Tryd.func54, Tryd.ntmps54
  go_wp2_with fail
  refine (peek_c rb sl n c src s fold 0 _ HR.out (by decide)).mono ?_
  rintro e w2 ⟨rfl, m, rfl⟩
  have HR2 := Lib.hid (HR.out.drewN m)
  have HT2 := Lib.hid (touch_drewN (n := m) (Touch.refl (fun b => b = rb) w))
  clear HR
  generalize World.drewN _ m = w2 at HR2 HT2 ⊢
  generalize pk src s.at' 0 = p0 at hE HRES ⊢
  have b1 : w2.cell? ⟨rb, 1, none⟩ = some (.int .i64 s.at') := block_cell HR2.out.blk
  have f1 : w2.frozen? ⟨rb, 1, none⟩ = false := block_free HR2.out.blk
  have q3 : IntKind.i64.wrap ((s.at' : Int) + 1) = ((s.at' + 1 : Nat) : Int) := by rw [IntKind.wrap_i64]; omega
  have HR3 := Lib.hid (HR2.out.step 1 (by omega))
  have HT3 := Lib.hid (HT2.out.trans (Touch.setCell (fun b => b = rb) w2 (p := ⟨rb, 1, none⟩) rfl (.int .i64 ((s.at' + 1 : Nat) : Int))) (fun x hx => .inl hx))
  rcases hE with rfl | rfl
  all_goals
   go_upto_region 4 with (fail)
   rw [show ((s.at' : Int) + 1) = ((s.at' + 1 : Nat) : Int) from by omega]
   generalize World.setCell _ _ _ = w3 at HR3 HT3 ⊢
   clear b1 f1 q3 HR2 HT2
   go_wp2
   go_ret
   rw [HRES.out]
   exact ⟨HT3.out.trans (Touch.of (O := fun b => b = rb) (below_newJ w3 _)) (fun x hx => .inl hx), ⟨_, rfl, (edgeR w3 _).wide HT3.out.size (Nat.le_refl _)⟩, HR3.out.later (below_newJ w3 _)⟩
 ·
  rw [if_neg hE] at hRR
  have n94 : (pk src s.at' 0 == 94) = false := by rw [beq_eq_false_iff_ne]; exact fun h => hE (.inl h)
  have n36 : (pk src s.at' 0 == 36) = false := by rw [beq_eq_false_iff_ne]; exact fun h => hE (.inr h)
  by_cases h6 : escB src s.at' 60 = true ∨ escB src s.at' 62 = true
  ·
   have hlt : s.at' + 1 < n := by
    rcases h6 with h | h
    · have := (esc_at h).1; omega
    · have := (esc_at h).1; omega
   obtain ⟨x, hch⟩ : ∃ x, gl src (s.at' + 1) = x := ⟨_, rfl⟩
   rw [if_pos h6, ← gl_srcAt, hch] at hRR
   have HRES := Lib.hid hRR.symm
   obtain ⟨gs, off, hg, _⟩ := HR.out.src.at (Below.refl _ _) hlt
   subst hg
   clear hRR
   go_enter Tryd.func54, Tryd.ntmps54
   go_wp2_with fail
   refine (peek_c rb _ n c src s fold 0 _ HR.out (by decide)).mono ?_
   rintro e w2 ⟨rfl, m, rfl⟩
   have HR2 := Lib.hid (HR.out.drewN m)
   have HT2 := Lib.hid (touch_drewN (n := m) (Touch.refl (fun b => b = rb) w))
   clear HR
   generalize World.drewN _ m = w2 at HR2 HT2 ⊢
   generalize pk src s.at' 0 = p0 at n94 n36 ⊢
   by_cases h60 : escB src s.at' 60 = true
   ·
    have E60 := Lib.hid h60
    clear h60 h6
    go_wp2_with fail
    refine (escaped_c rb _ n c src s fold 60 _ HR2.out).mono ?_
    rintro e w3 ⟨rfl, m, rfl⟩
    rw [E60.out]
    have HR3 := Lib.hid (HR2.out.drewN m)
    have HT3 := Lib.hid (touch_drewN (n := m) HT2.out)
    clear HR2 HT2
    generalize World.drewN _ m = w3 at HR3 HT3 ⊢
    have b1 : w3.cell? ⟨rb, 1, none⟩ = some (.int .i64 s.at') := block_cell HR3.out.blk
    have f1 : w3.frozen? ⟨rb, 1, none⟩ = false := block_free HR3.out.blk
    have q3 : IntKind.i64.wrap ((s.at' : Int) + 2) = ((s.at' + 2 : Nat) : Int) := by rw [IntKind.wrap_i64]; omega
    have HR5 := Lib.hid (HR3.out.step 2 (by omega))
    have HT5 := Lib.hid (HT3.out.trans (Touch.setCell (fun b => b = rb) w3 (p := ⟨rb, 1, none⟩) rfl (.int .i64 ((s.at' + 2 : Nat) : Int))) (fun x hx => .inl hx))
    go_upto_region 7 with (fail)
    rw [show ((s.at' : Int) + 2) = ((s.at' + 2 : Nat) : Int) from by omega]
    generalize World.setCell _ _ _ = w5 at HR5 HT5 ⊢
    clear b1 f1 q3 HR3 HT3
    have b0 : w5.cell? ⟨rb, 0, none⟩ = some (.slice (some ⟨gs, off, none⟩) n c) := block_cell HR5.out.blk
    have b1 : w5.cell? ⟨rb, 1, none⟩ = some (.int .i64 ((s.at' + 2 : Nat) : Int)) := block_cell HR5.out.blk
    have c0 : w5.cell? ⟨gs, off + (s.at' + 1), none⟩ = some (.int .i64 x) := by
     obtain ⟨g', o', e, c0⟩ := HR5.out.src.at (Below.refl _ _) hlt
     cases e
     rw [hch] at c0
     exact c0
    have q5 : IntKind.i64.wrap (((s.at' + 2 : Nat) : Int) - 1) = ((s.at' + 1 : Nat) : Int) := by rw [IntKind.wrap_i64]; omega
    have q6 : ((s.at' + 1 : Nat) : Int) < (n : Int) := by omega
    have q7 : (0 : Int) ≤ ((s.at' + 1 : Nat) : Int) := by omega
    go_wp2_with fail
    go_region
    go_wp2
    go_ret
    rw [HRES.out]
    exact ⟨HT5.out.trans (Touch.of (O := fun b => b = rb) (below_newJ w5 (.cells #[.int .i64 x] 120)).drew) (fun x hx => .inl hx), ⟨_, rfl, (edgeR w5 x).drew.wide HT5.out.size (Nat.le_refl _)⟩, HR5.out.later (below_newJ w5 (.cells #[.int .i64 x] 120)).drew⟩
   ·
    have E60 := Lib.hid (show escB src s.at' 60 = false from by simpa using h60)
    have E62 := Lib.hid (show escB src s.at' 62 = true from by rcases h6 with h | h; exact absurd h h60; exact h)
    clear h60 h6
    go_wp2_with fail
    refine (escaped_c rb _ n c src s fold 60 _ HR2.out).mono ?_
    rintro e w3 ⟨rfl, m, rfl⟩
    rw [E60.out]
    have HR3 := Lib.hid (HR2.out.drewN m)
    have HT3 := Lib.hid (touch_drewN (n := m) HT2.out)
    clear HR2 HT2
    generalize World.drewN _ m = w3 at HR3 HT3 ⊢
    go_wp2_with fail
    refine (escaped_c rb _ n c src s fold 62 _ HR3.out).mono ?_
    rintro e w4 ⟨rfl, m, rfl⟩
    rw [E62.out]
    have HR4 := Lib.hid (HR3.out.drewN m)
    have HT4 := Lib.hid (touch_drewN (n := m) HT3.out)
    clear HR3 HT3
    generalize World.drewN _ m = w4 at HR4 HT4 ⊢
    have b1 : w4.cell? ⟨rb, 1, none⟩ = some (.int .i64 s.at') := block_cell HR4.out.blk
    have f1 : w4.frozen? ⟨rb, 1, none⟩ = false := block_free HR4.out.blk
    have q3 : IntKind.i64.wrap ((s.at' : Int) + 2) = ((s.at' + 2 : Nat) : Int) := by rw [IntKind.wrap_i64]; omega
    have HR5 := Lib.hid (HR4.out.step 2 (by omega))
    have HT5 := Lib.hid (HT4.out.trans (Touch.setCell (fun b => b = rb) w4 (p := ⟨rb, 1, none⟩) rfl (.int .i64 ((s.at' + 2 : Nat) : Int))) (fun x hx => .inl hx))
    go_upto_region 7 with (fail)
    rw [show ((s.at' : Int) + 2) = ((s.at' + 2 : Nat) : Int) from by omega]
    generalize World.setCell _ _ _ = w5 at HR5 HT5 ⊢
    clear b1 f1 q3 HR4 HT4
    have b0 : w5.cell? ⟨rb, 0, none⟩ = some (.slice (some ⟨gs, off, none⟩) n c) := block_cell HR5.out.blk
    have b1 : w5.cell? ⟨rb, 1, none⟩ = some (.int .i64 ((s.at' + 2 : Nat) : Int)) := block_cell HR5.out.blk
    have c0 : w5.cell? ⟨gs, off + (s.at' + 1), none⟩ = some (.int .i64 x) := by
     obtain ⟨g', o', e, c0⟩ := HR5.out.src.at (Below.refl _ _) hlt
     cases e
     rw [hch] at c0
     exact c0
    have q5 : IntKind.i64.wrap (((s.at' + 2 : Nat) : Int) - 1) = ((s.at' + 1 : Nat) : Int) := by rw [IntKind.wrap_i64]; omega
    have q6 : ((s.at' + 1 : Nat) : Int) < (n : Int) := by omega
    have q7 : (0 : Int) ≤ ((s.at' + 1 : Nat) : Int) := by omega
    go_wp2_with fail
    go_region
    go_wp2
    go_ret
    rw [HRES.out]
    exact ⟨HT5.out.trans (Touch.of (O := fun b => b = rb) (below_newJ w5 (.cells #[.int .i64 x] 120)).drew) (fun x hx => .inl hx), ⟨_, rfl, (edgeR w5 x).drew.wide HT5.out.size (Nat.le_refl _)⟩, HR5.out.later (below_newJ w5 (.cells #[.int .i64 x] 120)).drew⟩
  ·
   rw [if_neg h6] at hRR
   have E60 := Lib.hid (show escB src s.at' 60 = false from by simpa using fun h => h6 (.inl h))
   have E62 := Lib.hid (show escB src s.at' 62 = false from by simpa using fun h => h6 (.inr h))
   have HRR := Lib.hid hRR
   clear hRR hE h6
   go_enter Tryd.func54, Tryd.ntmps54
   go_wp2_with fail
   refine (peek_c rb sl n c src s fold 0 _ HR.out (by decide)).mono ?_
   rintro e w2 ⟨rfl, m, rfl⟩
   have HR2 := Lib.hid (HR.out.drewN m)
   have HT2 := Lib.hid (touch_drewN (n := m) (Touch.refl (fun b => b = rb) w))
   clear HR
   generalize World.drewN _ m = w2 at HR2 HT2 ⊢
   generalize pk src s.at' 0 = p0 at n94 n36 ⊢
   go_wp2_with fail
   refine (escaped_c rb sl n c src s fold 60 _ HR2.out).mono ?_
   rintro e w3 ⟨rfl, m, rfl⟩
   rw [E60.out]
   have HR3 := Lib.hid (HR2.out.drewN m)
   have HT3 := Lib.hid (touch_drewN (n := m) HT2.out)
   clear HR2 HT2
   generalize World.drewN _ m = w3 at HR3 HT3 ⊢
   go_wp2_with fail
   refine (escaped_c rb sl n c src s fold 62 _ HR3.out).mono ?_
   rintro e w4 ⟨rfl, m, rfl⟩
   rw [E62.out]
   have HR4 := Lib.hid (HR3.out.drewN m)
   have HT4 := Lib.hid (touch_drewN (n := m) HT3.out)
   clear HR3 HT3
   generalize World.drewN _ m = w4 at HR4 HT4 ⊢
   go_wp2_with fail
   refine (HTH.out w4 HR4.out).mono ?_
   generalize hth : thingP src fold f s = TH at HRR
   rintro e w5 ⟨ht5, h5⟩
   have HT5 := Lib.hid (HT4.out.trans ht5 (fun x hx => .inl hx))
   have hle45 := ht5.size
   clear ht5
   rcases TH with kk | ⟨nd, s5⟩
   ·
    simp only at h5
    subst h5
    go_wp2
    refine ⟨rfl, HT5.out, ?_⟩
    rw [← HRR.out]
    rfl
   ·
    obtain ⟨⟨v5, rfl, hn5⟩, hr5⟩ := h5
    have HN5 := Lib.hid hn5
    have HR5 := Lib.hid hr5
    have hrb4 := heap_lt HR4.out.blk
    clear hn5 hr5 hth
    go_wp2_with fail
    refine (timesR_c rb sl n c src s5 fold v5 nd w5 HR5.out w4.heap.size w5.heap.size HN5.out hrb4 hle45 (Nat.le_refl _)).mono ?_
    rw [show timesP src nd s5 = RR from HRR.out]
    rintro e w6 ⟨ht6, h6⟩
    have HT6 := Lib.hid (HT5.out.trans ht6 (fun x hx => .inl hx))
    clear ht6
    rcases hRR : RR with kk | ⟨x, s6⟩
    ·
     rw [hRR] at h6
     simp only at h6
     subst h6
     go_wp2
     exact ⟨rfl, HT6.out, by rw [hRR]⟩
    ·
     rw [hRR] at h6
     obtain ⟨⟨v6, rfl, hn6⟩, hr6⟩ := h6
     have HN6 := Lib.hid (hn6.wide HT4.out.size (Nat.le_refl _))
     have HR6 := Lib.hid hr6
     clear hn6 hr6
     go_wp2
     go_ret
     refine ⟨HT6.out, ?_⟩
     rw [hRR]
     exact ⟨⟨_, rfl, HN6.out⟩, HR6.out⟩
end Go.Proofs.YtdegdoilpamjjaaDoor
namespace Go.Proofs.YtdegdoilpamjjaaDoor
open Go.RowKit
set_option linter.unusedVariables false
set_option linter.unusedSimpArgs false
def insT (src : List Int) (k : Int) : RR Nd → RR Nd
 | .error e => .error e
 | .ok (x, s1) => if escB src s1.at' 41 then .ok (.group x k, { s1 with at' := s1.at' + 2 }) else .error src.length
theorem insP_eq (src : List Int) (fold : Bool) (f : Nat) (k : Int) (s : RS) : insP src fold (f + 1) k s = insT src k (patP src fold f [] s) := by
 rw [insP]
 rcases patP src fold f [] s with e | ⟨x, s1⟩ <;> rfl
theorem NdR.setC {w : World} {B E : Nat} {v : Value} {n : Nd} (h : NdR w B E v n) {p : Addr} (u : Value) (hp : p.block < B ∨ E ≤ p.block) : NdR (w.setCell p u) B E v n :=
 h.keep (fun b h1 h2 => Below.heap_setCell _ _ _ _ (by omega))
set_option maxRecDepth 100000 in
set_option maxHeartbeats 8000000 in
theorem inside_c (rb : Nat) (sl : Option Addr) (n c : Nat) (src : List Int) (s : RS) (fold : Bool) (w : World) (f k : Nat) (h : RdM w rb sl n c src s fold)
  (hP : ∀ (w' : World), RdM w' rb sl n c src s fold → Calls Tryd.prog 35 #[.pointer (some ⟨rb, 0, none⟩)] w' (RdP w' rb sl n c src fold (patP src fold f [] s) (fun x w'' v => NdR w'' w'.heap.size w''.heap.size v x))) :
  Calls Tryd.prog 83 #[.pointer (some ⟨rb, 0, none⟩), .int .i64 k] w (RdP w rb sl n c src fold (insP src fold (f + 1) k s) (fun x w' v => NdR w' w.heap.size w'.heap.size v x)) := by
 obtain ⟨RR, hRR⟩ : ∃ RR, insP src fold (f + 1) k s = RR := ⟨_, rfl⟩
 rw [hRR]
 rw [insP_eq] at hRR
 have HRR := Lib.hid hRR
 have hn30 := h.n30
 have hlen := h.len
 have hrb := heap_lt h.blk
 have hb1 := below_newJ w (.cells #[.nilIface, .int .i64 k] 123)
 have hg1 := one_new w (.cells #[.nilIface, .int .i64 k] 123)
 have hz1 := size_new w (.cells #[.nilIface, .int .i64 k] 123)
 have HP := Lib.hid hP
 have H0 := Lib.hid h
 have HR1 := Lib.hid (h.later hb1)
 have HT1 := Lib.hid (Touch.of (O := fun b => b = rb) hb1)
 have HG1 := Lib.hid hg1
 have HZ1 := Lib.hid hz1
 clear hRR hP h hb1 hg1 hz1
 go_enter Tryd.func83, Tryd.ntmps83
 go_wp2_with fail
 generalize w.alloc (.cells #[.nilIface, .int .i64 k] 123) = w1 at HR1 HT1 HG1 HZ1 ⊢
 refine (HP.out w1 HR1.out).mono ?_
 generalize hpp : patP src fold f [] s = PP at HRR
 rintro e w2 ⟨ht2, h2⟩
 have HT2 := Lib.hid (HT1.out.trans ht2 (fun x hx => .inl hx))
 have hle := ht2.size
 have HG2 := Lib.hid ((ht2.block _ (heap_lt HG1.out) (by omega)).trans HG1.out)
 clear ht2
 rcases PP with kk | ⟨nd, s2⟩
 ·
  simp only at h2
  subst h2
  go_wp2
  refine ⟨rfl, HT2.out, ?_⟩
  rw [← HRR.out]
  rfl
 ·
  obtain ⟨⟨v2, rfl, hn2⟩, hr2⟩ := h2
  obtain ⟨t0, u0, hv⟩ := hn2.iface
  subst hv
  have g0 : w2.cell? ⟨w.heap.size, 0, none⟩ = some .nilIface := block_cell HG2.out
  have g0f : w2.frozen? ⟨w.heap.size, 0, none⟩ = false := block_free HG2.out
  have hz := HZ1.out
  have HT3 := Lib.hid (HT2.out.trans (Touch.setCell (fun b => b = w.heap.size) w2 (p := ⟨w.heap.size, 0, none⟩) rfl (.iface t0 u0)) (fun x hx => .inr (by rw [hx]; exact Nat.le_refl _)))
  have HR3 := Lib.hid (H0.out.re HT3.out ((Below.heap_setCell w2 ⟨w.heap.size, 0, none⟩ (.iface t0 u0) rb (by show rb ≠ w.heap.size; omega)).trans hr2.blk) hr2.at')
  have HN3 := Lib.hid (hn2.setC (p := ⟨w.heap.size, 0, none⟩) (.iface t0 u0) (.inl (by show w.heap.size < w1.heap.size; omega)))
  have HG3 := Lib.hid (show (w2.setCell ⟨w.heap.size, 0, none⟩ (.iface t0 u0)).heap[w.heap.size]? = some (.cells #[.iface t0 u0, .int .i64 k] 123 (0, 0)) from by rw [block_set _ HG2.out]; rfl)
  have HZ3 := Lib.hid (show (w2.setCell ⟨w.heap.size, 0, none⟩ (.iface t0 u0)).heap.size = w2.heap.size from by simp [World.setCell])
  clear hn2 hr2 hpp HG1 HR1 HT1
  go_upto_region 3 with (fail)
  generalize w2.setCell ⟨w.heap.size, 0, none⟩ (.iface t0 u0) = w3 at HT3 HR3 HN3 HG3 HZ3 ⊢
  clear g0 g0f HG2 HT2
  go_wp2_with fail
  refine (escaped_c rb sl n c src s2 fold 41 _ HR3.out).mono ?_
  rintro e w4 ⟨rfl, m, rfl⟩
  have HR4 := Lib.hid (HR3.out.drewN m)
  have HT4 := Lib.hid (touch_drewN (n := m) HT3.out)
  have HG4 := Lib.hid (show (w3.drewN m).heap[w.heap.size]? = some (.cells #[.iface t0 u0, .int .i64 k] 123 (0, 0)) from HG3.out)
  have HN4 := Lib.hid (HN3.out.keep (w' := w3.drewN m) (fun _ _ _ => rfl))
  have hz4 : (w3.drewN m).heap.size = w2.heap.size := HZ3.out
  clear HR3 HT3 HG3 HN3
  generalize World.drewN _ m = w4 at HR4 HT4 HG4 HN4 hz4 ⊢
  cases hE : escB src s2.at' 41 with
  | false =>
   have HRES := Lib.hid (show RR = .error src.length from by rw [← HRR.out]; unfold insT; simp [hE])
   have b0 : w4.cell? ⟨rb, 0, none⟩ = some (.slice sl n c) := block_cell HR4.out.blk
   clear hE
   go_wp2
   refine ⟨rfl, HT4.out, ?_⟩
   rw [HRES.out, hlen]
   rfl
  | true =>
   have HRES := Lib.hid (show RR = .ok (.group nd k, { s2 with at' := s2.at' + 2 }) from by rw [← HRR.out]; unfold insT; simp [hE])
   have hlt := (esc_at hE).1
   have b1 : w4.cell? ⟨rb, 1, none⟩ = some (.int .i64 s2.at') := block_cell HR4.out.blk
   have f1 : w4.frozen? ⟨rb, 1, none⟩ = false := block_free HR4.out.blk
   have q3 : IntKind.i64.wrap ((s2.at' : Int) + 2) = ((s2.at' + 2 : Nat) : Int) := by rw [IntKind.wrap_i64]; omega
   have HR5 := Lib.hid (HR4.out.step 2 (by omega))
   have HT5 := Lib.hid (HT4.out.trans (Touch.setCell (fun b => b = rb) w4 (p := ⟨rb, 1, none⟩) rfl (.int .i64 ((s2.at' + 2 : Nat) : Int))) (fun x hx => .inl hx))
   have HN5 := Lib.hid (HN4.out.setC (p := ⟨rb, 1, none⟩) (.int .i64 ((s2.at' + 2 : Nat) : Int)) (.inl (by show rb < w1.heap.size; omega)))
   have HG5 := Lib.hid ((Below.heap_setCell w4 ⟨rb, 1, none⟩ (.int .i64 ((s2.at' + 2 : Nat) : Int)) w.heap.size (by show w.heap.size ≠ rb; omega)).trans HG4.out)
   have HZ5 := Lib.hid (show (w4.setCell ⟨rb, 1, none⟩ (.int .i64 ((s2.at' + 2 : Nat) : Int))).heap.size = w2.heap.size from by rw [← hz4]; simp [World.setCell])
   clear hE
   go_upto_region 6 with (fail)
   rw [show ((s2.at' : Int) + 2) = ((s2.at' + 2 : Nat) : Int) from by omega]
   generalize World.setCell _ _ _ = w5 at HR5 HT5 HN5 HG5 HZ5 ⊢
   clear b1 f1 q3 HR4 HT4 HG4 HN4
   go_wp2
   go_ret
   rw [HRES.out]
   exact ⟨HT5.out, ⟨_, rfl, .group w.heap.size _ nd k (Nat.le_refl _) (heap_lt HG5.out) HG5.out (HN5.out.wide (by omega) (by have := HZ5.out; omega))⟩, HR5.out⟩
end Go.Proofs.YtdegdoilpamjjaaDoor
namespace Go.Proofs.YtdegdoilpamjjaaDoor
open Go.RowKit
set_option linter.unusedVariables false
def Stk (w : World) (lo : Nat) (X : Nat → Prop) (vs : List Value) (ns : List Nd) : Prop :=
 vs.length = ns.length ∧ ∀ i (hi : i < vs.length) (hj : i < ns.length), ∃ B E, lo ≤ B ∧ E ≤ w.heap.size ∧ NdR w B E vs[i] ns[i] ∧ ∀ b, X b → b < B ∨ E ≤ b
theorem Stk.nil (w : World) (lo : Nat) (X : Nat → Prop) : Stk w lo X [] [] := ⟨rfl, fun i hi => absurd hi (by simp)⟩
theorem Stk.keep {w w' : World} {lo : Nat} {X : Nat → Prop} {vs : List Value} {ns : List Nd} (h : Stk w lo X vs ns) (hs : w.heap.size ≤ w'.heap.size) (hk : ∀ b, b < w.heap.size → ¬ X b → w'.heap[b]? = w.heap[b]?) : Stk w' lo X vs ns := by
 refine ⟨h.1, fun i hi hj => ?_⟩
 obtain ⟨B, E, h1, h2, h3, h4⟩ := h.2 i hi hj
 exact ⟨B, E, h1, Nat.le_trans h2 hs, h3.keep (fun b hb1 hb2 => hk b (by omega) (fun hx => by rcases h4 b hx with h | h <;> omega)), h4⟩
theorem Stk.open' {w : World} {lo : Nat} {X X' : Nat → Prop} {vs : List Value} {ns : List Nd} (h : Stk w lo X vs ns) (hX : ∀ b, X' b → X b ∨ w.heap.size ≤ b) : Stk w lo X' vs ns := by
 refine ⟨h.1, fun i hi hj => ?_⟩
 obtain ⟨B, E, h1, h2, h3, h4⟩ := h.2 i hi hj
 exact ⟨B, E, h1, h2, h3, fun b hb => by
  rcases hX b hb with hx | hx
  · exact h4 b hx
  · exact .inr (by omega)⟩
theorem Stk.push {w : World} {lo : Nat} {X : Nat → Prop} {vs : List Value} {ns : List Nd} (h : Stk w lo X vs ns) {B E : Nat} {v : Value} {n : Nd} (hn : NdR w B E v n) (h1 : lo ≤ B) (h2 : E ≤ w.heap.size) (h4 : ∀ b, X b → b < B ∨ E ≤ b) : Stk w lo X (vs ++ [v]) (ns ++ [n]) := by
 refine ⟨by simp [h.1], fun i hi hj => ?_⟩
 by_cases e : i < vs.length
 ·
  rw [List.getElem_append_left e, List.getElem_append_left (by rw [← h.1]; exact e)]
  exact h.2 i e (by rw [← h.1]; exact e)
 ·
  rw [List.length_append, List.length_singleton] at hi
  obtain rfl : i = vs.length := by omega
  rw [List.getElem_append_right (Nat.le_refl _), List.getElem_append_right (by rw [h.1]; exact Nat.le_refl _)]
  refine ⟨B, E, h1, h2, ?_, h4⟩
  have e1 : ([v] : List Value)[vs.length - vs.length]'(by simp) = v := by simp
  have e2 : ([n] : List Nd)[vs.length - ns.length]'(by rw [h.1]; simp) = n := by simp [h.1]
  rw [e1, e2]
  exact hn
theorem Stk.all {w : World} {lo : Nat} {X : Nat → Prop} {vs : List Value} {ns : List Nd} (h : Stk w lo X vs ns) : ∀ i (hi : i < vs.length) (hj : i < ns.length), NdR w lo w.heap.size vs[i] ns[i] := fun i hi hj => by
 obtain ⟨B, E, h1, h2, h3, h4⟩ := h.2 i hi hj
 exact h3.wide h1 h2
theorem Stk.row {w : World} {lo mb : Nat} {X : Nat → Prop} {vs : List Value} {ns : List Nd} (h : Stk w lo X vs ns) {s : Option Addr} {m c : Nat} (hm : w.heap[mb]? = some (.cells #[.slice s m c] 117 (0, 0))) (hlo : lo ≤ mb) (ho : w.ownsRow lo 74 1 (.slice s m c) m vs) :
  NdR w lo w.heap.size (.iface 115 (.pointer (some ⟨mb, 0, none⟩))) (.row ns) :=
 .row mb _ vs ns hlo (heap_lt hm) hm (own_slr ho) h.1 h.all
theorem Stk.choice {w : World} {lo cb : Nat} {X : Nat → Prop} {vs : List Value} {ns : List Nd} (h : Stk w lo X vs ns) {s : Option Addr} {m c : Nat} (hm : w.heap[cb]? = some (.cells #[.slice s m c] 114 (0, 0))) (hlo : lo ≤ cb) (ho : w.ownsRow lo 74 1 (.slice s m c) m vs) :
  NdR w lo w.heap.size (.iface 111 (.pointer (some ⟨cb, 0, none⟩))) (.choice ns) :=
 .choice cb _ vs ns hlo (heap_lt hm) hm (own_slr ho) h.1 h.all (by
  have hl : vs.length = m := by rw [ho.1, Nat.mul_one]
  obtain ⟨s', c', e, hc⟩ := own_shape ho
  obtain ⟨-, -, e3⟩ := Value.slice.inj e
  exact ⟨s, c, by rw [hl], by rw [hl, e3]; exact hc⟩)
end Go.Proofs.YtdegdoilpamjjaaDoor
namespace Go.Proofs.YtdegdoilpamjjaaDoor
open Go.RowKit
set_option linter.unusedVariables false
def Pushed (w w' : World) (base : Nat) (et : TypeId) (size : Nat) (v : Value) (n : Nat) (xs : List Value) (s' : Option Addr) (c' : Nat) : Prop :=
 w'.ownsRow base et size (.slice s' (n + 1) c') (n + 1) xs ∧ Below base w w' ∧ Oth et w w' ∧ w.grownBy w' v.ownBlock ∧ ((Value.slice s' (n + 1) c').ownBlock = v.ownBlock ∨ ∃ b, (Value.slice s' (n + 1) c').ownBlock = some b ∧ w.heap.size ≤ b)
theorem wpList_push_g {w : World} {ops : Array Oper} {rest : List Oper} {o : Oper} {a : Act} {Q : Exit → Act → World → Prop} {st et : TypeId} {z : Value} {size bytes : Nat} (hu : Tryd.prog.underlying st = some (.slice et))
  (hinfo : (Tryd.prog.info? et).map (fun i => (i.zero, i.size, i.bytes)) = some (some z, size, bytes)) (hzs : z.cells.size = size) (hsz : 0 < size) (hby : bytes ≤ 100)
  (x : List Value) (hx1 : ∀ u ∈ x, u.oneCell' = true) (hxl : x.length = size) (hgd : o.guard = none) (s y : Operand)
  (ho : o.op = .call { callee := .builtin .append, args := #[s, y], argTypes := #[st, st] })
  (base : Nat) (v : Value) (n : Nat) (xs : List Value) (hs : a.eval s = v) (hy : a.eval y = .slice (some ⟨w.heap.size, 0, none⟩) 1 1) (hown : w.ownsRow base et size v n xs) (hn : n < 10000000000) (hbase : base ≤ w.heap.size)
  (h : ∀ s' c' w', Pushed w w' base et size v n (xs ++ x) s' c' → wpList Tryd.prog ops Q rest (a.put o.dst (.slice s' (n + 1) c')) w') :
  wpList Tryd.prog ops Q (o :: rest) a (w.alloc (.cells x.toArray et)) := by
 obtain ⟨i0, hi, hz0, hz1, hz2⟩ := info_parts hinfo
 have hb1 := below_newJ w (.cells x.toArray et)
 refine wpList_append_own_at _ hgd s y st ho base et i0 z size bytes hu hi hz0 hz1 hz2 hzs hsz v _ _ hs (own_later hown hb1) ⟨w.heap.size, 0, none⟩ 1 1 x hy (by omega) (new_cells _ _) hx1 (by unfold maxLen; omega) ?_ (by simp; omega) ?_
 ·
  have : (n + 1) * bytes ≤ 10000000000 * 100 := Nat.mul_le_mul (by omega) hby
  omega
 ·
  intro v' w' h2 h3 _ h5
  obtain ⟨s', c', rfl⟩ := own_shape1 h2
  have hgr := World.grownBy.trans (World.grownBy_alloc w _ _) h3
  obtain ⟨p1, p2⟩ := push_leaves hown hgr hbase
  exact h s' c' w' ⟨h2, p1, p2, hgr, by
   rcases h5 with e | e
   · exact .inl e
   · exact .inr ⟨_, e, by simp⟩⟩
theorem step_push_g {w : World} {ops : Array Oper} {o : Oper} {a : Act} {K : Act → World → Prop} {Q : Exit → Act → World → Prop} {E : Prop} {st et : TypeId} {z : Value} {size bytes : Nat} (hu : Tryd.prog.underlying st = some (.slice et))
  (hinfo : (Tryd.prog.info? et).map (fun i => (i.zero, i.size, i.bytes)) = some (some z, size, bytes)) (hzs : z.cells.size = size) (hsz : 0 < size) (hby : bytes ≤ 100)
  (x : List Value) (hx1 : ∀ u ∈ x, u.oneCell' = true) (hxl : x.length = size) (hg : o.guard = none) (s y : Operand)
  (hop : o.op = .call { callee := .builtin .append, args := #[s, y], argTypes := #[st, st] })
  (base : Nat) (v : Value) (n : Nat) (xs : List Value) (hs : a.eval s = v) (hy : a.eval y = .slice (some ⟨w.heap.size, 0, none⟩) 1 1) (hown : w.ownsRow base et size v n xs) (hn : n < 10000000000) (hbase : base ≤ w.heap.size)
  (h : ∀ s' c' w', Pushed w w' base et size v n (xs ++ x) s' c' → K (a.put o.dst (.slice s' (n + 1) c')) w') :
  if Region.wanted o (yielded ops a.tmps) = true then Oper.wp Tryd.prog o a (w.alloc (.cells x.toArray et)) K Q else E := by
 have hw : Region.wanted o (yielded ops a.tmps) = true := by simp [Region.wanted, hg]
 rw [if_pos hw]
 obtain ⟨i0, hi, hz0, hz1, hz2⟩ := info_parts hinfo
 have hb1 := below_newJ w (.cells x.toArray et)
 obtain ⟨v', w', hr, h2, h3, h4, h5⟩ := run_append_own_at (P := Tryd.prog) (w.alloc (.cells x.toArray et)) base st o.type et i0 z size bytes hu hi hz0 hz1 hz2 hzs hsz v n xs (own_later hown hb1) ⟨w.heap.size, 0, none⟩ 1 1 x (by omega) (new_cells _ _) hx1 (by unfold maxLen; omega) (by have : (n + 1) * bytes ≤ 10000000000 * 100 := Nat.mul_le_mul (by omega) hby; omega) (by simp; omega)
 obtain ⟨s', c', rfl⟩ := own_shape1 h2
 have hgr := World.grownBy.trans (World.grownBy_alloc w _ _) h3
 obtain ⟨p1, p2⟩ := push_leaves hown hgr hbase
 have hK := h s' c' w' ⟨h2, p1, p2, hgr, by
  rcases h5 with e | e
  · exact .inl e
  · exact .inr ⟨_, e, by simp⟩⟩
 unfold Oper.wp
 simp only [execOp, hop, resolve, invoke, builtin, hs, hy, hr, Result.andThen, Sem.run_bind, Sem.run_pure, List.map_toArray, List.map_cons, List.map_nil]
 exact hK
def PX (rb cb mb : Nat) (vR vM : Value) (b : Nat) : Prop := b = rb ∨ b = cb ∨ b = mb ∨ vR.ownBlock = some b ∨ vM.ownBlock = some b
structure PatG (w0 w : World) (rb : Nat) (sl : Option Addr) (n c : Nat) (src : List Int) (fold : Bool) (cb mb : Nat) (s : RS) (sR : Option Addr) (nR cR : Nat) (ra : List Value) (acc : List Nd) (sM : Option Addr) (nM cM : Nat) (vs : List Value) (ms : List Nd) : Prop where
 rd : RdM w rb sl n c src s fold
 tch : Touch (fun b => b = rb) w0 w
 cge : w0.heap.size ≤ cb
 cmb : cb < mb
 cblk : w.heap[cb]? = some (.cells #[.slice sR nR cR] 114 (0, 0))
 mblk : w.heap[mb]? = some (.cells #[.slice sM nM cM] 117 (0, 0))
 ownR : w.ownsRow w0.heap.size 74 1 (.slice sR nR cR) nR ra
 ownM : w.ownsRow mb 74 1 (.slice sM nM cM) nM vs
 dis : ∀ b, (Value.slice sR nR cR).ownBlock = some b → b < mb
 stR : Stk w w0.heap.size (PX rb cb mb (.slice sR nR cR) (.slice sM nM cM)) ra acc
 stM : Stk w mb (PX rb cb mb (.slice sR nR cR) (.slice sM nM cM)) vs ms
theorem PatG.lt {w0 w : World} {rb : Nat} {sl : Option Addr} {n c : Nat} {src : List Int} {fold : Bool} {cb mb : Nat} {s : RS} {sR : Option Addr} {nR cR : Nat} {ra : List Value} {acc : List Nd} {sM : Option Addr} {nM cM : Nat} {vs : List Value} {ms : List Nd} (h : PatG w0 w rb sl n c src fold cb mb s sR nR cR ra acc sM nM cM vs ms) :
  ∀ b, PX rb cb mb (.slice sR nR cR) (.slice sM nM cM) b → b < w.heap.size := by
 rintro b (rfl | rfl | rfl | hb | hb)
 · exact heap_lt h.rd.blk
 · exact heap_lt h.cblk
 · exact heap_lt h.mblk
 · exact (World.ownsRow.lt h.ownR b hb).2
 · exact (World.ownsRow.lt h.ownM b hb).2
theorem PatG.read {w0 w w2 : World} {rb : Nat} {sl : Option Addr} {n c : Nat} {src : List Int} {fold : Bool} {cb mb : Nat} {s s2 : RS} {sR : Option Addr} {nR cR : Nat} {ra : List Value} {acc : List Nd} {sM : Option Addr} {nM cM : Nat} {vs : List Value} {ms : List Nd} (h : PatG w0 w rb sl n c src fold cb mb s sR nR cR ra acc sM nM cM vs ms)
  (ht : Touch (fun b => b = rb) w w2) (hr : RdM w2 rb sl n c src s2 fold) : PatG w0 w2 rb sl n c src fold cb mb s2 sR nR cR ra acc sM nM cM vs ms := by
 have hk : ∀ (b : Nat) (cs : Array Value) (t : TypeId), w.heap[b]? = some (.cells cs t (0, 0)) → t ≠ 72 → w2.heap[b]? = w.heap[b]? := fun b cs t hb hne => ht.block b (heap_lt hb) (type_ne hb h.rd.blk hne)
 refine ⟨hr, h.tch.trans ht (fun x hx => .inl hx), h.cge, h.cmb, (hk _ _ _ h.cblk (by decide)).trans h.cblk, (hk _ _ _ h.mblk (by decide)).trans h.mblk, own_kept h.ownR fun b hb => ?_, own_kept h.ownM fun b hb => ?_, h.dis, ?_, ?_⟩
 ·
  obtain ⟨cs, h1⟩ := own_type h.ownR hb
  exact hk _ _ _ h1 (by decide)
 ·
  obtain ⟨cs, h1⟩ := own_type h.ownM hb
  exact hk _ _ _ h1 (by decide)
 · exact h.stR.keep ht.size (fun b hb hx => ht.block b hb (fun e => hx (.inl e)))
 · exact h.stM.keep ht.size (fun b hb hx => ht.block b hb (fun e => hx (.inl e)))
theorem PatG.push {w0 w w3 : World} {rb : Nat} {sl : Option Addr} {n c : Nat} {src : List Int} {fold : Bool} {cb mb : Nat} {s s0 : RS} {sR : Option Addr} {nR cR : Nat} {ra : List Value} {acc : List Nd} {sM : Option Addr} {nM cM : Nat} {vs : List Value} {ms : List Nd} (h0 : RdM w0 rb sl n c src s0 fold) (h : PatG w0 w rb sl n c src fold cb mb s sR nR cR ra acc sM nM cM vs ms)
  {v : Value} {nd : Nd} {B E : Nat} (hn : NdR w B E v nd) (hB : mb ≤ B) (hE : E ≤ w.heap.size) (hX : ∀ b, PX rb cb mb (.slice sR nR cR) (.slice sM nM cM) b → b < B ∨ E ≤ b) {s' : Option Addr} {c' : Nat} (hp : Pushed w w3 mb 74 1 (.slice sM nM cM) nM (vs ++ [v]) s' c') :
  PatG w0 (w3.setCell ⟨mb, 0, none⟩ (.slice s' (nM + 1) c')) rb sl n c src fold cb mb s sR nR cR ra acc s' (nM + 1) c' (vs ++ [v]) (ms ++ [nd]) := by
 obtain ⟨ho, hb, hoth, hg, hob⟩ := hp
 have hcm := h.cmb
 have hcg := h.cge
 have b3 := hoth _ _ _ h.mblk (by decide)
 have c3 := hoth _ _ _ h.cblk (by decide)
 have r3 := hoth _ _ _ h.rd.blk (by decide)
 have hsz : w.heap.size ≤ (w3.setCell ⟨mb, 0, none⟩ (.slice s' (nM + 1) c')).heap.size := by
  have e : (w3.setCell ⟨mb, 0, none⟩ (.slice s' (nM + 1) c')).heap.size = w3.heap.size := by simp [World.setCell]
  rw [e]; exact hb.size
 have hoff : ∀ b, b ≠ mb → (w3.setCell ⟨mb, 0, none⟩ (.slice s' (nM + 1) c')).heap[b]? = w3.heap[b]? := fun b hne => Below.heap_setCell _ ⟨mb, 0, none⟩ _ _ hne
 have hown : ∀ b, (Value.slice sM nM cM).ownBlock = some b → mb ≤ b := fun b hb => (World.ownsRow.lt h.ownM b hb).1
 have hkeep : ∀ b, b < w.heap.size → b ≠ mb → (Value.slice sM nM cM).ownBlock ≠ some b → (w3.setCell ⟨mb, 0, none⟩ (.slice s' (nM + 1) c')).heap[b]? = w.heap[b]? := fun b hlt hne ho => (hoff b hne).trans (hg.block b hlt (fun e => ho e.symm))
 have hst : ∀ {lo : Nat} {us : List Value} {ns : List Nd}, Stk w lo (PX rb cb mb (.slice sR nR cR) (.slice sM nM cM)) us ns → Stk (w3.setCell ⟨mb, 0, none⟩ (.slice s' (nM + 1) c')) lo (PX rb cb mb (.slice sR nR cR) (.slice s' (nM + 1) c')) us ns := by
  intro lo us ns hs
  have h1 : Stk w lo (fun b => PX rb cb mb (.slice sR nR cR) (.slice sM nM cM) b ∨ PX rb cb mb (.slice sR nR cR) (.slice s' (nM + 1) c') b) us ns := by
   refine hs.open' fun b hb => ?_
   rcases hb with hb | hb | hb | hb | hb | hb
   · exact .inl hb
   · exact .inl (.inl hb)
   · exact .inl (.inr (.inl hb))
   · exact .inl (.inr (.inr (.inl hb)))
   · exact .inl (.inr (.inr (.inr (.inl hb))))
   ·
    rcases hob with e | ⟨q, e, hq⟩
    · exact .inl (.inr (.inr (.inr (.inr (e.symm.trans hb)))))
    · rw [e] at hb; injection hb with hb; exact .inr (by omega)
  exact (h1.keep hsz (fun b hlt hx => hkeep b hlt (fun e => hx (.inl (.inr (.inr (.inl e))))) (fun e => hx (.inl (.inr (.inr (.inr (.inr e)))))))).open' (fun b hb => .inl (.inr hb))
 have ht4 : Touch (fun b => b = rb) w0 (w3.setCell ⟨mb, 0, none⟩ (.slice s' (nM + 1) c')) :=
  touch_far h.tch ((hb.mono (by omega)).setCell (p := ⟨mb, 0, none⟩) (by show w0.heap.size ≤ mb; omega) _)
 refine ⟨h0.re ht4 ((hoff rb (type_ne r3 b3 (by decide))).trans r3) h.rd.at', ht4, hcg, hcm, (hoff cb (by omega)).trans c3, by rw [block_set _ b3]; rfl, own_kept h.ownR fun b hb => ?_, own_kept ho fun b hb => ?_, h.dis, hst h.stR, hst (h.stM.push hn hB hE hX)⟩
 ·
  have h1 := h.dis b hb
  exact hkeep b (World.ownsRow.lt h.ownR b hb).2 (by omega) (fun e => by have := hown b e; omega)
 ·
  obtain ⟨cs, h1⟩ := own_type ho hb
  exact hoff b (type_ne h1 b3 (by decide))
structure PatD (w0 w : World) (rb : Nat) (sl : Option Addr) (n c : Nat) (src : List Int) (fold : Bool) (cb : Nat) (s : RS) (sR : Option Addr) (nR cR : Nat) (ra : List Value) (acc : List Nd) : Prop where
 rd : RdM w rb sl n c src s fold
 tch : Touch (fun b => b = rb) w0 w
 cge : w0.heap.size ≤ cb
 cblk : w.heap[cb]? = some (.cells #[.slice sR nR cR] 114 (0, 0))
 ownR : w.ownsRow w0.heap.size 74 1 (.slice sR nR cR) nR ra
 stR : Stk w w0.heap.size (fun b => b = rb ∨ b = cb ∨ (Value.slice sR nR cR).ownBlock = some b) ra acc
theorem PatD.begin (w : World) (rb : Nat) (sl : Option Addr) (n c : Nat) (src : List Int) (fold : Bool) (s : RS) (h : RdM w rb sl n c src s fold) : PatD w (w.alloc (.cells #[.slice none 0 0] 114)) rb sl n c src fold w.heap.size s none 0 0 [] [] :=
 ⟨h.later (below_newJ _ _), Touch.of (below_newJ _ _), Nat.le_refl _, one_new _ _, World.ownsRow_nil _ _ _ _, Stk.nil _ _ _⟩
theorem PatD.row {w0 w : World} {rb : Nat} {sl : Option Addr} {n c : Nat} {src : List Int} {fold : Bool} {cb : Nat} {s : RS} {sR : Option Addr} {nR cR : Nat} {ra : List Value} {acc : List Nd} (h : PatD w0 w rb sl n c src fold cb s sR nR cR ra acc) :
  PatG w0 (w.alloc (.cells #[.slice none 0 0] 117)) rb sl n c src fold cb w.heap.size s sR nR cR ra acc none 0 0 [] [] := by
 have hb := below_newJ w (.cells #[.slice none 0 0] 117)
 refine ⟨h.rd.later hb, touch_far h.tch (hb.mono h.tch.size), h.cge, heap_lt h.cblk, (hb.block _ (heap_lt h.cblk)).trans h.cblk, one_new _ _, own_later h.ownR hb, World.ownsRow_nil _ _ _ _, fun b hb' => (World.ownsRow.lt h.ownR b hb').2, ?_, Stk.nil _ _ _⟩
 have h1 : Stk w w0.heap.size (PX rb cb w.heap.size (.slice sR nR cR) (.slice none 0 0)) ra acc := h.stR.open' fun b hb' => by
  rcases hb' with hb' | hb' | hb' | hb' | hb'
  · exact .inl (.inl hb')
  · exact .inl (.inr (.inl hb'))
  · exact .inr (by omega)
  · exact .inl (.inr (.inr hb'))
  · exact absurd hb' (by simp [Value.ownBlock])
 exact h1.keep hb.size (fun b hlt _ => hb.block b hlt)
theorem PatG.done {w0 w w3 : World} {rb : Nat} {sl : Option Addr} {n c : Nat} {src : List Int} {fold : Bool} {cb mb : Nat} {s s0 : RS} {sR : Option Addr} {nR cR : Nat} {ra : List Value} {acc : List Nd} {sM : Option Addr} {nM cM : Nat} {vs : List Value} {ms : List Nd} (h0 : RdM w0 rb sl n c src s0 fold) (h : PatG w0 w rb sl n c src fold cb mb s sR nR cR ra acc sM nM cM vs ms)
  {s' : Option Addr} {c' : Nat} (hp : Pushed w w3 w0.heap.size 74 1 (.slice sR nR cR) nR (ra ++ [.iface 115 (.pointer (some ⟨mb, 0, none⟩))]) s' c') :
  PatD w0 (w3.setCell ⟨cb, 0, none⟩ (.slice s' (nR + 1) c')) rb sl n c src fold cb s s' (nR + 1) c' (ra ++ [.iface 115 (.pointer (some ⟨mb, 0, none⟩))]) (acc ++ [.row ms]) := by
 obtain ⟨ho, hb, hoth, hg, hob⟩ := hp
 have hcm := h.cmb
 have hcg := h.cge
 have hrb : rb < w0.heap.size := heap_lt h0.blk
 have c3 := hoth _ _ _ h.cblk (by decide)
 have r3 := hoth _ _ _ h.rd.blk (by decide)
 have hsz : w.heap.size ≤ (w3.setCell ⟨cb, 0, none⟩ (.slice s' (nR + 1) c')).heap.size := by
  have e : (w3.setCell ⟨cb, 0, none⟩ (.slice s' (nR + 1) c')).heap.size = w3.heap.size := by simp [World.setCell]
  rw [e]; exact hb.size
 have hoff : ∀ b, b ≠ cb → (w3.setCell ⟨cb, 0, none⟩ (.slice s' (nR + 1) c')).heap[b]? = w3.heap[b]? := fun b hne => Below.heap_setCell _ ⟨cb, 0, none⟩ _ _ hne
 have hkeep : ∀ b, b < w.heap.size → b ≠ cb → (Value.slice sR nR cR).ownBlock ≠ some b → (w3.setCell ⟨cb, 0, none⟩ (.slice s' (nR + 1) c')).heap[b]? = w.heap[b]? := fun b hlt hne ho => (hoff b hne).trans (hg.block b hlt (fun e => ho e.symm))
 have ht4 : Touch (fun b => b = rb) w0 (w3.setCell ⟨cb, 0, none⟩ (.slice s' (nR + 1) c')) :=
  touch_far h.tch (hb.setCell (p := ⟨cb, 0, none⟩) hcg _)
 have hnode := h.stM.row h.mblk (Nat.le_refl _) h.ownM
 have h1 : Stk w w0.heap.size (fun b => (b = rb ∨ b = cb ∨ (Value.slice sR nR cR).ownBlock = some b) ∨ (b = rb ∨ b = cb ∨ (Value.slice s' (nR + 1) c').ownBlock = some b)) (ra ++ [.iface 115 (.pointer (some ⟨mb, 0, none⟩))]) (acc ++ [.row ms]) := by
  have hold : ∀ b, (Value.slice s' (nR + 1) c').ownBlock = some b → (Value.slice sR nR cR).ownBlock = some b ∨ w.heap.size ≤ b := fun b hb' => by
   rcases hob with e | ⟨q, e, hq⟩
   · exact .inl (e.symm.trans hb')
   · rw [e] at hb'; injection hb' with hb'; exact .inr (by omega)
  refine Stk.push (h.stR.open' fun b hb' => ?_) hnode (by omega) (Nat.le_refl _) (fun b hb' => ?_)
  ·
   rcases hb' with (hb' | hb' | hb') | (hb' | hb' | hb')
   · exact .inl (.inl hb')
   · exact .inl (.inr (.inl hb'))
   · exact .inl (.inr (.inr (.inr (.inl hb'))))
   · exact .inl (.inl hb')
   · exact .inl (.inr (.inl hb'))
   ·
    rcases hold b hb' with e | e
    · exact .inl (.inr (.inr (.inr (.inl e))))
    · exact .inr e
  ·
   rcases hb' with (hb' | hb' | hb') | (hb' | hb' | hb')
   · exact .inl (by omega)
   · exact .inl (by omega)
   · exact .inl (h.dis b hb')
   · exact .inl (by omega)
   · exact .inl (by omega)
   ·
    rcases hold b hb' with e | e
    · exact .inl (h.dis b e)
    · exact .inr e
 refine ⟨h0.re ht4 ((hoff rb (by omega)).trans r3) h.rd.at', ht4, hcg, by rw [block_set _ c3]; rfl, own_kept ho fun b hb' => ?_, (h1.keep hsz (fun b hlt hx => hkeep b hlt (fun e => hx (.inl (.inr (.inl e)))) (fun e => hx (.inl (.inr (.inr e)))))).open' (fun b hb' => .inl (.inr hb'))⟩
 obtain ⟨cs, h2⟩ := own_type ho hb'
 exact hoff b (type_ne h2 c3 (by decide))
theorem PatD.node {w0 w : World} {rb : Nat} {sl : Option Addr} {n c : Nat} {src : List Int} {fold : Bool} {cb : Nat} {s : RS} {sR : Option Addr} {nR cR : Nat} {ra : List Value} {acc : List Nd} (h : PatD w0 w rb sl n c src fold cb s sR nR cR ra acc) : NdR w w0.heap.size w.heap.size (.iface 111 (.pointer (some ⟨cb, 0, none⟩))) (.choice acc) :=
 h.stR.choice h.cblk h.cge h.ownR
theorem PatD.moved {w' : World} {s' : RS} {w0 w : World} {rb : Nat} {sl : Option Addr} {n c : Nat} {src : List Int} {fold : Bool} {cb : Nat} {s : RS} {sR : Option Addr} {nR cR : Nat} {ra : List Value} {acc : List Nd} (h : PatD w0 w rb sl n c src fold cb s sR nR cR ra acc) (ht : Touch (fun b => b = rb) w w') (hr : RdM w' rb sl n c src s' fold) : PatD w0 w' rb sl n c src fold cb s' sR nR cR ra acc := by
 refine ⟨hr, h.tch.trans ht (fun x hx => .inl hx), h.cge, (ht.block _ (heap_lt h.cblk) (type_ne h.cblk h.rd.blk (by decide))).trans h.cblk, own_kept h.ownR fun b hb => ?_, h.stR.keep ht.size (fun b hb hx => ht.block b hb (fun e => hx (.inl e)))⟩
 obtain ⟨cs, h1⟩ := own_type h.ownR hb
 exact ht.block b (heap_lt h1) (type_ne h1 h.rd.blk (by decide))
end Go.Proofs.YtdegdoilpamjjaaDoor
namespace Go.Proofs.YtdegdoilpamjjaaDoor
open Go.RowKit
set_option linter.unusedVariables false
set_option linter.unusedSimpArgs false
def PtrR (w : World) (B E : Nat) (p : Option Addr) : Option SetD → Prop
 | none => p = none
 | some s => NdR w B E (.iface 78 (.pointer p)) (.set s.ranges s.kinds s.not s.fold)
theorem PtrR.keep {w w' : World} {B E : Nat} {p : Option Addr} {s : Option SetD} (h : PtrR w B E p s) (hk : ∀ b, b < E → w'.heap[b]? = w.heap[b]?) : PtrR w' B E p s := by
 cases s with
 | none => exact h
 | some s => exact NdR.keep h (fun b _ h2 => hk b h2)
def ActsR (w : World) (B E : Nat) (l : List ActD) (xs : List Value) : Prop :=
 xs.length = l.length * 4 ∧ ∀ i (h : i < l.length), xs[i * 4]? = some (.int .i64 l[i].kind) ∧ xs[i * 4 + 1]? = some (.int .i64 l[i].x) ∧ xs[i * 4 + 2]? = some (.int .i64 l[i].y) ∧ ∃ p, xs[i * 4 + 3]? = some (.pointer p) ∧ PtrR w B E p l[i].s
theorem ActsR.keep {w w' : World} {B E : Nat} {l : List ActD} {xs : List Value} (h : ActsR w B E l xs) (hk : ∀ b, b < E → w'.heap[b]? = w.heap[b]?) : ActsR w' B E l xs :=
 ⟨h.1, fun i hi => by
  obtain ⟨h1, h2, h3, p, h4, h5⟩ := h.2 i hi
  exact ⟨h1, h2, h3, p, h4, h5.keep hk⟩⟩
theorem ActsR.push {w : World} {B E : Nat} {l : List ActD} {xs : List Value} (h : ActsR w B E l xs) (a : ActD) (p : Option Addr) (hp : PtrR w B E p a.s) : ActsR w B E (l ++ [a]) (xs ++ [.int .i64 a.kind, .int .i64 a.x, .int .i64 a.y, .pointer p]) := by
 obtain ⟨h0, h1⟩ := h
 refine ⟨by simp [h0]; omega, fun i hi => ?_⟩
 rw [List.length_append, List.length_singleton] at hi
 by_cases e : i < l.length
 ·
  obtain ⟨a1, a2, a3, q, a4, a5⟩ := h1 i e
  rw [List.getElem_append_left e]
  rw [List.getElem?_append_left (by omega), List.getElem?_append_left (by omega), List.getElem?_append_left (by omega)]
  exact ⟨a1, a2, a3, q, by rw [List.getElem?_append_left (by omega)]; exact a4, a5⟩
 ·
  obtain rfl : i = l.length := by omega
  have e1 : (l ++ [a])[l.length]'(by simp) = a := by simp
  rw [e1]
  rw [List.getElem?_append_right (by omega), List.getElem?_append_right (by omega), List.getElem?_append_right (by omega)]
  refine ⟨?_, ?_, ?_, p, ?_, hp⟩
  · rw [show l.length * 4 - xs.length = 0 from by omega]; rfl
  · rw [show l.length * 4 + 1 - xs.length = 1 from by omega]; rfl
  · rw [show l.length * 4 + 2 - xs.length = 2 from by omega]; rfl
  · rw [List.getElem?_append_right (by omega), show l.length * 4 + 3 - xs.length = 3 from by omega]; rfl
theorem ActsR.setX {w : World} {B E : Nat} {l : List ActD} {xs : List Value} (h : ActsR w B E l xs) (f : Nat) (v : Int) : ActsR w B E (l.modify f fun a => { a with x := v }) (xs.set (f * 4 + 1) (.int .i64 v)) := by
 obtain ⟨h0, h1⟩ := h
 refine ⟨by simp [h0], fun i hi => ?_⟩
 rw [List.length_modify] at hi
 obtain ⟨a1, a2, a3, q, a4, a5⟩ := h1 i hi
 rw [List.getElem_modify]
 rw [List.getElem?_set_ne (by omega), List.getElem?_set_ne (a := Value.int .i64 v) (i := f * 4 + 1) (j := i * 4 + 2) (by omega)]
 by_cases e : f = i
 ·
  subst e
  rw [if_pos rfl, List.getElem?_set_self (by omega)]
  exact ⟨a1, rfl, a3, q, by rw [List.getElem?_set_ne (by omega)]; exact a4, a5⟩
 ·
  rw [if_neg e, List.getElem?_set_ne (by omega)]
  exact ⟨a1, a2, a3, q, by rw [List.getElem?_set_ne (by omega)]; exact a4, a5⟩
theorem ActsR.setY {w : World} {B E : Nat} {l : List ActD} {xs : List Value} (h : ActsR w B E l xs) (f : Nat) (v : Int) : ActsR w B E (l.modify f fun a => { a with y := v }) (xs.set (f * 4 + 2) (.int .i64 v)) := by
 obtain ⟨h0, h1⟩ := h
 refine ⟨by simp [h0], fun i hi => ?_⟩
 rw [List.length_modify] at hi
 obtain ⟨a1, a2, a3, q, a4, a5⟩ := h1 i hi
 rw [List.getElem_modify]
 rw [List.getElem?_set_ne (by omega), List.getElem?_set_ne (a := Value.int .i64 v) (i := f * 4 + 2) (j := i * 4 + 1) (by omega)]
 by_cases e : f = i
 ·
  subst e
  rw [if_pos rfl, List.getElem?_set_self (by omega)]
  exact ⟨a1, a2, rfl, q, by rw [List.getElem?_set_ne (by omega)]; exact a4, a5⟩
 ·
  rw [if_neg e, List.getElem?_set_ne (by omega)]
  exact ⟨a1, a2, a3, q, by rw [List.getElem?_set_ne (by omega)]; exact a4, a5⟩
structure PaX (w : World) (B E base pb : Nat) (groups : Int) (dp : Nat) (l : List ActD) (xs : List Value) (sA : Option Addr) (cA : Nat) : Prop where
 blk : w.heap[pb]? = some (.cells #[.slice sA l.length cA, .int .i64 groups, .int .i64 dp] 62 (0, 0))
 own : w.ownsRow base 80 4 (.slice sA l.length cA) l.length xs
 low : base ≤ pb
 le : E ≤ base
 acts : ActsR w B E l xs
def PaG (w : World) (B E base pb : Nat) (groups : Int) (dp : Nat) (l : List ActD) : Prop := ∃ xs sA cA, PaX w B E base pb groups dp l xs sA cA
theorem FrA.setT {base : Nat} {w : World} {p : Addr} {cs : Array Value} {T : TypeId} (v : Value) (h : w.heap[p.block]? = some (.cells cs T (0, 0))) (hT : T = 62 ∨ T = 80) (hb : base ≤ p.block) : FrA base w (w.setCell p v) :=
 ⟨(Below.refl base w).setCell hb v, fun x cs t h1 h2 h3 => (Below.heap_setCell _ _ _ _ (type_ne h1 h (by rcases hT with rfl | rfl <;> assumption))).trans h1⟩
theorem PaX.keep {w w' : World} {B E base pb : Nat} {groups : Int} {dp : Nat} {l : List ActD} {xs : List Value} {sA : Option Addr} {cA : Nat} (h : PaX w B E base pb groups dp l xs sA cA) (hb : Below base w w')
  (ho : ∀ (b : Nat) (cs : Array Value) (t : TypeId), w.heap[b]? = some (.cells cs t (0, 0)) → t = 62 ∨ t = 80 → w'.heap[b]? = some (.cells cs t (0, 0))) : PaX w' B E base pb groups dp l xs sA cA := by
 refine ⟨ho _ _ _ h.blk (.inl rfl), own_kept h.own fun g hg => ?_, h.low, h.le, h.acts.keep fun b hb' => hb.block b (by have := h.le; omega)⟩
 obtain ⟨cs, h1⟩ := own_type h.own hg
 exact (ho _ _ _ h1 (.inr rfl)).trans h1.symm
theorem PaX.later {w w' : World} {B E base pb : Nat} {groups : Int} {dp : Nat} {l : List ActD} {xs : List Value} {sA : Option Addr} {cA : Nat} (h : PaX w B E base pb groups dp l xs sA cA) (hbase : base ≤ w.heap.size) (hb : Below w.heap.size w w') : PaX w' B E base pb groups dp l xs sA cA :=
 h.keep (hb.mono hbase) fun b cs t h1 _ => (hb.block b (heap_lt h1)).trans h1
theorem PaX.push {w w3 : World} {B E base pb : Nat} {groups : Int} {dp : Nat} {l : List ActD} {xs : List Value} {sA : Option Addr} {cA : Nat} (h : PaX w B E base pb groups dp l xs sA cA) (a : ActD) (p : Option Addr) (hp : PtrR w B E p a.s) {s' : Option Addr} {c' : Nat}
  (hq : Pushed w w3 base 80 4 (.slice sA l.length cA) l.length (xs ++ [.int .i64 a.kind, .int .i64 a.x, .int .i64 a.y, .pointer p]) s' c') :
  PaX (w3.setCell ⟨pb, 0, none⟩ (.slice s' (l.length + 1) c')) B E base pb groups dp (l ++ [a]) (xs ++ [.int .i64 a.kind, .int .i64 a.x, .int .i64 a.y, .pointer p]) s' c' ∧ FrA base w (w3.setCell ⟨pb, 0, none⟩ (.slice s' (l.length + 1) c')) := by
 obtain ⟨ho, hb, hoth, -, -⟩ := hq
 have b3 := hoth _ _ _ h.blk (by decide)
 have hF : FrA base w (w3.setCell ⟨pb, 0, none⟩ (.slice s' (l.length + 1) c')) := (FrA.push hb hoth).trans (FrA.set _ b3 h.low)
 refine ⟨⟨by rw [block_set _ b3]; simp, ?_, h.low, h.le, (h.acts.push a p hp).keep fun b hb' => hF.below.block b (by have := h.le; omega)⟩, hF⟩
 rw [List.length_append, List.length_singleton]
 refine own_kept ho fun b hb => ?_
 obtain ⟨cs, h1⟩ := own_type ho hb
 exact Below.heap_setCell _ _ _ _ (type_ne h1 b3 (by decide))
theorem PaX.deep {w : World} {B E base pb : Nat} {groups : Int} {dp : Nat} {l : List ActD} {xs : List Value} {sA : Option Addr} {cA : Nat} (h : PaX w B E base pb groups dp l xs sA cA) (d : Nat) :
  PaX (w.setCell ⟨pb, 2, none⟩ (.int .i64 d)) B E base pb groups d l xs sA cA ∧ FrA base w (w.setCell ⟨pb, 2, none⟩ (.int .i64 d)) := by
 have hF : FrA base w (w.setCell ⟨pb, 2, none⟩ (.int .i64 d)) := FrA.set _ h.blk h.low
 refine ⟨⟨by rw [block_set _ h.blk]; rfl, own_kept h.own fun b hb => ?_, h.low, h.le, h.acts.keep fun b hb' => hF.below.block b (by have := h.le; omega)⟩, hF⟩
 obtain ⟨cs, h1⟩ := own_type h.own hb
 exact Below.heap_setCell _ _ _ _ (type_ne h1 h.blk (by decide))
theorem PaX.block {w : World} {B E base pb : Nat} {groups : Int} {dp : Nat} {l : List ActD} {xs : List Value} {sA : Option Addr} {cA : Nat} (h : PaX w B E base pb groups dp l xs sA cA) (hl : 0 < l.length) :
  ∃ g cs, sA = some ⟨g, 0, none⟩ ∧ base ≤ g ∧ w.heap[g]? = some (.cells cs 80 (0, 0)) ∧ pb ≠ g := by
 rcases h.own.2 with ⟨h1, h2⟩ | ⟨g, cap, cur, h1, _⟩
 · omega
 have e2 := (Value.slice.inj h1).1
 subst e2
 have hb : (Value.slice (some ⟨g, 0, none⟩) l.length cA).ownBlock = some g := rfl
 obtain ⟨cs, h1⟩ := own_type h.own hb
 exact ⟨g, cs, rfl, (World.ownsRow.lt h.own g hb).1, h1, type_ne h.blk h1 (by decide)⟩
theorem PaX.setX {w : World} {B E base pb g : Nat} {groups : Int} {dp : Nat} {l : List ActD} {xs : List Value} {cA : Nat} (h : PaX w B E base pb groups dp l xs (some ⟨g, 0, none⟩) cA) (f : Nat) (v : Int) :
  PaX (w.setCell ⟨g, f * 4 + 1, none⟩ (.int .i64 v)) B E base pb groups dp (l.modify f fun a => { a with x := v }) (xs.set (f * 4 + 1) (.int .i64 v)) (some ⟨g, 0, none⟩) cA ∧ FrA base w (w.setCell ⟨g, f * 4 + 1, none⟩ (.int .i64 v)) := by
 have hb : (Value.slice (some ⟨g, 0, none⟩) l.length cA).ownBlock = some g := rfl
 obtain ⟨cs, h1⟩ := own_type h.own hb
 have hF : FrA base w (w.setCell ⟨g, f * 4 + 1, none⟩ (.int .i64 v)) := FrA.setT _ h1 (.inr rfl) (World.ownsRow.lt h.own g hb).1
 refine ⟨⟨?_, ?_, h.low, h.le, (h.acts.setX f v).keep fun b hb' => hF.below.block b (by have := h.le; omega)⟩, hF⟩
 ·
  rw [List.length_modify]
  exact (Below.heap_setCell _ _ _ _ (type_ne h.blk h1 (by decide))).trans h.blk
 ·
  rw [List.length_modify]
  exact (h.own.stored _ _).1
theorem PaX.setY {w : World} {B E base pb g : Nat} {groups : Int} {dp : Nat} {l : List ActD} {xs : List Value} {cA : Nat} (h : PaX w B E base pb groups dp l xs (some ⟨g, 0, none⟩) cA) (f : Nat) (v : Int) :
  PaX (w.setCell ⟨g, f * 4 + 2, none⟩ (.int .i64 v)) B E base pb groups dp (l.modify f fun a => { a with y := v }) (xs.set (f * 4 + 2) (.int .i64 v)) (some ⟨g, 0, none⟩) cA ∧ FrA base w (w.setCell ⟨g, f * 4 + 2, none⟩ (.int .i64 v)) := by
 have hb : (Value.slice (some ⟨g, 0, none⟩) l.length cA).ownBlock = some g := rfl
 obtain ⟨cs, h1⟩ := own_type h.own hb
 have hF : FrA base w (w.setCell ⟨g, f * 4 + 2, none⟩ (.int .i64 v)) := FrA.setT _ h1 (.inr rfl) (World.ownsRow.lt h.own g hb).1
 refine ⟨⟨?_, ?_, h.low, h.le, (h.acts.setY f v).keep fun b hb' => hF.below.block b (by have := h.le; omega)⟩, hF⟩
 ·
  rw [List.length_modify]
  exact (Below.heap_setCell _ _ _ _ (type_ne h.blk h1 (by decide))).trans h.blk
 ·
  rw [List.length_modify]
  exact (h.own.stored _ _).1
set_option maxRecDepth 100000 in
set_option maxHeartbeats 4000000 in
theorem emit_g (w : World) (B E base pb : Nat) (groups : Int) (dp : Nat) (l : List ActD) (h : PaG w B E base pb groups dp l) (a : ActD) (sv : Option Addr) (hs : PtrR w B E sv a.s) (hn : l.length < 1000000000) (hbase : base ≤ w.heap.size) :
  Calls Tryd.prog 37 #[.pointer (some ⟨pb, 0, none⟩), .agg #[.int .i64 a.kind, .int .i64 a.x, .int .i64 a.y, .pointer sv]] w fun e w' =>
   e = .returned (.int .i64 l.length) ∧ FrA base w w' ∧ PaG w' B E base pb groups dp (l ++ [a]) := by
 obtain ⟨xs, sA, cA, h⟩ := h
 obtain ⟨k, x, y, s⟩ := a
 simp only at hs ⊢
 have hb1 := below_newJ w (.cells #[.int .i64 k, .int .i64 x, .int .i64 y, .pointer sv] 80)
 have hz := size_new w (.cells #[.int .i64 k, .int .i64 x, .int .i64 y, .pointer sv] 80)
 have h1 := one_new w (.cells #[.int .i64 k, .int .i64 x, .int .i64 y, .pointer sv] 80)
 have HB1 := Lib.hid hb1
 have HZ := Lib.hid hz
 have HO := Lib.hid h1
 have HP := Lib.hid h
 have HS := Lib.hid hs
 obtain ⟨n, hln⟩ : ∃ n, l.length = n := ⟨_, rfl⟩
 have HL := Lib.hid hln
 rw [hln] at hn ⊢
 clear hb1 hz h1 h hs hln
 go_enter Tryd.func37, Tryd.ntmps37
 go_wp2_with fail
 generalize w.alloc (.cells #[.int .i64 k, .int .i64 x, .int .i64 y, .pointer sv] 80) = w1 at HB1 HZ HO ⊢
 have hd := (Below.refl w1.heap.size w1).drew
 have hbd : Below w.heap.size w w1.drew := HB1.out.trans (hd.mono HB1.out.size)
 have HPd := Lib.hid (HP.out.later hbase hbd)
 have HSd := Lib.hid (HS.out.keep (w' := w1.drew) fun b hb => hbd.block b (by have := HP.out.le; omega))
 have HFd := Lib.hid (FrA.new hbd hbase)
 have HZd := Lib.hid (show base ≤ w1.drew.heap.size from Nat.le_trans hbase hbd.size)
 have hbx : w1.drew.heap[w.heap.size]? = some (.cells #[.int .i64 k, .int .i64 x, .int .i64 y, .pointer sv] 80 (0, 0)) := HO.out
 clear hd hbd HP HB1 HZ HO HS
 generalize w.heap.size = bx at hbx ⊢
 have x0 : w1.drew.cell? ⟨bx, 0, none⟩ = some (.int .i64 k) := block_cell hbx
 have x1 : w1.drew.cell? ⟨bx, 1, none⟩ = some (.int .i64 x) := block_cell hbx
 have x2 : w1.drew.cell? ⟨bx, 2, none⟩ = some (.int .i64 y) := block_cell hbx
 have x3 : w1.drew.cell? ⟨bx, 3, none⟩ = some (.pointer sv) := block_cell hbx
 have k0 : w1.drew.cell? ⟨pb, 0, none⟩ = some (.slice sA n cA) := by rw [← HL.out]; exact block_cell HPd.out.blk
 have k1 : (w1.drew.alloc (.cells #[.int .i64 k, .int .i64 x, .int .i64 y, .pointer sv] 80)).cell? ⟨pb, 0, none⟩ = some (.slice sA n cA) := by rw [← HL.out]; exact block_cell (HPd.out.later HZd.out (below_newJ _ _)).blk
 have k1u : (w1.alloc (.cells #[.int .i64 k, .int .i64 x, .int .i64 y, .pointer sv] 80)).cell? ⟨pb, 0, none⟩ = some (.slice sA n cA) := k1
 have HOW := Lib.hid (show w1.drew.ownsRow base 80 4 (.slice sA n cA) n xs from by have := HPd.out.own; rw [HL.out] at this; exact this)
 have q1 : IntKind.i64.wrap (((n + 1 : Nat) : Int) - 1) = (n : Int) := by rw [IntKind.wrap_i64]; omega
 go_region_law (first
  | (refine step_push_g (w := w1.drew) Tryd.underlying60 Tryd.infoAct rfl (by decide) (by decide) [.int .i64 k, .int .i64 x, .int .i64 y, .pointer sv] (four_one _ _ _ _) rfl ?_ (.tmp 9) (.tmp 11) ?_ base (.slice sA n cA) n xs ?_ ?_ HOW.out (by omega) HZd.out ?_; rfl; rfl; simp [Act.eval]; simp [Act.eval]; intro s' c' w3 hq; have b3 := hq.2.2.1 _ _ _ HPd.out.blk (by decide); have k2 : w3.cell? ⟨pb, 0, none⟩ = some (.slice sA n cA) := by { rw [← HL.out]; exact block_cell b3 }; have k3 : w3.frozen? ⟨pb, 0, none⟩ = false := block_free b3; have HP3 := Lib.hid (HPd.out.push ⟨k, x, y, s⟩ sv HSd.out (by rw [HL.out]; exact hq)); clear b3 hq))
 all_goals
  obtain ⟨hp4, hf4⟩ := HP3.out
  have y0 := block_cell (i := 0) hp4.blk
  rw [HL.out] at hp4 hf4 y0
  have q3 : (l ++ [(⟨k, x, y, s⟩ : ActD)]).length = n + 1 := by rw [List.length_append, List.length_singleton, HL.out]
  rw [q3] at y0
  generalize w3.setCell ⟨pb, 0, none⟩ (.slice s' (n + 1) c') = w4 at hp4 hf4 y0 ⊢
  have y1 : w4.cell? ⟨pb, 0, none⟩ = some (.slice s' (n + 1) c') := y0
  have HP4 := Lib.hid hp4
  have HF4 := Lib.hid (HFd.out.trans hf4)
  clear hp4 hf4 x0 x1 x2 x3 k0 k1 k1u k2 k3 hbx y0 q3
  have q2 : IntKind.i64.wrap ((n : Int) + 1 - 1) = (n : Int) := by rw [IntKind.wrap_i64]; omega
  go_wp2
  go_ret
  exact ⟨rfl, HF4.out, _, s', c', HP4.out⟩
end Go.Proofs.YtdegdoilpamjjaaDoor
