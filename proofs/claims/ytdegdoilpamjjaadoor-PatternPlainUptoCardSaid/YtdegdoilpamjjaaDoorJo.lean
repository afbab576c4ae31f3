/- Contracts of the pattern's reader: times (how often). Condition: no more than 2^30 ints. -/
import Derived.Test.YtdegdoilpamjjaaDoorJn
namespace Go.Proofs.YtdegdoilpamjjaaDoor
open Go.RowKit
set_option linter.unusedVariables false
set_option linter.unusedSimpArgs false
theorem NdAt.iface {rb : Nat} {w : World} {v : Value} {n : Nd} (h : NdAt rb w v n) : ∃ t u, v = .iface t u := by cases h <;> exact ⟨_, _, rfl⟩
structure AgB (w0 w : World) (rb g : Nat) (nv : Value) (least most : Int) (lazy : Bool) : Prop where
  blk : w.heap[g]? = some (.cells #[nv, .int .i64 least, .int .i64 most, .bool lazy] 142 (0, 0))
  ne : g ≠ rb
  touch : Touch (fun b => b = rb) w0 w
theorem AgB.new (w : World) (rb : Nat) (nv : Value) (hrb : rb < w.heap.size) (o : Obj) (ho : o = .cells #[nv, .int .i64 0, .int .i64 (-1), .bool false] 142 (0, 0)) :
    AgB w (w.alloc o) rb w.heap.size nv 0 (-1) false := by
  subst ho
  exact ⟨one_new w _, by omega, Touch.alloc _ w _⟩
theorem AgB.node {w0 w : World} {rb g : Nat} {nv : Value} {nd : Nd} {least most : Int} {lazy : Bool} (h : AgB w0 w rb g nv least most lazy) (hn : NdAt rb w0 nv nd) :
    NdAt rb w (.iface 124 (.pointer (some ⟨g, 0, none⟩))) (.again nd least most lazy) := .again g nv nd least most lazy h.ne h.blk (hn.touch h.touch)
theorem AgB.drewN {w0 w : World} {rb g : Nat} {nv : Value} {least most : Int} {lazy : Bool} (h : AgB w0 w rb g nv least most lazy) (m : Nat) : AgB w0 (w.drewN m) rb g nv least most lazy := ⟨h.blk, h.ne, touch_drewN h.touch⟩
/-- the place k further -/
theorem AgB.step {w0 w : World} {rb g : Nat} {nv : Value} {least most : Int} {lazy : Bool} (h : AgB w0 w rb g nv least most lazy) (v : Value) : AgB w0 (w.setCell ⟨rb, 1, none⟩ v) rb g nv least most lazy :=
  ⟨(Below.heap_setCell _ _ _ _ h.ne).trans h.blk, h.ne, h.touch.trans (Touch.setCell (fun b => b = rb) w (p := ⟨rb, 1, none⟩) rfl v) (fun x hx => .inl hx)⟩
set_option maxRecDepth 100000 in
set_option maxHeartbeats 4000000 in
theorem times_star (rb : Nat) (sl : Option Addr) (n c : Nat) (src : List Int) (s : RS) (fold : Bool) (nv : Value) (nd : Nd) (w : World) (h : RdM w rb sl n c src s fold) (hn : NdAt rb w nv nd) (hp : pk src s.at' 0 = 42) :
    Calls Tryd.prog 69 #[.pointer (some ⟨rb, 0, none⟩), nv] w (RdP w rb sl n c src fold (.ok (.again nd 0 (-1) false, { s with at' := s.at' + 1 })) (fun x w' v => NdAt rb w' v x)) := by
  have hlt : s.at' < n := by
    have := h.len
    unfold pk at hp
    split at hp <;> omega
  obtain ⟨t0, v0, hnv⟩ := hn.iface
  subst hnv
  have hrb := heap_lt h.blk
  have hA := AgB.new w rb (.iface t0 v0) hrb _ rfl
  have hR := h.later (below_newJ w (.cells #[(.iface t0 v0), .int .i64 0, .int .i64 (-1), .bool false] 142 (0, 0)))
  have HN := Lib.hid hn
  have HA := Lib.hid hA
  have HR := Lib.hid hR
  have HP := Lib.hid hp
  have hn30 := h.n30
  clear h hn hA hR hp
  go_enter Tryd.func69, Tryd.ntmps69
  go_wp2_with fail
  refine (peek_c rb sl n c src s fold 0 _ HR.out (by decide)).mono ?_
  rintro e w2 ⟨rfl, m, rfl⟩
  have HR2 := Lib.hid (HR.out.drewN m)
  have HA2 := Lib.hid (HA.out.drewN m)
  clear HR HA
  rw [HP.out]
  generalize World.drewN _ m = w2 at HR2 HA2 ⊢
  have b1 : w2.cell? ⟨rb, 1, none⟩ = some (.int .i64 s.at') := block_cell HR2.out.blk
  have f1 : w2.frozen? ⟨rb, 1, none⟩ = false := block_free HR2.out.blk
  have q3 : IntKind.i64.wrap ((s.at' : Int) + 1) = ((s.at' + 1 : Nat) : Int) := by rw [IntKind.wrap_i64]; omega
  have HA3 := Lib.hid (HA2.out.step (.int .i64 ((s.at' + 1 : Nat) : Int)))
  have HR3 := Lib.hid (HR2.out.step 1 (by omega))
  go_wp2
  go_ret
  exact ⟨HA3.out.touch, ⟨_, rfl, HA3.out.node HN.out⟩, HR3.out⟩
set_option maxRecDepth 100000 in
set_option maxHeartbeats 4000000 in
theorem times_none (rb : Nat) (sl : Option Addr) (n c : Nat) (src : List Int) (s : RS) (fold : Bool) (nv : Value) (nd : Nd) (w : World) (h : RdM w rb sl n c src s fold) (hn : NdAt rb w nv nd) (n42 : pk src s.at' 0 ≠ 42) (e43 : escB src s.at' 43 = false) (e63 : escB src s.at' 63 = false) (e123 : escB src s.at' 123 = false) :
    Calls Tryd.prog 69 #[.pointer (some ⟨rb, 0, none⟩), nv] w (RdP w rb sl n c src fold (.ok (nd, s)) (fun x w' v => NdAt rb w' v x)) := by
  obtain ⟨t0, v0, hnv⟩ := hn.iface
  subst hnv
  have hrb := heap_lt h.blk
  have hA := AgB.new w rb (.iface t0 v0) hrb _ rfl
  have hR := h.later (below_newJ w (.cells #[.iface t0 v0, .int .i64 0, .int .i64 (-1), .bool false] 142 (0, 0)))
  have HN := Lib.hid hn
  have HA := Lib.hid hA
  have HR := Lib.hid hR
  have hn30 := h.n30
  have E43 := Lib.hid e43
  have E63 := Lib.hid e63
  have E123 := Lib.hid e123
  clear h hn hA hR e43 e63 e123
  go_enter Tryd.func69, Tryd.ntmps69
  go_wp2_with fail
  refine (peek_c rb sl n c src s fold 0 _ HR.out (by decide)).mono ?_
  rintro e w2 ⟨rfl, m, rfl⟩
  have HR2 := Lib.hid (HR.out.drewN m)
  have HA2 := Lib.hid (HA.out.drewN m)
  clear HR HA
  generalize World.drewN _ m = w2 at HR2 HA2 ⊢
  generalize pk src s.at' 0 = p0 at n42 ⊢
  have N42 : (p0 == 42) = false := by rw [beq_eq_false_iff_ne]; exact n42
  go_wp2_with fail
  refine (escaped_c rb sl n c src s fold 43 _ HR2.out).mono ?_
  rintro e w3 ⟨rfl, m, rfl⟩
  rw [E43.out]
  have HR3 := Lib.hid (HR2.out.drewN m)
  have HA3 := Lib.hid (HA2.out.drewN m)
  clear HR2 HA2
  generalize World.drewN _ m = w3 at HR3 HA3 ⊢
  go_wp2_with fail
  refine (escaped_c rb sl n c src s fold 63 _ HR3.out).mono ?_
  rintro e w4 ⟨rfl, m, rfl⟩
  rw [E63.out]
  have HR4 := Lib.hid (HR3.out.drewN m)
  have HA4 := Lib.hid (HA3.out.drewN m)
  clear HR3 HA3
  generalize World.drewN _ m = w4 at HR4 HA4 ⊢
  go_wp2_with fail
  refine (escaped_c rb sl n c src s fold 123 _ HR4.out).mono ?_
  rintro e w5 ⟨rfl, m, rfl⟩
  rw [E123.out]
  have HR5 := Lib.hid (HR4.out.drewN m)
  have HA5 := Lib.hid (HA4.out.drewN m)
  clear HR4 HA4
  generalize World.drewN _ m = w5 at HR5 HA5 ⊢
  go_wp2
  go_ret
  exact ⟨HA5.out.touch, ⟨_, rfl, HN.out.touch HA5.out.touch⟩, HR5.out⟩
theorem esc_at {src : List Int} {a : Nat} {k : Int} (h : escB src a k = true) : a + 1 < src.length ∧ gl src (a + 1) = k := by
  unfold escB at h
  simp only [Bool.and_eq_true, decide_eq_true_eq] at h
  obtain ⟨⟨h1, h2⟩, h3⟩ := h
  refine ⟨h2, ?_⟩
  unfold pk at h3
  rw [if_pos h2] at h3
  exact h3
/-- a cell of the new box is written -/
theorem AgB.put1 {w0 w : World} {rb : Nat} {nv : Value} {least most x : Int} {lazy : Bool} (h : AgB w0 w rb w0.heap.size nv least most lazy) : AgB w0 (w.setCell ⟨w0.heap.size, 1, none⟩ (.int .i64 x)) rb w0.heap.size nv x most lazy :=
  ⟨by rw [block_set _ h.blk]; rfl, h.ne, h.touch.trans (Touch.setCell (fun b => b = w0.heap.size) w (p := ⟨w0.heap.size, 1, none⟩) rfl _) (fun y hy => .inr (Nat.le_of_eq hy.symm))⟩
theorem AgB.put2 {w0 w : World} {rb : Nat} {nv : Value} {least most x : Int} {lazy : Bool} (h : AgB w0 w rb w0.heap.size nv least most lazy) : AgB w0 (w.setCell ⟨w0.heap.size, 2, none⟩ (.int .i64 x)) rb w0.heap.size nv least x lazy :=
  ⟨by rw [block_set _ h.blk]; rfl, h.ne, h.touch.trans (Touch.setCell (fun b => b = w0.heap.size) w (p := ⟨w0.heap.size, 2, none⟩) rfl _) (fun y hy => .inr (Nat.le_of_eq hy.symm))⟩
/-- the reader does not see what is written to another block, ahead of which its source lies -/
theorem RdM.put {w w0 : World} {rb : Nat} {sl : Option Addr} {n c : Nat} {src : List Int} {s : RS} {fold : Bool} (h : RdM w rb sl n c src s fold) (g i : Nat) (v : Value) (hg : g ≠ rb) (hs : ∀ a, sl = some a → a.block ≠ g) : RdM (w.setCell ⟨g, i, none⟩ v) rb sl n c src s fold := by
  refine ⟨(Below.heap_setCell _ _ _ _ (Ne.symm hg)).trans h.blk, h.len, ?_, h.ne, h.at', h.n30⟩
  rcases h.src with h0 | ⟨b', o', e, hb', hc'⟩
  · exact .inl h0
  · exact .inr ⟨b', o', e, by simpa [World.setCell] using hb', fun i hi => (World.cell?_of_block (w := w) (Below.heap_setCell _ _ _ _ (hs _ e))).trans (hc' i hi)⟩
set_option maxRecDepth 100000 in
set_option maxHeartbeats 4000000 in
theorem times_plus (rb : Nat) (sl : Option Addr) (n c : Nat) (src : List Int) (s : RS) (fold : Bool) (nv : Value) (nd : Nd) (w : World) (h : RdM w rb sl n c src s fold) (hn : NdAt rb w nv nd) (n42 : pk src s.at' 0 ≠ 42) (e43 : escB src s.at' 43 = true) :
    Calls Tryd.prog 69 #[.pointer (some ⟨rb, 0, none⟩), nv] w (RdP w rb sl n c src fold (.ok (.again nd 1 (-1) false, { s with at' := s.at' + 2 })) (fun x w' v => NdAt rb w' v x)) := by
  obtain ⟨t0, v0, hnv⟩ := hn.iface
  subst hnv
  have hrb := heap_lt h.blk
  have hA := AgB.new w rb (.iface t0 v0) hrb _ rfl
  have hR := h.later (below_newJ w (.cells #[.iface t0 v0, .int .i64 0, .int .i64 (-1), .bool false] 142 (0, 0)))
  have HN := Lib.hid hn
  have HA := Lib.hid hA
  have HR := Lib.hid hR
  have hn30 := h.n30
  obtain ⟨hlt, hch⟩ := esc_at e43
  rw [h.len] at hlt
  obtain ⟨gs, off, hg, _⟩ := h.src.at (Below.refl _ _) hlt
  have hsb : ∀ a, sl = some a → a.block ≠ w.heap.size := by
    intro a ha
    rcases h.src with h0 | ⟨b', o', e, hb', hc'⟩
    · omega
    · rw [e] at ha; injection ha with ha; subst ha
      exact Nat.ne_of_lt hb'
  have hne := h.ne _ hg
  have hns := hsb _ hg
  subst hg
  have HSB := Lib.hid hsb
  have E43 := Lib.hid e43
  clear h hn hA hR hsb e43
  go_enter Tryd.func69, Tryd.ntmps69
  go_wp2_with fail
  refine (peek_c rb _ n c src s fold 0 _ HR.out (by decide)).mono ?_
  rintro e w2 ⟨rfl, m, rfl⟩
  have HR2 := Lib.hid (HR.out.drewN m)
  have HA2 := Lib.hid (HA.out.drewN m)
  clear HR HA
  generalize World.drewN _ m = w2 at HR2 HA2 ⊢
  generalize pk src s.at' 0 = p0 at n42 ⊢
  have N42 : (p0 == 42) = false := by rw [beq_eq_false_iff_ne]; exact n42
  go_wp2_with fail
  refine (escaped_c rb _ n c src s fold 43 _ HR2.out).mono ?_
  rintro e w3 ⟨rfl, m, rfl⟩
  rw [E43.out]
  have HR3 := Lib.hid (HR2.out.drewN m)
  have HA3 := Lib.hid (HA2.out.drewN m)
  clear HR2 HA2
  generalize World.drewN _ m = w3 at HR3 HA3 ⊢
  have HA7 := Lib.hid (HA3.out.put1 (x := 1))
  have HR7 := Lib.hid (HR3.out.put (w0 := w) w.heap.size 1 (.int .i64 1) HA3.out.ne HSB.out)
  have a1 : w3.cell? ⟨w.heap.size, 1, none⟩ = some (.int .i64 (0)) := block_cell HA3.out.blk
  have d1 : w3.frozen? ⟨w.heap.size, 1, none⟩ = false := block_free HA3.out.blk
  have hgr := HA3.out.ne
  go_upto_region 11 with (fail)
  generalize World.setCell _ _ _ = w7 at HA7 HR7 ⊢
  have b1 : w7.cell? ⟨rb, 1, none⟩ = some (.int .i64 s.at') := block_cell HR7.out.blk
  have f1 : w7.frozen? ⟨rb, 1, none⟩ = false := block_free HR7.out.blk
  have q3 : IntKind.i64.wrap ((s.at' : Int) + 2) = ((s.at' + 2 : Nat) : Int) := by rw [IntKind.wrap_i64]; omega
  have HA8 := Lib.hid (HA7.out.step (.int .i64 ((s.at' + 2 : Nat) : Int)))
  have HR8 := Lib.hid (HR7.out.step 2 (by omega))
  go_upto_region 12 with (fail)
  rw [show ((s.at' : Int) + 2) = ((s.at' + 2 : Nat) : Int) from by omega]
  generalize World.setCell _ _ _ = w8 at HA8 HR8 ⊢
  clear HA7 HR7 b1 f1
  have b0 : w8.cell? ⟨rb, 0, none⟩ = some (.slice (some ⟨gs, off, none⟩) n c) := block_cell HR8.out.blk
  have b1 : w8.cell? ⟨rb, 1, none⟩ = some (.int .i64 ((s.at' + 2 : Nat) : Int)) := block_cell HR8.out.blk
  have c0 : w8.cell? ⟨gs, off + (s.at' + 1), none⟩ = some (.int .i64 43) := by
    obtain ⟨g', o', e, c0⟩ := HR8.out.src.at (Below.refl _ _) hlt
    cases e
    rw [hch] at c0
    exact c0
  have q5 : IntKind.i64.wrap (((s.at' + 2 : Nat) : Int) - 1) = ((s.at' + 1 : Nat) : Int) := by rw [IntKind.wrap_i64]; omega
  have q4 : decide (n ≤ s.at' + 1) = false := decide_eq_false (by omega)
  go_quiet (fail)
  go_wp2
  go_ret
  exact ⟨touch_drewN HA8.out.touch, ⟨_, rfl, (HA8.out.drewN _).node HN.out⟩, HR8.out.drewN _⟩
set_option maxRecDepth 100000 in
set_option maxHeartbeats 4000000 in
theorem times_quest (rb : Nat) (sl : Option Addr) (n c : Nat) (src : List Int) (s : RS) (fold : Bool) (nv : Value) (nd : Nd) (w : World) (h : RdM w rb sl n c src s fold) (hn : NdAt rb w nv nd) (n42 : pk src s.at' 0 ≠ 42) (e43 : escB src s.at' 43 = false) (e63 : escB src s.at' 63 = true) :
    Calls Tryd.prog 69 #[.pointer (some ⟨rb, 0, none⟩), nv] w (RdP w rb sl n c src fold (.ok (.again nd 0 1 false, { s with at' := s.at' + 2 })) (fun x w' v => NdAt rb w' v x)) := by
  obtain ⟨t0, v0, hnv⟩ := hn.iface
  subst hnv
  have hrb := heap_lt h.blk
  have hA := AgB.new w rb (.iface t0 v0) hrb _ rfl
  have hR := h.later (below_newJ w (.cells #[.iface t0 v0, .int .i64 0, .int .i64 (-1), .bool false] 142 (0, 0)))
  have HN := Lib.hid hn
  have HA := Lib.hid hA
  have HR := Lib.hid hR
  have hn30 := h.n30
  obtain ⟨hlt, hch⟩ := esc_at e63
  rw [h.len] at hlt
  obtain ⟨gs, off, hg, _⟩ := h.src.at (Below.refl _ _) hlt
  have hsb : ∀ a, sl = some a → a.block ≠ w.heap.size := by
    intro a ha
    rcases h.src with h0 | ⟨b', o', e, hb', hc'⟩
    · omega
    · rw [e] at ha; injection ha with ha; subst ha
      exact Nat.ne_of_lt hb'
  have hne := h.ne _ hg
  have hns := hsb _ hg
  subst hg
  have HSB := Lib.hid hsb
  have E43 := Lib.hid e43
  have E63 := Lib.hid e63
  clear h hn hA hR hsb e43 e63
  go_enter Tryd.func69, Tryd.ntmps69
  go_wp2_with fail
  refine (peek_c rb _ n c src s fold 0 _ HR.out (by decide)).mono ?_
  rintro e w2 ⟨rfl, m, rfl⟩
  have HR2 := Lib.hid (HR.out.drewN m)
  have HA2 := Lib.hid (HA.out.drewN m)
  clear HR HA
  generalize World.drewN _ m = w2 at HR2 HA2 ⊢
  generalize pk src s.at' 0 = p0 at n42 ⊢
  have N42 : (p0 == 42) = false := by rw [beq_eq_false_iff_ne]; exact n42
  go_wp2_with fail
  refine (escaped_c rb _ n c src s fold 43 _ HR2.out).mono ?_
  rintro e w3 ⟨rfl, m, rfl⟩
  rw [E43.out]
  have HR3 := Lib.hid (HR2.out.drewN m)
  have HA3 := Lib.hid (HA2.out.drewN m)
  clear HR2 HA2
  generalize World.drewN _ m = w3 at HR3 HA3 ⊢
  go_wp2_with fail
  refine (escaped_c rb _ n c src s fold 63 _ HR3.out).mono ?_
  rintro e w4 ⟨rfl, m, rfl⟩
  rw [E63.out]
  have HR4 := Lib.hid (HR3.out.drewN m)
  have HA4 := Lib.hid (HA3.out.drewN m)
  clear HR3 HA3
  generalize World.drewN _ m = w4 at HR4 HA4 ⊢
  have HA7 := Lib.hid (HA4.out.put2 (x := 1))
  have HR7 := Lib.hid (HR4.out.put (w0 := w) w.heap.size 2 (.int .i64 1) HA4.out.ne HSB.out)
  have a1 : w4.cell? ⟨w.heap.size, 2, none⟩ = some (.int .i64 (-1)) := block_cell HA4.out.blk
  have d1 : w4.frozen? ⟨w.heap.size, 2, none⟩ = false := block_free HA4.out.blk
  have hgr := HA4.out.ne
  go_upto_region 11 with (fail)
  generalize World.setCell _ _ _ = w7 at HA7 HR7 ⊢
  have b1 : w7.cell? ⟨rb, 1, none⟩ = some (.int .i64 s.at') := block_cell HR7.out.blk
  have f1 : w7.frozen? ⟨rb, 1, none⟩ = false := block_free HR7.out.blk
  have q3 : IntKind.i64.wrap ((s.at' : Int) + 2) = ((s.at' + 2 : Nat) : Int) := by rw [IntKind.wrap_i64]; omega
  have HA8 := Lib.hid (HA7.out.step (.int .i64 ((s.at' + 2 : Nat) : Int)))
  have HR8 := Lib.hid (HR7.out.step 2 (by omega))
  go_upto_region 12 with (fail)
  rw [show ((s.at' : Int) + 2) = ((s.at' + 2 : Nat) : Int) from by omega]
  generalize World.setCell _ _ _ = w8 at HA8 HR8 ⊢
  clear HA7 HR7 b1 f1
  have b0 : w8.cell? ⟨rb, 0, none⟩ = some (.slice (some ⟨gs, off, none⟩) n c) := block_cell HR8.out.blk
  have b1 : w8.cell? ⟨rb, 1, none⟩ = some (.int .i64 ((s.at' + 2 : Nat) : Int)) := block_cell HR8.out.blk
  have c0 : w8.cell? ⟨gs, off + (s.at' + 1), none⟩ = some (.int .i64 63) := by
    obtain ⟨g', o', e, c0⟩ := HR8.out.src.at (Below.refl _ _) hlt
    cases e
    rw [hch] at c0
    exact c0
  have q5 : IntKind.i64.wrap (((s.at' + 2 : Nat) : Int) - 1) = ((s.at' + 1 : Nat) : Int) := by rw [IntKind.wrap_i64]; omega
  have q4 : decide (n ≤ s.at' + 1) = false := decide_eq_false (by omega)
  go_quiet (fail)
  go_wp2
  go_ret
  exact ⟨touch_drewN HA8.out.touch, ⟨_, rfl, (HA8.out.drewN _).node HN.out⟩, HR8.out.drewN _⟩
end Go.Proofs.YtdegdoilpamjjaaDoor
