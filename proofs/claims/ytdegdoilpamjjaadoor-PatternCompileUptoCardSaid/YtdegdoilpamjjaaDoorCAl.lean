/- Contract of the pattern's reader: pattern, above member. Condition: fewer than 900000 ints. -/
import Derived.Test.YtdegdoilpamjjaaDoorCAk
namespace Go.Proofs.YtdegdoilpamjjaaDoor
open Go.RowKit
set_option linter.unusedVariables false
set_option linter.unusedSimpArgs false
def patT (src : List Int) (fold : Bool) (f : Nat) (acc : List Nd) : RR (List Nd) → RR Nd
 | .error e => .error e
 | .ok (ms, s1) => if escB src s1.at' 124 = true then patP src fold f (acc ++ [.row ms]) { s1 with at' := s1.at' + 2 } else .ok (.choice (acc ++ [.row ms]), s1)
theorem patP_eq (src : List Int) (fold : Bool) (f : Nat) (acc : List Nd) (s : RS) : patP src fold (f + 1) acc s = patT src fold f acc (memsP src fold f [] s) := by
 rw [patP]
 rcases memsP src fold f [] s with e | ⟨x, s1⟩ <;> rfl
def memsT (src : List Int) (fold : Bool) (f : Nat) (acc : List Nd) : RR Nd → RR (List Nd)
 | .error e => .error e
 | .ok (m, s1) => memsP src fold f (acc ++ [m]) s1
theorem memsP_eq (src : List Int) (fold : Bool) (f : Nat) (acc : List Nd) (s : RS) : memsP src fold (f + 1) acc s = if s.at' < src.length ∧ escB src s.at' 124 = false ∧ escB src s.at' 41 = false then memsT src fold f acc (memP src fold f s) else .ok (acc, s) := by
 rw [memsP]
 by_cases h : s.at' < src.length ∧ escB src s.at' 124 = false ∧ escB src s.at' 41 = false
 ·
  rw [if_pos h, if_pos h]
  rcases memP src fold f s with e | ⟨x, s1⟩ <;> rfl
 · rw [if_neg h, if_neg h]
theorem fake_arm {P G : Ending → World → Prop} (v : Value) (w0 : World) (h : ∀ e w, P e w → G e w) (_hf : Hid False → G (.returned v) w0) : ∀ e w, P e w → G e w := h
set_option maxRecDepth 100000 in
set_option maxHeartbeats 16000000 in
theorem pattern_c (F : Nat) (rb : Nat) (sl : Option Addr) (n c : Nat) (src : List Int) (s : RS) (fold : Bool) (w : World) (h : RdM w rb sl n c src s fold) (hn : n < 900000) (hF : 4 * (n - s.at') + 8 ≤ F) (hg9 : s.groups ≤ 9)
  (hM : ∀ (f : Nat) (s' : RS) (w' : World), f < F → RdM w' rb sl n c src s' fold → s'.groups ≤ 9 → 4 * (n - s'.at') + 6 ≤ f → Calls Tryd.prog 54 #[.pointer (some ⟨rb, 0, none⟩)] w' (RdP w' rb sl n c src fold (memP src fold f s') (fun x w'' v => NdR w'' w'.heap.size w''.heap.size v x))) :
  Calls Tryd.prog 35 #[.pointer (some ⟨rb, 0, none⟩)] w (RdP w rb sl n c src fold (patP src fold F [] s) (fun x w' v => NdR w' w.heap.size w'.heap.size v x)) := by
 obtain ⟨RR, hRR⟩ : ∃ RR, patP src fold F [] s = RR := ⟨_, rfl⟩
 rw [hRR]
 have HRR := Lib.hid hRR
 have H0 := Lib.hid h
 have HM := Lib.hid hM
 have hlen := h.len
 have HD0 := Lib.hid (PatD.begin w rb sl n c src fold s h)
 clear hRR hM h
 go_enter Tryd.func35, Tryd.ntmps35
 go_wp2_with fail
 obtain ⟨cb, hcb⟩ : ∃ cb, w.heap.size = cb := ⟨_, rfl⟩
 generalize w.alloc (.cells #[.slice none 0 0] 114) = w1 at HD0 ⊢
 have HCB := Lib.hid hcb
 rw [hcb] at HD0 ⊢
 clear hcb
 go_loopg [4] F (fun gg mv wr => ∃ (s' : RS) (sR : Option Addr) (nR cR : Nat) (ra : List Value) (acc : List Nd), PatD w wr rb sl n c src fold cb s' sR nR cR ra acc ∧ patP src fold gg acc s' = RR ∧ 4 * (n - s'.at') + 8 ≤ gg ∧ s'.groups ≤ 9 ∧ nR ≤ s'.at' ∧ gg ≤ F)
 case atStart => exact ⟨s, none, 0, 0, [], [], HD0.out, HRR.out, hF, hg9, Nat.zero_le _, Nat.le_refl _⟩
 case round =>
  clear HD0 HRR hF hg9
  obtain ⟨s1, sR, nR, cR, ra, acc, hd, hpp, hf1, hg1, hnR, hgF⟩ := hrel
  obtain ⟨g, rfl⟩ : ∃ g, gk = g + 1 := ⟨gk - 1, by omega⟩
  rw [patP_eq] at hpp
  obtain ⟨R1, hR1⟩ : ∃ R1, memsP src fold g [] s1 = R1 := ⟨_, rfl⟩
  rw [hR1] at hpp
  have hat1 := hd.rd.at'
  have HPP := Lib.hid hpp
  have HR1 := Lib.hid hR1
  have HG0 := Lib.hid hd.row
  clear hd hpp hR1
  go_wp2_with fail
  obtain ⟨mb, hmb⟩ : ∃ mb, wr.heap.size = mb := ⟨_, rfl⟩
  generalize wr.alloc (.cells #[.slice none 0 0] 117) = w2 at HG0 ⊢
  rw [hmb] at HG0 ⊢
  clear hmb
  go_loopg [] g (fun hh wq => ∃ (s2 : RS) (sM : Option Addr) (nM cM : Nat) (vs : List Value) (ms : List Nd), PatG w wq rb sl n c src fold cb mb s2 sR nR cR ra acc sM nM cM vs ms ∧ memsP src fold hh ms s2 = R1 ∧ 4 * (n - s2.at') + 7 ≤ hh ∧ s2.groups ≤ 9 ∧ nM ≤ s2.at' ∧ hh ≤ g ∧ s1.at' ≤ s2.at')
  case atStart => exact ⟨s1, none, 0, 0, [], [], HG0.out, HR1.out, by omega, hg1, Nat.zero_le _, Nat.le_refl _, Nat.le_refl _⟩
  case round =>
   clear HG0 HR1
   obtain ⟨s2, sM, nM, cM, vs, ms, hg, hmm, hf2, hg2, hnM, hhg, hs12⟩ := hrel
   obtain ⟨hh, rfl⟩ : ∃ hh, gk = hh + 1 := ⟨gk - 1, by omega⟩
   rw [memsP_eq] at hmm
   have hat2 := hg.rd.at'
   have HG := Lib.hid hg
   have b0 : wr.cell? ⟨rb, 0, none⟩ = some (.slice sl n c) := block_cell hg.rd.blk
   have b1 : wr.cell? ⟨rb, 1, none⟩ = some (.int .i64 s2.at') := block_cell hg.rd.blk
   clear hg
   by_cases hC : s2.at' < src.length ∧ escB src s2.at' 124 = false ∧ escB src s2.at' 41 = false
   ·
    rw [if_pos hC] at hmm
    obtain ⟨k1, k2, k3⟩ := hC
    have HX1 : Hid (∀ m, Calls Tryd.prog 53 #[.pointer (some ⟨rb, 0, none⟩), .int .i64 124] (wr.drewN m) fun e w' => e = .returned (.bool false) ∧ ∃ m', w' = (wr.drewN m).drewN m') := Lib.hid (fun m => by
     have := escaped_c rb sl n c src s2 fold 124 (wr.drewN m) (HG.out.rd.drewN m)
     rw [k2] at this
     exact this)
    have HX2 : Hid (∀ m, Calls Tryd.prog 53 #[.pointer (some ⟨rb, 0, none⟩), .int .i64 41] (wr.drewN m) fun e w' => e = .returned (.bool false) ∧ ∃ m', w' = (wr.drewN m).drewN m') := Lib.hid (fun m => by
     have := escaped_c rb sl n c src s2 fold 41 (wr.drewN m) (HG.out.rd.drewN m)
     rw [k3] at this
     exact this)
    have q1 : (s2.at' : Int) < (n : Int) := by omega
    have HMM := Lib.hid hmm
    clear hmm k1 k2 k3
    go_wp2_with fail
    go_quiet (first | (go_at_call 53; first | with_reducible exact Calls.quiet_of (HX1.out _) | with_reducible exact Calls.quiet_of (HX2.out _)))
    go_wp2_with fail
    have HGq := Lib.hid (HG.out.read (touch_drewN (n := nq) (Touch.refl _ _)) (HG.out.rd.drewN nq))
    clear HG HX1 HX2 b0 b1
    generalize World.drewN wr nq = w3 at HGq ⊢
    have hd := (Below.refl w3.heap.size w3).drew
    have hRdd := HGq.out.rd.later hd
    have HTd := Lib.hid (Touch.of (O := fun b => b = rb) hd)
    have k0 : w3.drew.cell? ⟨mb, 0, none⟩ = some (.slice sM nM cM) := block_cell ((hd.block _ (heap_lt HGq.out.mblk)).trans HGq.out.mblk)
    clear hd
    have hMc := HM.out hh s2 w3.drew (by omega) hRdd hg2 (by omega)
    have HON := Lib.hid ((reader_on src fold hh).2.1 s2)
    rcases hmp : memP src fold hh s2 with kk | ⟨nd, s3⟩
    ·
     rw [hmp] at hMc
     have HMc := Lib.hid hMc
     have HR2 := Lib.hid (show RR = .error kk from by
      have := HMM.out; rw [hmp] at this
      have h2 := HPP.out; rw [← this] at h2
      exact h2.symm)
     clear hMc hmp hRdd
     obtain ⟨wf, -⟩ : ∃ wf : World, True := ⟨w3, trivial⟩
     go_region_law (first
      | (go_simp; go_at_call 54; refine HMc.out.mono ?_; refine fake_arm .nilIface wf ?_ ?_; (rintro e w4 ⟨ht4, he⟩; simp only at he; subst he; go_wp2; refine ⟨rfl, (HGq.out.tch.trans (HTd.out.trans ht4 (fun x hx => .inl hx)) (fun x hx => .inl hx)), ?_⟩; rw [HR2.out]); intro HF; have k1 : wf.cell? ⟨mb, 0, none⟩ = some (.slice sM nM cM) := HF.out.elim; have k2 : (wf.alloc (.cells #[.nilIface] 74)).cell? ⟨mb, 0, none⟩ = some (.slice sM nM cM) := HF.out.elim)
      | (refine step_push_g Tryd.underlying112 Tryd.infoNode rfl (by decide) (by decide) [.nilIface] (by intro u hu; rw [List.mem_singleton] at hu; subst hu; rfl) rfl ?_ (.tmp 33) (.tmp 36) ?_ mb (.slice sM nM cM) nM vs ?_ ?_ (HF.out.elim) (HF.out.elim) (HF.out.elim) ?_; rfl; rfl; simp [Act.eval]; simp [Act.eval]; intro s' c' w5 _; have k3 : w5.cell? ⟨mb, 0, none⟩ = some (.slice sM nM cM) := HF.out.elim; have k4 : w5.frozen? ⟨mb, 0, none⟩ = false := HF.out.elim))
     all_goals exact HF.out.elim
    ·
     rw [hmp] at hMc
     have HMc := Lib.hid hMc
     have HMM2 := Lib.hid (show memsP src fold hh (ms ++ [nd]) s3 = R1 from by
      have := HMM.out; rw [hmp] at this; exact this)
     obtain ⟨on1, on2⟩ := HON.out _ _ hmp
     clear hMc hmp hRdd HMM
     go_region_law (first
      | (go_simp; go_at_call 54; refine HMc.out.mono ?_; rintro e w4 ⟨ht4, he⟩; obtain ⟨⟨v, rfl, hnv⟩, hr4⟩ := he; obtain ⟨tv, uv, ev⟩ := hnv.iface; subst ev; have HG4 := Lib.hid (HGq.out.read (HTd.out.trans ht4 (fun x hx => .inl hx)) hr4); have HNV := Lib.hid hnv; have hz4 := ht4.size; have m3 := HG4.out.mblk; have k1 : w4.cell? ⟨mb, 0, none⟩ = some (.slice sM nM cM) := block_cell m3; have k2 : (w4.alloc (.cells #[.iface tv uv] 74)).cell? ⟨mb, 0, none⟩ = some (.slice sM nM cM) := block_cell (at_new _ m3); have M3 := Lib.hid m3; clear m3 ht4 hr4 hnv)
      | (refine step_push_g Tryd.underlying112 Tryd.infoNode rfl (by decide) (by decide) [.iface tv uv] (by intro u hu; rw [List.mem_singleton] at hu; subst hu; rfl) rfl ?_ (.tmp 33) (.tmp 36) ?_ mb (.slice sM nM cM) nM vs ?_ ?_ HG4.out.ownM (by omega) (Nat.le_of_lt (heap_lt M3.out)) ?_; rfl; rfl; simp [Act.eval]; simp [Act.eval]; intro s' c' w5 hp; have m4 := hp.2.2.1 _ _ _ M3.out (by decide); have k3 : w5.cell? ⟨mb, 0, none⟩ = some (.slice sM nM cM) := block_cell m4; have k4 : w5.frozen? ⟨mb, 0, none⟩ = false := block_free m4; have HP := Lib.hid hp; clear m4 hp))
     all_goals
      have HG5 := Lib.hid (PatG.push H0.out HG4.out HNV.out (by show mb ≤ w3.heap.size; exact Nat.le_of_lt (heap_lt HGq.out.mblk)) (Nat.le_refl _) (fun b hb => .inl (by show b < w3.heap.size; exact HGq.out.lt b hb)) HP.out)
      generalize w5.setCell ⟨mb, 0, none⟩ (.slice s' (nM + 1) c') = w6 at HG5 ⊢
      clear k0 k1 k2 k3 k4
      go_wp2
      go_roundg hh
      case measure => omega
      case rel => exact ⟨s3, s', nM + 1, c', _, _, HG5.out, HMM2.out, by omega, on2 hg2, by omega, by omega, by omega⟩
   ·
    rw [if_neg hC] at hmm
    have HRES := Lib.hid (show patT src fold g acc (.ok (ms, s2)) = RR from by rw [hmm]; exact HPP.out)
    have hcase : (¬ s2.at' < n) ∨ (s2.at' < n ∧ escB src s2.at' 124 = true) ∨ (s2.at' < n ∧ escB src s2.at' 124 = false ∧ escB src s2.at' 41 = true) := by
     by_cases h1 : s2.at' < n
     ·
      cases h2 : escB src s2.at' 124 with
      | true => exact .inr (.inl ⟨h1, rfl⟩)
      | false =>
       cases h3 : escB src s2.at' 41 with
       | true => exact .inr (.inr ⟨h1, rfl, rfl⟩)
       | false => exact absurd ⟨by omega, h2, h3⟩ hC
     · exact .inl h1
    have HX1 : Hid (∀ m, Calls Tryd.prog 53 #[.pointer (some ⟨rb, 0, none⟩), .int .i64 124] (wr.drewN m) fun e w' => e = .returned (.bool (escB src s2.at' 124)) ∧ ∃ m', w' = (wr.drewN m).drewN m') := Lib.hid (fun m =>
     escaped_c rb sl n c src s2 fold 124 (wr.drewN m) (HG.out.rd.drewN m))
    have HX2 : Hid (∀ m, Calls Tryd.prog 53 #[.pointer (some ⟨rb, 0, none⟩), .int .i64 41] (wr.drewN m) fun e w' => e = .returned (.bool (escB src s2.at' 41)) ∧ ∃ m', w' = (wr.drewN m).drewN m') := Lib.hid (fun m =>
     escaped_c rb sl n c src s2 fold 41 (wr.drewN m) (HG.out.rd.drewN m))
    clear hmm hC
    rcases hcase with h1 | ⟨h1, h2⟩ | ⟨h1, h2, h3⟩
    ·
     have q1 : decide (((s2.at' : Nat) : Int) < (n : Int)) = false := decide_eq_false (by omega)
     have q1b : decide (s2.at' < n) = false := decide_eq_false h1
     clear h1
     go_wp2_with fail
     go_quiet (fail)
     have HGq := Lib.hid (HG.out.read (touch_drewN (n := nq) (Touch.refl _ _)) (HG.out.rd.drewN nq))
     clear HG HX1 HX2 q1 q1b b0 b1
     generalize World.drewN wr nq = w3 at HGq ⊢
     have c0 : w3.cell? ⟨cb, 0, none⟩ = some (.slice sR nR cR) := block_cell HGq.out.cblk
     have hcge := HGq.out.cge
     have hcw := heap_lt HGq.out.cblk
     go_wp2_with (first | (at_builtin; refine wpList_push_g Tryd.underlying112 Tryd.infoNode rfl (by decide) (by decide) [.iface 115 (.pointer (some ⟨mb, 0, none⟩))] (by intro u hu; rw [List.mem_singleton] at hu; subst hu; rfl) rfl rfl _ _ rfl w.heap.size (.slice sR nR cR) nR ra rfl rfl HGq.out.ownR (by omega) (by omega) ?_; intro s' c' w4 hp; have HD5 := Lib.hid (PatG.done H0.out HGq.out hp); have c4 := hp.2.2.1 _ _ _ HGq.out.cblk (by decide); have c3 : w4.cell? ⟨cb, 0, none⟩ = some (.slice sR nR cR) := block_cell c4; have f3 : w4.frozen? ⟨cb, 0, none⟩ = false := block_free c4; clear hp c4))
     generalize w4.setCell ⟨cb, 0, none⟩ (.slice s' (nR + 1) c') = w5 at HD5 ⊢
     clear c0 c3 f3 hcge hcw
     refine (escaped_c rb sl n c src s2 fold 124 _ HD5.out.rd).mono ?_
     rintro e w6 ⟨rfl, m, rfl⟩
     have HD6 := Lib.hid (HD5.out.moved (touch_drewN (n := m) (Touch.refl _ _)) (HD5.out.rd.drewN m))
     clear HD5
     generalize World.drewN w5 m = w7 at HD6 ⊢
     have hRT := HRES.out
     cases hE : escB src s2.at' 124 with
     | false =>
      have HRT := Lib.hid (show RR = .ok (.choice (acc ++ [.row ms]), s2) from by rw [← hRT]; unfold patT; simp [hE])
      clear hE hRT
      go_wp2
      go_ret
      rw [HRT.out]
      exact ⟨HD6.out.tch, ⟨_, rfl, HD6.out.node⟩, HD6.out.rd⟩
     | true =>
      have HRT := Lib.hid (show patP src fold g (acc ++ [.row ms]) { s2 with at' := s2.at' + 2 } = RR from by rw [← hRT]; unfold patT; simp [hE])
      have hlt := (esc_at hE).1
      have b1 : w7.cell? ⟨rb, 1, none⟩ = some (.int .i64 s2.at') := block_cell HD6.out.rd.blk
      have f1 : w7.frozen? ⟨rb, 1, none⟩ = false := block_free HD6.out.rd.blk
      have q3 : IntKind.i64.wrap ((s2.at' : Int) + 2) = ((s2.at' + 2 : Nat) : Int) := by rw [IntKind.wrap_i64]; omega
      have HD8 := Lib.hid (HD6.out.moved (Touch.setCell (fun b => b = rb) w7 (p := ⟨rb, 1, none⟩) rfl (.int .i64 ((s2.at' + 2 : Nat) : Int))) (HD6.out.rd.step 2 (by omega)))
      clear hE hRT
      go_wp2
      rw [show ((s2.at' : Int) + 2) = ((s2.at' + 2 : Nat) : Int) from by omega]
      generalize World.setCell _ _ _ = w8 at HD8 ⊢
      go_roundg g
      case measure => omega
      case rel => exact ⟨{ s2 with at' := s2.at' + 2 }, s', nR + 1, c', _, _, HD8.out, HRT.out, by show 4 * (n - (s2.at' + 2)) + 8 ≤ g; omega, hg2, by show nR + 1 ≤ s2.at' + 2; omega, by omega⟩
    ·
     have q1 : (s2.at' : Int) < (n : Int) := by omega
     rw [h2] at HX1
     clear h1 h2
     go_wp2_with fail
     go_quiet (first | (go_at_call 53; first | with_reducible exact Calls.quiet_of (HX1.out _)))
     have HGq := Lib.hid (HG.out.read (touch_drewN (n := nq) (Touch.refl _ _)) (HG.out.rd.drewN nq))
     clear HG HX1 HX2 q1 b0 b1
     generalize World.drewN wr nq = w3 at HGq ⊢
     have c0 : w3.cell? ⟨cb, 0, none⟩ = some (.slice sR nR cR) := block_cell HGq.out.cblk
     have hcge := HGq.out.cge
     have hcw := heap_lt HGq.out.cblk
     go_wp2_with (first | (at_builtin; refine wpList_push_g Tryd.underlying112 Tryd.infoNode rfl (by decide) (by decide) [.iface 115 (.pointer (some ⟨mb, 0, none⟩))] (by intro u hu; rw [List.mem_singleton] at hu; subst hu; rfl) rfl rfl _ _ rfl w.heap.size (.slice sR nR cR) nR ra rfl rfl HGq.out.ownR (by omega) (by omega) ?_; intro s' c' w4 hp; have HD5 := Lib.hid (PatG.done H0.out HGq.out hp); have c4 := hp.2.2.1 _ _ _ HGq.out.cblk (by decide); have c3 : w4.cell? ⟨cb, 0, none⟩ = some (.slice sR nR cR) := block_cell c4; have f3 : w4.frozen? ⟨cb, 0, none⟩ = false := block_free c4; clear hp c4))
     generalize w4.setCell ⟨cb, 0, none⟩ (.slice s' (nR + 1) c') = w5 at HD5 ⊢
     clear c0 c3 f3 hcge hcw
     refine (escaped_c rb sl n c src s2 fold 124 _ HD5.out.rd).mono ?_
     rintro e w6 ⟨rfl, m, rfl⟩
     have HD6 := Lib.hid (HD5.out.moved (touch_drewN (n := m) (Touch.refl _ _)) (HD5.out.rd.drewN m))
     clear HD5
     generalize World.drewN w5 m = w7 at HD6 ⊢
     have hRT := HRES.out
     cases hE : escB src s2.at' 124 with
     | false =>
      have HRT := Lib.hid (show RR = .ok (.choice (acc ++ [.row ms]), s2) from by rw [← hRT]; unfold patT; simp [hE])
      clear hE hRT
      go_wp2
      go_ret
      rw [HRT.out]
      exact ⟨HD6.out.tch, ⟨_, rfl, HD6.out.node⟩, HD6.out.rd⟩
     | true =>
      have HRT := Lib.hid (show patP src fold g (acc ++ [.row ms]) { s2 with at' := s2.at' + 2 } = RR from by rw [← hRT]; unfold patT; simp [hE])
      have hlt := (esc_at hE).1
      have b1 : w7.cell? ⟨rb, 1, none⟩ = some (.int .i64 s2.at') := block_cell HD6.out.rd.blk
      have f1 : w7.frozen? ⟨rb, 1, none⟩ = false := block_free HD6.out.rd.blk
      have q3 : IntKind.i64.wrap ((s2.at' : Int) + 2) = ((s2.at' + 2 : Nat) : Int) := by rw [IntKind.wrap_i64]; omega
      have HD8 := Lib.hid (HD6.out.moved (Touch.setCell (fun b => b = rb) w7 (p := ⟨rb, 1, none⟩) rfl (.int .i64 ((s2.at' + 2 : Nat) : Int))) (HD6.out.rd.step 2 (by omega)))
      clear hE hRT
      go_wp2
      rw [show ((s2.at' : Int) + 2) = ((s2.at' + 2 : Nat) : Int) from by omega]
      generalize World.setCell _ _ _ = w8 at HD8 ⊢
      go_roundg g
      case measure => omega
      case rel => exact ⟨{ s2 with at' := s2.at' + 2 }, s', nR + 1, c', _, _, HD8.out, HRT.out, by show 4 * (n - (s2.at' + 2)) + 8 ≤ g; omega, hg2, by show nR + 1 ≤ s2.at' + 2; omega, by omega⟩
    ·
     have q1 : (s2.at' : Int) < (n : Int) := by omega
     rw [h2] at HX1
     rw [h3] at HX2
     clear h1 h2 h3
     go_wp2_with fail
     go_quiet (first | (go_at_call 53; first | with_reducible exact Calls.quiet_of (HX1.out _) | with_reducible exact Calls.quiet_of (HX2.out _)))
     have HGq := Lib.hid (HG.out.read (touch_drewN (n := nq) (Touch.refl _ _)) (HG.out.rd.drewN nq))
     clear HG HX1 HX2 q1 b0 b1
     generalize World.drewN wr nq = w3 at HGq ⊢
     have c0 : w3.cell? ⟨cb, 0, none⟩ = some (.slice sR nR cR) := block_cell HGq.out.cblk
     have hcge := HGq.out.cge
     have hcw := heap_lt HGq.out.cblk
     go_wp2_with (first | (at_builtin; refine wpList_push_g Tryd.underlying112 Tryd.infoNode rfl (by decide) (by decide) [.iface 115 (.pointer (some ⟨mb, 0, none⟩))] (by intro u hu; rw [List.mem_singleton] at hu; subst hu; rfl) rfl rfl _ _ rfl w.heap.size (.slice sR nR cR) nR ra rfl rfl HGq.out.ownR (by omega) (by omega) ?_; intro s' c' w4 hp; have HD5 := Lib.hid (PatG.done H0.out HGq.out hp); have c4 := hp.2.2.1 _ _ _ HGq.out.cblk (by decide); have c3 : w4.cell? ⟨cb, 0, none⟩ = some (.slice sR nR cR) := block_cell c4; have f3 : w4.frozen? ⟨cb, 0, none⟩ = false := block_free c4; clear hp c4))
     generalize w4.setCell ⟨cb, 0, none⟩ (.slice s' (nR + 1) c') = w5 at HD5 ⊢
     clear c0 c3 f3 hcge hcw
     refine (escaped_c rb sl n c src s2 fold 124 _ HD5.out.rd).mono ?_
     rintro e w6 ⟨rfl, m, rfl⟩
     have HD6 := Lib.hid (HD5.out.moved (touch_drewN (n := m) (Touch.refl _ _)) (HD5.out.rd.drewN m))
     clear HD5
     generalize World.drewN w5 m = w7 at HD6 ⊢
     have hRT := HRES.out
     cases hE : escB src s2.at' 124 with
     | false =>
      have HRT := Lib.hid (show RR = .ok (.choice (acc ++ [.row ms]), s2) from by rw [← hRT]; unfold patT; simp [hE])
      clear hE hRT
      go_wp2
      go_ret
      rw [HRT.out]
      exact ⟨HD6.out.tch, ⟨_, rfl, HD6.out.node⟩, HD6.out.rd⟩
     | true =>
      have HRT := Lib.hid (show patP src fold g (acc ++ [.row ms]) { s2 with at' := s2.at' + 2 } = RR from by rw [← hRT]; unfold patT; simp [hE])
      have hlt := (esc_at hE).1
      have b1 : w7.cell? ⟨rb, 1, none⟩ = some (.int .i64 s2.at') := block_cell HD6.out.rd.blk
      have f1 : w7.frozen? ⟨rb, 1, none⟩ = false := block_free HD6.out.rd.blk
      have q3 : IntKind.i64.wrap ((s2.at' : Int) + 2) = ((s2.at' + 2 : Nat) : Int) := by rw [IntKind.wrap_i64]; omega
      have HD8 := Lib.hid (HD6.out.moved (Touch.setCell (fun b => b = rb) w7 (p := ⟨rb, 1, none⟩) rfl (.int .i64 ((s2.at' + 2 : Nat) : Int))) (HD6.out.rd.step 2 (by omega)))
      clear hE hRT
      go_wp2
      rw [show ((s2.at' : Int) + 2) = ((s2.at' + 2 : Nat) : Int) from by omega]
      generalize World.setCell _ _ _ = w8 at HD8 ⊢
      go_roundg g
      case measure => omega
      case rel => exact ⟨{ s2 with at' := s2.at' + 2 }, s', nR + 1, c', _, _, HD8.out, HRT.out, by show 4 * (n - (s2.at' + 2)) + 8 ≤ g; omega, hg2, by show nR + 1 ≤ s2.at' + 2; omega, by omega⟩
end Go.Proofs.YtdegdoilpamjjaaDoor
