/- Contract: add (of the runner), in general. -/
import Derived.StillTailTactics
import Derived.WalkMore
import Derived.Deep.CutRange
import Derived.Deep.RegionHeld3
import Derived.Test.YtdegdoilpamjjaaDoorCAq
namespace Go.Proofs.YtdegdoilpamjjaaDoor
open Go.RowKit
set_option linter.unusedVariables false
set_option linter.unusedSimpArgs false
def contA (acts : List ActD) (deep : Nat) (stand : Int → Bool) (at' : Nat) (fr : Int) (f : Nat) (r : (Nat → Nat) × List ThD × List ToD) : (Nat → Nat) × List ThD := addP' acts deep stand at' fr f r.1 r.2.1 r.2.2
theorem addP_cons (acts : List ActD) (deep : Nat) (stand : Int → Bool) (at' : Nat) (fr : Int) (f : Nat) (seen : Nat → Nat) (th : List ThD) (t : ToD) (st : List ToD) :
  addP' acts deep stand at' fr (f + 1) seen th (t :: st) = contA acts deep stand at' fr f (goOnP acts deep stand at' fr (acts.length * (deep + 1) + 2) t seen th st) := by
 rw [addP']
 rfl
theorem addP_nil (acts : List ActD) (deep : Nat) (stand : Int → Bool) (at' : Nat) (fr : Int) (f : Nat) (seen : Nat → Nat) (th : List ThD) : addP' acts deep stand at' fr f seen th [] = (seen, th) := by
 cases f <;> rw [addP']
theorem LineR.of {w0 w : World} {rn sb pb : Nat} {line : List Int} {sl : Option Addr} {n c : Nat} {N at' : Nat} {seen : Nat → Nat} {th : List ThD} {sT : Option Addr} {cT : Nat} (h : RunG w0 w rn sb pb (.slice sl n c) N at' seen th sT cT) (hn : line.length = n) (hi : IsInts w0 sl n (gl line)) (h30 : n < 1073741824) : LineR w rn line at' :=
 ⟨⟨sl, n, c, block_cell h.blk, hn, hi.later h.below⟩, block_cell h.blk, by omega⟩
theorem cell_lt {w : World} {a : Addr} {v : Value} (h : w.cell? a = some v) : a.block < w.heap.size := by
 rcases Nat.lt_or_ge a.block w.heap.size with h1 | h1
 · exact h1
 · simp [World.cell?, Array.getElem?_eq_none h1] at h
set_option maxRecDepth 100000 in
set_option maxHeartbeats 64000000 in
theorem add_g (w0 w : World) (rn sb pb : Nat) (sl : Option Addr) (n c : Nat) (line : List Int) (hln : line.length = n) (hli : IsInts w0 sl n (gl line)) (h30 : n < 1073741824) (N at' : Nat) (hat : at' ≤ n) (seen : Nat → Nat) (th : List ThD) (sT : Option Addr) (cT : Nat) (h : RunG w0 w rn sb pb (.slice sl n c) N at' seen th sT cT)
  (B E base : Nat) (groups : Int) (deep : Nat) (acts : List ActD) (hpat : PaG w0 B E base pb groups deep acts) (lv : Nat → Nat) (hwf : WfA acts deep lv) (hN : acts.length * (deep + 1) = N) (hN12 : N < 900000000000) (hmk : th.length + marksP at' seen N ≤ N)
  (act : Int) (ha0 : 0 ≤ act) (hact : Tgt acts lv 0 act) (fr : Int) (p : Option Addr) (notes : List (Int × Int)) (hnt : NoteR w w0.heap.size p notes) :
  Calls Tryd.prog 47 #[.pointer (some ⟨rn, 0, none⟩), .int .i64 act, .int .i64 fr, .pointer p] w fun e w' =>
   e = .returned (.tuple #[]) ∧ Touch (AddO rn sb (.slice sT th.length cT)) w w' ∧ ∃ seen' th' sT' cT', addP' acts deep (standsP (wordAt G0 line) n at') at' fr (N + 2) seen th [⟨act, 0, notes⟩] = (seen', th') ∧ RunG w0 w' rn sb pb (.slice sl n c) N at' seen' th' sT' cT' ∧ th'.length + marksP at' seen' N ≤ N ∧ ((Value.slice sT' th'.length cT').ownBlock = (Value.slice sT th.length cT).ownBlock ∨ ∃ b, (Value.slice sT' th'.length cT').ownBlock = some b ∧ w.heap.size ≤ b) := by
 obtain ⟨R, hR⟩ : ∃ R, addP' acts deep (standsP (wordAt G0 line) n at') at' fr (N + 2) seen th [⟨act, 0, notes⟩] = R := ⟨_, rfl⟩
 rw [hR]
 have hst : ∀ (W : World) (seen2 : Nat → Nat) (th2 : List ThD) (s2 : Option Addr) (c2 : Nat) (what : Int), RunG w0 W rn sb pb (.slice sl n c) N at' seen2 th2 s2 c2 → Calls Tryd.prog 63 #[.pointer (some ⟨rn, 0, none⟩), .int .i64 what] W fun e w' => e = .returned (.bool (standsP (wordAt G0 line) n at' what)) ∧ Below W.heap.size W w' := fun W seen2 th2 s2 c2 what hW => by
  rw [← hln]
  exact stands_g W rn line at' (.of hW hln hli h30) (by omega) what
 generalize standsP (wordAt G0 line) n at' = stand at hR hst
 obtain ⟨ga, cA, hcl⟩ := hpat.cells hwf.pos
 have hmk0 : marksP at' seen N ≤ N := marksP_le _ _ _
 have HS := Lib.hid (AddS.begin h act p notes hnt)
 have HST := Lib.hid hst
 have HCL := Lib.hid hcl
 have HRR := Lib.hid hR
 have HWF := Lib.hid hwf
 have HAC := Lib.hid hact
 have HMK := Lib.hid hmk
 have HM0 := Lib.hid hmk0
 have HNN := Lib.hid hN
 have hA : acts.length ≤ N := by rw [← hN]; exact Nat.le_mul_of_pos_right _ (by omega)
 have hD : deep < N + 1 := by
  have := Nat.mul_le_mul_right (deep + 1) hwf.pos
  rw [Nat.one_mul] at this
  omega
 clear h hst hcl hR hwf hact hmk hmk0 hnt hpat hli hln hN
 go_enter Tryd.func47, Tryd.ntmps47
 go_wp2_with fail
 generalize hwn : w.heap.size = wn at HS ⊢
 have HWN := Lib.hid hwn
 clear hwn
 generalize w.alloc (.cells #[.int .i64 act, .int .i64 0, .pointer p] 128) = w1 at HS ⊢
 go_loopg [8] (N + 2) (fun gg sv wr => ∃ (seen1 : Nat → Nat) (th1 : List ThD) (sT1 : Option Addr) (cT1 : Nat) (sS : Option Addr) (cS : Nat) (st : List ToD), AddS w0 w wr rn sb pb (.slice sl n c) N at' (.slice sT th.length cT) seen1 th1 sT1 cT1 sS cS st ∧ sv = .slice sS st.length cS ∧ addP' acts deep stand at' fr gg seen1 th1 st = R ∧ st.length + marksP at' seen1 N ≤ gg ∧ th1.length + marksP at' seen1 N ≤ N ∧ (∀ t ∈ st, GoodT acts lv t) ∧ gg ≤ N + 2)
 case atStart => exact ⟨seen, th, sT, cT, _, _, _, HS.out, rfl, HRR.out, by have := HM0.out; simp; omega, HMK.out, fun t ht => by obtain rfl := List.mem_singleton.mp ht; exact HAC.out, Nat.le_refl _⟩
 case round =>
  obtain ⟨seen1, th1, sT1, cT1, sS, cS, st, hs, rfl, hR, hm1, hm2, hgt, hgN⟩ := hrel
  clear HS HRR HMK HM0 HAC
  cases st with
  | nil =>
   rw [addP_nil] at hR
   have HS := Lib.hid hs
   have HRR := Lib.hid hR
   clear hs hR
   go_wp2
   go_end0
   exact ⟨rfl, HS.out.tch, seen1, th1, sT1, cT1, HRR.out.symm, HS.out.run, hm2, HS.out.obk⟩
  | cons t st =>
   obtain ⟨f, rfl⟩ : ∃ f, gk = f + 1 := ⟨gk - 1, by simp at hm1; omega⟩
   rw [addP_cons, HNN.out] at hR
   obtain ⟨g, q, rfl, t0, t1, t2, hcap, hm⟩ := hs.pop
   obtain ⟨m, hml⟩ : ∃ m, st.length = m := ⟨_, rfl⟩
   have HR := Lib.hid hR
   have HM := Lib.hid hm
   have HG0 := Lib.hid (hgt t (List.mem_cons_self ..))
   have HGT := Lib.hid (fun x hx => hgt x (List.mem_cons_of_mem _ hx))
   have hm3 : st.length + marksP at' seen1 N ≤ f := by simp at hm1; omega
   have HM3 := Lib.hid hm3
   have HM2 := Lib.hid hm2
   have HML := Lib.hid hml
   rw [List.length_cons, hml]
   rw [hml] at t0 t1 t2 hcap hm3
   have q0 : IntKind.i64.wrap (m : Int) = (m : Int) := by rw [IntKind.wrap_i64]; omega
   have q1 : (0 : Int) ≤ (m : Int) := by omega
   have q2 : (m : Int) < (m : Int) + 1 := by omega
   have q3 : (m : Int) ≤ (cS : Int) := by omega
   have q4 : (0 : Int) < (m : Int) + 1 := by omega
   clear hs hR hm hgt hm1 hm2 hml hm3
   go_wp2_with fail
   go_step3
   go_wp2_with fail
   obtain ⟨tb, htb⟩ : ∃ tb, wr.heap.size = tb := ⟨_, rfl⟩
   rw [htb] at HM ⊢
   generalize wr.alloc (.cells #[.int .i64 t.act, .int .i64 t.idle, .pointer q] 128) = w2 at HM ⊢
   clear t0 t1 t2 htb q0 q1 q2 q3 q4 hcap
   go_step3
   go_wp2_with fail
   go_loopg [8] (N + 2) (fun hh sv wq => ∃ (t2 : ToD) (q2 : Option Addr) (seen2 : Nat → Nat) (th2 : List ThD) (sT2 : Option Addr) (cT2 : Nat) (sS2 : Option Addr) (cS2 : Nat) (st2 : List ToD), AddM w0 w wq rn sb pb (.slice sl n c) N at' (.slice sT th.length cT) seen2 th2 sT2 cT2 tb t2 q2 (.slice sS2 st2.length cS2) st2 ∧ sv = .slice sS2 st2.length cS2 ∧ contA acts deep stand at' fr f (goOnP acts deep stand at' fr hh t2 seen2 th2 st2) = R ∧ marksP at' seen2 N < hh ∧ st2.length + marksP at' seen2 N ≤ f ∧ th2.length + marksP at' seen2 N ≤ N ∧ GoodT acts lv t2 ∧ (∀ t ∈ st2, GoodT acts lv t))
   case atStart => exact ⟨t, q, seen1, th1, sT1, cT1, _, cS, st, HM.out, by rw [HML.out], HR.out, by have := marksP_le at' seen1 N; omega, HM3.out, HM2.out, HG0.out, HGT.out⟩
   case round =>
    clear HM HML HR HM3 HM2 HG0 HGT
    obtain ⟨t, q, seen1, th1, sT1, cT1, sS, cS, st, hm, rfl, hR, hmh, hm3, hm2, hg0, hgt⟩ := hrel
    have HGT := Lib.hid hgt
    have HM3 := Lib.hid hm3
    have HM2 := Lib.hid hm2
    have u0 : wr.cell? ⟨tb, 0, none⟩ = some (.int .i64 t.act) := block_cell hm.tbk
    by_cases hneg : t.act < 0
    ·
     rw [goOnP_zero _ _ _ _ _ _ _ _ _ _ hneg] at hR
     have HR := Lib.hid hR
     have HS := Lib.hid hm.done
     clear hm hR hg0 hgt hmh hm3 hm2
     go_wp2
     rw [Exit.noGoto_normal]
     first
      | (go_end0; go_roundg f)
      | (go_wp2; go_roundg f)
     case measure => omega
     case rel => exact ⟨seen1, th1, sT1, cT1, sS, cS, st, HS.out, rfl, HR.out, HM3.out, HM2.out, HGT.out, by omega⟩
    ·
     obtain ⟨hh, rfl⟩ : ∃ hh, gk = hh + 1 := ⟨gk - 1, by omega⟩
     obtain ⟨ta, id, nts⟩ := t
     simp only at hneg u0
     obtain ⟨j, rfl⟩ : ∃ j : Nat, ta = j := ⟨ta.toNat, by omega⟩
     have hjd : j < acts.length ∧ id ≤ lv j := by
      rcases hg0 with h | ⟨_, h2, h3⟩
      · simp only at h; omega
      · simp only [Int.toNat_natCast] at h2 h3; exact ⟨h2, h3⟩
     obtain ⟨hj, hid⟩ := hjd
     have hidd : id ≤ deep := Nat.le_trans hid (HWF.out.lvb j hj)
     rw [goOn_eq _ _ _ _ _ _ _ _ _ _ _ _ hj] at hR
     have hkN := idx_lt hj hidd
     rw [HNN.out] at hkN
     obtain ⟨P, hP⟩ : ∃ P, j * (deep + 1) = P := ⟨_, rfl⟩
     rw [hP] at hkN hR
     have hPi : (j : Int) * ((deep : Int) + 1) = (P : Int) := by rw [← hP]; simp
     obtain ⟨k, hk⟩ : ∃ k, P + id = k := ⟨_, rfl⟩
     rw [hk] at hkN hR
     have u1 : wr.cell? ⟨tb, 1, none⟩ = some (.int .i64 id) := block_cell hm.tbk
     have r0 : wr.cell? ⟨rn, 0, none⟩ = some (.pointer (some ⟨pb, 0, none⟩)) := block_cell hm.run.blk
     have r2 : wr.cell? ⟨rn, 2, none⟩ = some (.int .i64 at') := block_cell hm.run.blk
     have r3 : wr.cell? ⟨rn, 3, none⟩ = some (.slice (some ⟨sb, 0, none⟩) N N) := block_cell hm.run.blk
     have p2 : wr.cell? ⟨pb, 2, none⟩ = some (.int .i64 deep) := (HCL.out wr hm.run.below).2.1
     have s0 : wr.cell? ⟨sb, k, none⟩ = some (.int .i64 (seen1 k : Int)) := hm.run.seen.cell hkN
     have i1 : IntKind.i64.wrap ((deep : Int) + 1) = (deep : Int) + 1 := by rw [IntKind.wrap_i64]; omega
     have i2 : IntKind.i64.wrap ((j : Int) * ((deep : Int) + 1)) = (P : Int) := by rw [IntKind.wrap_i64, hPi]; omega
     have i3 : IntKind.i64.wrap ((P : Int) + (id : Int)) = (k : Int) := by rw [IntKind.wrap_i64]; omega
     have i4 : IntKind.i64.wrap ((at' : Int) + 1) = ((at' + 1 : Nat) : Int) := by rw [IntKind.wrap_i64]; omega
     have i5 : (0 : Int) ≤ (k : Int) := by omega
     have i6 : (k : Int) < (N : Int) := by omega
     have i7 : (0 : Int) ≤ (j : Int) := by omega
     have HMM := Lib.hid hm
     by_cases hsk : seen1 k = at' + 1
     ·
      rw [if_pos hsk] at hR
      have HR := Lib.hid hR
      have e0 : ((seen1 k : Int) == ((at' + 1 : Nat) : Int)) = true := by rw [hsk]; simp
      have e1 : ((seen1 k : Int) == ((at' : Int) + 1)) = true := by rw [hsk]; simp
      clear hm hR hg0 hgt hmh hm3 hm2 hP hPi hk hsk hkN hid hidd hneg
      go_wp2_with fail
      go_quiet (fail)
      obtain ⟨n1, rfl⟩ : ∃ n1, n1 = nq := ⟨nq, rfl⟩
      go_wp2_with fail
      go_quiet (fail)
      have hbd : Below wr.heap.size wr ((wr.drewN n1).drewN nq) := below_drewN (below_drewN (Below.refl _ _))
      have HS := Lib.hid (HMM.out.later hbd).done
      clear hbd HMM u0 u1 r0 r2 r3 p2 s0 e0 e1
      generalize (wr.drewN n1).drewN nq = w3 at HS ⊢
      go_wp2
      rw [Exit.noGoto_normal]
      first
       | (go_end0; go_roundg f)
       | (go_wp2; go_roundg f)
      case measure => omega
      case rel => exact ⟨seen1, th1, sT1, cT1, sS, cS, st, HS.out, rfl, HR.out, HM3.out, HM2.out, HGT.out, by omega⟩
     ·
      rw [if_neg hsk] at hR
      have hms := marksP_set at' seen1 k hsk N hkN
      change marksP at' (markS at' k seen1) N + 1 = _ at hms
      have HMS := Lib.hid hms
      have HR := Lib.hid hR
      have e0 : ((seen1 k : Int) == ((at' + 1 : Nat) : Int)) = false := by rw [beq_eq_false_iff_ne]; omega
      have e1 : ((seen1 k : Int) == ((at' : Int) + 1)) = false := by rw [beq_eq_false_iff_ne]; omega
      have HMH := Lib.hid hmh
      have HID := Lib.hid hid
      have HIDD := Lib.hid hidd
      clear hm hR hg0 hgt hmh hm3 hm2 hP hPi hk hsk hneg hms hidd hid
      go_wp2_with fail
      go_quiet (fail)
      obtain ⟨n1, rfl⟩ : ∃ n1, n1 = nq := ⟨nq, rfl⟩
      go_wp2_with fail
      go_quiet (fail)
      go_wp2_with fail
      have hbd : Below wr.heap.size wr ((wr.drewN n1).drewN nq) := below_drewN (below_drewN (Below.refl _ _))
      have H3 := Lib.hid (HMM.out.later hbd)
      clear hbd HMM u0 u1 r0 r2 r3 p2 s0 e0 e1
      generalize (wr.drewN n1).drewN nq = w3 at H3 ⊢
      have u0 : w3.cell? ⟨tb, 0, none⟩ = some (.int .i64 j) := block_cell H3.out.tbk
      have r0 : w3.cell? ⟨rn, 0, none⟩ = some (.pointer (some ⟨pb, 0, none⟩)) := block_cell H3.out.run.blk
      have r2 : w3.cell? ⟨rn, 2, none⟩ = some (.int .i64 at') := block_cell H3.out.run.blk
      have r3 : w3.cell? ⟨rn, 3, none⟩ = some (.slice (some ⟨sb, 0, none⟩) N N) := block_cell H3.out.run.blk
      have H4 := Lib.hid (H3.out.later ((Below.refl w3.heap.size w3).drew))
      go_still_tail 11, (by kernel_rfl)
      change wpList _ _ _ _ _ w3.drew
      clear u0 r0 r2 r3 H3
      generalize w3.drew = w4 at H4 ⊢
      have s0 : w4.cell? ⟨sb, k, none⟩ = some (.int .i64 (seen1 k : Int)) := H4.out.run.seen.cell hkN
      have s1 : w4.frozen? ⟨sb, k, none⟩ = false := H4.out.run.seen.free k
      go_upto_region 8 with (fail)
      have H5 := Lib.hid (H4.out.mark k ((at' : Int) + 1) (by omega))
      clear s0 s1 H4
      generalize w4.setCell ⟨sb, k, none⟩ (.int .i64 ((at' : Int) + 1)) = w5 at H5 ⊢
      obtain ⟨p0, -, hac⟩ := HCL.out w5 H5.out.run.below
      obtain ⟨c0, c1, c2, sv, c3, hks⟩ := hac j hj
      have hN5 := below_newJ w5.drew (.cells #[.int .i64 0, .int .i64 0, .int .i64 0, .pointer none] 80)
      obtain ⟨y1, -, hac2⟩ := HCL.out (w5.alloc (.cells #[.int .i64 0, .int .i64 0, .int .i64 0, .pointer none] 80)) (H5.out.run.below.trans ((below_newJ w5 _).mono H5.out.run.below.size))
      obtain ⟨z0, z1, z2, sv', z3, hks'⟩ := hac2 j hj
      have hsv : sv' = sv := by
       have h1 := (cell_later (below_newJ w5 (.cells #[.int .i64 0, .int .i64 0, .int .i64 0, .pointer none] 80)) c3).symm.trans z3
       injection h1 with h1
       injection h1 with h1
       exact h1.symm
      subst hsv
      have wk := HWF.out.kind j hj
      have wt := HWF.out.take j hj
      have ws := HWF.out.stand j hj
      have wf := HWF.out.fork j hj
      have wn' := HWF.out.note j hj
      have we := HWF.out.enter j hj
      have wc := HWF.out.check j hj
      generalize acts[j] = a at c0 c1 c2 hks z0 z1 z2 HR wk wt ws wf wn' we wc
      obtain ⟨kd, ax, ay, aset⟩ := a
      simp only at c0 c1 c2 hks z0 z1 z2 HR wk wt ws wf wn' we wc
      have WS := Lib.hid ws
      have WF := Lib.hid wf
      have WN := Lib.hid wn'
      have WE := Lib.hid we
      have WC := Lib.hid wc
      have u0 : w5.cell? ⟨tb, 0, none⟩ = some (.int .i64 j) := block_cell H5.out.tbk
      have r0 : w5.cell? ⟨rn, 0, none⟩ = some (.pointer (some ⟨pb, 0, none⟩)) := block_cell H5.out.run.blk
      have HN5 := Lib.hid (H5.out.later (below_newJ w5 (.cells #[.int .i64 0, .int .i64 0, .int .i64 0, .pointer none] 80)))
      have v0 : (w5.alloc (.cells #[.int .i64 0, .int .i64 0, .int .i64 0, .pointer none] 80)).cell? ⟨tb, 0, none⟩ = some (.int .i64 j) := block_cell HN5.out.tbk
      have y0 : (w5.alloc (.cells #[.int .i64 0, .int .i64 0, .int .i64 0, .pointer none] 80)).cell? ⟨rn, 0, none⟩ = some (.pointer (some ⟨pb, 0, none⟩)) := block_cell HN5.out.run.blk
      have i8 : (j : Int) < (acts.length : Int) := by omega
      have hlt1 : ga < w5.heap.size := cell_lt c0
      have hlt2 : tb < w5.heap.size := cell_lt u0
      have hlt3 : rn < w5.heap.size := cell_lt r0
      have hlt4 : pb < w5.heap.size := cell_lt p0
      clear hks' hks hac hac2 hN5 ws wf wn' we wc
      go_region
      have hb6 : Below w5.heap.size w5 (w5.alloc (.cells #[.int .i64 kd, .int .i64 ax, .int .i64 ay, .pointer sv'] 80)).drew := (below_newJ w5 _).drew
      have H8 := Lib.hid (H5.out.later hb6)
      have HA8 := Lib.hid (show (w5.alloc (.cells #[.int .i64 kd, .int .i64 ax, .int .i64 ay, .pointer sv'] 80)).drew.heap[w5.heap.size]? = some (.cells #[.int .i64 kd, .int .i64 ax, .int .i64 ay, .pointer sv'] 80 (0, 0)) from one_new w5 _)
      clear u0 r0 p0 c0 c1 c2 c3 v0 y0 y1 z0 z1 z2 z3 hlt1 hlt2 hlt3 hlt4 hb6 H5 HN5
      generalize w5.heap.size = ab at HA8 ⊢
      generalize (w5.alloc (.cells #[.int .i64 kd, .int .i64 ax, .int .i64 ay, .pointer sv'] 80)).drew = w8 at H8 HA8 ⊢
      have i9 : IntKind.i64.wrap ((j : Int) + 1) = (j : Int) + 1 := by rw [IntKind.wrap_i64]; omega
      have x0 : w8.cell? ⟨ab, 0, none⟩ = some (.int .i64 kd) := block_cell HA8.out
      have hkd : (kd = 0 ∨ kd = 6) ∨ kd = 1 ∨ kd = 2 ∨ kd = 3 ∨ kd = 4 ∨ kd = 5 := by omega
      rcases hkd with hkd | rfl | rfl | rfl | rfl | rfl
      ·
       as_aux_lemma =>
        rw [if_pos hkd] at HR
        obtain ⟨nT, hnT⟩ : ∃ nT, th1.length = nT := ⟨_, rfl⟩
        have HNT := Lib.hid hnT
        have hd := (Below.refl w8.heap.size w8).drew
        have H9 := Lib.hid (H8.out.later hd)
        obtain ⟨xs, hown, hths⟩ := H9.out.run.own
        rw [hnT] at hown
        have HOW := Lib.hid hown
        have HTH := Lib.hid hths
        have HZ9 := Lib.hid (show w0.heap.size ≤ w8.drew.heap.size from H9.out.run.below.size)
        have u0 : w8.cell? ⟨tb, 0, none⟩ = some (.int .i64 j) := block_cell H8.out.tbk
        have u2 : w8.cell? ⟨tb, 2, none⟩ = some (.pointer q) := block_cell H8.out.tbk
        have r4 : w8.cell? ⟨rn, 4, none⟩ = some (.slice sT1 nT cT1) := by rw [← hnT]; exact block_cell H8.out.run.blk
        have r4n : (w8.alloc (.cells #[.int .i64 j, .int .i64 fr, .pointer q] 107)).cell? ⟨rn, 4, none⟩ = some (.slice sT1 nT cT1) := by rw [← hnT]; exact block_cell (H8.out.later (below_newJ _ _)).run.blk
        have hnTN : nT < 1000000000000 := by have := HM2.out; omega
        clear hnT hown hths hd
        have v0 : (w8.alloc (.cells #[.int .i64 j, .int .i64 fr, .pointer q] 107)).cell? ⟨tb, 0, none⟩ = some (.int .i64 j) := block_cell (H8.out.later (below_newJ _ _)).tbk
        have v2 : (w8.alloc (.cells #[.int .i64 j, .int .i64 fr, .pointer q] 107)).cell? ⟨tb, 2, none⟩ = some (.pointer q) := block_cell (H8.out.later (below_newJ _ _)).tbk
        go_upto_region 10 with (fail)
        go_cut [84] from 85 to 85 (fun v wx => v = .bool (decide (kd = 0)) ∧ w8 = wx)
        case first =>
         rcases hkd with rfl | rfl
         ·
          go_wp2_with fail
          go_meet
          exact ⟨rfl, rfl⟩
         ·
          go_wp2_with fail
          go_meet
          exact ⟨rfl, rfl⟩
        case rest =>
        obtain ⟨rfl, rfl⟩ := hcut
        go_upto_if 84 with (fail)
        go_cut [84] from 86 to 86 (fun v wx => v = .bool true ∧ w8 = wx)
        case first =>
         rcases hkd with rfl | rfl
         ·
          go_wp2_with fail
          go_meet
          exact ⟨rfl, rfl⟩
         ·
          go_wp2_with fail
          go_meet
          exact ⟨rfl, rfl⟩
        case rest =>
        obtain ⟨rfl, rfl⟩ := hcut
        clear x0
        go_upto_region 12 with (fail)
        refine wp_region_held_drew (S := (fun w' => w'.cell? ⟨tb, 0, none⟩ = some (.int .i64 j) ∧ w'.cell? ⟨tb, 2, none⟩ = some (.pointer q))) (by kernel_rfl) (by (try dsimp only); exact ⟨u0, u2⟩) (fun hHeld => ?_)
        (refine wpAnyH_take (i := 0) (v := ?_) (by rw [List.getElem?_toArray]; (repeat rw [List.getElem?_cons_succ]); rw [List.getElem?_cons_zero]) (by kernel_rfl) (by kernel_rfl) (by kernel_rfl) (by exact fun _ _ _ h => h) (Or.inl ⟨by rfl, ?_⟩) (by assumption) ?_; rotate_left; (· intro w hSw; (try dsimp only at hSw); go_simp; try with_reducible rfl); try simp only [Act.put, List.setIfInBounds_toArray, List.set_cons_zero, List.set_cons_succ])
        (refine wpAnyH_take (i := 1) (v := ?_) (by rw [List.getElem?_toArray]; (repeat rw [List.getElem?_cons_succ]); rw [List.getElem?_cons_zero]) (by kernel_rfl) (by kernel_rfl) (by kernel_rfl) (by exact fun _ _ _ h => h) (Or.inl ⟨by rfl, ?_⟩) (by assumption) ?_; rotate_left; (· intro w hSw; (try dsimp only at hSw); go_simp; try with_reducible rfl); try simp only [Act.put, List.setIfInBounds_toArray, List.set_cons_zero, List.set_cons_succ])
        (refine wpAnyH_take (i := 2) (v := ?_) (by rw [List.getElem?_toArray]; (repeat rw [List.getElem?_cons_succ]); rw [List.getElem?_cons_zero]) (by kernel_rfl) (by kernel_rfl) (by kernel_rfl) (by exact fun _ _ _ h => h) (Or.inl ⟨by rfl, ?_⟩) (by assumption) ?_; rotate_left; (· intro w hSw; (try dsimp only at hSw); go_simp; try with_reducible rfl); try simp only [Act.put, List.setIfInBounds_toArray, List.set_cons_zero, List.set_cons_succ])
        (refine wpAnyH_take (i := 3) (v := ?_) (by rw [List.getElem?_toArray]; (repeat rw [List.getElem?_cons_succ]); rw [List.getElem?_cons_zero]) (by kernel_rfl) (by kernel_rfl) (by kernel_rfl) (by exact fun _ _ _ h => h) (Or.inl ⟨by rfl, ?_⟩) (by assumption) ?_; rotate_left; (· intro w hSw; (try dsimp only at hSw); go_simp; try with_reducible rfl); try simp only [Act.put, List.setIfInBounds_toArray, List.set_cons_zero, List.set_cons_succ])
        (refine wpAnyH_take (i := 5) (v := ?_) (by rw [List.getElem?_toArray]; (repeat rw [List.getElem?_cons_succ]); rw [List.getElem?_cons_zero]) (by kernel_rfl) (by kernel_rfl) (by kernel_rfl) (by exact fun _ _ _ h => h) (Or.inl ⟨by rfl, ?_⟩) (by assumption) ?_; rotate_left; (· intro w hSw; (try dsimp only at hSw); go_simp; try with_reducible rfl); try simp only [Act.put, List.setIfInBounds_toArray, List.set_cons_zero, List.set_cons_succ])
        (refine wpAnyH_take (i := 6) (v := ?_) (by rw [List.getElem?_toArray]; (repeat rw [List.getElem?_cons_succ]); rw [List.getElem?_cons_zero]) (by kernel_rfl) (by kernel_rfl) (by kernel_rfl) (by exact fun _ _ _ h => h) (Or.inl ⟨by rfl, ?_⟩) (by assumption) ?_; rotate_left; (· intro w hSw; (try dsimp only at hSw); go_simp; try with_reducible rfl); try simp only [Act.put, List.setIfInBounds_toArray, List.set_cons_zero, List.set_cons_succ])
        (refine wpAnyH_take (i := 7) (v := ?_) (by rw [List.getElem?_toArray]; (repeat rw [List.getElem?_cons_succ]); rw [List.getElem?_cons_zero]) (by kernel_rfl) (by kernel_rfl) (by kernel_rfl) (by exact fun _ _ _ h => h) (Or.inl ⟨by rfl, ?_⟩) (by assumption) ?_; rotate_left; (· intro w hSw; (try dsimp only at hSw); go_simp; try with_reducible rfl); try simp only [Act.put, List.setIfInBounds_toArray, List.set_cons_zero, List.set_cons_succ])
        (refine wpAnyH_take (i := 8) (v := ?_) (by rw [List.getElem?_toArray]; (repeat rw [List.getElem?_cons_succ]); rw [List.getElem?_cons_zero]) (by kernel_rfl) (by kernel_rfl) (by kernel_rfl) (by exact fun _ _ _ h => h) (Or.inl ⟨by rfl, ?_⟩) (by assumption) ?_; rotate_left; (· intro w hSw; (try dsimp only at hSw); go_simp; try with_reducible rfl); try simp only [Act.put, List.setIfInBounds_toArray, List.set_cons_zero, List.set_cons_succ])
        (refine wpAnyH_take (i := 9) (v := ?_) (by rw [List.getElem?_toArray]; (repeat rw [List.getElem?_cons_succ]); rw [List.getElem?_cons_zero]) (by kernel_rfl) (by kernel_rfl) (by kernel_rfl) (by exact fun _ _ _ h => h) (Or.inl ⟨by rfl, ?_⟩) (by assumption) ?_; rotate_left; (· intro w hSw; (try dsimp only at hSw); go_simp; try with_reducible rfl); try simp only [Act.put, List.setIfInBounds_toArray, List.set_cons_zero, List.set_cons_succ])
        (refine wpAnyH_take (i := 10) (v := ?_) (by rw [List.getElem?_toArray]; (repeat rw [List.getElem?_cons_succ]); rw [List.getElem?_cons_zero]) (by kernel_rfl) (by kernel_rfl) (by kernel_rfl) (by exact fun _ _ _ h => h) (Or.inl ⟨by rfl, ?_⟩) (by assumption) ?_; rotate_left; (· intro w hSw; (try dsimp only at hSw); go_simp; try with_reducible rfl); try simp only [Act.put, List.setIfInBounds_toArray, List.set_cons_zero, List.set_cons_succ])
        refine wpAnyH_ready (rs := [4, 11]) (by kernel_rfl) (by simp) ?_
        refine AllReadyH.cons rfl (fun K hK => ?_) ?_
        ·
         go_simp
         refine hK.out _ _ ?_ (fun hHeld => ?_)
         ·
          (try dsimp only)
          first | exact ⟨u0, u2⟩ | exact ⟨v0, v2⟩
         clear hK K
         try simp only [Act.put, List.setIfInBounds_toArray, List.set_cons_zero, List.set_cons_succ]
         refine wpAnyH_ready (rs := [11]) (by kernel_rfl) (by simp) ?_
         refine AllReadyH.cons rfl (fun K hK => ?_) ?_
         ·
          go_simp
          refine hK.out _ _ ?_ (fun hHeld => ?_)
          ·
           (try dsimp only)
           first | exact ⟨u0, u2⟩ | exact ⟨v0, v2⟩
          clear hK K
          try simp only [Act.put, List.setIfInBounds_toArray, List.set_cons_zero, List.set_cons_succ]
          refine wpAnyH_ready (rs := [12]) (by kernel_rfl) (by simp) ?_
          refine AllReadyH.cons rfl (fun K hK => ?_) ?_
          ·
           refine step_push_b (w := w8.drew) Tryd.underlying100 Tryd.infoThreadG rfl (by decide) (by decide) [.int .i64 j, .int .i64 fr, .pointer q] (by intro u hu; simp only [List.mem_cons, List.not_mem_nil, or_false] at hu; rcases hu with rfl | rfl | rfl <;> rfl) rfl ?_ (.tmp 91) (.tmp 98) ?_ w0.heap.size (.slice sT1 nT cT1) nT xs ?_ ?_ HOW.out hnTN HZ9.out ?_
           · rfl
           · rfl
           · simp [Act.eval]
           · simp [Act.eval]
           intro s' c' w3 hq
           have b3 := hq.2.2.1 _ _ _ H9.out.run.blk (by decide)
           have k2 : w3.cell? ⟨rn, 4, none⟩ = some (.slice sT1 nT cT1) := by rw [← HNT.out]; exact block_cell b3
           have k3 : w3.frozen? ⟨rn, 4, none⟩ = false := block_free b3
           have a0 : w3.cell? ⟨tb, 0, none⟩ = some (.int .i64 j) := block_cell (hq.2.2.1 _ _ _ H9.out.tbk (by decide))
           have a2 : w3.cell? ⟨tb, 2, none⟩ = some (.pointer q) := block_cell (hq.2.2.1 _ _ _ H9.out.tbk (by decide))
           have HP3 := Lib.hid (H9.out.way HTH.out (by rw [HNT.out]; exact HOW.out) ⟨j, fr, nts⟩ q H9.out.tn (by rw [HNT.out]; exact hq))
           rw [HNT.out] at HP3
           have a0' : (w3.setCell ⟨rn, 4, none⟩ (.slice s' (nT + 1) c')).cell? ⟨tb, 0, none⟩ = some (.int .i64 j) := block_cell HP3.out.tbk
           have a2' : (w3.setCell ⟨rn, 4, none⟩ (.slice s' (nT + 1) c')).cell? ⟨tb, 2, none⟩ = some (.pointer q) := block_cell HP3.out.tbk
           clear b3 hq
           refine hK.out _ _ ?_ (fun hHeld => ?_)
           · exact ⟨a0, a2⟩
           clear hK K
           try simp only [Act.put, List.setIfInBounds_toArray, List.set_cons_zero, List.set_cons_succ]
           (refine wpAnyH_take (i := 13) (v := ?_) (by rw [List.getElem?_toArray]; (repeat rw [List.getElem?_cons_succ]); rw [List.getElem?_cons_zero]) (by kernel_rfl) (by kernel_rfl) (by kernel_rfl) (by exact fun _ _ _ h => h) (Or.inl ⟨by rfl, ?_⟩) (by assumption) ?_; rotate_left; (· intro w hSw; (try dsimp only at hSw); go_simp; try with_reducible rfl); try simp only [Act.put, List.setIfInBounds_toArray, List.set_cons_zero, List.set_cons_succ])
           (refine wpAnyH_take (i := 14) (v := ?_) (by rw [List.getElem?_toArray]; (repeat rw [List.getElem?_cons_succ]); rw [List.getElem?_cons_zero]) (by kernel_rfl) (by kernel_rfl) (by kernel_rfl) (by exact fun _ _ _ h => h) (Or.inl ⟨by rfl, ?_⟩) (by assumption) ?_; rotate_left; (· intro w hSw; (try dsimp only at hSw); go_simp; try with_reducible rfl); try simp only [Act.put, List.setIfInBounds_toArray, List.set_cons_zero, List.set_cons_succ])
           refine wpAnyH_ready (rs := [15]) (by kernel_rfl) (by simp) ?_
           refine AllReadyH.cons rfl (fun K hK => ?_) ?_
           ·
            go_simp
            refine hK.out _ _ ?_ (fun hHeld => ?_)
            ·
             (try dsimp only)
             exact ⟨a0', a2'⟩
            clear hK K
            try simp only [Act.put, List.setIfInBounds_toArray, List.set_cons_zero, List.set_cons_succ]
            refine wpAnyH_done (by kernel_rfl) ?_ _
            clear hHeld
            have HS := Lib.hid HP3.out.done
            try change Exit.then _ _ _ _ (w3.setCell ⟨rn, 4, none⟩ (.slice s' (nT + 1) c'))
            generalize w3.setCell ⟨rn, 4, none⟩ (.slice s' (nT + 1) c') = w10 at HS ⊢
            clear u0 u2 r4 r4n k2 k3 H8 HA8 H9 HP3 v0 v2 a0 a2 a0' a2'
            go_wp2
            first
             | go_roundg f
             | (rw [Exit.noGoto_normal]; go_end0; go_roundg f)
             | (rw [Exit.noGoto_normal]; go_wp2; go_roundg f)
            case measure => omega
            case rel => exact ⟨_, _, s', c', sS, cS, st, HS.out, rfl, HR.out, by have := HMS.out; have := HM3.out; omega, by have := HMS.out; have := HM2.out; simp; omega, HGT.out, by omega⟩
           exact AllReadyH.nil
          exact AllReadyH.nil
         exact AllReadyH.nil
        refine AllReadyH.cons rfl (fun K hK => ?_) ?_
        ·
         go_simp
         refine hK.out _ _ ?_ (fun hHeld => ?_)
         ·
          (try dsimp only)
          first | exact ⟨u0, u2⟩ | exact ⟨v0, v2⟩
         clear hK K
         try simp only [Act.put, List.setIfInBounds_toArray, List.set_cons_zero, List.set_cons_succ]
         refine wpAnyH_ready (rs := [4]) (by kernel_rfl) (by simp) ?_
         refine AllReadyH.cons rfl (fun K hK => ?_) ?_
         ·
          go_simp
          refine hK.out _ _ ?_ (fun hHeld => ?_)
          ·
           (try dsimp only)
           first | exact ⟨u0, u2⟩ | exact ⟨v0, v2⟩
          clear hK K
          try simp only [Act.put, List.setIfInBounds_toArray, List.set_cons_zero, List.set_cons_succ]
          refine wpAnyH_ready (rs := [12]) (by kernel_rfl) (by simp) ?_
          refine AllReadyH.cons rfl (fun K hK => ?_) ?_
          ·
           refine step_push_b (w := w8.drew) Tryd.underlying100 Tryd.infoThreadG rfl (by decide) (by decide) [.int .i64 j, .int .i64 fr, .pointer q] (by intro u hu; simp only [List.mem_cons, List.not_mem_nil, or_false] at hu; rcases hu with rfl | rfl | rfl <;> rfl) rfl ?_ (.tmp 91) (.tmp 98) ?_ w0.heap.size (.slice sT1 nT cT1) nT xs ?_ ?_ HOW.out hnTN HZ9.out ?_
           · rfl
           · rfl
           · simp [Act.eval]
           · simp [Act.eval]
           intro s' c' w3 hq
           have b3 := hq.2.2.1 _ _ _ H9.out.run.blk (by decide)
           have k2 : w3.cell? ⟨rn, 4, none⟩ = some (.slice sT1 nT cT1) := by rw [← HNT.out]; exact block_cell b3
           have k3 : w3.frozen? ⟨rn, 4, none⟩ = false := block_free b3
           have a0 : w3.cell? ⟨tb, 0, none⟩ = some (.int .i64 j) := block_cell (hq.2.2.1 _ _ _ H9.out.tbk (by decide))
           have a2 : w3.cell? ⟨tb, 2, none⟩ = some (.pointer q) := block_cell (hq.2.2.1 _ _ _ H9.out.tbk (by decide))
           have HP3 := Lib.hid (H9.out.way HTH.out (by rw [HNT.out]; exact HOW.out) ⟨j, fr, nts⟩ q H9.out.tn (by rw [HNT.out]; exact hq))
           rw [HNT.out] at HP3
           have a0' : (w3.setCell ⟨rn, 4, none⟩ (.slice s' (nT + 1) c')).cell? ⟨tb, 0, none⟩ = some (.int .i64 j) := block_cell HP3.out.tbk
           have a2' : (w3.setCell ⟨rn, 4, none⟩ (.slice s' (nT + 1) c')).cell? ⟨tb, 2, none⟩ = some (.pointer q) := block_cell HP3.out.tbk
           clear b3 hq
           refine hK.out _ _ ?_ (fun hHeld => ?_)
           · exact ⟨a0, a2⟩
           clear hK K
           try simp only [Act.put, List.setIfInBounds_toArray, List.set_cons_zero, List.set_cons_succ]
           (refine wpAnyH_take (i := 13) (v := ?_) (by rw [List.getElem?_toArray]; (repeat rw [List.getElem?_cons_succ]); rw [List.getElem?_cons_zero]) (by kernel_rfl) (by kernel_rfl) (by kernel_rfl) (by exact fun _ _ _ h => h) (Or.inl ⟨by rfl, ?_⟩) (by assumption) ?_; rotate_left; (· intro w hSw; (try dsimp only at hSw); go_simp; try with_reducible rfl); try simp only [Act.put, List.setIfInBounds_toArray, List.set_cons_zero, List.set_cons_succ])
           (refine wpAnyH_take (i := 14) (v := ?_) (by rw [List.getElem?_toArray]; (repeat rw [List.getElem?_cons_succ]); rw [List.getElem?_cons_zero]) (by kernel_rfl) (by kernel_rfl) (by kernel_rfl) (by exact fun _ _ _ h => h) (Or.inl ⟨by rfl, ?_⟩) (by assumption) ?_; rotate_left; (· intro w hSw; (try dsimp only at hSw); go_simp; try with_reducible rfl); try simp only [Act.put, List.setIfInBounds_toArray, List.set_cons_zero, List.set_cons_succ])
           refine wpAnyH_ready (rs := [15]) (by kernel_rfl) (by simp) ?_
           refine AllReadyH.cons rfl (fun K hK => ?_) ?_
           ·
            go_simp
            refine hK.out _ _ ?_ (fun hHeld => ?_)
            ·
             (try dsimp only)
             exact ⟨a0', a2'⟩
            clear hK K
            try simp only [Act.put, List.setIfInBounds_toArray, List.set_cons_zero, List.set_cons_succ]
            refine wpAnyH_done (by kernel_rfl) ?_ _
            clear hHeld
            have HS := Lib.hid HP3.out.done
            try change Exit.then _ _ _ _ (w3.setCell ⟨rn, 4, none⟩ (.slice s' (nT + 1) c'))
            generalize w3.setCell ⟨rn, 4, none⟩ (.slice s' (nT + 1) c') = w10 at HS ⊢
            clear u0 u2 r4 r4n k2 k3 H8 HA8 H9 HP3 v0 v2 a0 a2 a0' a2'
            go_wp2
            first
             | go_roundg f
             | (rw [Exit.noGoto_normal]; go_end0; go_roundg f)
             | (rw [Exit.noGoto_normal]; go_wp2; go_roundg f)
            case measure => omega
            case rel => exact ⟨_, _, s', c', sS, cS, st, HS.out, rfl, HR.out, by have := HMS.out; have := HM3.out; omega, by have := HMS.out; have := HM2.out; simp; omega, HGT.out, by omega⟩
           exact AllReadyH.nil
          exact AllReadyH.nil
         exact AllReadyH.nil
        exact AllReadyH.nil
      ·
       as_aux_lemma =>
        rw [if_neg (by decide), if_pos rfl] at HR
        have x1 : w8.cell? ⟨ab, 1, none⟩ = some (.int .i64 ax) := block_cell HA8.out
        have hcall := HST.out w8 _ _ _ _ ax H8.out.run
        obtain ⟨dd, hdd⟩ : ∃ dd, stand ax = dd := ⟨_, rfl⟩
        rw [hdd] at hcall HR
        have HC := Lib.hid hcall
        clear hcall hdd
        go_wp2_with fail
        refine HC.out.mono ?_
        rintro e w9 ⟨rfl, hb9⟩
        have H9 := Lib.hid (H8.out.later hb9)
        clear hb9 HC x0 x1 H8 HA8
        cases dd
        ·
         rw [if_neg (by decide)] at HR
         have HS := Lib.hid H9.out.done
         clear H9
         go_wp2
         first
          | go_roundg f
          | (rw [Exit.noGoto_normal]; go_end0; go_roundg f)
          | (rw [Exit.noGoto_normal]; go_wp2; go_roundg f)
         case measure => omega
         case rel => exact ⟨_, th1, sT1, cT1, sS, cS, st, HS.out, rfl, HR.out, by have := HMS.out; have := HM3.out; omega, by have := HMS.out; have := HM2.out; omega, HGT.out, by omega⟩
        ·
         rw [if_pos rfl] at HR
         have u0 : w9.cell? ⟨tb, 0, none⟩ = some (.int .i64 (j : Int)) := block_cell H9.out.tbk
         have u0f : w9.frozen? ⟨tb, 0, none⟩ = false := block_free H9.out.tbk
         have HZ := Lib.hid (H9.out.box 0 (.int .i64 ((j : Int) + 1)) ⟨(j : Int) + 1, id, nts⟩ q rfl H9.out.tn)
         go_wp2
         go_roundg hh
         case measure => omega
         case rel => exact ⟨⟨(j : Int) + 1, id, nts⟩, q, _, th1, sT1, cT1, sS, cS, st, HZ.out, rfl, HR.out, by have := HMS.out; have := HMH.out; omega, by have := HMS.out; have := HM3.out; omega, by have := HMS.out; have := HM2.out; omega, (WS.out (by first | rfl | trivial)).up HID.out, HGT.out⟩
      ·
       as_aux_lemma =>
        rw [if_neg (by decide), if_neg (by decide), if_pos rfl] at HR
        have x2 : w8.cell? ⟨ab, 2, none⟩ = some (.int .i64 ay) := block_cell HA8.out
        have u1 : w8.cell? ⟨tb, 1, none⟩ = some (.int .i64 id) := block_cell H8.out.tbk
        have u2 : w8.cell? ⟨tb, 2, none⟩ = some (.pointer q) := block_cell H8.out.tbk
        obtain ⟨ys, hown, hys⟩ := H8.out.stk
        obtain ⟨m2, hm2l⟩ : ∃ m2, st.length = m2 := ⟨_, rfl⟩
        have HML := Lib.hid hm2l
        rw [hm2l] at hown
        have HOW := Lib.hid hown
        have HYS := Lib.hid hys
        have hm2N : m2 < 1000000000000 := by have := HM3.out; omega
        rw [hm2l]
        clear hown hys hm2l
        go_upto_region 17 with (first | (at_builtin; refine wpList_push_b (w := w8) Tryd.underlying129 Tryd.infoTodoG rfl (by decide) (by decide) [.int .i64 ay, .int .i64 id, .pointer q] (by intro u hu; simp only [List.mem_cons, List.not_mem_nil, or_false] at hu; rcases hu with rfl | rfl | rfl <;> rfl) rfl rfl _ _ rfl w.heap.size (.slice sS m2 cS) m2 ys rfl rfl HOW.out hm2N H8.out.tch.size ?_; intro s' c' w9 hq; have HA9 := Lib.hid (hq.2.2.1 _ _ _ HA8.out (by decide)); have H9 := Lib.hid (H8.out.todo HYS.out (by rw [HML.out]; exact HOW.out) ⟨ay, id, nts⟩ q H8.out.tn (by rw [HML.out]; exact hq)); clear hq))
        have x1 : w9.cell? ⟨ab, 1, none⟩ = some (.int .i64 ax) := block_cell HA9.out
        have u0 : w9.cell? ⟨tb, 0, none⟩ = some (.int .i64 (j : Int)) := block_cell H9.out.tbk
        have u0f : w9.frozen? ⟨tb, 0, none⟩ = false := block_free H9.out.tbk
        have HZ := Lib.hid (H9.out.box 0 (.int .i64 ax) ⟨ax, id, nts⟩ q rfl H9.out.tn)
        rw [HML.out] at HZ
        have hlc : m2 + 1 = ((⟨ay, id, nts⟩ : ToD) :: st).length := by rw [List.length_cons, HML.out]
        have HLC := Lib.hid hlc
        clear hlc x0 x2 u1 u2 H8 HA8 H9
        go_wp2
        go_roundg hh
        case measure => omega
        case rel =>
         refine ⟨⟨ax, id, nts⟩, q, _, th1, sT1, cT1, s', c', ⟨ay, id, nts⟩ :: st, ?_, by rw [← HLC.out], HR.out, by have := HMS.out; have := HMH.out; omega, by have := HMS.out; have := HM3.out; simp; omega, by have := HMS.out; have := HM2.out; omega, (WF.out (by first | rfl | trivial)).1.up HID.out, fun x hx => ?_⟩
         · rw [← HLC.out]; exact HZ.out
         ·
          rcases List.mem_cons.mp hx with rfl | hx
          · exact (WF.out (by first | rfl | trivial)).2.up HID.out
          · exact HGT.out x hx
      ·
       as_aux_lemma =>
        rw [if_neg (by decide), if_neg (by decide), if_neg (by decide), if_pos rfl] at HR
        have x1 : w8.cell? ⟨ab, 1, none⟩ = some (.int .i64 ax) := block_cell HA8.out
        have u2 : w8.cell? ⟨tb, 2, none⟩ = some (.pointer q) := block_cell H8.out.tbk
        have u2f : w8.frozen? ⟨tb, 2, none⟩ = false := block_free H8.out.tbk
        have r2 : w8.cell? ⟨rn, 2, none⟩ = some (.int .i64 at') := block_cell H8.out.run.blk
        have hbn := below_newJ w8 (.cells #[.int .i64 ax, .int .i64 at', .pointer q] 131)
        have hm9 := H8.out.later hbn
        have u2n : (w8.alloc (.cells #[.int .i64 ax, .int .i64 at', .pointer q] 131)).cell? ⟨tb, 2, none⟩ = some (.pointer q) := block_cell hm9.tbk
        have u2nf : (w8.alloc (.cells #[.int .i64 ax, .int .i64 at', .pointer q] 131)).frozen? ⟨tb, 2, none⟩ = false := block_free hm9.tbk
        have hlt2 : tb < w8.heap.size := cell_lt u2
        have HM9 := Lib.hid (hm9.box 2 (.pointer (some ⟨w8.heap.size, 0, none⟩)) ⟨(j : Int), id, (ax, (at' : Int)) :: nts⟩ (some ⟨w8.heap.size, 0, none⟩) rfl ⟨w8.heap.size, q, rfl, H8.out.run.below.size, one_new w8 _, hm9.tn⟩)
        rw [World.setCell_alloc_past _ _ _ _ hlt2] at HM9
        clear hbn hm9
        go_upto_region 19 with (fail)
        clear x0
        go_region
        all_goals
         have H10 := Lib.hid (HM9.out.later (Below.refl _ _).drew)
         clear x1 u2 u2f r2 u2n u2nf hlt2 HM9 H8 HA8
         generalize w8.heap.size = nb at H10 ⊢
         generalize ((w8.setCell ⟨tb, 2, none⟩ (.pointer (some ⟨nb, 0, none⟩))).alloc (.cells #[.int .i64 ax, .int .i64 at', .pointer q] 131)).drew = w10 at H10 ⊢
         have u0 : w10.cell? ⟨tb, 0, none⟩ = some (.int .i64 (j : Int)) := block_cell H10.out.tbk
         have u0f : w10.frozen? ⟨tb, 0, none⟩ = false := block_free H10.out.tbk
         have HZ := Lib.hid (H10.out.box 0 (.int .i64 ((j : Int) + 1)) ⟨(j : Int) + 1, id, (ax, (at' : Int)) :: nts⟩ (some ⟨nb, 0, none⟩) rfl H10.out.tn)
         go_wp2
         go_roundg hh
         case measure => omega
         case rel => exact ⟨⟨(j : Int) + 1, id, (ax, (at' : Int)) :: nts⟩, (some ⟨nb, 0, none⟩), _, th1, sT1, cT1, sS, cS, st, HZ.out, rfl, HR.out, by have := HMS.out; have := HMH.out; omega, by have := HMS.out; have := HM3.out; omega, by have := HMS.out; have := HM2.out; omega, (WN.out (by first | rfl | trivial)).up HID.out, HGT.out⟩
      ·
       as_aux_lemma =>
        rw [if_neg (by decide), if_neg (by decide), if_neg (by decide), if_neg (by decide), if_pos rfl] at HR
        have u1 : w8.cell? ⟨tb, 1, none⟩ = some (.int .i64 id) := block_cell H8.out.tbk
        have u1f : w8.frozen? ⟨tb, 1, none⟩ = false := block_free H8.out.tbk
        have ii : IntKind.i64.wrap ((id : Int) + 1) = (id : Int) + 1 := by rw [IntKind.wrap_i64]; have := HIDD.out; omega
        have HM9 := Lib.hid (H8.out.box 1 (.int .i64 ((id : Int) + 1)) ⟨(j : Int), id + 1, nts⟩ q rfl H8.out.tn)
        go_upto_region 24 with (fail)
        generalize w8.setCell ⟨tb, 1, none⟩ (.int .i64 ((id : Int) + 1)) = w10 at HM9 ⊢
        clear x0 u1 u1f H8 HA8
        have u0 : w10.cell? ⟨tb, 0, none⟩ = some (.int .i64 (j : Int)) := block_cell HM9.out.tbk
        have u0f : w10.frozen? ⟨tb, 0, none⟩ = false := block_free HM9.out.tbk
        have HZ := Lib.hid (HM9.out.box 0 (.int .i64 ((j : Int) + 1)) ⟨(j : Int) + 1, id + 1, nts⟩ q rfl HM9.out.tn)
        go_wp2
        go_roundg hh
        case measure => omega
        case rel => exact ⟨⟨(j : Int) + 1, id + 1, nts⟩, q, _, th1, sT1, cT1, sS, cS, st, HZ.out, rfl, HR.out, by have := HMS.out; have := HMH.out; omega, by have := HMS.out; have := HM3.out; omega, by have := HMS.out; have := HM2.out; omega, (WE.out (by first | rfl | trivial)).up (Nat.succ_le_succ HID.out), HGT.out⟩
      ·
       as_aux_lemma =>
        rw [if_neg (by decide), if_neg (by decide), if_neg (by decide), if_neg (by decide), if_neg (by decide)] at HR
        have u1 : w8.cell? ⟨tb, 1, none⟩ = some (.int .i64 id) := block_cell H8.out.tbk
        by_cases hid0 : 0 < id
        ·
         rw [if_pos hid0] at HR
         have z0 : (0 : Int) < (id : Int) := by omega
         have HS := Lib.hid H8.out.done
         clear H8 HA8
         go_wp2
         first
          | go_roundg f
          | (rw [Exit.noGoto_normal]; go_end0; go_roundg f)
          | (rw [Exit.noGoto_normal]; go_wp2; go_roundg f)
         case measure => omega
         case rel => exact ⟨_, th1, sT1, cT1, sS, cS, st, HS.out, rfl, HR.out, by have := HMS.out; have := HM3.out; omega, by have := HMS.out; have := HM2.out; omega, HGT.out, by omega⟩
        ·
         rw [if_neg hid0] at HR
         obtain rfl : id = 0 := by omega
         go_upto_region 24 with (fail)
         clear x0 u1 HA8
         have u0 : w8.cell? ⟨tb, 0, none⟩ = some (.int .i64 (j : Int)) := block_cell H8.out.tbk
         have u0f : w8.frozen? ⟨tb, 0, none⟩ = false := block_free H8.out.tbk
         have HZ := Lib.hid (H8.out.box 0 (.int .i64 ((j : Int) + 1)) ⟨(j : Int) + 1, 0, nts⟩ q rfl H8.out.tn)
         go_wp2
         go_roundg hh
         case measure => omega
         case rel => exact ⟨⟨(j : Int) + 1, 0, nts⟩, q, _, th1, sT1, cT1, sS, cS, st, HZ.out, rfl, HR.out, by have := HMS.out; have := HMH.out; omega, by have := HMS.out; have := HM3.out; omega, by have := HMS.out; have := HM2.out; omega, (WC.out (by first | rfl | trivial)), HGT.out⟩
end Go.Proofs.YtdegdoilpamjjaaDoor
