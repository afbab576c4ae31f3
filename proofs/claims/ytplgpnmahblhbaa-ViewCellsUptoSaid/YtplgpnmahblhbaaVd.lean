/- Contracts: view.scan, whatever it calls; view.Cell. Condition: fewer than 2^32 atoms. -/
import Derived.Test.YtplgpnmahblhbaaVc
import Derived.Shelf.Abstract
namespace Go.Proofs.Ytplgpnmahblhbaa
open Go.RowKit
/-- the boundaries by number -/
def bx (f : Nat → Int) (n i : Nat) : Nat := (allB f n).getD i 0
def bnv (f : Nat → Int) (n : Nat) : Nat := (allB f n).length
/-- the cell at which the i-th cluster begins -/
def cellAt (f : Nat → Int) (n : Nat) : Nat → Int
  | 0 => 0
  | i + 1 => cellAt f n i + cellW (fun k => f (k + bx f n i)) (bx f n (i + 1) - bx f n i) (cellAt f n i)
def cellOf (f : Nat → Int) (n i : Nat) : Int := cellW (fun k => f (k + bx f n i)) (bx f n (i + 1) - bx f n i) (cellAt f n i)
theorem cellAt_bd (f : Nat → Int) (n i : Nat) : 0 ≤ cellAt f n i ∧ cellAt f n i ≤ 8 * i := by
  induction i with
  | zero => exact ⟨Int.le_refl _, Int.le_refl _⟩
  | succ i ih =>
    unfold cellAt
    have := cellW_bd (fun k => f (k + bx f n i)) (bx f n (i + 1) - bx f n i) (cellAt f n i)
    omega
def runI {σ : Type} (Y : σ → Nat → σ × Bool) : Nat → Nat → σ → σ
  | 0, _, s => s
  | m + 1, i, s => if (Y s i).2 then runI Y m (i + 1) (Y s i).1 else (Y s i).1
theorem v_allB_mem {f : Nat → Int} {n k : Nat} : k ∈ allB f n ↔ k ≤ n ∧ isB f n k = true := by
  unfold allB; rw [List.mem_filter, List.mem_range]
  constructor
  · rintro ⟨h1, h2⟩; exact ⟨by omega, h2⟩
  · rintro ⟨h1, h2⟩; exact ⟨by omega, h2⟩
theorem bx_bd (f : Nat → Int) (n i : Nat) (h : i < bnv f n) : bx f n i ≤ n := by
  unfold bx
  rw [List.getD_eq_getElem?_getD, List.getElem?_eq_getElem h]
  exact (v_allB_mem.1 (List.getElem_mem h)).1
theorem bx_up (f : Nat → Int) (n i : Nat) (h : i + 1 < bnv f n) : bx f n i < bx f n (i + 1) := by
  unfold bx bnv at *
  rw [List.getD_eq_getElem?_getD, List.getElem?_eq_getElem (show i < _ by omega), List.getD_eq_getElem?_getD, List.getElem?_eq_getElem h]
  have hs : (allB f n).Pairwise (· < ·) := by unfold allB; rw [List.range_eq_range']; exact List.Pairwise.filter _ List.pairwise_lt_range'
  exact List.pairwise_iff_getElem.1 hs i (i + 1) (by omega) h (by omega)
theorem bnv_bd (f : Nat → Int) (n : Nat) : 0 < bnv f n ∧ bnv f n ≤ n + 1 := by
  unfold bnv
  rw [allB_bounds, List.length_cons]
  have := bounds_length f n 0 (by omega) rfl
  omega
theorem v_get (f : Nat → Int) (n i : Nat) : ((allB f n).map Int.ofNat).getD i 0 = (bx f n i : Nat) := by
  unfold bx
  rw [List.getD_eq_getElem?_getD, List.getElem?_map, List.getD_eq_getElem?_getD]
  cases (allB f n)[i]? <;> rfl
/-- what stands from B on stays -/
def Above (B : Nat) (w w' : World) : Prop := ∀ g, B ≤ g → g < w.heap.size → w'.heap[g]? = w.heap[g]?
theorem OwnInts.across {w w1 : World} {base : Nat} {v : Value} {l : List Int} (h : OwnInts w base v l) (ha : Above base w w1) : OwnInts w1 base v l := by
  refine ⟨h.1, ?_⟩
  rcases h.2 with hn | ⟨g, cap, cur, rfl, hg, hgg, rest⟩
  · exact .inl hn
  · exact .inr ⟨g, cap, cur, rfl, hg, (ha g hg (heap_lt hgg)).trans hgg, rest⟩
theorem own_bx {w : World} {base : Nat} {s : Option Addr} {c len : Nat} {f : Nat → Int} (h : OwnInts w base (.slice s (bnv f len) c) ((allB f len).map Int.ofNat)) : IsInts w s (bnv f len) (fun i => ((bx f len i : Nat) : Int)) := by
  obtain ⟨s', n, c', hv, hn, hi⟩ := h.shape
  obtain ⟨rfl, rfl, rfl⟩ := Value.slice.inj hv
  have hf : (fun i => ((allB f len).map Int.ofNat).getD i 0) = (fun i => ((bx f len i : Nat) : Int)) := funext (v_get f len)
  rw [hf] at hi
  exact hi
theorem v_breaks (sa : Option Addr) (len cap : Nat) (f : Nat → Int) (w : World) (hl : len < 4294967295) (hr : IsInts w sa len f) :
    Calls Try.prog 20 #[.slice sa len cap] w fun e w' => ∃ s c, e = .returned (.slice s (bnv f len) c) ∧ OwnInts w' w.heap.size (.slice s (bnv f len) c) ((allB f len).map Int.ofNat) ∧ Below w.heap.size w w' := by
  refine (breaks_any sa len cap f w hl hr).mono ?_
  rintro e w' ⟨⟨v, rfl, ho⟩, hb⟩
  obtain ⟨s, n, c, rfl, hn, hi⟩ := ho.shape
  rw [List.length_map] at hn
  subst hn
  exact ⟨s, c, rfl, ho, hb⟩
theorem v_cut {w : World} {b o n p m : Nat} {f : Nat → Int} (h : IsInts w (some ⟨b, o, none⟩) n f) (hp : p + m ≤ n) : IsInts w (some ⟨b, o + p, none⟩) m (fun i => f (i + p)) := by
  rcases h with h | ⟨b', off, hs, hlt, hc⟩
  · exact .inl (by omega)
  · cases hs
    refine .inr ⟨b, o + p, rfl, hlt, fun i hi => ?_⟩
    have := hc (i + p) (by omega)
    rw [show o + p + i = o + (i + p) from by omega]; exact this
theorem runI_step {σ : Type} (Y : σ → Nat → σ × Bool) (m i : Nat) (s : σ) (h : 0 < m) : runI Y m i s = if (Y s i).2 then runI Y (m - 1) (i + 1) (Y s i).1 else (Y s i).1 := by
  obtain ⟨q, rfl⟩ : ∃ q, m = q + 1 := ⟨m - 1, by omega⟩
  rfl
set_option maxRecDepth 100000 in
set_option maxHeartbeats 4000000 in
theorem scan_any {σ : Type} (Inv : σ → World → Prop) (Y : σ → Nat → σ × Bool) (w00 ws : World) (fid : FuncId) (caps : Array Value) (len scap : Nat) (f : Nat → Int) (sa : Option Addr)
    (hY : ∀ s i w, i + 1 < bnv f len → Inv s w → Below w00.heap.size w00 w → Calls Try.prog fid (#[.int .i64 (bx f len i : Nat), .int .i64 (bx f len (i + 1) : Nat), .int .i64 (cellAt f len i), .int .i64 (cellOf f len i)] ++ caps) w fun e w' => e = .returned (.bool (Y s i).2) ∧ Inv (Y s i).1 w' ∧ Below w00.heap.size w00 w' ∧ Above ws.heap.size w w')
    (hI : ∀ s w w', Inv s w → Below w.heap.size w w' → Inv s w')
    (eg : ∀ (args : Array Value) (w : World), (callFunc fid args).run Try.prog w = .ok (.enter fid args) w) (hr : IsInts w00 sa len f) (hl : len < 4294967295) (hcap : len ≤ scap) (s0 : σ) (h0 : Inv s0 ws) (hb0 : Below w00.heap.size w00 ws) :
    Calls Try.prog 32 #[.slice sa len scap, .func (.func fid) #[] caps] ws fun e w' => e = .returned (.tuple #[]) ∧ Inv (runI Y (bnv f len - 1) 0 s0) w' ∧ Below w00.heap.size w00 w' := by
  have HY := Lib.hid hY
  have HI := Lib.hid hI
  have HR := Lib.hid hr
  have H0 := Lib.hid h0
  have HB0 := Lib.hid hb0
  clear hY hI hr h0 hb0
  have hbn := bnv_bd f len
  go_enter Try.func32, Try.ntmps32
  go_wp2_with fail
  refine (v_breaks sa len scap f _ hl (HR.out.later HB0.out)).mono ?_
  rintro e w1 ⟨sb, cb, rfl, hi, hb⟩
  have HIb := Lib.hid hi
  have HN := Lib.hid (HI.out s0 ws w1 H0.out hb)
  have HB := Lib.hid (HB0.out.trans (hb.mono HB0.out.size))
  clear hi hb H0 HB0
  go_wp2_with fail
  go_loopg [5, 15] (bnv f len - 1) (fun g cv iv wr => ∃ i : Nat, ∃ s : σ, i + g = bnv f len - 1 ∧ cv = .int .i64 (cellAt f len i) ∧ iv = .int .i64 i ∧ Inv s wr ∧ runI Y (bnv f len - 1 - i) i s = runI Y (bnv f len - 1) 0 s0 ∧ OwnInts wr ws.heap.size (.slice sb (bnv f len) cb) ((allB f len).map Int.ofNat) ∧ Below w00.heap.size w00 wr)
  case atStart => exact ⟨0, s0, by omega, rfl, rfl, HN.out, rfl, HIb.out, HB.out⟩
  case round =>
    obtain ⟨i, s, hg, rfl, rfl, hi, hrun, hib, hb⟩ := hrel
    replace HN := Lib.hid hi
    have HRUN := Lib.hid hrun
    replace HIb := Lib.hid hib
    replace HB := Lib.hid hb
    clear hi hrun hib hb
    by_cases hlt : i + 1 < bnv f len
    · obtain ⟨gb, off, rfl, c0⟩ := (own_bx HIb.out).at (Below.refl _ _) (show i < bnv f len by omega)
      obtain ⟨gb1, off1, hab, c1⟩ := (own_bx HIb.out).at (Below.refl _ _) hlt
      cases hab
      have hup := bx_up f len i hlt
      have hto := bx_bd f len (i + 1) hlt
      have hcb := cellAt_bd f len i
      have hob := cellW_bd (fun k => f (k + bx f len i)) (bx f len (i + 1) - bx f len i) (cellAt f len i)
      have hYi := fun s w => HY.out s i w hlt
      have hcs : cellAt f len (i + 1) = cellAt f len i + cellOf f len i := rfl
      have hrs := runI_step Y (bnv f len - 1 - i) i s (by omega)
      have hco : cellOf f len i = cellW (fun k => f (k + bx f len i)) (bx f len (i + 1) - bx f len i) (cellAt f len i) := rfl
      rw [← hco] at hob
      obtain ⟨fr, hfr⟩ : ∃ fr, bx f len i = fr := ⟨_, rfl⟩
      obtain ⟨tt, hto'⟩ : ∃ tt, bx f len (i + 1) = tt := ⟨_, rfl⟩
      obtain ⟨cl, hcl⟩ : ∃ cl, cellAt f len i = cl := ⟨_, rfl⟩
      obtain ⟨wd, hwd⟩ : ∃ wd, cellOf f len i = wd := ⟨_, rfl⟩
      simp only [hfr, hto', hcl, hwd] at c0 c1 hup hto hcb hob hYi hcs hco
      rw [hcl]
      have HYI := Lib.hid hYi
      have HCS := Lib.hid hcs
      have HRS := Lib.hid hrs
      have HCO := Lib.hid hco
      clear hfr hto' hcl hwd hYi hcs hrs hco
      have HB0 := Below.refl wr.heap.size wr
      have q1 : (0 : Int) ≤ (i : Int) + 1 := by omega
      have q2 : (i : Int) + 1 < (bnv f len : Int) := by omega
      have q3 : (i : Int) < (bnv f len : Int) := by omega
      have q4 : (0 : Int) ≤ (i : Int) := by omega
      have q5 : IntKind.i64.wrap ((i : Int) + 1) = (i : Int) + 1 := by rw [IntKind.wrap_i64]; omega
      have q6 : (i : Int) < (bnv f len : Int) - 1 := by omega
      go_wp2_with fail
      go_region_held3 (fun w' => w'.cell? ⟨gb, off + i, none⟩ = some (.int .i64 fr) ∧ w'.cell? ⟨gb, off + (i + 1), none⟩ = some (.int .i64 tt) ∧ Below wr.heap.size wr w')
        (first | exact ⟨c0, c1, HB0.drew⟩ | go_keep) (fail)
      have hd : Below wr.heap.size wr wr.drew := (Below.refl _ _).drew
      replace HN := Lib.hid (HI.out s wr _ HN.out hd)
      replace HIb := Lib.hid (HIb.out.later hd)
      replace HB := Lib.hid (HB.out.trans (hd.mono HB.out.size))
      generalize wr.drew = wq at *
      clear hd HB0 c0 c1 q1 q2 q4 q5
      obtain ⟨lb, lo, rfl, _⟩ := HR.out.at HB.out (show fr < len by omega)
      have r1 : (fr : Int) ≤ (tt : Int) := by omega
      have r2 : (tt : Int) ≤ (scap : Int) := by omega
      have r3 : fr ≤ tt := by omega
      have r4 : tt ≤ scap := by omega
      go_wp2_with fail
      refine (vwidth_any _ (tt - fr) _ (fun k => f (k + fr)) cl _ (by omega) (by omega) (by omega) (v_cut (HR.out.later HB.out) (by omega))).mono ?_
      rintro e w2 ⟨rfl, hb2⟩
      rw [← HCO.out]
      replace HN := Lib.hid (HI.out s wq _ HN.out hb2)
      replace HIb := Lib.hid (HIb.out.later hb2)
      replace HB := Lib.hid (HB.out.trans (hb2.mono HB.out.size))
      clear hb2
      go_wp2_with fail
      refine (HYI.out s w2 HN.out HB.out).mono ?_
      rintro e w3 ⟨rfl, hi3, hb3, ha3⟩
      have HN3 := Lib.hid hi3
      have HB3 := Lib.hid hb3
      replace HIb := Lib.hid (HIb.out.across ha3)
      clear hi3 hb3 ha3
      have hrs := HRS.out
      cases hyy : (Y s i).2
      · rw [hyy, if_neg (by decide)] at hrs
        have HR2 := Lib.hid (hrs.symm.trans HRUN.out)
        clear hrs hyy
        go_wp2
        first
          | (rw [Exit.noGoto_normal]; go_end0; exact ⟨rfl, by rw [← HR2.out]; exact HN3.out, HB3.out⟩)
          | (refine bodyPost_ret (results_none rfl _ _ _) rfl ?_; exact ⟨rfl, by rw [← HR2.out]; exact HN3.out, HB3.out⟩)
      · rw [hyy, if_pos rfl] at hrs
        have HR2 := Lib.hid (hrs.symm.trans HRUN.out)
        clear hrs hyy
        go_wp2
        go_roundg (gk - 1)
        case measure => omega
        case rel => exact ⟨i + 1, (Y s i).1, by omega, by rw [HCS.out], by go_num, HN3.out, by rw [← HR2.out, show bnv f len - 1 - (i + 1) = bnv f len - 1 - i - 1 from by omega], HIb.out, HB3.out⟩
    · have hF : runI Y (bnv f len - 1) 0 s0 = s := by rw [← HRUN.out, show bnv f len - 1 - i = 0 from by omega]; rfl
      have HF := Lib.hid hF
      clear hF
      have q6 : ¬ (i : Int) < (bnv f len : Int) - 1 := by omega
      go_wp2
      go_end0
      exact ⟨rfl, by rw [HF.out]; exact HN.out, HB.out⟩
/-- the cell at an offset -/
def cellY (f : Nat → Int) (n : Nat) (a : Int) (s : Int) (i : Nat) : Int × Bool := if a < (bx f n (i + 1) : Int) then (s, false) else (cellAt f n (i + 1), true)
def cellF (f : Nat → Int) (n : Nat) (a : Int) : Int := runI (cellY f n a) (bnv f n - 1) 0 0
set_option maxHeartbeats 1000000 in
theorem cell1_any (fr tt : Nat) (cl wd a : Int) (b : Nat) (s : Int) (w : World) (hc : 0 ≤ cl) (hc' : cl ≤ 68719476736) (hw : 0 ≤ wd) (hw' : wd ≤ 8) (ha : IsBox w b 3 (.int .i64 a)) (h : IsBox w (b + 1) 3 (.int .i64 s)) :
    Calls Try.prog 33 #[.int .i64 fr, .int .i64 tt, .int .i64 cl, .int .i64 wd, .pointer (some ⟨b, 0, none⟩), .pointer (some ⟨b + 1, 0, none⟩)] w fun e w' =>
      e = .returned (.bool (if a < (tt : Int) then false else true)) ∧ (IsBox w' b 3 (.int .i64 a) ∧ IsBox w' (b + 1) 3 (.int .i64 (if a < (tt : Int) then s else cl + wd))) ∧ Below b w w' ∧ Above (b + 2) w w' := by
  have HA := Lib.hid ha
  have H := Lib.hid h
  obtain ⟨hca, hfa⟩ := ha.cell
  obtain ⟨hcb, hf⟩ := h.cell
  clear h ha
  by_cases hna : a < (tt : Int)
  · rw [if_pos hna, if_pos hna]
    go_enter Try.func33, Try.ntmps33
    go_wp2
    go_ret
    exact ⟨rfl, ⟨HA.out, H.out⟩, Below.refl _ _, fun _ _ _ => rfl⟩
  · rw [if_neg hna, if_neg hna]
    go_enter Try.func33, Try.ntmps33
    go_wp2
    go_ret
    refine ⟨rfl, ⟨HA.out.other (by omega) _, H.out.set _⟩, below_boxset (Below.refl _ _) (by omega) _, fun g hg _ => ?_⟩
    show (w.heap.modify (b + 1) _)[g]? = _
    rw [Array.getElem?_modify, if_neg (by omega)]
set_option maxHeartbeats 2000000 in
theorem cell_any (sa : Option Addr) (len scap : Nat) (f : Nat → Int) (a : Int) (w : World) (hl : len < 4294967295) (hcap : len ≤ scap) (hr : IsInts w sa len f) :
    Calls Try.prog 21 #[.slice sa len scap, .int .i64 a] w fun e w' => e = .returned (.int .i64 (cellF f len a)) ∧ Below w.heap.size w w' := by
  have hmf : ∀ (fn : Fn) (first cap : Array Value) (w : World), (Instr.makeFunc fn first cap).run Try.prog w = .ok (.func fn first cap) w := fun _ _ _ _ => rfl
  have HR := Lib.hid hr
  clear hr
  have hbn := bnv_bd f len
  go_enter Try.func21, Try.ntmps21
  go_wp2_with fail
  refine (scan_any (fun (s : Int) wr => IsBox wr w.heap.size 3 (.int .i64 a) ∧ IsBox wr (w.heap.size + 1) 3 (.int .i64 s)) (cellY f len a) w _ 33 #[.pointer (some ⟨w.heap.size, 0, none⟩), .pointer (some ⟨w.heap.size + 1, 0, none⟩)] len scap f sa ?hY (fun s w1 w2 h hb => ⟨h.1.below hb, h.2.below hb⟩) (enters_of Try.func33 (by kernel_rfl) rfl) HR.out hl hcap 0 (boxes2 w _ _).1 (boxes2 w _ _).2).mono ?_
  case hY =>
    intro s i w1 hi h1 hb1
    have hcb := cellAt_bd f len i
    have hob := cellW_bd (fun k => f (k + bx f len i)) (bx f len (i + 1) - bx f len i) (cellAt f len i)
    refine (cell1_any (bx f len i) (bx f len (i + 1)) (cellAt f len i) (cellOf f len i) a _ s w1 (by omega) (by omega) hob.1 hob.2 h1.1 h1.2).mono ?_
    rintro e w2 ⟨rfl, h2, hb2, ha2⟩
    have hsz : ((w.alloc (.cells #[.int .i64 a] 3)).alloc (.cells #[.int .i64 0] 3)).heap.size = w.heap.size + 2 := by simp
    refine ⟨ret_bool ?_, ⟨h2.1, ?_⟩, hb1.trans hb2, ?_⟩
    · unfold cellY; split <;> rfl
    · have e1 : (cellY f len a s i).1 = if a < (bx f len (i + 1) : Int) then s else cellAt f len i + cellOf f len i := by unfold cellY; split <;> rfl
      rw [e1]; exact h2.2
    · rw [hsz]; exact ha2
  rintro e w1 ⟨rfl, h1, hb1⟩
  have HB := Lib.hid hb1
  obtain ⟨hc, hf⟩ := h1.2.cell
  rw [show runI (cellY f len a) (bnv f len - 1) 0 0 = cellF f len a from rfl] at hc
  clear h1 hb1
  go_wp2
  go_ret
  exact ⟨rfl, HB.out⟩
theorem able_cell : cellF (fun i => [97, 9, 98].getD i 0) 3 2 = 8 := by decide +kernel
theorem able_follow : followF 10 5 100 15 = 11 := by decide
theorem able_t : tF 2 9 = 2 := by decide
theorem able_b : bF 5 9 = 4 := by decide
theorem able_q : floatBits .quo .f64 (floatOfInt .f64 (min (tF 2 9) (bF 5 9))) (floatOfInt .f64 (bF 5 9)) = some 4602678819172646912 := by decide +kernel
theorem able_p : floatBits .quo .f64 (floatOfInt .f64 (100 * (tF 0 3 + 1))) (floatOfInt .f64 (nF 3)) = some 4629888066921343659 := by decide +kernel
theorem able_i : floatToIntVal .f64 4629888066921343659 .i64 = some 33 := by decide +kernel
end Go.Proofs.Ytplgpnmahblhbaa
