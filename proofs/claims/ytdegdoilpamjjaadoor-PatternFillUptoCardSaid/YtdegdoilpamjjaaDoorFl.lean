/- Contract: pattern.Fill. Condition: fewer than 2^30 ints of a line, the replacement has room behind it. -/
import Derived.Test.YtdegdoilpamjjaaDoorFf
namespace Go.Proofs.YtdegdoilpamjjaaDoor
open Go.RowKit
set_option linter.unusedVariables false
def FillP (l line : List Int) (M : Nat → Int) (w : World) (e : Ending) (w' : World) : Prop :=
  Below w.heap.size w w' ∧ ∃ s m c, e = .returned (.tuple #[.slice s m c, .int .i64 (fillF l line M).2]) ∧ OwnInts w' w.heap.size (.slice s m c) (fillF l line M).1
theorem mC_info (M : Nat → Int) : (Tryd.prog.info? 23).map (·.size) = some (mC M).size := by
  have : (mC M).size = 20 := by simp [mC, lst]
  have h2 : (Tryd.prog.info? 23).map (·.size) = some 20 := by kernel_rfl
  exact h2.trans (congrArg some this.symm)
def FInv (w3 : World) (rb b : Nat) (l line : List Int) (M : Nat → Int) (g : Nat) (rv : Value) (wr : World) : Prop :=
  ∃ rest S so no co o cc, rv = .slice (some ⟨rb, o, none⟩) (List.length rest) cc ∧ rest.length < cc ∧ rest.length ≤ 256 ∧ IsInts wr (some ⟨rb, o, none⟩) rest.length (gl rest) ∧ FillM wr w3.heap.size rb b S so no co ∧ Below w3.heap.size w3 wr ∧ rest.length ≤ g ∧ fillGo (execP line M) g rest S = fillGo (execP line M) l.length l FS0
theorem FInv.start {w3 : World} {rb ro n cap b : Nat} {l line : List Int} {M : Nat → Int} (hf : (w3.alloc (.cells #[.slice none 0 0, .nilFunc, .nilFunc] 87)).heap[w3.heap.size]? = some (.cells #[.slice none 0 0, .nilFunc, .nilFunc] 87 (0, 0))) (hn : l.length = n) (h256 : n ≤ 256) (hcap : n < cap)
    (hr : IsInts w3 (some ⟨rb, ro, none⟩) n (gl l)) (hb : w3.heap.size = b) (hrb : rb < w3.heap.size) : FInv w3 rb b l line M n (.slice (some ⟨rb, ro, none⟩) n cap) (w3.alloc (.cells #[.slice none 0 0, .nilFunc, .nilFunc] 87)) := by
  subst hn hb
  refine ⟨l, FS0, none, 0, 0, ro, cap, rfl, hcap, h256, hr.later (below_new2 _ _), ?_, below_new2 _ _, Nat.le_refl _, rfl⟩
  exact { ge := Nat.le_refl _, ne := by omega, blk := hf, own := OwnInts.nil _ _, nex := (by intro h; cases h), once := Nat.zero_le _, stay := Nat.zero_le _, len := Nat.zero_le _ }
theorem fill_results (tmps : Array Value) (bo be : Nat) (s : Option Addr) (n c : Nat) (k : Int) (w : World) (h5 : tmps.getD 6 undef = .pointer (some ⟨bo, 0, none⟩)) (h6 : tmps.getD 7 undef = .pointer (some ⟨be, 0, none⟩)) (ho : IsBox w bo 22 (.slice s n c)) (he : IsBox w be 42 (.int .i64 k)) :
    (results Tryd.f25 tmps).run Tryd.prog w = .ok (.tuple #[.slice s n c, .int .i64 k]) w := by
  have x0 := ho.cell.1
  have x1 := he.cell.1
  simp only [Array.getD_eq_getD_getElem?] at h5 h6
  simp [results, Tryd.results25, go_sem, h5, h6, x0, x1]
theorem fill_boxes (w : World) (M : Nat → Int) (v u : Value) :
    IsBox (((w.alloc (.cells (mC M) 23)).alloc (.cells #[v] 22)).alloc (.cells #[u] 42)) (w.heap.size + 1) 22 v ∧
    IsBox (((w.alloc (.cells (mC M) 23)).alloc (.cells #[v] 22)).alloc (.cells #[u] 42)) (w.heap.size + 1 + 1) 42 u ∧
    Below w.heap.size w (((w.alloc (.cells (mC M) 23)).alloc (.cells #[v] 22)).alloc (.cells #[u] 42)) := by
  refine ⟨?_, ?_, ?_⟩
  · have := (IsBox.new (w.alloc (.cells (mC M) 23)) 22 v).alloc (.cells #[u] 42)
    simpa using this
  · have := IsBox.new ((w.alloc (.cells (mC M) 23)).alloc (.cells #[v] 22)) 42 u
    simpa using this
  · exact (((Below.refl _ _).alloc (Nat.le_refl _) _).alloc (by simp) _).alloc (by simp; omega) _
theorem door_bad (tmps : Array Value) (bo be : Nat) (v0 v1 : Value) (k : Int) (w : World) (R : Ending → World → Prop) (h6 : tmps.getD 6 undef = .pointer (some ⟨bo, 0, none⟩)) (h7 : tmps.getD 7 undef = .pointer (some ⟨be, 0, none⟩)) (ho : IsBox w bo 22 v0) (he : IsBox w be 42 v1) (hne : bo ≠ be)
    (h : ∀ w', (∀ B, B ≤ bo → B ≤ be → Below B w w') → R (.returned (.tuple #[.slice none 0 0, .int .i64 k])) w') :
    bodyPostD Tryd.prog Tryd.f25 R (.panic [badP k]) { tmps := tmps, defers := [{ target := .fn (.func 38) #[.pointer (some ⟨bo, 0, none⟩), .pointer (some ⟨be, 0, none⟩)], args := #[] }] } w := by
  refine leaves_cons (f := 38) (args := #[.pointer (some ⟨bo, 0, none⟩), .pointer (some ⟨be, 0, none⟩)]) (by simp) (by simp [go_sem]) ?_
  refine (catch_bad bo be k [] v0 v1 w ho he hne).mono ?_
  rintro e u' w' ⟨rfl, rfl, b1, b2, b3⟩
  exact ⟨_, fill_results _ bo be none 0 0 k w' h6 h7 b1 b2, h w' b3⟩
theorem door_ret (tmps : Array Value) (bo be : Nat) (s : Option Addr) (n c : Nat) (k : Int) (w : World) (R : Ending → World → Prop) (h6 : tmps.getD 6 undef = .pointer (some ⟨bo, 0, none⟩)) (h7 : tmps.getD 7 undef = .pointer (some ⟨be, 0, none⟩)) (ho : IsBox w bo 22 (.slice s n c)) (he : IsBox w be 42 (.int .i64 k))
    (h : ∀ w', Below w.heap.size w w' → R (.returned (.tuple #[.slice s n c, .int .i64 k])) w') :
    bodyPostD Tryd.prog Tryd.f25 R .ret { tmps := tmps, defers := [{ target := .fn (.func 38) #[.pointer (some ⟨bo, 0, none⟩), .pointer (some ⟨be, 0, none⟩)], args := #[] }] } w := by
  refine leaves_cons (f := 38) (args := #[.pointer (some ⟨bo, 0, none⟩), .pointer (some ⟨be, 0, none⟩)]) (by simp) (by simp [go_sem]) ?_
  refine (catch_idle bo be w).mono ?_
  rintro e u' w' ⟨rfl, rfl, b1⟩
  exact ⟨_, fill_results _ bo be s n c k w' h6 h7 (ho.below b1) (he.below b1), h w' b1⟩
set_option maxRecDepth 100000 in
set_option maxHeartbeats 4000000 in
theorem fill_long (rb ro n cap : Nat) (l : List Int) (lb lo ln lc : Nat) (lf M : Nat → Int) (w : World) (hn : l.length = n) (hbig : 256 < n) :
    Calls Tryd.prog 25 #[.slice (some ⟨rb, ro, none⟩) n cap, .slice (some ⟨lb, lo, none⟩) ln lc, .agg (mC M)] w (FillP l (lst lf ln) M w) := by
  have q1 : (256 : Int) < (n : Int) := by omega
  have hmf : ∀ (fn : Fn) (first cap : Array Value) (w : World), (Instr.makeFunc fn first cap).run Tryd.prog w = .ok (.func fn first cap) w := fun _ _ _ _ => rfl
  go_enter_defers Tryd.func25, Tryd.ntmps25
  go_wp2
  have x1 := fill_boxes w M (.slice none 0 0) (.int .i64 3)
  refine ⟨_, fill_results _ (w.heap.size + 1) (w.heap.size + 1 + 1) none 0 0 3 _ rfl rfl x1.1 x1.2.1, x1.2.2, none, 0, 0, ?_, ?_⟩
  · unfold fillF
    rw [if_pos (by omega)]
  · unfold fillF
    rw [if_pos (by omega)]
    exact OwnInts.nil _ _
set_option maxRecDepth 100000 in
set_option maxHeartbeats 8000000 in
theorem fill_short (rb ro n cap : Nat) (l : List Int) (lb lo ln lc : Nat) (lf M : Nat → Int) (w : World) (hn : l.length = n) (hsm : n ≤ 256) (hcap : n < cap) (hr : IsInts w (some ⟨rb, ro, none⟩) n (gl l)) (hrb : rb < w.heap.size) (ht : Tabs w) (hli : IsInts w (some ⟨lb, lo, none⟩) ln lf) (hlb : lb < w.heap.size) (hln : ln < 1073741824) (hlc : ln ≤ lc) :
    Calls Tryd.prog 25 #[.slice (some ⟨rb, ro, none⟩) n cap, .slice (some ⟨lb, lo, none⟩) ln lc, .agg (mC M)] w (FillP l (lst lf ln) M w) := by
  have q1 : ¬ (256 : Int) < (n : Int) := by omega
  have hmf : ∀ (fn : Fn) (first cap : Array Value) (w : World), (Instr.makeFunc fn first cap).run Tryd.prog w = .ok (.func fn first cap) w := fun _ _ _ _ => rfl
  have hx := fill_boxes w M (.slice none 0 0) (.int .i64 0)
  have hsz : (((w.alloc (.cells (mC M) 23)).alloc (.cells #[.slice none 0 0] 22)).alloc (.cells #[.int .i64 0] 42)).heap.size = w.heap.size + 1 + 1 + 1 := by simp
  have hmt : (((w.alloc (.cells (mC M) 23)).alloc (.cells #[.slice none 0 0] 22)).alloc (.cells #[.int .i64 0] 42)).heap[w.heap.size]? = some (.cells (mC M) 23 (0, 0)) := by
    rw [Below.heap_alloc _ _ _ (by simp; omega), Below.heap_alloc _ _ _ (by simp)]
    exact one_new w _
  generalize hw : ((w.alloc (.cells (mC M) 23)).alloc (.cells #[.slice none 0 0] 22)).alloc (.cells #[.int .i64 0] 42) = w3 at *
  obtain ⟨hxo, hxe, hb3⟩ := hx
  have HR := Lib.hid (hr.later hb3)
  have HLI := Lib.hid (hli.later hb3)
  have HT := Lib.hid (ht.later hb3)
  have HXO := Lib.hid hxo
  have HXE := Lib.hid hxe
  have HB3 := Lib.hid hb3
  have HMT := Lib.hid hmt
  have HN := Lib.hid hn
  clear hr hli ht hxo hxe hb3 hmt hn
  have HFM := Lib.hid (one_new w3 (.cells #[.slice none 0 0, .nilFunc, .nilFunc] 87))
  go_enter_defers Tryd.func25, Tryd.ntmps25
  go_wp2_with fail
  go_loopg [0] n (fun g rv wr => FInv w3 rb (w.heap.size + 1 + 1 + 1) l (lst lf ln) M g rv wr)
  case atStart => exact FInv.start HFM.out HN.out hsm hcap HR.out hsz (by omega)
  case round =>
    obtain ⟨rest, S, so, no, co, o, cc, rfl, hrc, h256, hri, hm, hb, hg, hgo⟩ := hrel
    have HM := Lib.hid hm
    have HB := Lib.hid hb
    have HRI := Lib.hid hri
    have HGO := Lib.hid hgo
    clear hm hb hri hgo HR HFM
    cases rest with
    | nil =>
      simp only [List.length_nil]
      have HFIN := Lib.hid (show fillF l (lst lf ln) M = ansF (some S) by unfold fillF; rw [if_neg (by rw [HN.out]; omega), ← HGO.out]; cases gk <;> rfl)
      have k0 : wr.cell? ⟨w.heap.size + 1 + 1 + 1, 0, none⟩ = some (.slice so no co) := block_cell HM.out.blk
      have z0 := (HXO.out.below HB.out)
      have z1 := (HXE.out.below HB.out)
      by_cases hlong : 140000 < no
      · have q2 : (140000 : Int) < (no : Int) := by omega
        have hmk : (Instr.makeInterface 82 (.agg #[.int .i64 3])).run Tryd.prog wr = .ok (.iface 82 (.agg #[.int .i64 3])) wr := by kernel_rfl
        go_wp2
        refine door_bad _ (w.heap.size + 1) (w.heap.size + 1 + 1) _ _ 3 wr _ rfl rfl z0 z1 (by omega) (fun w' hw' => ?_)
        refine ⟨HB3.out.trans ((HB.out.mono HB3.out.size).trans (hw' _ (by omega) (by omega))), none, 0, 0, ?_, ?_⟩
        · rw [HFIN.out]; unfold ansF; simp only; rw [if_pos (by have := HM.out.n_eq; omega)]
        · rw [HFIN.out]; unfold ansF; simp only; rw [if_pos (by have := HM.out.n_eq; omega)]; exact OwnInts.nil _ _
      · have q2 : ¬ (140000 : Int) < (no : Int) := by omega
        have y0 := z0.cell.1
        have y1 := z1.cell.1
        have y2 := z0.cell.2
        have y3 := z1.cell.2
        have Z0 := Lib.hid z0
        have Z1 := Lib.hid z1
        clear z0 z1
        have n0 : ¬ w.heap.size + 1 = w.heap.size + 1 + 1 := by omega
        have n1 : ¬ w.heap.size + 1 + 1 = w.heap.size + 1 := by omega
        go_wp2
        refine door_ret _ (w.heap.size + 1) (w.heap.size + 1 + 1) so no co 0 _ _ rfl rfl ((Z0.out.set _).other (by omega) _) ((Z1.out.other (by omega) _).set _) (fun w' hw' => ?_)
        have e1 : Below w.heap.size w ((wr.setCell ⟨w.heap.size + 1, 0, none⟩ (.slice so no co)).setCell ⟨w.heap.size + 1 + 1, 0, none⟩ (.int .i64 0)) := ((HB3.out.trans (HB.out.mono HB3.out.size)).setCell (by show w.heap.size ≤ w.heap.size + 1; omega) _).setCell (by show w.heap.size ≤ w.heap.size + 1 + 1; omega) _
        have hfe : fillF l (lst lf ln) M = (S.out, 0) := by rw [HFIN.out]; unfold ansF; simp only; rw [if_neg (by have := HM.out.n_eq; omega)]
        refine ⟨e1.trans (hw'.mono e1.size), so, no, co, by rw [hfe], ?_⟩
        rw [hfe]
        have h1 : OwnInts wr w.heap.size (.slice so no co) S.out := HM.out.own.mono (by omega)
        refine (h1.kept (fun q hq he => ?_)).kept (fun q hq _ => hw'.block q hq)
        have hge := (HM.out.own.lt q he).1
        rw [Below.heap_setCell _ ⟨w.heap.size + 1 + 1, 0, none⟩ _ q (by show q ≠ w.heap.size + 1 + 1; omega), Below.heap_setCell _ ⟨w.heap.size + 1, 0, none⟩ _ q (by show q ≠ w.heap.size + 1; omega)]
    | cons c r =>
      obtain ⟨cc', rfl⟩ : ∃ cc', cc = cc' + 1 := ⟨cc - 1, by omega⟩
      obtain ⟨g', rfl⟩ : ∃ g', gk = g' + 1 := ⟨gk - 1, by simp only [List.length_cons] at hg; omega⟩
      simp only [List.length_cons] at hrc h256 hg HRI ⊢
      obtain ⟨m, hmm⟩ : ∃ m, r.length = m := ⟨_, rfl⟩
      rw [hmm] at hrc h256 hg HRI ⊢
      have c0 := HRI.out.cell (i := 0) (by omega)
      rw [Nat.add_zero] at c0
      have c0' : wr.cell? ⟨rb, o, none⟩ = some (.int .i64 c) := c0
      have HTL := Lib.hid (show IsInts wr (some ⟨rb, o + 1, none⟩) m (gl r) from by
        by_cases hm0 : m = 0
        · exact .inl hm0
        · refine .inr ⟨rb, o + 1, rfl, by have := HB.out.size; omega, fun i hi => ?_⟩
          have := HRI.out.cell (i := i + 1) (by omega)
          rw [show o + 1 + i = o + (i + 1) from by omega]
          exact this)
      clear c0
      have HMM := Lib.hid hmm
      clear hmm
      have z0 : ((m : Int) + 1 == 0) = false := by rw [beq_eq_false_iff_ne]; omega
      have q3 : (0 : Int) < (m : Int) + 1 := by omega
      have q4 : (1 : Int) ≤ (m : Int) + 1 := by omega
      have q5 : (m : Int) + 1 ≤ (cc' : Int) + 1 := by omega
      have q6 : ¬ cc' = 0 := by omega
      by_cases h38 : c = 38
      · subst h38
        have HNX := Lib.hid (show fillGo (execP (lst lf ln) M) g' r (execP (lst lf ln) M S (.group 0)) = fillGo (execP (lst lf ln) M) l.length l FS0 from HGO.out)
        have k0 : wr.cell? ⟨w.heap.size, 0, none⟩ = some (.int .i64 (M 0)) := ((HB.out.cell (p := ⟨w.heap.size, 0, none⟩) (by show w.heap.size < w3.heap.size; omega)).trans (block_cell HMT.out)).trans (mC_at M _ (by omega))
        have k1 : wr.cell? ⟨w.heap.size, 1, none⟩ = some (.int .i64 (M 1)) := ((HB.out.cell (p := ⟨w.heap.size, 1, none⟩) (by show w.heap.size < w3.heap.size; omega)).trans (block_cell HMT.out)).trans (mC_at M _ (by omega))
        go_wp2_with fail
        refine (part_c (some ⟨lb, lo, none⟩) ln lc lf (M 0) (M 1) wr hln hlc (HLI.out.later HB.out)).mono ?_
        rintro e w2 ⟨rfl, s', m', c', rfl, hm', hsb, h', hi', hl'⟩
        have HM' := Lib.hid hm'
        have HSB := Lib.hid hsb
        have HI' := Lib.hid hi'
        have HL' := Lib.hid hl'
        clear hm' hsb hi' hl' k0 k1
        go_wp2_with fail
        refine (give_c w3 lb (w.heap.size + 1 + 1 + 1) S so no co s' m' c' h' wr (by have := HM'.out; omega) HT.out HB.out (HM.out.re lb (.inl (by omega))) (by have := HB.out.size; omega) HI'.out (fun a ha => by obtain ⟨a', h1, h2⟩ := HSB.out a ha; cases h1; exact h2)).mono ?_
        rintro e w4 ⟨rfl, ⟨so4, no4, co4, hm4⟩, hb4, hs4⟩
        rw [HL'.out] at hm4
        have HM4 := Lib.hid (hm4.re rb (.inl (by omega)))
        have HB4 := Lib.hid hb4
        have HTL4 := Lib.hid (HTL.out.block (w' := w4) (x := rb) (fun a ha => by cases ha; rfl) hs4 ((hb4.block rb (by omega)).trans (HB.out.block rb (by omega)).symm))
        clear hm4 hb4 hs4
        go_wp2
        go_roundg g'
        case measure => omega
        case rel => exact ⟨r, _, so4, no4, co4, o + 1, cc', by rw [HMM.out], by rw [HMM.out]; omega, by rw [HMM.out]; omega, by rw [HMM.out]; exact HTL4.out, HM4.out, HB4.out, by rw [HMM.out]; omega, HNX.out⟩
      · by_cases h92 : c = 92
        · subst h92
          have n1 : m ≤ 1000 := by omega
          have HMW := Lib.hid ((HB.out.block w.heap.size (by omega)).trans HMT.out)
          go_wp2_with (refine wpList_load_row rfl 23 _ rfl w.heap.size rfl _ _ _ _ HMW.out Tryd.underlying23 rfl (mC_info M) ?_)
          refine (esc_c w3 rb (o + 1) cc' (w.heap.size + 1 + 1 + 1) S so no co r m lb lo ln lc lf M wr HMM.out n1 (by omega) HTL.out (by omega) HT.out HB.out HM.out (HLI.out.later HB.out) (by omega) hln hlc).mono ?_
          rintro e w4 ⟨hb4, hs4, hpost⟩
          have HB4 := Lib.hid hb4
          have HS4 := Lib.hid hs4
          clear hb4 hs4
          cases htk : tok (92 :: r) with
          | none =>
            rw [htk] at hpost
            simp only at hpost
            subst hpost
            have hfe : fillF l (lst lf ln) M = ([], 102) := by
              unfold fillF
              rw [if_neg (by rw [HN.out]; omega), ← HGO.out]
              simp only [fillGo, htk]
              rfl
            have HFE := Lib.hid hfe
            clear hfe htk
            have z0 := (HXO.out.below HB4.out)
            have z1 := (HXE.out.below HB4.out)
            show bodyPostD _ _ _ _ _ _
            refine door_bad _ (w.heap.size + 1) (w.heap.size + 1 + 1) _ _ 102 w4 _ rfl rfl z0 z1 (by omega) (fun w' hw' => ?_)
            refine ⟨HB3.out.trans ((HB4.out.mono HB3.out.size).trans (hw' _ (by omega) (by omega))), none, 0, 0, by rw [HFE.out], ?_⟩
            rw [HFE.out]; exact OwnInts.nil _ _
          | some x =>
            obtain ⟨t, k⟩ := x
            rw [htk] at hpost
            obtain ⟨rfl, so4, no4, co4, hm4⟩ := hpost
            have hk := tok_pos htk
            simp only [List.length_cons] at hk
            have HNX := Lib.hid (show fillGo (execP (lst lf ln) M) g' ((92 :: r).drop k) (execP (lst lf ln) M S t) = fillGo (execP (lst lf ln) M) l.length l FS0 from by rw [← HGO.out]; simp only [fillGo, htk])
            have hdr : (92 :: r).drop k = r.drop (k - 1) := by
              obtain ⟨k', rfl⟩ : ∃ k', k = k' + 1 := ⟨k - 1, by omega⟩
              rfl
            rw [hdr] at HNX
            have HM4 := Lib.hid hm4
            have HK := Lib.hid hk
            clear hm4 htk hdr hk
            go_wp2
            go_roundg g'
            case measure => omega
            case rel =>
              have hk := HK.out
              have hmm := HMM.out
              refine ⟨r.drop (k - 1), _, so4, no4, co4, o + 1 + (k - 1), cc' - (k - 1), by rw [List.length_drop, hmm], by rw [List.length_drop]; omega, by rw [List.length_drop]; omega, ?_, HM4.out, HB4.out, by rw [List.length_drop]; omega, HNX.out⟩
              by_cases hd0 : (r.drop (k - 1)).length = 0
              · exact .inl hd0
              · refine .inr ⟨rb, o + 1 + (k - 1), rfl, by have := HB4.out.size; omega, fun i hi => ?_⟩
                rw [List.length_drop] at hi
                have := HTL.out.cell (i := k - 1 + i) (by omega)
                rw [World.cell?_of_block ((HB4.out.block rb (by omega)).trans (HB.out.block rb (by omega)).symm)]
                rw [show o + 1 + (k - 1) + i = o + 1 + (k - 1 + i) from by omega, this]
                simp [gl, List.getElem?_drop]
        · have n38 : (c == 38) = false := by rw [beq_eq_false_iff_ne]; exact h38
          have n92 : (c == 92) = false := by rw [beq_eq_false_iff_ne]; exact h92
          have HNX := Lib.hid (show fillGo (execP (lst lf ln) M) g' r (execP (lst lf ln) M S (.give c)) = fillGo (execP (lst lf ln) M) l.length l FS0 from by rw [← HGO.out]; simp [fillGo, tok, h38, h92])
          clear h38 h92
          go_wp2_with (first | (go_at_call 39; refine (give1_c w3 rb (w.heap.size + 1 + 1 + 1) S so no co c wr HT.out HB.out HM.out (by omega)).mono ?_; rintro e w4 ⟨rfl, hm4, hb4, hs4⟩; have HM4 := Lib.hid hm4; have HB4 := Lib.hid hb4; have HS4 := Lib.hid hs4; clear hm4 hb4 hs4))
          go_roundg g'
          case measure => omega
          case rel =>
            obtain ⟨so4, no4, co4, hm4⟩ := HM4.out
            have hb4 := HB4.out
            have hs4 := HS4.out
            have HTL4 := HTL.out.block (w' := w4) (x := rb) (fun a ha => by cases ha; rfl) hs4 ((hb4.block rb (by omega)).trans (HB.out.block rb (by omega)).symm)
            exact ⟨r, _, so4, no4, co4, o + 1, cc', by rw [HMM.out], by rw [HMM.out]; omega, by rw [HMM.out]; omega, by rw [HMM.out]; exact HTL4, hm4, hb4, by rw [HMM.out]; omega, HNX.out⟩
theorem fill_c (rb ro n cap : Nat) (l : List Int) (lb lo ln lc : Nat) (lf M : Nat → Int) (w : World) (hn : l.length = n) (hcap : n < cap) (hr : IsInts w (some ⟨rb, ro, none⟩) n (gl l)) (hrb : rb < w.heap.size) (ht : Tabs w) (hli : IsInts w (some ⟨lb, lo, none⟩) ln lf) (hlb : lb < w.heap.size) (hln : ln < 1073741824) (hlc : ln ≤ lc) :
    Calls Tryd.prog 25 #[.slice (some ⟨rb, ro, none⟩) n cap, .slice (some ⟨lb, lo, none⟩) ln lc, .agg (mC M)] w (FillP l (lst lf ln) M w) := by
  by_cases h : 256 < n
  · exact fill_long rb ro n cap l lb lo ln lc lf M w hn h
  · exact fill_short rb ro n cap l lb lo ln lc lf M w hn (by omega) hcap hr hrb ht hli hlb hln hlc
end Go.Proofs.YtdegdoilpamjjaaDoor
