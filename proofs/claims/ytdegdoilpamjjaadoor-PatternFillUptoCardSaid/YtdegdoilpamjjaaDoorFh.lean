/- Contract: (*filler).escape, a class of letters each: those that give a control, those that turn a case. Condition: as part and give. -/
import Derived.Test.YtdegdoilpamjjaaDoorFg
namespace Go.Proofs.YtdegdoilpamjjaaDoor
open Go.RowKit
set_option linter.unusedVariables false
/-- what a match tells, as a value -/
def mC (M : Nat → Int) : Array Value := ((lst M 20).map (Value.int .i64)).toArray
theorem mC_at (M : Nat → Int) (i : Nat) (h : i < 20) : (mC M)[i]? = some (.int .i64 (M i)) := by
  simp [mC, lst, h]
theorem below_new2 (w : World) (o : Obj) : Below w.heap.size w (w.alloc o) := (Below.refl _ _).alloc (Nat.le_refl _) _
theorem FillM.re {w : World} {base x b : Nat} {s : FS} {sl : Option Addr} {n c : Nat} (h : FillM w base x b s sl n c) (y : Nat) (hy : y < base ∨ w.heap.size ≤ y) : FillM w base y b s sl n c := by
  have hb := heap_lt h.blk
  have hg := h.ge
  refine { h with ne := by omega, nex := fun he => ?_ }
  have := h.own.lt y he
  omega
theorem give1_c (w0 : World) (x b : Nat) (s : FS) (so : Option Addr) (no co : Nat) (a : Int) (w : World) (ht : Tabs w0) (hb : Below w0.heap.size w0 w) (hm : FillM w w0.heap.size x b s so no co) (hx : x < w0.heap.size) :
    Calls Tryd.prog 39 #[.pointer (some ⟨b, 0, none⟩), .slice (some ⟨w.heap.size, 0, none⟩) 1 1] (w.alloc (.cells #[.int .i64 a] 3)) fun e w' => e = .returned (.tuple #[]) ∧ (∃ so no co, FillM w' w0.heap.size x b (giveP s a) so no co) ∧ Below w0.heap.size w0 w' ∧ w.heap.size ≤ w'.heap.size := by
  have h0 : (w.alloc (.cells #[.int .i64 a] 3)).heap[w.heap.size]? = _ := one_new w _
  refine (give_c w0 w.heap.size b s so no co (some ⟨w.heap.size, 0, none⟩) 1 1 (fun _ => a) _ (by omega) ht (hb.alloc hb.size _) ((hm.re w.heap.size (.inr (Nat.le_refl _))).later (below_new2 w _)) (by simp) (.inr ⟨_, 0, rfl, by simp, fun i hi => ?_⟩) (fun c hc => by cases hc; rfl)).mono ?_
  · obtain rfl : i = 0 := by omega
    exact block_cell h0
  · rintro e w' ⟨rfl, ⟨so', no', co', hm'⟩, hb', hs'⟩
    simp at hs'
    exact ⟨rfl, ⟨so', no', co', hm'.re x (.inl hx)⟩, hb', by omega⟩
/-- how the filler gives up -/
def badP (k : Int) : PanicEntry := { v := .iface 82 (.agg #[.int .i64 k]), recovered := false }
def EscP (w0 : World) (rb ro cap b : Nat) (s : FS) (l line : List Int) (M : Nat → Int) (w : World) (e : Ending) (w' : World) : Prop :=
  Below w0.heap.size w0 w' ∧ w.heap.size ≤ w'.heap.size ∧ match tok (92 :: l) with
    | none => e = .panicked [badP 102]
    | some (t, k) => e = .returned (.slice (some ⟨rb, ro + (k - 1), none⟩) (l.length - (k - 1)) (cap - (k - 1))) ∧ ∃ so no co, FillM w' w0.heap.size rb b (execP line M s t) so no co
theorem EscP.tok2 {w0 : World} {rb ro cap b : Nat} {s : FS} {l line : List Int} {M : Nat → Int} {w w' : World} {t : Tok} {d : Int} {r : List Int} (hl : l = d :: r) (hd : d ≠ 120) (ht : escT d = some t) (h1 : Below w0.heap.size w0 w') (h2 : w.heap.size ≤ w'.heap.size)
    (hm : ∃ so no co, FillM w' w0.heap.size rb b (execP line M s t) so no co) {m c : Nat} (hmm : l.length = m + 1) (hc : cap = c + 1) : EscP w0 rb ro cap b s l line M w (.returned (.slice (some ⟨rb, ro + 1, none⟩) m c)) w' := by
  refine ⟨h1, h2, ?_⟩
  have : tok (92 :: l) = some (t, 2) := by
    subst hl
    simp only [tok]
    simp [hd, ht]
  rw [this]
  refine ⟨?_, hm⟩
  rw [hmm, hc]; rfl
theorem FillM.setOnce {w : World} {base x b : Nat} {s : FS} {sl : Option Addr} {n c : Nat} (h : FillM w base x b s sl n c) (k : Nat) (hk : k ≤ 2) {v : Value} (hv : fnV k = v) : FillM (w.setCell ⟨b, 1, none⟩ v) base x b ⟨s.out, k, s.stay⟩ sl n c := by
  subst hv
  exact
  { h with
    blk := block_set _ h.blk
    own := h.own.kept (fun q hq he => Below.heap_setCell _ _ _ _ (fun e => h.ownb (by rw [he]; exact congrArg some e)))
    once := hk }
theorem FillM.setStay {w : World} {base x b : Nat} {s : FS} {sl : Option Addr} {n c : Nat} (h : FillM w base x b s sl n c) (k : Nat) (hk : k ≤ 2) {v : Value} (hv : fnV k = v) : FillM (w.setCell ⟨b, 2, none⟩ v) base x b ⟨s.out, s.once, k⟩ sl n c := by
  subst hv
  exact
  { h with
    blk := block_set _ h.blk
    own := h.own.kept (fun q hq he => Below.heap_setCell _ _ _ _ (fun e => h.ownb (by rw [he]; exact congrArg some e)))
    stay := hk }
set_option maxRecDepth 100000 in
set_option maxHeartbeats 4000000 in
theorem esc_g110 (w0 : World) (rb ro c b : Nat) (s : FS) (so : Option Addr) (no co : Nat) (d : Int) (r : List Int) (lb lo ln lc : Nat) (lf M : Nat → Int) (w : World) (hm30 : r.length < 1000) (hcap : r.length < c) (hr : IsInts w (some ⟨rb, ro, none⟩) (r.length + 1) (gl (d :: r)))
    (hrb : rb < w0.heap.size) (ht : Tabs w0) (hb : Below w0.heap.size w0 w) (hm : FillM w w0.heap.size rb b s so no co) (hli : IsInts w (some ⟨lb, lo, none⟩) ln lf) (hlb : lb < w0.heap.size) (hln : ln < 1073741824) (hlc : ln ≤ lc) (hd : d = 110) :
    Calls Tryd.prog 41 #[.pointer (some ⟨b, 0, none⟩), .slice (some ⟨rb, ro, none⟩) (r.length + 1) (c + 1), .slice (some ⟨lb, lo, none⟩) ln lc, .agg (mC M)] w (EscP w0 rb ro (c + 1) b s (d :: r) (lst lf ln) M w) := by
  have c0 := hr.cell (i := 0) (by omega)
  rw [Nat.add_zero] at c0
  obtain ⟨m, hmm⟩ : ∃ m, r.length = m := ⟨_, rfl⟩
  rw [hmm] at hr hm30 hcap ⊢
  have hob := one_new w (.cells (mC M) 23)
  have hw0 := below_new2 w (.cells (mC M) 23)
  have hr0 := hr.later hw0
  have hli0 := hli.later hw0
  have hb0 := hb.trans (hw0.mono hb.size)
  have hm0 := hm.later hw0
  have c0' : (w.alloc (.cells (mC M) 23)).cell? ⟨rb, ro, none⟩ = some (.int .i64 d) := (hw0.cell (p := ⟨rb, ro, none⟩) (by have := hb.size; show rb < w.heap.size; omega)).trans c0
  have hsz : w.heap.size < (w.alloc (.cells (mC M) 23)).heap.size := by simp
  generalize hw : w.alloc (.cells (mC M) 23) = w1 at *
  have HOB := Lib.hid hob
  have HR := Lib.hid hr0
  have HLI := Lib.hid hli0
  have HB := Lib.hid hb0
  have HM := Lib.hid hm0
  have HMM := Lib.hid hmm
  have HT := Lib.hid ht
  clear hob hr0 hr hw0 hli hli0 hb hb0 hm hm0 hmm ht c0
  have z0 : ((m : Int) + 1 == 0) = false := by rw [beq_eq_false_iff_ne]; omega
  have q0 : (1 : Int) ≤ (m : Int) + 1 := by omega
  have q1 : (m : Int) + 1 ≤ (c : Int) + 1 := by omega
  have q2 : (1 : Int) < (c : Int) + 1 := by omega
  have q3 : ¬ c = 0 := by omega
  have d0 : w1.cell? ⟨b, 1, none⟩ = some (fnV s.once) := block_cell HM.out.blk
  have d1 : w1.cell? ⟨b, 2, none⟩ = some (fnV s.stay) := block_cell HM.out.blk
  have f0 : ∀ i, w1.frozen? ⟨b, i, none⟩ = false := fun i => block_free HM.out.blk
  subst hd
  go_enter Tryd.func41, Tryd.ntmps41
  go_wp2_with (first | (go_at_call 39; refine (give1_c w0 rb b s so no co _ w1 HT.out HB.out HM.out hrb).mono ?_; rintro e w2 ⟨rfl, hm2, hb2, hs2⟩; have HM2 := Lib.hid hm2; have HB2 := Lib.hid hb2; have HS2 := Lib.hid hs2; clear hm2 hb2 hs2))
  go_ret
  exact EscP.tok2 (t := .give 10) rfl (by omega) (by simp [escT]) HB2.out (by have := HS2.out; omega) HM2.out (by simp [HMM.out]) rfl
set_option maxRecDepth 100000 in
set_option maxHeartbeats 4000000 in
theorem esc_g114 (w0 : World) (rb ro c b : Nat) (s : FS) (so : Option Addr) (no co : Nat) (d : Int) (r : List Int) (lb lo ln lc : Nat) (lf M : Nat → Int) (w : World) (hm30 : r.length < 1000) (hcap : r.length < c) (hr : IsInts w (some ⟨rb, ro, none⟩) (r.length + 1) (gl (d :: r)))
    (hrb : rb < w0.heap.size) (ht : Tabs w0) (hb : Below w0.heap.size w0 w) (hm : FillM w w0.heap.size rb b s so no co) (hli : IsInts w (some ⟨lb, lo, none⟩) ln lf) (hlb : lb < w0.heap.size) (hln : ln < 1073741824) (hlc : ln ≤ lc) (hd : d = 114) :
    Calls Tryd.prog 41 #[.pointer (some ⟨b, 0, none⟩), .slice (some ⟨rb, ro, none⟩) (r.length + 1) (c + 1), .slice (some ⟨lb, lo, none⟩) ln lc, .agg (mC M)] w (EscP w0 rb ro (c + 1) b s (d :: r) (lst lf ln) M w) := by
  have c0 := hr.cell (i := 0) (by omega)
  rw [Nat.add_zero] at c0
  obtain ⟨m, hmm⟩ : ∃ m, r.length = m := ⟨_, rfl⟩
  rw [hmm] at hr hm30 hcap ⊢
  have hob := one_new w (.cells (mC M) 23)
  have hw0 := below_new2 w (.cells (mC M) 23)
  have hr0 := hr.later hw0
  have hli0 := hli.later hw0
  have hb0 := hb.trans (hw0.mono hb.size)
  have hm0 := hm.later hw0
  have c0' : (w.alloc (.cells (mC M) 23)).cell? ⟨rb, ro, none⟩ = some (.int .i64 d) := (hw0.cell (p := ⟨rb, ro, none⟩) (by have := hb.size; show rb < w.heap.size; omega)).trans c0
  have hsz : w.heap.size < (w.alloc (.cells (mC M) 23)).heap.size := by simp
  generalize hw : w.alloc (.cells (mC M) 23) = w1 at *
  have HOB := Lib.hid hob
  have HR := Lib.hid hr0
  have HLI := Lib.hid hli0
  have HB := Lib.hid hb0
  have HM := Lib.hid hm0
  have HMM := Lib.hid hmm
  have HT := Lib.hid ht
  clear hob hr0 hr hw0 hli hli0 hb hb0 hm hm0 hmm ht c0
  have z0 : ((m : Int) + 1 == 0) = false := by rw [beq_eq_false_iff_ne]; omega
  have q0 : (1 : Int) ≤ (m : Int) + 1 := by omega
  have q1 : (m : Int) + 1 ≤ (c : Int) + 1 := by omega
  have q2 : (1 : Int) < (c : Int) + 1 := by omega
  have q3 : ¬ c = 0 := by omega
  have d0 : w1.cell? ⟨b, 1, none⟩ = some (fnV s.once) := block_cell HM.out.blk
  have d1 : w1.cell? ⟨b, 2, none⟩ = some (fnV s.stay) := block_cell HM.out.blk
  have f0 : ∀ i, w1.frozen? ⟨b, i, none⟩ = false := fun i => block_free HM.out.blk
  subst hd
  go_enter Tryd.func41, Tryd.ntmps41
  go_wp2_with (first | (go_at_call 39; refine (give1_c w0 rb b s so no co _ w1 HT.out HB.out HM.out hrb).mono ?_; rintro e w2 ⟨rfl, hm2, hb2, hs2⟩; have HM2 := Lib.hid hm2; have HB2 := Lib.hid hb2; have HS2 := Lib.hid hs2; clear hm2 hb2 hs2))
  go_ret
  exact EscP.tok2 (t := .give 10) rfl (by omega) (by simp [escT]) HB2.out (by have := HS2.out; omega) HM2.out (by simp [HMM.out]) rfl
set_option maxRecDepth 100000 in
set_option maxHeartbeats 4000000 in
theorem esc_g116 (w0 : World) (rb ro c b : Nat) (s : FS) (so : Option Addr) (no co : Nat) (d : Int) (r : List Int) (lb lo ln lc : Nat) (lf M : Nat → Int) (w : World) (hm30 : r.length < 1000) (hcap : r.length < c) (hr : IsInts w (some ⟨rb, ro, none⟩) (r.length + 1) (gl (d :: r)))
    (hrb : rb < w0.heap.size) (ht : Tabs w0) (hb : Below w0.heap.size w0 w) (hm : FillM w w0.heap.size rb b s so no co) (hli : IsInts w (some ⟨lb, lo, none⟩) ln lf) (hlb : lb < w0.heap.size) (hln : ln < 1073741824) (hlc : ln ≤ lc) (hd : d = 116) :
    Calls Tryd.prog 41 #[.pointer (some ⟨b, 0, none⟩), .slice (some ⟨rb, ro, none⟩) (r.length + 1) (c + 1), .slice (some ⟨lb, lo, none⟩) ln lc, .agg (mC M)] w (EscP w0 rb ro (c + 1) b s (d :: r) (lst lf ln) M w) := by
  have c0 := hr.cell (i := 0) (by omega)
  rw [Nat.add_zero] at c0
  obtain ⟨m, hmm⟩ : ∃ m, r.length = m := ⟨_, rfl⟩
  rw [hmm] at hr hm30 hcap ⊢
  have hob := one_new w (.cells (mC M) 23)
  have hw0 := below_new2 w (.cells (mC M) 23)
  have hr0 := hr.later hw0
  have hli0 := hli.later hw0
  have hb0 := hb.trans (hw0.mono hb.size)
  have hm0 := hm.later hw0
  have c0' : (w.alloc (.cells (mC M) 23)).cell? ⟨rb, ro, none⟩ = some (.int .i64 d) := (hw0.cell (p := ⟨rb, ro, none⟩) (by have := hb.size; show rb < w.heap.size; omega)).trans c0
  have hsz : w.heap.size < (w.alloc (.cells (mC M) 23)).heap.size := by simp
  generalize hw : w.alloc (.cells (mC M) 23) = w1 at *
  have HOB := Lib.hid hob
  have HR := Lib.hid hr0
  have HLI := Lib.hid hli0
  have HB := Lib.hid hb0
  have HM := Lib.hid hm0
  have HMM := Lib.hid hmm
  have HT := Lib.hid ht
  clear hob hr0 hr hw0 hli hli0 hb hb0 hm hm0 hmm ht c0
  have z0 : ((m : Int) + 1 == 0) = false := by rw [beq_eq_false_iff_ne]; omega
  have q0 : (1 : Int) ≤ (m : Int) + 1 := by omega
  have q1 : (m : Int) + 1 ≤ (c : Int) + 1 := by omega
  have q2 : (1 : Int) < (c : Int) + 1 := by omega
  have q3 : ¬ c = 0 := by omega
  have d0 : w1.cell? ⟨b, 1, none⟩ = some (fnV s.once) := block_cell HM.out.blk
  have d1 : w1.cell? ⟨b, 2, none⟩ = some (fnV s.stay) := block_cell HM.out.blk
  have f0 : ∀ i, w1.frozen? ⟨b, i, none⟩ = false := fun i => block_free HM.out.blk
  subst hd
  go_enter Tryd.func41, Tryd.ntmps41
  go_wp2_with (first | (go_at_call 39; refine (give1_c w0 rb b s so no co _ w1 HT.out HB.out HM.out hrb).mono ?_; rintro e w2 ⟨rfl, hm2, hb2, hs2⟩; have HM2 := Lib.hid hm2; have HB2 := Lib.hid hb2; have HS2 := Lib.hid hs2; clear hm2 hb2 hs2))
  go_ret
  exact EscP.tok2 (t := .give 9) rfl (by omega) (by simp [escT]) HB2.out (by have := HS2.out; omega) HM2.out (by simp [HMM.out]) rfl
set_option maxRecDepth 100000 in
set_option maxHeartbeats 4000000 in
theorem esc_g101 (w0 : World) (rb ro c b : Nat) (s : FS) (so : Option Addr) (no co : Nat) (d : Int) (r : List Int) (lb lo ln lc : Nat) (lf M : Nat → Int) (w : World) (hm30 : r.length < 1000) (hcap : r.length < c) (hr : IsInts w (some ⟨rb, ro, none⟩) (r.length + 1) (gl (d :: r)))
    (hrb : rb < w0.heap.size) (ht : Tabs w0) (hb : Below w0.heap.size w0 w) (hm : FillM w w0.heap.size rb b s so no co) (hli : IsInts w (some ⟨lb, lo, none⟩) ln lf) (hlb : lb < w0.heap.size) (hln : ln < 1073741824) (hlc : ln ≤ lc) (hd : d = 101) :
    Calls Tryd.prog 41 #[.pointer (some ⟨b, 0, none⟩), .slice (some ⟨rb, ro, none⟩) (r.length + 1) (c + 1), .slice (some ⟨lb, lo, none⟩) ln lc, .agg (mC M)] w (EscP w0 rb ro (c + 1) b s (d :: r) (lst lf ln) M w) := by
  have c0 := hr.cell (i := 0) (by omega)
  rw [Nat.add_zero] at c0
  obtain ⟨m, hmm⟩ : ∃ m, r.length = m := ⟨_, rfl⟩
  rw [hmm] at hr hm30 hcap ⊢
  have hob := one_new w (.cells (mC M) 23)
  have hw0 := below_new2 w (.cells (mC M) 23)
  have hr0 := hr.later hw0
  have hli0 := hli.later hw0
  have hb0 := hb.trans (hw0.mono hb.size)
  have hm0 := hm.later hw0
  have c0' : (w.alloc (.cells (mC M) 23)).cell? ⟨rb, ro, none⟩ = some (.int .i64 d) := (hw0.cell (p := ⟨rb, ro, none⟩) (by have := hb.size; show rb < w.heap.size; omega)).trans c0
  have hsz : w.heap.size < (w.alloc (.cells (mC M) 23)).heap.size := by simp
  generalize hw : w.alloc (.cells (mC M) 23) = w1 at *
  have HOB := Lib.hid hob
  have HR := Lib.hid hr0
  have HLI := Lib.hid hli0
  have HB := Lib.hid hb0
  have HM := Lib.hid hm0
  have HMM := Lib.hid hmm
  have HT := Lib.hid ht
  clear hob hr0 hr hw0 hli hli0 hb hb0 hm hm0 hmm ht c0
  have z0 : ((m : Int) + 1 == 0) = false := by rw [beq_eq_false_iff_ne]; omega
  have q0 : (1 : Int) ≤ (m : Int) + 1 := by omega
  have q1 : (m : Int) + 1 ≤ (c : Int) + 1 := by omega
  have q2 : (1 : Int) < (c : Int) + 1 := by omega
  have q3 : ¬ c = 0 := by omega
  have d0 : w1.cell? ⟨b, 1, none⟩ = some (fnV s.once) := block_cell HM.out.blk
  have d1 : w1.cell? ⟨b, 2, none⟩ = some (fnV s.stay) := block_cell HM.out.blk
  have f0 : ∀ i, w1.frozen? ⟨b, i, none⟩ = false := fun i => block_free HM.out.blk
  subst hd
  go_enter Tryd.func41, Tryd.ntmps41
  go_wp2_with (first | (go_at_call 39; refine (give1_c w0 rb b s so no co _ w1 HT.out HB.out HM.out hrb).mono ?_; rintro e w2 ⟨rfl, hm2, hb2, hs2⟩; have HM2 := Lib.hid hm2; have HB2 := Lib.hid hb2; have HS2 := Lib.hid hs2; clear hm2 hb2 hs2))
  go_ret
  exact EscP.tok2 (t := .give 27) rfl (by omega) (by simp [escT]) HB2.out (by have := HS2.out; omega) HM2.out (by simp [HMM.out]) rfl
set_option maxRecDepth 100000 in
set_option maxHeartbeats 4000000 in
theorem esc_s117 (w0 : World) (rb ro c b : Nat) (s : FS) (so : Option Addr) (no co : Nat) (d : Int) (r : List Int) (lb lo ln lc : Nat) (lf M : Nat → Int) (w : World) (hm30 : r.length < 1000) (hcap : r.length < c) (hr : IsInts w (some ⟨rb, ro, none⟩) (r.length + 1) (gl (d :: r)))
    (hrb : rb < w0.heap.size) (ht : Tabs w0) (hb : Below w0.heap.size w0 w) (hm : FillM w w0.heap.size rb b s so no co) (hli : IsInts w (some ⟨lb, lo, none⟩) ln lf) (hlb : lb < w0.heap.size) (hln : ln < 1073741824) (hlc : ln ≤ lc) (hd : d = 117) :
    Calls Tryd.prog 41 #[.pointer (some ⟨b, 0, none⟩), .slice (some ⟨rb, ro, none⟩) (r.length + 1) (c + 1), .slice (some ⟨lb, lo, none⟩) ln lc, .agg (mC M)] w (EscP w0 rb ro (c + 1) b s (d :: r) (lst lf ln) M w) := by
  have c0 := hr.cell (i := 0) (by omega)
  rw [Nat.add_zero] at c0
  obtain ⟨m, hmm⟩ : ∃ m, r.length = m := ⟨_, rfl⟩
  rw [hmm] at hr hm30 hcap ⊢
  have hob := one_new w (.cells (mC M) 23)
  have hw0 := below_new2 w (.cells (mC M) 23)
  have hr0 := hr.later hw0
  have hli0 := hli.later hw0
  have hb0 := hb.trans (hw0.mono hb.size)
  have hm0 := hm.later hw0
  have c0' : (w.alloc (.cells (mC M) 23)).cell? ⟨rb, ro, none⟩ = some (.int .i64 d) := (hw0.cell (p := ⟨rb, ro, none⟩) (by have := hb.size; show rb < w.heap.size; omega)).trans c0
  have hsz : w.heap.size < (w.alloc (.cells (mC M) 23)).heap.size := by simp
  generalize hw : w.alloc (.cells (mC M) 23) = w1 at *
  have HOB := Lib.hid hob
  have HR := Lib.hid hr0
  have HLI := Lib.hid hli0
  have HB := Lib.hid hb0
  have HM := Lib.hid hm0
  have HMM := Lib.hid hmm
  have HT := Lib.hid ht
  clear hob hr0 hr hw0 hli hli0 hb hb0 hm hm0 hmm ht c0
  have z0 : ((m : Int) + 1 == 0) = false := by rw [beq_eq_false_iff_ne]; omega
  have q0 : (1 : Int) ≤ (m : Int) + 1 := by omega
  have q1 : (m : Int) + 1 ≤ (c : Int) + 1 := by omega
  have q2 : (1 : Int) < (c : Int) + 1 := by omega
  have q3 : ¬ c = 0 := by omega
  have d0 : w1.cell? ⟨b, 1, none⟩ = some (fnV s.once) := block_cell HM.out.blk
  have d1 : w1.cell? ⟨b, 2, none⟩ = some (fnV s.stay) := block_cell HM.out.blk
  have f0 : ∀ i, w1.frozen? ⟨b, i, none⟩ = false := fun i => block_free HM.out.blk
  subst hd
  go_enter Tryd.func41, Tryd.ntmps41
  go_wp2
  go_ret
  exact EscP.tok2 (t := .once 1) rfl (by omega) (by simp [escT]) (HB.out.setCell HM.out.ge _) (by rw [← grown_size]; omega) ⟨_, _, _, HM.out.setOnce 1 (by omega) rfl⟩ (by simp [HMM.out]) rfl
set_option maxRecDepth 100000 in
set_option maxHeartbeats 4000000 in
theorem esc_s108 (w0 : World) (rb ro c b : Nat) (s : FS) (so : Option Addr) (no co : Nat) (d : Int) (r : List Int) (lb lo ln lc : Nat) (lf M : Nat → Int) (w : World) (hm30 : r.length < 1000) (hcap : r.length < c) (hr : IsInts w (some ⟨rb, ro, none⟩) (r.length + 1) (gl (d :: r)))
    (hrb : rb < w0.heap.size) (ht : Tabs w0) (hb : Below w0.heap.size w0 w) (hm : FillM w w0.heap.size rb b s so no co) (hli : IsInts w (some ⟨lb, lo, none⟩) ln lf) (hlb : lb < w0.heap.size) (hln : ln < 1073741824) (hlc : ln ≤ lc) (hd : d = 108) :
    Calls Tryd.prog 41 #[.pointer (some ⟨b, 0, none⟩), .slice (some ⟨rb, ro, none⟩) (r.length + 1) (c + 1), .slice (some ⟨lb, lo, none⟩) ln lc, .agg (mC M)] w (EscP w0 rb ro (c + 1) b s (d :: r) (lst lf ln) M w) := by
  have c0 := hr.cell (i := 0) (by omega)
  rw [Nat.add_zero] at c0
  obtain ⟨m, hmm⟩ : ∃ m, r.length = m := ⟨_, rfl⟩
  rw [hmm] at hr hm30 hcap ⊢
  have hob := one_new w (.cells (mC M) 23)
  have hw0 := below_new2 w (.cells (mC M) 23)
  have hr0 := hr.later hw0
  have hli0 := hli.later hw0
  have hb0 := hb.trans (hw0.mono hb.size)
  have hm0 := hm.later hw0
  have c0' : (w.alloc (.cells (mC M) 23)).cell? ⟨rb, ro, none⟩ = some (.int .i64 d) := (hw0.cell (p := ⟨rb, ro, none⟩) (by have := hb.size; show rb < w.heap.size; omega)).trans c0
  have hsz : w.heap.size < (w.alloc (.cells (mC M) 23)).heap.size := by simp
  generalize hw : w.alloc (.cells (mC M) 23) = w1 at *
  have HOB := Lib.hid hob
  have HR := Lib.hid hr0
  have HLI := Lib.hid hli0
  have HB := Lib.hid hb0
  have HM := Lib.hid hm0
  have HMM := Lib.hid hmm
  have HT := Lib.hid ht
  clear hob hr0 hr hw0 hli hli0 hb hb0 hm hm0 hmm ht c0
  have z0 : ((m : Int) + 1 == 0) = false := by rw [beq_eq_false_iff_ne]; omega
  have q0 : (1 : Int) ≤ (m : Int) + 1 := by omega
  have q1 : (m : Int) + 1 ≤ (c : Int) + 1 := by omega
  have q2 : (1 : Int) < (c : Int) + 1 := by omega
  have q3 : ¬ c = 0 := by omega
  have d0 : w1.cell? ⟨b, 1, none⟩ = some (fnV s.once) := block_cell HM.out.blk
  have d1 : w1.cell? ⟨b, 2, none⟩ = some (fnV s.stay) := block_cell HM.out.blk
  have f0 : ∀ i, w1.frozen? ⟨b, i, none⟩ = false := fun i => block_free HM.out.blk
  subst hd
  go_enter Tryd.func41, Tryd.ntmps41
  go_wp2
  go_ret
  exact EscP.tok2 (t := .once 2) rfl (by omega) (by simp [escT]) (HB.out.setCell HM.out.ge _) (by rw [← grown_size]; omega) ⟨_, _, _, HM.out.setOnce 2 (by omega) rfl⟩ (by simp [HMM.out]) rfl
set_option maxRecDepth 100000 in
set_option maxHeartbeats 4000000 in
theorem esc_s85 (w0 : World) (rb ro c b : Nat) (s : FS) (so : Option Addr) (no co : Nat) (d : Int) (r : List Int) (lb lo ln lc : Nat) (lf M : Nat → Int) (w : World) (hm30 : r.length < 1000) (hcap : r.length < c) (hr : IsInts w (some ⟨rb, ro, none⟩) (r.length + 1) (gl (d :: r)))
    (hrb : rb < w0.heap.size) (ht : Tabs w0) (hb : Below w0.heap.size w0 w) (hm : FillM w w0.heap.size rb b s so no co) (hli : IsInts w (some ⟨lb, lo, none⟩) ln lf) (hlb : lb < w0.heap.size) (hln : ln < 1073741824) (hlc : ln ≤ lc) (hd : d = 85) :
    Calls Tryd.prog 41 #[.pointer (some ⟨b, 0, none⟩), .slice (some ⟨rb, ro, none⟩) (r.length + 1) (c + 1), .slice (some ⟨lb, lo, none⟩) ln lc, .agg (mC M)] w (EscP w0 rb ro (c + 1) b s (d :: r) (lst lf ln) M w) := by
  have c0 := hr.cell (i := 0) (by omega)
  rw [Nat.add_zero] at c0
  obtain ⟨m, hmm⟩ : ∃ m, r.length = m := ⟨_, rfl⟩
  rw [hmm] at hr hm30 hcap ⊢
  have hob := one_new w (.cells (mC M) 23)
  have hw0 := below_new2 w (.cells (mC M) 23)
  have hr0 := hr.later hw0
  have hli0 := hli.later hw0
  have hb0 := hb.trans (hw0.mono hb.size)
  have hm0 := hm.later hw0
  have c0' : (w.alloc (.cells (mC M) 23)).cell? ⟨rb, ro, none⟩ = some (.int .i64 d) := (hw0.cell (p := ⟨rb, ro, none⟩) (by have := hb.size; show rb < w.heap.size; omega)).trans c0
  have hsz : w.heap.size < (w.alloc (.cells (mC M) 23)).heap.size := by simp
  generalize hw : w.alloc (.cells (mC M) 23) = w1 at *
  have HOB := Lib.hid hob
  have HR := Lib.hid hr0
  have HLI := Lib.hid hli0
  have HB := Lib.hid hb0
  have HM := Lib.hid hm0
  have HMM := Lib.hid hmm
  have HT := Lib.hid ht
  clear hob hr0 hr hw0 hli hli0 hb hb0 hm hm0 hmm ht c0
  have z0 : ((m : Int) + 1 == 0) = false := by rw [beq_eq_false_iff_ne]; omega
  have q0 : (1 : Int) ≤ (m : Int) + 1 := by omega
  have q1 : (m : Int) + 1 ≤ (c : Int) + 1 := by omega
  have q2 : (1 : Int) < (c : Int) + 1 := by omega
  have q3 : ¬ c = 0 := by omega
  have d0 : w1.cell? ⟨b, 1, none⟩ = some (fnV s.once) := block_cell HM.out.blk
  have d1 : w1.cell? ⟨b, 2, none⟩ = some (fnV s.stay) := block_cell HM.out.blk
  have f0 : ∀ i, w1.frozen? ⟨b, i, none⟩ = false := fun i => block_free HM.out.blk
  subst hd
  go_enter Tryd.func41, Tryd.ntmps41
  go_wp2
  go_ret
  exact EscP.tok2 (t := .stay 1) rfl (by omega) (by simp [escT]) (HB.out.setCell HM.out.ge _) (by rw [← grown_size]; omega) ⟨_, _, _, HM.out.setStay 1 (by omega) rfl⟩ (by simp [HMM.out]) rfl
set_option maxRecDepth 100000 in
set_option maxHeartbeats 4000000 in
theorem esc_s76 (w0 : World) (rb ro c b : Nat) (s : FS) (so : Option Addr) (no co : Nat) (d : Int) (r : List Int) (lb lo ln lc : Nat) (lf M : Nat → Int) (w : World) (hm30 : r.length < 1000) (hcap : r.length < c) (hr : IsInts w (some ⟨rb, ro, none⟩) (r.length + 1) (gl (d :: r)))
    (hrb : rb < w0.heap.size) (ht : Tabs w0) (hb : Below w0.heap.size w0 w) (hm : FillM w w0.heap.size rb b s so no co) (hli : IsInts w (some ⟨lb, lo, none⟩) ln lf) (hlb : lb < w0.heap.size) (hln : ln < 1073741824) (hlc : ln ≤ lc) (hd : d = 76) :
    Calls Tryd.prog 41 #[.pointer (some ⟨b, 0, none⟩), .slice (some ⟨rb, ro, none⟩) (r.length + 1) (c + 1), .slice (some ⟨lb, lo, none⟩) ln lc, .agg (mC M)] w (EscP w0 rb ro (c + 1) b s (d :: r) (lst lf ln) M w) := by
  have c0 := hr.cell (i := 0) (by omega)
  rw [Nat.add_zero] at c0
  obtain ⟨m, hmm⟩ : ∃ m, r.length = m := ⟨_, rfl⟩
  rw [hmm] at hr hm30 hcap ⊢
  have hob := one_new w (.cells (mC M) 23)
  have hw0 := below_new2 w (.cells (mC M) 23)
  have hr0 := hr.later hw0
  have hli0 := hli.later hw0
  have hb0 := hb.trans (hw0.mono hb.size)
  have hm0 := hm.later hw0
  have c0' : (w.alloc (.cells (mC M) 23)).cell? ⟨rb, ro, none⟩ = some (.int .i64 d) := (hw0.cell (p := ⟨rb, ro, none⟩) (by have := hb.size; show rb < w.heap.size; omega)).trans c0
  have hsz : w.heap.size < (w.alloc (.cells (mC M) 23)).heap.size := by simp
  generalize hw : w.alloc (.cells (mC M) 23) = w1 at *
  have HOB := Lib.hid hob
  have HR := Lib.hid hr0
  have HLI := Lib.hid hli0
  have HB := Lib.hid hb0
  have HM := Lib.hid hm0
  have HMM := Lib.hid hmm
  have HT := Lib.hid ht
  clear hob hr0 hr hw0 hli hli0 hb hb0 hm hm0 hmm ht c0
  have z0 : ((m : Int) + 1 == 0) = false := by rw [beq_eq_false_iff_ne]; omega
  have q0 : (1 : Int) ≤ (m : Int) + 1 := by omega
  have q1 : (m : Int) + 1 ≤ (c : Int) + 1 := by omega
  have q2 : (1 : Int) < (c : Int) + 1 := by omega
  have q3 : ¬ c = 0 := by omega
  have d0 : w1.cell? ⟨b, 1, none⟩ = some (fnV s.once) := block_cell HM.out.blk
  have d1 : w1.cell? ⟨b, 2, none⟩ = some (fnV s.stay) := block_cell HM.out.blk
  have f0 : ∀ i, w1.frozen? ⟨b, i, none⟩ = false := fun i => block_free HM.out.blk
  subst hd
  go_enter Tryd.func41, Tryd.ntmps41
  go_wp2
  go_ret
  exact EscP.tok2 (t := .stay 2) rfl (by omega) (by simp [escT]) (HB.out.setCell HM.out.ge _) (by rw [← grown_size]; omega) ⟨_, _, _, HM.out.setStay 2 (by omega) rfl⟩ (by simp [HMM.out]) rfl
set_option maxRecDepth 100000 in
set_option maxHeartbeats 4000000 in
theorem esc_s69 (w0 : World) (rb ro c b : Nat) (s : FS) (so : Option Addr) (no co : Nat) (d : Int) (r : List Int) (lb lo ln lc : Nat) (lf M : Nat → Int) (w : World) (hm30 : r.length < 1000) (hcap : r.length < c) (hr : IsInts w (some ⟨rb, ro, none⟩) (r.length + 1) (gl (d :: r)))
    (hrb : rb < w0.heap.size) (ht : Tabs w0) (hb : Below w0.heap.size w0 w) (hm : FillM w w0.heap.size rb b s so no co) (hli : IsInts w (some ⟨lb, lo, none⟩) ln lf) (hlb : lb < w0.heap.size) (hln : ln < 1073741824) (hlc : ln ≤ lc) (hd : d = 69) :
    Calls Tryd.prog 41 #[.pointer (some ⟨b, 0, none⟩), .slice (some ⟨rb, ro, none⟩) (r.length + 1) (c + 1), .slice (some ⟨lb, lo, none⟩) ln lc, .agg (mC M)] w (EscP w0 rb ro (c + 1) b s (d :: r) (lst lf ln) M w) := by
  have c0 := hr.cell (i := 0) (by omega)
  rw [Nat.add_zero] at c0
  obtain ⟨m, hmm⟩ : ∃ m, r.length = m := ⟨_, rfl⟩
  rw [hmm] at hr hm30 hcap ⊢
  have hob := one_new w (.cells (mC M) 23)
  have hw0 := below_new2 w (.cells (mC M) 23)
  have hr0 := hr.later hw0
  have hli0 := hli.later hw0
  have hb0 := hb.trans (hw0.mono hb.size)
  have hm0 := hm.later hw0
  have c0' : (w.alloc (.cells (mC M) 23)).cell? ⟨rb, ro, none⟩ = some (.int .i64 d) := (hw0.cell (p := ⟨rb, ro, none⟩) (by have := hb.size; show rb < w.heap.size; omega)).trans c0
  have hsz : w.heap.size < (w.alloc (.cells (mC M) 23)).heap.size := by simp
  generalize hw : w.alloc (.cells (mC M) 23) = w1 at *
  have HOB := Lib.hid hob
  have HR := Lib.hid hr0
  have HLI := Lib.hid hli0
  have HB := Lib.hid hb0
  have HM := Lib.hid hm0
  have HMM := Lib.hid hmm
  have HT := Lib.hid ht
  clear hob hr0 hr hw0 hli hli0 hb hb0 hm hm0 hmm ht c0
  have z0 : ((m : Int) + 1 == 0) = false := by rw [beq_eq_false_iff_ne]; omega
  have q0 : (1 : Int) ≤ (m : Int) + 1 := by omega
  have q1 : (m : Int) + 1 ≤ (c : Int) + 1 := by omega
  have q2 : (1 : Int) < (c : Int) + 1 := by omega
  have q3 : ¬ c = 0 := by omega
  have d0 : w1.cell? ⟨b, 1, none⟩ = some (fnV s.once) := block_cell HM.out.blk
  have d1 : w1.cell? ⟨b, 2, none⟩ = some (fnV s.stay) := block_cell HM.out.blk
  have f0 : ∀ i, w1.frozen? ⟨b, i, none⟩ = false := fun i => block_free HM.out.blk
  subst hd
  go_enter Tryd.func41, Tryd.ntmps41
  go_wp2
  go_ret
  exact EscP.tok2 (t := .stay 0) rfl (by omega) (by simp [escT]) (HB.out.setCell HM.out.ge _) (by rw [← grown_size]; omega) ⟨_, _, _, HM.out.setStay 0 (by omega) rfl⟩ (by simp [HMM.out]) rfl
end Go.Proofs.YtdegdoilpamjjaaDoor
