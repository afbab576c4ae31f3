/- Contract: (*filler).escape, whole. Condition: as part and give. -/
import Derived.Test.YtdegdoilpamjjaaDoorFi
import Derived.StillTailTactics
import Derived.IntWalk
namespace Go.Proofs.YtdegdoilpamjjaaDoor
open Go.RowKit
set_option linter.unusedVariables false
set_option maxRecDepth 100000 in
set_option maxHeartbeats 4000000 in
theorem esc_x0 (w0 : World) (rb ro c b : Nat) (s : FS) (so : Option Addr) (no co : Nat) (d : Int) (r : List Int) (lb lo ln lc : Nat) (lf M : Nat → Int) (w : World) (hm30 : r.length < 1000) (hcap : r.length < c) (hr : IsInts w (some ⟨rb, ro, none⟩) (r.length + 1) (gl (d :: r)))
    (hrb : rb < w0.heap.size) (ht : Tabs w0) (hb : Below w0.heap.size w0 w) (hm : FillM w w0.heap.size rb b s so no co) (hli : IsInts w (some ⟨lb, lo, none⟩) ln lf) (hlb : lb < w0.heap.size) (hln : ln < 1073741824) (hlc : ln ≤ lc) (hd : d = 120) (hr2 : r.length < 2) :
    Calls Tryd.prog 41 #[.pointer (some ⟨b, 0, none⟩), .slice (some ⟨rb, ro, none⟩) (r.length + 1) (c + 1), .slice (some ⟨lb, lo, none⟩) ln lc, .agg (mC M)] w (EscP w0 rb ro (c + 1) b s (d :: r) (lst lf ln) M w) := by
  have c0 := hr.cell (i := 0) (by omega)
  rw [Nat.add_zero] at c0
  obtain ⟨m, hmm⟩ : ∃ m, r.length = m := ⟨_, rfl⟩
  rw [hmm] at hr hm30 hcap ⊢
  have hob := one_new w (.cells (mC M) 23)
  have hw0 := below_new2 w (.cells (mC M) 23)
  have hr0 := hr.later hw0
  have hli0 := hli.later hw0
  have hb0 := hb.trans (hw0.mono hb.size)
  have hm0 := hm.later hw0
  have c0' : (w.alloc (.cells (mC M) 23)).cell? ⟨rb, ro, none⟩ = some (.int .i64 d) := (hw0.cell (p := ⟨rb, ro, none⟩) (by have := hb.size; show rb < w.heap.size; omega)).trans c0
  have hsz : w.heap.size < (w.alloc (.cells (mC M) 23)).heap.size := by simp
  generalize hw : w.alloc (.cells (mC M) 23) = w1 at *
  have HOB := Lib.hid hob
  have HR := Lib.hid hr0
  have HLI := Lib.hid hli0
  have HB := Lib.hid hb0
  have HM := Lib.hid hm0
  have HMM := Lib.hid hmm
  have HT := Lib.hid ht
  clear hob hr0 hr hw0 hli hli0 hb hb0 hm hm0 hmm ht c0
  have z0 : ((m : Int) + 1 == 0) = false := by rw [beq_eq_false_iff_ne]; omega
  have q0 : (1 : Int) ≤ (m : Int) + 1 := by omega
  have q1 : (m : Int) + 1 ≤ (c : Int) + 1 := by omega
  have q2 : (1 : Int) < (c : Int) + 1 := by omega
  have q3 : ¬ c = 0 := by omega
  have d0 : w1.cell? ⟨b, 1, none⟩ = some (fnV s.once) := block_cell HM.out.blk
  have d1 : w1.cell? ⟨b, 2, none⟩ = some (fnV s.stay) := block_cell HM.out.blk
  have f0 : ∀ i, w1.frozen? ⟨b, i, none⟩ = false := fun i => block_free HM.out.blk
  have HTK := Lib.hid (show tok (92 :: d :: r) = none by
    subst hd
    match r, hr2 with
    | [], _ => simp [tok]
    | [x], _ => simp [tok])
  have p1 : (m : Int) < 2 := by have := HMM.out; omega
  subst hd
  go_enter Tryd.func41, Tryd.ntmps41
  go_wp2
  refine ⟨rfl, HB.out, Nat.le_of_lt hsz, ?_⟩
  rw [HTK.out]
  rfl
set_option maxRecDepth 100000 in
set_option maxHeartbeats 4000000 in
theorem esc_x1 (w0 : World) (rb ro c b : Nat) (s : FS) (so : Option Addr) (no co : Nat) (d : Int) (r : List Int) (lb lo ln lc : Nat) (lf M : Nat → Int) (w : World) (hm30 : r.length < 1000) (hcap : r.length < c) (hr : IsInts w (some ⟨rb, ro, none⟩) (r.length + 1) (gl (d :: r)))
    (hrb : rb < w0.heap.size) (ht : Tabs w0) (hb : Below w0.heap.size w0 w) (hm : FillM w w0.heap.size rb b s so no co) (hli : IsInts w (some ⟨lb, lo, none⟩) ln lf) (hlb : lb < w0.heap.size) (hln : ln < 1073741824) (hlc : ln ≤ lc) (hd : d = 120) (x y : Int) (z : List Int) (hr2 : r = x :: y :: z) (hx : hexV x < 0) :
    Calls Tryd.prog 41 #[.pointer (some ⟨b, 0, none⟩), .slice (some ⟨rb, ro, none⟩) (r.length + 1) (c + 1), .slice (some ⟨lb, lo, none⟩) ln lc, .agg (mC M)] w (EscP w0 rb ro (c + 1) b s (d :: r) (lst lf ln) M w) := by
  have c0 := hr.cell (i := 0) (by omega)
  rw [Nat.add_zero] at c0
  obtain ⟨m, hmm⟩ : ∃ m, r.length = m := ⟨_, rfl⟩
  rw [hmm] at hr hm30 hcap ⊢
  have hob := one_new w (.cells (mC M) 23)
  have hw0 := below_new2 w (.cells (mC M) 23)
  have hr0 := hr.later hw0
  have hli0 := hli.later hw0
  have hb0 := hb.trans (hw0.mono hb.size)
  have hm0 := hm.later hw0
  have c0' : (w.alloc (.cells (mC M) 23)).cell? ⟨rb, ro, none⟩ = some (.int .i64 d) := (hw0.cell (p := ⟨rb, ro, none⟩) (by have := hb.size; show rb < w.heap.size; omega)).trans c0
  have hsz : w.heap.size < (w.alloc (.cells (mC M) 23)).heap.size := by simp
  generalize hw : w.alloc (.cells (mC M) 23) = w1 at *
  have HOB := Lib.hid hob
  have HR := Lib.hid hr0
  have HLI := Lib.hid hli0
  have HB := Lib.hid hb0
  have HM := Lib.hid hm0
  have HMM := Lib.hid hmm
  have HT := Lib.hid ht
  clear hob hr0 hr hw0 hli hli0 hb hb0 hm hm0 hmm ht c0
  have z0 : ((m : Int) + 1 == 0) = false := by rw [beq_eq_false_iff_ne]; omega
  have q0 : (1 : Int) ≤ (m : Int) + 1 := by omega
  have q1 : (m : Int) + 1 ≤ (c : Int) + 1 := by omega
  have q2 : (1 : Int) < (c : Int) + 1 := by omega
  have q3 : ¬ c = 0 := by omega
  have d0 : w1.cell? ⟨b, 1, none⟩ = some (fnV s.once) := block_cell HM.out.blk
  have d1 : w1.cell? ⟨b, 2, none⟩ = some (fnV s.stay) := block_cell HM.out.blk
  have f0 : ∀ i, w1.frozen? ⟨b, i, none⟩ = false := fun i => block_free HM.out.blk
  have HTK := Lib.hid (show tok (92 :: d :: r) = none by
    subst hd hr2
    simp [tok, hx])
  have p1 : ¬ (m : Int) < 2 := by have := HMM.out; rw [hr2] at this; simp at this; omega
  have p2 : (0 : Int) < (m : Int) := by omega
  have p3 : (1 : Int) < (m : Int) := by omega
  have c1 : w1.cell? ⟨rb, ro + 1, none⟩ = some (.int .i64 x) := by have := HR.out.cell (i := 1) (by have := HMM.out; omega); rw [hr2] at this; exact this
  clear hr2
  subst hd
  obtain ⟨v, hv⟩ : ∃ v, hexV x = v := ⟨_, rfl⟩
  rw [hv] at hx
  have HV := Lib.hid hv
  clear hv
  go_enter Tryd.func41, Tryd.ntmps41
  go_wp2_with fail
  refine (digit_any x _).mono ?_
  rintro e w2 ⟨rfl, rfl⟩
  rw [HV.out]
  go_wp2
  refine ⟨rfl, HB.out, Nat.le_of_lt hsz, ?_⟩
  rw [HTK.out]
  rfl
set_option maxRecDepth 100000 in
set_option maxHeartbeats 4000000 in
theorem esc_x2 (w0 : World) (rb ro c b : Nat) (s : FS) (so : Option Addr) (no co : Nat) (d : Int) (r : List Int) (lb lo ln lc : Nat) (lf M : Nat → Int) (w : World) (hm30 : r.length < 1000) (hcap : r.length < c) (hr : IsInts w (some ⟨rb, ro, none⟩) (r.length + 1) (gl (d :: r)))
    (hrb : rb < w0.heap.size) (ht : Tabs w0) (hb : Below w0.heap.size w0 w) (hm : FillM w w0.heap.size rb b s so no co) (hli : IsInts w (some ⟨lb, lo, none⟩) ln lf) (hlb : lb < w0.heap.size) (hln : ln < 1073741824) (hlc : ln ≤ lc) (hd : d = 120) (x y : Int) (z : List Int) (hr2 : r = x :: y :: z) (hx : ¬ hexV x < 0) (hy : hexV y < 0) :
    Calls Tryd.prog 41 #[.pointer (some ⟨b, 0, none⟩), .slice (some ⟨rb, ro, none⟩) (r.length + 1) (c + 1), .slice (some ⟨lb, lo, none⟩) ln lc, .agg (mC M)] w (EscP w0 rb ro (c + 1) b s (d :: r) (lst lf ln) M w) := by
  have c0 := hr.cell (i := 0) (by omega)
  rw [Nat.add_zero] at c0
  obtain ⟨m, hmm⟩ : ∃ m, r.length = m := ⟨_, rfl⟩
  rw [hmm] at hr hm30 hcap ⊢
  have hob := one_new w (.cells (mC M) 23)
  have hw0 := below_new2 w (.cells (mC M) 23)
  have hr0 := hr.later hw0
  have hli0 := hli.later hw0
  have hb0 := hb.trans (hw0.mono hb.size)
  have hm0 := hm.later hw0
  have c0' : (w.alloc (.cells (mC M) 23)).cell? ⟨rb, ro, none⟩ = some (.int .i64 d) := (hw0.cell (p := ⟨rb, ro, none⟩) (by have := hb.size; show rb < w.heap.size; omega)).trans c0
  have hsz : w.heap.size < (w.alloc (.cells (mC M) 23)).heap.size := by simp
  generalize hw : w.alloc (.cells (mC M) 23) = w1 at *
  have HOB := Lib.hid hob
  have HR := Lib.hid hr0
  have HLI := Lib.hid hli0
  have HB := Lib.hid hb0
  have HM := Lib.hid hm0
  have HMM := Lib.hid hmm
  have HT := Lib.hid ht
  clear hob hr0 hr hw0 hli hli0 hb hb0 hm hm0 hmm ht c0
  have z0 : ((m : Int) + 1 == 0) = false := by rw [beq_eq_false_iff_ne]; omega
  have q0 : (1 : Int) ≤ (m : Int) + 1 := by omega
  have q1 : (m : Int) + 1 ≤ (c : Int) + 1 := by omega
  have q2 : (1 : Int) < (c : Int) + 1 := by omega
  have q3 : ¬ c = 0 := by omega
  have d0 : w1.cell? ⟨b, 1, none⟩ = some (fnV s.once) := block_cell HM.out.blk
  have d1 : w1.cell? ⟨b, 2, none⟩ = some (fnV s.stay) := block_cell HM.out.blk
  have f0 : ∀ i, w1.frozen? ⟨b, i, none⟩ = false := fun i => block_free HM.out.blk
  have HTK := Lib.hid (show tok (92 :: d :: r) = none by
    subst hd hr2
    simp [tok, hy])
  have p1 : ¬ (m : Int) < 2 := by have := HMM.out; rw [hr2] at this; simp at this; omega
  have p2 : (0 : Int) < (m : Int) := by omega
  have p3 : (1 : Int) < (m : Int) := by omega
  have c1 : w1.cell? ⟨rb, ro + 1, none⟩ = some (.int .i64 x) := by have := HR.out.cell (i := 1) (by have := HMM.out; omega); rw [hr2] at this; exact this
  have c2 : w1.cell? ⟨rb, ro + 1 + 1, none⟩ = some (.int .i64 y) := by have := HR.out.cell (i := 2) (by have := HMM.out; omega); rw [hr2] at this; exact this
  clear hr2
  subst hd
  obtain ⟨v, hv⟩ : ∃ v, hexV x = v := ⟨_, rfl⟩
  obtain ⟨u, hu⟩ : ∃ u, hexV y = u := ⟨_, rfl⟩
  rw [hv] at hx
  rw [hu] at hy
  have HV := Lib.hid hv
  have HU := Lib.hid hu
  clear hv hu
  go_enter Tryd.func41, Tryd.ntmps41
  go_wp2_with fail
  refine (digit_any x _).mono ?_
  rintro e w2 ⟨rfl, rfl⟩
  rw [HV.out]
  go_wp2_with fail
  refine (digit_any y _).mono ?_
  rintro e w2 ⟨rfl, rfl⟩
  rw [HU.out]
  go_wp2
  refine ⟨rfl, HB.out, Nat.le_of_lt hsz, ?_⟩
  rw [HTK.out]
  rfl
set_option maxRecDepth 100000 in
set_option maxHeartbeats 4000000 in
theorem esc_x3 (w0 : World) (rb ro c b : Nat) (s : FS) (so : Option Addr) (no co : Nat) (d : Int) (r : List Int) (lb lo ln lc : Nat) (lf M : Nat → Int) (w : World) (hm30 : r.length < 1000) (hcap : r.length < c) (hr : IsInts w (some ⟨rb, ro, none⟩) (r.length + 1) (gl (d :: r)))
    (hrb : rb < w0.heap.size) (ht : Tabs w0) (hb : Below w0.heap.size w0 w) (hm : FillM w w0.heap.size rb b s so no co) (hli : IsInts w (some ⟨lb, lo, none⟩) ln lf) (hlb : lb < w0.heap.size) (hln : ln < 1073741824) (hlc : ln ≤ lc) (hd : d = 120) (x y : Int) (z : List Int) (hr2 : r = x :: y :: z) (hx : ¬ hexV x < 0) (hy : ¬ hexV y < 0) :
    Calls Tryd.prog 41 #[.pointer (some ⟨b, 0, none⟩), .slice (some ⟨rb, ro, none⟩) (r.length + 1) (c + 1), .slice (some ⟨lb, lo, none⟩) ln lc, .agg (mC M)] w (EscP w0 rb ro (c + 1) b s (d :: r) (lst lf ln) M w) := by
  have c0 := hr.cell (i := 0) (by omega)
  rw [Nat.add_zero] at c0
  obtain ⟨m, hmm⟩ : ∃ m, r.length = m := ⟨_, rfl⟩
  rw [hmm] at hr hm30 hcap ⊢
  have hob := one_new w (.cells (mC M) 23)
  have hw0 := below_new2 w (.cells (mC M) 23)
  have hr0 := hr.later hw0
  have hli0 := hli.later hw0
  have hb0 := hb.trans (hw0.mono hb.size)
  have hm0 := hm.later hw0
  have c0' : (w.alloc (.cells (mC M) 23)).cell? ⟨rb, ro, none⟩ = some (.int .i64 d) := (hw0.cell (p := ⟨rb, ro, none⟩) (by have := hb.size; show rb < w.heap.size; omega)).trans c0
  have hsz : w.heap.size < (w.alloc (.cells (mC M) 23)).heap.size := by simp
  generalize hw : w.alloc (.cells (mC M) 23) = w1 at *
  have HOB := Lib.hid hob
  have HR := Lib.hid hr0
  have HLI := Lib.hid hli0
  have HB := Lib.hid hb0
  have HM := Lib.hid hm0
  have HMM := Lib.hid hmm
  have HT := Lib.hid ht
  clear hob hr0 hr hw0 hli hli0 hb hb0 hm hm0 hmm ht c0
  have z0 : ((m : Int) + 1 == 0) = false := by rw [beq_eq_false_iff_ne]; omega
  have q0 : (1 : Int) ≤ (m : Int) + 1 := by omega
  have q1 : (m : Int) + 1 ≤ (c : Int) + 1 := by omega
  have q2 : (1 : Int) < (c : Int) + 1 := by omega
  have q3 : ¬ c = 0 := by omega
  have d0 : w1.cell? ⟨b, 1, none⟩ = some (fnV s.once) := block_cell HM.out.blk
  have d1 : w1.cell? ⟨b, 2, none⟩ = some (fnV s.stay) := block_cell HM.out.blk
  have f0 : ∀ i, w1.frozen? ⟨b, i, none⟩ = false := fun i => block_free HM.out.blk
  have HTK := Lib.hid (show tok (92 :: d :: r) = some (.give (-1 - 16 * hexV x - hexV y), 4) by
    subst hd hr2
    simp only [tok]
    simp [hx, hy])
  obtain ⟨m2, rfl⟩ : ∃ m2, m = m2 + 2 := ⟨z.length, by have := HMM.out; rw [hr2] at this; simp at this; omega⟩
  obtain ⟨c2, rfl⟩ : ∃ c2, c = c2 + 2 := ⟨c - 2, by omega⟩
  have c1 : w1.cell? ⟨rb, ro + 1, none⟩ = some (.int .i64 x) := by have := HR.out.cell (i := 1) (by omega); rw [hr2] at this; exact this
  have c2' : w1.cell? ⟨rb, ro + 1 + 1, none⟩ = some (.int .i64 y) := by have := HR.out.cell (i := 2) (by omega); rw [hr2] at this; exact this
  have hbx := hexV_le x
  have hby := hexV_le y
  clear hr2
  subst hd
  obtain ⟨v, hv⟩ : ∃ v, hexV x = v := ⟨_, rfl⟩
  obtain ⟨u, hu⟩ : ∃ u, hexV y = u := ⟨_, rfl⟩
  rw [hv] at hx hbx HTK
  rw [hu] at hy hby HTK
  have HV := Lib.hid hv
  have HU := Lib.hid hu
  clear hv hu
  go_enter Tryd.func41, Tryd.ntmps41
  go_wp2_with fail
  refine (digit_any x _).mono ?_
  rintro e w2 ⟨rfl, rfl⟩
  rw [HV.out]
  go_wp2_with fail
  refine (digit_any y _).mono ?_
  rintro e w2 ⟨rfl, rfl⟩
  rw [HU.out]
  have hdx : ∀ w, Calls Tryd.prog 58 #[.int .i64 x] w fun e w' => e = .returned (.int .i64 v) ∧ w = w' := fun w => by have := digit_any x w; rw [HV.out] at this; exact this
  have hdy : ∀ w, Calls Tryd.prog 58 #[.int .i64 y] w fun e w' => e = .returned (.int .i64 u) ∧ w = w' := fun w => by have := digit_any y w; rw [HU.out] at this; exact this
  have HDX := Lib.hid hdx
  have HDY := Lib.hid hdy
  clear hdx hdy
  go_wp2_with fail
  have v1 : IntKind.i64.wrap (16 * v) = 16 * v := IntWalk.i64_in _ (by omega)
  have v2 : IntKind.i64.wrap (-1 - 16 * v) = -1 - 16 * v := IntWalk.i64_in _ (by omega)
  have v3 : IntKind.i64.wrap (-1 - 16 * v - u) = -1 - 16 * v - u := IntWalk.i64_in _ (by omega)
  have hd1 : Below w1.heap.size w1 w1.drew := (Below.refl _ _).drew
  have HMD := Lib.hid (HM.out.later hd1)
  have HBD := Lib.hid (HB.out.trans (hd1.mono HB.out.size))
  have hsd : w1.heap.size = w1.drew.heap.size := rfl
  have HSD := Lib.hid hsd
  clear hd1 hsd
  go_region_law (first
    | (go_simp; go_at_call 58; (with_reducible refine (HDX.out _).mono ?_); rintro e w2 ⟨rfl, rfl⟩)
    | (go_simp; go_at_call 58; (with_reducible refine (HDY.out _).mono ?_); rintro e w2 ⟨rfl, rfl⟩)
    | (go_simp; go_at_call 39; refine (give1_c w0 rb b s so no co _ w1.drew HT.out HBD.out HMD.out hrb).mono ?_; rintro e w3 ⟨rfl, hm3, hb3, hs3⟩; have HM3 := Lib.hid hm3; have HB3 := Lib.hid hb3; have HS3 := Lib.hid hs3; clear hm3 hb3 hs3))
  all_goals
    clear v1 v2 v3
    have p5 : ¬ c2 = 0 := by omega
    have p6 : (2 : Int) ≤ (m2 : Int) + 2 := by omega
    have p7 : (m2 : Int) + 2 ≤ (c2 : Int) + 2 := by omega
    go_wp2
    go_ret
    refine ⟨HB3.out, Nat.le_trans (Nat.le_of_lt hsz) (Nat.le_trans (Nat.le_of_eq HSD.out) HS3.out), ?_⟩
    rw [HTK.out]
    refine ⟨?_, HM3.out⟩
    rw [show (120 :: r).length = m2 + 2 + 1 by simp [HMM.out]]
    rfl
set_option maxRecDepth 100000 in
set_option maxHeartbeats 4000000 in
theorem esc_z (w0 : World) (rb ro cap b : Nat) (s : FS) (lb lo ln lc : Nat) (line : List Int) (M : Nat → Int) (w : World) (hb : Below w0.heap.size w0 w) :
    Calls Tryd.prog 41 #[.pointer (some ⟨b, 0, none⟩), .slice (some ⟨rb, ro, none⟩) 0 cap, .slice (some ⟨lb, lo, none⟩) ln lc, .agg (mC M)] w (EscP w0 rb ro cap b s [] line M w) := by
  have hw0 := below_new2 w (.cells (mC M) 23)
  have hsz : w.heap.size < (w.alloc (.cells (mC M) 23)).heap.size := by simp
  have HB := Lib.hid (hb.trans (hw0.mono hb.size))
  clear hb hw0
  generalize hw : w.alloc (.cells (mC M) 23) = w1 at *
  go_enter Tryd.func41, Tryd.ntmps41
  go_wp2
  exact ⟨rfl, HB.out, Nat.le_of_lt hsz, rfl⟩
/-- what stands behind a backslash -/
theorem esc_c (w0 : World) (rb ro cap b : Nat) (s : FS) (so : Option Addr) (no co : Nat) (l : List Int) (n : Nat) (lb lo ln lc : Nat) (lf M : Nat → Int) (w : World) (hn : l.length = n) (hm30 : n ≤ 1000) (hcap : n < cap) (hr : IsInts w (some ⟨rb, ro, none⟩) n (gl l))
    (hrb : rb < w0.heap.size) (ht : Tabs w0) (hb : Below w0.heap.size w0 w) (hm : FillM w w0.heap.size rb b s so no co) (hli : IsInts w (some ⟨lb, lo, none⟩) ln lf) (hlb : lb < w0.heap.size) (hln : ln < 1073741824) (hlc : ln ≤ lc) :
    Calls Tryd.prog 41 #[.pointer (some ⟨b, 0, none⟩), .slice (some ⟨rb, ro, none⟩) n cap, .slice (some ⟨lb, lo, none⟩) ln lc, .agg (mC M)] w (EscP w0 rb ro cap b s l (lst lf ln) M w) := by
  subst hn
  cases l with
  | nil => exact esc_z w0 rb ro cap b s lb lo ln lc (lst lf ln) M w hb
  | cons d r =>
    obtain ⟨c, rfl⟩ : ∃ c, cap = c + 1 := ⟨cap - 1, by omega⟩
    simp only [List.length_cons] at hm30 hcap hr ⊢
    have h1 : r.length < 1000 := by omega
    have h2 : r.length < c := by omega
    by_cases h110 : d = 110
    · exact esc_g110 w0 rb ro c b s so no co d r lb lo ln lc lf M w h1 h2 hr hrb ht hb hm hli hlb hln hlc h110
    by_cases h114 : d = 114
    · exact esc_g114 w0 rb ro c b s so no co d r lb lo ln lc lf M w h1 h2 hr hrb ht hb hm hli hlb hln hlc h114
    by_cases h116 : d = 116
    · exact esc_g116 w0 rb ro c b s so no co d r lb lo ln lc lf M w h1 h2 hr hrb ht hb hm hli hlb hln hlc h116
    by_cases h101 : d = 101
    · exact esc_g101 w0 rb ro c b s so no co d r lb lo ln lc lf M w h1 h2 hr hrb ht hb hm hli hlb hln hlc h101
    by_cases h117 : d = 117
    · exact esc_s117 w0 rb ro c b s so no co d r lb lo ln lc lf M w h1 h2 hr hrb ht hb hm hli hlb hln hlc h117
    by_cases h108 : d = 108
    · exact esc_s108 w0 rb ro c b s so no co d r lb lo ln lc lf M w h1 h2 hr hrb ht hb hm hli hlb hln hlc h108
    by_cases h85 : d = 85
    · exact esc_s85 w0 rb ro c b s so no co d r lb lo ln lc lf M w h1 h2 hr hrb ht hb hm hli hlb hln hlc h85
    by_cases h76 : d = 76
    · exact esc_s76 w0 rb ro c b s so no co d r lb lo ln lc lf M w h1 h2 hr hrb ht hb hm hli hlb hln hlc h76
    by_cases h69 : d = 69
    · exact esc_s69 w0 rb ro c b s so no co d r lb lo ln lc lf M w h1 h2 hr hrb ht hb hm hli hlb hln hlc h69
    by_cases h120 : d = 120
    · match r, h1, h2, hr with
      | [], h1, h2, hr => exact esc_x0 w0 rb ro c b s so no co d [] lb lo ln lc lf M w h1 h2 hr hrb ht hb hm hli hlb hln hlc h120 (by simp)
      | [x], h1, h2, hr => exact esc_x0 w0 rb ro c b s so no co d [x] lb lo ln lc lf M w h1 h2 hr hrb ht hb hm hli hlb hln hlc h120 (by simp)
      | x :: y :: z, h1, h2, hr =>
        by_cases hx : hexV x < 0
        · exact esc_x1 w0 rb ro c b s so no co d _ lb lo ln lc lf M w h1 h2 hr hrb ht hb hm hli hlb hln hlc h120 x y z rfl hx
        · by_cases hy : hexV y < 0
          · exact esc_x2 w0 rb ro c b s so no co d _ lb lo ln lc lf M w h1 h2 hr hrb ht hb hm hli hlb hln hlc h120 x y z rfl hx hy
          · exact esc_x3 w0 rb ro c b s so no co d _ lb lo ln lc lf M w h1 h2 hr hrb ht hb hm hli hlb hln hlc h120 x y z rfl hx hy
    by_cases hdig : 48 ≤ d ∧ d ≤ 57
    · exact esc_dig w0 rb ro c b s so no co d r lb lo ln lc lf M w h1 h2 hr hrb ht hb hm hli hlb hln hlc hdig.1 hdig.2
    cases hlet : letB d with
    | true => exact esc_let w0 rb ro c b s so no co d r lb lo ln lc lf M w h1 h2 hr hrb ht hb hm hli hlb hln hlc h110 h114 h116 h101 h117 h108 h85 h76 h69 h120 hdig hlet
    | false => exact esc_oth w0 rb ro c b s so no co d r lb lo ln lc lf M w h1 h2 hr hrb ht hb hm hli hlb hln hlc h110 h114 h116 h101 h117 h108 h85 h76 h69 h120 hdig hlet
end Go.Proofs.YtdegdoilpamjjaaDoor
