/- Contract: (*filler).escape, of letters, digits and all else. Condition: as part and give. -/
import Derived.Test.YtdegdoilpamjjaaDoorFh
import Derived.StillTailTactics
import Derived.IntWalk
namespace Go.Proofs.YtdegdoilpamjjaaDoor
open Go.RowKit
set_option linter.unusedVariables false
set_option maxRecDepth 100000 in
set_option maxHeartbeats 4000000 in
theorem esc_let (w0 : World) (rb ro c b : Nat) (s : FS) (so : Option Addr) (no co : Nat) (d : Int) (r : List Int) (lb lo ln lc : Nat) (lf M : Nat → Int) (w : World) (hm30 : r.length < 1000) (hcap : r.length < c) (hr : IsInts w (some ⟨rb, ro, none⟩) (r.length + 1) (gl (d :: r)))
    (hrb : rb < w0.heap.size) (ht : Tabs w0) (hb : Below w0.heap.size w0 w) (hm : FillM w w0.heap.size rb b s so no co) (hli : IsInts w (some ⟨lb, lo, none⟩) ln lf) (hlb : lb < w0.heap.size) (hln : ln < 1073741824) (hlc : ln ≤ lc) (h110 : d ≠ 110) (h114 : d ≠ 114) (h116 : d ≠ 116) (h101 : d ≠ 101) (h117 : d ≠ 117) (h108 : d ≠ 108) (h85 : d ≠ 85) (h76 : d ≠ 76) (h69 : d ≠ 69) (h120 : d ≠ 120) (hdig : ¬ (48 ≤ d ∧ d ≤ 57)) (hlet : letB d = true) :
    Calls Tryd.prog 41 #[.pointer (some ⟨b, 0, none⟩), .slice (some ⟨rb, ro, none⟩) (r.length + 1) (c + 1), .slice (some ⟨lb, lo, none⟩) ln lc, .agg (mC M)] w (EscP w0 rb ro (c + 1) b s (d :: r) (lst lf ln) M w) := by
  have c0 := hr.cell (i := 0) (by omega)
  rw [Nat.add_zero] at c0
  obtain ⟨m, hmm⟩ : ∃ m, r.length = m := ⟨_, rfl⟩
  rw [hmm] at hr hm30 hcap ⊢
  have hob := one_new w (.cells (mC M) 23)
  have hw0 := below_new2 w (.cells (mC M) 23)
  have hr0 := hr.later hw0
  have hli0 := hli.later hw0
  have hb0 := hb.trans (hw0.mono hb.size)
  have hm0 := hm.later hw0
  have c0' : (w.alloc (.cells (mC M) 23)).cell? ⟨rb, ro, none⟩ = some (.int .i64 d) := (hw0.cell (p := ⟨rb, ro, none⟩) (by have := hb.size; show rb < w.heap.size; omega)).trans c0
  have hsz : w.heap.size < (w.alloc (.cells (mC M) 23)).heap.size := by simp
  generalize hw : w.alloc (.cells (mC M) 23) = w1 at *
  have HOB := Lib.hid hob
  have HR := Lib.hid hr0
  have HLI := Lib.hid hli0
  have HB := Lib.hid hb0
  have HM := Lib.hid hm0
  have HMM := Lib.hid hmm
  have HT := Lib.hid ht
  clear hob hr0 hr hw0 hli hli0 hb hb0 hm hm0 hmm ht c0
  have z0 : ((m : Int) + 1 == 0) = false := by rw [beq_eq_false_iff_ne]; omega
  have q0 : (1 : Int) ≤ (m : Int) + 1 := by omega
  have q1 : (m : Int) + 1 ≤ (c : Int) + 1 := by omega
  have q2 : (1 : Int) < (c : Int) + 1 := by omega
  have q3 : ¬ c = 0 := by omega
  have d0 : w1.cell? ⟨b, 1, none⟩ = some (fnV s.once) := block_cell HM.out.blk
  have d1 : w1.cell? ⟨b, 2, none⟩ = some (fnV s.stay) := block_cell HM.out.blk
  have f0 : ∀ i, w1.frozen? ⟨b, i, none⟩ = false := fun i => block_free HM.out.blk
  have n110 : (d == 110) = false := by rw [beq_eq_false_iff_ne]; omega
  have n114 : (d == 114) = false := by rw [beq_eq_false_iff_ne]; omega
  have n116 : (d == 116) = false := by rw [beq_eq_false_iff_ne]; omega
  have n101 : (d == 101) = false := by rw [beq_eq_false_iff_ne]; omega
  have n117 : (d == 117) = false := by rw [beq_eq_false_iff_ne]; omega
  have n108 : (d == 108) = false := by rw [beq_eq_false_iff_ne]; omega
  have n85 : (d == 85) = false := by rw [beq_eq_false_iff_ne]; omega
  have n76 : (d == 76) = false := by rw [beq_eq_false_iff_ne]; omega
  have n69 : (d == 69) = false := by rw [beq_eq_false_iff_ne]; omega
  have n120 : (d == 120) = false := by rw [beq_eq_false_iff_ne]; omega
  have HTK := Lib.hid (show tok (92 :: d :: r) = none by simp [tok, escT, hdig, hlet, h110, h114, h116, h101, h117, h108, h85, h76, h69, h120])
  have HL := Lib.hid hlet
  have hd2 : ¬ 48 ≤ d ∨ ¬ d ≤ 57 := by omega
  clear hlet hdig h110 h114 h116 h101 h117 h108 h85 h76 h69 h120
  go_enter Tryd.func41, Tryd.ntmps41
  rcases hd2 with h1 | h1
  all_goals
    go_wp2_with fail
    refine (isletter_any d _).mono ?_
    rintro e w2 ⟨rfl, rfl⟩
    rw [HL.out]
    go_wp2
    refine ⟨rfl, HB.out, Nat.le_of_lt hsz, ?_⟩
    rw [HTK.out]
    rfl
set_option maxRecDepth 100000 in
set_option maxHeartbeats 4000000 in
theorem esc_oth (w0 : World) (rb ro c b : Nat) (s : FS) (so : Option Addr) (no co : Nat) (d : Int) (r : List Int) (lb lo ln lc : Nat) (lf M : Nat → Int) (w : World) (hm30 : r.length < 1000) (hcap : r.length < c) (hr : IsInts w (some ⟨rb, ro, none⟩) (r.length + 1) (gl (d :: r)))
    (hrb : rb < w0.heap.size) (ht : Tabs w0) (hb : Below w0.heap.size w0 w) (hm : FillM w w0.heap.size rb b s so no co) (hli : IsInts w (some ⟨lb, lo, none⟩) ln lf) (hlb : lb < w0.heap.size) (hln : ln < 1073741824) (hlc : ln ≤ lc) (h110 : d ≠ 110) (h114 : d ≠ 114) (h116 : d ≠ 116) (h101 : d ≠ 101) (h117 : d ≠ 117) (h108 : d ≠ 108) (h85 : d ≠ 85) (h76 : d ≠ 76) (h69 : d ≠ 69) (h120 : d ≠ 120) (hdig : ¬ (48 ≤ d ∧ d ≤ 57)) (hlet : letB d = false) :
    Calls Tryd.prog 41 #[.pointer (some ⟨b, 0, none⟩), .slice (some ⟨rb, ro, none⟩) (r.length + 1) (c + 1), .slice (some ⟨lb, lo, none⟩) ln lc, .agg (mC M)] w (EscP w0 rb ro (c + 1) b s (d :: r) (lst lf ln) M w) := by
  have c0 := hr.cell (i := 0) (by omega)
  rw [Nat.add_zero] at c0
  obtain ⟨m, hmm⟩ : ∃ m, r.length = m := ⟨_, rfl⟩
  rw [hmm] at hr hm30 hcap ⊢
  have hob := one_new w (.cells (mC M) 23)
  have hw0 := below_new2 w (.cells (mC M) 23)
  have hr0 := hr.later hw0
  have hli0 := hli.later hw0
  have hb0 := hb.trans (hw0.mono hb.size)
  have hm0 := hm.later hw0
  have c0' : (w.alloc (.cells (mC M) 23)).cell? ⟨rb, ro, none⟩ = some (.int .i64 d) := (hw0.cell (p := ⟨rb, ro, none⟩) (by have := hb.size; show rb < w.heap.size; omega)).trans c0
  have hsz : w.heap.size < (w.alloc (.cells (mC M) 23)).heap.size := by simp
  generalize hw : w.alloc (.cells (mC M) 23) = w1 at *
  have HOB := Lib.hid hob
  have HR := Lib.hid hr0
  have HLI := Lib.hid hli0
  have HB := Lib.hid hb0
  have HM := Lib.hid hm0
  have HMM := Lib.hid hmm
  have HT := Lib.hid ht
  clear hob hr0 hr hw0 hli hli0 hb hb0 hm hm0 hmm ht c0
  have z0 : ((m : Int) + 1 == 0) = false := by rw [beq_eq_false_iff_ne]; omega
  have q0 : (1 : Int) ≤ (m : Int) + 1 := by omega
  have q1 : (m : Int) + 1 ≤ (c : Int) + 1 := by omega
  have q2 : (1 : Int) < (c : Int) + 1 := by omega
  have q3 : ¬ c = 0 := by omega
  have d0 : w1.cell? ⟨b, 1, none⟩ = some (fnV s.once) := block_cell HM.out.blk
  have d1 : w1.cell? ⟨b, 2, none⟩ = some (fnV s.stay) := block_cell HM.out.blk
  have f0 : ∀ i, w1.frozen? ⟨b, i, none⟩ = false := fun i => block_free HM.out.blk
  have n110 : (d == 110) = false := by rw [beq_eq_false_iff_ne]; omega
  have n114 : (d == 114) = false := by rw [beq_eq_false_iff_ne]; omega
  have n116 : (d == 116) = false := by rw [beq_eq_false_iff_ne]; omega
  have n101 : (d == 101) = false := by rw [beq_eq_false_iff_ne]; omega
  have n117 : (d == 117) = false := by rw [beq_eq_false_iff_ne]; omega
  have n108 : (d == 108) = false := by rw [beq_eq_false_iff_ne]; omega
  have n85 : (d == 85) = false := by rw [beq_eq_false_iff_ne]; omega
  have n76 : (d == 76) = false := by rw [beq_eq_false_iff_ne]; omega
  have n69 : (d == 69) = false := by rw [beq_eq_false_iff_ne]; omega
  have n120 : (d == 120) = false := by rw [beq_eq_false_iff_ne]; omega
  have HTK := Lib.hid (show escT d = some (.give d) by simp [escT, hdig, hlet, h110, h114, h116, h101, h117, h108, h85, h76, h69])
  have HNX := Lib.hid h120
  have HL := Lib.hid hlet
  have hd2 : ¬ 48 ≤ d ∨ ¬ d ≤ 57 := by omega
  clear hlet hdig h110 h114 h116 h101 h117 h108 h85 h76 h69 h120
  go_enter Tryd.func41, Tryd.ntmps41
  rcases hd2 with h1 | h1
  all_goals
    go_wp2_with fail
    refine (isletter_any d _).mono ?_
    rintro e w2 ⟨rfl, rfl⟩
    rw [HL.out]
    go_wp2_with (first | (go_at_call 39; refine (give1_c w0 rb b s so no co _ w1 HT.out HB.out HM.out hrb).mono ?_; rintro e w2 ⟨rfl, hm2, hb2, hs2⟩; have HM2 := Lib.hid hm2; have HB2 := Lib.hid hb2; have HS2 := Lib.hid hs2; clear hm2 hb2 hs2))
    go_ret
    exact EscP.tok2 (t := .give d) rfl HNX.out HTK.out HB2.out (by have := HS2.out; omega) HM2.out (by simp [HMM.out]) rfl
set_option maxRecDepth 100000 in
set_option maxHeartbeats 4000000 in
theorem esc_dig (w0 : World) (rb ro c b : Nat) (s : FS) (so : Option Addr) (no co : Nat) (d : Int) (r : List Int) (lb lo ln lc : Nat) (lf M : Nat → Int) (w : World) (hm30 : r.length < 1000) (hcap : r.length < c) (hr : IsInts w (some ⟨rb, ro, none⟩) (r.length + 1) (gl (d :: r)))
    (hrb : rb < w0.heap.size) (ht : Tabs w0) (hb : Below w0.heap.size w0 w) (hm : FillM w w0.heap.size rb b s so no co) (hli : IsInts w (some ⟨lb, lo, none⟩) ln lf) (hlb : lb < w0.heap.size) (hln : ln < 1073741824) (hlc : ln ≤ lc) (h1 : 48 ≤ d) (h2 : d ≤ 57) :
    Calls Tryd.prog 41 #[.pointer (some ⟨b, 0, none⟩), .slice (some ⟨rb, ro, none⟩) (r.length + 1) (c + 1), .slice (some ⟨lb, lo, none⟩) ln lc, .agg (mC M)] w (EscP w0 rb ro (c + 1) b s (d :: r) (lst lf ln) M w) := by
  have c0 := hr.cell (i := 0) (by omega)
  rw [Nat.add_zero] at c0
  obtain ⟨m, hmm⟩ : ∃ m, r.length = m := ⟨_, rfl⟩
  rw [hmm] at hr hm30 hcap ⊢
  have hob := one_new w (.cells (mC M) 23)
  have hw0 := below_new2 w (.cells (mC M) 23)
  have hr0 := hr.later hw0
  have hli0 := hli.later hw0
  have hb0 := hb.trans (hw0.mono hb.size)
  have hm0 := hm.later hw0
  have c0' : (w.alloc (.cells (mC M) 23)).cell? ⟨rb, ro, none⟩ = some (.int .i64 d) := (hw0.cell (p := ⟨rb, ro, none⟩) (by have := hb.size; show rb < w.heap.size; omega)).trans c0
  have hsz : w.heap.size < (w.alloc (.cells (mC M) 23)).heap.size := by simp
  generalize hw : w.alloc (.cells (mC M) 23) = w1 at *
  have HOB := Lib.hid hob
  have HR := Lib.hid hr0
  have HLI := Lib.hid hli0
  have HB := Lib.hid hb0
  have HM := Lib.hid hm0
  have HMM := Lib.hid hmm
  have HT := Lib.hid ht
  clear hob hr0 hr hw0 hli hli0 hb hb0 hm hm0 hmm ht c0
  have z0 : ((m : Int) + 1 == 0) = false := by rw [beq_eq_false_iff_ne]; omega
  have q0 : (1 : Int) ≤ (m : Int) + 1 := by omega
  have q1 : (m : Int) + 1 ≤ (c : Int) + 1 := by omega
  have q2 : (1 : Int) < (c : Int) + 1 := by omega
  have q3 : ¬ c = 0 := by omega
  have d0 : w1.cell? ⟨b, 1, none⟩ = some (fnV s.once) := block_cell HM.out.blk
  have d1 : w1.cell? ⟨b, 2, none⟩ = some (fnV s.stay) := block_cell HM.out.blk
  have f0 : ∀ i, w1.frozen? ⟨b, i, none⟩ = false := fun i => block_free HM.out.blk
  have n110 : (d == 110) = false := by rw [beq_eq_false_iff_ne]; omega
  have n114 : (d == 114) = false := by rw [beq_eq_false_iff_ne]; omega
  have n116 : (d == 116) = false := by rw [beq_eq_false_iff_ne]; omega
  have n101 : (d == 101) = false := by rw [beq_eq_false_iff_ne]; omega
  have n117 : (d == 117) = false := by rw [beq_eq_false_iff_ne]; omega
  have n108 : (d == 108) = false := by rw [beq_eq_false_iff_ne]; omega
  have n85 : (d == 85) = false := by rw [beq_eq_false_iff_ne]; omega
  have n76 : (d == 76) = false := by rw [beq_eq_false_iff_ne]; omega
  have n69 : (d == 69) = false := by rw [beq_eq_false_iff_ne]; omega
  have n120 : (d == 120) = false := by rw [beq_eq_false_iff_ne]; omega
  obtain ⟨g, hg⟩ : ∃ g : Nat, d - 48 = (g : Int) := ⟨(d - 48).toNat, by omega⟩
  have hg9 : g < 10 := by omega
  have HTK := Lib.hid (show escT d = some (.group g) by simp only [escT]; rw [if_pos ⟨h1, h2⟩, hg]; rfl)
  have HNX := Lib.hid (show d ≠ 120 by omega)
  have k0 : w1.cell? ⟨w.heap.size, 2 * g, none⟩ = some (.int .i64 (M (2 * g))) := (block_cell HOB.out).trans (mC_at M _ (by omega))
  have k1 : w1.cell? ⟨w.heap.size, 2 * g + 1, none⟩ = some (.int .i64 (M (2 * g + 1))) := (block_cell HOB.out).trans (mC_at M _ (by omega))
  have w2g : IntKind.i64.wrap (2 * (g : Int)) = 2 * (g : Int) := IntWalk.i64_in _ (by omega)
  have w2h : IntKind.i64.wrap (2 * (g : Int) + 1) = 2 * (g : Int) + 1 := IntWalk.i64_in _ (by omega)
  have HG := Lib.hid hg
  have HG9 := Lib.hid hg9
  have hg' : IntKind.i64.wrap (d - 48) = (g : Int) := by rw [IntWalk.i64_in _ (by omega)]; exact hg
  have i0 : (0 : Int) ≤ 2 * (g : Int) := by omega
  have i1 : 2 * (g : Int) < 20 := by omega
  have i2 : (2 * (g : Int)).toNat = 2 * g := by omega
  have i3 : (0 : Int) ≤ 2 * (g : Int) + 1 := by omega
  have i4 : 2 * (g : Int) + 1 < 20 := by omega
  have i5 : (2 * (g : Int) + 1).toNat = 2 * g + 1 := by omega
  clear hg hg9
  go_enter Tryd.func41, Tryd.ntmps41
  go_wp2_with fail
  have hlb1 : lb < w1.heap.size := by have := HB.out.size; omega
  have hd1 : Below w1.heap.size w1 w1.drew := (Below.refl _ _).drew
  have HLD := Lib.hid (HLI.out.later hd1)
  have HMD := Lib.hid (HM.out.later hd1)
  have HBD := Lib.hid (HB.out.trans (hd1.mono HB.out.size))
  clear hd1
  go_region_law (first
    | (go_simp; go_at_call 40; refine (part_c (some ⟨lb, lo, none⟩) ln lc lf (M (2 * g)) (M (2 * g + 1)) _ hln hlc HLD.out).mono ?_; rintro e w2 ⟨rfl, s', m', c', rfl, hm', hsb, h', hi', hl'⟩; have HM' := Lib.hid hm'; have HSB := Lib.hid hsb; have HI' := Lib.hid hi'; have HL' := Lib.hid hl'; clear hm' hsb hi' hl')
    | (go_simp; go_at_call 39; refine (give_c w0 lb b s so no co s' m' c' h' _ (by have := HM'.out; omega) HT.out HBD.out (HMD.out.re lb (.inl hlb)) hlb1 HI'.out (fun a ha => by obtain ⟨a', h1, h2⟩ := HSB.out a ha; cases h1; exact h2)).mono ?_; rintro e w3 ⟨rfl, hm3, hb3, hs3⟩; have HM3 := Lib.hid hm3; have HB3 := Lib.hid hb3; have HS3 := Lib.hid hs3; clear hm3 hb3 hs3))
  all_goals
    go_wp2
    go_ret
    have hm4 : ∃ so no co, FillM w3 w0.heap.size rb b (execP (lst lf ln) M s (.group g)) so no co := by
      obtain ⟨so', no', co', h⟩ := HM3.out
      refine ⟨so', no', co', ?_⟩
      rw [HL'.out] at h
      exact h.re rb (.inl hrb)
    exact EscP.tok2 rfl HNX.out HTK.out HB3.out (Nat.le_trans (Nat.le_of_lt hsz) HS3.out) hm4 (by simp [HMM.out]) rfl
end Go.Proofs.YtdegdoilpamjjaaDoor
