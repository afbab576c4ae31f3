/- Contracts: cluster.apart, hangul, (*scan).note, takes, begin. No condition. -/
import Derived.Test.YtpipcmbfdcbboaaCa
import Derived.Test.YtpipcmbfdcbboaaGe
import Derived.Deep.Light
import Derived.Deep.CutBlock
import Derived.Laws.Rows
import Derived.Deep.DeepCutAuto
namespace Go.Proofs.Ytpipcmbfdcbboaa
open Go.RowKit
/-- block b holds a scan -/
def IsScan (w : World) (b : Nat) (s : Sc) : Prop := w.heap[b]? = some (.cells #[.int .i64 s.last, .int .i64 s.flags, .int .i64 s.pict, .int .i64 s.conj] 52 (0, 0))
theorem heap_lt {w : World} {g : Nat} {o : Obj} (h : w.heap[g]? = some o) : g < w.heap.size := by
  refine Classical.byContradiction fun hn => ?_
  rw [Array.getElem?_eq_none (by omega)] at h; cases h
theorem IsScan.below {w w1 : World} {b : Nat} {s : Sc} (h : IsScan w b s) (hb : Below w.heap.size w w1) : IsScan w1 b s := (hb.block b (heap_lt h)).trans h
theorem block_cell {w : World} {b i : Nat} {c : Array Value} {t : TypeId} (h : w.heap[b]? = some (.cells c t (0, 0))) : w.cell? ⟨b, i, none⟩ = c[i]? := by simp [World.cell?, h]
theorem block_free {w : World} {b i : Nat} {c : Array Value} {t : TypeId} (h : w.heap[b]? = some (.cells c t (0, 0))) : w.frozen? ⟨b, i, none⟩ = false := by simp [World.frozen?, h]
theorem block_set {w : World} {b i : Nat} {c : Array Value} {t : TypeId} {f : Nat × Nat} (v : Value) (h : w.heap[b]? = some (.cells c t f)) : (w.setCell ⟨b, i, none⟩ v).heap[b]? = some (.cells (c.setIfInBounds i v) t f) := by
  show (w.heap.modify b _)[b]? = _
  rw [Array.getElem?_modify, if_pos rfl, h]; rfl
theorem IsScan.facts {w : World} {b : Nat} {s : Sc} (h : IsScan w b s) :
    (w.cell? ⟨b, 0, none⟩ = some (.int .i64 s.last) ∧ w.cell? ⟨b, 1, none⟩ = some (.int .i64 s.flags) ∧ w.cell? ⟨b, 2, none⟩ = some (.int .i64 s.pict) ∧ w.cell? ⟨b, 3, none⟩ = some (.int .i64 s.conj)) ∧
    (w.frozen? ⟨b, 0, none⟩ = false ∧ w.frozen? ⟨b, 1, none⟩ = false ∧ w.frozen? ⟨b, 2, none⟩ = false ∧ w.frozen? ⟨b, 3, none⟩ = false) :=
  ⟨⟨block_cell h, block_cell h, block_cell h, block_cell h⟩, ⟨block_free h, block_free h, block_free h, block_free h⟩⟩
theorem IsScan.as {w : World} {b : Nat} {s s' : Sc} (h : IsScan w b s) (e : s = s') : IsScan w b s' := e ▸ h
theorem below_set {b : Nat} {w w1 : World} (h : Below b w w1) (i : Nat) (v : Value) : Below b w (w1.setCell ⟨b, i, none⟩ v) := h.setCell (Nat.le_refl _) _
theorem two_new (w : World) (o p : Obj) : ((w.alloc o).alloc p).heap[w.heap.size]? = some o ∧ ((w.alloc o).alloc p).heap[w.heap.size + 1]? = some p := by
  constructor
  · show ((w.heap.push o).push p)[w.heap.size]? = _
    simp [Array.getElem?_push]
  · show ((w.heap.push o).push p)[w.heap.size + 1]? = _
    rw [Array.getElem?_push, if_pos (by simp)]
theorem scan_last {w : World} {b : Nat} {s : Sc} (h : IsScan w b s) (l : Int) : IsScan (w.setCell ⟨b, 0, none⟩ (.int .i64 l)) b ⟨l, s.flags, s.pict, s.conj⟩ := block_set _ h
theorem scan_flags {w : World} {b : Nat} {s : Sc} (h : IsScan w b s) (l : Int) : IsScan (w.setCell ⟨b, 1, none⟩ (.int .i64 l)) b ⟨s.last, l, s.pict, s.conj⟩ := block_set _ h
theorem scan_pict {w : World} {b : Nat} {s : Sc} (h : IsScan w b s) (l : Int) : IsScan (w.setCell ⟨b, 2, none⟩ (.int .i64 l)) b ⟨s.last, s.flags, l, s.conj⟩ := block_set _ h
theorem scan_conj {w : World} {b : Nat} {s : Sc} (h : IsScan w b s) (l : Int) : IsScan (w.setCell ⟨b, 3, none⟩ (.int .i64 l)) b ⟨s.last, s.flags, s.pict, l⟩ := block_set _ h
theorem scan_set {w : World} {b : Nat} {s : Sc} (h : IsScan w b s) (l f p c : Int) :
    IsScan ((((w.setCell ⟨b, 0, none⟩ (.int .i64 l)).setCell ⟨b, 1, none⟩ (.int .i64 f)).setCell ⟨b, 2, none⟩ (.int .i64 p)).setCell ⟨b, 3, none⟩ (.int .i64 c)) b ⟨l, f, p, c⟩ :=
  block_set _ (block_set _ (block_set _ (block_set _ h)))
set_option maxHeartbeats 1000000 in
theorem apart_any (c : Int) (w : World) :
    Calls Try.prog 53 #[.int .i64 c] w fun e w' => e = .returned (.bool (apartB c)) ∧ w = w' := by
  go_enter Try.func53, Try.ntmps53
  go_wp2
  all_goals
    go_ret
    exact ⟨ret_bool (by unfold apartB; rw [Bool.eq_iff_iff]; simp; omega), rfl⟩
set_option maxRecDepth 100000 in
set_option maxHeartbeats 8000000 in
theorem note_any (b : Nat) (s : Sc) (c p : Int) (w : World) (h : IsScan w b s) (hf : 0 ≤ s.flags) (hf' : s.flags < 9223372036854775807) :
    Calls Try.prog 60 #[.pointer (some ⟨b, 0, none⟩), .int .i64 c, .int .i64 p] w fun e w' => e = .returned (.tuple #[]) ∧ IsScan w' b (noteF s c p) ∧ Below b w w' := by
  obtain ⟨l, fl, pi, co⟩ := s
  simp only at hf hf'
  have HS := Lib.hid h
  have HB := Lib.hid (Below.refl b w)
  clear h
  obtain ⟨⟨c0, c1, c2, c3⟩, ⟨f0, f1, f2, f3⟩⟩ := HS.out.facts
  simp only at c0 c1 c2 c3
  go_enter Try.func60, Try.ntmps60
  go_upto_if 11 with fail
  go_cut [] (fun wx => IsScan wx b ⟨c, (if c = 6 then fl + 1 else 0), pi, co⟩ ∧ Below b w wx)
  case first =>
    go_wp2
    all_goals
      go_meet
      refine ⟨?_, ?_⟩
      · go_light
        first
          | ((with_reducible refine IsScan.as (scan_flags (scan_last HS.out _) _) ?_))
          | ((with_reducible refine IsScan.as HS.out ?_))
        clear HS HB c0 c1 c2 c3 f0 f1 f2 f3
        simp_all
      · repeat (first | exact HB.out | refine below_set ?_ _ _)
  case rest =>
    obtain ⟨h1, h2⟩ := hcut
    generalize hfe : (if c = 6 then fl + 1 else 0) = fl1 at h1
    have HFE := Lib.hid hfe
    clear HS HB c0 c1 c2 c3 f0 f1 f2 f3 hfe
    have HS := Lib.hid h1
    have HB := Lib.hid h2
    clear h1 h2
    obtain ⟨⟨c0, c1, c2, c3⟩, ⟨f0, f1, f2, f3⟩⟩ := HS.out.facts
    simp only at c0 c1 c2 c3
    go_upto_block 0 with fail
    go_cut [] (fun wx => IsScan wx b ⟨c, fl1, (if c = 14 then 1 else if pi = 1 ∧ c = 5 then 2 else if pi = 1 ∧ c = 4 then pi else 0), co⟩ ∧ Below b w wx)
    case first =>
      go_wp2
      all_goals
        go_meet
        refine ⟨?_, ?_⟩
        · go_light
          first
            | ((with_reducible refine IsScan.as (scan_pict HS.out _) ?_))
            | ((with_reducible refine IsScan.as HS.out ?_))
          clear HS HB c0 c1 c2 c3 f0 f1 f2 f3
          simp_all
        · repeat (first | exact HB.out | refine below_set ?_ _ _)
    case rest =>
      obtain ⟨h1, h2⟩ := hcut
      generalize hpe : (if c = 14 then 1 else if pi = 1 ∧ c = 5 then 2 else if pi = 1 ∧ c = 4 then pi else 0) = pi1 at h1
      have HPE := Lib.hid hpe
      clear HS HB c0 c1 c2 c3 f0 f1 f2 f3 hpe
      have HS := Lib.hid h1
      have HB := Lib.hid h2
      clear h1 h2
      obtain ⟨⟨c0, c1, c2, c3⟩, ⟨f0, f1, f2, f3⟩⟩ := HS.out.facts
      simp only at c0 c1 c2 c3
      go_wp2
      all_goals
        go_end0
        refine ⟨rfl, ?_, ?_⟩
        · go_light
          first
            | ((with_reducible refine IsScan.as (scan_conj HS.out _) ?_))
            | ((with_reducible refine IsScan.as HS.out ?_))
          clear HS HB c0 c1 c2 c3 f0 f1 f2 f3
          unfold noteF
          rw [HFE.out, HPE.out]
          simp_all
          try (rw [if_neg (by omega), if_neg (by omega)])
        · repeat (first | exact HB.out | refine below_set ?_ _ _)
set_option maxHeartbeats 2000000 in
theorem hangul_any (l r : Int) (w : World) :
    Calls Try.prog 62 #[.int .i64 l, .int .i64 r] w fun e w' => e = .returned (.bool (hangulB l r)) ∧ w = w' := by
  go_enter Try.func62, Try.ntmps62
  go_wp2
  all_goals
    go_ret
    refine ⟨ret_bool ?_, rfl⟩
    go_light
    unfold hangulB
    rw [Bool.eq_iff_iff]
    simp_all
    try omega
set_option maxHeartbeats 2000000 in
theorem begin_any (a : Int) (w : World) :
    Calls Try.prog 45 #[.int .i64 a] w fun e w' => e = .returned (.agg #[.int .i64 (beginF a).last, .int .i64 (beginF a).flags, .int .i64 (beginF a).pict, .int .i64 (beginF a).conj]) ∧ Below w.heap.size w w' := by
  go_enter Try.func45, Try.ntmps45
  go_wp2_with fail
  refine (class_any _ _).mono ?_
  rintro e w1 ⟨rfl, hb1⟩
  have i1 : IsScan w1 (w.heap.size + 1) ⟨0, 0, 0, 0⟩ := IsScan.below (two_new w _ _).2 hb1
  have j1 : IsScan w1 w.heap.size ⟨0, 0, 0, 0⟩ := IsScan.below (two_new w _ _).1 hb1
  have b1 : Below w.heap.size w w1 := (((Below.refl _ _).alloc (Nat.le_refl _) _).alloc (by simp) _).trans (hb1.mono (by simp; omega))
  have I1 := Lib.hid i1
  have J1 := Lib.hid j1
  have B1 := Lib.hid b1
  clear i1 j1 b1 hb1
  go_wp2_with fail
  refine (conj_any _ _).mono ?_
  rintro e w2 ⟨rfl, hb2⟩
  have I2 := Lib.hid (I1.out.below hb2)
  have J2 := Lib.hid (J1.out.below hb2)
  have B2 := Lib.hid (bt B1.out hb2)
  clear I1 J1 B1 hb2
  go_wp2_with fail
  refine (note_any _ _ _ _ _ I2.out (by decide) (by decide)).mono ?_
  rintro e w3 ⟨rfl, i3, hb3⟩
  change IsScan w3 (w.heap.size + 1) (beginF a) at i3
  have j3 : IsScan w3 w.heap.size ⟨0, 0, 0, 0⟩ := (hb3.block w.heap.size (by omega)).trans J2.out
  have J3 := Lib.hid j3
  have B3 := Lib.hid (B2.out.trans (hb3.mono (by omega)))
  obtain ⟨⟨c0, c1, c2, c3⟩, _⟩ := i3.facts
  obtain ⟨_, ⟨f0, f1, f2, f3⟩⟩ := J3.out.facts
  obtain ⟨⟨d0, d1, d2, d3⟩, _⟩ := J3.out.facts
  clear I2 J2 B2 hb3 i3 j3
  go_wp2
  refine bodyPost_ret (v := .agg #[.int .i64 (beginF a).last, .int .i64 (beginF a).flags, .int .i64 (beginF a).pict, .int .i64 (beginF a).conj]) ?_ rfl ⟨rfl, ?_⟩
  · exact results_cell_row (by rfl) _ _ _ _ _ _ _ (by rfl) (scan_set J3.out _ _ _ _) Try.underlying52 rfl (by kernel_rfl)
  · exact below_set (below_set (below_set (below_set B3.out _ _) _ _) _ _) _ _
end Go.Proofs.Ytpipcmbfdcbboaa
