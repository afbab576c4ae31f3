/- Contracts: commands compared; try of Spell. Condition: fewer than 2^31 keys. -/
import Derived.Test.YtampjndfhpjheaaSe
import Derived.Test.YtampjndfhpjheaaZa
import Derived.Test.YtampjndfhpjheaaYy
import Derived.Laws.StructEq
namespace Go.Proofs.Ytampjndfhpjheaa
open Go.RowKit
set_option linter.unusedVariables false
theorem eq_cmd (a b : Cmd) (w : World) : (Op.equalIn 10000 44 (.agg a.cells) (.agg b.cells)).run Try.prog w = .ok (decide (a = b)) w := by
  have u3 := Try.underlying3
  have a3 := Try.isAgg3
  have z3 := Try.sizeOf3
  have hS : Try.prog.underlying 44 = some (.struct (Try.prog.fieldsOf 44)) := by kernel_rfl
  have hp : Try.prog.stoodInHeld 44 = false := by kernel_rfl
  rw [show (10000 : Nat) = 9999 + 1 from rfl, run_equalIn_agg w 9999 44 _ _ hS hp]
  simp only [Program.fieldsOf, Try.underlying44, Cmd.cells]
  go_simp
  obtain ⟨a1, a2, a3, a4, a5⟩ := a
  obtain ⟨b1, b2, b3, b4, b5⟩ := b
  simp only [Cmd.eq_iff]
  by_cases h1 : a1 = b1 <;> by_cases h2 : a2 = b2 <;> by_cases h3 : a3 = b3 <;> by_cases h4 : a4 = b4 <;> by_cases h5 : a5 = b5 <;> simp [h1, h2, h3, h4, h5]
theorem eql_cmd (a b : Cmd) (w : World) : (binOp .eql 44 (.agg a.cells) (.agg b.cells)).run Try.prog w = .ok (.bool (decide (a = b))) w := by
  rw [run_eql_struct, eq_cmd]
  rfl
theorem neq_cmd (a b : Cmd) (w : World) : (binOp .neq 44 (.agg a.cells) (.agg b.cells)).run Try.prog w = .ok (.bool (!decide (a = b))) w := by
  rw [run_neq_struct, eq_cmd]
  rfl
theorem set5_at {w : World} {b : Nat} (h : w.heap[b]? = some (.cells #[.int .i64 0, .int .i64 0, .int .i64 0, .int .i64 0, .int .i64 0] 44 (0, 0))) (x : Cmd) : (set5 w b x).heap[b]? = some (.cells x.cells 44 (0, 0)) := by
  unfold set5
  rw [block_set _ (block_set _ (block_set _ (block_set _ (block_set _ h))))]
  rfl
theorem cmd_fin1 {w wA w5 : World} (hA : Below w.heap.size w wA) (h5 : Below wA.drew.heap.size wA.drew w5) (hk : w5.heap[w.heap.size]? = some (.cells #[.int .i64 0, .int .i64 0, .int .i64 0, .int .i64 0, .int .i64 0] 44 (0, 0))) (x : Cmd) :
    (set5 w5 w.heap.size x).heap[w.heap.size]? = some (.cells x.cells 44 (0, 0)) ∧ Below w.heap.size w (set5 w5 w.heap.size x) := by
  have h1 : Below w.heap.size w w5 := hA.drew.trans (h5.mono hA.drew.size)
  exact ⟨set5_at hk x, set5_below h1 x⟩
theorem cmd_fin2 {w w5 : World} (h5 : Below w.drew.heap.size w.drew w5) (x : Cmd) :
    (w5.alloc (.cells x.cells 44)).heap[w5.heap.size]? = some (.cells x.cells 44 (0, 0)) ∧ Below w.heap.size w (w5.alloc (.cells x.cells 44)) :=
  ⟨one_new w5 _, (((Below.refl w.heap.size w).drew).trans h5).alloc (((Below.refl w.heap.size w).drew).trans h5).size _⟩
def tryG (c : Cmd) (best : Option (List Int)) (keys : List Int) (r : Nat × Cmd) : Option (List Int) :=
  if r ≠ (1, c) then best
  else match best with
    | none => some keys
    | some b => if betterB keys b then some keys else some b
theorem tryP_go {sel : Bool} {c : Cmd} {best : Option (List Int)} {keys : List Int} (h : keys.contains 27 = false) : tryP sel c best keys = tryG c best keys (readP sel keys) := by
  unfold tryP tryG
  rw [h]
  exact if_neg (by decide)
theorem tryP_esc {sel : Bool} {c : Cmd} {best : Option (List Int)} {keys : List Int} (h : keys.contains 27 = true) : tryP sel c best keys = best := by
  unfold tryP
  rw [h]
  exact if_pos rfl
theorem lexP_less : ∀ (l m : List Int), decide (lexP l m < 0) = lessP l m
  | [], [] => rfl
  | [], _ :: _ => rfl
  | _ :: _, [] => rfl
  | x :: s, y :: t => by
    have ih := lexP_less s t
    simp only [lexP, lessP, cmpP]
    by_cases h1 : x < y
    · have h2 : ¬ x = y := by omega
      simp [h1, h2]
    · by_cases h2 : y < x
      · have h3 : ¬ x = y := by omega
        simp [h1, h2, h3]
      · have h3 : x = y := by omega
        subst h3
        simp [← ih]
/-- what Spell holds as the best so far -/
def BestIs (w : World) (base : Nat) (v : Value) : Option (List Int) → Prop
  | none => v = .slice none 0 0
  | some b => ∃ g c, v = .slice (some ⟨g, 0, none⟩) b.length c ∧ QOk w ⟨g, b.length, c, b⟩ ∧ base ≤ g ∧ b.length < 1000
theorem BestIs.kept {w w' : World} {base : Nat} {v : Value} {best : Option (List Int)} (h : BestIs w base v best) (e : ∀ b, b < w.heap.size → (∃ cs, w.heap[b]? = some (.cells cs 3 (0, 0))) → w'.heap[b]? = w.heap[b]?) : BestIs w' base v best := by
  cases best with
  | none => exact h
  | some b =>
    obtain ⟨g, c, h1, h2, h3⟩ := h
    exact ⟨g, c, h1, h2.kept (e g h2.lt h2.type), h3⟩
theorem tryG_not {c : Cmd} {best : Option (List Int)} {l : List Int} {r : Nat × Cmd} (h : r ≠ (1, c)) : tryG c best l r = best := if_pos h
theorem tryG_none {c : Cmd} {l : List Int} : tryG c none l (1, c) = some l := if_neg (fun h => h rfl)
theorem tryG_some {c : Cmd} {l b : List Int} : tryG c (some b) l (1, c) = if betterB l b then some l else some b := if_neg (fun h => h rfl)
/-- what is left at try's end -/
def TryPost (w : World) (base bb : Nat) (r : Option (List Int)) (e : Ending) (w' : World) : Prop := e = .returned (.tuple #[]) ∧ (∃ bv', IsBox w' bb 33 bv' ∧ BestIs w' base bv' r) ∧ Touch (fun b => b = bb) w w'
theorem try_same {w wc : World} {base bb : Nat} {bv : Value} {best : Option (List Int)} (h4 : IsBox w bb 33 bv) (hb : BestIs w base bv best) (h : Below w.heap.size w wc) : TryPost w base bb best (.returned (.tuple #[])) wc :=
  ⟨rfl, ⟨bv, h4.below h, hb.kept (fun b hl _ => h.block b hl)⟩, Touch.of (O := fun b => b = bb) h⟩
theorem try_set {w wc : World} {base bb : Nat} {bv : Value} {qg qc : Nat} {l : List Int} (h4 : IsBox w bb 33 bv) (hq : QOk w ⟨qg, l.length, qc, l⟩) (hqb : base ≤ qg) (hl : l.length < 1000) (h : Below w.heap.size w wc) : TryPost w base bb (some l) (.returned (.tuple #[])) (wc.setCell ⟨bb, 0, none⟩ (.slice (some ⟨qg, 0, none⟩) l.length qc)) := by
  have hq2 : QOk wc ⟨qg, l.length, qc, l⟩ := hq.kept (h.block _ hq.lt)
  obtain ⟨cs, ht⟩ := hq2.type
  refine ⟨rfl, ⟨_, (h4.below h).set _, qg, qc, rfl, hq2.kept (Below.heap_setCell _ _ _ _ (type_ne ht (h4.below h) (by decide))), hqb, hl⟩, (Touch.of (O := fun b => b = bb) h).trans (Touch.setCell (fun b => b = bb) wc (p := ⟨bb, 0, none⟩) rfl _) (fun x hx => .inl hx)⟩
set_option maxRecDepth 100000 in
set_option maxHeartbeats 8000000 in
theorem try_c (base : Nat) (ow : Nat → Nat) (tb bt bm bc bb : Nat) (mode : Int) (c : Cmd) (best : Option (List Int)) (bv : Value) (q : QuietD) (w : World) (ht : Tabs w ow tb tabT) (h1 : IsBox w bt 86 (.pointer (some ⟨tb, 0, none⟩))) (h2 : IsBox w bm 3 (.int .i64 mode))
    (h3 : w.heap[bc]? = some (.cells c.cells 44 (0, 0))) (h4 : IsBox w bb 33 bv) (hb : BestIs w base bv best) (hqbs : base ≤ q.g) (hq : QOk w q) (hqn : q.n = q.l.length) (hql : q.l.length < 1000) (hqk : ∀ x ∈ q.l, inKey x) (hq0 : q.l ≠ []) :
    Calls Try.prog 41 #[.slice (some ⟨q.g, 0, none⟩) q.n q.c, .pointer (some ⟨bt, 0, none⟩), .pointer (some ⟨bm, 0, none⟩), .pointer (some ⟨bc, 0, none⟩), .pointer (some ⟨bb, 0, none⟩)] w (TryPost w base bb (tryP (selP mode) c best q.l)) := by
  obtain ⟨qg, qn, qc, l⟩ := q
  simp only at hqn hql hqk hq0 hqbs ⊢
  subst hqn
  have hri := qok_list hq
  simp only at hri
  have hcap : l.length ≤ qc := by
    rcases hq.2 with ⟨e, _⟩ | ⟨g, cap, cur, e, _, _, k1, _⟩
    · unfold qval at e; cases e
    · unfold qval at e; obtain ⟨_, _, rfl⟩ := Value.slice.inj e; exact k1
  have HT := Lib.hid ht
  have H1 := Lib.hid h1
  have H2 := Lib.hid h2
  have H3 := Lib.hid h3
  have H4 := Lib.hid h4
  have HBI := Lib.hid hb
  have HQ := Lib.hid hq
  have HQK := Lib.hid hqk
  have HRI := Lib.hid hri
  have HQ0 := Lib.hid hq0
  have hqgl := hq.lt
  simp only at hqgl
  clear ht h1 h2 h3 h4 hb hq hqk hri hq0
  go_enter Try.func41, Try.ntmps41
  go_wp2_with fail
  refine (contains_c (some ⟨qg, 0, none⟩) l.length qc l 27 w rfl (by omega) HRI.out).mono ?_
  rintro e w2 ⟨rfl, rfl⟩
  cases hc27 : l.contains 27
  · obtain ⟨wA, hwA⟩ : ∃ wA, wA = w2.alloc (.cells #[.int .i64 0, .int .i64 0, .int .i64 0, .int .i64 0, .int .i64 0] 44) := ⟨_, rfl⟩
    have hbA : Below w2.heap.size w2 wA := by rw [hwA]; exact below_new2 w2 _
    have hkA : wA.heap[w2.heap.size]? = some (.cells #[.int .i64 0, .int .i64 0, .int .i64 0, .int .i64 0, .int .i64 0] 44 (0, 0)) := by rw [hwA]; exact one_new w2 _
    have hbD : Below w2.heap.size w2 wA.drew := hbA.drew
    have hrc : ∀ W, Below w2.heap.size w2 W → Calls Try.prog 43 #[.pointer (some ⟨tb, 0, none⟩), .bool (selP mode), .slice (some ⟨qg, 0, none⟩) l.length qc] W fun e w' => e = .returned (.tuple #[.agg (readP (selP mode) l).2.cells, .int .i64 ((readP (selP mode) l).1 : Nat)]) ∧ Below W.heap.size W w' := fun W hW =>
      read_c (selP mode) ow tb (some ⟨qg, 0, none⟩) qc l W (HT.out.later hW) (HRI.out.later hW) (fun a ha => by cases ha; exact Nat.lt_of_lt_of_le hqgl hW.size) hcap (by omega) HQK.out
    have HWA := Lib.hid hwA
    have HKA := Lib.hid hkA
    have HBA := Lib.hid hbA
    have hlA := heap_lt hkA
    clear hwA hbA hkA hbD
    have HRC := Lib.hid hrc
    have c1 : w2.cell? ⟨bt, 0, none⟩ = some (.pointer (some ⟨tb, 0, none⟩)) := block_cell H1.out
    have c2 : w2.cell? ⟨bm, 0, none⟩ = some (.int .i64 mode) := block_cell H2.out
    have c1A : (w2.alloc (.cells #[.int .i64 0, .int .i64 0, .int .i64 0, .int .i64 0, .int .i64 0] 44)).cell? ⟨bt, 0, none⟩ = some (.pointer (some ⟨tb, 0, none⟩)) := ((below_new2 w2 _).cell (p := ⟨bt, 0, none⟩) (heap_lt H1.out)).trans c1
    have c2A : (w2.alloc (.cells #[.int .i64 0, .int .i64 0, .int .i64 0, .int .i64 0, .int .i64 0] 44)).cell? ⟨bm, 0, none⟩ = some (.int .i64 mode) := ((below_new2 w2 _).cell (p := ⟨bm, 0, none⟩) (heap_lt H2.out)).trans c2
    have hT : Hid (tryP (selP mode) c best l = tryG c best l (readP (selP mode) l)) := Lib.hid (tryP_go hc27)
    generalize readP (selP mode) l = rr at HRC hT
    generalize hsm : selP mode = sm at HRC hT ⊢
    have HSM := Lib.hid hsm
    clear hsm
    obtain ⟨code, ⟨a1, a2, a3, a4, a5⟩⟩ := rr
    replace HRC : Hid (∀ W, Below w2.heap.size w2 W → Calls Try.prog 43 #[.pointer (some ⟨tb, 0, none⟩), .bool sm, .slice (some ⟨qg, 0, none⟩) l.length qc] W fun e w' => e = .returned (.tuple #[.agg #[.int .i64 a1, .int .i64 a2, .int .i64 a3, .int .i64 a4, .int .i64 a5], .int .i64 (code : Nat)]) ∧ Below W.heap.size W w') := HRC
    clear hrc hc27
    go_upto_region 1 with (fail)
    go_cut [6, 7] (fun v6 v7 wc => ∃ cb, v6 = .pointer (some ⟨cb, 0, none⟩) ∧ v7 = .int .i64 (code : Nat) ∧ wc.heap[cb]? = some (.cells #[.int .i64 a1, .int .i64 a2, .int .i64 a3, .int .i64 a4, .int .i64 a5] 44 (0, 0)) ∧ Below w2.heap.size w2 wc)
    case first =>
      go_region_law (first
        | (go_simp; refine (sel_c mode _).mono ?_; rintro e w4 ⟨rfl, rfl⟩; rw [HSM.out])
        | (go_simp; rw [← HWA.out]; refine (HRC.out _ HBA.out.drew).mono ?_; rintro e w5 ⟨rfl, hb5⟩; have hk5 := (hb5.block w2.heap.size hlA).trans HKA.out; have HB5 := Lib.hid hb5; have HK5 := Lib.hid hk5; have e0 := block_cell (i := 0) hk5; have e1 := block_cell (i := 1) hk5; have e2 := block_cell (i := 2) hk5; have e3 := block_cell (i := 3) hk5; have e4 := block_cell (i := 4) hk5; have f0 := block_free (i := 0) hk5; have f1 := block_free (i := 1) hk5; have f2 := block_free (i := 2) hk5; have f3 := block_free (i := 3) hk5; have f4 := block_free (i := 4) hk5; clear hb5 hk5)
        | (go_simp; refine (HRC.out _ ((Below.refl _ _).drew)).mono ?_; rintro e w5 ⟨rfl, hb5⟩; have HB5 := Lib.hid hb5; clear hb5))
      all_goals
        go_wp2_with fail
        go_meet
        first
          | exact ⟨_, rfl, rfl, cmd_fin1 HBA.out HB5.out HK5.out ⟨a1, a2, a3, a4, a5⟩⟩
          | exact ⟨_, rfl, rfl, cmd_fin2 HB5.out ⟨a1, a2, a3, a4, a5⟩⟩
    case rest =>
      obtain ⟨cb, rfl, rfl, hcb, hbb⟩ := hcut
      have HBB := Lib.hid hbb
      have HCB := Lib.hid hcb
      have hb4 := H4.out.below hbb
      have d0 : wc.cell? ⟨bb, 0, none⟩ = some bv := block_cell hb4
      have d1 : wc.frozen? ⟨bb, 0, none⟩ = false := block_free hb4
      clear hcb hbb hb4
      by_cases hc1 : code = 1
      · subst hc1
        have hk1 : (((1 : Nat) : Int) != 1) = false := rfl
        have m0 : wc.cell? ⟨cb, 0, none⟩ = some (.int .i64 a1) := block_cell HCB.out
        have m1 : wc.cell? ⟨cb, 1, none⟩ = some (.int .i64 a2) := block_cell HCB.out
        have m2 : wc.cell? ⟨cb, 2, none⟩ = some (.int .i64 a3) := block_cell HCB.out
        have m3 : wc.cell? ⟨cb, 3, none⟩ = some (.int .i64 a4) := block_cell HCB.out
        have m4 : wc.cell? ⟨cb, 4, none⟩ = some (.int .i64 a5) := block_cell HCB.out
        have hcc := (HBB.out.block bc (heap_lt H3.out)).trans H3.out
        obtain ⟨y1, y2, y3, y4, y5⟩ := c
        have n0 : wc.cell? ⟨bc, 0, none⟩ = some (.int .i64 y1) := block_cell hcc
        have n1 : wc.cell? ⟨bc, 1, none⟩ = some (.int .i64 y2) := block_cell hcc
        have n2 : wc.cell? ⟨bc, 2, none⟩ = some (.int .i64 y3) := block_cell hcc
        have n3 : wc.cell? ⟨bc, 3, none⟩ = some (.int .i64 y4) := block_cell hcc
        have n4 : wc.cell? ⟨bc, 4, none⟩ = some (.int .i64 y5) := block_cell hcc
        clear hcc
        by_cases x1 : y1 = a1
        · subst x1
          by_cases x2 : y2 = a2
          · subst x2
            by_cases x3 : y3 = a3
            · subst x3
              by_cases x4 : y4 = a4
              · subst x4
                by_cases x5 : y5 = a5
                · subst x5
                  cases best with
                  | none =>
                    have hbv : bv = .slice none 0 0 := HBI.out
                    rw [hbv] at d0
                    have hq := eql_nil wc
                    have HF : Hid (TryPost w2 base bb (tryP sm ⟨y1, y2, y3, y4, y5⟩ none l) (.returned (.tuple #[])) (wc.setCell ⟨bb, 0, none⟩ (.slice (some ⟨qg, 0, none⟩) l.length qc))) := Lib.hid (by rw [hT.out, tryG_none]; exact try_set H4.out HQ.out hqbs hql HBB.out)
                    clear hbv
                    go_wp2
                    go_end0
                    exact HSM.out ▸ HF.out
                  | some b =>
                    obtain ⟨g, k, hbv, hqb, _, hbl⟩ := HBI.out
                    rw [hbv] at d0
                    have hq := eql_some ⟨g, 0, none⟩ b.length k wc
                    have HFS : Hid (betterB l b = true → TryPost w2 base bb (tryP sm ⟨y1, y2, y3, y4, y5⟩ (some b) l) (.returned (.tuple #[])) (wc.setCell ⟨bb, 0, none⟩ (.slice (some ⟨qg, 0, none⟩) l.length qc))) := Lib.hid (fun h => by rw [hT.out, tryG_some, if_pos h]; exact try_set H4.out HQ.out hqbs hql HBB.out)
                    have HFN : Hid (betterB l b = false → TryPost w2 base bb (tryP sm ⟨y1, y2, y3, y4, y5⟩ (some b) l) (.returned (.tuple #[])) wc) := Lib.hid (fun h => by rw [hT.out, tryG_some, h]; exact try_same H4.out HBI.out HBB.out)
                    have HCMP := Lib.hid (compare_c (some ⟨qg, 0, none⟩) (some ⟨g, 0, none⟩) l.length qc b.length k l b wc rfl rfl (by omega) (by omega) (HRI.out.later HBB.out) ((qok_list hqb).later HBB.out))
                    clear hbv hqb
                    by_cases h1 : l.length < b.length
                    · have hbt : betterB l b = true := by unfold betterB; rw [decide_eq_true h1]; rfl
                      have HF := Lib.hid (HFS.out hbt)
                      clear hbt
                      have h1i : (l.length : Int) < (b.length : Int) := by omega
                      go_wp2
                      go_end0
                      exact HSM.out ▸ HF.out
                    · have h1i : ¬ ((l.length : Int) < (b.length : Int)) := by omega
                      by_cases h2 : l.length = b.length
                      · have hbt : betterB l b = decide (lexP l b < 0) := by unfold betterB; rw [decide_eq_false h1, decide_eq_true h2, lexP_less]; rfl
                        have h2b : ((l.length : Int) == (b.length : Int)) = true := by rw [h2]; exact beq_self_eq_true _
                        have HBT := Lib.hid hbt
                        clear hbt h2
                        go_wp2_with fail
                        refine HCMP.out.mono ?_
                        rintro e w6 ⟨rfl, rfl⟩
                        have hl3 : (lexP l b < 0) ∨ ¬ (lexP l b < 0) := Classical.em _
                        rcases hl3 with hl3 | hl3
                        · have HF := Lib.hid (HFS.out (HBT.out.trans (decide_eq_true hl3)))
                          go_wp2
                          go_end0
                          exact HSM.out ▸ HF.out
                        · have HF := Lib.hid (HFN.out (HBT.out.trans (decide_eq_false hl3)))
                          go_wp2
                          go_end0
                          exact HSM.out ▸ HF.out
                      · have hbt : betterB l b = false := by unfold betterB; rw [decide_eq_false h1, decide_eq_false h2]; rfl
                        have HF := Lib.hid (HFN.out hbt)
                        have h2b : ((l.length : Int) == (b.length : Int)) = false := by rw [beq_eq_false_iff_ne]; omega
                        clear hbt
                        go_wp2
                        go_end0
                        exact HSM.out ▸ HF.out
                · have xb : (a5 == y5) = false := by rw [beq_eq_false_iff_ne]; exact fun e => x5 e.symm
                  have HF : Hid (TryPost w2 base bb (tryP sm ⟨y1, y2, y3, y4, y5⟩ best l) (.returned (.tuple #[])) wc) := Lib.hid (by rw [hT.out, tryG_not (fun e => x5 (congrArg Cmd.arg (congrArg Prod.snd e)).symm)]; exact try_same H4.out HBI.out HBB.out)
                  clear x5
                  go_wp2
                  refine bodyPost_ret (results_none rfl _ _ _) rfl ?_
                  exact HSM.out ▸ HF.out
              · have xb : (a4 == y4) = false := by rw [beq_eq_false_iff_ne]; exact fun e => x4 e.symm
                have HF : Hid (TryPost w2 base bb (tryP sm ⟨y1, y2, y3, y4, y5⟩ best l) (.returned (.tuple #[])) wc) := Lib.hid (by rw [hT.out, tryG_not (fun e => x4 (congrArg Cmd.move (congrArg Prod.snd e)).symm)]; exact try_same H4.out HBI.out HBB.out)
                clear x4
                go_wp2
                refine bodyPost_ret (results_none rfl _ _ _) rfl ?_
                exact HSM.out ▸ HF.out
            · have xb : (a3 == y3) = false := by rw [beq_eq_false_iff_ne]; exact fun e => x3 e.symm
              have HF : Hid (TryPost w2 base bb (tryP sm ⟨y1, y2, y3, y4, y5⟩ best l) (.returned (.tuple #[])) wc) := Lib.hid (by rw [hT.out, tryG_not (fun e => x3 (congrArg Cmd.verb (congrArg Prod.snd e)).symm)]; exact try_same H4.out HBI.out HBB.out)
              clear x3
              go_wp2
              refine bodyPost_ret (results_none rfl _ _ _) rfl ?_
              exact HSM.out ▸ HF.out
          · have xb : (a2 == y2) = false := by rw [beq_eq_false_iff_ne]; exact fun e => x2 e.symm
            have HF : Hid (TryPost w2 base bb (tryP sm ⟨y1, y2, y3, y4, y5⟩ best l) (.returned (.tuple #[])) wc) := Lib.hid (by rw [hT.out, tryG_not (fun e => x2 (congrArg Cmd.count (congrArg Prod.snd e)).symm)]; exact try_same H4.out HBI.out HBB.out)
            clear x2
            go_wp2
            refine bodyPost_ret (results_none rfl _ _ _) rfl ?_
            exact HSM.out ▸ HF.out
        · have xb : (a1 == y1) = false := by rw [beq_eq_false_iff_ne]; exact fun e => x1 e.symm
          have HF : Hid (TryPost w2 base bb (tryP sm ⟨y1, y2, y3, y4, y5⟩ best l) (.returned (.tuple #[])) wc) := Lib.hid (by rw [hT.out, tryG_not (fun e => x1 (congrArg Cmd.reg (congrArg Prod.snd e)).symm)]; exact try_same H4.out HBI.out HBB.out)
          clear x1
          go_wp2
          refine bodyPost_ret (results_none rfl _ _ _) rfl ?_
          exact HSM.out ▸ HF.out
      · have hk1 : ((code : Int) != 1) = true := by rw [bne_iff_ne]; omega
        have HF : Hid (TryPost w2 base bb (tryP sm c best l) (.returned (.tuple #[])) wc) := Lib.hid (by rw [hT.out, tryG_not (fun e => hc1 (congrArg Prod.fst e))]; exact try_same H4.out HBI.out HBB.out)
        go_wp2
        refine bodyPost_ret (results_none rfl _ _ _) rfl ?_
        exact HSM.out ▸ HF.out
  · have HF : Hid (TryPost w2 base bb (tryP (selP mode) c best l) (.returned (.tuple #[])) w2) := Lib.hid (by rw [tryP_esc hc27]; exact try_same H4.out HBI.out (Below.refl _ _))
    clear hc27
    go_wp2
    refine bodyPost_ret (results_none rfl _ _ _) rfl ?_
    exact HF.out
end Go.Proofs.Ytampjndfhpjheaa
