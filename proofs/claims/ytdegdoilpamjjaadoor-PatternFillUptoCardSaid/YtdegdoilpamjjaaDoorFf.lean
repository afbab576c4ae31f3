/- Contracts: the deferred function of pattern.Fill, in a frame that panics and in one that returns; a first step that recovers. No condition. -/
import Derived.Test.YtdegdoilpamjjaaDoorFj
import Derived.Defers
import Derived.Recover
namespace Go.Proofs.YtdegdoilpamjjaaDoor
open Go.RowKit
set_option linter.unusedVariables false
theorem region_rec {P : Program} {id : Nat} {o : Oper} {l : List Oper} {Q : Exit → Act → List Frame → World → Prop} {Q1 : Exit → Act → World → Prop} {a : Act} {cs cs' : List Frame} {w : World} {v : Value} (hr : (execOp a.eval o).run P w = .ok .recover w) (hgd : o.guard = none)
    (hrec : recoverD cs = some (v, cs') ∨ recoverD cs = none ∧ v = .nilIface ∧ cs' = cs) (hq : ∀ e a w, Q1 e a w → Q e a cs' w) (h : wpList P (o :: l).toArray Q1 l (a.put o.dst v) w) : (Code.region id (o :: l).toArray false).wpS P Q a cs w := by
  intro b k hb hro
  have h1 : wpOps P (o :: l).toArray Q1 (List.range' 1 l.length) (a.put o.dst v) w := by
    rw [wpOps_eq_wpList l 1 (by intro j; simp [Nat.add_comm 1 j])]
    exact h
  obtain ⟨e, a', w', q, r⟩ := wp_ops _ _ _ h1 b k cs'
  have ho : (o :: l).toArray[0]? = some o := by simp
  have hw : Region.wanted o (yielded (o :: l).toArray a.tmps) = true := by simp [Region.wanted, hgd]
  have hg := stepG_op (P := P) (b := b) (a := a) (k := k) (cs := cs) (w := w) (rest := List.range' 1 l.length) ho hw
  have hfin : ∀ v, (b.at a (.inRegion (o :: l).toArray (0 :: List.range' 1 l.length) :: k)).finish v = b.at (a.put o.dst v) (.inRegion (o :: l).toArray (List.range' 1 l.length) :: k) := by
    intro v; rw [Frame.finish_at, ho]; rfl
  have hk : (b.at a (.inRegion (o :: l).toArray (0 :: List.range' 1 l.length) :: k)).kind = .deferred := hb
  have htr := tryRecover_deferred hk cs
  have hstep : step P (lone (b.at a (.inRegion (o :: l).toArray (0 :: List.range' 1 l.length) :: k)) cs w) = .next (lone (b.at (a.put o.dst v) (.inRegion (o :: l).toArray (List.range' 1 l.length) :: k)) cs' w) := by
    refine step_lone_go ?_
    rw [hg, ← hfin]
    simp only [Frame.at] at htr ⊢
    rcases hrec with hrec | ⟨hrec, rfl, rfl⟩
    · simp [stepG.apply, hr, htr, hrec]
    · simp [stepG.apply, hr, htr, hrec]
  refine ⟨e, a', cs', w', hq _ _ _ q, .of_steps (.one ?_) (.of_steps (.one hstep) r)⟩
  have := step_region (P := P) (b := b) (a := a) (k := k) (cs := cs) (w := w) (id := id) (ops := (o :: l).toArray)
  rw [this]
  have e1 : List.range (o :: l).toArray.size = 0 :: List.range' 1 l.length := by simp [List.range_eq_range', List.range'_succ]
  rw [e1]
theorem seq_rec {P : Program} {id : Nat} {o : Oper} {l : List Oper} {y : Code} {Q : Exit → Act → List Frame → World → Prop} {a : Act} {cs cs' : List Frame} {w : World} {v : Value} (hr : (execOp a.eval o).run P w = .ok .recover w) (hgd : o.guard = none)
    (hrec : recoverD cs = some (v, cs') ∨ recoverD cs = none ∧ v = .nilIface ∧ cs' = cs)
    (h : wpList P (o :: l).toArray (Exit.then (y.wp P (fun e a w => Q e a cs' w)) (fun e a w => Q e a cs' w)) l (a.put o.dst v) w) : (Code.seq (Code.region id (o :: l).toArray false) y).wpS P Q a cs w := by
  apply wpS_seq
  refine region_rec hr hgd hrec ?_ h
  intro e a w hq
  cases e with
  | normal => exact wpS_of_wp hq
  | _ => exact hq
theorem assert_bad (v : Value) (w : World) : (Instr.typeAssert (.iface 82 v) 20 82 true).run Tryd.prog w = .ok (.tuple #[v, .bool true]) w := by kernel_rfl
theorem assert_nil (w : World) : (Instr.typeAssert .nilIface 20 82 true).run Tryd.prog w = .ok (.tuple #[.agg #[.int .i64 0], .bool false]) w := by kernel_rfl
theorem catch_bad (bo be : Nat) (k : Int) (older : List PanicEntry) (v0 v1 : Value) (w : World) (ho : IsBox w bo 22 v0) (he : IsBox w be 42 v1) (hne : bo ≠ be) :
    CallsD Tryd.prog 38 #[.pointer (some ⟨bo, 0, none⟩), .pointer (some ⟨be, 0, none⟩)] (.panicking ({ v := .iface 82 (.agg #[.int .i64 k]), recovered := false } :: older)) w fun e u' w' =>
      e = .returned (.tuple #[]) ∧ u' = .panicking ({ v := .iface 82 (.agg #[.int .i64 k]), recovered := true } :: older) ∧ IsBox w' bo 22 (.slice none 0 0) ∧ IsBox w' be 42 (.int .i64 k) ∧ (∀ B, B ≤ bo → B ≤ be → Below B w w') := by
  refine callsD_of_wpS Tryd.func38 rfl fun c₀ cs hu => ?_
  refine seq_rec (v := .iface 82 (.agg #[.int .i64 k])) (cs' := { c₀ with mode := .panicking ({ v := .iface 82 (.agg #[.int .i64 k]), recovered := true } :: older) } :: cs) ?_ rfl (.inl ?_) ?_
  · simp [go_sem]
  · simp [recoverD, hu]
  simp only [Tryd.ntmps38, List.size_toArray, List.length_cons, List.length_nil, Nat.reduceAdd, Nat.reduceSub, Array.replicate_succ, Array.replicate_zero, List.push_toArray, List.append_toArray, List.nil_append, List.cons_append]
  have ha := assert_bad
  have hbo := heap_lt ho
  have hbe := heap_lt he
  have HO := Lib.hid (ho.alloc (.cells #[.int .i64 k] 82))
  have HE := Lib.hid (he.alloc (.cells #[.int .i64 k] 82))
  have HN := Lib.hid (IsBox.new w 82 (.int .i64 k))
  have HW := Lib.hid (below_new2 w (.cells #[.int .i64 k] 82))
  clear ho he
  go_wp2_with fail
  generalize w.alloc (.cells #[.int .i64 k] 82) = w1 at *
  have x0 := HO.out.cell.1
  have x1 := HE.out.cell.1
  have x2 := HN.out.cell.1
  have y0 := HO.out.cell.2
  have y1 := HE.out.cell.2
  have n0 : ¬ bo = be := hne
  have n1 : ¬ be = bo := fun e => hne e.symm
  have n2 : ¬ bo = w.heap.size := by omega
  have n3 : ¬ w.heap.size = bo := by omega
  have n4 : ¬ be = w.heap.size := by omega
  have n5 : ¬ w.heap.size = be := by omega
  go_region
  all_goals
    have b1 := (HO.out.set (.slice none 0 0)).other (c := be) n1 (.int .i64 k)
    have b2 := ((HE.out.other (c := bo) n0 (.slice none 0 0)).set (.int .i64 k))
    have b3 : ∀ B, B ≤ bo → B ≤ be → Below B w ((w1.setCell ⟨bo, 0, none⟩ (.slice none 0 0)).setCell ⟨be, 0, none⟩ (.int .i64 k)).drew := fun B h1 h2 => (((HW.out.mono (by omega)).setCell h1 _).setCell h2 _).drew
    go_wp2
    exact ⟨rfl, _, rfl, _, results_none rfl _ _ _, rfl, rfl, b1, b2, b3⟩
theorem catch_idle (bo be : Nat) (w : World) :
    CallsD Tryd.prog 38 #[.pointer (some ⟨bo, 0, none⟩), .pointer (some ⟨be, 0, none⟩)] .returning w fun e u' w' => e = .returned (.tuple #[]) ∧ u' = .returning ∧ Below w.heap.size w w' := by
  refine callsD_of_wpS Tryd.func38 rfl fun c₀ cs hu => ?_
  refine seq_rec (v := .nilIface) (cs' := c₀ :: cs) ?_ rfl (.inr ⟨?_, rfl, rfl⟩) ?_
  · simp [go_sem]
  · simp [recoverD, hu]
  simp only [Tryd.ntmps38, List.size_toArray, List.length_cons, List.length_nil, Nat.reduceAdd, Nat.reduceSub, Array.replicate_succ, Array.replicate_zero, List.push_toArray, List.append_toArray, List.nil_append, List.cons_append]
  have ha := assert_nil
  have HW := Lib.hid (below_new2 w (.cells #[.int .i64 0] 82))
  go_wp2
  exact ⟨rfl, .returning, by rw [← hu], _, results_none rfl _ _ _, rfl, rfl, HW.out⟩
end Go.Proofs.YtdegdoilpamjjaaDoor
