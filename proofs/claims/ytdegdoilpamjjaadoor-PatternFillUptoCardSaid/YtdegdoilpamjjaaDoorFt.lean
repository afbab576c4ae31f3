/- The walk of the law PatternFill. -/
import Derived.Test.YtdegdoilpamjjaaDoorFs
namespace Go.Proofs.YtdegdoilpamjjaaDoor
open Go.RowKit
set_option linter.unusedVariables false
/-- 1, 2 and zeros -/
def M12 (i : Nat) : Int := if i = 0 then 1 else if i = 1 then 2 else 0
theorem mC_all (M : Nat → Int) : (mC M).all (·.oneCell') = true := by simp [mC, lst, Value.oneCell']
theorem wpList_build_m {ops : Array Oper} {rest : List Oper} {o : Oper} {a : Act} {w : World} {Q : Exit → Act → World → Prop} (hgd : o.guard = none) (parts : Array (Nat × Operand)) (ho : o.op = .build 23 parts) (M : Nat → Int)
    (hb : Tryd.prog.built 23 (parts.map fun (i, x) => (i, a.eval x)).toList = some (mC M)) (h : wpList Tryd.prog ops Q rest (a.put o.dst (.agg (mC M))) w) : wpList Tryd.prog ops Q (o :: rest) a w :=
  wpList_build hgd _ parts ho (by rw [hb]; rfl) (by rw [hb]; exact h)
theorem step_load_g {ops : Array Oper} {o : Oper} {a : Act} {w : World} {K : Act → World → Prop} {Q : Exit → Act → World → Prop} {E : Prop} (M : Nat → Int) (hw : Region.wanted o (yielded ops a.tmps) = true) (x : Operand) (ho : o.op = .load 23 x)
    (g : Nat) (hx : a.eval x = .pointer (some ⟨g, 0, none⟩)) (hg : w.heap[g]? = some (.cells (mC M) 23 (0, 0)))
    (h : K (a.put o.dst (.agg (mC M))) w) : if Region.wanted o (yielded ops a.tmps) = true then Oper.wp Tryd.prog o a w K Q else E := by
  rw [if_pos hw]
  exact wp_load_row 23 x ho g hx _ _ _ _ hg Tryd.underlying23 rfl (mC_info M) h
theorem all_load_g {md : Region.Mode} {ops : Array Oper} {Q : Exit → Act → World → Prop} {fuel : Nat} {listed listed' : Array Bool} {a : Act} {w : World} {i : Nat} {o : Oper} {x : Operand} {g : Nat} (M : Nat → Int) (ho : ops[i]? = some o) (hw : Region.wanted o (yielded ops a.tmps) = true) (hop : o.op = .load 23 x)
    (hx : a.eval x = .pointer (some ⟨g, 0, none⟩)) (hg : w.heap[g]? = some (.cells (mC M) 23 (0, 0)))
    (hl : listed.setIfInBounds i true = listed') (h : wpAny Tryd.prog md ops Q fuel listed' (a.put o.dst (.agg (mC M))) w) : AllReady Tryd.prog md ops Q fuel listed a w [i] := by
  subst hl
  exact AllReady.cons ho (fun K hK => step_load_g M hw x hop g hx hg (hK _ _ h)) AllReady.nil
theorem all_call_g {md : Region.Mode} {ops : Array Oper} {Q : Exit → Act → World → Prop} {fuel : Nat} {listed listed' : Array Bool} {a : Act} {w : World} {i : Nat} {o : Oper} {f : FuncId} {xs : Array Operand} {ts : Array TypeId} {args : Array Value} {R : Ending → World → Prop} (ho : ops[i]? = some o) (hw : Region.wanted o (yielded ops a.tmps) = true)
    (hop : o.op = .call { callee := .value (.func f), args := xs, argTypes := ts }) (hargs : xs.map a.eval = args) {fn : Func} (hf : Tryd.prog.funcs[f]? = some fn) (hname : (fn.name == "runtime.NumGoroutine") = false) (hb : fn.body.isNone = false) (hc : Calls Tryd.prog f args w R)
    (hl : listed.setIfInBounds i true = listed') (h : ∀ e w', R e w' → ∃ v, e = .returned v ∧ wpAny Tryd.prog md ops Q fuel listed' (a.put o.dst v) w') : AllReady Tryd.prog md ops Q fuel listed a w [i] := by
  subst hl
  refine AllReady.cons ho (fun K hK => ?_) AllReady.nil
  rw [if_pos hw]
  subst hargs
  have hrun : (callFunc f (xs.map a.eval)).run Tryd.prog w = .ok (.enter f (xs.map a.eval)) w := by
    have h1 : fn.name ≠ "runtime.NumGoroutine" := by simpa using hname
    have h2 : ¬ fn.body = none := by intro e; rw [e] at hb; cases hb
    simp [callFunc, go_sem, hf, h1, h2]
  unfold Oper.wp
  simp only [execOp, hop]
  simp [go_sem]
  rw [hrun]
  refine hc.mono ?_
  intro e w' hR
  obtain ⟨v, rfl, hv⟩ := h e w' hR
  exact hK _ _ hv
theorem wpAny_one {md : Region.Mode} {ops : Array Oper} {Q : Exit → Act → World → Prop} {fuel : Nat} {listed : Array Bool} {a : Act} {w : World} {i : Nat} (hr : Region.ready md ops listed = [i]) (h : AllReady Tryd.prog md ops Q fuel listed a w [i]) : wpAny Tryd.prog md ops Q (fuel + 1) listed a w := wpAny_ready hr (by simp) h
theorem own_nil {w : World} {B n c : Nat} {s : Option Addr} {f : Nat → Int} (h : OwnInts w B (.slice s n c) (lst f n)) : s = none → n = 0 ∧ c = 0 := by
  obtain ⟨s', c', e, _, h3, _⟩ := h.list
  cases e
  exact h3
set_option maxRecDepth 100000 in
set_option maxHeartbeats 8000000 in
theorem law_fill (sa : Option Addr) (n cap : Nat) (f : Nat → Int) (sb : Option Addr) (m capb : Nat) (g : Nat → Int) (M : Nat → Int) (w : World) (hn : n < 1000000000) (hm : m < 1000000000) (hr : IsInts w sa n f) (hs : IsInts w sb m g) (hna : sa = none → n = 0 ∧ cap = 0) (hnb : sb = none → m = 0 ∧ capb = 0) (ht : Tabs w) :
    Calls Tryd.prog 3 #[.slice sa n cap, .slice sb m capb, .agg (mC M)] w fun e w' => e = .returned (.bool true) ∧ Below w.heap.size w w' := by
  have hmt : (w.alloc (.cells (mC M) 23)).heap[w.heap.size]? = some (.cells (mC M) 23 (0, 0)) := one_new w _
  have hb0 := below_new2 w (.cells (mC M) 23)
  have hsz : (w.alloc (.cells (mC M) 23)).heap.size = w.heap.size + 1 := by simp
  generalize hw : w.alloc (.cells (mC M) 23) = w0 at *
  have HR := Lib.hid (hr.later hb0)
  have HS := Lib.hid (hs.later hb0)
  have HT := Lib.hid (ht.later hb0)
  have HB0 := Lib.hid hb0
  have HMT := Lib.hid hmt
  have HZ := Lib.hid hsz
  clear hr hs ht hb0 hmt hsz
  go_enter Tryd.func3, Tryd.ntmps3
  have hbu : Tryd.prog.built 23 [(0, .int .i64 1), (1, .int .i64 2)] = some (mC M12) := by kernel_rfl
  go_wp2_with (first
    | (refine wpList_build_m rfl _ rfl M12 hbu ?_)
    | (refine wpList_store_row rfl 23 _ _ rfl w0.heap.size (mC M12) rfl rfl _ _ (one_new w0 _) (mC_info M12) (by simp [mC, lst]) (mC_all M12) ?_))
  have hz1 : ∀ o, (w0.alloc o).heap.size = w0.heap.size + 1 := fun o => by simp
  generalize hw1 : (w0.alloc _).setRow w0.heap.size (mC M12) = w1
  have HM1 := Lib.hid (show w1.heap[w0.heap.size]? = some (.cells (mC M12) 23 (0, 0)) by rw [← hw1]; exact setRow_heap _ _ _ _ _ _ (one_new w0 _))
  have HB1 := Lib.hid (show Below w0.heap.size w0 w1 by rw [← hw1]; exact below_setRow (below_new2 w0 _) (Nat.le_refl _) _)
  clear hw1
  have HZ1 := Lib.hid HM1.out
  clear HZ1
  have hlt1 : w0.heap.size < w1.heap.size := heap_lt HM1.out
  have HB1D := Lib.hid HB1.out.drew
  have HM1D := Lib.hid (show w1.drew.heap[w0.heap.size]? = some (.cells (mC M12) 23 (0, 0)) from HM1.out)
  have hlt1d : w0.heap.size < w1.drew.heap.size := hlt1
  have HMA := Lib.hid (fun (w' : World) (h : Below w0.heap.size w0 w') => (h.block w.heap.size (by have := HZ.out; omega)).trans HMT.out)
  refine wp_region_any (by kernel_rfl) ?_
  change wpAny _ _ _ _ _ #[false, false, false, false, false, false, false, false, false, false, false] _ (World.drew _)
  refine wpAny_two (i := 0) (j := 2) (by kernel_rfl) ?_ ?_
  · refine all_call_g (listed' := #[true, false, false, false, false, false, false, false, false, false, false]) (i := 0) (f := 11) rfl (by rfl) rfl ?_ Tryd.func11 (by kernel_rfl) (by kernel_rfl) (letters_ap w1.drew) (by kernel_rfl) ?_
    · simp [Act.eval, Act.put]
    rintro e w2 ⟨s2, k2, rfl, ho2, hb2⟩
    refine ⟨_, rfl, ?_⟩
    have HO2 := Lib.hid ho2
    have HM2 := Lib.hid ((hb2.block w0.heap.size hlt1d).trans HM1D.out)
    have hlt2 : w0.heap.size < w2.heap.size := heap_lt HM2.out
    have HB2 := Lib.hid (HB1D.out.trans (hb2.mono HB1D.out.size))
    clear ho2 hb2
    refine wpAny_two (i := 1) (j := 2) (by kernel_rfl) ?_ ?_
    · refine all_call_g (listed' := #[true, true, false, false, false, false, false, false, false, false, false]) (i := 1) (f := 11) rfl (by rfl) rfl ?_ Tryd.func11 (by kernel_rfl) (by kernel_rfl) (letters_xyz w2) (by kernel_rfl) ?_
      · simp [Act.eval, Act.put]
      rintro e w3 ⟨s3, k3, rfl, ho3, hb3⟩
      refine ⟨_, rfl, ?_⟩
      have HO3 := Lib.hid ho3
      have HM3 := Lib.hid ((hb3.block w0.heap.size hlt2).trans HM2.out)
      have HO23 := Lib.hid (HO2.out.later hb3)
      have HB3 := Lib.hid (HB2.out.trans (hb3.mono HB2.out.size))
      clear ho3 hb3
      refine wpAny_one (i := 2) (by kernel_rfl) ?_
      refine all_load_g (listed' := #[true, true, true, false, false, false, false, false, false, false, false]) (i := 2) (x := .tmp 7) (g := w0.heap.size) M12 rfl (by rfl) rfl ?_ HM3.out (by kernel_rfl) ?_
      · simp [Act.eval, Act.put]
      refine wpAny_one (i := 3) (by kernel_rfl) ?_
      refine all_call_g (listed' := #[true, true, true, true, false, false, false, false, false, false, false]) (i := 3) (f := 10) rfl (by rfl) rfl ?_ Tryd.func10 (by kernel_rfl) (by kernel_rfl) (filled_c s2 2 k2 (gl [97, 38]) s3 3 k3 (gl [120, 121, 122]) M12 w3 (by omega) (by omega) (own_f HO23.out) (own_f HO3.out) (own_nil HO23.out) (own_nil HO3.out) (HT.out.later HB3.out)) (by kernel_rfl) ?_
      · simp [Act.eval, Act.put]
      rintro e w4 ⟨rfl, hb4⟩
      refine ⟨_, rfl, ?_⟩
      have HB4 := Lib.hid (HB3.out.trans (hb4.mono HB3.out.size))
      clear hb4
      refine wpAny_take1 4 (listed' := #[true, true, true, true, true, false, false, false, false, false, false]) ?_ rfl (by kernel_rfl) (by kernel_rfl) (by kernel_rfl) (fun _ _ _ h => h) (Or.inl ⟨by kernel_rfl, ?_⟩) (by kernel_rfl) ?_
      rotate_left
      · intro w; go_simp
        try with_reducible rfl
      refine wpAny_take1 5 (listed' := #[true, true, true, true, true, true, false, false, false, false, false]) ?_ rfl (by kernel_rfl) (by kernel_rfl) (by kernel_rfl) (fun _ _ _ h => h) (Or.inl ⟨by kernel_rfl, ?_⟩) (by kernel_rfl) ?_
      rotate_left
      · intro w; go_simp
        try with_reducible rfl
      refine wpAny_take1 6 (listed' := #[true, true, true, true, true, true, true, false, false, false, false]) ?_ rfl (by kernel_rfl) (by kernel_rfl) (by kernel_rfl) (fun _ _ _ h => h) (Or.inl ⟨by kernel_rfl, ?_⟩) (by kernel_rfl) ?_
      rotate_left
      · intro w; go_simp
        try with_reducible rfl
      refine wpAny_one (i := 7) (by kernel_rfl) ?_
      refine all_load_g (listed' := #[true, true, true, true, true, true, true, true, false, false, false]) (i := 7) (x := .tmp 5) (g := w.heap.size) M rfl (by kernel_rfl) rfl ?_ (HMA.out _ HB4.out) (by kernel_rfl) ?_
      · simp [Act.eval, Act.put]
      refine wpAny_one (i := 8) (by kernel_rfl) ?_
      refine all_call_g (listed' := #[true, true, true, true, true, true, true, true, true, false, false]) (i := 8) (f := 10) rfl (by kernel_rfl) rfl ?_ Tryd.func10 (by kernel_rfl) (by kernel_rfl) (filled_c sa n cap f sb m capb g M w4 hn hm (HR.out.later HB4.out) (HS.out.later HB4.out) hna hnb (HT.out.later HB4.out)) (by kernel_rfl) ?_
      · simp [Act.eval, Act.put]
      rintro e w5 ⟨rfl, hb5⟩
      refine ⟨_, rfl, ?_⟩
      have HB5 := Lib.hid (HB4.out.trans (hb5.mono HB4.out.size))
      clear hb5
      refine wpAny_take1 9 (listed' := #[true, true, true, true, true, true, true, true, true, true, false]) ?_ rfl (by kernel_rfl) (by kernel_rfl) (by kernel_rfl) (fun _ _ _ h => h) (Or.inl ⟨by kernel_rfl, ?_⟩) (by kernel_rfl) ?_
      rotate_left
      · intro w; go_simp
        try with_reducible rfl
      refine wpAny_take1 10 (listed' := #[true, true, true, true, true, true, true, true, true, true, true]) ?_ rfl (by kernel_rfl) (by kernel_rfl) (by kernel_rfl) (fun _ _ _ h => h) (Or.inl ⟨by kernel_rfl, ?_⟩) (by kernel_rfl) ?_
      rotate_left
      · intro w; go_simp
        try with_reducible rfl
      refine wpAny_done (by kernel_rfl) ?_ _
      go_wp2
      go_ret
      exact ⟨by kernel_rfl, HB0.out.trans (HB5.out.mono HB0.out.size)⟩
    · refine all_load_g (listed' := #[true, false, true, false, false, false, false, false, false, false, false]) (i := 2) (x := .tmp 7) (g := w0.heap.size) M12 rfl (by rfl) rfl ?_ HM2.out (by kernel_rfl) ?_
      · simp [Act.eval, Act.put]
      refine wpAny_one (i := 1) (by kernel_rfl) ?_
      refine all_call_g (listed' := #[true, true, true, false, false, false, false, false, false, false, false]) (i := 1) (f := 11) rfl (by rfl) rfl ?_ Tryd.func11 (by kernel_rfl) (by kernel_rfl) (letters_xyz w2) (by kernel_rfl) ?_
      · simp [Act.eval, Act.put]
      rintro e w3 ⟨s3, k3, rfl, ho3, hb3⟩
      refine ⟨_, rfl, ?_⟩
      have HO3 := Lib.hid ho3
      have HM3 := Lib.hid ((hb3.block w0.heap.size hlt2).trans HM2.out)
      have HO23 := Lib.hid (HO2.out.later hb3)
      have HB3 := Lib.hid (HB2.out.trans (hb3.mono HB2.out.size))
      clear ho3 hb3
      refine wpAny_one (i := 3) (by kernel_rfl) ?_
      refine all_call_g (listed' := #[true, true, true, true, false, false, false, false, false, false, false]) (i := 3) (f := 10) rfl (by rfl) rfl ?_ Tryd.func10 (by kernel_rfl) (by kernel_rfl) (filled_c s2 2 k2 (gl [97, 38]) s3 3 k3 (gl [120, 121, 122]) M12 w3 (by omega) (by omega) (own_f HO23.out) (own_f HO3.out) (own_nil HO23.out) (own_nil HO3.out) (HT.out.later HB3.out)) (by kernel_rfl) ?_
      · simp [Act.eval, Act.put]
      rintro e w4 ⟨rfl, hb4⟩
      refine ⟨_, rfl, ?_⟩
      have HB4 := Lib.hid (HB3.out.trans (hb4.mono HB3.out.size))
      clear hb4
      refine wpAny_take1 4 (listed' := #[true, true, true, true, true, false, false, false, false, false, false]) ?_ rfl (by kernel_rfl) (by kernel_rfl) (by kernel_rfl) (fun _ _ _ h => h) (Or.inl ⟨by kernel_rfl, ?_⟩) (by kernel_rfl) ?_
      rotate_left
      · intro w; go_simp
        try with_reducible rfl
      refine wpAny_take1 5 (listed' := #[true, true, true, true, true, true, false, false, false, false, false]) ?_ rfl (by kernel_rfl) (by kernel_rfl) (by kernel_rfl) (fun _ _ _ h => h) (Or.inl ⟨by kernel_rfl, ?_⟩) (by kernel_rfl) ?_
      rotate_left
      · intro w; go_simp
        try with_reducible rfl
      refine wpAny_take1 6 (listed' := #[true, true, true, true, true, true, true, false, false, false, false]) ?_ rfl (by kernel_rfl) (by kernel_rfl) (by kernel_rfl) (fun _ _ _ h => h) (Or.inl ⟨by kernel_rfl, ?_⟩) (by kernel_rfl) ?_
      rotate_left
      · intro w; go_simp
        try with_reducible rfl
      refine wpAny_one (i := 7) (by kernel_rfl) ?_
      refine all_load_g (listed' := #[true, true, true, true, true, true, true, true, false, false, false]) (i := 7) (x := .tmp 5) (g := w.heap.size) M rfl (by kernel_rfl) rfl ?_ (HMA.out _ HB4.out) (by kernel_rfl) ?_
      · simp [Act.eval, Act.put]
      refine wpAny_one (i := 8) (by kernel_rfl) ?_
      refine all_call_g (listed' := #[true, true, true, true, true, true, true, true, true, false, false]) (i := 8) (f := 10) rfl (by kernel_rfl) rfl ?_ Tryd.func10 (by kernel_rfl) (by kernel_rfl) (filled_c sa n cap f sb m capb g M w4 hn hm (HR.out.later HB4.out) (HS.out.later HB4.out) hna hnb (HT.out.later HB4.out)) (by kernel_rfl) ?_
      · simp [Act.eval, Act.put]
      rintro e w5 ⟨rfl, hb5⟩
      refine ⟨_, rfl, ?_⟩
      have HB5 := Lib.hid (HB4.out.trans (hb5.mono HB4.out.size))
      clear hb5
      refine wpAny_take1 9 (listed' := #[true, true, true, true, true, true, true, true, true, true, false]) ?_ rfl (by kernel_rfl) (by kernel_rfl) (by kernel_rfl) (fun _ _ _ h => h) (Or.inl ⟨by kernel_rfl, ?_⟩) (by kernel_rfl) ?_
      rotate_left
      · intro w; go_simp
        try with_reducible rfl
      refine wpAny_take1 10 (listed' := #[true, true, true, true, true, true, true, true, true, true, true]) ?_ rfl (by kernel_rfl) (by kernel_rfl) (by kernel_rfl) (fun _ _ _ h => h) (Or.inl ⟨by kernel_rfl, ?_⟩) (by kernel_rfl) ?_
      rotate_left
      · intro w; go_simp
        try with_reducible rfl
      refine wpAny_done (by kernel_rfl) ?_ _
      go_wp2
      go_ret
      exact ⟨by kernel_rfl, HB0.out.trans (HB5.out.mono HB0.out.size)⟩
  · refine all_load_g (listed' := #[false, false, true, false, false, false, false, false, false, false, false]) (i := 2) (x := .tmp 7) (g := w0.heap.size) M12 rfl (by rfl) rfl ?_ HM1D.out (by kernel_rfl) ?_
    · simp [Act.eval, Act.put]
    refine wpAny_one (i := 0) (by kernel_rfl) ?_
    refine all_call_g (listed' := #[true, false, true, false, false, false, false, false, false, false, false]) (i := 0) (f := 11) rfl (by rfl) rfl ?_ Tryd.func11 (by kernel_rfl) (by kernel_rfl) (letters_ap w1.drew) (by kernel_rfl) ?_
    · simp [Act.eval, Act.put]
    rintro e w2 ⟨s2, k2, rfl, ho2, hb2⟩
    refine ⟨_, rfl, ?_⟩
    have HO2 := Lib.hid ho2
    have HM2 := Lib.hid ((hb2.block w0.heap.size hlt1d).trans HM1D.out)
    have hlt2 : w0.heap.size < w2.heap.size := heap_lt HM2.out
    have HB2 := Lib.hid (HB1D.out.trans (hb2.mono HB1D.out.size))
    clear ho2 hb2
    refine wpAny_one (i := 1) (by kernel_rfl) ?_
    refine all_call_g (listed' := #[true, true, true, false, false, false, false, false, false, false, false]) (i := 1) (f := 11) rfl (by rfl) rfl ?_ Tryd.func11 (by kernel_rfl) (by kernel_rfl) (letters_xyz w2) (by kernel_rfl) ?_
    · simp [Act.eval, Act.put]
    rintro e w3 ⟨s3, k3, rfl, ho3, hb3⟩
    refine ⟨_, rfl, ?_⟩
    have HO3 := Lib.hid ho3
    have HM3 := Lib.hid ((hb3.block w0.heap.size hlt2).trans HM2.out)
    have HO23 := Lib.hid (HO2.out.later hb3)
    have HB3 := Lib.hid (HB2.out.trans (hb3.mono HB2.out.size))
    clear ho3 hb3
    refine wpAny_one (i := 3) (by kernel_rfl) ?_
    refine all_call_g (listed' := #[true, true, true, true, false, false, false, false, false, false, false]) (i := 3) (f := 10) rfl (by rfl) rfl ?_ Tryd.func10 (by kernel_rfl) (by kernel_rfl) (filled_c s2 2 k2 (gl [97, 38]) s3 3 k3 (gl [120, 121, 122]) M12 w3 (by omega) (by omega) (own_f HO23.out) (own_f HO3.out) (own_nil HO23.out) (own_nil HO3.out) (HT.out.later HB3.out)) (by kernel_rfl) ?_
    · simp [Act.eval, Act.put]
    rintro e w4 ⟨rfl, hb4⟩
    refine ⟨_, rfl, ?_⟩
    have HB4 := Lib.hid (HB3.out.trans (hb4.mono HB3.out.size))
    clear hb4
    refine wpAny_take1 4 (listed' := #[true, true, true, true, true, false, false, false, false, false, false]) ?_ rfl (by kernel_rfl) (by kernel_rfl) (by kernel_rfl) (fun _ _ _ h => h) (Or.inl ⟨by kernel_rfl, ?_⟩) (by kernel_rfl) ?_
    rotate_left
    · intro w; go_simp
      try with_reducible rfl
    refine wpAny_take1 5 (listed' := #[true, true, true, true, true, true, false, false, false, false, false]) ?_ rfl (by kernel_rfl) (by kernel_rfl) (by kernel_rfl) (fun _ _ _ h => h) (Or.inl ⟨by kernel_rfl, ?_⟩) (by kernel_rfl) ?_
    rotate_left
    · intro w; go_simp
      try with_reducible rfl
    refine wpAny_take1 6 (listed' := #[true, true, true, true, true, true, true, false, false, false, false]) ?_ rfl (by kernel_rfl) (by kernel_rfl) (by kernel_rfl) (fun _ _ _ h => h) (Or.inl ⟨by kernel_rfl, ?_⟩) (by kernel_rfl) ?_
    rotate_left
    · intro w; go_simp
      try with_reducible rfl
    refine wpAny_one (i := 7) (by kernel_rfl) ?_
    refine all_load_g (listed' := #[true, true, true, true, true, true, true, true, false, false, false]) (i := 7) (x := .tmp 5) (g := w.heap.size) M rfl (by kernel_rfl) rfl ?_ (HMA.out _ HB4.out) (by kernel_rfl) ?_
    · simp [Act.eval, Act.put]
    refine wpAny_one (i := 8) (by kernel_rfl) ?_
    refine all_call_g (listed' := #[true, true, true, true, true, true, true, true, true, false, false]) (i := 8) (f := 10) rfl (by kernel_rfl) rfl ?_ Tryd.func10 (by kernel_rfl) (by kernel_rfl) (filled_c sa n cap f sb m capb g M w4 hn hm (HR.out.later HB4.out) (HS.out.later HB4.out) hna hnb (HT.out.later HB4.out)) (by kernel_rfl) ?_
    · simp [Act.eval, Act.put]
    rintro e w5 ⟨rfl, hb5⟩
    refine ⟨_, rfl, ?_⟩
    have HB5 := Lib.hid (HB4.out.trans (hb5.mono HB4.out.size))
    clear hb5
    refine wpAny_take1 9 (listed' := #[true, true, true, true, true, true, true, true, true, true, false]) ?_ rfl (by kernel_rfl) (by kernel_rfl) (by kernel_rfl) (fun _ _ _ h => h) (Or.inl ⟨by kernel_rfl, ?_⟩) (by kernel_rfl) ?_
    rotate_left
    · intro w; go_simp
      try with_reducible rfl
    refine wpAny_take1 10 (listed' := #[true, true, true, true, true, true, true, true, true, true, true]) ?_ rfl (by kernel_rfl) (by kernel_rfl) (by kernel_rfl) (fun _ _ _ h => h) (Or.inl ⟨by kernel_rfl, ?_⟩) (by kernel_rfl) ?_
    rotate_left
    · intro w; go_simp
      try with_reducible rfl
    refine wpAny_done (by kernel_rfl) ?_ _
    go_wp2
    go_ret
    exact ⟨by kernel_rfl, HB0.out.trans (HB5.out.mono HB0.out.size)⟩
end Go.Proofs.YtdegdoilpamjjaaDoor
