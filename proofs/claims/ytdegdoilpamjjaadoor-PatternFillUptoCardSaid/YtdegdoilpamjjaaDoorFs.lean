/- Contracts: filled, the walk of the law PatternFill. Condition: fewer than 2^30 ints of a list. -/
import Derived.Test.YtdegdoilpamjjaaDoorFq
import Derived.Test.YtdegdoilpamjjaaDoorFp
import Derived.Deep.QuietTactic
namespace Go.Proofs.YtdegdoilpamjjaaDoor
open Go.RowKit
set_option linter.unusedVariables false
theorem ints_gl {w : World} {sa : Option Addr} {n : Nat} {f : Nat → Int} (h : IsInts w sa n f) : IsInts w sa n (gl (lst f n)) := h.same (fun i hi => by unfold gl; rw [lst_getD _ _ _ hi])
theorem sames_gl (l : List Int) {n m : Nat} (h1 : n = l.length) (h2 : m = l.length) : sameB (gl l) n (gl l) m = true := by subst h1 h2; exact sameB_refl _ _
theorem num_c (k : Int) (w : World) : Calls Tryd.prog 22 #[.int .i64 k] w fun e w' => e = .returned (.int .i64 k) ∧ w = w' := by
  go_enter Tryd.func22, Tryd.ntmps22
  go_wp2
  go_ret
  exact ⟨rfl, rfl⟩
theorem fillF_len (l line : List Int) (M : Nat → Int) : (fillF l line M).1.length ≤ 140000 := by
  unfold fillF
  split
  · simp
  · cases h : fillGo (execP line M) l.length l FS0 with
    | none => simp [ansF]
    | some s =>
      unfold ansF
      simp only
      split
      · simp
      · show s.out.length ≤ 140000
        omega
/-- a load of a match, as a step of a region that draws -/
theorem step_load_m {ops : Array Oper} {o : Oper} {a : Act} {w : World} {K : Act → World → Prop} {Q : Exit → Act → World → Prop} {E : Prop} (M : Nat → Int) (hgd : o.guard = none) (x : Operand) (ho : o.op = .load 23 x)
    (g : Nat) (hx : a.eval x = .pointer (some ⟨g, 0, none⟩)) (hg : w.heap[g]? = some (.cells (mC M) 23 (0, 0)))
    (h : K (a.put o.dst (.agg (mC M))) w) : if Region.wanted o (yielded ops a.tmps) = true then Oper.wp Tryd.prog o a w K Q else E := by
  have hw : Region.wanted o (yielded ops a.tmps) = true := by simp [Region.wanted, hgd]
  rw [if_pos hw]
  exact wp_load_row 23 x ho g hx _ _ _ _ hg Tryd.underlying23 rfl (mC_info M) h
/-- the same, where it alone may come up -/
theorem wpAny_load_m {md : Region.Mode} {ops : Array Oper} {Q : Exit → Act → World → Prop} {fuel : Nat} {listed listed' : Array Bool} {a : Act} {w : World} {i : Nat} {o : Oper} {x : Operand} {g : Nat} (M : Nat → Int) (hr : Region.ready md ops listed = [i]) (ho : ops[i]? = some o) (hgd : o.guard = none) (hop : o.op = .load 23 x)
    (hx : a.eval x = .pointer (some ⟨g, 0, none⟩)) (hg : w.heap[g]? = some (.cells (mC M) 23 (0, 0)))
    (hl : listed.setIfInBounds i true = listed') (h : wpAny Tryd.prog md ops Q fuel listed' (a.put o.dst (.agg (mC M))) w) : wpAny Tryd.prog md ops Q (fuel + 1) listed a w := by
  subst hl
  exact wpAny_ready hr (by simp) (AllReady.cons ho (fun K hK => step_load_m M hgd x hop g hx hg (hK _ _ h)) AllReady.nil)
/-- a call that alone may come up -/
theorem wpAny_call1 {md : Region.Mode} {ops : Array Oper} {Q : Exit → Act → World → Prop} {fuel : Nat} {listed listed' : Array Bool} {a : Act} {w : World} {i : Nat} {o : Oper} {f : FuncId} {xs : Array Operand} {ts : Array TypeId} {args : Array Value} {R : Ending → World → Prop} (hr : Region.ready md ops listed = [i]) (ho : ops[i]? = some o) (hgd : o.guard = none)
    (hop : o.op = .call { callee := .value (.func f), args := xs, argTypes := ts }) (hargs : xs.map a.eval = args) {fn : Func} (hf : Tryd.prog.funcs[f]? = some fn) (hname : (fn.name == "runtime.NumGoroutine") = false) (hb : fn.body.isNone = false) (hc : Calls Tryd.prog f args w R)
    (hl : listed.setIfInBounds i true = listed') (h : ∀ e w', R e w' → ∃ v, e = .returned v ∧ wpAny Tryd.prog md ops Q fuel listed' (a.put o.dst v) w') : wpAny Tryd.prog md ops Q (fuel + 1) listed a w := by
  subst hl
  refine wpAny_ready hr (by simp) (AllReady.cons ho (fun K hK => ?_) AllReady.nil)
  have hw : Region.wanted o (yielded ops a.tmps) = true := by simp [Region.wanted, hgd]
  rw [if_pos hw]
  subst hargs
  have hrun : (callFunc f (xs.map a.eval)).run Tryd.prog w = .ok (.enter f (xs.map a.eval)) w := by
    have h1 : fn.name ≠ "runtime.NumGoroutine" := by simpa using hname
    have h2 : ¬ fn.body = none := by intro e; rw [e] at hb; cases hb
    simp [callFunc, go_sem, hf, h1, h2]
  unfold Oper.wp
  simp only [execOp, hop]
  simp [go_sem]
  rw [hrun]
  refine hc.mono ?_
  intro e w' hR
  obtain ⟨v, rfl, hv⟩ := h e w' hR
  exact hK _ _ hv
/-- an operation that yields, whatever the world -/
theorem wpAny_take1 {md : Region.Mode} {ops : Array Oper} {Q : Exit → Act → World → Prop} {fuel : Nat} {listed listed' : Array Bool} {a : Act} {w : World} (i : Nat) {o : Oper} (v : Value) (ho : ops[i]? = some o) (hs : Region.noSelect ops = true) (hf : Region.free md ops listed i = true) (hr : (Region.ready md ops listed).contains i = true)
    (hQ : ∀ c a w, Q (.panic c) (a.put o.dst v) w → Q (.panic c) a w) (hy : Yields Tryd.prog ops o v a) (hl : listed.setIfInBounds i true = listed')
    (h : wpAny Tryd.prog md ops Q fuel listed' (a.put o.dst v) w) : wpAny Tryd.prog md ops Q (fuel + 1) listed a w := by
  subst hl
  exact wpAny_take ho hs hf hr hQ hy h
/-- the same, as one of those that may come up -/
theorem all_load_m {md : Region.Mode} {ops : Array Oper} {Q : Exit → Act → World → Prop} {fuel : Nat} {listed listed' : Array Bool} {a : Act} {w : World} {i : Nat} {o : Oper} {x : Operand} {g : Nat} (M : Nat → Int) (ho : ops[i]? = some o) (hgd : o.guard = none) (hop : o.op = .load 23 x)
    (hx : a.eval x = .pointer (some ⟨g, 0, none⟩)) (hg : w.heap[g]? = some (.cells (mC M) 23 (0, 0)))
    (hl : listed.setIfInBounds i true = listed') (h : wpAny Tryd.prog md ops Q fuel listed' (a.put o.dst (.agg (mC M))) w) : AllReady Tryd.prog md ops Q fuel listed a w [i] := by
  subst hl
  exact AllReady.cons ho (fun K hK => step_load_m M hgd x hop g hx hg (hK _ _ h)) AllReady.nil
/-- a call, as one of those that may come up -/
theorem all_call1 {md : Region.Mode} {ops : Array Oper} {Q : Exit → Act → World → Prop} {fuel : Nat} {listed listed' : Array Bool} {a : Act} {w : World} {i : Nat} {o : Oper} {f : FuncId} {xs : Array Operand} {ts : Array TypeId} {args : Array Value} {R : Ending → World → Prop} (ho : ops[i]? = some o) (hgd : o.guard = none)
    (hop : o.op = .call { callee := .value (.func f), args := xs, argTypes := ts }) (hargs : xs.map a.eval = args) {fn : Func} (hf : Tryd.prog.funcs[f]? = some fn) (hname : (fn.name == "runtime.NumGoroutine") = false) (hb : fn.body.isNone = false) (hc : Calls Tryd.prog f args w R)
    (hl : listed.setIfInBounds i true = listed') (h : ∀ e w', R e w' → ∃ v, e = .returned v ∧ wpAny Tryd.prog md ops Q fuel listed' (a.put o.dst v) w') : AllReady Tryd.prog md ops Q fuel listed a w [i] := by
  subst hl
  refine AllReady.cons ho (fun K hK => ?_) AllReady.nil
  have hw : Region.wanted o (yielded ops a.tmps) = true := by simp [Region.wanted, hgd]
  rw [if_pos hw]
  subst hargs
  have hrun : (callFunc f (xs.map a.eval)).run Tryd.prog w = .ok (.enter f (xs.map a.eval)) w := by
    have h1 : fn.name ≠ "runtime.NumGoroutine" := by simpa using hname
    have h2 : ¬ fn.body = none := by intro e; rw [e] at hb; cases hb
    simp [callFunc, go_sem, hf, h1, h2]
  unfold Oper.wp
  simp only [execOp, hop]
  simp [go_sem]
  rw [hrun]
  refine hc.mono ?_
  intro e w' hR
  obtain ⟨v, rfl, hv⟩ := h e w' hR
  exact hK _ _ hv
theorem wpAny_two {md : Region.Mode} {ops : Array Oper} {Q : Exit → Act → World → Prop} {fuel : Nat} {listed : Array Bool} {a : Act} {w : World} {i j : Nat} (hr : Region.ready md ops listed = [i, j]) (h1 : AllReady Tryd.prog md ops Q fuel listed a w [i]) (h2 : AllReady Tryd.prog md ops Q fuel listed a w [j]) : wpAny Tryd.prog md ops Q (fuel + 1) listed a w :=
  wpAny_ready hr (by simp) (fun k hk => by
    rcases List.mem_cons.1 hk with rfl | hk
    · exact h1 _ (by simp)
    · exact h2 _ hk)
theorem own_keep {w w' : World} {B q : Nat} {v : Value} {l : List Int} (h : OwnInts w B v l) (hq : q < B) (he : ∀ b, b < w.heap.size → b ≠ q → w'.heap[b]? = w.heap[b]?) : OwnInts w' B v l := h.kept (fun b hb hv => he b hb (by have := (h.lt b hv).1; omega))
theorem own_f {w : World} {B n c : Nat} {s : Option Addr} {f : Nat → Int} (h : OwnInts w B (.slice s n c) (lst f n)) : IsInts w s n f := h.is.same (fun i hi => by unfold gl; rw [lst_getD _ _ _ hi])
set_option maxRecDepth 100000 in
set_option maxHeartbeats 8000000 in
theorem filled_c (sa : Option Addr) (n cap : Nat) (f : Nat → Int) (sb : Option Addr) (m capb : Nat) (g : Nat → Int) (M : Nat → Int) (w : World) (hn : n < 1000000000) (hm : m < 1000000000) (hr : IsInts w sa n f) (hs : IsInts w sb m g) (hna : sa = none → n = 0 ∧ cap = 0) (hnb : sb = none → m = 0 ∧ capb = 0) (ht : Tabs w) :
    Calls Tryd.prog 10 #[.slice sa n cap, .slice sb m capb, .agg (mC M)] w fun e w' => e = .returned (.bool true) ∧ Below w.heap.size w w' := by
  have hmt : (w.alloc (.cells (mC M) 23)).heap[w.heap.size]? = some (.cells (mC M) 23 (0, 0)) := one_new w _
  have hb0 := below_new2 w (.cells (mC M) 23)
  have hsz : (w.alloc (.cells (mC M) 23)).heap.size = w.heap.size + 1 := by simp
  generalize hw : w.alloc (.cells (mC M) 23) = w0 at *
  have HR := Lib.hid (hr.later hb0)
  have HS := Lib.hid (hs.later hb0)
  have HT := Lib.hid (ht.later hb0)
  have HB0 := Lib.hid hb0
  have HMT := Lib.hid hmt
  have HZ := Lib.hid hsz
  clear hr hs ht hb0 hmt hsz
  go_enter Tryd.func10, Tryd.ntmps10
  go_wp2_with fail
  refine (lend_c sa n cap f w0 (by omega) HR.out hna).mono ?_
  rintro e w1 ⟨g1, c1, rfl, hg1, hc1, hx1, hrm1, hb1⟩
  have HB1 := Lib.hid hb1
  have HRM1 := Lib.hid hrm1
  clear hb1 hrm1
  have e0 : (n : Int) ≤ (c1 : Int) := by omega
  go_wp2_with fail
  refine (lend_c sb m capb g w1 (by omega) (HS.out.later HB1.out) hnb).mono ?_
  rintro e w2 ⟨g2, c2, rfl, hg2, hc2, hx2, hrm2, hb2⟩
  have e1 : (m : Int) ≤ (c2 : Int) := by omega
  have hs1 := HB1.out.size
  have hs2 := hb2.size
  have HG2 := Lib.hid hrm2.lt
  have HRM2 := Lib.hid hrm2
  have HRM1' := Lib.hid (HRM1.out.later hb2)
  have HG1 := Lib.hid HRM1.out.lt
  have HB2 := Lib.hid (bt HB1.out hb2)
  clear hb2 hrm2 HB1 HRM1
  have HMW := Lib.hid ((HB2.out.block w.heap.size (by have := HZ.out; omega)).trans HMT.out)
  have hd2 : Below w2.heap.size w2 w2.drew := (Below.refl _ _).drew
  have HMD := Lib.hid (show w2.drew.heap[w.heap.size]? = some (.cells (mC M) 23 (0, 0)) from HMW.out)
  have hri : IsInts w2 (some ⟨g1, 0, none⟩) n (gl (lst f n)) := (HRM1'.out.ints (n := n) (by omega)).same (fun i hi => by rw [if_pos hi]; unfold gl; rw [lst_getD _ _ _ hi])
  have hsi : IsInts w2 (some ⟨g2, 0, none⟩) m g := (HRM2.out.ints (n := m) (by omega)).same (fun i hi => by rw [if_pos hi])
  have HRI := Lib.hid (hri.later hd2)
  have HSI := Lib.hid (hsi.later hd2)
  have HTD := Lib.hid ((HT.out.later HB2.out).later hd2)
  have HC := Lib.hid (show g1 < w2.drew.heap.size ∧ g2 < w2.drew.heap.size ∧ n < c1 ∧ m < 1073741824 ∧ m ≤ c2 from ⟨Nat.lt_of_lt_of_le HG1.out hs2, HG2.out, by omega, by omega, by omega⟩)
  clear hri hsi hd2
  go_wp2_with fail
  refine wp_region_any (by kernel_rfl) ?_
  change wpAny _ _ _ _ _ #[false, false, false, false, false, false, false, false, false, false, false, false, false, false, false] _ (World.drew _)
  refine wpAny_take1 0 (listed' := #[true, false, false, false, false, false, false, false, false, false, false, false, false, false, false]) ?_ rfl (by kernel_rfl) (by kernel_rfl) (by kernel_rfl) (fun _ _ _ h => h) (Or.inl ⟨by rfl, ?_⟩) (by kernel_rfl) ?_
  rotate_left
  · intro w; go_simp
    try with_reducible rfl
  refine wpAny_take1 1 (listed' := #[true, true, false, false, false, false, false, false, false, false, false, false, false, false, false]) ?_ rfl (by kernel_rfl) (by kernel_rfl) (by kernel_rfl) (fun _ _ _ h => h) (Or.inl ⟨by rfl, ?_⟩) (by kernel_rfl) ?_
  rotate_left
  · intro w; go_simp
    try with_reducible rfl
  refine wpAny_take1 2 (listed' := #[true, true, true, false, false, false, false, false, false, false, false, false, false, false, false]) ?_ rfl (by kernel_rfl) (by kernel_rfl) (by kernel_rfl) (fun _ _ _ h => h) (Or.inl ⟨by rfl, ?_⟩) (by kernel_rfl) ?_
  rotate_left
  · intro w; go_simp
    try with_reducible rfl
  refine wpAny_take1 3 (listed' := #[true, true, true, true, false, false, false, false, false, false, false, false, false, false, false]) ?_ rfl (by kernel_rfl) (by kernel_rfl) (by kernel_rfl) (fun _ _ _ h => h) (Or.inl ⟨by rfl, ?_⟩) (by kernel_rfl) ?_
  rotate_left
  · intro w; go_simp
    try with_reducible rfl
  refine wpAny_take1 4 (listed' := #[true, true, true, true, true, false, false, false, false, false, false, false, false, false, false]) ?_ rfl (by kernel_rfl) (by kernel_rfl) (by kernel_rfl) (fun _ _ _ h => h) (Or.inl ⟨by rfl, ?_⟩) (by kernel_rfl) ?_
  rotate_left
  · intro w; go_simp
    try with_reducible rfl
  refine wpAny_take1 5 (listed' := #[true, true, true, true, true, true, false, false, false, false, false, false, false, false, false]) ?_ rfl (by kernel_rfl) (by kernel_rfl) (by kernel_rfl) (fun _ _ _ h => h) (Or.inl ⟨by rfl, ?_⟩) (by kernel_rfl) ?_
  rotate_left
  · intro w; go_simp
    try with_reducible rfl
  refine wpAny_take1 6 (listed' := #[true, true, true, true, true, true, true, false, false, false, false, false, false, false, false]) ?_ rfl (by kernel_rfl) (by kernel_rfl) (by kernel_rfl) (fun _ _ _ h => h) (Or.inl ⟨by rfl, ?_⟩) (by kernel_rfl) ?_
  rotate_left
  · intro w; go_simp
    try with_reducible rfl
  refine wpAny_take1 7 (listed' := #[true, true, true, true, true, true, true, true, false, false, false, false, false, false, false]) ?_ rfl (by kernel_rfl) (by kernel_rfl) (by kernel_rfl) (fun _ _ _ h => h) (Or.inl ⟨by rfl, ?_⟩) (by kernel_rfl) ?_
  rotate_left
  · intro w; go_simp
    try with_reducible rfl
  refine wpAny_load_m (listed' := #[true, true, true, true, true, true, true, true, true, false, false, false, false, false, false]) (i := 8) (x := .tmp 5) (g := w.heap.size) M (by kernel_rfl) rfl rfl rfl ?_ HMD.out (by kernel_rfl) ?_
  · simp [Act.eval, Act.put]
  refine wpAny_call1 (listed' := #[true, true, true, true, true, true, true, true, true, true, false, false, false, false, false]) (i := 9) (f := 25) (by kernel_rfl) rfl rfl rfl ?_ Tryd.func25 (by kernel_rfl) (by kernel_rfl) (fill_c g1 0 n c1 (lst f n) g2 0 m c2 g M w2.drew (lst_len _ _) HC.out.2.2.1 HRI.out HC.out.1 HTD.out HSI.out HC.out.2.1 HC.out.2.2.2.1 HC.out.2.2.2.2) (by kernel_rfl) ?_
  · simp [Act.eval, Act.put]
  rintro e w3 ⟨hb3, s3, m3, k3, rfl, ho3⟩
  refine ⟨_, rfl, ?_⟩
  have HB3 := Lib.hid (HB2.out.trans (((Below.refl w2.heap.size w2).drew.trans hb3).mono HB2.out.size))
  have HB23 := Lib.hid ((Below.refl w2.heap.size w2).drew.trans hb3)
  have HO3 := Lib.hid ho3
  clear hb3 ho3 HRI HSI HTD HMD
  refine wpAny_take1 10 (listed' := #[true, true, true, true, true, true, true, true, true, true, true, false, false, false, false]) ?_ rfl (by kernel_rfl) (by kernel_rfl) (by kernel_rfl) (fun _ _ _ h => h) (Or.inl ⟨by rfl, ?_⟩) (by kernel_rfl) ?_
  rotate_left
  · intro w; go_simp
    try with_reducible rfl
  refine wpAny_take1 11 (listed' := #[true, true, true, true, true, true, true, true, true, true, true, true, false, false, false]) ?_ rfl (by kernel_rfl) (by kernel_rfl) (by kernel_rfl) (fun _ _ _ h => h) (Or.inl ⟨by rfl, ?_⟩) (by kernel_rfl) ?_
  rotate_left
  · intro w; go_simp
    try with_reducible rfl
  refine wpAny_take1 12 (listed' := #[true, true, true, true, true, true, true, true, true, true, true, true, true, false, false]) ?_ rfl (by kernel_rfl) (by kernel_rfl) (by kernel_rfl) (fun _ _ _ h => h) (Or.inl ⟨by rfl, ?_⟩) (by kernel_rfl) ?_
  rotate_left
  · intro w; go_simp
    try with_reducible rfl
  refine wpAny_take1 13 (listed' := #[true, true, true, true, true, true, true, true, true, true, true, true, true, true, false]) ?_ rfl (by kernel_rfl) (by kernel_rfl) (by kernel_rfl) (fun _ _ _ h => h) (Or.inl ⟨by rfl, ?_⟩) (by kernel_rfl) ?_
  rotate_left
  · intro w; go_simp
    try with_reducible rfl
  refine wpAny_take1 14 (listed' := #[true, true, true, true, true, true, true, true, true, true, true, true, true, true, true]) ?_ rfl (by kernel_rfl) (by kernel_rfl) (by kernel_rfl) (fun _ _ _ h => h) (Or.inl ⟨by rfl, ?_⟩) (by kernel_rfl) ?_
  rotate_left
  · intro w; go_simp
    try with_reducible rfl
  refine wpAny_done (by kernel_rfl) ?_ _
  obtain ⟨R, hR⟩ : ∃ R, fillF (lst f n) (lst g m) M = R := ⟨_, rfl⟩
  rw [hR] at HO3 ⊢
  have HRR := Lib.hid hR
  clear hR
  obtain ⟨L, K⟩ := R
  have hm3 := HO3.out.len
  have hL3 := fillF_len (lst f n) (lst g m) M
  rw [HRR.out] at hL3
  simp only at HO3 hm3 hL3
  have HLL := Lib.hid (And.intro hm3 hL3)
  clear hm3 hL3
  have HMW3 := Lib.hid ((HB23.out.block w.heap.size (by have := HZ.out; omega)).trans HMW.out)
  go_wp2_with (first
    | (refine wpList_load_row rfl 23 _ rfl w.heap.size rfl _ _ _ _ HMW3.out Tryd.underlying23 rfl (mC_info M) ?_)
    | (go_at_call 29; refine (rfill_c sa n cap (lst f n) sb m capb g M w3 (lst_len _ _) (ints_gl (HR.out.later HB3.out)) (HS.out.later HB3.out) (by omega)).mono ?_; rintro e w4 ⟨hb4, s4, m4, k4, rfl, ho4⟩; rw [HRR.out] at ho4 ⊢; have HB4 := Lib.hid hb4; have HO4 := Lib.hid ho4; clear hb4 ho4))
  have HZ0 := Lib.hid (show w0.heap.size ≤ w4.heap.size from Nat.le_trans HB3.out.size HB4.out.size)
  have HB04 := Lib.hid (HB3.out.trans (HB4.out.mono HB3.out.size))
  have HRM14 := Lib.hid ((HRM1'.out.later HB23.out).later HB4.out)
  have HRM24 := Lib.hid ((HRM2.out.later HB23.out).later HB4.out)
  refine (kept_c g1 c1 n cap sa f (fun j => if j < n then f j else mkF j) w4 hc1 hx1 HRM14.out (HR.out.later HB04.out) (fun j _ => rfl)).mono ?_
  rintro e w5 ⟨rfl, hrm5, hb5, he5⟩
  have HRM5 := Lib.hid hrm5
  have HB45 := Lib.hid (hb5 w0.heap.size hg1 HZ0.out)
  have HE5 := Lib.hid he5
  clear hrm5 hb5 he5
  have HB05 := Lib.hid (HB04.out.trans HB45.out)
  have hg12 : g2 ≠ g1 := by have := HG1.out; omega
  have HRM25 := Lib.hid (HRM24.out.block (HE5.out g2 HRM24.out.lt hg12))
  have HSZ5 := Lib.hid (show w4.heap.size ≤ w5.heap.size from Nat.le_trans (Nat.le_refl _) HB45.out.size)
  go_wp2_with fail
  refine (kept_c g2 c2 m capb sb g (fun j => if j < m then g j else mkF j) w5 hc2 hx2 HRM25.out (HS.out.later HB05.out) (fun j _ => rfl)).mono ?_
  rintro e w6 ⟨rfl, hrm6, hb6, he6⟩
  have HRM26 := Lib.hid hrm6
  have HRM16 := Lib.hid (HRM5.out.block (he6 g1 HRM5.out.lt (fun e => hg12 e.symm)))
  have HB56 := Lib.hid (hb6 w0.heap.size (Nat.le_trans hs1 hg2) HB05.out.size)
  have HE6 := Lib.hid he6
  clear hrm6 hb6 he6
  have HB06 := Lib.hid (HB05.out.trans HB56.out)
  have hsd : w2.drew.heap.size = w2.heap.size := rfl
  have HI3 := Lib.hid ((own_keep (own_keep (HO3.out.later HB4.out) (q := g1) (by have := HG1.out; omega) HE5.out) (q := g2) (by have := HG2.out; omega) HE6.out).is)
  have HI4 := Lib.hid ((own_keep (own_keep HO4.out (q := g1) (by have := HG1.out; have := HB23.out.size; omega) HE5.out) (q := g2) (by have := HG2.out; have := HB23.out.size; omega) HE6.out).is)
  have HL4 := Lib.hid HO4.out.len
  clear hsd
  have HMX := Lib.hid (show m3 ≤ maxLen ∧ m4 ≤ maxLen by have h1 := HLL.out; have h2 := HL4.out; unfold maxLen; omega)
  go_wp2_with (first
    | (go_at_call 22; refine (num_c K _).mono ?_; rintro e w' ⟨rfl, rfl⟩)
    | (go_at_call 15; refine (same_any s3 s4 m3 k3 m4 k4 (gl L) (gl L) w6 HMX.out.1 HMX.out.2 HI3.out HI4.out).mono ?_; rintro e w7 ⟨rfl, hb7⟩; rw [sames_gl L HLL.out.1 HL4.out]; have HB7 := Lib.hid hb7; clear hb7))
  have HB07 := Lib.hid (HB06.out.trans (HB7.out.mono HB06.out.size))
  have HRM17 := Lib.hid (HRM16.out.later HB7.out)
  have HRM27 := Lib.hid (HRM26.out.later HB7.out)
  have hd7 : Below w7.heap.size w7 w7.drew := (Below.refl _ _).drew
  have HM7 := Lib.hid (show w7.drew.heap[w.heap.size]? = some (.cells (mC M) 23 (0, 0)) from (HB07.out.block w.heap.size (by have := HZ.out; omega)).trans HMT.out)
  have HRI := Lib.hid (ints_gl ((HRM17.out.ints (n := n) (by omega)).later hd7))
  have HSI := Lib.hid ((HRM27.out.ints (n := m) (by omega)).later hd7)
  have HTD := Lib.hid ((HT.out.later HB07.out).later hd7)
  have HC7 := Lib.hid (show g1 < w7.drew.heap.size ∧ g2 < w7.drew.heap.size ∧ n < c1 ∧ m < 1073741824 ∧ m ≤ c2 from ⟨HRM17.out.lt, HRM27.out.lt, by omega, by omega, by omega⟩)
  clear hd7 HI3 HI4 HO3 HO4 HE5 HE6 HRM25 HRM14 HRM24 HRM1' HRM2 HMW3 HMW HB23
  refine wp_region_any (by kernel_rfl) ?_
  change wpAny _ _ _ _ _ #[false, false, false, false, false, false, false, false, false, false, false, false, false, false, false] _ (World.drew _)
  refine wpAny_take1 0 (listed' := #[true, false, false, false, false, false, false, false, false, false, false, false, false, false, false]) ?_ rfl (by kernel_rfl) (by kernel_rfl) (by kernel_rfl) (fun _ _ _ h => h) (Or.inl ⟨by rfl, ?_⟩) (by kernel_rfl) ?_
  rotate_left
  · intro w; go_simp
    try with_reducible rfl
  refine wpAny_take1 1 (listed' := #[true, true, false, false, false, false, false, false, false, false, false, false, false, false, false]) ?_ rfl (by kernel_rfl) (by kernel_rfl) (by kernel_rfl) (fun _ _ _ h => h) (Or.inl ⟨by rfl, ?_⟩) (by kernel_rfl) ?_
  rotate_left
  · intro w; go_simp
    try with_reducible rfl
  refine wpAny_take1 2 (listed' := #[true, true, true, false, false, false, false, false, false, false, false, false, false, false, false]) ?_ rfl (by kernel_rfl) (by kernel_rfl) (by kernel_rfl) (fun _ _ _ h => h) (Or.inl ⟨by rfl, ?_⟩) (by kernel_rfl) ?_
  rotate_left
  · intro w; go_simp
    try with_reducible rfl
  refine wpAny_take1 3 (listed' := #[true, true, true, true, false, false, false, false, false, false, false, false, false, false, false]) ?_ rfl (by kernel_rfl) (by kernel_rfl) (by kernel_rfl) (fun _ _ _ h => h) (Or.inl ⟨by rfl, ?_⟩) (by kernel_rfl) ?_
  rotate_left
  · intro w; go_simp
    try with_reducible rfl
  refine wpAny_take1 4 (listed' := #[true, true, true, true, true, false, false, false, false, false, false, false, false, false, false]) ?_ rfl (by kernel_rfl) (by kernel_rfl) (by kernel_rfl) (fun _ _ _ h => h) (Or.inl ⟨by rfl, ?_⟩) (by kernel_rfl) ?_
  rotate_left
  · intro w; go_simp
    try with_reducible rfl
  refine wpAny_take1 5 (listed' := #[true, true, true, true, true, true, false, false, false, false, false, false, false, false, false]) ?_ rfl (by kernel_rfl) (by kernel_rfl) (by kernel_rfl) (fun _ _ _ h => h) (Or.inl ⟨by rfl, ?_⟩) (by kernel_rfl) ?_
  rotate_left
  · intro w; go_simp
    try with_reducible rfl
  refine wpAny_take1 6 (listed' := #[true, true, true, true, true, true, true, false, false, false, false, false, false, false, false]) ?_ rfl (by kernel_rfl) (by kernel_rfl) (by kernel_rfl) (fun _ _ _ h => h) (Or.inl ⟨by rfl, ?_⟩) (by kernel_rfl) ?_
  rotate_left
  · intro w; go_simp
    try with_reducible rfl
  refine wpAny_take1 7 (listed' := #[true, true, true, true, true, true, true, true, false, false, false, false, false, false, false]) ?_ rfl (by kernel_rfl) (by kernel_rfl) (by kernel_rfl) (fun _ _ _ h => h) (Or.inl ⟨by rfl, ?_⟩) (by kernel_rfl) ?_
  rotate_left
  · intro w; go_simp
    try with_reducible rfl
  refine wpAny_load_m (listed' := #[true, true, true, true, true, true, true, true, true, false, false, false, false, false, false]) (i := 8) (x := .tmp 5) (g := w.heap.size) M (by kernel_rfl) rfl rfl rfl ?_ HM7.out (by kernel_rfl) ?_
  · simp [Act.eval, Act.put]
  refine wpAny_call1 (listed' := #[true, true, true, true, true, true, true, true, true, true, false, false, false, false, false]) (i := 9) (f := 25) (by kernel_rfl) rfl rfl rfl ?_ Tryd.func25 (by kernel_rfl) (by kernel_rfl) (fill_c g1 0 n c1 (lst abF n) g2 0 m c2 abF M w7.drew (lst_len _ _) HC7.out.2.2.1 HRI.out HC7.out.1 HTD.out HSI.out HC7.out.2.1 HC7.out.2.2.2.1 HC7.out.2.2.2.2) (by kernel_rfl) ?_
  · simp [Act.eval, Act.put]
  rintro e w8 ⟨hb8, s8, m8, k8, rfl, ho8⟩
  refine ⟨_, rfl, ?_⟩
  have HB78 := Lib.hid ((Below.refl w7.heap.size w7).drew.trans hb8)
  have HB08 := Lib.hid (HB07.out.trans (((Below.refl w7.heap.size w7).drew.trans hb8).mono HB07.out.size))
  have HO8 := Lib.hid ho8
  clear hb8 ho8 HRI HSI HTD HM7
  refine wpAny_take1 10 (listed' := #[true, true, true, true, true, true, true, true, true, true, true, false, false, false, false]) ?_ rfl (by kernel_rfl) (by kernel_rfl) (by kernel_rfl) (fun _ _ _ h => h) (Or.inl ⟨by rfl, ?_⟩) (by kernel_rfl) ?_
  rotate_left
  · intro w; go_simp
    try with_reducible rfl
  refine wpAny_take1 11 (listed' := #[true, true, true, true, true, true, true, true, true, true, true, true, false, false, false]) ?_ rfl (by kernel_rfl) (by kernel_rfl) (by kernel_rfl) (fun _ _ _ h => h) (Or.inl ⟨by rfl, ?_⟩) (by kernel_rfl) ?_
  rotate_left
  · intro w; go_simp
    try with_reducible rfl
  refine wpAny_take1 12 (listed' := #[true, true, true, true, true, true, true, true, true, true, true, true, true, false, false]) ?_ rfl (by kernel_rfl) (by kernel_rfl) (by kernel_rfl) (fun _ _ _ h => h) (Or.inl ⟨by rfl, ?_⟩) (by kernel_rfl) ?_
  rotate_left
  · intro w; go_simp
    try with_reducible rfl
  refine wpAny_take1 13 (listed' := #[true, true, true, true, true, true, true, true, true, true, true, true, true, true, false]) ?_ rfl (by kernel_rfl) (by kernel_rfl) (by kernel_rfl) (fun _ _ _ h => h) (Or.inl ⟨by rfl, ?_⟩) (by kernel_rfl) ?_
  rotate_left
  · intro w; go_simp
    try with_reducible rfl
  refine wpAny_take1 14 (listed' := #[true, true, true, true, true, true, true, true, true, true, true, true, true, true, true]) ?_ rfl (by kernel_rfl) (by kernel_rfl) (by kernel_rfl) (fun _ _ _ h => h) (Or.inl ⟨by rfl, ?_⟩) (by kernel_rfl) ?_
  rotate_left
  · intro w; go_simp
    try with_reducible rfl
  refine wpAny_done (by kernel_rfl) ?_ _
  obtain ⟨R2, hR2⟩ : ∃ R, fillF (lst abF n) (lst abF m) M = R := ⟨_, rfl⟩
  rw [hR2] at HO8 ⊢
  have HRR2 := Lib.hid hR2
  clear hR2
  obtain ⟨L2, K2⟩ := R2
  have hm8 := HO8.out.len
  have hL8 := fillF_len (lst abF n) (lst abF m) M
  rw [HRR2.out] at hL8
  simp only at HO8 hm8 hL8
  have HLL8 := Lib.hid (And.intro hm8 hL8)
  clear hm8 hL8
  go_wp2_with fail
  have HRM18 := Lib.hid (HRM17.out.later HB78.out)
  have HRM28 := Lib.hid (HRM27.out.later HB78.out)
  have HMA := Lib.hid (fun (w' : World) (h : Below w0.heap.size w0 w') => (h.block w.heap.size (by have := HZ.out; omega)).trans HMT.out)
  have HB8D := Lib.hid (HB08.out.drew)
  have HG18 := Lib.hid ((HRM18.out.ints (n := n) (by omega)).later (Below.refl w8.heap.size w8).drew)
  have HG28 := Lib.hid ((HRM28.out.ints (n := m) (by omega)).later (Below.refl w8.heap.size w8).drew)
  have HO8D := Lib.hid (HO8.out.later (Below.refl w8.heap.size w8).drew)
  clear HMT HRR HC HC7 HRM16 HRM26 HRM17 HRM27 HRM18 HRM28 HMX HLL HL4 HO8
  refine wp_region_any (by kernel_rfl) ?_
  change wpAny _ _ _ _ _ #[false, false, false, false, false, false, false, false, false, false, false, false, false, false, false, false, false] _ (World.drew _)
  refine wpAny_take1 0 (listed' := #[true, false, false, false, false, false, false, false, false, false, false, false, false, false, false, false, false]) ?_ rfl (by kernel_rfl) (by kernel_rfl) (by kernel_rfl) (fun _ _ _ h => h) (Or.inl ⟨by rfl, ?_⟩) (by kernel_rfl) ?_
  rotate_left
  · intro w; go_simp
    try with_reducible rfl
  refine wpAny_take1 1 (listed' := #[true, true, false, false, false, false, false, false, false, false, false, false, false, false, false, false, false]) ?_ rfl (by kernel_rfl) (by kernel_rfl) (by kernel_rfl) (fun _ _ _ h => h) (Or.inl ⟨by rfl, ?_⟩) (by kernel_rfl) ?_
  rotate_left
  · intro w; go_simp
    try with_reducible rfl
  refine wpAny_take1 2 (listed' := #[true, true, true, false, false, false, false, false, false, false, false, false, false, false, false, false, false]) ?_ rfl (by kernel_rfl) (by kernel_rfl) (by kernel_rfl) (fun _ _ _ h => h) (Or.inl ⟨by rfl, ?_⟩) (by kernel_rfl) ?_
  rotate_left
  · intro w; go_simp
    try with_reducible rfl
  refine wpAny_take1 3 (listed' := #[true, true, true, true, false, false, false, false, false, false, false, false, false, false, false, false, false]) ?_ rfl (by kernel_rfl) (by kernel_rfl) (by kernel_rfl) (fun _ _ _ h => h) (Or.inl ⟨by rfl, ?_⟩) (by kernel_rfl) ?_
  rotate_left
  · intro w; go_simp
    try with_reducible rfl
  refine wpAny_take1 5 (listed' := #[true, true, true, true, false, true, false, false, false, false, false, false, false, false, false, false, false]) ?_ rfl (by kernel_rfl) (by kernel_rfl) (by kernel_rfl) (fun _ _ _ h => h) (Or.inl ⟨by rfl, ?_⟩) (by kernel_rfl) ?_
  rotate_left
  · intro w; go_simp
    try with_reducible rfl
  refine wpAny_take1 6 (listed' := #[true, true, true, true, false, true, true, false, false, false, false, false, false, false, false, false, false]) ?_ rfl (by kernel_rfl) (by kernel_rfl) (by kernel_rfl) (fun _ _ _ h => h) (Or.inl ⟨by rfl, ?_⟩) (by kernel_rfl) ?_
  rotate_left
  · intro w; go_simp
    try with_reducible rfl
  refine wpAny_take1 7 (listed' := #[true, true, true, true, false, true, true, true, false, false, false, false, false, false, false, false, false]) ?_ rfl (by kernel_rfl) (by kernel_rfl) (by kernel_rfl) (fun _ _ _ h => h) (Or.inl ⟨by rfl, ?_⟩) (by kernel_rfl) ?_
  rotate_left
  · intro w; go_simp
    try with_reducible rfl
  refine wpAny_take1 8 (listed' := #[true, true, true, true, false, true, true, true, true, false, false, false, false, false, false, false, false]) ?_ rfl (by kernel_rfl) (by kernel_rfl) (by kernel_rfl) (fun _ _ _ h => h) (Or.inl ⟨by rfl, ?_⟩) (by kernel_rfl) ?_
  rotate_left
  · intro w; go_simp
    try with_reducible rfl
  refine wpAny_two (i := 4) (j := 10) (by kernel_rfl) ?_ ?_
  · refine all_call1 (listed' := #[true, true, true, true, true, true, true, true, true, false, false, false, false, false, false, false, false]) (i := 4) (f := 31) rfl rfl rfl ?_ Tryd.func31 (by kernel_rfl) (by kernel_rfl) (copied_c (some ⟨g1, 0, none⟩) n c1 abF w8.drew (by omega) HG18.out (by intro h; cases h)) (by kernel_rfl) ?_
    · simp [Act.eval, Act.put]
    rintro e w9 ⟨s9, k9, rfl, ho9, hb9⟩
    refine ⟨_, rfl, ?_⟩
    have HO9 := Lib.hid ho9
    have HB9 := Lib.hid (HB8D.out.trans (hb9.mono HB8D.out.size))
    have HG29 := Lib.hid (HG28.out.later hb9)
    have HO89 := Lib.hid (HO8D.out.later hb9)
    clear ho9 hb9
    refine wpAny_two (i := 9) (j := 10) (by kernel_rfl) ?_ ?_
    · refine all_call1 (listed' := #[true, true, true, true, true, true, true, true, true, true, false, false, false, false, false, false, false]) (i := 9) (f := 31) rfl rfl rfl ?_ Tryd.func31 (by kernel_rfl) (by kernel_rfl) (copied_c (some ⟨g2, 0, none⟩) m c2 abF w9 (by omega) HG29.out (by intro h; cases h)) (by kernel_rfl) ?_
      · simp [Act.eval, Act.put]
      rintro e w10 ⟨s10, k10, rfl, ho10, hb10⟩
      refine ⟨_, rfl, ?_⟩
      have HO10 := Lib.hid ho10
      have HB10 := Lib.hid (HB9.out.trans (hb10.mono HB9.out.size))
      have HO910 := Lib.hid (HO9.out.later hb10)
      have HO810 := Lib.hid (HO89.out.later hb10)
      clear ho10 hb10
      refine wpAny_load_m (listed' := #[true, true, true, true, true, true, true, true, true, true, true, false, false, false, false, false, false]) (i := 10) (x := .tmp 5) (g := w.heap.size) M (by kernel_rfl) rfl rfl rfl ?_ (HMA.out _ HB10.out) (by kernel_rfl) ?_
      · simp [Act.eval, Act.put]
      refine wpAny_call1 (listed' := #[true, true, true, true, true, true, true, true, true, true, true, true, false, false, false, false, false]) (i := 11) (f := 29) (by kernel_rfl) rfl rfl rfl ?_ Tryd.func29 (by kernel_rfl) (by kernel_rfl) (rfill_c s9 n k9 (lst abF n) s10 m k10 abF M w10 (lst_len _ _) (ints_gl (own_f HO910.out)) (own_f HO10.out) (by omega)) (by kernel_rfl) ?_
      · simp [Act.eval, Act.put]
      rintro e w11 ⟨hb11, s11, m11, k11, rfl, ho11⟩
      refine ⟨_, rfl, ?_⟩
      rw [HRR2.out] at ho11 ⊢
      have HO11 := Lib.hid ho11
      have HB11 := Lib.hid (HB10.out.trans (hb11.mono HB10.out.size))
      have HO811 := Lib.hid (HO810.out.later hb11)
      clear ho11 hb11
      refine wpAny_take1 12 (listed' := #[true, true, true, true, true, true, true, true, true, true, true, true, true, false, false, false, false]) ?_ rfl (by kernel_rfl) (by kernel_rfl) (by kernel_rfl) (fun _ _ _ h => h) (Or.inl ⟨by rfl, ?_⟩) (by kernel_rfl) ?_
      rotate_left
      · intro w; go_simp
        try with_reducible rfl
      refine wpAny_take1 13 (listed' := #[true, true, true, true, true, true, true, true, true, true, true, true, true, true, false, false, false]) ?_ rfl (by kernel_rfl) (by kernel_rfl) (by kernel_rfl) (fun _ _ _ h => h) (Or.inl ⟨by rfl, ?_⟩) (by kernel_rfl) ?_
      rotate_left
      · intro w; go_simp
        try with_reducible rfl
      refine wpAny_take1 14 (listed' := #[true, true, true, true, true, true, true, true, true, true, true, true, true, true, true, false, false]) ?_ rfl (by kernel_rfl) (by kernel_rfl) (by kernel_rfl) (fun _ _ _ h => h) (Or.inl ⟨by rfl, ?_⟩) (by kernel_rfl) ?_
      rotate_left
      · intro w; go_simp
        try with_reducible rfl
      refine wpAny_take1 15 (listed' := #[true, true, true, true, true, true, true, true, true, true, true, true, true, true, true, true, false]) ?_ rfl (by kernel_rfl) (by kernel_rfl) (by kernel_rfl) (fun _ _ _ h => h) (Or.inl ⟨by rfl, ?_⟩) (by kernel_rfl) ?_
      rotate_left
      · intro w; go_simp
        try with_reducible rfl
      refine wpAny_take1 16 (listed' := #[true, true, true, true, true, true, true, true, true, true, true, true, true, true, true, true, true]) ?_ rfl (by kernel_rfl) (by kernel_rfl) (by kernel_rfl) (fun _ _ _ h => h) (Or.inl ⟨by rfl, ?_⟩) (by kernel_rfl) ?_
      rotate_left
      · intro w; go_simp
        try with_reducible rfl
      refine wpAny_done (by kernel_rfl) ?_ _
      have HL11 := Lib.hid HO11.out.len
      have HMX := Lib.hid (show m8 ≤ maxLen ∧ m11 ≤ maxLen by have h1 := HLL8.out; have h2 : m11 = L2.length := HL11.out; unfold maxLen; omega)
      go_wp2_with (first
        | (go_at_call 22; refine (num_c K2 _).mono ?_; rintro e w' ⟨rfl, rfl⟩)
        | (go_at_call 15; refine (same_any s8 s11 m8 k8 m11 k11 (gl L2) (gl L2) w11 HMX.out.1 HMX.out.2 HO811.out.is HO11.out.is).mono ?_; rintro e w12 ⟨rfl, hb12⟩; rw [sames_gl L2 HLL8.out.1 HL11.out]; have HB12 := Lib.hid (HB11.out.trans (hb12.mono HB11.out.size)); clear hb12))
      go_ret
      exact ⟨rfl, HB0.out.trans (HB12.out.mono HB0.out.size)⟩
    · refine all_load_m (listed' := #[true, true, true, true, true, true, true, true, true, false, true, false, false, false, false, false, false]) (i := 10) (x := .tmp 5) (g := w.heap.size) M rfl rfl rfl ?_ (HMA.out _ HB9.out) (by kernel_rfl) ?_
      · simp [Act.eval, Act.put]
      refine wpAny_call1 (listed' := #[true, true, true, true, true, true, true, true, true, true, true, false, false, false, false, false, false]) (i := 9) (f := 31) (by kernel_rfl) rfl rfl rfl ?_ Tryd.func31 (by kernel_rfl) (by kernel_rfl) (copied_c (some ⟨g2, 0, none⟩) m c2 abF w9 (by omega) HG29.out (by intro h; cases h)) (by kernel_rfl) ?_
      · simp [Act.eval, Act.put]
      rintro e w10 ⟨s10, k10, rfl, ho10, hb10⟩
      refine ⟨_, rfl, ?_⟩
      have HO10 := Lib.hid ho10
      have HB10 := Lib.hid (HB9.out.trans (hb10.mono HB9.out.size))
      have HO910 := Lib.hid (HO9.out.later hb10)
      have HO810 := Lib.hid (HO89.out.later hb10)
      clear ho10 hb10
      refine wpAny_call1 (listed' := #[true, true, true, true, true, true, true, true, true, true, true, true, false, false, false, false, false]) (i := 11) (f := 29) (by kernel_rfl) rfl rfl rfl ?_ Tryd.func29 (by kernel_rfl) (by kernel_rfl) (rfill_c s9 n k9 (lst abF n) s10 m k10 abF M w10 (lst_len _ _) (ints_gl (own_f HO910.out)) (own_f HO10.out) (by omega)) (by kernel_rfl) ?_
      · simp [Act.eval, Act.put]
      rintro e w11 ⟨hb11, s11, m11, k11, rfl, ho11⟩
      refine ⟨_, rfl, ?_⟩
      rw [HRR2.out] at ho11 ⊢
      have HO11 := Lib.hid ho11
      have HB11 := Lib.hid (HB10.out.trans (hb11.mono HB10.out.size))
      have HO811 := Lib.hid (HO810.out.later hb11)
      clear ho11 hb11
      refine wpAny_take1 12 (listed' := #[true, true, true, true, true, true, true, true, true, true, true, true, true, false, false, false, false]) ?_ rfl (by kernel_rfl) (by kernel_rfl) (by kernel_rfl) (fun _ _ _ h => h) (Or.inl ⟨by rfl, ?_⟩) (by kernel_rfl) ?_
      rotate_left
      · intro w; go_simp
        try with_reducible rfl
      refine wpAny_take1 13 (listed' := #[true, true, true, true, true, true, true, true, true, true, true, true, true, true, false, false, false]) ?_ rfl (by kernel_rfl) (by kernel_rfl) (by kernel_rfl) (fun _ _ _ h => h) (Or.inl ⟨by rfl, ?_⟩) (by kernel_rfl) ?_
      rotate_left
      · intro w; go_simp
        try with_reducible rfl
      refine wpAny_take1 14 (listed' := #[true, true, true, true, true, true, true, true, true, true, true, true, true, true, true, false, false]) ?_ rfl (by kernel_rfl) (by kernel_rfl) (by kernel_rfl) (fun _ _ _ h => h) (Or.inl ⟨by rfl, ?_⟩) (by kernel_rfl) ?_
      rotate_left
      · intro w; go_simp
        try with_reducible rfl
      refine wpAny_take1 15 (listed' := #[true, true, true, true, true, true, true, true, true, true, true, true, true, true, true, true, false]) ?_ rfl (by kernel_rfl) (by kernel_rfl) (by kernel_rfl) (fun _ _ _ h => h) (Or.inl ⟨by rfl, ?_⟩) (by kernel_rfl) ?_
      rotate_left
      · intro w; go_simp
        try with_reducible rfl
      refine wpAny_take1 16 (listed' := #[true, true, true, true, true, true, true, true, true, true, true, true, true, true, true, true, true]) ?_ rfl (by kernel_rfl) (by kernel_rfl) (by kernel_rfl) (fun _ _ _ h => h) (Or.inl ⟨by rfl, ?_⟩) (by kernel_rfl) ?_
      rotate_left
      · intro w; go_simp
        try with_reducible rfl
      refine wpAny_done (by kernel_rfl) ?_ _
      have HL11 := Lib.hid HO11.out.len
      have HMX := Lib.hid (show m8 ≤ maxLen ∧ m11 ≤ maxLen by have h1 := HLL8.out; have h2 : m11 = L2.length := HL11.out; unfold maxLen; omega)
      go_wp2_with (first
        | (go_at_call 22; refine (num_c K2 _).mono ?_; rintro e w' ⟨rfl, rfl⟩)
        | (go_at_call 15; refine (same_any s8 s11 m8 k8 m11 k11 (gl L2) (gl L2) w11 HMX.out.1 HMX.out.2 HO811.out.is HO11.out.is).mono ?_; rintro e w12 ⟨rfl, hb12⟩; rw [sames_gl L2 HLL8.out.1 HL11.out]; have HB12 := Lib.hid (HB11.out.trans (hb12.mono HB11.out.size)); clear hb12))
      go_ret
      exact ⟨rfl, HB0.out.trans (HB12.out.mono HB0.out.size)⟩
  · refine all_load_m (listed' := #[true, true, true, true, false, true, true, true, true, false, true, false, false, false, false, false, false]) (i := 10) (x := .tmp 5) (g := w.heap.size) M rfl rfl rfl ?_ (HMA.out _ HB8D.out) (by kernel_rfl) ?_
    · simp [Act.eval, Act.put]
    refine wpAny_call1 (listed' := #[true, true, true, true, true, true, true, true, true, false, true, false, false, false, false, false, false]) (i := 4) (f := 31) (by kernel_rfl) rfl rfl rfl ?_ Tryd.func31 (by kernel_rfl) (by kernel_rfl) (copied_c (some ⟨g1, 0, none⟩) n c1 abF w8.drew (by omega) HG18.out (by intro h; cases h)) (by kernel_rfl) ?_
    · simp [Act.eval, Act.put]
    rintro e w9 ⟨s9, k9, rfl, ho9, hb9⟩
    refine ⟨_, rfl, ?_⟩
    have HO9 := Lib.hid ho9
    have HB9 := Lib.hid (HB8D.out.trans (hb9.mono HB8D.out.size))
    have HG29 := Lib.hid (HG28.out.later hb9)
    have HO89 := Lib.hid (HO8D.out.later hb9)
    clear ho9 hb9
    refine wpAny_call1 (listed' := #[true, true, true, true, true, true, true, true, true, true, true, false, false, false, false, false, false]) (i := 9) (f := 31) (by kernel_rfl) rfl rfl rfl ?_ Tryd.func31 (by kernel_rfl) (by kernel_rfl) (copied_c (some ⟨g2, 0, none⟩) m c2 abF w9 (by omega) HG29.out (by intro h; cases h)) (by kernel_rfl) ?_
    · simp [Act.eval, Act.put]
    rintro e w10 ⟨s10, k10, rfl, ho10, hb10⟩
    refine ⟨_, rfl, ?_⟩
    have HO10 := Lib.hid ho10
    have HB10 := Lib.hid (HB9.out.trans (hb10.mono HB9.out.size))
    have HO910 := Lib.hid (HO9.out.later hb10)
    have HO810 := Lib.hid (HO89.out.later hb10)
    clear ho10 hb10
    refine wpAny_call1 (listed' := #[true, true, true, true, true, true, true, true, true, true, true, true, false, false, false, false, false]) (i := 11) (f := 29) (by kernel_rfl) rfl rfl rfl ?_ Tryd.func29 (by kernel_rfl) (by kernel_rfl) (rfill_c s9 n k9 (lst abF n) s10 m k10 abF M w10 (lst_len _ _) (ints_gl (own_f HO910.out)) (own_f HO10.out) (by omega)) (by kernel_rfl) ?_
    · simp [Act.eval, Act.put]
    rintro e w11 ⟨hb11, s11, m11, k11, rfl, ho11⟩
    refine ⟨_, rfl, ?_⟩
    rw [HRR2.out] at ho11 ⊢
    have HO11 := Lib.hid ho11
    have HB11 := Lib.hid (HB10.out.trans (hb11.mono HB10.out.size))
    have HO811 := Lib.hid (HO810.out.later hb11)
    clear ho11 hb11
    refine wpAny_take1 12 (listed' := #[true, true, true, true, true, true, true, true, true, true, true, true, true, false, false, false, false]) ?_ rfl (by kernel_rfl) (by kernel_rfl) (by kernel_rfl) (fun _ _ _ h => h) (Or.inl ⟨by rfl, ?_⟩) (by kernel_rfl) ?_
    rotate_left
    · intro w; go_simp
      try with_reducible rfl
    refine wpAny_take1 13 (listed' := #[true, true, true, true, true, true, true, true, true, true, true, true, true, true, false, false, false]) ?_ rfl (by kernel_rfl) (by kernel_rfl) (by kernel_rfl) (fun _ _ _ h => h) (Or.inl ⟨by rfl, ?_⟩) (by kernel_rfl) ?_
    rotate_left
    · intro w; go_simp
      try with_reducible rfl
    refine wpAny_take1 14 (listed' := #[true, true, true, true, true, true, true, true, true, true, true, true, true, true, true, false, false]) ?_ rfl (by kernel_rfl) (by kernel_rfl) (by kernel_rfl) (fun _ _ _ h => h) (Or.inl ⟨by rfl, ?_⟩) (by kernel_rfl) ?_
    rotate_left
    · intro w; go_simp
      try with_reducible rfl
    refine wpAny_take1 15 (listed' := #[true, true, true, true, true, true, true, true, true, true, true, true, true, true, true, true, false]) ?_ rfl (by kernel_rfl) (by kernel_rfl) (by kernel_rfl) (fun _ _ _ h => h) (Or.inl ⟨by rfl, ?_⟩) (by kernel_rfl) ?_
    rotate_left
    · intro w; go_simp
      try with_reducible rfl
    refine wpAny_take1 16 (listed' := #[true, true, true, true, true, true, true, true, true, true, true, true, true, true, true, true, true]) ?_ rfl (by kernel_rfl) (by kernel_rfl) (by kernel_rfl) (fun _ _ _ h => h) (Or.inl ⟨by rfl, ?_⟩) (by kernel_rfl) ?_
    rotate_left
    · intro w; go_simp
      try with_reducible rfl
    refine wpAny_done (by kernel_rfl) ?_ _
    have HL11 := Lib.hid HO11.out.len
    have HMX := Lib.hid (show m8 ≤ maxLen ∧ m11 ≤ maxLen by have h1 := HLL8.out; have h2 : m11 = L2.length := HL11.out; unfold maxLen; omega)
    go_wp2_with (first
      | (go_at_call 22; refine (num_c K2 _).mono ?_; rintro e w' ⟨rfl, rfl⟩)
      | (go_at_call 15; refine (same_any s8 s11 m8 k8 m11 k11 (gl L2) (gl L2) w11 HMX.out.1 HMX.out.2 HO811.out.is HO11.out.is).mono ?_; rintro e w12 ⟨rfl, hb12⟩; rw [sames_gl L2 HLL8.out.1 HL11.out]; have HB12 := Lib.hid (HB11.out.trans (hb12.mono HB11.out.size)); clear hb12))
    go_ret
    exact ⟨rfl, HB0.out.trans (HB12.out.mono HB0.out.size)⟩
end Go.Proofs.YtdegdoilpamjjaaDoor
