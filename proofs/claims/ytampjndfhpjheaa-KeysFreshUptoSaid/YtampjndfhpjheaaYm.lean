/- Contracts: addObjects. Condition: tables that are good; lines of fewer than 1000 scalars, below 128. -/
import Derived.Test.YtampjndfhpjheaaYl
namespace Go.Proofs.Ytampjndfhpjheaa
open Go.RowKit
set_option maxRecDepth 100000 in
/-- an append of a list behind a new row of one int, as a step of a region that draws -/
theorem step_append_ints {w : World} {ops : Array Oper} {o : Oper} {a : Act} {K : Act → World → Prop} {Q : Exit → Act → World → Prop} {E : Prop} (x0 : Int) (hg : o.guard = none) (s x : Operand)
    (hop : o.op = .call { callee := .builtin .append, args := #[s, x], argTypes := #[33, 33] })
    (g0 c : Nat) (p : List Int) (hs : a.eval s = .slice (some ⟨w.heap.size, 0, none⟩) 1 1) (hx : a.eval x = .slice (some ⟨g0, 0, none⟩) p.length c) (hk : IsInts w (some ⟨g0, 0, none⟩) p.length (gl p)) (hp : p.length < 1073741824)
    (h : ∀ g c' w', QOk w' ⟨g, p.length + 1, c', x0 :: p⟩ → w.heap.size ≤ g → p.length + 1 ≤ c' → Below w.heap.size w w' → K (a.put o.dst (.slice (some ⟨g, 0, none⟩) (p.length + 1) c')) w') :
    if Region.wanted o (yielded ops a.tmps) = true then Oper.wp Try.prog o a (w.alloc (.cells #[.int .i64 x0] 3)) K Q else E := by
  have hw : Region.wanted o (yielded ops a.tmps) = true := by simp [Region.wanted, hg]
  rw [if_pos hw]
  obtain ⟨i0, hi, hz0, hz1, hz2⟩ := info_parts Try.infoInt
  have hb1 := below_new2 w (.cells #[.int .i64 x0] 3)
  have hown : (w.alloc (.cells #[.int .i64 x0] 3)).ownsRow w.heap.size 3 1 (.slice (some ⟨w.heap.size, 0, none⟩) 1 1) 1 [.int .i64 x0] :=
    ⟨rfl, .inr ⟨w.heap.size, 1, #[.int .i64 x0], rfl, Nat.le_refl _, one_new w _, Nat.le_refl _, by unfold maxLen; omega, rfl, rfl⟩⟩
  obtain ⟨v', w', hr, h2, h3, h4, h5⟩ := run_append_own_at (P := Try.prog) (w.alloc (.cells #[.int .i64 x0] 3)) w.heap.size 33 o.type 3 i0 (.int .i64 0) 1 8 Try.underlying33 hi hz0 hz1 hz2 rfl (by decide) _ 1 _ hown ⟨g0, 0, none⟩ p.length c (p.map (Value.int .i64)) (by simp) (fun j u hu => by
      rw [List.getElem?_map] at hu
      by_cases hj : j < p.length
      · rw [List.getElem?_eq_getElem hj] at hu
        injection hu with hu
        have hc := (hk.later hb1).cell hj
        rw [Go.WideShapes.add_plain, hc, ← hu]
        unfold gl
        rw [List.getD_eq_getElem?_getD, List.getElem?_eq_getElem hj]; rfl
      · rw [List.getElem?_eq_none (by omega)] at hu; cases hu) (ints_one _) (by unfold maxLen; omega) (by omega) (by simp)
  rw [Nat.add_comm 1 p.length] at h2
  have hq : ∃ g c', v' = .slice (some ⟨g, 0, none⟩) (p.length + 1) c' ∧ w.heap.size ≤ g ∧ p.length + 1 ≤ c' := by
    rcases h2.2 with ⟨_, h6⟩ | ⟨g, cap, cur, h6, hg6, hgg, hnc, _⟩
    · omega
    · exact ⟨g, cap, h6, hg6, hnc⟩
  obtain ⟨g, c', rfl, hg1, hc1⟩ := hq
  have hO : QOk w' ⟨g, p.length + 1, c', x0 :: p⟩ := by
    unfold QOk qval OwnInts
    have := h2
    refine ⟨this.1, ?_⟩
    rcases this.2 with e | ⟨g', cap, cur, e1, e2, e3⟩
    · exact .inl e
    · exact .inr ⟨g', cap, cur, e1, Nat.zero_le _, e3⟩
  have hB : Below w.heap.size w w' := Below.grown hb1 h3 (by simp) (fun k hk => by
    have : (some w.heap.size : Option Nat) = some k := hk
    injection this with this; omega)
  have hK := h g c' w' hO hg1 hc1 hB
  unfold Oper.wp
  simp only [execOp, hop, resolve, invoke, builtin, hs, hx, hr, Result.andThen, Sem.run_bind, Sem.run_pure, List.map_toArray, List.map_cons, List.map_nil]
  exact hK
/-- the rows that a row of an object comes to -/
def objR (b1 b2 : Bd) (L : List (List Int)) : Rows := L.flatMap fun k => [(105 :: k, b1), (97 :: k, b2)]
theorem objR_snoc (b1 b2 : Bd) (L : List (List Int)) (p : List Int) : objR b1 b2 (L ++ [p]) = objR b1 b2 L ++ [(105 :: p, b1), (97 :: p, b2)] := by
  unfold objR; rw [List.flatMap_append]; simp
def ObjI (tb i : Nat) (T : Nat → Rows) (b1 b2 : Bd) (px : Nat) (w : World) (ow : Nat → Nat) (L : List (List Int)) : Prop :=
  Tabs w ow tb (updT T i (T i ++ objR b1 b2 L)) ∧ IsBox w px 123 (.pointer (some ⟨tb, 4 * i, none⟩)) ∧ ow px = 5
theorem ObjI.kept {tb i : Nat} {T : Nat → Rows} {b1 b2 : Bd} {px : Nat} {w w' : World} {ow ow' : Nat → Nat} {L : List (List Int)} (h : ObjI tb i T b1 b2 px w ow L) (e : Same (fun k => k ≠ 0) ow ow' w w') (hs : w.heap.size ≤ w'.heap.size) : ObjI tb i T b1 b2 px w' ow' L := by
  obtain ⟨h1, h2, h3⟩ := h
  have e2 := e px (heap_lt h2) (by rw [h3]; decide)
  exact ⟨h1.kept e hs, e2.1.trans h2, e2.2.trans h3⟩
/-- the state within the closure: the tables, the pointer, the bound's variable -/
structure ObSt (tb i : Nat) (T : Nat → Rows) (R : Rows) (px n : Nat) (b : Bd) (ow0 : Nat → Nat) (w0 : World) (ow : Nat → Nat) (w : World) : Prop where
  tabs : Tabs w ow tb (updT T i R)
  pbox : IsBox w px 123 (.pointer (some ⟨tb, 4 * i, none⟩))
  pc : ow px = 5
  bbox : w.heap[n]? = some (.cells (bvOf b).cells 133 (0, 0))
  bc : ow n = 0
  nn : n = w0.heap.size
  pn : px < w0.heap.size
  cls : ∀ b, b < w0.heap.size → ow b = ow0 b
  touch : Touch (fun b => live (ow0 b)) w0 w
theorem ObSt.kept {tb i : Nat} {T : Nat → Rows} {R : Rows} {px n : Nat} {b : Bd} {ow0 ow ow' : Nat → Nat} {w0 w w' : World} (h : ObSt tb i T R px n b ow0 w0 ow w) (hb : Below w.heap.size w w') (hc : ∀ b, b < w.heap.size → ow' b = ow b) : ObSt tb i T R px n b ow0 w0 ow' w' := by
  have hs := h.touch.size
  have hn := heap_lt h.bbox
  refine ⟨h.tabs.kept (fun b hb2 _ => ⟨hb.block b hb2, hc b hb2⟩) hb.size, h.pbox.below hb, (hc px (heap_lt h.pbox)).trans h.pc, (hb.block n hn).trans h.bbox, (hc n hn).trans h.bc, h.nn, h.pn, fun b hb2 => (hc b (by omega)).trans (h.cls b hb2), h.touch.trans (Touch.of (O := fun b => live (ow0 b)) hb) (fun x hx => .inl hx)⟩
theorem ObSt.put {tb i : Nat} {T : Nat → Rows} {R R' : Rows} {px n : Nat} {b : Bd} {ow0 ow : Nat → Nat} {w0 w w' : World} (h : ObSt tb i T R px n b ow0 w0 ow w) (hp : PutPostT ow tb (updT T i R') w w') : ∃ ow', ObSt tb i T R' px n b ow0 w0 ow' w' := by
  obtain ⟨ow', h1, h2, h3⟩ := hp
  have hs := h.touch.size
  have hn := heap_lt h.bbox
  refine ⟨ow', h1, box_touch h.pbox h3 (fun e => e.2 h.pc), (h2 px (heap_lt h.pbox)).trans h.pc, (h3.block n hn (fun e => e.1 h.bc)).trans h.bbox, (h2 n hn).trans h.bc, h.nn, h.pn, fun b hb => (h2 b (by omega)).trans (h.cls b hb), h.touch.trans h3 (fun x hx => ?_)⟩
  by_cases hx0 : x < w0.heap.size
  · exact .inl (by rw [← h.cls x hx0]; exact hx)
  · exact .inr (by omega)
theorem ObSt.set {tb i : Nat} {T : Nat → Rows} {R : Rows} {px n : Nat} {b b' : Bd} {ow0 ow : Nat → Nat} {w0 w : World} (h : ObSt tb i T R px n b ow0 w0 ow w) (j : Nat) (u : Value) (hb : ((bvOf b).cells.setIfInBounds j u) = (bvOf b').cells) : ObSt tb i T R px n b' ow0 w0 ow (w.setCell ⟨n, j, none⟩ u) := by
  have hoth : ∀ b, b ≠ n → (w.setCell ⟨n, j, none⟩ u).heap[b]? = w.heap[b]? := fun b hb => Below.heap_setCell _ _ _ _ hb
  have hpn : px ≠ n := by have := h.nn; have := h.pn; omega
  refine ⟨h.tabs.kept (fun b _ hne => ⟨hoth b (fun e => by subst e; exact hne h.bc), rfl⟩) (by simp [World.setCell]), (hoth px hpn).trans h.pbox, h.pc, by rw [← hb]; exact block_set u h.bbox, h.bc, h.nn, h.pn, h.cls, h.touch.trans (Touch.setCell (fun b => b = n) w (p := ⟨n, j, none⟩) rfl u) (fun x hx => .inr (by have := h.nn; omega))⟩
theorem ObSt.cells {tb i : Nat} {T : Nat → Rows} {R : Rows} {px n : Nat} {v m a : Int} {ow0 ow : Nat → Nat} {w0 w : World} (h : ObSt tb i T R px n ⟨v, m, a, false, []⟩ ow0 w0 ow w) :
    w.cell? ⟨px, 0, none⟩ = some (.pointer (some ⟨tb, 4 * i, none⟩)) ∧ w.cell? ⟨n, 0, none⟩ = some (.int .i64 v) ∧ w.cell? ⟨n, 1, none⟩ = some (.int .i64 m) ∧ w.cell? ⟨n, 2, none⟩ = some (.int .i64 a) ∧ w.cell? ⟨n, 3, none⟩ = some (.bool false) ∧ w.cell? ⟨n, 4, none⟩ = some (.slice none 0 0) ∧ w.cell? ⟨n, 5, none⟩ = some (.pointer none) :=
  ⟨h.pbox.cell.1, block_cell h.bbox, block_cell h.bbox, block_cell h.bbox, block_cell h.bbox, block_cell h.bbox, block_cell h.bbox⟩
/-- one row put by the closure -/
theorem ObSt.next {tb i : Nat} {T : Nat → Rows} {R : Rows} {px n : Nat} {b : Bd} {ow0 ow : Nat → Nat} {w0 w w3 : World} {g c : Nat} {p : List Int} (h : ObSt tb i T R px n b ow0 w0 ow w) (hq : QOk w3 ⟨g, p.length, c, p⟩) (hg : w.heap.size ≤ g) (hc : p.length ≤ c) (hb : Below w.heap.size w w3) (hi : i < 3) (hgood : Good (R ++ [(p, b)])) (hbo : b.own = []) :
    Calls Try.prog 82 #[.pointer (some ⟨tb, 4 * i, none⟩), .slice (some ⟨g, 0, none⟩) p.length c, .agg (bvOf b).cells] w3 fun e w' => e = .returned (.tuple #[]) ∧ ∃ ow', ObSt tb i T (R ++ [(p, b)]) px n b ow0 w0 ow' w' := by
  have h3 := h.kept (ow' := setC ow g 5) hb (fun b hb2 => if_neg (by omega))
  have hlow := hgood.pre (List.prefix_append R _)
  refine (lput_c (setC ow g 5) tb (updT T i R) i g c p b (bvOf b) w3 hi h3.tabs hq (if_pos rfl) (bd_plain _ _ _ hbo) (by rw [updT_at]; exact hgood.ok) (by rw [updT_at]; have := hlow.few; omega) (by have := hgood.short (p, _) (List.mem_append_right _ (List.mem_singleton.2 rfl)); simp only at this; omega) (by rw [updT_at]; have := hlow.size; omega) (hgood.keys (p, _) (List.mem_append_right _ (List.mem_singleton.2 rfl))) hc).mono ?_
  rintro e w' ⟨rfl, hp⟩
  rw [updT_same, updT_at] at hp
  exact ⟨rfl, h3.put hp⟩
theorem objR_good {R : Rows} {F L : List (List Int)} {p : List Int} {b1 b2 : Bd} (h : Good (R ++ objR b1 b2 F)) (hpre : L ++ [p] <+: F) : Good (R ++ objR b1 b2 L ++ [(105 :: p, b1)]) ∧ Good (R ++ objR b1 b2 L ++ [(105 :: p, b1)] ++ [(97 :: p, b2)]) := by
  have h2 : Good (R ++ objR b1 b2 L ++ [(105 :: p, b1)] ++ [(97 :: p, b2)]) := by
    refine h.pre ?_
    obtain ⟨t, rfl⟩ := hpre
    rw [List.append_assoc, List.append_assoc]
    refine (List.prefix_append_right_inj _).2 ?_
    refine ⟨objR b1 b2 t, ?_⟩
    unfold objR
    simp
  exact ⟨h2.pre (List.prefix_append _ _), h2⟩
set_option maxRecDepth 100000 in
set_option maxHeartbeats 4000000 in
theorem obj1_ok (tb i : Nat) (T : Nat → Rows) (v m a : Int) (px : Nat) (F : List (List Int)) (hi : i < 3) (hm : 0 ≤ m ∧ m < 1000) (hg : Good (T i ++ objR ⟨1, m, a, false, []⟩ ⟨1, m + 1, a, false, []⟩ F)) :
    DoOk (ObjI tb i T ⟨1, m, a, false, []⟩ ⟨1, m + 1, a, false, []⟩ px) F 99 #[.pointer (some ⟨px, 0, none⟩)] v m a := by
  refine ⟨fun w w' ow ow' L h e hs => h.kept e hs, fun w ow L p qg qc hI hpre hq hqc hpc hp0 => ?_, enters_of Try.func99 (by kernel_rfl) rfl⟩
  obtain ⟨hg1, hg2⟩ := objR_good hg hpre
  have HG1 := Lib.hid hg1
  have HG2 := Lib.hid hg2
  have hpl : p.length < 1073741824 := by
    have := hg1.short (105 :: p, _) (List.mem_append_right _ (List.mem_singleton.2 rfl))
    simp only [List.length_cons] at this; omega
  have hstart : ∃ w1 ow1, w1 = w.alloc (.cells #[.int .i64 v, .int .i64 m, .int .i64 a, .bool false, .slice none 0 0, .pointer none] 133) ∧ ObSt tb i T (T i ++ objR ⟨1, m, a, false, []⟩ ⟨1, m + 1, a, false, []⟩ L) px w.heap.size ⟨v, m, a, false, []⟩ ow w ow1 w1 ∧ QOk w1 ⟨qg, p.length, qc, p⟩ ∧ qg < w.heap.size := by
    have hb := below_new2 w (.cells #[.int .i64 v, .int .i64 m, .int .i64 a, .bool false, .slice none 0 0, .pointer none] 133)
    have hs : ∀ P, Same P ow (newC ow w.heap.size 0) w (w.alloc (.cells #[.int .i64 v, .int .i64 m, .int .i64 a, .bool false, .slice none 0 0, .pointer none] 133)) := fun P b hb2 _ => ⟨hb.block b hb2, newC_old ow hb2⟩
    exact ⟨_, newC ow w.heap.size 0, rfl, ⟨hI.1.kept (hs _) hb.size, hI.2.1.below hb, (newC_old ow (heap_lt hI.2.1)).trans hI.2.2, one_new _ _, newC_new ow (Nat.le_refl _), rfl, heap_lt hI.2.1, fun b hb => newC_old ow hb, Touch.of hb⟩, hq.kept (hb.block _ hq.lt), hq.lt⟩
  obtain ⟨w1, ow1, hw1, hst1, hq1, hql⟩ := hstart
  have hbb := hst1.bbox
  have c0 : w1.cell? ⟨w.heap.size, 0, none⟩ = some (.int .i64 v) := block_cell hbb
  have f0 : w1.frozen? ⟨w.heap.size, 0, none⟩ = false := block_free hbb
  have hst2 := hst1.set (b' := ⟨1, m, a, false, []⟩) 0 (.int .i64 1) rfl
  have hq2 : QOk (w1.setCell ⟨w.heap.size, 0, none⟩ (.int .i64 1)) ⟨qg, p.length, qc, p⟩ := hq1.kept (Below.heap_setCell _ _ _ _ (by show qg ≠ w.heap.size; omega))
  have HQ0 := Lib.hid hq
  have hnl : ¬ live (ow qg) := fun e => e.2 hqc
  have HNL := Lib.hid hnl
  clear hnl
  have HW1 := Lib.hid hw1
  have HST2 := Lib.hid hst2
  have HQ2 := Lib.hid hq2
  clear hg hg1 hg2 hI hpre hq hqc hw1 hst1 hbb hst2 hq1 hq2
  show Calls Try.prog _ #[.slice (some ⟨qg, 0, none⟩) p.length qc, .agg #[.int .i64 v, .int .i64 m, .int .i64 a, .bool false, .slice none 0 0, .pointer none], .pointer (some ⟨px, 0, none⟩)] w _
  go_enter Try.func99, Try.ntmps99
  go_upto_region 1 with (fail)
  rw [← HW1.out]
  go_wp2_with fail
  generalize w1.setCell ⟨w.heap.size, 0, none⟩ (.int .i64 1) = w2 at HST2 HQ2 ⊢
  clear c0 f0
  have hst := HST2.out.kept (ow' := ow1) ((Below.refl w2.heap.size w2).drew) (fun _ _ => rfl)
  have HST := Lib.hid hst
  obtain ⟨d0, d1, d2, d3, d4, d5, d6⟩ := HST2.out.cells
  have HK := Lib.hid ((qok_list HQ2.out).later ((Below.refl w2.heap.size w2).drew))
  clear hst
  go_region_held3 (fun w' => w'.cell? ⟨px, 0, none⟩ = some (.pointer (some ⟨tb, 4 * i, none⟩)) ∧ w'.cell? ⟨w.heap.size, 0, none⟩ = some (.int .i64 1) ∧ w'.cell? ⟨w.heap.size, 1, none⟩ = some (.int .i64 m) ∧ w'.cell? ⟨w.heap.size, 2, none⟩ = some (.int .i64 a) ∧ w'.cell? ⟨w.heap.size, 3, none⟩ = some (.bool false) ∧ w'.cell? ⟨w.heap.size, 4, none⟩ = some (.slice none 0 0) ∧ w'.cell? ⟨w.heap.size, 5, none⟩ = some (.pointer none))
    (first | exact ⟨d0, d1, d2, d3, d4, d5, d6⟩ | exact hs5.cells | exact hs3.cells | exact (HST.out.kept (ow' := ow1) (below_new2 _ _) (fun _ _ => rfl)).cells)
    (first
      | (refine step_append_ints 105 ?_ (.tmp 7) (.tmp 8) ?_ qg qc p ?_ ?_ HK.out hpl ?_; rfl; rfl; simp [Act.eval]; simp [Act.eval]; intro g3 c3 w3 hq3 hg3 hc3 hb3; have hs3 := HST.out.kept (ow' := setC ow1 g3 5) hb3 (fun b hb2 => if_neg (by omega)))
      | (go_simp; refine (HST.out.next hq3 hg3 hc3 hb3 hi HG1.out rfl).mono ?_; rintro e w5 ⟨rfl, ow5, hs5⟩))
  all_goals
    clear hq3 hg3 hc3 hb3 hs3 d0 d1 d2 d3 d4 d5 d6 HK HST HST2 HQ2
    rename_i hheld
    clear hheld
    have HS5 := Lib.hid hs5
    obtain ⟨d0, d1, d2, d3, d4, d5, d6⟩ := hs5.cells
    have f1 : w5.frozen? ⟨w.heap.size, 1, none⟩ = false := block_free hs5.bbox
    clear hs5
    have hm1 := hm.1
    have hm2 := hm.2
    go_wp2_with fail
    have hst6 := HS5.out.set (b' := ⟨1, m + 1, a, false, []⟩) 1 (.int .i64 (m + 1)) rfl
    clear d0 d1 d2 d3 d4 d5 d6 f1
    generalize w5.setCell ⟨w.heap.size, 1, none⟩ (.int .i64 (m + 1)) = w6 at hst6 ⊢
    have hq6 : QOk w6 ⟨qg, p.length, qc, p⟩ := HQ0.out.kept (hst6.touch.block qg hql HNL.out)
    have hst := hst6.kept (ow' := ow5) ((Below.refl w6.heap.size w6).drew) (fun _ _ => rfl)
    have HST := Lib.hid hst
    obtain ⟨d0, d1, d2, d3, d4, d5, d6⟩ := hst6.cells
    have HK := Lib.hid ((qok_list hq6).later ((Below.refl w6.heap.size w6).drew))
    clear hst hst6 hq6
    go_region_held3 (fun w' => w'.cell? ⟨px, 0, none⟩ = some (.pointer (some ⟨tb, 4 * i, none⟩)) ∧ w'.cell? ⟨w.heap.size, 0, none⟩ = some (.int .i64 1) ∧ w'.cell? ⟨w.heap.size, 1, none⟩ = some (.int .i64 (m + 1)) ∧ w'.cell? ⟨w.heap.size, 2, none⟩ = some (.int .i64 a) ∧ w'.cell? ⟨w.heap.size, 3, none⟩ = some (.bool false) ∧ w'.cell? ⟨w.heap.size, 4, none⟩ = some (.slice none 0 0) ∧ w'.cell? ⟨w.heap.size, 5, none⟩ = some (.pointer none))
      (first | exact ⟨d0, d1, d2, d3, d4, d5, d6⟩ | exact hs8.cells | exact hs7.cells | exact (HST.out.kept (ow' := ow5) (below_new2 _ _) (fun _ _ => rfl)).cells)
      (first
        | (refine step_append_ints 97 ?_ (.tmp 17) (.tmp 18) ?_ qg qc p ?_ ?_ HK.out hpl ?_; rfl; rfl; simp [Act.eval]; simp [Act.eval]; intro g7 c7 w7 hq7 hg7 hc7 hb7; have hs7 := HST.out.kept (ow' := setC ow5 g7 5) hb7 (fun b hb2 => if_neg (by omega)))
        | (go_simp; refine (HST.out.next hq7 hg7 hc7 hb7 hi HG2.out rfl).mono ?_; rintro e w8 ⟨rfl, ow8, hs8⟩))
    all_goals
      have hfin : ∃ ow', ObjI tb i T ⟨1, m, a, false, []⟩ ⟨1, m + 1, a, false, []⟩ px w8 ow' (L ++ [p]) ∧ (∀ b, b < w.heap.size → ow' b = ow b) ∧ Touch (fun b => live (ow b)) w w8 := by
        refine ⟨ow8, ⟨?_, hs8.pbox, hs8.pc⟩, hs8.cls, hs8.touch⟩
        have h1 := hs8.tabs
        rw [objR_snoc, ← List.append_assoc]
        rw [List.append_assoc, List.append_assoc] at h1
        rw [List.append_assoc]
        exact h1
      have HFIN := Lib.hid hfin
      rename_i hheld
      clear hfin hs8 hq7 hg7 hc7 hb7 hs7 d0 d1 d2 d3 d4 d5 d6 HK HST hheld
      go_wp2
      go_end0
      exact ⟨rfl, HFIN.out⟩
theorem objP_snoc (M : List LineM) (k : Nat) (h : k < M.length) : objP (linesOf (M.take (k + 1))) = objP (linesOf (M.take k)) ++ objR ⟨1, (M[k]).2.2.1, (M[k]).2.2.2, false, []⟩ ⟨1, (M[k]).2.2.1 + 1, (M[k]).2.2.2, false, []⟩ (eachP [] (codesOf (M[k]).1)) := by
  have e : M.take (k + 1) = M.take k ++ [M[k]] := by rw [List.take_add_one, List.getElem?_eq_getElem h]; rfl
  rw [e]
  unfold objP linesOf
  rw [List.map_append, List.flatMap_append]
  simp [lineB, objR]
theorem objP_pre (M : List LineM) (k : Nat) : objP (linesOf (M.take k)) <+: objP (linesOf M) := by
  refine ⟨objP (linesOf (M.drop k)), ?_⟩
  unfold objP linesOf
  rw [← List.flatMap_append, ← List.map_append, List.take_append_drop]
set_option maxRecDepth 100000 in
set_option maxHeartbeats 4000000 in
theorem addo_c (tb i : Nat) (T : Nat → Rows) (hi : i < 3) (M : List LineM) (ow : Nat → Nat) (g : Nat) (w : World)
    (hg : Good (T i ++ objP (linesOf M))) (hM : Ascii M) (ht : Tabs w ow tb T) (hl : w.heap[g]? = some (.cells (linesC M).toArray 129 (0, 0))) (hgl : ¬ live (ow g)) (hn : M.length < 1000) (hmv : ∀ x ∈ M, 0 ≤ x.2.2.1 ∧ x.2.2.1 < 1000) :
    Calls Try.prog 77 #[.pointer (some ⟨tb, 4 * i, none⟩), .slice (some ⟨g, 0, none⟩) M.length M.length] w fun e w' => e = .returned (.tuple #[]) ∧ PutPostT ow tb (updT T i (T i ++ objP (linesOf M))) w w' := by
  have hmf : ∀ (fn : Fn) (first cap : Array Value) (w : World), (Instr.makeFunc fn first cap).run Try.prog w = .ok (.func fn first cap) w := fun _ _ _ _ => rfl
  have HG := Lib.hid hg
  have HM := Lib.hid hM
  have HMV := Lib.hid hmv
  have HL := Lib.hid hl
  have HGL := Lib.hid hgl
  have hs : ∃ w1 ow1, w1 = w.alloc (.cells #[.pointer (some ⟨tb, 4 * i, none⟩)] 123) ∧ Below w.heap.size w w1 ∧ Tabs w1 ow1 tb T ∧ IsBox w1 w.heap.size 123 (.pointer (some ⟨tb, 4 * i, none⟩)) ∧ ow1 w.heap.size = 5 ∧ ∀ b, b < w.heap.size → ow1 b = ow b := by
    have h1 := below_new2 w (.cells #[.pointer (some ⟨tb, 4 * i, none⟩)] 123)
    have n1 := IsBox.new w 123 (.pointer (some ⟨tb, 4 * i, none⟩))
    exact ⟨_, newC ow w.heap.size 5, rfl, h1, ht.kept (fun b hb _ => ⟨h1.block b hb, newC_old ow hb⟩) h1.size, n1, newC_new ow (Nat.le_refl _), fun b hb => newC_old ow hb⟩
  obtain ⟨w1, ow1, hw1, hb1, ht1, hpx, k2, hcl⟩ := hs
  have HW1 := Lib.hid hw1
  have HB1 := Lib.hid hb1
  have HT1 := Lib.hid ht1
  have HPX := Lib.hid hpx
  have HK2 := Lib.hid k2
  have HCL := Lib.hid hcl
  have hgs := heap_lt hl
  clear hg hM hmv ht hl hgl hw1 hb1 ht1 hpx k2 hcl
  go_enter Try.func77, Try.ntmps77
  go_wp2_with fail
  rw [← HW1.out]
  go_loopg [8] M.length (fun gg iv wr => ∃ k : Nat, ∃ ow2, k + gg = M.length ∧ iv = .int .i64 k ∧ Tabs wr ow2 tb (updT T i (T i ++ objP (linesOf (M.take k)))) ∧ IsBox wr w.heap.size 123 (.pointer (some ⟨tb, 4 * i, none⟩)) ∧ ow2 w.heap.size = 5 ∧ (∀ b, b < w.heap.size → ow2 b = ow b) ∧ Touch (fun b => live (ow b)) w wr)
  case atStart => exact ⟨0, ow1, by omega, rfl, by simpa [objP, linesOf, updT_self] using HT1.out, HPX.out, HK2.out, HCL.out, Touch.of HB1.out⟩
  case round =>
    obtain ⟨k, ow2, hgk, rfl, ht, hpx, k2, hcl, hto⟩ := hrel
    clear HT1 HPX HK2 HCL HB1
    have HT := Lib.hid ht
    have HPX := Lib.hid hpx
    have HK2 := Lib.hid k2
    have HCL := Lib.hid hcl
    have HTO := Lib.hid hto
    clear ht hpx k2 hcl hto
    by_cases hlt : k < M.length
    · have hlr := (HTO.out.block g hgs HGL.out).trans HL.out
      have hget := fun j hj => linesC_get M k j hlt hj
      have hcell : ∀ j, j < 4 → wr.cell? ⟨g, k * 4 + j, none⟩ = [Value.string (M[k]).1, .int .i64 (M[k]).2.1, .int .i64 (M[k]).2.2.1, .int .i64 (M[k]).2.2.2][j]? := fun j hj => by
        rw [block_cell hlr, List.getElem?_toArray]; exact hget j hj
      have hasc := HM.out _ (List.getElem_mem hlt)
      have hsn := objP_snoc M k hlt
      have hpr := objP_pre M (k + 1)
      have hff := HMV.out _ (List.getElem_mem hlt)
      generalize M[k] = ln at *
      obtain ⟨st, v, m, a⟩ := ln
      have c0 : wr.cell? ⟨g, k * 4, none⟩ = some (.string st) := hcell 0 (by omega)
      have c1 : wr.cell? ⟨g, k * 4 + 1, none⟩ = some (.int .i64 v) := hcell 1 (by omega)
      have c2 : wr.cell? ⟨g, k * 4 + 2, none⟩ = some (.int .i64 m) := hcell 2 (by omega)
      have c3 : wr.cell? ⟨g, k * 4 + 3, none⟩ = some (.int .i64 a) := hcell 3 (by omega)
      have HASC := Lib.hid hasc
      have HSN := Lib.hid hsn
      have HPR := Lib.hid hpr
      have HFF := Lib.hid hff
      have HMF := hmf
      clear hlr hget hcell hasc hsn hpr hff HMF
      have hbn := below_new2 wr (.cells #[.string st, .int .i64 v, .int .i64 m, .int .i64 a] 129)
      have hin : ObjI tb i (updT T i (T i ++ objP (linesOf (M.take k)))) ⟨1, m, a, false, []⟩ ⟨1, m + 1, a, false, []⟩ w.heap.size (wr.alloc (.cells #[.string st, .int .i64 v, .int .i64 m, .int .i64 a] 129)) ow2 [] := by
        refine ObjI.kept ⟨?_, HPX.out, HK2.out⟩ (Same.of hbn) hbn.size
        rw [show objR ⟨1, m, a, false, []⟩ ⟨1, m + 1, a, false, []⟩ [] = [] from rfl, List.append_nil, updT_self]; exact HT.out
      have hdo := obj1_ok tb i (updT T i (T i ++ objP (linesOf (M.take k)))) v m a w.heap.size (eachP [] (codesOf st)) hi HFF.out (by
        rw [updT_at, List.append_assoc, ← HSN.out]
        exact HG.out.pre ((List.prefix_append_right_inj _).2 HPR.out))
      have HIN := Lib.hid hin
      have HDO := Lib.hid hdo
      have HBN := Lib.hid hbn
      clear hin hdo hbn
      go_wp2_with fail
      refine (each_c _ _ _ _ v m a HDO.out ow2 st _ HASC.out.1 HASC.out.2 rfl HIN.out).mono ?_
      rintro e w3 ⟨rfl, ow3, h3, hc3, ht3⟩
      have hbs := HBN.out.size
      have hto3 : Touch (fun b => live (ow b)) w w3 := (HTO.out.trans (Touch.of (O := fun b => live (ow b)) HBN.out) (fun x hx => .inl hx)).trans ht3 (fun x hx => by
        by_cases hx0 : x < w.heap.size
        · exact .inl (by rw [← HCL.out x hx0]; exact hx)
        · exact .inr (by omega))
      have hws := HTO.out.size
      have HI3 := Lib.hid h3
      have HC3 := Lib.hid hc3
      have HT3 := Lib.hid hto3
      clear h3 hc3 ht3 hto3
      go_wp2
      go_roundg (gk - 1)
      case measure => omega
      case rel =>
        obtain ⟨h1, h2, h3⟩ := HI3.out
        refine ⟨k + 1, ow3, by omega, by go_num, ?_, h2, h3, fun b hb => ?_, HT3.out⟩
        · rw [updT_same, updT_at, List.append_assoc, ← HSN.out] at h1
          exact h1
        · rw [HC3.out b (by omega)]; exact HCL.out b hb
    · have hk : M.take k = M := List.take_of_length_le (by omega)
      have hfin : PutPostT ow tb (updT T i (T i ++ objP (linesOf M))) w wr := by
        have h1 := HT.out
        rw [hk] at h1
        exact ⟨ow2, h1, HCL.out, HTO.out⟩
      have HFIN := Lib.hid hfin
      clear hk hfin
      go_wp2
      go_end0
      exact ⟨rfl, HFIN.out⟩
end Go.Proofs.Ytampjndfhpjheaa
