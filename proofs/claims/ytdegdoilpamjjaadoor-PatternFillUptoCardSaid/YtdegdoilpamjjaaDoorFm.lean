/- Contracts: what the document gives: turned, give. Condition: fewer than a million ints are given. -/
import Derived.Test.YtdegdoilpamjjaaDoorFl
import Derived.Test.YtdegdoilpamjjaaDoorRd
import Derived.Deep.AppendLies
namespace Go.Proofs.YtdegdoilpamjjaaDoor
open Go.RowKit
set_option linter.unusedVariables false
/-- a way in the document's letters -/
def WayD (k : Nat) (how : Int) : Prop := k = 0 ∧ how = 0 ∨ k = 1 ∧ (how = 117 ∨ how = 85) ∨ k = 2 ∧ (how = 108 ∨ how = 76)
theorem turned_c (a how : Int) (k : Nat) (h : WayD k how) (w : World) : Calls Tryd.prog 60 #[.int .i64 a, .int .i64 how] w fun e w' => e = .returned (.int .i64 (caseF k a)) ∧ w = w' := by
  rcases h with ⟨rfl, rfl⟩ | ⟨rfl, rfl | rfl⟩ | ⟨rfl, rfl | rfl⟩
  · go_enter Tryd.func60, Tryd.ntmps60
    go_wp2
    go_ret
    exact ⟨rfl, rfl⟩
  all_goals
    go_enter Tryd.func60, Tryd.ntmps60
    go_wp2_with (first | (go_at_call 75; refine (rup_any _ _).mono ?_; rintro e w' ⟨rfl, rfl⟩) | (go_at_call 76; refine (rlow_any _ _).mono ?_; rintro e w' ⟨rfl, rfl⟩))
    go_ret
    exact ⟨rfl, rfl⟩
theorem slice_shape {w : World} {base : Nat} {e : TypeId} {size n : Nat} {v : Value} {xs : List Value} (h : w.ownsRow base e size v (n + 1) xs) : ∃ s c, v = .slice s (n + 1) c := by
  rcases h.2 with ⟨_, h2⟩ | ⟨g, cap, cur, h1, _⟩
  · omega
  · exact ⟨_, _, h1⟩
/-- an append of one int, as a step of a region that draws -/
theorem step_push_i {w : World} {ops : Array Oper} {o : Oper} {a : Act} {K : Act → World → Prop} {Q : Exit → Act → World → Prop} {E : Prop} (k : Int) (hg : o.guard = none) (s x : Operand)
    (hop : o.op = .call { callee := .builtin .append, args := #[s, x], argTypes := #[22, 22] })
    (sl : Option Addr) (j c : Nat) (l : List Int) (hs : a.eval s = .slice sl j c) (hx : a.eval x = .slice (some ⟨w.heap.size, 0, none⟩) 1 1) (B : Nat) (hB : B ≤ w.heap.size) (hown : OwnInts w B (.slice sl j c) l) (hjl : j = l.length) (hj : j < 1073741824)
    (h : ∀ s' c' w', OwnInts w' B (.slice s' (j + 1) c') (l ++ [k]) → w.grownBy w' (Value.slice sl j c).ownBlock → ((Value.slice s' (j + 1) c').ownBlock = (Value.slice sl j c).ownBlock ∨ ∃ b, (Value.slice s' (j + 1) c').ownBlock = some b ∧ w.heap.size ≤ b) → K (a.put o.dst (.slice s' (j + 1) c')) w') :
    if Region.wanted o (yielded ops a.tmps) = true then Oper.wp Tryd.prog o a (w.alloc (.cells #[.int .i64 k] 3)) K Q else E := by
  have hw : Region.wanted o (yielded ops a.tmps) = true := by simp [Region.wanted, hg]
  rw [if_pos hw]
  subst hjl
  obtain ⟨i0, hi, hz0, hz1, hz2⟩ := info_parts Tryd.infoInt
  have hown1 : OwnInts (w.alloc (.cells #[.int .i64 k] 3)) B (.slice sl l.length c) l := hown.kept (fun b hb _ => Below.heap_alloc w _ b hb)
  have hown2 := hown1
  unfold OwnInts at hown2
  obtain ⟨v', w', hr, h2, h3, h4, h5⟩ := run_append_own_at (P := Tryd.prog) (w.alloc (.cells #[.int .i64 k] 3)) B 22 o.type 3 i0 (.int .i64 0) 1 8 Tryd.underlying22 hi hz0 hz1 hz2 rfl (by decide) _ l.length _ hown2 ⟨w.heap.size, 0, none⟩ 1 1 [.int .i64 k] rfl (cell_one_new _ _ _) (ints_oneCell _ [k]) (by unfold maxLen; omega) (by omega) (by simp; omega)
  obtain ⟨s', c', rfl⟩ := slice_shape h2
  have hO : OwnInts w' B (.slice s' (l.length + 1) c') (l ++ [k]) := by
    unfold OwnInts
    rw [List.length_append, List.map_append]
    exact h2
  have hK := h s' c' w' hO (World.grownBy.trans (World.grownBy_alloc w _ _) h3) (by
    rcases h5 with e | e
    · exact .inl e
    · exact .inr ⟨_, e, by simp⟩)
  unfold Oper.wp
  simp only [execOp, hop, resolve, invoke, builtin, hs, hx, hr, Result.andThen, Sem.run_bind, Sem.run_pure, List.map_toArray, List.map_cons, List.map_nil]
  exact hK
def oD (k : Nat) : Int := if k = 0 then 0 else if k = 1 then 117 else 108
def sD (k : Nat) : Int := if k = 0 then 0 else if k = 1 then 85 else 76
theorem way_o {k : Nat} (h : k ≤ 2) : WayD k (oD k) := by
  obtain rfl | rfl | rfl : k = 0 ∨ k = 1 ∨ k = 2 := by omega
  · exact .inl ⟨rfl, rfl⟩
  · exact .inr (.inl ⟨rfl, .inl rfl⟩)
  · exact .inr (.inr ⟨rfl, .inl rfl⟩)
theorem way_s {k : Nat} (h : k ≤ 2) : WayD k (sD k) := by
  obtain rfl | rfl | rfl : k = 0 ∨ k = 1 ∨ k = 2 := by omega
  · exact .inl ⟨rfl, rfl⟩
  · exact .inr (.inl ⟨rfl, .inr rfl⟩)
  · exact .inr (.inr ⟨rfl, .inr rfl⟩)
theorem oD_ne {k : Nat} (h : k ≤ 2) (h0 : k ≠ 0) : oD k ≠ 0 := by
  obtain rfl | rfl : k = 1 ∨ k = 2 := by omega
  · decide
  · decide
/-- the document's filler in block b -/
structure FillR (w : World) (base b : Nat) (s : FS) (sl : Option Addr) (n c : Nat) : Prop where
  ge : base ≤ b
  blk : w.heap[b]? = some (.cells #[.slice sl n c, .int .i64 (oD s.once), .int .i64 (sD s.stay)] 94 (0, 0))
  own : OwnInts w base (.slice sl n c) s.out
  once : s.once ≤ 2
  stay : s.stay ≤ 2
section
variable {w w' : World} {base b : Nat} {s : FS} {sl : Option Addr} {n c : Nat}
theorem FillR.later (h : FillR w base b s sl n c) (hb : Below w.heap.size w w') : FillR w' base b s sl n c :=
  { h with blk := (hb.block b (heap_lt h.blk)).trans h.blk, own := h.own.kept (fun q hq _ => hb.block q hq) }
theorem FillR.ownb (h : FillR w base b s sl n c) : (Value.slice sl n c).ownBlock ≠ some b := by
  intro hv
  rcases h.own.2 with ⟨h1, _⟩ | ⟨g, cap, cur, h1, _, hgg, _⟩
  · rw [h1] at hv; simp [Value.ownBlock] at hv
  · rw [h1] at hv
    simp [Value.ownBlock] at hv
    subst hv
    rw [h.blk] at hgg
    simp at hgg
theorem FillR.n_eq (h : FillR w base b s sl n c) : n = s.out.length := h.own.len
theorem FillR.setO (h : FillR w base b s sl n c) (k : Nat) (hk : k ≤ 2) {v : Int} (hv : oD k = v) : FillR (w.setCell ⟨b, 1, none⟩ (.int .i64 v)) base b ⟨s.out, k, s.stay⟩ sl n c := by
  subst hv
  exact
  { h with
    blk := block_set _ h.blk
    own := h.own.kept (fun q hq he => Below.heap_setCell _ _ _ _ (fun e => h.ownb (by rw [he]; exact congrArg some e)))
    once := hk }
theorem FillR.setS (h : FillR w base b s sl n c) (k : Nat) (hk : k ≤ 2) {v : Int} (hv : sD k = v) : FillR (w.setCell ⟨b, 2, none⟩ (.int .i64 v)) base b ⟨s.out, s.once, k⟩ sl n c := by
  subst hv
  exact
  { h with
    blk := block_set _ h.blk
    own := h.own.kept (fun q hq he => Below.heap_setCell _ _ _ _ (fun e => h.ownb (by rw [he]; exact congrArg some e)))
    stay := hk }
end
theorem FillR.as {w : World} {base b : Nat} {s : FS} {sl : Option Addr} {n c : Nat} (h : FillR w base b s sl n c) (ho : s.once = 0) : FillR w base b ⟨s.out, 0, s.stay⟩ sl n c := by
  obtain ⟨out, once, stay⟩ := s
  simp only at ho
  subst ho
  exact h
/-- one int more -/
theorem FillR.tail {w0 w w' : World} {b : Nat} {s : FS} {sl s' : Option Addr} {n c c' : Nat} {a : Int} (h : FillR w w0.heap.size b s sl n c) (hb : Below w0.heap.size w0 w) (ho : OwnInts w' w0.heap.size (.slice s' (n + 1) c') (s.out ++ [a])) (hg : w.grownBy w' (Value.slice sl n c).ownBlock)
    (hat : (Value.slice s' (n + 1) c').ownBlock = (Value.slice sl n c).ownBlock ∨ ∃ b, (Value.slice s' (n + 1) c').ownBlock = some b ∧ w.heap.size ≤ b) :
    FillR (w'.setCell ⟨b, 0, none⟩ (.slice s' (n + 1) c')) w0.heap.size b ⟨s.out ++ [a], s.once, s.stay⟩ s' (n + 1) c' ∧ Below w0.heap.size w0 (w'.setCell ⟨b, 0, none⟩ (.slice s' (n + 1) c')) := by
  have hbl := heap_lt h.blk
  have hb2 := (hg.block b hbl (fun e => h.ownb e.symm)).trans h.blk
  refine ⟨?_, (Below.grown hb hg hb.size (fun q hq => (h.own.lt q hq).1)).setCell h.ge _⟩
  refine { ge := h.ge, blk := block_set _ hb2, own := ?_, once := h.once, stay := h.stay }
  refine ho.kept (fun q hq he => Below.heap_setCell _ ⟨b, 0, none⟩ _ _ ?_)
  rcases hat with e | ⟨z, e, hz⟩
  · rw [e] at he; exact fun hh => h.ownb (by rw [he]; exact congrArg some hh)
  · rw [e] at he; cases he; exact fun hh => by have : q = b := hh; omega
/-- what the document's give leaves -/
def RGive (w0 : World) (b : Nat) (s : FS) (e : Ending) (w' : World) : Prop := e = .returned (.tuple #[]) ∧ Below w0.heap.size w0 w' ∧ ∃ so no co, FillR w' w0.heap.size b s so no co
set_option maxRecDepth 100000 in
set_option maxHeartbeats 4000000 in
theorem rgive_c (w0 : World) (b : Nat) (s : FS) (so : Option Addr) (no co : Nat) (a : Int) (w : World) (hb : Below w0.heap.size w0 w) (hm : FillR w w0.heap.size b s so no co) (hl : s.out.length < 1000000) :
    Calls Tryd.prog 43 #[.pointer (some ⟨b, 0, none⟩), .int .i64 a] w (RGive w0 b (giveD s a)) := by
  have hbl := heap_lt hm.blk
  have d0 : w.cell? ⟨b, 0, none⟩ = some (.slice so no co) := block_cell hm.blk
  have d1 : w.cell? ⟨b, 1, none⟩ = some (.int .i64 (oD s.once)) := block_cell hm.blk
  have d2 : w.cell? ⟨b, 2, none⟩ = some (.int .i64 (sD s.stay)) := block_cell hm.blk
  have f0 : ∀ i, w.frozen? ⟨b, i, none⟩ = false := fun i => block_free hm.blk
  have HM := Lib.hid hm
  have HB := Lib.hid hb
  have HL := Lib.hid hl
  clear hm hb hl
  by_cases ho : s.once = 0
  · rw [show oD s.once = 0 by rw [ho]; rfl] at d1
    obtain ⟨q, hq⟩ : ∃ q, sD s.stay = q := ⟨_, rfl⟩
    rw [hq] at d2
    have HW := Lib.hid (show WayD s.stay q by rw [← hq]; exact way_s HM.out.stay)
    have HO := Lib.hid ho
    clear hq ho
    go_enter Tryd.func43, Tryd.ntmps43
    obtain ⟨ca, hca⟩ : ∃ ca, caseF s.stay a = ca := ⟨_, rfl⟩
    have HCA := Lib.hid hca
    clear hca
    go_wp2_with fail
    have hd1 : Below w.heap.size w w.drew := (Below.refl _ _).drew
    have HMD := Lib.hid (HM.out.later hd1)
    have HBD := Lib.hid (HB.out.trans (hd1.mono HB.out.size))
    have k0 : w.drew.cell? ⟨b, 0, none⟩ = some (.slice so no co) := block_cell HMD.out.blk
    have k1 : (w.drew.alloc (.cells #[.int .i64 ca] 3)).cell? ⟨b, 0, none⟩ = some (.slice so no co) := block_cell (HMD.out.later (below_new2 _ _)).blk
    clear hd1
    go_region_law (first
      | (go_simp; go_at_call 60; refine (turned_c a q s.stay HW.out _).mono ?_; rintro e w2 ⟨rfl, rfl⟩; rw [HCA.out])
      | (refine step_push_i ca ?_ (.tmp 25) (.tmp 29) ?_ so no co s.out ?_ ?_ w0.heap.size HBD.out.size HMD.out.own HMD.out.n_eq (by have := HL.out; have := HM.out.n_eq; omega) ?_; rfl; rfl; simp [Act.eval]; simp [Act.eval]; intro s' c' w3 ho hg3 hat; have hb3 := (hg3.block b (heap_lt HMD.out.blk) (fun e => HMD.out.ownb e.symm)).trans HMD.out.blk; have k2 := block_cell (i := 0) hb3; have kf := block_free (i := 0) hb3))
    all_goals
      obtain ⟨t1, t2⟩ := HMD.out.tail HBD.out ho hg3 hat
      clear hb3 k0 k1 k2 kf ho hg3 hat d0 d1 d2 f0
      go_wp2
      go_end0
      refine ⟨rfl, t2, s', no + 1, c', ?_⟩
      unfold giveD howS
      rw [if_pos HO.out, HCA.out]
      exact t1.as HO.out
  · obtain ⟨q, hq⟩ : ∃ q, oD s.once = q := ⟨_, rfl⟩
    have hq0 : q ≠ 0 := by rw [← hq]; exact oD_ne HM.out.once ho
    rw [hq] at d1
    have HW := Lib.hid (show WayD s.once q by rw [← hq]; exact way_o HM.out.once)
    have HO := Lib.hid ho
    have q1 : (q == 0) = false := by rw [beq_eq_false_iff_ne]; exact hq0
    have q2 : (q != 0) = true := by rw [bne_iff_ne]; exact hq0
    clear hq ho hq0
    obtain ⟨ca, hca⟩ : ∃ ca, caseF s.once a = ca := ⟨_, rfl⟩
    have HCA := Lib.hid hca
    clear hca
    go_enter Tryd.func43, Tryd.ntmps43
    go_wp2_with fail
    have HM1 := Lib.hid (HM.out.setO 0 (Nat.zero_le _) (v := 0) rfl)
    have HB1 := Lib.hid (HB.out.setCell (show w0.heap.size ≤ (⟨b, 1, none⟩ : Addr).block from HM.out.ge) (.int .i64 0))
    generalize w.setCell ⟨b, 1, none⟩ (.int .i64 0) = w1 at *
    clear d0 d1 d2 f0
    have d0 : w1.cell? ⟨b, 0, none⟩ = some (.slice so no co) := block_cell HM1.out.blk
    have d0' : (w1.alloc (.cells #[.int .i64 ca] 3)).cell? ⟨b, 0, none⟩ = some (.slice so no co) := block_cell (HM1.out.later (below_new2 _ _)).blk
    have f0 : ∀ i, w1.frozen? ⟨b, i, none⟩ = false := fun i => block_free HM1.out.blk
    have hd1 : Below w1.heap.size w1 w1.drew := (Below.refl _ _).drew
    have HMD := Lib.hid (HM1.out.later hd1)
    have HBD := Lib.hid (HB1.out.trans (hd1.mono HB1.out.size))
    have k0 : w1.drew.cell? ⟨b, 0, none⟩ = some (.slice so no co) := block_cell HMD.out.blk
    have k1 : (w1.drew.alloc (.cells #[.int .i64 ca] 3)).cell? ⟨b, 0, none⟩ = some (.slice so no co) := block_cell (HMD.out.later (below_new2 _ _)).blk
    clear hd1
    go_region_law (first
      | (go_simp; go_at_call 60; refine (turned_c a q s.once HW.out _).mono ?_; rintro e w2 ⟨rfl, rfl⟩; rw [HCA.out])
      | (refine step_push_i ca ?_ (.tmp 25) (.tmp 29) ?_ so no co s.out ?_ ?_ w0.heap.size HBD.out.size HMD.out.own HMD.out.n_eq (by have := HL.out; have := HM.out.n_eq; omega) ?_; rfl; rfl; simp [Act.eval]; simp [Act.eval]; intro s' c' w3 ho hg3 hat; have hb3 := (hg3.block b (heap_lt HMD.out.blk) (fun e => HMD.out.ownb e.symm)).trans HMD.out.blk; have k2 := block_cell (i := 0) hb3; have kf := block_free (i := 0) hb3))
    all_goals
      obtain ⟨t1, t2⟩ := HMD.out.tail HBD.out ho hg3 hat
      clear hb3 k0 k1 k2 kf ho hg3 hat d0 d0' f0
      go_wp2
      go_end0
      refine ⟨rfl, t2, s', no + 1, c', ?_⟩
      unfold giveD howS
      rw [if_neg HO.out, HCA.out]
      exact t1
end Go.Proofs.YtdegdoilpamjjaaDoor
