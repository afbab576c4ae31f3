/- Contract: pattern.Compile at a quoted list. Condition: no more than 128 ints. -/
import Derived.Test.YtdegdoilpamjjaaDoorQg
import Derived.Defers
import Derived.Recover
namespace Go.Proofs.YtdegdoilpamjjaaDoor
open Go.RowKit
set_option linter.unusedVariables false
set_option linter.unusedSimpArgs false
theorem region_recQ {P : Program} {id : Nat} {o : Oper} {l : List Oper} {Q : Exit → Act → List Frame → World → Prop} {Q1 : Exit → Act → World → Prop} {a : Act} {cs cs' : List Frame} {w : World} {v : Value} (hr : (execOp a.eval o).run P w = .ok .recover w) (hgd : o.guard = none)
    (hrec : recoverD cs = some (v, cs') ∨ recoverD cs = none ∧ v = .nilIface ∧ cs' = cs) (hq : ∀ e a w, Q1 e a w → Q e a cs' w) (h : wpList P (o :: l).toArray Q1 l (a.put o.dst v) w) : (Code.region id (o :: l).toArray false).wpS P Q a cs w := by
  intro b k hb hro
  have h1 : wpOps P (o :: l).toArray Q1 (List.range' 1 l.length) (a.put o.dst v) w := by
    rw [wpOps_eq_wpList l 1 (by intro j; simp [Nat.add_comm 1 j])]
    exact h
  obtain ⟨e, a', w', q, r⟩ := wp_ops _ _ _ h1 b k cs'
  have ho : (o :: l).toArray[0]? = some o := by simp
  have hw : Region.wanted o (yielded (o :: l).toArray a.tmps) = true := by simp [Region.wanted, hgd]
  have hg := stepG_op (P := P) (b := b) (a := a) (k := k) (cs := cs) (w := w) (rest := List.range' 1 l.length) ho hw
  have hfin : ∀ v, (b.at a (.inRegion (o :: l).toArray (0 :: List.range' 1 l.length) :: k)).finish v = b.at (a.put o.dst v) (.inRegion (o :: l).toArray (List.range' 1 l.length) :: k) := by
    intro v; rw [Frame.finish_at, ho]; rfl
  have hk : (b.at a (.inRegion (o :: l).toArray (0 :: List.range' 1 l.length) :: k)).kind = .deferred := hb
  have htr := tryRecover_deferred hk cs
  have hstep : step P (lone (b.at a (.inRegion (o :: l).toArray (0 :: List.range' 1 l.length) :: k)) cs w) = .next (lone (b.at (a.put o.dst v) (.inRegion (o :: l).toArray (List.range' 1 l.length) :: k)) cs' w) := by
    refine step_lone_go ?_
    rw [hg, ← hfin]
    simp only [Frame.at] at htr ⊢
    rcases hrec with hrec | ⟨hrec, rfl, rfl⟩
    · simp [stepG.apply, hr, htr, hrec]
    · simp [stepG.apply, hr, htr, hrec]
  refine ⟨e, a', cs', w', hq _ _ _ q, .of_steps (.one ?_) (.of_steps (.one hstep) r)⟩
  have := step_region (P := P) (b := b) (a := a) (k := k) (cs := cs) (w := w) (id := id) (ops := (o :: l).toArray)
  rw [this]
  have e1 : List.range (o :: l).toArray.size = 0 :: List.range' 1 l.length := by simp [List.range_eq_range', List.range'_succ]
  rw [e1]
theorem seq_recQ {P : Program} {id : Nat} {o : Oper} {l : List Oper} {y : Code} {Q : Exit → Act → List Frame → World → Prop} {a : Act} {cs cs' : List Frame} {w : World} {v : Value} (hr : (execOp a.eval o).run P w = .ok .recover w) (hgd : o.guard = none)
    (hrec : recoverD cs = some (v, cs') ∨ recoverD cs = none ∧ v = .nilIface ∧ cs' = cs)
    (h : wpList P (o :: l).toArray (Exit.then (y.wp P (fun e a w => Q e a cs' w)) (fun e a w => Q e a cs' w)) l (a.put o.dst v) w) : (Code.seq (Code.region id (o :: l).toArray false) y).wpS P Q a cs w := by
  apply wpS_seq
  refine region_recQ hr hgd hrec ?_ h
  intro e a w hq
  cases e with
  | normal => exact wpS_of_wp hq
  | _ => exact hq
theorem assert_nilQ (w : World) : (Instr.typeAssert .nilIface 20 68 true).run Tryd.prog w = .ok (.tuple #[.int .i64 0, .bool false]) w := by kernel_rfl
theorem catch_idleQ (q0 q1 q2 : Value) (w : World) :
    CallsD Tryd.prog 34 #[q0, q1, q2] .returning w fun e u' w' => e = .returned (.tuple #[]) ∧ u' = .returning ∧ w' = w := by
  refine callsD_of_wpS Tryd.func34 rfl fun c₀ cs hu => ?_
  refine seq_recQ (v := .nilIface) (cs' := c₀ :: cs) ?_ rfl (.inr ⟨?_, rfl, rfl⟩) ?_
  · simp [go_sem]
  · simp [recoverD, hu]
  simp only [Tryd.ntmps34, List.size_toArray, List.length_cons, List.length_nil, Nat.reduceAdd, Nat.reduceSub, Array.replicate_succ, Array.replicate_zero, List.push_toArray, List.append_toArray, List.nil_append, List.cons_append]
  have ha := assert_nilQ
  go_wp2
  exact ⟨rfl, .returning, by rw [← hu], _, results_none rfl _ _ _, rfl, rfl, rfl⟩
theorem comp_boxes (w : World) (v0 v1 v2 : Value) :
    IsBox (((w.alloc (.cells #[v0] 26)).alloc (.cells #[v1] 3)).alloc (.cells #[v2] 42)) w.heap.size 26 v0 ∧
    IsBox (((w.alloc (.cells #[v0] 26)).alloc (.cells #[v1] 3)).alloc (.cells #[v2] 42)) (w.heap.size + 1) 3 v1 ∧
    IsBox (((w.alloc (.cells #[v0] 26)).alloc (.cells #[v1] 3)).alloc (.cells #[v2] 42)) (w.heap.size + 1 + 1) 42 v2 ∧
    Below w.heap.size w (((w.alloc (.cells #[v0] 26)).alloc (.cells #[v1] 3)).alloc (.cells #[v2] 42)) := by
  refine ⟨?_, ?_, ?_, ?_⟩
  · have := ((IsBox.new w 26 v0).alloc (.cells #[v1] 3)).alloc (.cells #[v2] 42)
    simpa using this
  · have := (IsBox.new (w.alloc (.cells #[v0] 26)) 3 v1).alloc (.cells #[v2] 42)
    simpa using this
  · have := IsBox.new ((w.alloc (.cells #[v0] 26)).alloc (.cells #[v1] 3)) 42 v2
    simpa using this
  · exact (((Below.refl _ _).alloc (Nat.le_refl _) _).alloc (by simp) _).alloc (by simp; omega) _
theorem comp_results (tmps : Array Value) (b0 b1 b2 : Nat) (p : Option Addr) (w : World) (h4 : tmps.getD 4 undef = .pointer (some ⟨b0, 0, none⟩)) (h5 : tmps.getD 5 undef = .pointer (some ⟨b1, 0, none⟩)) (h6 : tmps.getD 6 undef = .pointer (some ⟨b2, 0, none⟩)) (x y : Int)
    (hp : IsBox w b0 26 (.pointer p)) (ha : IsBox w b1 3 (.int .i64 x)) (he : IsBox w b2 42 (.int .i64 y)) :
    (results Tryd.f20 tmps).run Tryd.prog w = .ok (.tuple #[.pointer p, .int .i64 x, .int .i64 y]) w := by
  have x0 := hp.cell.1
  have x1 := ha.cell.1
  have x2 := he.cell.1
  simp only [Array.getD_eq_getD_getElem?] at h4 h5 h6
  simp [results, Tryd.results20, go_sem, h4, h5, h6, x0, x1, x2]
theorem comp_door (tmps : Array Value) (b0 b1 b2 : Nat) (p : Option Addr) (w : World) (R : Ending → World → Prop) (h4 : tmps.getD 4 undef = .pointer (some ⟨b0, 0, none⟩)) (h5 : tmps.getD 5 undef = .pointer (some ⟨b1, 0, none⟩)) (h6 : tmps.getD 6 undef = .pointer (some ⟨b2, 0, none⟩)) (x y : Int)
    (hp : IsBox w b0 26 (.pointer p)) (ha : IsBox w b1 3 (.int .i64 x)) (he : IsBox w b2 42 (.int .i64 y)) (h : R (.returned (.tuple #[.pointer p, .int .i64 x, .int .i64 y])) w) :
    bodyPostD Tryd.prog Tryd.f20 R .ret { tmps := tmps, defers := [{ target := .fn (.func 34) #[.pointer (some ⟨b0, 0, none⟩), .pointer (some ⟨b1, 0, none⟩), .pointer (some ⟨b2, 0, none⟩)], args := #[] }] } w := by
  refine leaves_cons (f := 34) (args := #[.pointer (some ⟨b0, 0, none⟩), .pointer (some ⟨b1, 0, none⟩), .pointer (some ⟨b2, 0, none⟩)]) (by simp) (by simp [go_sem]) ?_
  refine (catch_idleQ _ _ _ w).mono ?_
  rintro e u' w' ⟨rfl, rfl, rfl⟩
  exact ⟨_, comp_results _ b0 b1 b2 p w' h4 h5 h6 x y hp ha he, h⟩
/-- a pattern of plain ints in memory -/
structure PlainP (w : World) (base pb : Nat) (l : List Int) (sA : Option Addr) (cA : Nat) (vs : List Value) : Prop where
  pas : PaS w base pb 0 (l.length + 1) (vs.flatMap actC ++ [.int .i64 6, .int .i64 0, .int .i64 0, .pointer none]) sA cA
  len : vs.length = l.length
  sets : ∀ i (hi : i < vs.length) (hj : i < l.length), SetN w false vs[i] l[i]
theorem set_oth {w : World} {b0 b : Nat} {t0 t : TypeId} {v0 : Value} {cs : Array Value} (hx : IsBox w b0 t0 v0) (u : Value) (h : w.heap[b]? = some (.cells cs t (0, 0))) (ht : t ≠ t0) : (w.setCell ⟨b0, 0, none⟩ u).heap[b]? = w.heap[b]? :=
  Below.heap_setCell w ⟨b0, 0, none⟩ u b (type_ne h hx ht)
theorem FrA.keepS {base : Nat} {w w' : World} (h : FrA base w w') : KeepS w w' := fun b cs t h1 h2 => h.oth b cs t h1 (by rcases h2 with rfl | rfl <;> decide) (by rcases h2 with rfl | rfl <;> decide)
theorem FrA.box {base b : Nat} {t : TypeId} {v : Value} {w w' : World} (h : FrA base w w') (hx : IsBox w b t v) (h1 : t ≠ 62) (h2 : t ≠ 80) : IsBox w' b t v := h.oth _ _ _ hx h1 h2
theorem PaS.box {w : World} {base pb : Nat} {groups : Int} {n : Nat} {xs : List Value} {sA : Option Addr} {cA : Nat} (h : PaS w base pb groups n xs sA cA) {b : Nat} {t : TypeId} {v : Value} (hx : IsBox w b t v) (h1 : t ≠ 62) (h2 : t ≠ 80) (u : Value) :
    PaS (w.setCell ⟨b, 0, none⟩ u) base pb groups n xs sA cA := by
  refine ⟨(set_oth hx u h.blk (Ne.symm h1)).trans h.blk, own_kept h.own fun g hg => ?_, h.low⟩
  obtain ⟨cs, h3⟩ := own_type h.own hg
  exact set_oth hx u h3 (Ne.symm h2)
/-- the new pattern, and where it is laid -/
theorem comp_mid {w4 w6 : World} {base rb : Nat} {sl : Option Addr} {n c : Nat} {fold : Bool} {l : List Int} {cb mb : Nat} {sR : Option Addr} {cR : Nat} {sM : Option Addr} {cM : Nat} {vs : List Value} {b0 : Nat} {v0 : Value} (pe : PatE w4 w6 rb sl n c fold l cb mb sR cR sM cM vs)
    (hx : IsBox w6 b0 26 v0) (hb0 : base ≤ b0) (hb4 : base ≤ w4.heap.size) (o : Obj) (ho : o = .cells #[.slice none 0 0, .int .i64 0, .int .i64 0] 62) (u : Value) :
    PaS ((w6.alloc o).setCell ⟨b0, 0, none⟩ u) base w6.heap.size 0 0 [] none 0 ∧ ((w6.alloc o).setCell ⟨b0, 0, none⟩ u).heap[cb]? = some (.cells #[.slice sR 1 cR] 114 (0, 0)) ∧
    ((w6.alloc o).setCell ⟨b0, 0, none⟩ u).heap[mb]? = some (.cells #[.slice sM l.length cM] 117 (0, 0)) ∧ ((w6.alloc o).setCell ⟨b0, 0, none⟩ u).ownsRow w4.heap.size 74 1 (.slice sR 1 cR) 1 [.iface 115 (.pointer (some ⟨mb, 0, none⟩))] ∧
    ((w6.alloc o).setCell ⟨b0, 0, none⟩ u).ownsRow w4.heap.size 74 1 (.slice sM l.length cM) l.length vs ∧ KeepS w6 ((w6.alloc o).setCell ⟨b0, 0, none⟩ u) ∧ IsBox ((w6.alloc o).setCell ⟨b0, 0, none⟩ u) b0 26 u ∧
    (∀ b t v, IsBox w6 b t v → t ≠ 26 → IsBox ((w6.alloc o).setCell ⟨b0, 0, none⟩ u) b t v) ∧ Below base w6 ((w6.alloc o).setCell ⟨b0, 0, none⟩ u) := by
  have hz := pe.tch.size
  have h2 := one_new w6 o
  have hb := below_newJ w6 o
  subst ho
  have x1 := hx.below hb
  generalize w6.alloc (.cells #[.slice none 0 0, .int .i64 0, .int .i64 0] 62) = w7 at h2 hb x1 ⊢
  have hoth : ∀ (b : Nat) (cs : Array Value) (t : TypeId), w7.heap[b]? = some (.cells cs t (0, 0)) → t ≠ 26 → (w7.setCell ⟨b0, 0, none⟩ u).heap[b]? = some (.cells cs t (0, 0)) := fun b cs t h1 h3 => (set_oth x1 u h1 h3).trans h1
  have hk : ∀ {b : Nat} {o : Obj}, w6.heap[b]? = some o → w7.heap[b]? = some o := fun {b o} h1 => (hb.block b (heap_lt h1)).trans h1
  refine ⟨⟨hoth _ _ _ h2 (by decide), World.ownsRow_nil _ _ _ _, by omega⟩, hoth _ _ _ (hk pe.cblk) (by decide), hoth _ _ _ (hk pe.mblk) (by decide), ?_, ?_, ?_, x1.set u, fun b t v h1 h3 => hoth _ _ _ (hk h1) h3, (hb.mono (by omega)).setCell (p := ⟨b0, 0, none⟩) hb0 u⟩
  · refine own_kept (own_later pe.ownR hb) fun g hg => ?_
    obtain ⟨cs, h3⟩ := own_type (own_later pe.ownR hb) hg
    exact (hoth _ _ _ h3 (by decide)).trans h3.symm
  · refine own_kept (own_later pe.own hb) fun g hg => ?_
    obtain ⟨cs, h3⟩ := own_type (own_later pe.own hb) hg
    exact (hoth _ _ _ h3 (by decide)).trans h3.symm
  · exact fun b cs t h1 h3 => hoth _ _ _ (hk h1) (by rcases h3 with rfl | rfl <;> decide)
set_option maxRecDepth 100000 in
set_option maxHeartbeats 8000000 in
theorem compile_q (sl : Option Addr) (n c : Nat) (l : List Int) (w : World) (hn : (qd l).length = n) (h256 : n ≤ 256) (hl : 0 < l.length) (hll : l.length ≤ 4000) (hs : IsInts w sl n (gl (qd l))) :
    Calls Tryd.prog 20 #[.slice sl n c, .bool false] w fun e w' => ∃ pb sA cA vs, e = .returned (.tuple #[.pointer (some ⟨pb, 0, none⟩), .int .i64 0, .int .i64 0]) ∧ Below w.heap.size w w' ∧ PlainP w' w.heap.size pb l sA cA vs := by
  have q1 : ¬ (256 : Int) < (n : Int) := by omega
  have hmf : ∀ (fn : Fn) (first cap : Array Value) (w : World), (Instr.makeFunc fn first cap).run Tryd.prog w = .ok (.func fn first cap) w := fun _ _ _ _ => rfl
  have hx := comp_boxes w (.pointer none) (.int .i64 0) (.int .i64 0)
  have hsz : (((w.alloc (.cells #[.pointer none] 26)).alloc (.cells #[.int .i64 0] 3)).alloc (.cells #[.int .i64 0] 42)).heap.size = w.heap.size + 1 + 1 + 1 := by simp
  generalize hw : ((w.alloc (.cells #[.pointer none] 26)).alloc (.cells #[.int .i64 0] 3)).alloc (.cells #[.int .i64 0] 42) = w3 at *
  obtain ⟨hx0, hx1, hx2, hb3⟩ := hx
  have hrb := one_new w3 (.cells #[.slice sl n c, .int .i64 0, .int .i64 0, .bool false] 72)
  have hb4 := below_newJ w3 (.cells #[.slice sl n c, .int .i64 0, .int .i64 0, .bool false] 72)
  have hz4 := size_new w3 (.cells #[.slice sl n c, .int .i64 0, .int .i64 0, .bool false] 72)
  have HRB := Lib.hid hrb
  have HB4 := Lib.hid hb4
  have HZ4 := Lib.hid hz4
  have HX0 := Lib.hid hx0
  have HX1 := Lib.hid hx1
  have HX2 := Lib.hid hx2
  have HB3 := Lib.hid hb3
  have HS := Lib.hid hs
  have HN := Lib.hid hn
  clear hrb hb4 hz4 hx0 hx1 hx2 hb3 hs hn
  go_enter_defers Tryd.func20, Tryd.ntmps20
  go_wp2_with fail
  have hw34 : w3.heap.size = w.heap.size + 1 + 1 + 1 := hsz
  rw [hw34] at HRB HZ4
  generalize w3.alloc (.cells #[.slice sl n c, .int .i64 0, .int .i64 0, .bool false] 72) = w4 at HRB HB4 HZ4 ⊢
  have hRd : RdM w4 (w.heap.size + 1 + 1 + 1) sl n c (qd l) ⟨0, 0⟩ false := by
    refine ⟨HRB.out, HN.out, (HS.out.later HB3.out).later HB4.out, fun a ha => ?_, Nat.zero_le _, by omega⟩
    rcases HS.out with h0 | ⟨b', o', e, hb', hc'⟩
    · have := qd_split l hl
      have h1 := (qc_pos l[0]).1
      have h2 : 0 < (qd l).length := by rw [this]; simp only [List.length_append]; omega
      have := HN.out
      omega
    · rw [e] at ha; injection ha with ha; subst ha
      show b' ≠ _
      omega
  refine (pattern_q _ sl n c l false w4 hRd (by omega)).mono ?_
  rintro e w5 ⟨cb, mb, sR, cR, sM, cM, vs, rfl, hpe⟩
  have HPE := Lib.hid hpe
  have hpa := hpe.parts hl hll
  have HPA := Lib.hid hpa
  have z1 : w5.cell? ⟨w.heap.size + 1 + 1 + 1, 1, none⟩ = some (.int .i64 n) := by
    have := block_cell (i := 1) hpe.blk
    rw [HN.out] at this
    exact this
  clear hpe hpa hRd
  have q2 : ¬ (n : Int) < (n : Int) := by omega
  have hm := fun p w => parts_m_choice p w
  go_wp2_with fail
  refine HPA.out.mono ?_
  rintro e w6 ⟨rfl, m, rfl⟩
  have HPE6 := Lib.hid (HPE.out.drewN m)
  clear HPE HPA z1 q2 hm
  generalize w5.drewN m = w6 at HPE6 ⊢
  have q3 : ¬ (4096 : Int) < (l.length : Int) := by omega
  have hbx : ∀ {b : Nat} {t : TypeId} {v : Value}, b ≠ w.heap.size + 1 + 1 + 1 → IsBox w3 b t v → IsBox w6 b t v := fun {b t v} hne hx => (HPE6.out.tch.block b (by have := heap_lt hx; have := HB4.out.size; omega) hne).trans (hx.below HB4.out)
  have X0 := Lib.hid (hbx (by omega) HX0.out)
  have X1 := Lib.hid (hbx (by omega) HX1.out)
  have X2 := Lib.hid (hbx (by omega) HX2.out)
  clear hbx
  have hmid := comp_mid HPE6.out X0.out (Nat.le_refl _) (by have := HZ4.out; omega) _ rfl (.pointer (some ⟨w6.heap.size, 0, none⟩))
  rw [World.setCell_alloc_past _ _ _ _ (heap_lt X0.out)] at hmid
  have HMID := Lib.hid hmid
  have x0 := X0.out.cell.1
  have x0f := X0.out.cell.2
  have g2 : w6.cell? ⟨w.heap.size + 1 + 1 + 1, 2, none⟩ = some (.int .i64 0) := block_cell HPE6.out.blk
  have hlt6 : w.heap.size < w6.heap.size := heap_lt X0.out
  have n1 : ¬ w6.heap.size = w.heap.size := by omega
  have n2 : ¬ w.heap.size = w6.heap.size := by omega
  clear hmid
  go_wp2_with fail
  generalize (w6.setCell ⟨w.heap.size, 0, none⟩ (.pointer (some ⟨w6.heap.size, 0, none⟩))).alloc (.cells #[.slice none 0 0, .int .i64 0, .int .i64 0] 62) = w8 at HMID ⊢
  obtain ⟨m1, m2, m3, m4, m5, m6, m7, m8, m9⟩ := HMID.out
  have hz8 : w.heap.size ≤ w8.heap.size := Nat.le_trans (Nat.le_of_lt hlt6) m9.size
  have hcc := compile_choice w8 w.heap.size w6.heap.size 0 0 [] none 0 m1 mb sM l.length cM vs m3 w4.heap.size m5 (fun i hi => by
    have hlv : vs.length = l.length := by rw [m5.1, Nat.mul_one]
    obtain ⟨bq, gq, hq, _⟩ := HPE6.out.sets i hi (by omega)
    exact ⟨_, hq⟩) (by omega) hz8 cb sR cR m2 m4
  refine hcc.mono ?_
  rintro e w9 ⟨rfl, hf9, s9, c9, hp9⟩
  have hx9 := hf9.box m7 (by decide) (by decide)
  have X19 := Lib.hid (hf9.box (m8 _ _ _ X1.out (by decide)) (by decide) (by decide))
  have X29 := Lib.hid (hf9.box (m8 _ _ _ X2.out (by decide)) (by decide) (by decide))
  have X09 := Lib.hid hx9
  have HF9 := Lib.hid hf9
  have HP9 := Lib.hid hp9
  have KS9 := Lib.hid (m6.trans hf9.keepS)
  have HB9 := Lib.hid (m9.trans hf9.below)
  have HL5 := Lib.hid m5.1
  clear hcc m1 m2 m3 m4 m5 m6 m7 m8 m9 hf9 hp9 hx9 x0 x0f g2 HMID
  have y0 := X09.out.cell.1
  go_wp2_with fail
  refine (emit_c w9 w.heap.size w6.heap.size 0 (0 + l.length) _ s9 c9 HP9.out 6 0 0 none (by omega) (Nat.le_trans hz8 HF9.out.below.size)).mono ?_
  rintro e w10 ⟨rfl, hf10, s10, c10, hp10⟩
  have X0a := Lib.hid (hf10.box X09.out (by decide) (by decide))
  have X1a := Lib.hid (hf10.box X19.out (by decide) (by decide))
  have X2a := Lib.hid (hf10.box X29.out (by decide) (by decide))
  have KSa := Lib.hid (KS9.out.trans hf10.keepS)
  have HBa := Lib.hid (HB9.out.trans hf10.below)
  have HPa := Lib.hid hp10
  clear y0 hf10 hp10 X09 X19 X29 HF9 HP9 KS9 HB9
  have y0 := X0a.out.cell.1
  have y1 := X0a.out.cell.2
  have y2 := X1a.out.cell.2
  have y3 := X2a.out.cell.2
  have y4 := X1a.out.cell.1
  have y5 := X2a.out.cell.1
  have r1 : ¬ w.heap.size = w.heap.size + 1 := by omega
  have r2 : ¬ w.heap.size = w.heap.size + 1 + 1 := by omega
  have r3 : ¬ w.heap.size + 1 = w.heap.size + 1 + 1 := by omega
  have r4 : ¬ w.heap.size + 1 = w.heap.size := by omega
  have r5 : ¬ w.heap.size + 1 + 1 = w.heap.size := by omega
  have r6 : ¬ w.heap.size + 1 + 1 = w.heap.size + 1 := by omega
  go_wp2
  have p1 := HPa.out.box X0a.out (by decide) (by decide) (.pointer (some ⟨w6.heap.size, 0, none⟩))
  have a0 := X0a.out.set (.pointer (some ⟨w6.heap.size, 0, none⟩))
  have a1 := X1a.out.other (c := w.heap.size) (by omega) (.pointer (some ⟨w6.heap.size, 0, none⟩))
  have a2 := X2a.out.other (c := w.heap.size) (by omega) (.pointer (some ⟨w6.heap.size, 0, none⟩))
  have p2 := p1.box a1 (by decide) (by decide) (.int .i64 0)
  have p3 := p2.box (a2.other (c := w.heap.size + 1) (by omega) (.int .i64 0)) (by decide) (by decide) (.int .i64 0)
  have ks1 := KSa.out.trans (KeepS.setCell (p := ⟨w.heap.size, 0, none⟩) (.pointer (some ⟨w6.heap.size, 0, none⟩)) X0a.out (by decide) (by decide))
  have ks2 := ks1.trans (KeepS.setCell (p := ⟨w.heap.size + 1, 0, none⟩) (.int .i64 0) a1 (by decide) (by decide))
  have ks3 := ks2.trans (KeepS.setCell (p := ⟨w.heap.size + 1 + 1, 0, none⟩) (.int .i64 0) (a2.other (c := w.heap.size + 1) (by omega) (.int .i64 0)) (by decide) (by decide))
  refine comp_door _ w.heap.size (w.heap.size + 1) (w.heap.size + 1 + 1) (some ⟨w6.heap.size, 0, none⟩) _ _ rfl rfl rfl 0 0 ((a0.other (by omega) _).other (by omega) _) ((a1.set _).other (by omega) _) ((a2.other (c := w.heap.size + 1) (by omega) (.int .i64 0)).set _) ?_
  refine ⟨w6.heap.size, s10, c10, vs, rfl, ?_, ?_, by rw [HL5.out, Nat.mul_one], fun i hi hj => (HPE6.out.sets i hi hj).keep ks3⟩
  · have e6 : Below w.heap.size w w6 := (HB3.out.trans (HB4.out.mono HB3.out.size)).trans ((HPE6.out.tch.below (B := w.heap.size) (fun b hb => by omega) (by have := HZ4.out; omega)))
    exact ((((e6.trans HBa.out).setCell (p := ⟨w.heap.size, 0, none⟩) (Nat.le_refl _) _).setCell (p := ⟨w.heap.size + 1, 0, none⟩) (by show w.heap.size ≤ w.heap.size + 1; omega) _).setCell (p := ⟨w.heap.size + 1 + 1, 0, none⟩) (by show w.heap.size ≤ w.heap.size + 1 + 1; omega) _)
  · rw [show l.length + 1 = 0 + l.length + 1 from by omega]
    simpa using p3
end Go.Proofs.YtdegdoilpamjjaaDoor
