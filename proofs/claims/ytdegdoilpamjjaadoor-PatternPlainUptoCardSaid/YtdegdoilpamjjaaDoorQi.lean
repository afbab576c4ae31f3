/- The runner in memory; contract: add, at an act that takes an atom or ends. Condition: no more than 4000 acts. -/
import Derived.Test.YtdegdoilpamjjaaDoorQh
import Derived.StillTailTactics
import Derived.WalkMore
namespace Go.Proofs.YtdegdoilpamjjaaDoor
open Go.RowKit
set_option linter.unusedVariables false
set_option linter.unusedSimpArgs false
theorem Tryd.infoThread : (Tryd.prog.info? 107).map (fun i => (i.zero, i.size, i.bytes)) = some (some (.agg #[.int .i64 0, .int .i64 0, .pointer none]), 3, 24) := by kernel_rfl
/-- a way: its act, where it began -/
def thC (t : Nat × Nat) : List Value := [.int .i64 t.1, .int .i64 t.2, .pointer none]
theorem thC_one (t : Nat × Nat) : ∀ u ∈ thC t, u.oneCell' = true := by
  intro u hu
  simp only [thC, List.mem_cons, List.not_mem_nil, or_false] at hu
  rcases hu with rfl | rfl | rfl <;> rfl
theorem thC_len (T : List (Nat × Nat)) : (T.flatMap thC).length = T.length * 3 := by
  induction T with
  | nil => rfl
  | cons x L ih => rw [List.flatMap_cons, List.length_append, ih, List.length_cons]; show 3 + _ = _; omega
theorem thC_get : ∀ (T : List (Nat × Nat)) (i j : Nat) (hi : i < T.length), j < 3 → (T.flatMap thC)[i * 3 + j]? = (thC T[i])[j]?
  | x :: L, 0, j, hi, hj => by
    rw [List.flatMap_cons, List.getElem?_append_left (by show _ < 3; omega)]
    simp
  | x :: L, i + 1, j, hi, hj => by
    rw [List.flatMap_cons, List.getElem?_append_right (by show 3 ≤ _; omega)]
    have e : (i + 1) * 3 + j - (thC x).length = i * 3 + j := by show _ - 3 = _; omega
    rw [e, thC_get L i j (by simpa using hi) hj]
    rfl
theorem IRow.kept {w w' : World} {b n : Nat} {f : Nat → Int} (h : IRow w b n f) (e : w'.heap[b]? = w.heap[b]?) : IRow w' b n f := by
  obtain ⟨cs, h1, h2, h3⟩ := h
  exact ⟨cs, e.trans h1, h2, h3⟩
structure RunS (w0 w : World) (rn sb pb : Nat) (line : Value) (k1 at' : Nat) (S : Nat → Int) (sT : Option Addr) (nT cT : Nat) (T : List (Nat × Nat)) (G : Option (Nat × Array Value)) : Prop where
  below : Below w0.heap.size w0 w
  blk : w.heap[rn]? = some (.cells #[.pointer (some ⟨pb, 0, none⟩), line, .int .i64 at', .slice (some ⟨sb, 0, none⟩) k1 k1, .slice sT nT cT] 102 (0, 0))
  seen : IRow w sb k1 S
  own : w.ownsRow w0.heap.size 107 3 (.slice sT nT cT) nT (T.flatMap thC)
  rge : w0.heap.size ≤ rn
  sge : w0.heap.size ≤ sb
  hold : ∀ go oc, G = some (go, oc) → w.heap[go]? = some (.cells oc 107 (0, 0)) ∧ (Value.slice sT nT cT).ownBlock ≠ some go
theorem RunS.len {w0 w : World} {rn sb pb : Nat} {line : Value} {k1 at' : Nat} {S : Nat → Int} {sT : Option Addr} {nT cT : Nat} {T : List (Nat × Nat)} {G : Option (Nat × Array Value)} (h : RunS w0 w rn sb pb line k1 at' S sT nT cT T G) : T.length = nT := by
  have := h.own.1
  rw [thC_len] at this
  omega
theorem RunS.later {w0 w w' : World} {rn sb pb : Nat} {line : Value} {k1 at' : Nat} {S : Nat → Int} {sT : Option Addr} {nT cT : Nat} {T : List (Nat × Nat)} {G : Option (Nat × Array Value)} (h : RunS w0 w rn sb pb line k1 at' S sT nT cT T G) (hb : Below w.heap.size w w') : RunS w0 w' rn sb pb line k1 at' S sT nT cT T G :=
  ⟨h.below.trans (hb.mono h.below.size), (hb.block _ (heap_lt h.blk)).trans h.blk, h.seen.kept (hb.block _ h.seen.lt), own_later h.own hb, h.rge, h.sge, fun go oc e => ⟨(hb.block _ (heap_lt (h.hold go oc e).1)).trans (h.hold go oc e).1, (h.hold go oc e).2⟩⟩
theorem RunS.setSeen {w0 w : World} {rn sb pb : Nat} {line : Value} {k1 at' : Nat} {S : Nat → Int} {sT : Option Addr} {nT cT : Nat} {T : List (Nat × Nat)} {G : Option (Nat × Array Value)} (h : RunS w0 w rn sb pb line k1 at' S sT nT cT T G) (j : Nat) (x : Int) :
    RunS w0 (w.setCell ⟨sb, j, none⟩ (.int .i64 x)) rn sb pb line k1 at' (fun i => if i = j then x else S i) sT nT cT T G := by
  obtain ⟨cs, h1, _⟩ := id h.seen
  refine ⟨h.below.setCell (p := ⟨sb, j, none⟩) h.sge _, (Below.heap_setCell _ ⟨sb, j, none⟩ _ _ (type_ne h.blk h1 (by decide))).trans h.blk, h.seen.set j x (fun _ _ => rfl), own_kept h.own fun b hb => ?_, h.rge, h.sge, fun go oc e => ⟨(Below.heap_setCell _ ⟨sb, j, none⟩ _ _ (type_ne (h.hold go oc e).1 h1 (by decide))).trans (h.hold go oc e).1, (h.hold go oc e).2⟩⟩
  obtain ⟨c2, h2⟩ := own_type h.own hb
  exact Below.heap_setCell _ ⟨sb, j, none⟩ _ _ (type_ne h2 h1 (by decide))
theorem RunS.setRun {w0 w : World} {rn sb pb : Nat} {line : Value} {k1 at' : Nat} {S : Nat → Int} {sT : Option Addr} {nT cT : Nat} {T : List (Nat × Nat)} {G : Option (Nat × Array Value)} (h : RunS w0 w rn sb pb line k1 at' S sT nT cT T G) {e : Nat} {sz n : Nat} {v : Value} {xs : List Value} (i : Nat) (u : Value) :
    Below w0.heap.size w0 (w.setCell ⟨rn, i, none⟩ u) ∧ IRow (w.setCell ⟨rn, i, none⟩ u) sb k1 S ∧ ∀ {v : Value} {n : Nat} {xs : List Value}, w.ownsRow w0.heap.size 107 3 v n xs → (w.setCell ⟨rn, i, none⟩ u).ownsRow w0.heap.size 107 3 v n xs := by
  obtain ⟨cs, h1, _⟩ := id h.seen
  refine ⟨h.below.setCell (p := ⟨rn, i, none⟩) h.rge _, h.seen.kept (Below.heap_setCell _ ⟨rn, i, none⟩ _ _ (type_ne h1 h.blk (by decide))), fun ho => own_kept ho fun b hb => ?_⟩
  obtain ⟨c2, h2⟩ := own_type ho hb
  exact Below.heap_setCell _ ⟨rn, i, none⟩ _ _ (type_ne h2 h.blk (by decide))
theorem RunS.setAt {w0 w : World} {rn sb pb : Nat} {line : Value} {k1 at' : Nat} {S : Nat → Int} {sT : Option Addr} {nT cT : Nat} {T : List (Nat × Nat)} {G : Option (Nat × Array Value)} (h : RunS w0 w rn sb pb line k1 at' S sT nT cT T G) (a : Nat) :
    RunS w0 (w.setCell ⟨rn, 2, none⟩ (.int .i64 a)) rn sb pb line k1 a S sT nT cT T G := by
  obtain ⟨p1, p2, p3⟩ := h.setRun (e := 0) (sz := 0) (n := 0) (v := .pointer none) (xs := []) 2 (.int .i64 a)
  exact ⟨p1, by rw [block_set _ h.blk]; rfl, p2, p3 h.own, h.rge, h.sge, fun go oc e => ⟨(Below.heap_setCell _ ⟨rn, 2, none⟩ _ _ (type_ne (h.hold go oc e).1 h.blk (by decide))).trans (h.hold go oc e).1, (h.hold go oc e).2⟩⟩
/-- the old ways are taken out: they lie in a block of their own -/
theorem RunS.clear {w0 w : World} {rn sb pb : Nat} {line : Value} {k1 at' : Nat} {S : Nat → Int} {sT : Option Addr} {nT cT : Nat} {T : List (Nat × Nat)} {G : Option (Nat × Array Value)} (h : RunS w0 w rn sb pb line k1 at' S sT nT cT T G) :
    ∃ G', RunS w0 (w.setCell ⟨rn, 4, none⟩ (.slice none 0 0)) rn sb pb line k1 at' S none 0 0 [] G' ∧ (0 < nT → ∃ go oc, sT = some ⟨go, 0, none⟩ ∧ G' = some (go, oc) ∧ ∀ i (hi : i < T.length) j, j < 3 → oc[i * 3 + j]? = (thC T[i])[j]?) := by
  obtain ⟨p1, p2, p3⟩ := h.setRun (e := 0) (sz := 0) (n := 0) (v := .pointer none) (xs := []) 4 (.slice none 0 0)
  rcases h.own.2 with ⟨h1, h2⟩ | ⟨g, cap, cur, h1, _, hgg, _, _, _, htk⟩
  · exact ⟨none, ⟨p1, by rw [block_set _ h.blk]; rfl, p2, World.ownsRow_nil _ _ _ _, h.rge, h.sge, fun go oc e => (by cases e)⟩, fun hp => by omega⟩
  · obtain ⟨rfl, -, rfl⟩ := Value.slice.inj h1
    refine ⟨some (g, cur), ⟨p1, by rw [block_set _ h.blk]; rfl, p2, World.ownsRow_nil _ _ _ _, h.rge, h.sge, fun go oc e => ?_⟩, fun hp => ⟨g, cur, rfl, rfl, fun i hi j hj => ?_⟩⟩
    · injection e with e; injection e with e1 e2; subst e1 e2
      exact ⟨(Below.heap_setCell _ ⟨rn, 4, none⟩ _ _ (type_ne hgg h.blk (by decide))).trans hgg, by simp [Value.ownBlock]⟩
    · rw [← thC_get T i j hi hj, ← htk, List.getElem?_take, if_pos (by have := h.len; omega)]
      simp
theorem RunS.push {w0 w w3 : World} {rn sb pb : Nat} {line : Value} {k1 at' : Nat} {S : Nat → Int} {sT : Option Addr} {nT cT : Nat} {T : List (Nat × Nat)} {G : Option (Nat × Array Value)} (h : RunS w0 w rn sb pb line k1 at' S sT nT cT T G) {s' : Option Addr} {c' : Nat} {t : Nat × Nat}
    (ho : w3.ownsRow w0.heap.size 107 3 (.slice s' (nT + 1) c') (nT + 1) (T.flatMap thC ++ thC t)) (hb : Below w0.heap.size w w3) (k : Oth 107 w w3) (hg : w.grownBy w3 (Value.slice sT nT cT).ownBlock)
    (hob : (Value.slice s' (nT + 1) c').ownBlock = (Value.slice sT nT cT).ownBlock ∨ ∃ b, (Value.slice s' (nT + 1) c').ownBlock = some b ∧ w.heap.size ≤ b) :
    RunS w0 (w3.setCell ⟨rn, 4, none⟩ (.slice s' (nT + 1) c')) rn sb pb line k1 at' S s' (nT + 1) c' (T ++ [t]) G := by
  obtain ⟨cs, h1, h2, h3⟩ := h.seen
  have r3 := k _ _ _ h.blk (by decide)
  have s3 := k _ _ _ h1 (by decide)
  refine ⟨(h.below.trans hb).setCell (p := ⟨rn, 4, none⟩) h.rge _, by rw [block_set _ r3]; rfl, ⟨cs, (Below.heap_setCell _ ⟨rn, 4, none⟩ _ _ (type_ne s3 r3 (by decide))).trans s3, h2, h3⟩, ?_, h.rge, h.sge, fun go oc e => ?_⟩
  · have e : (T ++ [t]).flatMap thC = T.flatMap thC ++ thC t := by rw [List.flatMap_append]; simp
    rw [e]
    refine own_kept ho fun b hb => ?_
    obtain ⟨c2, h4⟩ := own_type ho hb
    exact Below.heap_setCell _ ⟨rn, 4, none⟩ _ _ (type_ne h4 r3 (by decide))
  · obtain ⟨o1, o2⟩ := h.hold go oc e
    have o3 : w3.heap[go]? = some (.cells oc 107 (0, 0)) := (hg.block go (heap_lt o1) (fun e => o2 e.symm)).trans o1
    refine ⟨(Below.heap_setCell _ ⟨rn, 4, none⟩ _ _ (type_ne o3 r3 (by decide))).trans o3, fun e2 => ?_⟩
    rcases hob with hob | ⟨b, hob, hbz⟩
    · exact o2 (hob.symm.trans e2)
    · rw [hob] at e2; injection e2 with e2
      have := heap_lt o1
      omega
/-- an append of one way, as a step of a region that draws -/
theorem step_push_th {w : World} {ops : Array Oper} {o : Oper} {a : Act} {K : Act → World → Prop} {Q : Exit → Act → World → Prop} {E : Prop} (t : Nat × Nat) (hg : o.guard = none) (s y : Operand)
    (hop : o.op = .call { callee := .builtin .append, args := #[s, y], argTypes := #[100, 100] })
    (base : Nat) (sT : Option Addr) (nT cT : Nat) (xs : List Value) (hs : a.eval s = .slice sT nT cT) (hy : a.eval y = .slice (some ⟨w.heap.size, 0, none⟩) 1 1) (hown : w.ownsRow base 107 3 (.slice sT nT cT) nT xs) (hn : nT < 1000000) (hbase : base ≤ w.heap.size)
    (h : ∀ s' c' w', w'.ownsRow base 107 3 (.slice s' (nT + 1) c') (nT + 1) (xs ++ thC t) → Below base w w' → Oth 107 w w' → w.grownBy w' (Value.slice sT nT cT).ownBlock →
      ((Value.slice s' (nT + 1) c').ownBlock = (Value.slice sT nT cT).ownBlock ∨ ∃ b, (Value.slice s' (nT + 1) c').ownBlock = some b ∧ w.heap.size ≤ b) → K (a.put o.dst (.slice s' (nT + 1) c')) w') :
    if Region.wanted o (yielded ops a.tmps) = true then Oper.wp Tryd.prog o a (w.alloc (.cells (thC t).toArray 107)) K Q else E := by
  have hw : Region.wanted o (yielded ops a.tmps) = true := by simp [Region.wanted, hg]
  rw [if_pos hw]
  obtain ⟨i0, hi, hz0, hz1, hz2⟩ := info_parts Tryd.infoThread
  have hb1 := below_newJ w (.cells (thC t).toArray 107)
  obtain ⟨v', w', hr, h2, h3, h4, h5⟩ := run_append_own_at (P := Tryd.prog) (w.alloc (.cells (thC t).toArray 107)) base 100 o.type 107 i0 _ 3 24 Tryd.underlying100 hi hz0 hz1 hz2 rfl (by decide) (.slice sT nT cT) nT xs (own_later hown hb1) ⟨w.heap.size, 0, none⟩ 1 1 (thC t) rfl (new_cells _ _) (thC_one t) (by unfold maxLen; omega) (by omega) (by simp; omega)
  obtain ⟨s', c', rfl⟩ := own_shape1 h2
  have hgr := World.grownBy.trans (World.grownBy_alloc w _ _) h3
  obtain ⟨p1, p2⟩ := push_leaves hown hgr hbase
  have hK := h s' c' w' h2 p1 p2 hgr (by
    rcases h5 with e | e
    · exact .inl e
    · exact .inr ⟨_, e, by simp⟩)
  unfold Oper.wp
  simp only [execOp, hop, resolve, invoke, builtin, hs, hy, hr, Result.andThen, Sem.run_bind, Sem.run_pure, List.map_toArray, List.map_cons, List.map_nil]
  exact hK
set_option maxRecDepth 100000 in
set_option maxHeartbeats 8000000 in
/-- act j (it takes an atom, or ends) is come to for the first time here -/
theorem add_c (w0 w : World) (rn sb pb : Nat) (line : Value) (k1 at' : Nat) (S : Nat → Int) (sT : Option Addr) (nT cT : Nat) (T : List (Nat × Nat)) (G : Option (Nat × Array Value)) (h : RunS w0 w rn sb pb line k1 at' S sT nT cT T G)
    (base : Nat) (xs : List Value) (ga cA : Nat) (hp : PaS w0 base pb 0 k1 xs (some ⟨ga, 0, none⟩) cA) (j fr : Nat) (hj : j < k1) (kd : Int) (sv : Option Addr) (hkd : kd = 0 ∨ kd = 6)
    (a0 : xs[j * 4]? = some (.int .i64 kd)) (a1 : xs[j * 4 + 1]? = some (.int .i64 0)) (a2 : xs[j * 4 + 2]? = some (.int .i64 0)) (a3 : xs[j * 4 + 3]? = some (.pointer sv)) (hS : S j ≠ at' + 1) (hk1 : k1 < 100000) (hat : at' < 1073741824) (hfr : fr < 1073741824) (hnT : nT < 100000) :
    Calls Tryd.prog 47 #[.pointer (some ⟨rn, 0, none⟩), .int .i64 j, .int .i64 fr, .pointer none] w fun e w' =>
      e = .returned (.tuple #[]) ∧ ∃ s' c', RunS w0 w' rn sb pb line k1 at' (fun i => if i = j then ((at' + 1 : Nat) : Int) else S i) s' (nT + 1) c' (T ++ [(j, fr)]) G := by
  have hb1 := below_newJ w (.cells #[.int .i64 j, .int .i64 0, .pointer none] 128)
  have h1 := one_new w (.cells #[.int .i64 j, .int .i64 0, .pointer none] 128)
  have H1 := Lib.hid (h.later hb1)
  have HO1 := Lib.hid h1
  have hpl : pb < w0.heap.size := heap_lt hp.blk
  have hga : ∃ cs, w0.heap[ga]? = some (.cells cs 80 (0, 0)) := own_type hp.own rfl
  have HGA := Lib.hid hga
  have HPB := Lib.hid (fun (W : World) (hW : Below w0.heap.size w0 W) => (show W.heap[pb]? = some (.cells #[.slice (some ⟨ga, 0, none⟩) k1 cA, .int .i64 0, .int .i64 0] 62 (0, 0)) from (hW.block pb hpl).trans hp.blk))
  have HAC := Lib.hid (fun (W : World) (hW : Below w0.heap.size w0 W) (i : Nat) (v : Value) (hi : xs[j * 4 + i]? = some v) (h4 : i < 4) => (show W.cell? ⟨ga, j * 4 + i, none⟩ = some v from by
    obtain ⟨cs, hcs⟩ := HGA.out
    rw [World.cell?_of_block (w := w0) (hW.block ga (heap_lt hcs)), World.ownsRow.cellAt hp.own (j * 4 + i) (by omega), hi]))
  have A0 := Lib.hid (show xs[j * 4 + 0]? = some (.int .i64 kd) from a0)
  have A1 := Lib.hid a1
  have A2 := Lib.hid a2
  have A3 := Lib.hid a3
  clear h hb1 h1 hpl hga hp a0 a1 a2 a3
  go_enter Tryd.func47, Tryd.ntmps47
  go_wp2_with fail
  generalize w.heap.size = wn at HO1 ⊢
  generalize w.alloc (.cells #[.int .i64 j, .int .i64 0, .pointer none] 128) = w1 at H1 HO1 ⊢
  go_loopg [8] 1 (fun gg sv wr => (gg = 1 ∧ sv = .slice (some ⟨wn, 0, none⟩) 1 1 ∧ wr = w1) ∨ (gg = 0 ∧ sv = .slice (some ⟨wn, 0, none⟩) 0 1 ∧ ∃ s' c', RunS w0 wr rn sb pb line k1 at' (fun i => if i = j then ((at' + 1 : Nat) : Int) else S i) s' (nT + 1) c' (T ++ [(j, fr)]) G))
  case atStart => exact .inl ⟨rfl, rfl, rfl⟩
  case round =>
    rcases hrel with ⟨rfl, rfl, rfl⟩ | ⟨rfl, rfl, s', c', hr⟩
    case inr =>
      have HR := Lib.hid hr
      clear hr
      go_wp2
      go_end0
      exact ⟨rfl, s', c', HR.out⟩
    case inl =>
      have t0 : wr.cell? ⟨wn, 0, none⟩ = some (.int .i64 j) := block_cell HO1.out
      have t1 : wr.cell? ⟨wn, 1, none⟩ = some (.int .i64 0) := block_cell HO1.out
      have t2 : wr.cell? ⟨wn, 2, none⟩ = some (.pointer none) := block_cell HO1.out
      have q0 : IntKind.i64.wrap 0 = 0 := by decide
      go_wp2_with fail
      go_step3
      go_wp2_with fail
      have h2 := H1.out.later (below_newJ wr (.cells #[.int .i64 j, .int .i64 0, .pointer none] 128))
      have ho2 := one_new wr (.cells #[.int .i64 j, .int .i64 0, .pointer none] 128)
      have H2 := Lib.hid h2
      have HO2 := Lib.hid ho2
      clear h2 ho2 t0 t1 t2
      generalize wr.heap.size = tb at HO2 ⊢
      generalize wr.alloc (.cells #[.int .i64 j, .int .i64 0, .pointer none] 128) = w2 at H2 HO2 ⊢
      go_step3
      go_wp2_with fail
      go_loopg [8] 0 (fun gg sv wq => sv = .slice (some ⟨wn, 0, none⟩) 0 1 ∧ wq = w2)
      case atStart => exact ⟨rfl, rfl⟩
      case round =>
        obtain ⟨rfl, rfl⟩ := hrel
        have u0 : wr.cell? ⟨tb, 0, none⟩ = some (.int .i64 j) := block_cell HO2.out
        have u1 : wr.cell? ⟨tb, 1, none⟩ = some (.int .i64 0) := block_cell HO2.out
        have u2 : wr.cell? ⟨tb, 2, none⟩ = some (.pointer none) := block_cell HO2.out
        have r0 : wr.cell? ⟨rn, 0, none⟩ = some (.pointer (some ⟨pb, 0, none⟩)) := block_cell H2.out.blk
        have r2 : wr.cell? ⟨rn, 2, none⟩ = some (.int .i64 at') := block_cell H2.out.blk
        have r3 : wr.cell? ⟨rn, 3, none⟩ = some (.slice (some ⟨sb, 0, none⟩) k1 k1) := block_cell H2.out.blk
        have p0 : wr.cell? ⟨pb, 0, none⟩ = some (.slice (some ⟨ga, 0, none⟩) k1 cA) := block_cell (HPB.out _ H2.out.below)
        have p2 : wr.cell? ⟨pb, 2, none⟩ = some (.int .i64 0) := block_cell (HPB.out _ H2.out.below)
        have s0 : wr.cell? ⟨sb, j, none⟩ = some (.int .i64 (S j)) := H2.out.seen.cell hj
        have i1 : IntKind.i64.wrap ((0 : Int) + 1) = 1 := by decide
        have i2 : IntKind.i64.wrap ((j : Int) * 1) = (j : Int) := by rw [IntKind.wrap_i64]; omega
        have i3 : IntKind.i64.wrap ((j : Int) + 0) = (j : Int) := by rw [IntKind.wrap_i64]; omega
        have i4 : IntKind.i64.wrap ((at' : Int) + 1) = ((at' + 1 : Nat) : Int) := by rw [IntKind.wrap_i64]; omega
        have i5 : (0 : Int) ≤ (j : Int) := by omega
        have i6 : (j : Int) < (k1 : Int) := by omega
        have i7 : IntKind.i64.wrap (j : Int) = (j : Int) := by rw [IntKind.wrap_i64]; omega
        have i8 : IntKind.i64.wrap 1 = 1 := by decide
        have e0 : (S j == ((at' + 1 : Nat) : Int)) = false := by rw [beq_eq_false_iff_ne]; omega
        have e1 : (S j == ((at' : Int) + 1)) = false := by rw [beq_eq_false_iff_ne]; omega
        go_wp2_with fail
        go_quiet (fail)
        obtain ⟨n1, rfl⟩ : ∃ n1, n1 = nq := ⟨nq, rfl⟩
        go_wp2_with fail
        go_quiet (fail)
        go_wp2_with fail
        have hbd : Below wr.heap.size wr ((wr.drewN n1).drewN nq) := below_drewN (below_drewN (Below.refl _ _))
        have H3 := Lib.hid (H2.out.later hbd)
        have HO3 := Lib.hid ((hbd.block _ (heap_lt HO2.out)).trans HO2.out)
        clear u0 u1 u2 r0 r2 r3 p0 p2 s0 hbd H2 HO2 e0 e1
        generalize (wr.drewN n1).drewN nq = w3 at H3 HO3 ⊢
        have u0 : w3.cell? ⟨tb, 0, none⟩ = some (.int .i64 j) := block_cell HO3.out
        have u1 : w3.cell? ⟨tb, 1, none⟩ = some (.int .i64 0) := block_cell HO3.out
        have u2 : w3.cell? ⟨tb, 2, none⟩ = some (.pointer none) := block_cell HO3.out
        have r0 : w3.cell? ⟨rn, 0, none⟩ = some (.pointer (some ⟨pb, 0, none⟩)) := block_cell H3.out.blk
        have r2 : w3.cell? ⟨rn, 2, none⟩ = some (.int .i64 at') := block_cell H3.out.blk
        have r3 : w3.cell? ⟨rn, 3, none⟩ = some (.slice (some ⟨sb, 0, none⟩) k1 k1) := block_cell H3.out.blk
        have p0 : w3.cell? ⟨pb, 0, none⟩ = some (.slice (some ⟨ga, 0, none⟩) k1 cA) := block_cell (HPB.out _ H3.out.below)
        have H4 := Lib.hid (H3.out.later ((Below.refl w3.heap.size w3).drew))
        have HO4 := Lib.hid (show w3.drew.heap[tb]? = some (.cells #[.int .i64 j, .int .i64 0, .pointer none] 128 (0, 0)) from HO3.out)
        go_still_tail 11, (by kernel_rfl)
        change wpList _ _ _ _ _ w3.drew
        clear u0 u1 u2 r0 r2 r3 p0 H3 HO3
        generalize w3.drew = w4 at H4 HO4 ⊢
        have s0 : w4.cell? ⟨sb, j, none⟩ = some (.int .i64 (S j)) := H4.out.seen.cell hj
        have s1 : w4.frozen? ⟨sb, j, none⟩ = false := H4.out.seen.free j
        go_upto_region 8 with (fail)
        rw [show ((at' : Int) + 1) = ((at' + 1 : Nat) : Int) from by omega]
        have H5 := Lib.hid (H4.out.setSeen j ((at' + 1 : Nat) : Int))
        have HO5 := Lib.hid (show (w4.setCell ⟨sb, j, none⟩ (.int .i64 ((at' + 1 : Nat) : Int))).heap[tb]? = some (.cells #[.int .i64 j, .int .i64 0, .pointer none] 128 (0, 0)) from by
          obtain ⟨cs, h1, _⟩ := H4.out.seen
          exact (Below.heap_setCell _ ⟨sb, j, none⟩ _ _ (type_ne HO4.out h1 (by decide))).trans HO4.out)
        clear s0 s1 H4 HO4
        generalize w4.setCell ⟨sb, j, none⟩ (.int .i64 ((at' + 1 : Nat) : Int)) = w5 at H5 HO5 ⊢
        have u0 : w5.cell? ⟨tb, 0, none⟩ = some (.int .i64 j) := block_cell HO5.out
        have u1 : w5.cell? ⟨tb, 1, none⟩ = some (.int .i64 0) := block_cell HO5.out
        have u2 : w5.cell? ⟨tb, 2, none⟩ = some (.pointer none) := block_cell HO5.out
        have r0 : w5.cell? ⟨rn, 0, none⟩ = some (.pointer (some ⟨pb, 0, none⟩)) := block_cell H5.out.blk
        have p0 : w5.cell? ⟨pb, 0, none⟩ = some (.slice (some ⟨ga, 0, none⟩) k1 cA) := block_cell (HPB.out _ H5.out.below)
        have c0 : w5.cell? ⟨ga, j * 4, none⟩ = some (.int .i64 kd) := HAC.out _ H5.out.below 0 _ A0.out (by decide)
        have c1 : w5.cell? ⟨ga, j * 4 + 1, none⟩ = some (.int .i64 0) := HAC.out _ H5.out.below 1 _ A1.out (by decide)
        have c2 : w5.cell? ⟨ga, j * 4 + 2, none⟩ = some (.int .i64 0) := HAC.out _ H5.out.below 2 _ A2.out (by decide)
        have c3 : w5.cell? ⟨ga, j * 4 + 3, none⟩ = some (.pointer sv) := HAC.out _ H5.out.below 3 _ A3.out (by decide)
        have H6 := Lib.hid (H5.out.later ((Below.refl w5.heap.size w5).drew))
        have HO6 := Lib.hid (show w5.drew.heap[tb]? = some (.cells #[.int .i64 j, .int .i64 0, .pointer none] 128 (0, 0)) from HO5.out)
        have HN5 := Lib.hid (H6.out.later (below_newJ w5.drew (.cells #[.int .i64 0, .int .i64 0, .int .i64 0, .pointer none] 80)))
        have HON5 := Lib.hid (at_new (.cells #[.int .i64 0, .int .i64 0, .int .i64 0, .pointer none] 80) HO6.out)
        have v0 : (w5.alloc (.cells #[.int .i64 0, .int .i64 0, .int .i64 0, .pointer none] 80)).cell? ⟨tb, 0, none⟩ = some (.int .i64 j) := block_cell HON5.out
        have y0 : (w5.alloc (.cells #[.int .i64 0, .int .i64 0, .int .i64 0, .pointer none] 80)).cell? ⟨rn, 0, none⟩ = some (.pointer (some ⟨pb, 0, none⟩)) := block_cell HN5.out.blk
        have y1 : (w5.alloc (.cells #[.int .i64 0, .int .i64 0, .int .i64 0, .pointer none] 80)).cell? ⟨pb, 0, none⟩ = some (.slice (some ⟨ga, 0, none⟩) k1 cA) := block_cell (HPB.out _ HN5.out.below)
        have z0 : (w5.alloc (.cells #[.int .i64 0, .int .i64 0, .int .i64 0, .pointer none] 80)).cell? ⟨ga, j * 4, none⟩ = some (.int .i64 kd) := HAC.out _ HN5.out.below 0 _ A0.out (by decide)
        have z1 : (w5.alloc (.cells #[.int .i64 0, .int .i64 0, .int .i64 0, .pointer none] 80)).cell? ⟨ga, j * 4 + 1, none⟩ = some (.int .i64 0) := HAC.out _ HN5.out.below 1 _ A1.out (by decide)
        have z2 : (w5.alloc (.cells #[.int .i64 0, .int .i64 0, .int .i64 0, .pointer none] 80)).cell? ⟨ga, j * 4 + 2, none⟩ = some (.int .i64 0) := HAC.out _ HN5.out.below 2 _ A2.out (by decide)
        have z3 : (w5.alloc (.cells #[.int .i64 0, .int .i64 0, .int .i64 0, .pointer none] 80)).cell? ⟨ga, j * 4 + 3, none⟩ = some (.pointer sv) := HAC.out _ HN5.out.below 3 _ A3.out (by decide)
        have hlt1 : ga < w5.heap.size := by obtain ⟨cs, hcs⟩ := HGA.out; exact Nat.lt_of_lt_of_le (heap_lt hcs) H5.out.below.size
        have hlt2 : tb < w5.heap.size := heap_lt HO5.out
        have hlt3 : rn < w5.heap.size := heap_lt H5.out.blk
        have hlt4 : pb < w5.heap.size := heap_lt (HPB.out _ H5.out.below)
        go_region
        have hb6 : Below w5.heap.size w5 (w5.alloc (.cells #[.int .i64 kd, .int .i64 0, .int .i64 0, .pointer sv] 80)).drew := (below_newJ w5 _).drew
        have H8 := Lib.hid (H5.out.later hb6)
        have HO8 := Lib.hid ((hb6.block _ (heap_lt HO5.out)).trans HO5.out)
        have HA8 := Lib.hid (show (w5.alloc (.cells #[.int .i64 kd, .int .i64 0, .int .i64 0, .pointer sv] 80)).drew.heap[w5.heap.size]? = some (.cells #[.int .i64 kd, .int .i64 0, .int .i64 0, .pointer sv] 80 (0, 0)) from one_new w5 _)
        clear u0 u1 u2 r0 p0 c0 c1 c2 c3 v0 y0 y1 z0 z1 z2 z3 hlt1 hlt2 hlt3 hlt4 hb6 H5 HO5 H6 HO6 HN5 HON5
        generalize w5.heap.size = ab at HA8 ⊢
        generalize (w5.alloc (.cells #[.int .i64 kd, .int .i64 0, .int .i64 0, .pointer sv] 80)).drew = w8 at H8 HO8 HA8 ⊢
        have x0 : w8.cell? ⟨ab, 0, none⟩ = some (.int .i64 kd) := block_cell HA8.out
        rcases hkd with rfl | rfl
        all_goals
          go_wp2_with fail
          have hd := (Below.refl w8.heap.size w8).drew
          have H9 := Lib.hid (H8.out.later hd)
          have HO9 := Lib.hid (show w8.drew.heap[tb]? = some (.cells #[.int .i64 j, .int .i64 0, .pointer none] 128 (0, 0)) from HO8.out)
          have u0 : w8.cell? ⟨tb, 0, none⟩ = some (.int .i64 j) := block_cell HO8.out
          have u2 : w8.cell? ⟨tb, 2, none⟩ = some (.pointer none) := block_cell HO8.out
          have r4 : w8.cell? ⟨rn, 4, none⟩ = some (.slice sT nT cT) := block_cell H8.out.blk
          have r4n : (w8.alloc (.cells #[.int .i64 j, .int .i64 fr, .pointer none] 107)).cell? ⟨rn, 4, none⟩ = some (.slice sT nT cT) := block_cell (H8.out.later (below_newJ _ _)).blk
          clear x0 hd
          go_region_law (first
            | (refine step_push_th (w := w8.drew) (j, fr) ?_ (.tmp 91) (.tmp 98) ?_ w0.heap.size sT nT cT (T.flatMap thC) ?_ ?_ H9.out.own (by omega) H9.out.below.size ?_; rfl; rfl; simp [Act.eval]; simp [Act.eval]; intro s' c' w3 ho hb3 hoth hgr hob; have b3 := hoth _ _ _ H9.out.blk (by decide); have k2 : w3.cell? ⟨rn, 4, none⟩ = some (.slice sT nT cT) := block_cell b3; have k3 : w3.frozen? ⟨rn, 4, none⟩ = false := block_free b3; have HP3 := Lib.hid (H9.out.push (t := (j, fr)) ho hb3 hoth hgr hob); clear b3 ho hb3 hoth hgr hob))
          all_goals
            generalize w3.setCell ⟨rn, 4, none⟩ (.slice s' (nT + 1) c') = w10 at HP3 ⊢
            clear u0 u2 r4 r4n k2 k3 H8 HO8 HA8 H9 HO9
            go_wp2
            rw [Exit.noGoto_normal]
            first
              | (go_end0; go_roundg 0)
              | (go_wp2; go_roundg 0)
            case measure => omega
            case rel => exact .inr ⟨rfl, rfl, s', c', HP3.out⟩
end Go.Proofs.YtdegdoilpamjjaaDoor
