/- Contracts: emit, and compile of a set, a row of sets, a choice of one row. Condition: no more than 100000 acts. -/
import Derived.Test.YtdegdoilpamjjaaDoorQe
namespace Go.Proofs.YtdegdoilpamjjaaDoor
open Go.RowKit
set_option linter.unusedVariables false
set_option linter.unusedSimpArgs false
theorem Tryd.infoAct : (Tryd.prog.info? 80).map (fun i => (i.zero, i.size, i.bytes)) = some (some (.agg #[.int .i64 0, .int .i64 0, .int .i64 0, .pointer none]), 4, 32) := by kernel_rfl
/-- a pattern while it is written: its acts -/
structure PaS (w : World) (base pb : Nat) (groups : Int) (n : Nat) (xs : List Value) (sA : Option Addr) (cA : Nat) : Prop where
  blk : w.heap[pb]? = some (.cells #[.slice sA n cA, .int .i64 groups, .int .i64 0] 62 (0, 0))
  own : w.ownsRow base 80 4 (.slice sA n cA) n xs
  low : base ≤ pb
/-- what the writing leaves alone -/
structure FrA (base : Nat) (w w' : World) : Prop where
  below : Below base w w'
  oth : ∀ (b : Nat) (cs : Array Value) (t : TypeId), w.heap[b]? = some (.cells cs t (0, 0)) → t ≠ 62 → t ≠ 80 → w'.heap[b]? = some (.cells cs t (0, 0))
theorem FrA.refl (base : Nat) (w : World) : FrA base w w := ⟨Below.refl _ _, fun _ _ _ h _ _ => h⟩
theorem FrA.trans {base : Nat} {a b c : World} (h : FrA base a b) (k : FrA base b c) : FrA base a c := ⟨h.below.trans k.below, fun x cs t h1 h2 h3 => k.oth x cs t (h.oth x cs t h1 h2 h3) h2 h3⟩
theorem FrA.new {base : Nat} {a b : World} (h : Below a.heap.size a b) (hb : base ≤ a.heap.size) : FrA base a b := ⟨h.mono hb, fun x cs t h1 _ _ => (h.block x (heap_lt h1)).trans h1⟩
theorem FrA.set {base : Nat} {w : World} {pb i : Nat} {cs : Array Value} (v : Value) (h : w.heap[pb]? = some (.cells cs 62 (0, 0))) (hb : base ≤ pb) : FrA base w (w.setCell ⟨pb, i, none⟩ v) :=
  ⟨(Below.refl base w).setCell (p := ⟨pb, i, none⟩) hb v, fun x cs t h1 h2 _ => (Below.heap_setCell _ _ _ _ (type_ne h1 h h2)).trans h1⟩
theorem FrA.push {base : Nat} {w w' : World} (h : Below base w w') (k : Oth 80 w w') : FrA base w w' := ⟨h, fun x cs t h1 _ h3 => k x cs t h1 h3⟩
theorem PaS.later {w w' : World} {base pb : Nat} {groups : Int} {n : Nat} {xs : List Value} {sA : Option Addr} {cA : Nat} (h : PaS w base pb groups n xs sA cA) (hb : Below w.heap.size w w') : PaS w' base pb groups n xs sA cA :=
  ⟨(hb.block _ (heap_lt h.blk)).trans h.blk, own_later h.own hb, h.low⟩
theorem PaS.push {w w3 : World} {base pb : Nat} {groups : Int} {n : Nat} {xs x : List Value} {sA : Option Addr} {cA : Nat} (h : PaS w base pb groups n xs sA cA) {s' : Option Addr} {c' : Nat} (ho : w3.ownsRow base 80 4 (.slice s' (n + 1) c') (n + 1) (xs ++ x)) (hb : Below base w w3) (k : Oth 80 w w3) :
    PaS (w3.setCell ⟨pb, 0, none⟩ (.slice s' (n + 1) c')) base pb groups (n + 1) (xs ++ x) s' c' ∧ FrA base w (w3.setCell ⟨pb, 0, none⟩ (.slice s' (n + 1) c')) := by
  have b3 := k _ _ _ h.blk (by decide)
  refine ⟨⟨by rw [block_set _ b3]; rfl, own_kept ho fun b hb => ?_, h.low⟩, (FrA.push hb k).trans (FrA.set _ b3 h.low)⟩
  obtain ⟨cs, h1⟩ := own_type ho hb
  exact Below.heap_setCell _ _ _ _ (type_ne h1 b3 (by decide))
theorem PaS.deep {w : World} {base pb : Nat} {groups : Int} {n : Nat} {xs : List Value} {sA : Option Addr} {cA : Nat} (h : PaS w base pb groups n xs sA cA) :
    PaS (w.setCell ⟨pb, 2, none⟩ (.int .i64 0)) base pb groups n xs sA cA ∧ FrA base w (w.setCell ⟨pb, 2, none⟩ (.int .i64 0)) := by
  refine ⟨⟨by rw [block_set _ h.blk]; rfl, own_kept h.own fun b hb => ?_, h.low⟩, FrA.set _ h.blk h.low⟩
  obtain ⟨cs, h1⟩ := own_type h.own hb
  exact Below.heap_setCell _ _ _ _ (type_ne h1 h.blk (by decide))
theorem four_one (k x y : Int) (sv : Option Addr) : ∀ u ∈ ([.int .i64 k, .int .i64 x, .int .i64 y, .pointer sv] : List Value), u.oneCell' = true := by
  intro u hu
  simp only [List.mem_cons, List.not_mem_nil, or_false] at hu
  rcases hu with rfl | rfl | rfl | rfl <;> rfl
set_option maxRecDepth 100000 in
set_option maxHeartbeats 4000000 in
theorem emit_c (w : World) (base pb : Nat) (groups : Int) (n : Nat) (xs : List Value) (sA : Option Addr) (cA : Nat) (h : PaS w base pb groups n xs sA cA) (k x y : Int) (sv : Option Addr) (hn : n < 100000) (hbase : base ≤ w.heap.size) :
    Calls Tryd.prog 37 #[.pointer (some ⟨pb, 0, none⟩), .agg #[.int .i64 k, .int .i64 x, .int .i64 y, .pointer sv]] w fun e w' =>
      e = .returned (.int .i64 n) ∧ FrA base w w' ∧ ∃ s' c', PaS w' base pb groups (n + 1) (xs ++ [.int .i64 k, .int .i64 x, .int .i64 y, .pointer sv]) s' c' := by
  have hb1 := below_newJ w (.cells #[.int .i64 k, .int .i64 x, .int .i64 y, .pointer sv] 80)
  have hz := size_new w (.cells #[.int .i64 k, .int .i64 x, .int .i64 y, .pointer sv] 80)
  have h1 := one_new w (.cells #[.int .i64 k, .int .i64 x, .int .i64 y, .pointer sv] 80)
  have HB1 := Lib.hid hb1
  have HZ := Lib.hid hz
  have HO := Lib.hid h1
  have HP := Lib.hid h
  clear hb1 hz h1 h
  go_enter Tryd.func37, Tryd.ntmps37
  go_wp2_with fail
  generalize w.alloc (.cells #[.int .i64 k, .int .i64 x, .int .i64 y, .pointer sv] 80) = w1 at HB1 HZ HO ⊢
  have hd := (Below.refl w1.heap.size w1).drew
  have hbd : Below w.heap.size w w1.drew := HB1.out.trans (hd.mono HB1.out.size)
  have HPd := Lib.hid (HP.out.later hbd)
  have HFd := Lib.hid (FrA.new hbd hbase)
  have HZd := Lib.hid (show base ≤ w1.drew.heap.size from Nat.le_trans hbase hbd.size)
  have hbx : w1.drew.heap[w.heap.size]? = some (.cells #[.int .i64 k, .int .i64 x, .int .i64 y, .pointer sv] 80 (0, 0)) := HO.out
  clear hd hbd HP HB1 HZ HO
  generalize w.heap.size = bx at hbx ⊢
  have x0 : w1.drew.cell? ⟨bx, 0, none⟩ = some (.int .i64 k) := block_cell hbx
  have x1 : w1.drew.cell? ⟨bx, 1, none⟩ = some (.int .i64 x) := block_cell hbx
  have x2 : w1.drew.cell? ⟨bx, 2, none⟩ = some (.int .i64 y) := block_cell hbx
  have x3 : w1.drew.cell? ⟨bx, 3, none⟩ = some (.pointer sv) := block_cell hbx
  have k0 : w1.drew.cell? ⟨pb, 0, none⟩ = some (.slice sA n cA) := block_cell HPd.out.blk
  have k1 : (w1.drew.alloc (.cells #[.int .i64 k, .int .i64 x, .int .i64 y, .pointer sv] 80)).cell? ⟨pb, 0, none⟩ = some (.slice sA n cA) := block_cell (HPd.out.later (below_newJ _ _)).blk
  have k1u : (w1.alloc (.cells #[.int .i64 k, .int .i64 x, .int .i64 y, .pointer sv] 80)).cell? ⟨pb, 0, none⟩ = some (.slice sA n cA) := k1
  have q1 : IntKind.i64.wrap (((n + 1 : Nat) : Int) - 1) = (n : Int) := by rw [IntKind.wrap_i64]; omega
  go_region_law (first
    | (refine step_push_e (w := w1.drew) Tryd.underlying60 Tryd.infoAct rfl (by decide) (by decide) [.int .i64 k, .int .i64 x, .int .i64 y, .pointer sv] (four_one _ _ _ _) rfl ?_ (.tmp 9) (.tmp 11) ?_ base (.slice sA n cA) n xs ?_ ?_ HPd.out.own (by omega) HZd.out ?_; rfl; rfl; simp [Act.eval]; simp [Act.eval]; intro s' c' w3 ho hb3 hoth; have b3 := hoth _ _ _ HPd.out.blk (by decide); have k2 : w3.cell? ⟨pb, 0, none⟩ = some (.slice sA n cA) := block_cell b3; have k3 : w3.frozen? ⟨pb, 0, none⟩ = false := block_free b3; have HP3 := Lib.hid (HPd.out.push ho hb3 hoth); clear b3 ho hb3 hoth))
  all_goals
    obtain ⟨hp4, hf4⟩ := HP3.out
    generalize w3.setCell ⟨pb, 0, none⟩ (.slice s' (n + 1) c') = w4 at hp4 hf4 ⊢
    have y0 : w4.cell? ⟨pb, 0, none⟩ = some (.slice s' (n + 1) c') := block_cell hp4.blk
    have HP4 := Lib.hid hp4
    have HF4 := Lib.hid (HFd.out.trans hf4)
    clear hp4 hf4 x0 x1 x2 x3 k0 k1 k1u k2 k3 hbx
    have q2 : IntKind.i64.wrap ((n : Int) + 1 - 1) = (n : Int) := by rw [IntKind.wrap_i64]; omega
    go_wp2
    go_ret
    exact ⟨rfl, HF4.out, s', c', HP4.out⟩
theorem as_set_set (v : Value) (w : World) : (Instr.typeAssert (.iface 78 v) 74 78 true).run Tryd.prog w = .ok (.tuple #[v, .bool true]) w := by kernel_rfl
theorem as_row_set (v : Value) (w : World) : (Instr.typeAssert (.iface 115 v) 74 78 true).run Tryd.prog w = .ok (.tuple #[.pointer none, .bool false]) w := by kernel_rfl
theorem as_row_edge (v : Value) (w : World) : (Instr.typeAssert (.iface 115 v) 74 118 true).run Tryd.prog w = .ok (.tuple #[.pointer none, .bool false]) w := by kernel_rfl
theorem as_row_row (v : Value) (w : World) : (Instr.typeAssert (.iface 115 v) 74 115 true).run Tryd.prog w = .ok (.tuple #[v, .bool true]) w := by kernel_rfl
theorem as_choice_set (v : Value) (w : World) : (Instr.typeAssert (.iface 111 v) 74 78 true).run Tryd.prog w = .ok (.tuple #[.pointer none, .bool false]) w := by kernel_rfl
theorem as_choice_edge (v : Value) (w : World) : (Instr.typeAssert (.iface 111 v) 74 118 true).run Tryd.prog w = .ok (.tuple #[.pointer none, .bool false]) w := by kernel_rfl
theorem as_choice_row (v : Value) (w : World) : (Instr.typeAssert (.iface 111 v) 74 115 true).run Tryd.prog w = .ok (.tuple #[.pointer none, .bool false]) w := by kernel_rfl
theorem as_choice_choice (v : Value) (w : World) : (Instr.typeAssert (.iface 111 v) 74 111 true).run Tryd.prog w = .ok (.tuple #[v, .bool true]) w := by kernel_rfl
/-- the acts of sets, one by one -/
def actC (v : Value) : List Value := match v with | .iface _ (.pointer p) => [.int .i64 0, .int .i64 0, .int .i64 0, .pointer p] | _ => []
set_option maxRecDepth 100000 in
set_option maxHeartbeats 4000000 in
theorem compile_set (w : World) (base pb : Nat) (groups : Int) (n : Nat) (xs : List Value) (sA : Option Addr) (cA : Nat) (h : PaS w base pb groups n xs sA cA) (p : Option Addr) (hn : n < 100000) (hbase : base ≤ w.heap.size) :
    Calls Tryd.prog 36 #[.pointer (some ⟨pb, 0, none⟩), .iface 78 (.pointer p), .int .i64 0] w fun e w' =>
      e = .returned (.tuple #[]) ∧ FrA base w w' ∧ ∃ s' c', PaS w' base pb groups (n + 1) (xs ++ actC (.iface 78 (.pointer p))) s' c' := by
  have b2 : w.cell? ⟨pb, 2, none⟩ = some (.int .i64 0) := block_cell h.blk
  have f2 : w.frozen? ⟨pb, 2, none⟩ = false := block_free h.blk
  have HP := Lib.hid h.deep
  have hz : (w.setCell ⟨pb, 2, none⟩ (.int .i64 0)).heap.size = w.heap.size := by simp [World.setCell]
  have HZ := Lib.hid hz
  clear h hz
  have as1 := as_set_set
  go_enter Tryd.func36, Tryd.ntmps36
  go_wp2_with fail
  generalize w.setCell ⟨pb, 2, none⟩ (.int .i64 0) = w1 at HP HZ ⊢
  refine (emit_c w1 base pb groups n xs sA cA HP.out.1 0 0 0 p hn (by rw [HZ.out]; exact hbase)).mono ?_
  rintro e w2 ⟨rfl, hf, s', c', hp⟩
  have HF := Lib.hid (HP.out.2.trans hf)
  have HP2 := Lib.hid hp
  clear hf hp
  go_wp2
  go_end0
  exact ⟨rfl, HF.out, s', c', HP2.out⟩
end Go.Proofs.YtdegdoilpamjjaaDoor
