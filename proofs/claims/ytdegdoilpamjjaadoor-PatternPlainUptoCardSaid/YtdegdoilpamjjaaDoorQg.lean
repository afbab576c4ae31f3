/- Contracts: compile of a row of sets, of a choice of one row. Condition: no more than 100000 acts. -/
import Derived.Test.YtdegdoilpamjjaaDoorQf
namespace Go.Proofs.YtdegdoilpamjjaaDoor
open Go.RowKit
set_option linter.unusedVariables false
set_option linter.unusedSimpArgs false
theorem FrA.own {base b0 : Nat} {w w' : World} (h : FrA base w w') {size n : Nat} {v : Value} {xs : List Value} (ho : w.ownsRow b0 74 size v n xs) : w'.ownsRow b0 74 size v n xs :=
  own_kept ho fun b hb => by
    obtain ⟨cs, h1⟩ := own_type ho hb
    exact (h.oth _ _ _ h1 (by decide) (by decide)).trans h1.symm
theorem take_acts (vs : List Value) {k : Nat} (h : k < vs.length) : (vs.take (k + 1)).flatMap actC = (vs.take k).flatMap actC ++ actC vs[k] := by
  rw [List.take_succ_eq_append_getElem h, List.flatMap_append]
  simp
set_option maxRecDepth 100000 in
set_option maxHeartbeats 4000000 in
theorem compile_row (w : World) (base pb : Nat) (groups : Int) (n : Nat) (xs : List Value) (sA : Option Addr) (cA : Nat) (h : PaS w base pb groups n xs sA cA) (mb : Nat) (sM : Option Addr) (m cM : Nat) (vs : List Value)
    (hm : w.heap[mb]? = some (.cells #[.slice sM m cM] 117 (0, 0))) (b0 : Nat) (ho : w.ownsRow b0 74 1 (.slice sM m cM) m vs) (hv : ∀ i (hi : i < vs.length), ∃ p, vs[i] = .iface 78 (.pointer p))
    (hn : n + m < 100000) (hbase : base ≤ w.heap.size) :
    Calls Tryd.prog 36 #[.pointer (some ⟨pb, 0, none⟩), .iface 115 (.pointer (some ⟨mb, 0, none⟩)), .int .i64 0] w fun e w' =>
      e = .returned (.tuple #[]) ∧ FrA base w w' ∧ ∃ s' c', PaS w' base pb groups (n + m) (xs ++ vs.flatMap actC) s' c' := by
  have b2 : w.cell? ⟨pb, 2, none⟩ = some (.int .i64 0) := block_cell h.blk
  have f2 : w.frozen? ⟨pb, 2, none⟩ = false := block_free h.blk
  have HP := Lib.hid h.deep
  have hz : (w.setCell ⟨pb, 2, none⟩ (.int .i64 0)).heap.size = w.heap.size := by simp [World.setCell]
  have hlen : vs.length = m := by rw [ho.1, Nat.mul_one]
  have HZ := Lib.hid hz
  have HO := Lib.hid ho
  have HV := Lib.hid hv
  have HM := Lib.hid hm
  have HL := Lib.hid hlen
  clear h hz ho hv hm hlen
  have as1 := as_row_set
  have as2 := as_row_edge
  have as3 := as_row_row
  go_enter Tryd.func36, Tryd.ntmps36
  go_upto_region 10 with (fail)
  obtain ⟨hp1, hf1⟩ := HP.out
  generalize w.setCell ⟨pb, 2, none⟩ (.int .i64 0) = w1 at hp1 hf1 HZ ⊢
  have HP1 := Lib.hid hp1
  have HF1 := Lib.hid hf1
  have m0 : w1.cell? ⟨mb, 0, none⟩ = some (.slice sM m cM) := block_cell (hf1.oth _ _ _ HM.out (by decide) (by decide))
  clear hp1 hf1 b2 f2
  go_wp2_with fail
  go_loopg [55] m (fun gg iv wr => ∃ (k : Nat) (s' : Option Addr) (c' : Nat), k + gg = m ∧ iv = .int .i64 k ∧ FrA base w wr ∧ PaS wr base pb groups (n + k) (xs ++ (vs.take k).flatMap actC) s' c')
  case atStart => exact ⟨0, sA, cA, by omega, rfl, HF1.out, by simpa using HP1.out⟩
  case round =>
    obtain ⟨k, s', c', hk, rfl, hf, hp⟩ := hrel
    have HF := Lib.hid hf
    have HP2 := Lib.hid hp
    clear hf hp m0
    by_cases hlt : k < m
    · have hkv : k < vs.length := by rw [HL.out]; exact hlt
      obtain ⟨p, hp⟩ := HV.out k hkv
      obtain ⟨g, c2, e1, hl2, hcell⟩ := own_block (HF.out.own HO.out) (by omega)
      obtain ⟨rfl, -, rfl⟩ := Value.slice.inj e1
      have c0 := hcell k hkv
      rw [hp] at c0
      rw [Nat.zero_add] at c0
      have HT := Lib.hid (take_acts vs hkv)
      have HVP := Lib.hid hp
      have q1 : (k : Int) < (m : Int) := by omega
      have q2 : (0 : Int) ≤ (k : Int) := by omega
      have q3 : IntKind.i64.wrap ((k : Int) + 1) = ((k + 1 : Nat) : Int) := by rw [IntKind.wrap_i64]; omega
      have HK := Lib.hid hk
      have HLT := Lib.hid hlt
      clear hcell e1 hl2 hp hk hlt
      go_wp2_with fail
      refine (compile_set wr base pb groups (n + k) _ s' c' HP2.out p (by have := HLT.out; omega) (Nat.le_trans hbase HF.out.below.size)).mono ?_
      rintro e w3 ⟨rfl, hf, s2, c3, hp⟩
      have HF3 := Lib.hid (HF.out.trans hf)
      have HP3 := Lib.hid hp
      clear hf hp
      go_wp2
      go_roundg (gk - 1)
      case measure => have := HK.out; have := HLT.out; omega
      case rel => exact ⟨k + 1, s2, c3, by have := HK.out; have := HLT.out; omega, by go_num, HF3.out, by rw [HT.out, HVP.out, ← List.append_assoc]; exact HP3.out⟩
    · obtain rfl : m = k := by omega
      have HK := Lib.hid hk
      clear hk
      go_wp2
      go_end0
      refine ⟨rfl, HF.out, s', c', ?_⟩
      have := HP2.out
      rw [List.take_of_length_le (by rw [HL.out]; exact Nat.le_refl _)] at this
      exact this
set_option maxRecDepth 100000 in
set_option maxHeartbeats 8000000 in
theorem compile_choice (w : World) (base pb : Nat) (groups : Int) (n : Nat) (xs : List Value) (sA : Option Addr) (cA : Nat) (h : PaS w base pb groups n xs sA cA) (mb : Nat) (sM : Option Addr) (m cM : Nat) (vs : List Value)
    (hm : w.heap[mb]? = some (.cells #[.slice sM m cM] 117 (0, 0))) (b0 : Nat) (ho : w.ownsRow b0 74 1 (.slice sM m cM) m vs) (hv : ∀ i (hi : i < vs.length), ∃ p, vs[i] = .iface 78 (.pointer p))
    (hn : n + m < 100000) (hbase : base ≤ w.heap.size) (cb : Nat) (sR : Option Addr) (cR : Nat) (hc : w.heap[cb]? = some (.cells #[.slice sR 1 cR] 114 (0, 0))) (hor : w.ownsRow b0 74 1 (.slice sR 1 cR) 1 [.iface 115 (.pointer (some ⟨mb, 0, none⟩))]) :
    Calls Tryd.prog 36 #[.pointer (some ⟨pb, 0, none⟩), .iface 111 (.pointer (some ⟨cb, 0, none⟩)), .int .i64 0] w fun e w' =>
      e = .returned (.tuple #[]) ∧ FrA base w w' ∧ ∃ s' c', PaS w' base pb groups (n + m) (xs ++ vs.flatMap actC) s' c' := by
  have b2 : w.cell? ⟨pb, 2, none⟩ = some (.int .i64 0) := block_cell h.blk
  have f2 : w.frozen? ⟨pb, 2, none⟩ = false := block_free h.blk
  have hz : (w.setCell ⟨pb, 2, none⟩ (.int .i64 0)).heap.size = w.heap.size := by simp [World.setCell]
  have hf1 := h.deep.2
  have hrow : ∀ W, Below (w.setCell ⟨pb, 2, none⟩ (.int .i64 0)).heap.size (w.setCell ⟨pb, 2, none⟩ (.int .i64 0)) W → Calls Tryd.prog 36 #[.pointer (some ⟨pb, 0, none⟩), .iface 115 (.pointer (some ⟨mb, 0, none⟩)), .int .i64 0] W fun e w' =>
      e = .returned (.tuple #[]) ∧ FrA base W w' ∧ ∃ s' c', PaS w' base pb groups (n + m) (xs ++ vs.flatMap actC) s' c' := fun W hW =>
    compile_row W base pb groups n xs sA cA (h.deep.1.later hW) mb sM m cM vs ((hW.block _ (heap_lt (hf1.oth _ _ _ hm (by decide) (by decide)))).trans (hf1.oth _ _ _ hm (by decide) (by decide))) b0 (own_later (hf1.own ho) hW) hv hn (Nat.le_trans hbase (by rw [← hz]; exact hW.size))
  obtain ⟨g, c2, e1, hl2, hcell⟩ := own_block (hf1.own hor) (by decide)
  obtain ⟨rfl, -, rfl⟩ := Value.slice.inj e1
  have hce : _ = some (Value.iface 115 (.pointer (some ⟨mb, 0, none⟩))) := hcell 0 (by show 0 < 1; omega)
  have hcc : (w.setCell ⟨pb, 2, none⟩ (.int .i64 0)).cell? ⟨cb, 0, none⟩ = some (.slice (some ⟨g, 0, none⟩) 1 cR) := block_cell (hf1.oth _ _ _ hc (by decide) (by decide))
  rw [Nat.zero_add] at hce
  have HF1 := Lib.hid hf1
  have HR := Lib.hid hrow
  clear h hz hf1 hrow e1 hl2 hcell hm ho hv hc hor
  have as1 := as_choice_set
  have as2 := as_choice_edge
  have as3 := as_choice_row
  have as4 := as_choice_choice
  go_enter Tryd.func36, Tryd.ntmps36
  go_upto_region 18 with (fail)
  generalize w.setCell ⟨pb, 2, none⟩ (.int .i64 0) = w1 at HF1 HR hce hcc ⊢
  go_quiet (fail)
  go_wp2_with fail
  go_loopg [12, 79] 0 (fun gg ov iv wr => ov = .slice none 0 0 ∧ iv = .int .i64 0 ∧ wr = w1.drewN nq)
  case atStart => exact ⟨rfl, rfl, rfl⟩
  case round =>
    obtain ⟨rfl, rfl, rfl⟩ := hrel
    have q0 : IntKind.i64.wrap 0 = 0 := by decide
    have d0 : (w1.drewN nq).drew.cell? ⟨g, 0, none⟩ = some (.iface 115 (.pointer (some ⟨mb, 0, none⟩))) := hce
    have d1 : (w1.drewN nq).drew.cell? ⟨cb, 0, none⟩ = some (.slice (some ⟨g, 0, none⟩) 1 cR) := hcc
    have HBd := Lib.hid (show Below w1.heap.size w1 (w1.drewN nq).drew from (below_drewN (Below.refl _ _)).drew)
    go_wp2_with fail
    go_region_law (first
      | (go_simp; go_at_call 36; refine (HR.out _ HBd.out).mono ?_; rintro e w3 ⟨rfl, hf, s', c', hp⟩; have HF3 := Lib.hid hf; have HP3 := Lib.hid hp; clear hf hp))
    all_goals
      go_wp2_with fail
      have hFr := HF1.out.trans ((FrA.new HBd.out (Nat.le_trans hbase HF1.out.below.size)).trans HF3.out)
      have HFr := Lib.hid hFr
      clear hFr hce hcc d0 d1
      go_loopg [138] 0 (fun gg iv wr => iv = .int .i64 0 ∧ wr = w3)
      case atStart => exact ⟨rfl, rfl⟩
      case round =>
        obtain ⟨rfl, rfl⟩ := hrel
        go_wp2
        go_end0
        exact ⟨rfl, HFr.out, s', c', HP3.out⟩
end Go.Proofs.YtdegdoilpamjjaaDoor
