/- Contracts of the law's helpers: quoted, compiled. Condition: no more than 101 ints. -/
import Derived.Test.YtdegdoilpamjjaaDoorQh
import Derived.Test.YtdegdoilpamjjaaDoorFc
namespace Go.Proofs.YtdegdoilpamjjaaDoor
open Go.RowKit
set_option linter.unusedVariables false
set_option linter.unusedSimpArgs false
/-- append of a whole list onto an own one -/
theorem wpList_append_onto {w : World} {ops : Array Oper} {rest : List Oper} {o : Oper} {a : Act} {Q : Exit → Act → World → Prop} (hgd : o.guard = none) (s x : Operand)
    (ho : o.op = .call { callee := .builtin .append, args := #[s, x], argTypes := #[22, 22] })
    (base : Nat) (v : Value) (l : List Int) (hs : a.eval s = v) (hown : OwnInts w base v l) (sa : Option Addr) (len cap : Nat) (f : Nat → Int) (hx : a.eval x = .slice sa len cap) (hr : IsInts w sa len f) (hnil : sa = none → len = 0 ∧ cap = 0) (hl : l.length + len < 4294967296) (hbase : base ≤ w.heap.size)
    (h : ∀ s' c' w', OwnInts w' base (.slice s' (l.length + len) c') (l ++ lst f len) → Below base w w' → wpList Tryd.prog ops Q rest (a.put o.dst (.slice s' (l.length + len) c')) w') : wpList Tryd.prog ops Q (o :: rest) a w := by
  obtain ⟨i0, hi, hz0, hz1, hz2⟩ := info_parts Tryd.infoInt
  cases sa with
  | none =>
    obtain ⟨rfl, rfl⟩ := hnil rfl
    refine wpList_append_own_none hgd s x 22 ho base 3 i0 1 Tryd.underlying22 hi _ _ _ hs hown hx ?_
    obtain ⟨sa, n, cap, hv, hn, _⟩ := hown.shape
    subst hv hn
    exact h sa cap w (by rw [show lst f 0 = [] from rfl, List.append_nil]; exact hown) (Below.refl _ _)
  | some ad =>
    refine wpList_append_own w hgd s x 22 ho base 3 i0 (.int .i64 0) 1 8 Tryd.underlying22 hi hz0 hz1 hz2 rfl (by decide) _ _ _ hs hown ad len cap ((lst f len).map (Value.int .i64)) hx (by rw [List.length_map, lst_len, Nat.mul_one]) ?_ (ints_one _) (by unfold maxLen; omega) (by omega) hbase ?_
    · intro j u hu
      rw [List.getElem?_map] at hu
      rcases hr with h0 | ⟨b, off, he, hb, hc⟩
      · subst h0; simp [lst] at hu
      · cases he
        by_cases hj : j < len
        · rw [List.getElem?_eq_getElem (by rw [lst_len]; exact hj)] at hu
          simp [lst] at hu
          rw [Go.WideShapes.add_plain, ← hu]
          exact hc j hj
        · rw [List.getElem?_eq_none (by rw [lst_len]; omega)] at hu; cases hu
    · intro v' w' hown' hgrow _
      have hO : OwnInts w' base v' (l ++ lst f len) := by
        unfold OwnInts
        rw [List.length_append, lst_len, List.map_append]
        exact hown'
      obtain ⟨sa, n, cap, hv, hn, _⟩ := hO.shape
      rw [List.length_append, lst_len] at hn
      subst hv hn
      exact h sa cap w' hO (Below.grown (Below.refl _ _) hgrow hbase (fun k hk => (hown.lt k hk).1))
theorem qd_take (l : List Int) {k : Nat} (h : k < l.length) : qd (l.take (k + 1)) = qd (l.take k) ++ qc l[k] := by
  rw [List.take_succ_eq_append_getElem h, qd_append]
  congr 1
  unfold qd; simp
theorem qc_yes {x : Int} (h : spc x = true) : qc x = [92, x] := if_pos h
theorem qc_no {x : Int} (h : spc x = false) : qc x = [x] := by unfold qc; rw [h]; rfl
set_option maxRecDepth 100000 in
set_option maxHeartbeats 8000000 in
theorem quoted_c (sl : Option Addr) (n c : Nat) (l : List Int) (w : World) (hl : l.length = n) (hn : n < 200) (hr : IsInts w sl n (gl l)) :
    Calls Tryd.prog 13 #[.slice sl n c] w fun e w' => ∃ s' m c', e = .returned (.slice s' m c') ∧ m = (qd l).length ∧ OwnInts w' w.heap.size (.slice s' m c') (qd l) ∧ Below w.heap.size w w' := by
  have HR := Lib.hid hr
  have HL := Lib.hid hl
  clear hr hl
  go_enter Tryd.func13, Tryd.ntmps13
  go_wp2_with fail
  go_loopg [3, 4] n (fun gg ov iv wr => ∃ (k : Nat) (s' : Option Addr) (m c' : Nat), k + gg = n ∧ iv = .int .i64 k ∧ ov = .slice s' m c' ∧ m = (qd (l.take k)).length ∧ OwnInts wr w.heap.size (.slice s' m c') (qd (l.take k)) ∧ Below w.heap.size w wr)
  case atStart => exact ⟨0, none, 0, 0, by omega, rfl, rfl, rfl, OwnInts.nil _ _, Below.refl _ _⟩
  case round =>
    obtain ⟨k, s', m, c', hk, rfl, rfl, hm, ho, hb⟩ := hrel
    have HO := Lib.hid ho
    have HB := Lib.hid hb
    have HM := Lib.hid hm
    have hm2 : m < 1000 := by
      have := qd_len (l.take k)
      rw [List.length_take] at this
      have := HL.out
      omega
    clear ho hb hm
    by_cases hlt : k < n
    · have hkl : k < l.length := by rw [HL.out]; exact hlt
      obtain ⟨b, off, hs, c0⟩ := HR.out.at HB.out hlt
      subst hs
      obtain ⟨x, hx⟩ : ∃ x, l[k] = x := ⟨_, rfl⟩
      have hgx : gl l k = x := by
        unfold gl
        rw [List.getD_eq_getElem?_getD, List.getElem?_eq_getElem hkl]; exact hx
      rw [hgx] at c0
      have HQ := Lib.hid (show qd (l.take (k + 1)) = qd (l.take k) ++ qc x from by rw [qd_take l hkl, hx])
      have q1 : (k : Int) < (n : Int) := by omega
      have q2 : (0 : Int) ≤ (k : Int) := by omega
      have q3 : IntKind.i64.wrap ((k : Int) + 1) = ((k + 1 : Nat) : Int) := by rw [IntKind.wrap_i64]; omega
      have HK := Lib.hid hk
      have HLT := Lib.hid hlt
      clear hx hgx hkl hk hlt
      by_cases hsp : spc x = true
      · have HQC := Lib.hid (qc_yes hsp)
        rcases spc_is hsp with rfl | rfl | rfl | rfl | rfl | rfl
        all_goals
          clear hsp
          go_wp2_with (first
            | (at_builtin; refine wpList_push3 92 rfl _ _ rfl w.heap.size s' m c' _ rfl rfl HO.out (by omega) HB.out.size ?_; intro s2 c2 w2 ho2 hg2 _; have HB2 := Lib.hid (Below.grown HB.out hg2 HB.out.size (fun q hq => (HO.out.lt q hq).1)); have HO2 := Lib.hid ho2; clear ho2 hg2)
            | (at_builtin; refine wpList_push3 _ rfl _ _ rfl w.heap.size s2 (m + 1) c2 _ rfl rfl HO2.out (by omega) HB2.out.size ?_; intro s3 c3 w3 ho3 hg3 _; have HB3 := Lib.hid (Below.grown HB2.out hg3 HB2.out.size (fun q hq => (HO2.out.lt q hq).1)); have HO3 := Lib.hid ho3; clear ho3 hg3))
          go_roundg (gk - 1)
          case measure => have := HK.out; have := HLT.out; omega
          case rel => exact ⟨k + 1, s3, m + 1 + 1, c3, by have := HK.out; have := HLT.out; omega, by go_num, rfl, by rw [HQ.out, HQC.out, List.length_append, HM.out]; rfl, by rw [HQ.out, HQC.out]; exact OwnInts.as HO3.out (by rw [List.append_assoc]; rfl), HB3.out⟩
      · have hsp' : spc x = false := by simpa using hsp
        obtain ⟨n1, n2, n3, n4, n5, n6⟩ := spc_no hsp'
        have HQC := Lib.hid (qc_no hsp')
        clear hsp hsp'
        go_wp2_with (first
          | (at_builtin; refine wpList_push3 x rfl _ _ rfl w.heap.size s' m c' _ rfl rfl HO.out (by omega) HB.out.size ?_; intro s3 c3 w3 ho3 hg3 _; have HB3 := Lib.hid (Below.grown HB.out hg3 HB.out.size (fun q hq => (HO.out.lt q hq).1)); have HO3 := Lib.hid ho3; clear ho3 hg3))
        go_roundg (gk - 1)
        case measure => have := HK.out; have := HLT.out; omega
        case rel => exact ⟨k + 1, s3, m + 1, c3, by have := HK.out; have := HLT.out; omega, by go_num, rfl, by rw [HQ.out, HQC.out, List.length_append, HM.out]; rfl, by rw [HQ.out, HQC.out]; exact HO3.out, HB3.out⟩
    · obtain rfl : n = k := by omega
      have HT := Lib.hid (show l.take n = l from List.take_of_length_le (by rw [HL.out]; exact Nat.le_refl _))
      rw [HT.out] at HM HO
      clear hlt hk
      go_wp2
      go_ret
      exact ⟨s', m, c', rfl, HM.out, HO.out, HB.out⟩
theorem PlainP.at_ {w : World} {base pb : Nat} {l : List Int} {sA : Option Addr} {cA : Nat} {vs : List Value} (h : PlainP w base pb l sA cA vs) : ∃ ga, sA = some ⟨ga, 0, none⟩ := by
  rcases h.pas.own.2 with ⟨h1, h2⟩ | ⟨g, cap, cur, h1, _⟩
  · omega
  · obtain ⟨rfl, -, rfl⟩ := Value.slice.inj h1
    exact ⟨g, rfl⟩
theorem num_c (k : Int) (w : World) : Calls Tryd.prog 22 #[.int .i64 k] w fun e w' => e = .returned (.int .i64 k) ∧ w' = w := by
  go_enter Tryd.func22, Tryd.ntmps22
  go_wp2
  go_ret
  exact ⟨rfl, rfl⟩
set_option maxRecDepth 100000 in
set_option maxHeartbeats 4000000 in
theorem compiled_c (sl : Option Addr) (n c : Nat) (l : List Int) (w : World) (hl : (qd l).length = n) (hn : n ≤ 256) (hl0 : 0 < l.length) (hl1 : l.length ≤ 4000) (hr : IsInts w sl n (gl (qd l))) (hnil : sl = none → n = 0 ∧ c = 0) :
    Calls Tryd.prog 12 #[.slice sl n c, .bool false] w fun e w' => ∃ pb base ga cA vs, e = .returned (.pointer (some ⟨pb, 0, none⟩)) ∧ Below w.heap.size w w' ∧ PlainP w' base pb l (some ⟨ga, 0, none⟩) cA vs := by
  have HR := Lib.hid hr
  have HL := Lib.hid hl
  clear hr hl
  go_enter Tryd.func12, Tryd.ntmps12
  go_wp2_with (first
    | (at_builtin; refine wpList_append_all rfl _ _ rfl rfl sl n c (gl (qd l)) rfl HR.out hnil (by omega) w.heap.size (Nat.le_refl _) ?_; intro so co w2 ho hb2 _ _ hi; have HI := Lib.hid hi; have HB := Lib.hid hb2; clear ho hb2 hi))
  refine (compile_q so n co l _ HL.out hn hl0 hl1 HI.out).mono ?_
  rintro e w3 ⟨pb, sA, cA, vs, rfl, hb3, hp⟩
  obtain ⟨ga, rfl⟩ := hp.at_
  have HP := Lib.hid hp
  have HB3 := Lib.hid (HB.out.trans (hb3.mono HB.out.size))
  clear hp hb3
  go_wp2_with fail
  refine (num_c 0 _).mono ?_
  rintro e w4 ⟨rfl, rfl⟩
  go_wp2
  go_ret
  exact ⟨pb, _, ga, cA, vs, rfl, HB3.out, HP.out⟩
theorem groups_c (pb : Nat) (w : World) (v d : Value) (h : w.heap[pb]? = some (.cells #[v, .int .i64 0, d] 62 (0, 0))) :
    Calls Tryd.prog 14 #[.pointer (some ⟨pb, 0, none⟩)] w fun e w' => e = .returned (.int .i64 0) ∧ w' = w := by
  have b1 : w.cell? ⟨pb, 1, none⟩ = some (.int .i64 0) := block_cell h
  go_enter Tryd.func14, Tryd.ntmps14
  go_wp2
  go_ret
  exact ⟨rfl, rfl⟩
end Go.Proofs.YtdegdoilpamjjaaDoor
