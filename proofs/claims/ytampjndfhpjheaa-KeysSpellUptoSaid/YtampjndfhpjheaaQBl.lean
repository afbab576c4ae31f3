/- Contract of the document's side: tails (printed by gen_eh.py). Condition: an operator of one key or two. -/
import Derived.Test.YtampjndfhpjheaaQBk
namespace Go.Proofs.Ytampjndfhpjheaa
open Go.RowKit
set_option linter.unusedVariables false
set_option linter.unusedSimpArgs false
def setV (v : Int) (x : List Int × Bd) : List Int × Bd := (x.1, { x.2 with verb := v })
def DR.setV (v : Int) (x : DR) : DR := ⟨x.q, { x.b with verb := v }⟩
theorem cells_set : ∀ (L : List DR) (k : Nat) (v : Int) (h : k < L.length), (L.flatMap DR.cells).set (k * 5 + 1) (.int .i64 v) = (L.set k (L[k].setV v)).flatMap DR.cells
 | x :: L, 0, v, h => by
  rw [List.flatMap_cons, List.set_cons_zero, List.flatMap_cons]
  rfl
 | x :: L, k + 1, v, h => by
  rw [List.flatMap_cons, List.set_cons_succ, List.flatMap_cons]
  have e : (k + 1) * 5 + 1 = x.cells.length + (k * 5 + 1) := by show _ = 5 + _; omega
  rw [e, List.set_append_right _ _ (by omega), Nat.add_sub_cancel_left, cells_set L k v (by simpa using h)]
  rfl
theorem mix_set {α : Type} (f : α → α) (L : List α) (k : Nat) (h : k < L.length) : ((L.take k).map f ++ L.drop k).set k (f L[k]) = (L.take (k + 1)).map f ++ L.drop (k + 1) := by
 have hl : ((L.take k).map f).length = k := by rw [List.length_map, List.length_take]; omega
 rw [List.set_append_right _ _ (by omega), hl, Nat.sub_self, List.drop_eq_getElem_cons h, List.set_cons_zero, List.take_add_one, List.getElem?_eq_getElem h]
 show _ = ((L.take k ++ [L[k]]).map f) ++ _
 rw [List.map_append, List.append_assoc]; rfl
theorem mix_get {α : Type} (f : α → α) (L : List α) (k : Nat) (h : k < L.length) (h2 : k < ((L.take k).map f ++ L.drop k).length) : ((L.take k).map f ++ L.drop k)[k] = L[k] := by
 have hl : ((L.take k).map f).length = k := by rw [List.length_map, List.length_take]; omega
 rw [List.getElem_append_right (by omega)]
 simp only [List.getElem_drop, hl, Nat.sub_self, Nat.add_zero]
theorem RL.setVerb {w : World} {base n c g : Nat} {L : List DR} (h : RL w base (.slice (some ⟨g, 0, none⟩) n c) L) {k : Nat} (hk : k < L.length) (v : Int) :
  RL (w.setCell ⟨g, k * 5 + 1, none⟩ (.int .i64 v)) base (.slice (some ⟨g, 0, none⟩) n c) (L.set k (L[k].setV v)) ∧ Below base w (w.setCell ⟨g, k * 5 + 1, none⟩ (.int .i64 v)) := by
 have hn := h.len
 have h1 := h.1
 rw [← hn] at h1
 obtain ⟨h2, _⟩ := World.ownsRow.stored h1 (k * 5 + 1) (.int .i64 v)
 rw [cells_set L k v hk] at h2
 refine ⟨⟨by rw [List.length_set, ← hn]; exact h2, fun x hx => ?_⟩, ?_⟩
 case refine_2 =>
  have hg : base ≤ g := h.low rfl
  exact (Below.refl _ _).setCell hg _
 have hkk : ∀ q, KOk w q → KOk (w.setCell ⟨g, k * 5 + 1, none⟩ (.int .i64 v)) q := fun q hq => by
  obtain ⟨cs, h3⟩ := hq.type
  obtain ⟨c2, h4⟩ := h.type rfl
  exact hq.kept (Below.heap_setCell _ _ _ _ (type_ne h3 h4 (by decide)))
 rcases List.mem_or_eq_of_mem_set hx with hx | rfl
 · exact hkk _ (h.2 x hx)
 · exact hkk (L[k].q) (h.2 L[k] (List.getElem_mem hk))
theorem RL.free {w : World} {base n c g : Nat} {L : List DR} (h : RL w base (.slice (some ⟨g, 0, none⟩) n c) L) (j : Nat) : w.frozen? ⟨g, j, none⟩ = false := by
 have hn := h.len
 have h1 := h.1
 rw [← hn] at h1
 exact World.ownsRow.frozenAt h1 j
theorem wpList_push_r3 {w : World} {ops : Array Oper} {rest : List Oper} {o : Oper} {a : Act} {Q : Exit → Act → World → Prop} (x : DR) (hgd : o.guard = none) (s y : Operand)
  (ho : o.op = .call { callee := .builtin .append, args := #[s, y], argTypes := #[95, 95] })
  (base : Nat) (v : Value) (L : List DR) (hs : a.eval s = v) (hy : a.eval y = .slice (some ⟨w.heap.size, 0, none⟩) 1 1) (hown : RL w base v L) (hx : KOk w x.q) (hj : L.length < 1000000) (hbase : base ≤ w.heap.size)
  (h : ∀ s' n' c' w', RL w' base (.slice s' n' c') (L ++ [x]) → Below base w w' → (∀ q, KOk w q → KOk w' q) → wpList Try.prog ops Q rest (a.put o.dst (.slice s' n' c')) w') :
  wpList Try.prog ops Q (o :: rest) a (w.alloc (.cells x.cells.toArray 103)) :=
 wpList_push_r x hgd s y ho base v L hs hy hown hx hj hbase (fun s' c' w' p1 p2 p3 => h s' _ c' w' p1 p2 (fun q hq => by
  obtain ⟨cs, h1⟩ := hq.type
  exact hq.kept ((p3 _ _ _ h1 (by decide)).trans h1.symm)))
theorem tl_len : (motD ++ objD).length = 76 := by decide +kernel
set_option maxRecDepth 100000 in
set_option maxHeartbeats 8000000 in
theorem tails_1 (qg qo qc : Nat) (qk : List Int) (bv bm ba : Int) (bmo : Bool) (bo : List (List Int)) (w : World) (hx : KOk w ⟨qg, qo, 1, qc, qk⟩) (hlen : qk.length = 1) :
  Calls Try.prog 55 #[.agg #[.slice (some ⟨qg, qo, none⟩) 1 qc, .int .i64 bv, .int .i64 bm, .int .i64 ba, .bool bmo]] w
   fun e w' => ∃ s n c L, e = .returned (.slice s n c) ∧ L.map DR.row = (docD (qk, ⟨bv, bm, ba, bmo, bo⟩)).map (setV bv) ∧ RL w' w.heap.size (.slice s n c) L ∧ Below w.heap.size w w' := by
 have hq := hx.2.1
 have hDD : docD (qk, ⟨bv, bm, ba, bmo, bo⟩) = motD ++ objD ++ [(qk.drop 0, mlB)] := by
  unfold docD
  simp only [hlen]
  rw [if_neg (by decide), List.append_nil]
 rw [hDD]
 clear hDD
 have hbn := below_new2 w (.cells #[.slice (some ⟨qg, qo, none⟩) 1 qc, .int .i64 bv, .int .i64 bm, .int .i64 ba, .bool bmo] 103)
 have hon := one_new w (.cells #[.slice (some ⟨qg, qo, none⟩) 1 qc, .int .i64 bv, .int .i64 bm, .int .i64 ba, .bool bmo] 103)
 obtain ⟨w1, hw1⟩ : ∃ w1, w1 = w.alloc (.cells #[.slice (some ⟨qg, qo, none⟩) 1 qc, .int .i64 bv, .int .i64 bm, .int .i64 ba, .bool bmo] 103) := ⟨_, rfl⟩
 rw [← hw1] at hbn hon
 have HX1 := Lib.hid (hx.kept (hbn.block _ hx.lt))
 have HW1 := Lib.hid hw1
 have HBN := Lib.hid hbn
 have HON := Lib.hid hon
 have hB0 := heap_lt hon
 clear hx hbn hon hw1
 go_enter Try.func55, Try.ntmps55
 go_upto_region 1 with (fail)
 rw [← HW1.out]
 go_wp2_with fail
 refine (dmot_c w1).mono ?_
 rintro e w2 ⟨s2, c2, L2, rfl, hL2, hr2, hb2⟩
 obtain ⟨n2, hn2⟩ : ∃ n2, n2 = motD.length := ⟨_, rfl⟩
 rw [← hn2] at hr2 ⊢
 have HL2 := Lib.hid hL2
 have HR2 := Lib.hid hr2
 have HB2 := Lib.hid hb2
 have hn2' : n2 < 100000 := by rw [hn2]; decide
 clear hL2 hr2 hb2 hn2
 go_wp2_with fail
 refine (dobj_c w2).mono ?_
 rintro e w3 ⟨s3, c3, L3, rfl, hL3, hr3, hb3⟩
 obtain ⟨n3, hn3⟩ : ∃ n3, n3 = objD.length := ⟨_, rfl⟩
 rw [← hn3] at hr3 ⊢
 have hn3' : n3 < 100000 := by rw [hn3]; decide
 have hap : Apart (.slice s2 n2 c2) (.slice s3 n3 c3) := fun b h1 h2 => by
  have h3 := (World.ownsRow.lt HR2.out.1 b h1).2
  have h4 := hr3.low h2
  omega
 have hbc := (dboth_c L2 L3 s2 n2 c2 s3 n3 c3 w1.heap.size w3 hn2' hn3' (HR2.out.later hb3) (hr3.mono (Nat.zero_le _)) hap (bt HB2.out hb3).size)
 have HBC := Lib.hid hbc
 have HB3 := Lib.hid (bt HB2.out hb3)
 have HL23 := Lib.hid (show (L2 ++ L3).map DR.row = motD ++ objD by rw [List.map_append, HL2.out, hL3])
 clear hL3 hr3 hb3 hn3 hap hbc hn2' hn3'
 go_wp2_with fail
 refine HBC.out.mono ?_
 rintro e w4 ⟨s4, n4, c4, rfl, hn4, hr4, hb4⟩
 have HB4 := Lib.hid (HB3.out.trans hb4)
 have HR4 := Lib.hid hr4
 have HON4 := Lib.hid ((HB4.out.block _ hB0).trans HON.out)
 have HX4 := Lib.hid (HX1.out.kept (HB4.out.block _ HX1.out.lt))
 have HL4 := Lib.hid (show (L2 ++ L3).length = 76 by rw [← List.length_map (f := DR.row), HL23.out]; exact tl_len)
 clear hn4 hr4 hb4 HBC HB3 HR2 HL2 HB2
 generalize L2 ++ L3 = LL at HL23 HR4 HL4
 obtain ⟨z0, z1, z2, z3, z4⟩ := cells5 HON4.out
 have hcap := HX4.out.2.1
 simp only at hcap
 have HK5 := Lib.hid (show KOk w4 ⟨qg, qo + 0, 1, qc - 0, qk.drop 0⟩ by
  obtain ⟨k1, k2, cs, k3, k4⟩ := HX4.out
  refine ⟨by simp [hlen], by show 1 ≤ qc - 0; omega, cs, k3, fun i hi => ?_⟩
  have k5 := k4 (0 + i) (by show _ < 1; have : i < 1 := hi; omega)
  show cs[qo + 0 + i]? = _
  rw [Nat.add_assoc, k5]
  unfold gl
  rw [List.getD_eq_getElem?_getD, List.getD_eq_getElem?_getD, List.getElem?_drop])
 go_upto_region 4 with (first
  | (at_builtin; refine wpList_push_r3 ⟨⟨qg, qo + 0, 1, qc - 0, qk.drop 0⟩, ⟨0, 60, 0, false, []⟩⟩ rfl _ _ rfl w1.heap.size _ _ rfl rfl HR4.out HK5.out (by rw [HL4.out]; decide) HB4.out.size ?_; intro s5 n5 c5 w5 p1 p2 p3; have HR5 := Lib.hid p1; have HB5 := Lib.hid (HB4.out.trans p2); have HX5 := Lib.hid (p3 _ HX4.out); clear p1 p2 p3)
  | fail)
 have HL5 := Lib.hid (show (LL ++ [(⟨⟨qg, qo + 0, 1, qc - 0, qk.drop 0⟩, ⟨0, 60, 0, false, []⟩⟩ : DR)]).map DR.row = motD ++ objD ++ [(qk.drop 0, mlB)] by rw [List.map_append, HL23.out]; rfl)
 have HN5 := Lib.hid (show (LL ++ [(⟨⟨qg, qo + 0, 1, qc - 0, qk.drop 0⟩, ⟨0, 60, 0, false, []⟩⟩ : DR)]).length = 77 by rw [List.length_append, HL4.out]; rfl)
 generalize LL ++ [(⟨⟨qg, qo + 0, 1, qc - 0, qk.drop 0⟩, ⟨0, 60, 0, false, []⟩⟩ : DR)] = L5 at HR5 HL5 HN5
 have HON5 := Lib.hid ((HB5.out.block _ hB0).trans HON.out)
 clear z0 z1 z2 z3 z4 HR4 HB4 HON4 HX4 HL4 HL23 HK5
 obtain ⟨z0, z1, z2, z3, z4⟩ := cells5 HON5.out
 go_upto_region 6 with (fail)
 have HR7 := HR5
 have HL7 := HL5
 have HB7 := HB5
 obtain ⟨s7, hs7⟩ : ∃ s7, s7 = s5 := ⟨_, rfl⟩
 obtain ⟨n7, hn7⟩ : ∃ n7, n7 = n5 := ⟨_, rfl⟩
 obtain ⟨c7, hc7⟩ : ∃ c7, c7 = c5 := ⟨_, rfl⟩
 obtain ⟨w7, hw7⟩ : ∃ w7, w7 = w5 := ⟨_, rfl⟩
 obtain ⟨L7, hL7⟩ : ∃ L7, L7 = L5 := ⟨_, rfl⟩
 subst hs7 hn7 hc7 hw7 hL7
 clear z0 z1 z2 z3 z4 HX5
 have hnl := HR7.out.len
 have HNL := Lib.hid hnl
 have hNB : n7 < 100000 := by
  rw [hnl, ← List.length_map (f := DR.row), HL7.out]
  simp only [List.length_append, List.length_cons, List.length_nil]
  have h1 : motD.length < 500 := by decide
  have h2 : objD.length < 500 := by decide
  omega
 have hpos : 0 < L7.length := by
  rw [← List.length_map (f := DR.row), HL7.out]
  simp only [List.length_append, List.length_cons, List.length_nil]
  omega
 obtain ⟨g, hg0⟩ : ∃ g, s7 = some ⟨g, 0, none⟩ := by
  obtain ⟨g, hg0, _⟩ := HR7.out.cell hpos
  exact ⟨g, hg0⟩
 subst hg0
 clear hnl hpos
 go_wp2_with fail
 go_loopg [5] n7 (fun gg iv wr => ∃ k : Nat, k + gg = n7 ∧ iv = .int .i64 k ∧ RL wr w1.heap.size (.slice (some ⟨g, 0, none⟩) n7 c7) ((L7.take k).map (DR.setV bv) ++ L7.drop k) ∧ Below w1.heap.size w1 wr)
 case atStart => exact ⟨0, by omega, rfl, HR7.out, HB7.out⟩
 case round =>
  obtain ⟨k, hk, rfl, hr, hb⟩ := hrel
  have hzz := cells5 ((hb.block _ hB0).trans HON.out)
  obtain ⟨z0, z1, z2, z3, z4⟩ := hzz
  clear z0 z2 z3 z4
  by_cases hlt : k < n7
  ·
   have hkl : k < L7.length := by rw [← HNL.out]; exact hlt
   have hkl2 : k < ((L7.take k).map (DR.setV bv) ++ L7.drop k).length := by simp; omega
   obtain ⟨g', hg0, hg, hcell⟩ := hr.cell hkl2
   cases hg0
   have hsv := hr.setVerb hkl2 bv
   rw [mix_get _ _ _ hkl] at hsv hcell
   rw [mix_set _ _ _ hkl] at hsv
   have c1 := hcell 1 (by decide)
   have f1 := hr.free (k * 5 + 1)
   obtain ⟨xx, hxx⟩ : ∃ xx, L7[k].b.verb = xx := ⟨_, rfl⟩
   have c1' : wr.cell? ⟨g, k * 5 + 1, none⟩ = some (.int .i64 xx) := by rw [c1, ← hxx]; rfl
   have HSV := Lib.hid hsv
   have HB := Lib.hid hb
   have q1 : (k : Int) < (n7 : Int) := by omega
   have q2 : (0 : Int) ≤ (k : Int) := by omega
   clear hcell hr hsv c1 hxx hb HR7 HB7
   go_wp2
   go_roundg (gk - 1)
   case measure => omega
   case rel => exact ⟨k + 1, by omega, by go_num, HSV.out.1, HB.out.trans HSV.out.2⟩
  ·
   obtain rfl : k = n7 := by omega
   rw [List.take_of_length_le (by rw [← HNL.out]; exact Nat.le_refl _), List.drop_eq_nil_of_le (by rw [← HNL.out]; exact Nat.le_refl _), List.append_nil] at hr
   have HR := Lib.hid hr
   have HB := Lib.hid hb
   clear hr hb HR7 HB7 z1
   go_wp2
   go_ret
   refine ⟨some ⟨g, 0, none⟩, k, c7, _, rfl, ?_, HR.out.mono HBN.out.size, HBN.out.trans (HB.out.mono HBN.out.size)⟩
   rw [List.map_map]
   have e : DR.row ∘ DR.setV bv = setV bv ∘ DR.row := rfl
   rw [e, ← List.map_map, HL7.out]
set_option maxRecDepth 100000 in
set_option maxHeartbeats 8000000 in
theorem tails_2 (qg qo qc : Nat) (qk : List Int) (bv bm ba : Int) (bmo : Bool) (bo : List (List Int)) (w : World) (hx : KOk w ⟨qg, qo, 2, qc, qk⟩) (hlen : qk.length = 2) :
  Calls Try.prog 55 #[.agg #[.slice (some ⟨qg, qo, none⟩) 2 qc, .int .i64 bv, .int .i64 bm, .int .i64 ba, .bool bmo]] w
   fun e w' => ∃ s n c L, e = .returned (.slice s n c) ∧ L.map DR.row = (docD (qk, ⟨bv, bm, ba, bmo, bo⟩)).map (setV bv) ∧ RL w' w.heap.size (.slice s n c) L ∧ Below w.heap.size w w' := by
 have hq := hx.2.1
 have hDD : docD (qk, ⟨bv, bm, ba, bmo, bo⟩) = motD ++ objD ++ [(qk.drop 1, mlB)] ++ [(qk, mlB)] := by
  unfold docD
  simp only [hlen]
  rw [if_pos (by decide)]
 rw [hDD]
 clear hDD
 have hbn := below_new2 w (.cells #[.slice (some ⟨qg, qo, none⟩) 2 qc, .int .i64 bv, .int .i64 bm, .int .i64 ba, .bool bmo] 103)
 have hon := one_new w (.cells #[.slice (some ⟨qg, qo, none⟩) 2 qc, .int .i64 bv, .int .i64 bm, .int .i64 ba, .bool bmo] 103)
 obtain ⟨w1, hw1⟩ : ∃ w1, w1 = w.alloc (.cells #[.slice (some ⟨qg, qo, none⟩) 2 qc, .int .i64 bv, .int .i64 bm, .int .i64 ba, .bool bmo] 103) := ⟨_, rfl⟩
 rw [← hw1] at hbn hon
 have HX1 := Lib.hid (hx.kept (hbn.block _ hx.lt))
 have HW1 := Lib.hid hw1
 have HBN := Lib.hid hbn
 have HON := Lib.hid hon
 have hB0 := heap_lt hon
 clear hx hbn hon hw1
 go_enter Try.func55, Try.ntmps55
 go_upto_region 1 with (fail)
 rw [← HW1.out]
 go_wp2_with fail
 refine (dmot_c w1).mono ?_
 rintro e w2 ⟨s2, c2, L2, rfl, hL2, hr2, hb2⟩
 obtain ⟨n2, hn2⟩ : ∃ n2, n2 = motD.length := ⟨_, rfl⟩
 rw [← hn2] at hr2 ⊢
 have HL2 := Lib.hid hL2
 have HR2 := Lib.hid hr2
 have HB2 := Lib.hid hb2
 have hn2' : n2 < 100000 := by rw [hn2]; decide
 clear hL2 hr2 hb2 hn2
 go_wp2_with fail
 refine (dobj_c w2).mono ?_
 rintro e w3 ⟨s3, c3, L3, rfl, hL3, hr3, hb3⟩
 obtain ⟨n3, hn3⟩ : ∃ n3, n3 = objD.length := ⟨_, rfl⟩
 rw [← hn3] at hr3 ⊢
 have hn3' : n3 < 100000 := by rw [hn3]; decide
 have hap : Apart (.slice s2 n2 c2) (.slice s3 n3 c3) := fun b h1 h2 => by
  have h3 := (World.ownsRow.lt HR2.out.1 b h1).2
  have h4 := hr3.low h2
  omega
 have hbc := (dboth_c L2 L3 s2 n2 c2 s3 n3 c3 w1.heap.size w3 hn2' hn3' (HR2.out.later hb3) (hr3.mono (Nat.zero_le _)) hap (bt HB2.out hb3).size)
 have HBC := Lib.hid hbc
 have HB3 := Lib.hid (bt HB2.out hb3)
 have HL23 := Lib.hid (show (L2 ++ L3).map DR.row = motD ++ objD by rw [List.map_append, HL2.out, hL3])
 clear hL3 hr3 hb3 hn3 hap hbc hn2' hn3'
 go_wp2_with fail
 refine HBC.out.mono ?_
 rintro e w4 ⟨s4, n4, c4, rfl, hn4, hr4, hb4⟩
 have HB4 := Lib.hid (HB3.out.trans hb4)
 have HR4 := Lib.hid hr4
 have HON4 := Lib.hid ((HB4.out.block _ hB0).trans HON.out)
 have HX4 := Lib.hid (HX1.out.kept (HB4.out.block _ HX1.out.lt))
 have HL4 := Lib.hid (show (L2 ++ L3).length = 76 by rw [← List.length_map (f := DR.row), HL23.out]; exact tl_len)
 clear hn4 hr4 hb4 HBC HB3 HR2 HL2 HB2
 generalize L2 ++ L3 = LL at HL23 HR4 HL4
 obtain ⟨z0, z1, z2, z3, z4⟩ := cells5 HON4.out
 have hcap := HX4.out.2.1
 simp only at hcap
 have HK5 := Lib.hid (show KOk w4 ⟨qg, qo + 1, 1, qc - 1, qk.drop 1⟩ by
  obtain ⟨k1, k2, cs, k3, k4⟩ := HX4.out
  refine ⟨by simp [hlen], by show 1 ≤ qc - 1; omega, cs, k3, fun i hi => ?_⟩
  have k5 := k4 (1 + i) (by show _ < 2; have : i < 1 := hi; omega)
  show cs[qo + 1 + i]? = _
  rw [Nat.add_assoc, k5]
  unfold gl
  rw [List.getD_eq_getElem?_getD, List.getD_eq_getElem?_getD, List.getElem?_drop])
 go_upto_region 4 with (first
  | (at_builtin; refine wpList_push_r3 ⟨⟨qg, qo + 1, 1, qc - 1, qk.drop 1⟩, ⟨0, 60, 0, false, []⟩⟩ rfl _ _ rfl w1.heap.size _ _ rfl rfl HR4.out HK5.out (by rw [HL4.out]; decide) HB4.out.size ?_; intro s5 n5 c5 w5 p1 p2 p3; have HR5 := Lib.hid p1; have HB5 := Lib.hid (HB4.out.trans p2); have HX5 := Lib.hid (p3 _ HX4.out); clear p1 p2 p3)
  | fail)
 have HL5 := Lib.hid (show (LL ++ [(⟨⟨qg, qo + 1, 1, qc - 1, qk.drop 1⟩, ⟨0, 60, 0, false, []⟩⟩ : DR)]).map DR.row = motD ++ objD ++ [(qk.drop 1, mlB)] by rw [List.map_append, HL23.out]; rfl)
 have HN5 := Lib.hid (show (LL ++ [(⟨⟨qg, qo + 1, 1, qc - 1, qk.drop 1⟩, ⟨0, 60, 0, false, []⟩⟩ : DR)]).length = 77 by rw [List.length_append, HL4.out]; rfl)
 generalize LL ++ [(⟨⟨qg, qo + 1, 1, qc - 1, qk.drop 1⟩, ⟨0, 60, 0, false, []⟩⟩ : DR)] = L5 at HR5 HL5 HN5
 have HON5 := Lib.hid ((HB5.out.block _ hB0).trans HON.out)
 clear z0 z1 z2 z3 z4 HR4 HB4 HON4 HX4 HL4 HL23 HK5
 obtain ⟨z0, z1, z2, z3, z4⟩ := cells5 HON5.out
 go_upto_region 6 with (first
  | (at_builtin; refine wpList_push_r3 ⟨⟨qg, qo, 2, qc, qk⟩, ⟨0, 60, 0, false, []⟩⟩ rfl _ _ rfl w1.heap.size _ _ rfl rfl HR5.out HX5.out (by rw [HN5.out]; decide) HB5.out.size ?_; intro s7 n7 c7 w7 p1 p2 p3; have HR7 := Lib.hid p1; have HB7 := Lib.hid (HB5.out.trans p2); clear p1 p2 p3)
  | fail)
 have HL7 := Lib.hid (show (L5 ++ [(⟨⟨qg, qo, 2, qc, qk⟩, ⟨0, 60, 0, false, []⟩⟩ : DR)]).map DR.row = motD ++ objD ++ [(qk.drop 1, mlB)] ++ [(qk, mlB)] by rw [List.map_append, HL5.out]; rfl)
 generalize L5 ++ [(⟨⟨qg, qo, 2, qc, qk⟩, ⟨0, 60, 0, false, []⟩⟩ : DR)] = L7 at HR7 HL7
 clear z0 z1 z2 z3 z4 HX5
 have hnl := HR7.out.len
 have HNL := Lib.hid hnl
 have hNB : n7 < 100000 := by
  rw [hnl, ← List.length_map (f := DR.row), HL7.out]
  simp only [List.length_append, List.length_cons, List.length_nil]
  have h1 : motD.length < 500 := by decide
  have h2 : objD.length < 500 := by decide
  omega
 have hpos : 0 < L7.length := by
  rw [← List.length_map (f := DR.row), HL7.out]
  simp only [List.length_append, List.length_cons, List.length_nil]
  omega
 obtain ⟨g, hg0⟩ : ∃ g, s7 = some ⟨g, 0, none⟩ := by
  obtain ⟨g, hg0, _⟩ := HR7.out.cell hpos
  exact ⟨g, hg0⟩
 subst hg0
 clear hnl hpos
 go_wp2_with fail
 go_loopg [5] n7 (fun gg iv wr => ∃ k : Nat, k + gg = n7 ∧ iv = .int .i64 k ∧ RL wr w1.heap.size (.slice (some ⟨g, 0, none⟩) n7 c7) ((L7.take k).map (DR.setV bv) ++ L7.drop k) ∧ Below w1.heap.size w1 wr)
 case atStart => exact ⟨0, by omega, rfl, HR7.out, HB7.out⟩
 case round =>
  obtain ⟨k, hk, rfl, hr, hb⟩ := hrel
  have hzz := cells5 ((hb.block _ hB0).trans HON.out)
  obtain ⟨z0, z1, z2, z3, z4⟩ := hzz
  clear z0 z2 z3 z4
  by_cases hlt : k < n7
  ·
   have hkl : k < L7.length := by rw [← HNL.out]; exact hlt
   have hkl2 : k < ((L7.take k).map (DR.setV bv) ++ L7.drop k).length := by simp; omega
   obtain ⟨g', hg0, hg, hcell⟩ := hr.cell hkl2
   cases hg0
   have hsv := hr.setVerb hkl2 bv
   rw [mix_get _ _ _ hkl] at hsv hcell
   rw [mix_set _ _ _ hkl] at hsv
   have c1 := hcell 1 (by decide)
   have f1 := hr.free (k * 5 + 1)
   obtain ⟨xx, hxx⟩ : ∃ xx, L7[k].b.verb = xx := ⟨_, rfl⟩
   have c1' : wr.cell? ⟨g, k * 5 + 1, none⟩ = some (.int .i64 xx) := by rw [c1, ← hxx]; rfl
   have HSV := Lib.hid hsv
   have HB := Lib.hid hb
   have q1 : (k : Int) < (n7 : Int) := by omega
   have q2 : (0 : Int) ≤ (k : Int) := by omega
   clear hcell hr hsv c1 hxx hb HR7 HB7
   go_wp2
   go_roundg (gk - 1)
   case measure => omega
   case rel => exact ⟨k + 1, by omega, by go_num, HSV.out.1, HB.out.trans HSV.out.2⟩
  ·
   obtain rfl : k = n7 := by omega
   rw [List.take_of_length_le (by rw [← HNL.out]; exact Nat.le_refl _), List.drop_eq_nil_of_le (by rw [← HNL.out]; exact Nat.le_refl _), List.append_nil] at hr
   have HR := Lib.hid hr
   have HB := Lib.hid hb
   clear hr hb HR7 HB7 z1
   go_wp2
   go_ret
   refine ⟨some ⟨g, 0, none⟩, k, c7, _, rfl, ?_, HR.out.mono HBN.out.size, HBN.out.trans (HB.out.mono HBN.out.size)⟩
   rw [List.map_map]
   have e : DR.row ∘ DR.setV bv = setV bv ∘ DR.row := rfl
   rw [e, ← List.map_map, HL7.out]
theorem tails_c (x : DR) (w : World) (hx : KOk w x.q) (hk : x.q.k.length = 1 ∨ x.q.k.length = 2) :
  Calls Try.prog 55 #[.agg #[.slice (some ⟨x.q.g, x.q.off, none⟩) x.q.n x.q.c, .int .i64 x.b.verb, .int .i64 x.b.move, .int .i64 x.b.arg, .bool x.b.more]] w
   fun e w' => ∃ s n c L, e = .returned (.slice s n c) ∧ L.map DR.row = (docD x.row).map (setV x.b.verb) ∧ RL w' w.heap.size (.slice s n c) L ∧ Below w.heap.size w w' := by
 obtain ⟨⟨qg, qo, qn, qc, qk⟩, ⟨bv, bm, ba, bmo, bo⟩⟩ := x
 have hn : qn = qk.length := hx.1
 simp only at hk
 rcases hk with hk | hk
 ·
  obtain rfl : qn = 1 := by omega
  exact tails_1 qg qo qc qk bv bm ba bmo bo w hx hk
 ·
  obtain rfl : qn = 2 := by omega
  exact tails_2 qg qo qc qk bv bm ba bmo bo w hx hk
end Go.Proofs.Ytampjndfhpjheaa
