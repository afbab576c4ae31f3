/- Contract of the document's side: row of the table. Condition: lists of fewer than 2^30; counts of 0 to 9999. -/
import Derived.Deep.CutBlock
import Derived.Deep.CutRange
import Derived.Test.YtampjndfhpjheaaQBm
namespace Go.Proofs.Ytampjndfhpjheaa
open Go.RowKit
set_option linter.unusedVariables false
set_option linter.unusedSimpArgs false
theorem among_setV (reg cnt v : Int) (l : List Int) : ∀ (T : Rows) (say : Nat), amongD reg cnt (fun b => b.verb) l (T.map (setV v)) say = amongD reg cnt (fun _ => v) l T say
 | [], say => rfl
 | (k, b) :: T, say => by
  have h : amongD reg cnt (fun b => b.verb) l (((k, b) :: T).map (setV v)) say = if (meetsD k b l).1 = 1 then (1, ⟨reg, cnt, v, if b.move = 33 ∧ 0 < cnt then 18 else b.move, (meetsD k b l).2⟩) else amongD reg cnt (fun b => b.verb) l (T.map (setV v)) (if (meetsD k b l).1 = 0 then 0 else say) := rfl
  rw [h, among_setV reg cnt v l T]
  rfl
theorem short_all {T : Rows} (h : (T.all fun x => decide (x.1.length < 1000)) = true) {L : List DR} {f : List Int × Bd → List Int × Bd} (hL : L.map DR.row = T.map f) (hf : ∀ x, (f x).1 = x.1) : ∀ x ∈ L, x.q.k.length < 1000 := by
 intro x hx
 have h1 : x.row ∈ T.map f := by rw [← hL]; exact List.mem_map_of_mem hx
 obtain ⟨y, hy, e⟩ := List.mem_map.1 h1
 have h2 := List.all_eq_true.1 h y hy
 have h3 : x.q.k = y.1 := by rw [← hf y, e]; rfl
 rw [h3]; simpa using h2
theorem short_R (sel : Bool) {L : List DR} (hL : L.map DR.row = docR sel) : ∀ x ∈ L, x.q.k.length < 1000 :=
 short_all (T := docR sel) (by cases sel <;> decide +kernel) (f := id) (by rw [hL, List.map_id]) (fun _ => rfl)
theorem short_O (sel : Bool) {x : List Int × Bd} (h : x ∈ docO sel) : x.1.length = 1 ∨ x.1.length = 2 := by
 cases sel
 · exact opr_len h
 · cases h
theorem docD_short (x : List Int × Bd) (h : x.1.length = 1 ∨ x.1.length = 2) : ((docD x).all fun y => decide (y.1.length < 1000)) = true := by
 unfold docD
 simp only [List.all_append, Bool.and_eq_true]
 refine ⟨⟨⟨by decide +kernel, by decide +kernel⟩, ?_⟩, ?_⟩
 · simp; omega
 ·
  split
  · simp; omega
  · rfl
def Dig (rest : List Int) (k2 : Nat) (m : Int) : Prop := (k2 = 0 ∧ ∀ c, numP c rest = (c, rest)) ∨ (0 < k2 ∧ ∀ c, numP c rest = (min (max c 1 * m) 9999, rest.drop k2))
theorem dig_0 {rest : List Int} {m : Int} (h : ∀ x u, rest = x :: u → dig1B x = false) : Dig rest 0 m := .inl ⟨rfl, fun c => numP_no h c⟩
theorem dig_1 {rest : List Int} {k2 rn : Nat} {m : Int} (hr : rest.length = rn) (h0 : 0 < k2) (h1 : dig1B (gl rest 0) = true) (hk : k2 ≤ rn) (h2 : runN m (rest.drop k2) = runN 0 rest) (h3 : k2 = rn ∨ digB (gl rest k2) = false) : Dig rest k2 m := by
 refine .inr ⟨h0, fun c => ?_⟩
 have h4 : runN m (rest.drop k2) = (m, rest.drop k2) := by
  by_cases e : k2 < rn
  ·
   rcases h3 with h3 | h3
   · omega
   · rw [drop_at hr e]; exact runN_stop (by unfold digB at h3; simp at h3; omega)
  · rw [drop_end hr e]; rfl
 have hd : rest = gl rest 0 :: rest.drop 1 := by have := drop_at hr (k := 0) (by omega); simpa using this
 have h5 : 49 ≤ gl rest 0 ∧ gl rest 0 ≤ 57 := by unfold dig1B at h1; simpa using h1
 have h6 : numP c rest = (min (max c 1 * (runN 0 rest).1) 9999, (runN 0 rest).2) := by
  have h7 := numP_cons (cnt := c) (t := rest.drop 1) h5
  rw [← hd] at h7; exact h7
 rw [h6, ← h2, h4]
theorem cell_of {w w' : World} {b : Nat} (h : w'.heap[b]? = w.heap[b]?) {i : Nat} : w'.cell? ⟨b, i, none⟩ = w.cell? ⟨b, i, none⟩ := World.cell?_of_block (a := ⟨b, i, none⟩) h
theorem opsD_cons {D : List Int × Bd → Rows} {reg cnt : Int} {l k : List Int} {b : Bd} {O : Rows} {say : Nat} {M : Nat × Cmd} (h : opD D reg cnt l k b = M) : opsD D reg cnt l ((k, b) :: O) say = if M.1 = 1 then M else opsD D reg cnt l O (if M.1 = 0 then 0 else say) := by
 subst h; rfl
theorem TSt.zero {w : World} {B tb : Nat} {vR vO : Value} {LR LO : List DR} {k cT : Nat} {sT : Option Addr} {vs : List Value} (h : TSt w B tb vR LR vO LO k sT cT vs) : w.cell? ⟨tb, 0, none⟩ = some vR ∧ w.cell? ⟨tb, 1, none⟩ = some vO ∧ w.cell? ⟨tb, 2, none⟩ = some (.slice sT k cT) :=
 ⟨block_cell h.blk, block_cell h.blk, block_cell h.blk⟩
theorem TSt.tail {w : World} {B tb : Nat} {vR vO : Value} {LR LO : List DR} {cT : Nat} {sT : Option Addr} {vs : List Value} (h : TSt w B tb vR LR vO LO LO.length sT cT vs) {i : Nat} (hi : i < LO.length) : ∃ g s n c L, sT = some ⟨g, 0, none⟩ ∧ g < w.heap.size ∧ w.cell? ⟨g, i, none⟩ = some (.slice s n c) ∧ L.map DR.row = (docD LO[i].row).map (setV LO[i].row.2.verb) ∧ RL w 0 (.slice s n c) L := by
 have h' := h.own
 rcases h.own.2 with ⟨_, h2⟩ | ⟨g, cap, cur, h1, hg, hgg, _⟩
 · omega
 ·
  obtain ⟨rfl, _, rfl⟩ := Value.slice.inj h1
  have hc := World.ownsRow.cellAt h' i (by omega)
  have hv : vs[i]? = some (vs[i]'(by have := h.own.1; omega)) := List.getElem?_eq_getElem _
  obtain ⟨s, n, c, L, e, e2, e3⟩ := h.each i hi _ hv
  exact ⟨g, s, n, c, L, rfl, heap_lt hgg, by rw [hc, hv, e], e2, e3⟩
set_option maxRecDepth 100000 in
set_option maxHeartbeats 8000000 in
theorem drow_c (tb : Nat) (sel : Bool) (ls : Option Addr) (ln lc : Nat) (l : List Int) (reg cnt : Int) (w : World) (ht : TabD w tb sel) (hl : l.length = ln) (hln : ln < 1073741824) (hcap : ln ≤ lc) (hrl : IsInts w ls ln (gl l)) (hc0 : 0 ≤ cnt) (hc1 : cnt ≤ 9999) :
  Calls Try.prog 97 #[.pointer (some ⟨tb, 0, none⟩), .slice ls ln lc, .int .i64 reg, .int .i64 cnt] w
   fun e w' => e = .returned (.tuple #[.agg (docRow (docR sel) (docO sel) docD reg cnt l).2.cells, .int .i64 ((docRow (docR sel) (docO sel) docD reg cnt l).1 : Nat)]) ∧ Below w.heap.size w w' := by
 obtain ⟨sR, nR, cR, LR, sO, nO, cO, LO, sT, cT, vs, hst, hLR, hLO⟩ := ht
 obtain ⟨V, hV⟩ : ∃ V, docRow (docR sel) (docO sel) docD reg cnt l = V := ⟨_, rfl⟩
 rw [hV]
 unfold docRow at hV
 obtain ⟨M, hM⟩ : ∃ M, amongD reg cnt (fun b => b.verb) l (docR sel) 2 = M := ⟨_, rfl⟩
 rw [hM] at hV
 rw [← hLR] at hM
 have hbn := below_new2 w (.cells #[.int .i64 0, .int .i64 0, .int .i64 0, .int .i64 0, .int .i64 0] 44)
 have hon := one_new w (.cells #[.int .i64 0, .int .i64 0, .int .i64 0, .int .i64 0, .int .i64 0] 44)
 obtain ⟨w1, hw1⟩ : ∃ w1, w1 = w.alloc (.cells #[.int .i64 0, .int .i64 0, .int .i64 0, .int .i64 0, .int .i64 0] 44) := ⟨_, rfl⟩
 rw [← hw1] at hbn hon
 have hst1 := hst.later hbn
 obtain ⟨b0, b1, b2⟩ := hst1.zero
 have hnR := hst.rows.len
 have hnR2 : nR < 1000 := by
  rw [hnR, ← List.length_map (f := DR.row), hLR]; cases sel <;> decide +kernel
 have hac := among_c LR sR nR cR 0 ls ln lc l reg cnt w1 (by omega) hl hln hst1.rows (short_R sel hLR) (hrl.later hbn)
 rw [hM] at hac
 obtain ⟨m, ⟨a1, a2, a3, a4, a5⟩⟩ := M
 replace hac : Calls Try.prog 104 #[.slice sR nR cR, .slice ls ln lc, .int .i64 reg, .int .i64 cnt] w1 fun e w' => e = .returned (.tuple #[.agg #[.int .i64 a1, .int .i64 a2, .int .i64 a3, .int .i64 a4, .int .i64 a5], .int .i64 (m : Nat)]) ∧ Below w1.heap.size w1 w' := hac
 have HAC := Lib.hid hac
 have HST := Lib.hid hst
 have HRL := Lib.hid hrl
 have HLO := Lib.hid hLO
 have HW1 := Lib.hid hw1
 have HBN := Lib.hid hbn
 have HON := Lib.hid hon
 have HV := Lib.hid hV
 have HLN := Lib.hid hl
 clear hac hst hst1 hrl hLR hLO hw1 hbn hon hV hM hnR hl
 simp only at HV
 go_enter Try.func97, Try.ntmps97
 go_upto_region 1 with (fail)
 rw [← HW1.out]
 go_wp2_with fail
 refine HAC.out.mono ?_
 rintro e w2 ⟨rfl, hb2⟩
 have hon2 := (hb2.block _ (heap_lt HON.out)).trans HON.out
 have HB2 := Lib.hid (bt HBN.out hb2)
 have HON2 := Lib.hid hon2
 clear hb2 hon2 HAC b0 b1 b2
 go_upto_region 2 with (fail)
 have hb3 : Below w2.heap.size w2 (w2.alloc (.cells #[.int .i64 a1, .int .i64 a2, .int .i64 a3, .int .i64 a4, .int .i64 a5] 44)) := below_new2 w2 _
 have hk3 := one_new w2 (.cells #[.int .i64 a1, .int .i64 a2, .int .i64 a3, .int .i64 a4, .int .i64 a5] 44)
 generalize w2.alloc (.cells #[.int .i64 a1, .int .i64 a2, .int .i64 a3, .int .i64 a4, .int .i64 a5] 44) = w3 at hb3 hk3 ⊢
 generalize hcb : w2.heap.size = cb at hb3 hk3 ⊢
 have hon3 := (hb3.block _ (by rw [← hcb]; exact heap_lt HON2.out)).trans HON2.out
 have HON3 := Lib.hid hon3
 have HK3 := Lib.hid hk3
 have HB3 := Lib.hid (HB2.out.trans (hb3.mono (by rw [← hcb]; exact HB2.out.size)))
 clear hb3 hk3 hcb hon3 HON2 HB2
 by_cases hm1 : m = 1
 ·
  subst hm1
  have hv := HV.out
  rw [if_pos rfl] at hv
  subst hv
  obtain ⟨x0, x1, x2, x3, x4⟩ := cells5 HK3.out
  obtain ⟨z0, z1, z2, z3, z4⟩ := cells5 HON3.out
  obtain ⟨f0, f1, f2, f3, f4⟩ := free5 HON3.out
  go_wp2
  have hx := cmd5_at (a0 := .int .i64 a1) (a1 := .int .i64 a2) (a2 := .int .i64 a3) (a3 := .int .i64 a4) (a4 := .int .i64 a5) HON3.out
  have hy := row5_below (a0 := .int .i64 a1) (a1 := .int .i64 a2) (a2 := .int .i64 a3) (a3 := .int .i64 a4) (a4 := .int .i64 a5) HB3.out (Nat.le_refl _)
  generalize ((((w3.setCell ⟨w.heap.size, 0, none⟩ (.int .i64 a1)).setCell ⟨w.heap.size, 1, none⟩ (.int .i64 a2)).setCell ⟨w.heap.size, 2, none⟩ (.int .i64 a3)).setCell ⟨w.heap.size, 3, none⟩ (.int .i64 a4)).setCell ⟨w.heap.size, 4, none⟩ (.int .i64 a5) = w4 at hx hy ⊢
  obtain ⟨y0, y1, y2, y3, y4⟩ := cells5 hx
  exact bodyPost_ret (v := .tuple #[.agg #[.int .i64 a1, .int .i64 a2, .int .i64 a3, .int .i64 a4, .int .i64 a5], .int .i64 1]) (by simp [results, Try.results97, go_sem, y0, y1, y2, y3, y4]) rfl ⟨rfl, hy⟩
 ·
  have hmf : ((m : Int) == 1) = false := by rw [beq_eq_false_iff_ne]; omega
  have hv := HV.out
  rw [if_neg hm1, ← HLO.out] at hv
  have HV0 := Lib.hid (show opsD docD reg cnt l ((LO.drop 0).map DR.row) m = V from hv)
  have hnO := HST.out.ops.len
  have HNO := Lib.hid hnO
  have hnO2 : nO < 1000 := by
   rw [hnO, ← List.length_map (f := DR.row), HLO.out]; cases sel <;> decide +kernel
  clear hv HV hnO
  have hst3 := HST.out.later HB3.out
  obtain ⟨b0, b1, b2⟩ := hst3.zero
  clear hst3
  go_wp2_with fail
  clear b0 b1 b2
  go_loopg [11, 12] (nO + 1) (fun gg sv iv wr => ∃ (k say : Nat), sv = .int .i64 (say : Nat) ∧ iv = .int .i64 k ∧ k ≤ nO ∧ nO - k < gg ∧ opsD docD reg cnt l ((LO.drop k).map DR.row) say = V ∧ wr.heap[w.heap.size]? = some (.cells #[.int .i64 0, .int .i64 0, .int .i64 0, .int .i64 0, .int .i64 0] 44 (0, 0)) ∧ Below w.heap.size w wr)
  case atStart => exact ⟨0, m, rfl, rfl, by omega, by omega, HV0.out, HON3.out, HB3.out⟩
  case round =>
   obtain ⟨k, say, rfl, rfl, hkn, hgg, hV, hcb, hbl⟩ := hrel
   clear HV0 HON3 HB3 HK3
   have hstr := HST.out.later hbl
   obtain ⟨b0, b1, b2⟩ := hstr.zero
   by_cases hlt : k < nO
   ·
    have hkl : k < LO.length := by rw [← HNO.out]; exact hlt
    obtain ⟨gO, rfl, hgOl, hcell⟩ := hstr.ops.cell hkl
    have hkx := hstr.ops.2 _ (List.getElem_mem hkl)
    have hmem : (LO[k]'hkl).row ∈ docO sel := by rw [← HLO.out]; exact List.mem_map_of_mem (List.getElem_mem hkl)
    obtain ⟨gT, sL, nL, cL, LL, hsT, hgTl, hct, hLL, hrL⟩ := hstr.tail hkl
    rw [List.drop_eq_getElem_cons hkl, List.map_cons] at hV
    generalize hx : (LO[k]'hkl) = x at hcell hkx hmem hLL hV
    obtain ⟨⟨qg, qo, qn, qc, qk⟩, ⟨bv, bm, ba, bmo, bo⟩⟩ := x
    clear hx
    have y0 := hcell 0 (by decide)
    simp only [DR.cells, KS.val, List.getElem?_cons_zero, Nat.add_zero] at y0
    have hqn : qn = qk.length := hkx.1
    have hq12 : qk.length = 1 ∨ qk.length = 2 := short_O sel hmem
    obtain ⟨MO, hMO⟩ : ∃ MO, opD docD reg cnt l qk ⟨bv, bm, ba, bmo, bo⟩ = MO := ⟨_, rfl⟩
    have hV2 := (opsD_cons (say := say) (O := (LO.drop (k + 1)).map DR.row) hMO).symm.trans hV
    obtain ⟨W, hW⟩ : ∃ W, qk.isPrefixOf l = W := ⟨_, rfl⟩
    obtain ⟨P, hP⟩ : ∃ P, l.isPrefixOf qk = P := ⟨_, rfl⟩
    have hb1 := begins_any ls (some ⟨qg, qo, none⟩) ln lc qn qc (gl l) (gl qk) wr (by unfold maxLen; omega) (HRL.out.later hbl) hkx.is
    rw [← HLN.out, hqn, begB_pre, hW] at hb1
    rw [HLN.out, ← hqn] at hb1
    have hb2 := fun (X : World) (hX : Below wr.heap.size wr X) => begins_any (some ⟨qg, qo, none⟩) ls qn qc ln lc (gl qk) (gl l) X (by unfold maxLen; omega) (hkx.is.later hX) ((HRL.out.later hbl).later hX)
    rw [← HLN.out, hqn, begB_pre, hP] at hb2
    rw [HLN.out, ← hqn] at hb2
    have HB1 := Lib.hid hb1
    have HB2 := Lib.hid hb2
    have HV2 := Lib.hid hV2
    have HMO := Lib.hid hMO
    have HW := Lib.hid hW
    have HP := Lib.hid hP
    have HQN := Lib.hid hqn
    have HCB := Lib.hid hcb
    have HBL := Lib.hid hbl
    have HSTR := Lib.hid hstr
    have HLL := Lib.hid hLL
    have HRLL := Lib.hid hrL
    have HCT := Lib.hid hct
    have HST0 := Lib.hid hsT
    have htbl := heap_lt hstr.blk
    have hsz := hbl.size
    clear hb1 hb2 hV hV2 hMO hW hP hcell hkx hmem hcb hbl hstr hLL hrL hct hsT hqn
    have q1 : (k : Int) < (nO : Int) := by omega
    have q2 : (0 : Int) ≤ (k : Int) := by omega
    go_wp2_with fail
    refine HB1.out.mono ?_
    rintro e w4 ⟨rfl, hb4⟩
    have HB4 := Lib.hid hb4
    clear hb4
    go_wp2_with fail
    refine (HB2.out _ HB4.out).mono ?_
    rintro e w5 ⟨rfl, hb5⟩
    have HB5 := Lib.hid (bt HB4.out hb5)
    clear hb5 HB4 HB1 HB2 b0 b1 b2 y0
    cases W
    ·
     cases P
     ·
      have hMO := HMO.out
      unfold opD at hMO
      rw [HW.out, HP.out, if_neg (by decide), if_neg (by decide)] at hMO
      have hv := HV2.out
      rw [← hMO, if_neg (by decide), if_neg (by decide)] at hv
      have HVV := Lib.hid hv
      clear hMO hv
      go_wp2
      go_roundg (gk - 1)
      case measure => omega
      case rel => exact ⟨k + 1, say, rfl, by go_num, by omega, by omega, HVV.out, (HB5.out.block _ (heap_lt HCB.out)).trans HCB.out, HBL.out.trans (HB5.out.mono hsz)⟩
     ·
      have hMO := HMO.out
      unfold opD at hMO
      rw [HW.out, HP.out, if_neg (by decide), if_pos rfl] at hMO
      have hv := HV2.out
      rw [← hMO, if_neg (by decide), if_pos rfl] at hv
      have HVV := Lib.hid hv
      clear hMO hv
      go_wp2
      go_roundg (gk - 1)
      case measure => omega
      case rel => exact ⟨k + 1, 0, rfl, by go_num, by omega, by omega, HVV.out, (HB5.out.block _ (heap_lt HCB.out)).trans HCB.out, HBL.out.trans (HB5.out.mono hsz)⟩
    ·
     obtain ⟨rest, hrest⟩ := List.isPrefixOf_iff_prefix.1 HW.out
     have hlnr : ln = qn + rest.length := by rw [← HLN.out, ← hrest, List.length_append, ← HQN.out]
     obtain ⟨lb, lo, hls, _⟩ := HRL.out.at (Below.refl w.heap.size w) (k := 0) (by have := HQN.out; omega)
     subst hls
     have hrr : IsInts w5 (some ⟨lb, lo + qn, none⟩) rest.length (gl rest) := by
      have h := ((HRL.out.later HBL.out).later HB5.out).drop hlnr
      rw [← hrest, HQN.out, List.drop_left] at h
      rw [HQN.out]; exact h
     have hMO := HMO.out
     unfold opD at hMO
     have hdrop : l.drop qk.length = rest := by rw [← hrest, List.drop_left]
     rw [HW.out, if_pos rfl, hdrop] at hMO
     obtain ⟨rn, hrn⟩ : ∃ rn, rest.length = rn := ⟨_, rfl⟩
     rw [hrn] at hlnr hrr
     have hsub : ln - qn = rn := by omega
     obtain ⟨sr, hsr⟩ : ∃ sr, (if lc = qn then (some ⟨lb, lo, none⟩ : Option Addr) else some ⟨lb, lo + qn, none⟩) = sr := ⟨_, rfl⟩
     have hrs : IsInts w5 sr rn (gl rest) := by
      rw [← hsr]; split
      · exact .inl (by omega)
      · exact hrr
     obtain ⟨lo2, hlo2⟩ : ∃ lo2, sr = some ⟨lb, lo2, none⟩ := by
      rw [← hsr]; split
      · exact ⟨_, rfl⟩
      · exact ⟨_, rfl⟩
     subst hlo2
     obtain ⟨rc, hrc⟩ : ∃ rc, lc - qn = rc := ⟨_, rfl⟩
     have hrnc : rn ≤ rc := by omega
     have HRS := Lib.hid hrs
     have HMM := Lib.hid hMO
     have HRN := Lib.hid hrn
     have hqle : (qn : Int) ≤ (ln : Int) := by omega
     have hqlc : (ln : Int) ≤ (lc : Int) := by omega
     have hrn30 : rn < 1073741824 := by omega
     have HSR := Lib.hid hsr
     have HRC := Lib.hid hrc
     clear hMO hrest hlnr hrr hdrop hrn HMO HW HP hrs hsr hrc
     go_upto_block 2 with (fail)
     rw [HSR.out, HRC.out]
     clear hsub HSR HRC
     go_cut [17, 18] from 70 to 101 (fun nv kv wc => ∃ (k2 : Nat) (m2 : Int), nv = .int .i64 m2 ∧ kv = .int .i64 k2 ∧ k2 ≤ rn ∧ 0 ≤ m2 ∧ m2 ≤ 9999 ∧ Dig rest k2 m2 ∧ w5 = wc)
     case first =>
      go_wp2_with fail
      go_loopg [17, 18] (rn + 1) (fun gg nv kv wr2 => ∃ (k2 : Nat) (m2 : Int), nv = .int .i64 m2 ∧ kv = .int .i64 k2 ∧ k2 ≤ rn ∧ rn - k2 < gg ∧ 0 ≤ m2 ∧ m2 ≤ 9999 ∧ ((k2 = 0 ∧ m2 = 0) ∨ (0 < k2 ∧ dig1B (gl rest 0) = true ∧ runN m2 (rest.drop k2) = runN 0 rest)) ∧ w5 = wr2)
      case atStart => exact ⟨0, 0, rfl, rfl, Nat.zero_le _, by omega, by decide, by decide, .inl ⟨rfl, rfl⟩, rfl⟩
      case round =>
       obtain ⟨k2, m2, rfl, rfl, hk2n, hg2, hm0, hm9, hd, rfl⟩ := hrel
       by_cases hlt2 : k2 < rn
       ·
        obtain ⟨b', off', hbo, y0⟩ := HRS.out.at (Below.refl w5.heap.size w5) hlt2
        cases hbo
        obtain ⟨y, hy⟩ : ∃ y, gl rest k2 = y := ⟨_, rfl⟩
        rw [hy] at y0
        have HY := Lib.hid hy
        clear hy
        have q3 : (k2 : Int) < (rn : Int) := by omega
        have q4 : (0 : Int) ≤ (k2 : Int) := by omega
        rcases hd with ⟨h0, hm20⟩ | ⟨h0, h1, h2⟩
        ·
         subst h0
         subst hm20
         rw [Nat.add_zero] at y0
         have HD0 := Lib.hid (show rest = y :: rest.drop 1 by rw [← HY.out]; have := drop_at HRN.out (k := 0) hlt2; simpa using this)
         go_wp2_with fail
         refine (isDigit_c y w5).mono ?_
         rintro e w6 ⟨rfl, rfl⟩
         cases hdy : digB y
         ·
          go_wp2
          go_meet
          refine ⟨0, 0, rfl, rfl, by omega, by decide, by decide, dig_0 (fun x u e => ?_), rfl⟩
          rw [HD0.out] at e
          injection e with e1 _
          subst e1
          unfold dig1B; unfold digB at hdy
          simp at hdy ⊢; omega
         ·
          by_cases h48 : y = 48
          ·
           subst h48
           go_wp2
           go_meet
           refine ⟨0, 0, rfl, rfl, by omega, by decide, by decide, dig_0 (fun x u e => ?_), rfl⟩
           rw [HD0.out] at e
           injection e with e1 _
           subst e1
           decide
          ·
           have q5 : (y == 48) = false := by rw [beq_eq_false_iff_ne]; exact h48
           have q6 : (y != 48) = true := by rw [bne_iff_ne]; exact h48
           have hyb : 48 ≤ y ∧ y ≤ 57 := by unfold digB at hdy; simpa using hdy
           have hy1 := hyb.1
           have hy2 := hyb.2
           have q7 : y - 48 < 9999 := by omega
           go_wp2
           go_roundg (gk - 1)
           case measure => omega
           case rel =>
            refine ⟨1, y - 48, rfl, rfl, by omega, by omega, by omega, by omega, .inr ⟨by decide, ?_, ?_⟩, rfl⟩
            · rw [HY.out]; unfold dig1B; simp; omega
            ·
             conv => rhs; rw [HD0.out, runN_dig hyb]
             congr 1
             omega
        ·
         have H1 := Lib.hid h1
         have H2 := Lib.hid h2
         have q8 : (0 : Int) < (k2 : Int) := by omega
         clear h1 h2
         go_wp2_with fail
         refine (isDigit_c y w5).mono ?_
         rintro e w6 ⟨rfl, rfl⟩
         cases hdy : digB y
         ·
          go_wp2
          go_meet
          exact ⟨k2, m2, rfl, rfl, by omega, by omega, by omega, dig_1 HRN.out h0 H1.out (by omega) H2.out (.inr (by rw [HY.out]; exact hdy)), rfl⟩
         ·
          have hyb : 48 ≤ y ∧ y ≤ 57 := by unfold digB at hdy; simpa using hdy
          have hy1 := hyb.1
          have hy2 := hyb.2
          have H3 := Lib.hid (show runN (min (10 * m2 + y - 48) 9999) (rest.drop (k2 + 1)) = runN 0 rest by rw [← H2.out, drop_at HRN.out hlt2, HY.out, runN_dig hyb])
          clear hyb hdy
          by_cases hmin : ¬ 10 * m2 + y - 48 < 9999
          ·
           have e3 : min (10 * m2 + y - 48) 9999 = 9999 := by omega
           rw [e3] at H3
           clear e3
           go_wp2
           go_roundg (gk - 1)
           case measure => omega
           case rel => exact ⟨k2 + 1, 9999, rfl, by go_num, by omega, by omega, by omega, by omega, .inr ⟨by omega, H1.out, H3.out⟩, rfl⟩
          ·
           have e3 : min (10 * m2 + y - 48) 9999 = 10 * m2 + y - 48 := by omega
           rw [e3] at H3
           clear e3
           replace hmin : 10 * m2 + y - 48 < 9999 := by omega
           go_wp2
           go_roundg (gk - 1)
           case measure => omega
           case rel => exact ⟨k2 + 1, 10 * m2 + y - 48, rfl, by go_num, by omega, by omega, by omega, by omega, .inr ⟨by omega, H1.out, H3.out⟩, rfl⟩
       ·
        obtain rfl : k2 = rn := by omega
        have hdig : Dig rest k2 m2 := by
         rcases hd with ⟨h0, hm20⟩ | ⟨h0, h1, h2⟩
         ·
          subst h0
          have : rest = [] := List.length_eq_zero_iff.1 HRN.out
          subst this
          exact dig_0 (fun x u e => by cases e)
         · exact dig_1 HRN.out h0 h1 (Nat.le_refl _) h2 (.inl rfl)
        have HDG := Lib.hid hdig
        clear hd hdig
        go_wp2
        go_meet
        exact ⟨k2, m2, rfl, rfl, Nat.le_refl _, hm0, hm9, HDG.out, rfl⟩
     case rest =>
      obtain ⟨k2, m2, rfl, rfl, hk2n, hm0, hm9, hdig, rfl⟩ := hcut
      obtain ⟨F, hF⟩ : ∃ F, (numP cnt rest).1 = F := ⟨_, rfl⟩
      have hF2 := numP_bd hc0 hc1 rest
      rw [hF] at hF2
      have hnd : (numP cnt rest).2 = rest.drop k2 := by
       rcases hdig with ⟨h0, h1⟩ | ⟨h0, h1⟩
       · subst h0; rw [h1 cnt]; rfl
       · rw [h1 cnt]
      have hMM := HMM.out
      rw [hF, hnd] at hMM
      have HMQ := Lib.hid hMM
      have HF := Lib.hid hF
      have HDG := Lib.hid hdig
      clear hMM hnd hF hdig HMM
      go_upto_if 104 with (fail)
      go_cut [19] from 104 to 107 (fun fv wc => fv = .int .i64 F ∧ w5 = wc)
      case first =>
       rcases HDG.out with ⟨h0, h1⟩ | ⟨h0, h1⟩
       ·
        subst h0
        have e : F = cnt := by rw [← HF.out, h1 cnt]
        have HE := Lib.hid e
        clear h1 e
        go_wp2
        go_meet
        exact ⟨by rw [HE.out], rfl⟩
       ·
        have q9 : (0 : Int) < (k2 : Int) := by omega
        have HE := Lib.hid (show min (max cnt 1 * m2) 9999 = F by rw [← HF.out, h1 cnt])
        clear h1
        go_wp2_with fail
        refine (times_c cnt m2 hc0 hc1 hm0 hm9 w5).mono ?_
        rintro e w6 ⟨rfl, rfl⟩
        rw [HE.out]
        go_wp2
        go_meet
        exact ⟨rfl, rfl⟩
      case rest =>
       obtain ⟨rfl, rfl⟩ := hcut
       go_upto_region 22 with (fail)
       have htl := (HSTR.out.later HB5.out).zero.2.2
       have hct5 := (HB5.out.cell (p := ⟨gT, k, none⟩) hgTl).trans HCT.out
       rw [HST0.out] at htl
       have hrd : IsInts w5 (if rc = k2 then some ⟨lb, lo2, none⟩ else some ⟨lb, lo2 + k2, none⟩) (rn - k2) (gl (rest.drop k2)) := by
        split
        · exact .inl (by omega)
        · exact HRS.out.drop (by omega)
       obtain ⟨sd, hsd⟩ : ∃ sd, (if rc = k2 then (some ⟨lb, lo2, none⟩ : Option Addr) else some ⟨lb, lo2 + k2, none⟩) = sd := ⟨_, rfl⟩
       rw [hsd] at hrd
       have hsl : LL.length < 1000 ∧ ∀ z ∈ LL, z.q.k.length < 1000 := by
        have h1 := docD_short (qk, ⟨bv, bm, ba, bmo, bo⟩) hq12
        refine ⟨?_, short_all h1 HLL.out (fun _ => rfl)⟩
        rw [← List.length_map (f := DR.row), HLL.out, List.length_map]
        unfold docD
        simp only [List.length_append, List.length_cons, List.length_nil]
        have h2 : motD.length < 300 := by decide
        have h3 : objD.length < 300 := by decide
        split
        · simp; omega
        · simp; omega
       have hnL := HRLL.out.len
       have hac := fun (X : World) (hX : Below w5.heap.size w5 X) => among_c LL sL nL cL 0 sd (rn - k2) (rc - k2) (rest.drop k2) reg F X (by omega) (by rw [List.length_drop, HRN.out]) (by omega) ((HRLL.out.later HB5.out).later hX) hsl.2 (hrd.later hX)
       have hAM : amongD reg F (fun b => b.verb) (rest.drop k2) (LL.map DR.row) 2 = MO := by rw [HLL.out, ← HMQ.out]; exact among_setV _ _ _ _ _ _
       rw [hAM] at hac
       obtain ⟨mo, ⟨d1, d2, d3, d4, d5⟩⟩ := MO
       replace hac : ∀ (X : World), Below w5.heap.size w5 X → Calls Try.prog 104 #[.slice sL nL cL, .slice sd (rn - k2) (rc - k2), .int .i64 reg, .int .i64 F] X fun e w' => e = .returned (.tuple #[.agg #[.int .i64 d1, .int .i64 d2, .int .i64 d3, .int .i64 d4, .int .i64 d5], .int .i64 (mo : Nat)]) ∧ Below X.heap.size X w' := hac
       have HAC := Lib.hid hac
       have HSD := Lib.hid hsd
       have q9 : (k2 : Int) ≤ (rn : Int) := by omega
       have q10 : (rn : Int) ≤ (rc : Int) := by omega
       have q11 : (0 : Int) ≤ (k2 : Int) := by omega
       clear hac hAM hrd hsd hsl hnL
       have HTL := Lib.hid htl
       have HCT5 := Lib.hid hct5
       have hgT5 : gT < w5.heap.size := by have := HB5.out.size; omega
       have htb5 : tb < w5.heap.size := by have := HB5.out.size; omega
       obtain ⟨wA, hwA⟩ : ∃ wA, wA = w5.alloc (.cells #[.int .i64 0, .int .i64 0, .int .i64 0, .int .i64 0, .int .i64 0] 44) := ⟨_, rfl⟩
       have hbA : Below w5.heap.size w5 wA := by rw [hwA]; exact below_new2 w5 _
       have hkA : wA.heap[w5.heap.size]? = some (.cells #[.int .i64 0, .int .i64 0, .int .i64 0, .int .i64 0, .int .i64 0] 44 (0, 0)) := by rw [hwA]; exact one_new w5 _
       have hlA := heap_lt hkA
       have e1 : (w5.alloc (.cells #[.int .i64 0, .int .i64 0, .int .i64 0, .int .i64 0, .int .i64 0] 44)).cell? ⟨tb, 2, none⟩ = some (.slice (some ⟨gT, 0, none⟩) LO.length cT) := ((below_new2 w5 _).cell (p := ⟨tb, 2, none⟩) htb5).trans htl
       have e2 : (w5.alloc (.cells #[.int .i64 0, .int .i64 0, .int .i64 0, .int .i64 0, .int .i64 0] 44)).cell? ⟨gT, k, none⟩ = some (.slice sL nL cL) := ((below_new2 w5 _).cell (p := ⟨gT, k, none⟩) hgT5).trans hct5
       have HWA := Lib.hid hwA
       have HBA := Lib.hid hbA
       have HKA := Lib.hid hkA
       have q12 : (k : Int) < (LO.length : Int) := by omega
       clear hwA hbA hkA
       go_cut [20, 21] from 108 to 123 (fun pv sv wc => ∃ cb2, pv = .pointer (some ⟨cb2, 0, none⟩) ∧ sv = .int .i64 (mo : Nat) ∧ wc.heap[cb2]? = some (.cells #[.int .i64 d1, .int .i64 d2, .int .i64 d3, .int .i64 d4, .int .i64 d5] 44 (0, 0)) ∧ w5.heap.size ≤ cb2 ∧ Below w5.heap.size w5 wc)
       case first =>
        rename_i i1 i2 i3 i4 i5 i6 i7 i8 i9 i10 i11 i12 i13
        clear i3 i5 i6 i7 i9 HDG HF HMQ HLL HRLL HSTR HCB HV2 HBL HST HLO HRL
        have hSd : w5.drew.cell? ⟨tb, 2, none⟩ = some (.slice (some ⟨gT, 0, none⟩) LO.length cT) ∧ w5.drew.cell? ⟨gT, k, none⟩ = some (.slice sL nL cL) := ⟨htl, hct5⟩
        have hSa : (w5.alloc (.cells #[.int .i64 0, .int .i64 0, .int .i64 0, .int .i64 0, .int .i64 0] 44)).drew.cell? ⟨tb, 2, none⟩ = some (.slice (some ⟨gT, 0, none⟩) LO.length cT) ∧ (w5.alloc (.cells #[.int .i64 0, .int .i64 0, .int .i64 0, .int .i64 0, .int .i64 0] 44)).drew.cell? ⟨gT, k, none⟩ = some (.slice sL nL cL) := ⟨e1, e2⟩
        have HSd := Lib.hid hSd
        have HSa := Lib.hid hSa
        clear hSd hSa
        go_region_held3 (fun w' => w'.cell? ⟨tb, 2, none⟩ = some (.slice (some ⟨gT, 0, none⟩) LO.length cT) ∧ w'.cell? ⟨gT, k, none⟩ = some (.slice sL nL cL))
         (first | with_reducible exact HSd.out | with_reducible exact HSa.out | with_reducible exact hs6.out | with_reducible exact hs7.out | with_reducible exact ⟨(HB6.out.cell (p := ⟨tb, 2, none⟩) htb5).trans HTL.out, (HB6.out.cell (p := ⟨gT, k, none⟩) hgT5).trans HCT5.out⟩ | with_reducible exact ⟨htl, hct5⟩ | with_reducible exact ⟨e1, e2⟩ | go_keep)
         (first
          | (go_at_call 104; rw [HSD.out, ← HWA.out]; refine (HAC.out _ HBA.out.drew).mono ?_; rintro e w6 ⟨rfl, hb6⟩; have hk6 := (hb6.block w5.heap.size hlA).trans HKA.out; have HB6 := Lib.hid (HBA.out.drew.trans (hb6.mono HBA.out.size)); have HK6 := Lib.hid hk6; have r0 := block_cell (i := 0) hk6; have r1 := block_cell (i := 1) hk6; have r2 := block_cell (i := 2) hk6; have r3 := block_cell (i := 3) hk6; have r4 := block_cell (i := 4) hk6; have f0 := block_free (i := 0) hk6; have f1 := block_free (i := 1) hk6; have f2 := block_free (i := 2) hk6; have f3 := block_free (i := 3) hk6; have f4 := block_free (i := 4) hk6; have hs7 := Lib.hid (And.intro ((cell_of (i := 2) (row5_other (a0 := .int .i64 d1) (a1 := .int .i64 d2) (a2 := .int .i64 d3) (a3 := .int .i64 d4) (a4 := .int .i64 d5) (w := w6) (b := w5.heap.size) (Nat.ne_of_lt htb5))).trans ((HB6.out.cell (p := ⟨tb, 2, none⟩) htb5).trans HTL.out)) ((cell_of (i := k) (row5_other (a0 := .int .i64 d1) (a1 := .int .i64 d2) (a2 := .int .i64 d3) (a3 := .int .i64 d4) (a4 := .int .i64 d5) (w := w6) (b := w5.heap.size) (Nat.ne_of_lt hgT5))).trans ((HB6.out.cell (p := ⟨gT, k, none⟩) hgT5).trans HCT5.out))); clear hk6 hb6)
          | (go_at_call 104; rw [HSD.out]; refine (HAC.out _ ((Below.refl _ _).drew)).mono ?_; rintro e w6 ⟨rfl, hb6⟩; have HB6 := Lib.hid ((Below.refl w5.heap.size w5).drew.trans hb6); have hs6 := Lib.hid (And.intro (((below_new2 w6 (.cells #[.int .i64 d1, .int .i64 d2, .int .i64 d3, .int .i64 d4, .int .i64 d5] 44)).cell (p := ⟨tb, 2, none⟩) (Nat.lt_of_lt_of_le htb5 HB6.out.size)).trans ((HB6.out.cell (p := ⟨tb, 2, none⟩) htb5).trans HTL.out)) (((below_new2 w6 (.cells #[.int .i64 d1, .int .i64 d2, .int .i64 d3, .int .i64 d4, .int .i64 d5] 44)).cell (p := ⟨gT, k, none⟩) (Nat.lt_of_lt_of_le hgT5 HB6.out.size)).trans ((HB6.out.cell (p := ⟨gT, k, none⟩) hgT5).trans HCT5.out))); clear hb6))
        all_goals
         go_wp2_with fail
         go_meet
         first
          | (have h1 := cmd5_at (a0 := .int .i64 d1) (a1 := .int .i64 d2) (a2 := .int .i64 d3) (a3 := .int .i64 d4) (a4 := .int .i64 d5) HK6.out; have h2 := row5_below (a0 := .int .i64 d1) (a1 := .int .i64 d2) (a2 := .int .i64 d3) (a3 := .int .i64 d4) (a4 := .int .i64 d5) HB6.out (Nat.le_refl _); with_reducible exact ⟨w5.heap.size, rfl, rfl, h1, Nat.le_refl _, h2⟩)
          | (have h1 := one_new w6 (.cells #[.int .i64 d1, .int .i64 d2, .int .i64 d3, .int .i64 d4, .int .i64 d5] 44); have h2 := HB6.out.trans ((below_new2 w6 (.cells #[.int .i64 d1, .int .i64 d2, .int .i64 d3, .int .i64 d4, .int .i64 d5] 44)).mono HB6.out.size); with_reducible exact ⟨w6.heap.size, rfl, rfl, h1, HB6.out.size, h2⟩)
       case rest =>
        obtain ⟨cb2, rfl, rfl, hcb2, hge2, hb6⟩ := hcut
        have hz5 := HB5.out.size
        have hBc := (hb6.block _ (Nat.lt_of_lt_of_le (heap_lt HCB.out) hz5)).trans ((HB5.out.block _ (heap_lt HCB.out)).trans HCB.out)
        have HBC := Lib.hid hBc
        have HC2 := Lib.hid hcb2
        have HB6 := Lib.hid (HBL.out.trans ((HB5.out.trans (hb6.mono hz5)).mono hsz))
        have hv := HV2.out
        simp only at hv
        have HVV := Lib.hid hv
        clear hBc hcb2 hb6 hv HV2 e1 e2 htl hct5 HCT5 HTL HKA HBA HWA HAC HSD HMQ
        by_cases hmo : mo = 1
        ·
         subst hmo
         have hv := HVV.out
         rw [if_pos rfl] at hv
         subst hv
         obtain ⟨x0, x1, x2, x3, x4⟩ := cells5 HC2.out
         obtain ⟨z0, z1, z2, z3, z4⟩ := cells5 HBC.out
         obtain ⟨f0, f1, f2, f3, f4⟩ := free5 HBC.out
         have HX := Lib.hid (cmd5_at (a0 := .int .i64 d1) (a1 := .int .i64 d2) (a2 := .int .i64 d3) (a3 := .int .i64 d4) (a4 := .int .i64 d5) HBC.out)
         have HY := Lib.hid (row5_below (a0 := .int .i64 d1) (a1 := .int .i64 d2) (a2 := .int .i64 d3) (a3 := .int .i64 d4) (a4 := .int .i64 d5) HB6.out (Nat.le_refl _))
         clear HBC HB6 HC2 HVV
         go_wp2
         have hx := HX.out
         have hy := HY.out
         generalize ((((wc.setCell ⟨w.heap.size, 0, none⟩ (.int .i64 d1)).setCell ⟨w.heap.size, 1, none⟩ (.int .i64 d2)).setCell ⟨w.heap.size, 2, none⟩ (.int .i64 d3)).setCell ⟨w.heap.size, 3, none⟩ (.int .i64 d4)).setCell ⟨w.heap.size, 4, none⟩ (.int .i64 d5) = w8 at hx hy ⊢
         obtain ⟨y0, y1, y2, y3, y4⟩ := cells5 hx
         exact bodyPost_ret (v := .tuple #[.agg #[.int .i64 d1, .int .i64 d2, .int .i64 d3, .int .i64 d4, .int .i64 d5], .int .i64 1]) (by simp [results, Try.results97, go_sem, y0, y1, y2, y3, y4]) rfl ⟨rfl, hy⟩
        ·
         have hv := HVV.out
         rw [if_neg hmo] at hv
         have q20 : ((mo : Int) == 1) = false := by rw [beq_eq_false_iff_ne]; omega
         by_cases hmo0 : mo = 0
         ·
          subst hmo0
          rw [if_pos rfl] at hv
          have HVW := Lib.hid hv
          clear hv HVV
          go_wp2
          go_roundg (gk - 1)
          case measure => omega
          case rel => exact ⟨k + 1, 0, rfl, by go_num, by omega, by omega, HVW.out, HBC.out, HB6.out⟩
         ·
          rw [if_neg hmo0] at hv
          have HVW := Lib.hid hv
          have q21 : ((mo : Int) == 0) = false := by rw [beq_eq_false_iff_ne]; omega
          clear hv HVV
          go_wp2
          go_roundg (gk - 1)
          case measure => omega
          case rel => exact ⟨k + 1, say, rfl, by go_num, by omega, by omega, HVW.out, HBC.out, HB6.out⟩
   ·
    obtain rfl : k = nO := by omega
    rw [List.drop_eq_nil_of_le (by rw [← HNO.out]; exact Nat.le_refl _), List.map_nil] at hV
    have hA2 : (say, cmd0) = V := hV
    subst hA2
    have HX := Lib.hid (cmd5_at (a0 := .int .i64 0) (a1 := .int .i64 0) (a2 := .int .i64 0) (a3 := .int .i64 0) (a4 := .int .i64 0) hcb)
    have HY := Lib.hid (row5_below (a0 := .int .i64 0) (a1 := .int .i64 0) (a2 := .int .i64 0) (a3 := .int .i64 0) (a4 := .int .i64 0) hbl (Nat.le_refl _))
    obtain ⟨x0, x1, x2, x3, x4⟩ := cells5 hcb
    obtain ⟨f0, f1, f2, f3, f4⟩ := free5 hcb
    clear hcb hbl hV hstr
    go_wp2
    have hx := HX.out
    have hy := HY.out
    generalize ((((wr.setCell ⟨w.heap.size, 0, none⟩ (.int .i64 0)).setCell ⟨w.heap.size, 1, none⟩ (.int .i64 0)).setCell ⟨w.heap.size, 2, none⟩ (.int .i64 0)).setCell ⟨w.heap.size, 3, none⟩ (.int .i64 0)).setCell ⟨w.heap.size, 4, none⟩ (.int .i64 0) = w4 at hx hy ⊢
    obtain ⟨y0, y1, y2, y3, y4⟩ := cells5 hx
    exact bodyPost_ret (v := .tuple #[.agg #[.int .i64 0, .int .i64 0, .int .i64 0, .int .i64 0, .int .i64 0], .int .i64 say]) (by simp [results, Try.results97, go_sem, y0, y1, y2, y3, y4]) rfl ⟨rfl, hy⟩
end Go.Proofs.Ytampjndfhpjheaa
