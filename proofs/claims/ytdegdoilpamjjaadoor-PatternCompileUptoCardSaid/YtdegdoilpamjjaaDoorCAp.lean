/- Contract: again (of compile). -/
import Derived.Deep.RegionHeld3
import Derived.Test.YtdegdoilpamjjaaDoorCAn
namespace Go.Proofs.YtdegdoilpamjjaaDoor
open Go.RowKit
set_option linter.unusedVariables false
set_option linter.unusedSimpArgs false
theorem again_boxes (w : World) (v0 v1 v2 : Value) :
  IsBox (((w.alloc (.cells #[v0] 26)).alloc (.cells #[v1] 124)).alloc (.cells #[v2] 3)) w.heap.size 26 v0 ∧
  IsBox (((w.alloc (.cells #[v0] 26)).alloc (.cells #[v1] 124)).alloc (.cells #[v2] 3)) (w.heap.size + 1) 124 v1 ∧
  IsBox (((w.alloc (.cells #[v0] 26)).alloc (.cells #[v1] 124)).alloc (.cells #[v2] 3)) (w.heap.size + 1 + 1) 3 v2 ∧
  Below w.heap.size w (((w.alloc (.cells #[v0] 26)).alloc (.cells #[v1] 124)).alloc (.cells #[v2] 3)) := by
 refine ⟨?_, ?_, ?_, ?_⟩
 ·
  have := ((IsBox.new w 26 v0).alloc (.cells #[v1] 124)).alloc (.cells #[v2] 3)
  simpa using this
 ·
  have := (IsBox.new (w.alloc (.cells #[v0] 26)) 124 v1).alloc (.cells #[v2] 3)
  simpa using this
 ·
  have := IsBox.new ((w.alloc (.cells #[v0] 26)).alloc (.cells #[v1] 124)) 3 v2
  simpa using this
 · exact (((Below.refl _ _).alloc (Nat.le_refl _) _).alloc (by simp) _).alloc (by simp; omega) _
theorem swap_eq (l : List ActD) (f : Nat) (out : Int) (hf : f < l.length) : ((l.modify f fun a => { a with y := out }).modify f fun a => { a with x := out, y := l[f].x }) = patch1 out true l f := by
 rw [List.modify_modify_eq]
 unfold patch1
 refine List.ext_getElem (by simp) fun i h1 h2 => ?_
 rw [List.getElem_modify, List.getElem_modify]
 by_cases e : f = i
 ·
  subst e
  rw [if_pos rfl, if_pos rfl]
  rfl
 · rw [if_neg e, if_neg e]
theorem cell_off (w : World) {g b i : Nat} (x : Nat) (u : Value) (h : b ≠ g) : (w.setCell ⟨g, x, none⟩ u).cell? ⟨b, i, none⟩ = w.cell? ⟨b, i, none⟩ := by
 have := Below.heap_setCell w ⟨g, x, none⟩ u b h
 simp only [World.cell?, this]
theorem way_begin {w0 w : World} {B E base pb : Nat} {groups : Int} {dp : Nat} {l : List ActD} {b0 b2 b3 ab : Nat} {d : Nat} {nv : Value} {nd : Nd} {least most : Int} {lz : Bool} (fr : FrA base w0 w) (pat : PaG w B E base pb groups dp l)
  (x0 : IsBox w b0 26 (.pointer (some ⟨pb, 0, none⟩))) (x2 : IsBox w b2 124 (.pointer (some ⟨ab, 0, none⟩))) (x3 : IsBox w b3 3 (.int .i64 d)) (bb : base ≤ w0.heap.size)
  (blk : w.heap[ab]? = some (.cells #[nv, .int .i64 least, .int .i64 most, .bool lz] 142 (0, 0))) (abE : ab < base) (node : NdR w B E nv nd) :
  WayM w0 (w.alloc (.cells #[.slice none 0 0] 22)) B E base pb groups dp l b0 w.heap.size b2 b3 ab (w.heap.size + 1) d nv nd least most lz none 0 [] := by
 have hwb := Nat.le_trans bb fr.below.size
 have hb := below_newJ w (.cells #[.slice none 0 0] 22)
 have hz := size_new w (.cells #[.slice none 0 0] 22)
 exact ⟨fr.trans (FrA.new hb hwb), pat.later hwb hb, x0.below hb, one_new w _, x2.below hb, x3.below hb, World.ownsRow_nil _ _ _ _, Nat.lt_succ_of_lt (heap_lt x3), Nat.le_succ_of_le fr.below.size, Nat.le_of_eq hz.symm, bb, fr.below.size, (hb.block _ (heap_lt blk)).trans blk, abE, node.keep fun b _ h2 => hb.block b (by have := pat.le; omega)⟩
set_option maxRecDepth 100000 in
set_option maxHeartbeats 64000000 in
theorem again_c (w : World) (B E base pb ab : Nat) (groups : Int) (dp d : Nat) (l : List ActD) (nv : Value) (nd : Nd) (least most : Int) (lz : Bool) (hp : PaG w B E base pb groups dp l) (hbase : base ≤ w.heap.size)
  (hblk : w.heap[ab]? = some (.cells #[nv, .int .i64 least, .int .i64 most, .bool lz] 142 (0, 0))) (habE : ab < base) (hnode : NdR w B E nv nd) (hG : GoodN nd) (ih : CompK B E base pb groups nd) (h0 : 0 ≤ least) (h1 : least ≤ 255) (h2 : -1 ≤ most) (h3 : most ≤ 255) (h4 : 0 ≤ most → least ≤ most)
  (hsz : l.length + sizeA (.again nd least most lz) < 100000000) (hd : deepA d (.again nd least most lz) < 1000000) (hddp : d ≤ dp) (DP : Nat) (hDP : DP = max dp (deepA d (.again nd least most lz))) (R : List ActD) (hR : R = l ++ genA (.again nd least most lz) l.length) :
  Calls Tryd.prog 55 #[.pointer (some ⟨pb, 0, none⟩), .pointer (some ⟨ab, 0, none⟩), .int .i64 d] w fun e w' =>
   e = .returned (.tuple #[]) ∧ FrA base w w' ∧ PaG w' B E base pb groups DP R := by
 have hmf : ∀ (fn : Fn) (first cap : Array Value) (w : World), (Instr.makeFunc fn first cap).run Tryd.prog w = .ok (.func fn first cap) w := fun _ _ _ _ => rfl
 obtain ⟨a, rfl⟩ : ∃ a : Nat, least = a := ⟨least.toNat, by omega⟩
 obtain ⟨c, hc⟩ : ∃ c, (most - (a : Int)).toNat = c := ⟨_, rfl⟩
 have hgl := genA_len hG
 have hdD := le_deepA hG d
 have hdD1 := le_deepA hG (d + 1)
 -- what is plain of it
 obtain ⟨T, hT⟩ : ∃ T, l.length + sizeA (.again nd a most lz) = T := ⟨_, rfl⟩
 obtain ⟨k1, hk1⟩ : ∃ k1, l.length + a * sizeA nd = k1 := ⟨_, rfl⟩
 obtain ⟨X, hX⟩ : ∃ X, l ++ copiesA (genA nd) (sizeA nd) a l.length = X := ⟨_, rfl⟩
 obtain ⟨M, hM⟩ : ∃ M, (if 0 < a then max dp (deepA d nd) else dp) = M := ⟨_, rfl⟩
 have hXl : X.length = k1 := by rw [← hX, List.length_append, copies_len _ _ hgl, hk1]
 obtain ⟨Z1, hZ1⟩ : ∃ Z1, (if most < 0 then X ++ way1 (genA nd) k1 ++ [(⟨2, (k1 : Int), -1, none⟩ : ActD)] else X) = Z1 := ⟨_, rfl⟩
 obtain ⟨O1, hO1⟩ : ∃ O1, (if most < 0 then ([] ++ [k1] : List Nat) else []) = O1 := ⟨_, rfl⟩
 obtain ⟨M1, hM1⟩ : ∃ M1, (if most < 0 then max M (deepA (d + 1) nd) else M) = M1 := ⟨_, rfl⟩
 have hplain : T < 100000000 ∧ Z1.length + c * (sizeA nd + 3) = T ∧ (0 < a → deepA d nd < 1000000) ∧ (most < 0 ∨ 0 < c → deepA (d + 1) nd < 1000000) ∧ (if 0 < c then max M1 (deepA (d + 1) nd) else M1) = DP ∧
   (O1 ++ outsI (sizeA nd) c Z1.length).foldl (patch1 (T : Int) lz) (Z1 ++ waysI (genA nd) (sizeA nd) c Z1.length) = R ∧ (∀ f ∈ O1 ++ outsI (sizeA nd) c Z1.length, f < T) ∧ O1.length ≤ 1 ∧ (most < 0 → c = 0) ∧ c ≤ 255 ∧ most - (a : Int) = (if most < 0 then most - (a : Int) else (c : Int)) ∧ k1 + (if most < 0 then sizeA nd + 4 else c * (sizeA nd + 3)) = T ∧ Z1.length = (if most < 0 then k1 + (sizeA nd + 4) else k1) := by
  have hT0 := hsz
  rw [hT] at hT0
  rw [deepA] at hd hDP
  rw [sizeA] at hT
  rw [genA] at hR
  simp only [timesN, Int.toNat_natCast] at hT hR
  rw [hc] at hT hR
  rw [hk1] at hR
  rw [hR]
  by_cases hm : most < 0
  ·
   rw [if_pos hm] at hZ1 hO1 hM1 hT hR
   rw [if_pos (Or.inl hm)] at hd hDP
   have hc0 : c = 0 := by omega
   subst hZ1 hO1 hM1
   have hZl : (X ++ way1 (genA nd) k1 ++ [(⟨2, (k1 : Int), -1, none⟩ : ActD)]).length = T := by
    rw [List.length_append, List.length_append, hXl, way1_len _ _ hgl]
    show k1 + _ + 1 = T
    omega
   refine ⟨by omega, by rw [hc0, hZl]; omega, fun h => ?_, fun _ => by omega, ?_, ?_, ?_, by simp, fun _ => hc0, by omega, by rw [if_pos hm], by rw [if_pos hm]; omega, by rw [if_pos hm, hZl]; omega⟩
   ·
    rw [if_pos (by omega)] at hd
    omega
   ·
    rw [hc0, if_neg (by omega), hDP, ← hM]
    by_cases ha : 0 < a
    · rw [if_pos ha, if_pos (by omega)]; omega
    · rw [if_neg ha, if_neg (by omega)]; omega
   ·
    rw [hc0, if_pos hm]
    have := patch_ways (genA nd) (sizeA nd) lz T hgl 1 k1 X [(⟨2, (k1 : Int), -1, none⟩ : ActD)] hXl
    rw [← List.append_assoc l, hX, show k1 + sizeA nd + 4 = T from by omega, ← List.append_assoc X, ← this]
    simp [outsI, waysI]
   ·
    rw [hc0]
    intro f hf
    simp [outsI] at hf
    omega
  ·
   rw [if_neg hm] at hZ1 hO1 hM1 hT hR
   subst hZ1 hO1 hM1
   have hzc : X.length + c * (sizeA nd + 3) = T := by omega
   refine ⟨by omega, hzc, fun h => ?_, fun h => ?_, ?_, ?_, fun f hf => ?_, by simp, fun h => absurd h hm, by omega, by rw [if_neg hm]; omega, by rw [if_neg hm]; omega, by rw [if_neg hm, hXl]⟩
   ·
    rw [if_pos (by omega)] at hd
    omega
   ·
    rw [if_pos (Or.inr (by omega))] at hd
    omega
   ·
    rw [hDP, ← hM]
    by_cases ha : 0 < a <;> by_cases hc0 : 0 < c
    · rw [if_pos hc0, if_pos ha, if_pos (show (0 : Int) < (a : Int) by omega), if_pos (Or.inr (by omega))]; omega
    · rw [if_neg hc0, if_pos ha, if_pos (show (0 : Int) < (a : Int) by omega), if_neg (by omega)]; omega
    · rw [if_pos hc0, if_neg ha, if_neg (show ¬ (0 : Int) < (a : Int) by omega), if_pos (Or.inr (by omega))]; omega
    · rw [if_neg hc0, if_neg ha, if_neg (show ¬ (0 : Int) < (a : Int) by omega), if_neg (by omega)]; omega
   ·
    have := patch_ways (genA nd) (sizeA nd) lz T hgl c k1 X [] hXl
    rw [if_neg hm, ← List.append_assoc l, hX, hXl, show k1 + c * (sizeA nd + 3) = T from by omega]
    rw [List.append_nil, List.append_nil] at this
    rw [List.nil_append]
    exact this
   ·
    rw [List.nil_append] at hf
    obtain ⟨i, hi, rfl⟩ := List.getElem_of_mem hf
    rw [outsI_at]
    rw [outsI_len] at hi
    have := Nat.mul_le_mul_right (sizeA nd + 3) (show i + 1 ≤ c from hi)
    rw [Nat.add_mul, Nat.one_mul] at this
    omega
 obtain ⟨p1, p2, p3, p4, p5, p6, p7, p8, p9, p10, p11, p12, p13⟩ := hplain
 have hx := again_boxes w (.pointer (some ⟨pb, 0, none⟩)) (.pointer (some ⟨ab, 0, none⟩)) (.int .i64 d)
 generalize hw : ((w.alloc (.cells #[.pointer (some ⟨pb, 0, none⟩)] 26)).alloc (.cells #[.pointer (some ⟨ab, 0, none⟩)] 124)).alloc (.cells #[.int .i64 d] 3) = w1 at hx ⊢
 obtain ⟨x0, x2, x3, hb1⟩ := hx
 have hf1 := FrA.new hb1 hbase
 have HF1 := Lib.hid hf1
 have HP1 := Lib.hid (hp.later hbase hb1)
 have HX0 := Lib.hid x0
 have HX2 := Lib.hid x2
 have HX3 := Lib.hid x3
 have HB := Lib.hid (hf1.blk hblk habE)
 have hle := hp.le
 have HN := Lib.hid (hf1.node hnode hle)
 have HI := Lib.hid ih
 have HGL := Lib.hid hgl
 have HMM := Lib.hid hM
 have HXX := Lib.hid hX
 have HXL := Lib.hid hXl
 have HZ1 := Lib.hid hZ1
 have HO1 := Lib.hid hO1
 have HM1 := Lib.hid hM1
 have HK1 := Lib.hid hk1
 have P2 := Lib.hid p2
 have P3 := Lib.hid p3
 have P4 := Lib.hid p4
 have P5 := Lib.hid p5
 have P6 := Lib.hid p6
 have P7 := Lib.hid p7
 have P9 := Lib.hid p9
 have P11 := Lib.hid p11
 have P12 := Lib.hid p12
 have P13 := Lib.hid p13
 have HA := Lib.hid h1
 have HM0 := Lib.hid (And.intro h2 h3)
 have u0 : w1.cell? ⟨w.heap.size + 1, 0, none⟩ = some (.pointer (some ⟨ab, 0, none⟩)) := block_cell x2
 have u1 : w1.cell? ⟨ab, 1, none⟩ = some (.int .i64 a) := block_cell HB.out
 clear hp hblk hnode ih hgl x0 x2 x3 hb1 hf1 hM hX hXl hZ1 hO1 hM1 hk1 p2 p3 p4 p5 p6 p7 p9 p11 p12 p13 hT hsz hd hDP hR hc hdD hdD1 h0 h1 h2 h3 h4
 go_enter Tryd.func55, Tryd.ntmps55
 go_wp2_with fail
 go_loopg [15] a (fun gg iv wr => ∃ (j : Nat), j + gg = a ∧ iv = .int .i64 j ∧ FrA base w1 wr ∧ PaG wr B E base pb groups (if 0 < j then max dp (deepA d nd) else dp) (l ++ copiesA (genA nd) (sizeA nd) j l.length))
 case atStart => exact ⟨0, by omega, rfl, FrA.refl _ _, by simpa [copiesA] using HP1.out⟩
 case round =>
  obtain ⟨j, hj, rfl, hf, hp⟩ := hrel
  have hx0 := hf.box HX0.out (by decide) (by decide)
  have hx2 := hf.box HX2.out (by decide) (by decide)
  have hx3 := hf.box HX3.out (by decide) (by decide)
  have hB := hf.blk HB.out habE
  have hNr := hf.node HN.out hle
  have hfr := HF1.out.trans hf
  have hzr := Nat.le_trans hbase hfr.below.size
  by_cases hlt : j < a
  ·
   have hbd := (Below.refl wr.heap.size wr).drew
   have hfd := FrA.new hbd hzr
   have hcl : (l ++ copiesA (genA nd) (sizeA nd) j l.length).length = l.length + j * sizeA nd := by rw [List.length_append, copies_len _ _ HGL.out]
   have hk1' := HK1.out
   have hp2 := P12.out
   have hjs : j * sizeA nd + sizeA nd ≤ a * sizeA nd := by
    have := Nat.mul_le_mul_right (sizeA nd) (show j + 1 ≤ a from hlt)
    rw [Nat.add_mul, Nat.one_mul] at this
    exact this
   have hcall := HI.out nv wr.drew _ _ d (hfd.node hNr hle) (hp.later hzr hbd) (by rw [hcl]; omega) (P3.out (by omega)) hzr
   rw [hcl, List.append_assoc, ← copies_snoc, show max (if 0 < j then max dp (deepA d nd) else dp) (deepA d nd) = (if 0 < j + 1 then max dp (deepA d nd) else dp) from by rw [if_pos (show 0 < j + 1 by omega)]; split <;> omega] at hcall
   have HC := Lib.hid hcall
   have HFd := Lib.hid (hf.trans hfd)
   have a0 : wr.drew.cell? ⟨w.heap.size, 0, none⟩ = some (.pointer (some ⟨pb, 0, none⟩)) := block_cell hx0
   have a2 : wr.drew.cell? ⟨w.heap.size + 1, 0, none⟩ = some (.pointer (some ⟨ab, 0, none⟩)) := block_cell hx2
   have a3 : wr.drew.cell? ⟨w.heap.size + 1 + 1, 0, none⟩ = some (.int .i64 d) := block_cell hx3
   have a4 : wr.drew.cell? ⟨ab, 0, none⟩ = some nv := block_cell hB
   have q1 : (j : Int) < (a : Int) := by omega
   have q3 : IntKind.i64.wrap ((j : Int) + 1) = ((j + 1 : Nat) : Int) := by rw [IntKind.wrap_i64]; have := HA.out; omega
   have HJ := Lib.hid hj
   have HLT := Lib.hid hlt
   clear hf hp hx0 hx2 hx3 hB hNr hfr hzr hbd hfd hcl hjs hcall u0 u1 hj hlt
   go_wp2_with fail
   go_region_law (first
    | (go_simp; go_at_call 36; refine HC.out.mono ?_; rintro e w3 ⟨rfl, hf, hp⟩; have HF3 := Lib.hid (HFd.out.trans hf); have HP3 := Lib.hid hp; clear hf hp))
   all_goals
    clear a0 a2 a3 a4
    go_wp2
    go_roundg (gk - 1)
    case measure => have := HJ.out; have := HLT.out; omega
    case rel => exact ⟨j + 1, by have := HJ.out; have := HLT.out; omega, by go_num, HF3.out, HP3.out⟩
  ·
   obtain rfl : j = a := by omega
   have hW := way_begin hfr hp hx0 hx2 hx3 hbase hB habE hNr
   rw [HMM.out, HXX.out] at hW
   have HW := Lib.hid hW
   clear hf hp hx0 hx2 hx3 hB hNr hfr hzr u0 u1 hW HX0 HX2 HX3 HB HN HP1 HF1 hlt hj
   go_upto_region 7 with (fail)
   generalize wr.alloc (.cells #[.slice none 0 0] 22) = w2 at HW ⊢
   generalize wr.heap.size = b1 at HW ⊢
   generalize b1 + 1 = o0 at HW
   have y1 : w2.cell? ⟨w.heap.size + 1, 0, none⟩ = some (.pointer (some ⟨ab, 0, none⟩)) := block_cell HW.out.x2
   have y2 : w2.cell? ⟨ab, 2, none⟩ = some (.int .i64 most) := block_cell HW.out.blk
   have y3 : w2.cell? ⟨w.heap.size, 0, none⟩ = some (.pointer (some ⟨pb, 0, none⟩)) := block_cell HW.out.x0
   obtain ⟨xs, sA, cA, hpx⟩ := HW.out.pat
   have y4 := block_cell (i := 0) hpx.blk
   rw [HXL.out] at y4
   have y5 : w2.cell? ⟨pb, 0, none⟩ = some (.slice sA k1 cA) := y4
   clear hpx y4
   go_cut [30] from 26 to 30 (fun v wc => v = .bool (decide (most < 0)) ∧ w2 = wc)
   case first =>
    by_cases hm : most < 0
    ·
     go_wp2_with fail
     go_meet
     exact ⟨by rw [decide_eq_true hm], rfl⟩
    ·
     go_wp2_with fail
     go_meet
     exact ⟨by rw [decide_eq_false (by omega)], rfl⟩
   case rest =>
   obtain ⟨rfl, rfl⟩ := hcut
   obtain ⟨bo, hbo⟩ : ∃ bo, decide (most < 0) = bo := ⟨_, rfl⟩
   rw [hbo]
   have HBO := Lib.hid hbo
   clear hbo
   go_upto_if 30 with (fail)
   go_cut [8] from 31 to 41 (fun v8 wc => ∃ (sO : Option Addr) (cO : Nat), WayM w wc B E base pb groups M1 Z1 w.heap.size b1 (w.heap.size + 1) (w.heap.size + 1 + 1) ab o0 d nv nd j most lz sO cO O1)
   case first =>
    cases bo
    rotate_left
    ·
     have hm : most < 0 := by simpa using HBO.out
     go_wp2_with fail
     refine (way_c w w2 B E base pb groups M X w.heap.size b1 (w.heap.size + 1) (w.heap.size + 1 + 1) ab _ d nv nd j most lz none 0 [] HW.out hG HI.out (by rw [HXL.out]; have h := P12.out; rw [if_pos hm] at h; omega) (P4.out (.inl hm)) (by simp)).mono ?_
     rintro e w3 ⟨rfl, sO, cO, hw3⟩
     rw [HXL.out] at hw3
     have y6 : w3.cell? ⟨w.heap.size, 0, none⟩ = some (.pointer (some ⟨pb, 0, none⟩)) := block_cell hw3.x0
     have HW3 := Lib.hid hw3
     have hl3 : (X ++ way1 (genA nd) k1).length = k1 + (sizeA nd + 3) := by rw [List.length_append, HXL.out, way1_len _ _ HGL.out]
     have HL3 := Lib.hid hl3
     clear hw3 hl3 HW y1 y2 y3 y5
     go_wp2_with fail
     refine (emit_g w3 B E base pb groups _ _ HW3.out.pat ⟨2, k1, -1, none⟩ none rfl (by rw [HL3.out]; have h := P12.out; rw [if_pos hm] at h; omega) HW3.out.wz).mono ?_
     rintro e w4 ⟨rfl, hf, hp⟩
     have hW4 := HW3.out.step hf hp
     have hz1 := HZ1.out
     have ho1 := HO1.out
     have hm1 := HM1.out
     rw [if_pos hm] at hz1 ho1 hm1
     rw [hz1, hm1] at hW4
     have HW4 := Lib.hid (ho1 ▸ hW4)
     clear hf hp HW3 y6 hW4 hz1 ho1 hm1
     go_wp2
     go_meet
     exact ⟨sO, cO, HW4.out⟩
    ·
     have hm : ¬ most < 0 := by simpa using HBO.out
     have hz1 := HZ1.out
     have ho1 := HO1.out
     have hm1 := HM1.out
     rw [if_neg hm] at hz1 ho1 hm1
     subst hz1 ho1 hm1
     go_wp2
     go_meet
     exact ⟨none, 0, HW.out⟩
   case rest =>
   obtain ⟨sO, cO, hW⟩ := hcut
   have y1 : wc.cell? ⟨w.heap.size + 1, 0, none⟩ = some (.pointer (some ⟨ab, 0, none⟩)) := block_cell hW.x2
   have y2 : wc.cell? ⟨ab, 2, none⟩ = some (.int .i64 most) := block_cell hW.blk
   have y3 : wc.cell? ⟨ab, 1, none⟩ = some (.int .i64 j) := block_cell hW.blk
   have HW4 := Lib.hid hW
   have q0 : IntKind.i64.wrap (most - (j : Int)) = most - (j : Int) := by rw [IntKind.wrap_i64]; have := HM0.out; have := HA.out; omega
   clear hW HBO
   go_upto_region 11 with (fail)
   go_quiet (fail)
   have hWn : Below wc.heap.size wc (wc.drewN nq) := below_drewN (Below.refl _ _)
   have HW5 := Lib.hid (HW4.out.step (FrA.new hWn HW4.out.wz) (HW4.out.pat.later HW4.out.wz hWn))
   clear hWn HW4 y1 y2 y3
   generalize wc.drewN nq = W at HW5 ⊢
   go_wp2_with fail
   go_loopg [51] c (fun gg iv wr => ∃ (i : Nat) (sO : Option Addr) (cO : Nat), i + gg = c ∧ iv = .int .i64 i ∧ WayM w wr B E base pb groups (if 0 < i then max M1 (deepA (d + 1) nd) else M1) (Z1 ++ waysI (genA nd) (sizeA nd) i Z1.length) w.heap.size b1 (w.heap.size + 1) (w.heap.size + 1 + 1) ab o0 d nv nd j most lz sO cO (O1 ++ outsI (sizeA nd) i Z1.length))
   case atStart => exact ⟨0, sO, cO, by omega, rfl, by simpa [waysI, outsI] using HW5.out⟩
   case round =>
   clear HW5 sO cO
   obtain ⟨i, sO, cO, hi, rfl, hw'⟩ := hrel
   by_cases hlt : i < c
   ·
    have hm : ¬ most < 0 := fun h => by have := P9.out h; omega
    have hp11 := P11.out
    rw [if_neg hm] at hp11
    have hzl : (Z1 ++ waysI (genA nd) (sizeA nd) i Z1.length).length = Z1.length + i * (sizeA nd + 3) := by rw [List.length_append, waysI_len _ _ HGL.out]
    have hol : (O1 ++ outsI (sizeA nd) i Z1.length).length = O1.length + i := by rw [List.length_append, outsI_len]
    have hisz : i * (sizeA nd + 3) + (sizeA nd + 3) ≤ c * (sizeA nd + 3) := by
     have := Nat.mul_le_mul_right (sizeA nd + 3) (show i + 1 ≤ c from hlt)
     rw [Nat.add_mul, Nat.one_mul] at this
     exact this
    have hp2 := P2.out
    have hcall := way_c w wr B E base pb groups _ _ w.heap.size b1 (w.heap.size + 1) (w.heap.size + 1 + 1) ab o0 d nv nd j most lz sO cO _ hw' hG HI.out (by rw [hzl]; omega) (P4.out (.inr (by omega))) (by rw [hol]; omega)
    rw [hzl, List.append_assoc, List.append_assoc, ← waysI_snoc, ← outsI_snoc, show max (if 0 < i then max M1 (deepA (d + 1) nd) else M1) (deepA (d + 1) nd) = (if 0 < i + 1 then max M1 (deepA (d + 1) nd) else M1) from by rw [if_pos (show 0 < i + 1 by omega)]; split <;> omega] at hcall
    have HC := Lib.hid hcall
    have q1 : (i : Int) < most - (j : Int) := by omega
    have q3 : IntKind.i64.wrap ((i : Int) + 1) = ((i + 1 : Nat) : Int) := by rw [IntKind.wrap_i64]; omega
    have HJ := Lib.hid hi
    have HLT := Lib.hid hlt
    clear hcall hzl hol hisz hp2 hp11 hw' hm hi hlt
    go_wp2_with fail
    refine HC.out.mono ?_
    rintro e w3 ⟨rfl, s2, c2, hw3⟩
    have HW3 := Lib.hid hw3
    clear hw3
    go_wp2
    go_roundg (gk - 1)
    case measure => have := HJ.out; have := HLT.out; omega
    case rel => exact ⟨i + 1, s2, c2, by have := HJ.out; have := HLT.out; omega, by go_num, HW3.out⟩
   obtain rfl : i = c := by omega
   rw [P5.out] at hw'
   have q1 : ¬ (i : Int) < most - (j : Int) := by
    by_cases hm : most < 0
    · omega
    ·
     have hp11 := P11.out
     rw [if_neg hm] at hp11
     omega
   have hzl : (Z1 ++ waysI (genA nd) (sizeA nd) i Z1.length).length = T := by rw [List.length_append, waysI_len _ _ HGL.out]; exact P2.out
   have HZL := Lib.hid hzl
   have HTG := Lib.hid P6.out
   have HOT := Lib.hid P7.out
   have HW5 := Lib.hid hw'
   obtain ⟨K, hK⟩ : ∃ K, (O1 ++ outsI (sizeA nd) i Z1.length).length = K := ⟨_, rfl⟩
   have hK6 : K < 1000000 := by rw [← hK, List.length_append, outsI_len]; omega
   have HOL := Lib.hid hK
   obtain ⟨M2, hM2⟩ : ∃ M2, DP = M2 := ⟨_, rfl⟩
   rw [hM2] at HW5
   have HM2 := Lib.hid hM2
   clear hzl hK hw' hM2 hlt hi P2 P3 P4 P5 P6 P7 P9 P11 P12 P13 HZ1 HO1 HM1 HK1 HXX HXL HMM HI HGL HA HM0
   generalize Z1 ++ waysI (genA nd) (sizeA nd) i Z1.length = Z at HW5 HZL HTG
   generalize O1 ++ outsI (sizeA nd) i Z1.length = outs at HW5 HOL HOT HTG
   have v1 : wr.cell? ⟨b1, 0, none⟩ = some (.slice sO outs.length cO) := block_cell HW5.out.x1
   rw [HOL.out] at v1
   go_wp2_with fail
   go_loopg [58] K (fun gg iv wr => ∃ (i : Nat), i + gg = K ∧ iv = .int .i64 i ∧ WayM w wr B E base pb groups M2 ((outs.take i).foldl (patch1 T lz) Z) w.heap.size b1 (w.heap.size + 1) (w.heap.size + 1 + 1) ab o0 d nv nd j most lz sO cO outs)
   case atStart => exact ⟨0, by omega, rfl, HW5.out⟩
   case round =>
    obtain ⟨i, hi, rfl, hw⟩ := hrel
    clear HW5 v1
    by_cases hlt : i < K
    ·
     obtain ⟨go, c2, e1, hl2, hcell⟩ := own_block hw.own (by rw [HOL.out]; omega)
     obtain ⟨rfl, -, -⟩ := Value.slice.inj e1
     have hje : i < outs.length := by rw [HOL.out]; exact hlt
     have o0' := hcell i (by rw [endsV_len]; exact hje)
     rw [Nat.zero_add] at o0'
     have o1 : wr.cell? ⟨go, i, none⟩ = some (.int .i64 (outs[i] : Int)) := by
      rw [o0']
      have := endsV_at outs i hje
      rw [List.getElem?_eq_getElem (by rw [endsV_len]; exact hje)] at this
      exact this
     have hft := HOT.out outs[i] (List.getElem_mem _)
     have htk : (outs.take (i + 1)).foldl (patch1 T lz) Z = patch1 T lz ((outs.take i).foldl (patch1 T lz) Z) outs[i] := by
      rw [List.take_succ_eq_append_getElem hje, List.foldl_append]; rfl
     have hlenp : ((outs.take i).foldl (patch1 T lz) Z).length = T := by rw [patches_len]; exact HZL.out
     generalize (outs.take i).foldl (patch1 T lz) Z = Y at hw htk hlenp
     generalize outs[i] = f at o1 hft htk
     have hfY : f < Y.length := by rw [hlenp]; exact hft
     obtain ⟨g3, c3, y0, fz, hne, hcl, -, hY, -, -⟩ := hw.pat.open' (by omega)
     rw [hlenp] at y0
     obtain ⟨u2, y2⟩ : ∃ u, wr.cell? ⟨g3, f * 4 + 2, none⟩ = some (.int .i64 u) := ⟨_, (hcl f hfY).2⟩
     have z2 := fz (f * 4 + 2)
     have a0 : wr.cell? ⟨w.heap.size, 0, none⟩ = some (.pointer (some ⟨pb, 0, none⟩)) := block_cell hw.x0
     have q4 : (i : Int) < (K : Int) := by omega
     have q5 : (0 : Int) ≤ (i : Int) := by omega
     have q6 : IntKind.i64.wrap ((i : Int) + 1) = ((i + 1 : Nat) : Int) := by rw [IntKind.wrap_i64]; omega
     have q7 : (f : Int) < (T : Int) := by omega
     have q8 : (0 : Int) ≤ (f : Int) := by omega
     have HYY := Lib.hid (hY f (T : Int))
     have HWr := Lib.hid hw
     have HTK := Lib.hid htk
     have HJ := Lib.hid hi
     have HLJ := Lib.hid hlt
     have HLP := Lib.hid hlenp
     have HSW := Lib.hid (swap_eq Y f (T : Int) hfY)
     obtain ⟨xf, hxf⟩ : ∃ xf, Y[f].x = xf := ⟨_, rfl⟩
     have HXF := Lib.hid hxf
     clear hw e1 hl2 hcell o0' hje htk hlenp fz hne hcl hY hi hlt hxf
     go_upto_region 18 with (fail)
     go_region
     obtain ⟨hp4, hf4⟩ := HYY.out
     have H6 := Lib.hid (HWr.out.step hf4 hp4).drew
     clear hp4 hf4 HYY y0 y2 z2 a0 HWr
     generalize (wr.setCell ⟨g3, f * 4 + 2, none⟩ (.int .i64 (T : Int))).drew = w6 at H6 ⊢
     have a2 : w6.cell? ⟨w.heap.size + 1, 0, none⟩ = some (.pointer (some ⟨ab, 0, none⟩)) := block_cell H6.out.x2
     have a3 : w6.cell? ⟨ab, 3, none⟩ = some (.bool lz) := block_cell H6.out.blk
     cases lz with
     | false =>
      go_wp2
      go_roundg (gk - 1)
      case measure => have := HJ.out; have := HLJ.out; omega
      case rel =>
       refine ⟨i + 1, by have := HJ.out; have := HLJ.out; omega, by go_num, ?_⟩
       rw [HTK.out]
       exact H6.out
     | true =>
      have a0 : w6.cell? ⟨w.heap.size, 0, none⟩ = some (.pointer (some ⟨pb, 0, none⟩)) := block_cell H6.out.x0
      have hlm : (Y.modify f fun a => { a with y := (T : Int) }).length = T := by rw [List.length_modify, HLP.out]
      obtain ⟨g4, c4, y0, fz, hne, hcl, -, -, hXY, -⟩ := H6.out.pat.open' (by omega)
      rw [hlm] at y0
      obtain ⟨t1, t2⟩ := hcl f (by rw [hlm]; exact hft)
      rw [List.getElem_modify, if_pos rfl] at t1 t2
      have t3 : w6.cell? ⟨g4, f * 4 + 1, none⟩ = some (.int .i64 xf) := by rw [← HXF.out]; exact t1
      have t4 : w6.cell? ⟨g4, f * 4 + 2, none⟩ = some (.int .i64 (T : Int)) := t2
      have z1 := fz (f * 4 + 1)
      have z2 := fz (f * 4 + 2)
      have HXY := Lib.hid (hXY f (T : Int) xf)
      have hgb : ∃ cs, w6.heap[g4]? = some (.cells cs 80 (0, 0)) := by
       obtain ⟨xs, sA, cA, hpx⟩ := H6.out.pat
       obtain ⟨g', cs, rfl, -, hcs, -⟩ := hpx.block (by rw [hlm]; omega)
       have e := (block_cell (i := 0) hpx.blk).symm.trans y0
       injection e with e
       injection e with e _ _
       injection e with e
       injection e with e _ _
       exact ⟨cs, by rw [← e]; exact hcs⟩
      obtain ⟨gcs, hgb⟩ := hgb
      have hn0 : w.heap.size ≠ g4 := type_ne H6.out.x0 hgb (by decide)
      have HKA := Lib.hid (show ∀ x u, (w6.setCell ⟨g4, x, none⟩ u).cell? ⟨w.heap.size, 0, none⟩ = some (.pointer (some ⟨pb, 0, none⟩)) ∧ (w6.setCell ⟨g4, x, none⟩ u).cell? ⟨pb, 0, none⟩ = some (.slice (some ⟨g4, 0, none⟩) T c4) from fun x u => ⟨(cell_off w6 x u hn0).trans a0, (cell_off w6 x u hne).trans y0⟩)
      have HKB := Lib.hid (show ∀ x u x' u', ((w6.setCell ⟨g4, x, none⟩ u).setCell ⟨g4, x', none⟩ u').cell? ⟨w.heap.size, 0, none⟩ = some (.pointer (some ⟨pb, 0, none⟩)) ∧ ((w6.setCell ⟨g4, x, none⟩ u).setCell ⟨g4, x', none⟩ u').cell? ⟨pb, 0, none⟩ = some (.slice (some ⟨g4, 0, none⟩) T c4) from fun x u x' u' => ⟨(cell_off _ x' u' hn0).trans (HKA.out x u).1, (cell_off _ x' u' hne).trans (HKA.out x u).2⟩)
      clear fz hne hcl t1 t2 hXY hlm hgb hn0
      go_upto_region 20 with (fail)
      refine wp_region_held_drew (S := (fun w' => w'.cell? ⟨w.heap.size, 0, none⟩ = some (.pointer (some ⟨pb, 0, none⟩)) ∧ w'.cell? ⟨pb, 0, none⟩ = some (.slice (some ⟨g4, 0, none⟩) T c4))) (by kernel_rfl) (by (try dsimp only); first | exact ⟨a0, y0⟩ | exact HKA.out _ _ | exact HKB.out _ _ _ _) (fun hHeld => ?_)
      refine wpAnyH_take (i := 0) (v := ?_) rfl (by kernel_rfl) (by kernel_rfl) (by kernel_rfl) (fun _ _ _ h => h) (Or.inl ⟨by rfl, ?_⟩) (by assumption) ?_
      rotate_left
      ·
       intro w hSw
       (try dsimp only at hSw)
       go_simp
       try with_reducible rfl
      try simp only [Act.put, List.setIfInBounds_toArray, List.set_cons_zero, List.set_cons_succ]
      refine wpAnyH_take (i := 1) (v := ?_) rfl (by kernel_rfl) (by kernel_rfl) (by kernel_rfl) (fun _ _ _ h => h) (Or.inl ⟨by rfl, ?_⟩) (by assumption) ?_
      rotate_left
      ·
       intro w hSw
       (try dsimp only at hSw)
       go_simp
       try with_reducible rfl
      try simp only [Act.put, List.setIfInBounds_toArray, List.set_cons_zero, List.set_cons_succ]
      refine wpAnyH_take (i := 2) (v := ?_) rfl (by kernel_rfl) (by kernel_rfl) (by kernel_rfl) (fun _ _ _ h => h) (Or.inl ⟨by rfl, ?_⟩) (by assumption) ?_
      rotate_left
      ·
       intro w hSw
       (try dsimp only at hSw)
       go_simp
       try with_reducible rfl
      try simp only [Act.put, List.setIfInBounds_toArray, List.set_cons_zero, List.set_cons_succ]
      refine wpAnyH_take (i := 3) (v := ?_) rfl (by kernel_rfl) (by kernel_rfl) (by kernel_rfl) (fun _ _ _ h => h) (Or.inl ⟨by rfl, ?_⟩) (by assumption) ?_
      rotate_left
      ·
       intro w hSw
       (try dsimp only at hSw)
       go_simp
       try with_reducible rfl
      try simp only [Act.put, List.setIfInBounds_toArray, List.set_cons_zero, List.set_cons_succ]
      refine wpAnyH_take (i := 4) (v := ?_) rfl (by kernel_rfl) (by kernel_rfl) (by kernel_rfl) (fun _ _ _ h => h) (Or.inl ⟨by rfl, ?_⟩) (by assumption) ?_
      rotate_left
      ·
       intro w hSw
       (try dsimp only at hSw)
       go_simp
       try with_reducible rfl
      try simp only [Act.put, List.setIfInBounds_toArray, List.set_cons_zero, List.set_cons_succ]
      refine wpAnyH_take (i := 5) (v := ?_) rfl (by kernel_rfl) (by kernel_rfl) (by kernel_rfl) (fun _ _ _ h => h) (Or.inl ⟨by rfl, ?_⟩) (by assumption) ?_
      rotate_left
      ·
       intro w hSw
       (try dsimp only at hSw)
       go_simp
       try with_reducible rfl
      try simp only [Act.put, List.setIfInBounds_toArray, List.set_cons_zero, List.set_cons_succ]
      refine wpAnyH_take (i := 6) (v := ?_) rfl (by kernel_rfl) (by kernel_rfl) (by kernel_rfl) (fun _ _ _ h => h) (Or.inl ⟨by rfl, ?_⟩) (by assumption) ?_
      rotate_left
      ·
       intro w hSw
       (try dsimp only at hSw)
       go_simp
       try with_reducible rfl
      try simp only [Act.put, List.setIfInBounds_toArray, List.set_cons_zero, List.set_cons_succ]
      refine wpAnyH_take (i := 7) (v := ?_) rfl (by kernel_rfl) (by kernel_rfl) (by kernel_rfl) (fun _ _ _ h => h) (Or.inl ⟨by rfl, ?_⟩) (by assumption) ?_
      rotate_left
      ·
       intro w hSw
       (try dsimp only at hSw)
       go_simp
       try with_reducible rfl
      try simp only [Act.put, List.setIfInBounds_toArray, List.set_cons_zero, List.set_cons_succ]
      refine wpAnyH_take (i := 8) (v := ?_) rfl (by kernel_rfl) (by kernel_rfl) (by kernel_rfl) (fun _ _ _ h => h) (Or.inl ⟨by rfl, ?_⟩) (by assumption) ?_
      rotate_left
      ·
       intro w hSw
       (try dsimp only at hSw)
       go_simp
       try with_reducible rfl
      try simp only [Act.put, List.setIfInBounds_toArray, List.set_cons_zero, List.set_cons_succ]
      refine wpAnyH_take (i := 9) (v := ?_) rfl (by kernel_rfl) (by kernel_rfl) (by kernel_rfl) (fun _ _ _ h => h) (Or.inl ⟨by rfl, ?_⟩) (by assumption) ?_
      rotate_left
      ·
       intro w hSw
       (try dsimp only at hSw)
       go_simp
       try with_reducible rfl
      try simp only [Act.put, List.setIfInBounds_toArray, List.set_cons_zero, List.set_cons_succ]
      refine wpAnyH_take (i := 10) (v := ?_) rfl (by kernel_rfl) (by kernel_rfl) (by kernel_rfl) (fun _ _ _ h => h) (Or.inl ⟨by rfl, ?_⟩) (by assumption) ?_
      rotate_left
      ·
       intro w hSw
       (try dsimp only at hSw)
       go_simp
       try with_reducible rfl
      try simp only [Act.put, List.setIfInBounds_toArray, List.set_cons_zero, List.set_cons_succ]
      refine wpAnyH_take (i := 11) (v := ?_) rfl (by kernel_rfl) (by kernel_rfl) (by kernel_rfl) (fun _ _ _ h => h) (Or.inl ⟨by rfl, ?_⟩) (by assumption) ?_
      rotate_left
      ·
       intro w hSw
       (try dsimp only at hSw)
       go_simp
       try with_reducible rfl
      try simp only [Act.put, List.setIfInBounds_toArray, List.set_cons_zero, List.set_cons_succ]
      refine wpAnyH_take (i := 12) (v := ?_) rfl (by kernel_rfl) (by kernel_rfl) (by kernel_rfl) (fun _ _ _ h => h) (Or.inl ⟨by rfl, ?_⟩) (by assumption) ?_
      rotate_left
      ·
       intro w hSw
       (try dsimp only at hSw)
       go_simp
       try with_reducible rfl
      try simp only [Act.put, List.setIfInBounds_toArray, List.set_cons_zero, List.set_cons_succ]
      refine wpAnyH_take (i := 13) (v := ?_) rfl (by kernel_rfl) (by kernel_rfl) (by kernel_rfl) (fun _ _ _ h => h) (Or.inl ⟨by rfl, ?_⟩) (by assumption) ?_
      rotate_left
      ·
       intro w hSw
       (try dsimp only at hSw)
       go_simp
       try with_reducible rfl
      try simp only [Act.put, List.setIfInBounds_toArray, List.set_cons_zero, List.set_cons_succ]
      refine wpAnyH_take (i := 14) (v := ?_) rfl (by kernel_rfl) (by kernel_rfl) (by kernel_rfl) (fun _ _ _ h => h) (Or.inl ⟨by rfl, ?_⟩) (by assumption) ?_
      rotate_left
      ·
       intro w hSw
       (try dsimp only at hSw)
       go_simp
       try with_reducible rfl
      try simp only [Act.put, List.setIfInBounds_toArray, List.set_cons_zero, List.set_cons_succ]
      refine wpAnyH_take (i := 15) (v := ?_) rfl (by kernel_rfl) (by kernel_rfl) (by kernel_rfl) (fun _ _ _ h => h) (Or.inl ⟨by rfl, ?_⟩) (by assumption) ?_
      rotate_left
      ·
       intro w hSw
       (try dsimp only at hSw)
       go_simp
       try with_reducible rfl
      try simp only [Act.put, List.setIfInBounds_toArray, List.set_cons_zero, List.set_cons_succ]
      refine wpAnyH_take (i := 16) (v := ?_) rfl (by kernel_rfl) (by kernel_rfl) (by kernel_rfl) (fun _ _ _ h => h) (Or.inl ⟨by rfl, ?_⟩) (by assumption) ?_
      rotate_left
      ·
       intro w hSw
       (try dsimp only at hSw)
       go_simp
       try with_reducible rfl
      try simp only [Act.put, List.setIfInBounds_toArray, List.set_cons_zero, List.set_cons_succ]
      refine wpAnyH_take (i := 18) (v := ?_) rfl (by kernel_rfl) (by kernel_rfl) (by kernel_rfl) (fun _ _ _ h => h) (Or.inl ⟨by rfl, ?_⟩) (by assumption) ?_
      rotate_left
      ·
       intro w hSw
       (try dsimp only at hSw)
       go_simp
       try with_reducible rfl
      try simp only [Act.put, List.setIfInBounds_toArray, List.set_cons_zero, List.set_cons_succ]
      refine wpAnyH_take (i := 19) (v := ?_) rfl (by kernel_rfl) (by kernel_rfl) (by kernel_rfl) (fun _ _ _ h => h) (Or.inl ⟨by rfl, ?_⟩) (by assumption) ?_
      rotate_left
      ·
       intro w hSw
       (try dsimp only at hSw)
       go_simp
       try with_reducible rfl
      try simp only [Act.put, List.setIfInBounds_toArray, List.set_cons_zero, List.set_cons_succ]
      refine wpAnyH_take (i := 20) (v := ?_) rfl (by kernel_rfl) (by kernel_rfl) (by kernel_rfl) (fun _ _ _ h => h) (Or.inl ⟨by rfl, ?_⟩) (by assumption) ?_
      rotate_left
      ·
       intro w hSw
       (try dsimp only at hSw)
       go_simp
       try with_reducible rfl
      try simp only [Act.put, List.setIfInBounds_toArray, List.set_cons_zero, List.set_cons_succ]
      refine wpAnyH_take (i := 21) (v := ?_) rfl (by kernel_rfl) (by kernel_rfl) (by kernel_rfl) (fun _ _ _ h => h) (Or.inl ⟨by rfl, ?_⟩) (by assumption) ?_
      rotate_left
      ·
       intro w hSw
       (try dsimp only at hSw)
       go_simp
       try with_reducible rfl
      try simp only [Act.put, List.setIfInBounds_toArray, List.set_cons_zero, List.set_cons_succ]
      refine wpAnyH_take (i := 22) (v := ?_) rfl (by kernel_rfl) (by kernel_rfl) (by kernel_rfl) (fun _ _ _ h => h) (Or.inl ⟨by rfl, ?_⟩) (by assumption) ?_
      rotate_left
      ·
       intro w hSw
       (try dsimp only at hSw)
       go_simp
       try with_reducible rfl
      try simp only [Act.put, List.setIfInBounds_toArray, List.set_cons_zero, List.set_cons_succ]
      refine wpAnyH_take (i := 23) (v := ?_) rfl (by kernel_rfl) (by kernel_rfl) (by kernel_rfl) (fun _ _ _ h => h) (Or.inl ⟨by rfl, ?_⟩) (by assumption) ?_
      rotate_left
      ·
       intro w hSw
       (try dsimp only at hSw)
       go_simp
       try with_reducible rfl
      try simp only [Act.put, List.setIfInBounds_toArray, List.set_cons_zero, List.set_cons_succ]
      refine wpAnyH_take (i := 24) (v := ?_) rfl (by kernel_rfl) (by kernel_rfl) (by kernel_rfl) (fun _ _ _ h => h) (Or.inl ⟨by rfl, ?_⟩) (by assumption) ?_
      rotate_left
      ·
       intro w hSw
       (try dsimp only at hSw)
       go_simp
       try with_reducible rfl
      try simp only [Act.put, List.setIfInBounds_toArray, List.set_cons_zero, List.set_cons_succ]
      refine wpAnyH_ready (rs := [17, 25]) (by kernel_rfl) (by simp) ?_
      refine AllReadyH.cons rfl (fun K hK => ?_) ?_
      ·
       go_simp
       refine hK.out _ _ ?_ (fun hHeld => ?_)
       ·
        (try dsimp only)
        first | exact ⟨a0, y0⟩ | exact HKA.out _ _ | exact HKB.out _ _ _ _
       clear hK K
       try simp only [Act.put, List.setIfInBounds_toArray, List.set_cons_zero, List.set_cons_succ]
       refine wpAnyH_ready (rs := [25]) (by kernel_rfl) (by simp) ?_
       refine AllReadyH.cons rfl (fun K hK => ?_) ?_
       ·
        go_simp
        refine hK.out _ _ ?_ (fun hHeld => ?_)
        ·
         (try dsimp only)
         first | exact ⟨a0, y0⟩ | exact HKA.out _ _ | exact HKB.out _ _ _ _
        clear hK K
        try simp only [Act.put, List.setIfInBounds_toArray, List.set_cons_zero, List.set_cons_succ]
        refine wpAnyH_take (i := 26) (v := ?_) rfl (by kernel_rfl) (by kernel_rfl) (by kernel_rfl) (fun _ _ _ h => h) (Or.inl ⟨by rfl, ?_⟩) (by assumption) ?_
        rotate_left
        ·
         intro w hSw
         (try dsimp only at hSw)
         go_simp
         try with_reducible rfl
        try simp only [Act.put, List.setIfInBounds_toArray, List.set_cons_zero, List.set_cons_succ]
        refine wpAnyH_take (i := 27) (v := ?_) rfl (by kernel_rfl) (by kernel_rfl) (by kernel_rfl) (fun _ _ _ h => h) (Or.inl ⟨by rfl, ?_⟩) (by assumption) ?_
        rotate_left
        ·
         intro w hSw
         (try dsimp only at hSw)
         go_simp
         try with_reducible rfl
        try simp only [Act.put, List.setIfInBounds_toArray, List.set_cons_zero, List.set_cons_succ]
        refine wpAnyH_ready (rs := [28]) (by kernel_rfl) (by simp) ?_
        refine AllReadyH.cons rfl (fun K hK => ?_) ?_
        ·
         go_simp
         refine hK.out _ _ ?_ (fun hHeld => ?_)
         ·
          (try dsimp only)
          first | exact ⟨a0, y0⟩ | exact HKA.out _ _ | exact HKB.out _ _ _ _
         clear hK K
         try simp only [Act.put, List.setIfInBounds_toArray, List.set_cons_zero, List.set_cons_succ]
         refine wpAnyH_take (i := 29) (v := ?_) rfl (by kernel_rfl) (by kernel_rfl) (by kernel_rfl) (fun _ _ _ h => h) (Or.inl ⟨by rfl, ?_⟩) (by assumption) ?_
         rotate_left
         ·
          intro w hSw
          (try dsimp only at hSw)
          go_simp
          try with_reducible rfl
         try simp only [Act.put, List.setIfInBounds_toArray, List.set_cons_zero, List.set_cons_succ]
         refine wpAnyH_take (i := 30) (v := ?_) rfl (by kernel_rfl) (by kernel_rfl) (by kernel_rfl) (fun _ _ _ h => h) (Or.inl ⟨by rfl, ?_⟩) (by assumption) ?_
         rotate_left
         ·
          intro w hSw
          (try dsimp only at hSw)
          go_simp
          try with_reducible rfl
         try simp only [Act.put, List.setIfInBounds_toArray, List.set_cons_zero, List.set_cons_succ]
         refine wpAnyH_ready (rs := [31]) (by kernel_rfl) (by simp) ?_
         refine AllReadyH.cons rfl (fun K hK => ?_) ?_
         ·
          go_simp
          refine hK.out _ _ ?_ (fun hHeld => ?_)
          ·
           (try dsimp only)
           first | exact ⟨a0, y0⟩ | exact HKA.out _ _ | exact HKB.out _ _ _ _
          clear hK K
          try simp only [Act.put, List.setIfInBounds_toArray, List.set_cons_zero, List.set_cons_succ]
          refine wpAnyH_done (by kernel_rfl) ?_ _
          obtain ⟨hp4, hf4⟩ := HXY.out
          rw [← HXF.out, HSW.out, ← HTK.out, HXF.out] at hp4
          have H7 := Lib.hid (H6.out.step hf4 hp4).drew
          clear hHeld hp4 hf4 HXY y0 z1 z2 a0 a2 a3 t3 t4 H6
          try change Exit.inBlock _ _ _ _ ((w6.setCell ⟨g4, f * 4 + 1, none⟩ (.int .i64 (T : Int))).setCell ⟨g4, f * 4 + 2, none⟩ (.int .i64 xf)).drew
          generalize ((w6.setCell ⟨g4, f * 4 + 1, none⟩ (.int .i64 (T : Int))).setCell ⟨g4, f * 4 + 2, none⟩ (.int .i64 xf)).drew = w7 at H7 ⊢
          go_wp2
          go_roundg (gk - 1)
          case measure => have := HJ.out; have := HLJ.out; omega
          case rel => exact ⟨i + 1, by have := HJ.out; have := HLJ.out; omega, by go_num, H7.out⟩
         exact AllReadyH.nil
        exact AllReadyH.nil
       exact AllReadyH.nil
      refine AllReadyH.cons rfl (fun K hK => ?_) ?_
      ·
       go_simp
       refine hK.out _ _ ?_ (fun hHeld => ?_)
       ·
        (try dsimp only)
        first | exact ⟨a0, y0⟩ | exact HKA.out _ _ | exact HKB.out _ _ _ _
       clear hK K
       try simp only [Act.put, List.setIfInBounds_toArray, List.set_cons_zero, List.set_cons_succ]
       refine wpAnyH_ready (rs := [17]) (by kernel_rfl) (by simp) ?_
       refine AllReadyH.cons rfl (fun K hK => ?_) ?_
       ·
        go_simp
        refine hK.out _ _ ?_ (fun hHeld => ?_)
        ·
         (try dsimp only)
         first | exact ⟨a0, y0⟩ | exact HKA.out _ _ | exact HKB.out _ _ _ _
        clear hK K
        try simp only [Act.put, List.setIfInBounds_toArray, List.set_cons_zero, List.set_cons_succ]
        refine wpAnyH_take (i := 26) (v := ?_) rfl (by kernel_rfl) (by kernel_rfl) (by kernel_rfl) (fun _ _ _ h => h) (Or.inl ⟨by rfl, ?_⟩) (by assumption) ?_
        rotate_left
        ·
         intro w hSw
         (try dsimp only at hSw)
         go_simp
         try with_reducible rfl
        try simp only [Act.put, List.setIfInBounds_toArray, List.set_cons_zero, List.set_cons_succ]
        refine wpAnyH_take (i := 27) (v := ?_) rfl (by kernel_rfl) (by kernel_rfl) (by kernel_rfl) (fun _ _ _ h => h) (Or.inl ⟨by rfl, ?_⟩) (by assumption) ?_
        rotate_left
        ·
         intro w hSw
         (try dsimp only at hSw)
         go_simp
         try with_reducible rfl
        try simp only [Act.put, List.setIfInBounds_toArray, List.set_cons_zero, List.set_cons_succ]
        refine wpAnyH_ready (rs := [28]) (by kernel_rfl) (by simp) ?_
        refine AllReadyH.cons rfl (fun K hK => ?_) ?_
        ·
         go_simp
         refine hK.out _ _ ?_ (fun hHeld => ?_)
         ·
          (try dsimp only)
          first | exact ⟨a0, y0⟩ | exact HKA.out _ _ | exact HKB.out _ _ _ _
         clear hK K
         try simp only [Act.put, List.setIfInBounds_toArray, List.set_cons_zero, List.set_cons_succ]
         refine wpAnyH_take (i := 29) (v := ?_) rfl (by kernel_rfl) (by kernel_rfl) (by kernel_rfl) (fun _ _ _ h => h) (Or.inl ⟨by rfl, ?_⟩) (by assumption) ?_
         rotate_left
         ·
          intro w hSw
          (try dsimp only at hSw)
          go_simp
          try with_reducible rfl
         try simp only [Act.put, List.setIfInBounds_toArray, List.set_cons_zero, List.set_cons_succ]
         refine wpAnyH_take (i := 30) (v := ?_) rfl (by kernel_rfl) (by kernel_rfl) (by kernel_rfl) (fun _ _ _ h => h) (Or.inl ⟨by rfl, ?_⟩) (by assumption) ?_
         rotate_left
         ·
          intro w hSw
          (try dsimp only at hSw)
          go_simp
          try with_reducible rfl
         try simp only [Act.put, List.setIfInBounds_toArray, List.set_cons_zero, List.set_cons_succ]
         refine wpAnyH_ready (rs := [31]) (by kernel_rfl) (by simp) ?_
         refine AllReadyH.cons rfl (fun K hK => ?_) ?_
         ·
          go_simp
          refine hK.out _ _ ?_ (fun hHeld => ?_)
          ·
           (try dsimp only)
           first | exact ⟨a0, y0⟩ | exact HKA.out _ _ | exact HKB.out _ _ _ _
          clear hK K
          try simp only [Act.put, List.setIfInBounds_toArray, List.set_cons_zero, List.set_cons_succ]
          refine wpAnyH_done (by kernel_rfl) ?_ _
          obtain ⟨hp4, hf4⟩ := HXY.out
          rw [← HXF.out, HSW.out, ← HTK.out, HXF.out] at hp4
          have H7 := Lib.hid (H6.out.step hf4 hp4).drew
          clear hHeld hp4 hf4 HXY y0 z1 z2 a0 a2 a3 t3 t4 H6
          try change Exit.inBlock _ _ _ _ ((w6.setCell ⟨g4, f * 4 + 1, none⟩ (.int .i64 (T : Int))).setCell ⟨g4, f * 4 + 2, none⟩ (.int .i64 xf)).drew
          generalize ((w6.setCell ⟨g4, f * 4 + 1, none⟩ (.int .i64 (T : Int))).setCell ⟨g4, f * 4 + 2, none⟩ (.int .i64 xf)).drew = w7 at H7 ⊢
          go_wp2
          go_roundg (gk - 1)
          case measure => have := HJ.out; have := HLJ.out; omega
          case rel => exact ⟨i + 1, by have := HJ.out; have := HLJ.out; omega, by go_num, H7.out⟩
         exact AllReadyH.nil
        exact AllReadyH.nil
       exact AllReadyH.nil
      exact AllReadyH.nil
    ·
     obtain rfl : i = K := by omega
     have HWr := Lib.hid hw
     clear hw hi hlt
     go_wp2
     go_end0
     refine ⟨rfl, HWr.out.fr, ?_⟩
     rw [HM2.out]
     have := HWr.out.pat
     rw [List.take_of_length_le (by rw [HOL.out]; exact Nat.le_refl _), HTG.out] at this
     exact this
end Go.Proofs.YtdegdoilpamjjaaDoor
