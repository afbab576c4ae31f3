/- Contracts of the document's reader of patterns: pattern, above member. Condition: no more than 2^30 ints. Contracts of the document's reader of patterns: grouped, above member. Condition: no more than 2^30 ints. -/
import Derived.Test.YtdegdoilpamjjaaDoorCAy
import Derived.Test.YtdegdoilpamjjaaDoorCAk
namespace Go.Proofs.YtdegdoilpamjjaaDoor
open Go.RowKit
set_option linter.unusedVariables false
set_option linter.unusedSimpArgs false
def contF (src : List Int) (fold : Bool) (f : Nat) (acc : List Nd) (s1 : RS) : RR Nd := if escB src s1.at' 124 = true then patP src fold f acc { s1 with at' := s1.at' + 2 } else .ok (.choice acc, s1)
theorem trN_choice {N : List NdF} {x : NdF} {ms : List Nd} (h : x.kind = 4) (ht : trL N x.kids ms) : trN (N ++ [x]) N.length (.choice ms) := by
 rw [trN]
 exact ⟨x, List.getElem?_concat_length, h, trL.more N _ ms _ ht⟩
def RelP (w wr : World) (lo rb pb : Nat) (sl : Option Addr) (n c : Nat) (src : List Int) (ig fold : Bool) (lb F a0 : Nat) (nv : Value) (N : List NdF) (R : RR Nd) (gg : Nat) : Prop :=
 ∃ (s1 : RS) (bad : Bool) (nv1 : Value) (M : List NdF) (sk : Option Addr) (m ck : Nat) (ks : List Int) (acc : List Nd), RowS w wr lo rb pb sl n c src ig lb 4 0 s1.at' bad s1.groups nv nv1 N M sk m ck ks ∧
  ((bad = false ∧ contF src fold gg acc s1 = R ∧ trL (N ++ M) ks acc ∧ 4 * (n - s1.at') + 7 ≤ gg ∧ gg < F ∧ s1.groups ≤ 9 ∧ a0 ≤ s1.at' ∧ m ≤ s1.at' + 1 ∧ M.length ≤ 2 * (s1.at' - a0) + 1) ∨ (bad = true ∧ gg = 0 ∧ R = .error s1.at' ∧ M.length ≤ 2 * (n - a0) + 1))
set_option maxRecDepth 100000 in
set_option maxHeartbeats 32000000 in
theorem pattern_f (F : Nat) (w : World) (lo rb pb : Nat) (sl : Option Addr) (n c : Nat) (src : List Int) (ig fold : Bool) (s : RS) (nv : Value) (N : List NdF) (h : RfM w lo rb pb sl n c src ig s.at' false s.groups nv N) (hN : N.length + 2 * (n - s.at') + 2 < 90000) (hF : 4 * (n - s.at') + 8 ≤ F) (hg9 : s.groups ≤ 9) (hM : MemF lo rb pb sl n c src ig fold F) :
  Calls Tryd.prog 50 #[.pointer (some ⟨rb, 0, none⟩)] w (NdP w lo rb pb sl n c src ig nv N w.heap.size (fun a => 2 * (a - s.at') + 2) (patP src fold F [] s) (fun N' x k => trN N' k x)) := by
 obtain ⟨f0, rfl⟩ : ∃ f0, F = f0 + 1 := ⟨F - 1, by omega⟩
 rw [patP_eq]
 obtain ⟨R, hR⟩ : ∃ R, patT src fold f0 [] (memsP src fold f0 [] s) = R := ⟨_, rfl⟩
 rw [hR]
 have hn30 := h.rd.n30
 have hlen := h.rd.len
 have hat := h.rd.at'
 have HR := Lib.hid hR
 have HM := Lib.hid hM
 have ob := below_newJ w (.cells #[.int .i64 0, .int .i64 0, .int .i64 0, .int .i64 0, .bool false, .bool false, .slice none 0 0, .slice none 0 0] 138)
 have oo := one_new w (.cells #[.int .i64 0, .int .i64 0, .int .i64 0, .int .i64 0, .bool false, .bool false, .slice none 0 0, .slice none 0 0] 138)
 obtain ⟨lb, hlb⟩ : ∃ lb, w.heap.size = lb := ⟨_, rfl⟩
 generalize hw1 : w.alloc (.cells #[.int .i64 0, .int .i64 0, .int .i64 0, .int .i64 0, .bool false, .bool false, .slice none 0 0, .slice none 0 0] 138) = w1 at ob oo
 rw [hlb] at oo
 have PO := Lib.hid oo
 have HB := Lib.hid (show RowS w (w1.setRow lb #[.int .i64 (4), .int .i64 (0), .int .i64 (0), .int .i64 (0), .bool false, .bool false, .slice none 0 0, .slice none 0 0]) lo rb pb sl n c src ig lb 4 0 s.at' false s.groups nv nv N [] none 0 0 [] from by
  have := RowS.begin (kd := 4) h (w1.setRow lb #[.int .i64 (4), .int .i64 (0), .int .i64 (0), .int .i64 (0), .bool false, .bool false, .slice none 0 0, .slice none 0 0]) (ob.trans (row_belowg _ (by omega))) (by rw [hlb]; exact row_setg #[.int .i64 (4), .int .i64 (0), .int .i64 (0), .int .i64 (0), .bool false, .bool false, .slice none 0 0, .slice none 0 0] oo)
  rwa [hlb] at this)
 clear ob oo h hR hM
 go_enter Tryd.func50, Tryd.ntmps50
 go_upto_region 2 with (refine wpList_store_row rfl 138 _ _ rfl lb #[.int .i64 (4), .int .i64 (0), .int .i64 (0), .int .i64 (0), .bool false, .bool false, .slice none 0 0, .slice none 0 0] rfl rfl _ _ PO.out fnode_info rfl (fnode_all _ _ _ _ _ _ _ _ _ _ _ _) ?_)
 generalize w1.setRow lb #[.int .i64 (4), .int .i64 (0), .int .i64 (0), .int .i64 (0), .bool false, .bool false, .slice none 0 0, .slice none 0 0] = w2 at HB ⊢
 clear hw1 PO
 have hRw := row_f f0 w2 lo rb pb sl n c src ig fold s nv (N ++ []) HB.out.rf (by rw [List.length_append]; rw [List.length_nil]; omega) (by omega) hg9 (fun f' s' w' nv' N' hf' => HM.out f' s' w' nv' N' (by omega))
 have HON := Lib.hid ((reader_on src fold f0).2.2.2.1 [] s)
 go_wp2_with fail
 refine hRw.mono ?_
 rintro e w4 ⟨k, nv4, M4, rfl, hmv, hkg, hres⟩
 cases hmp : memsP src fold f0 [] s with
 | error kk =>
  rw [hmp] at hres
  obtain ⟨⟨g4, hr4⟩, hl4⟩ := hres
  have hl4 : M4.length ≤ 2 * (n - s.at') + 1 := hl4
  have H4 := Lib.hid (HB.out.call hmv hr4 hkg)
  have HRB := Lib.hid (show R = .error kk from by have := HR.out; rw [hmp] at this; exact this.symm)
  have hl5 : ([] ++ M4 : List NdF).length ≤ 2 * (n - s.at') + 1 := by rw [List.nil_append]; exact hl4
  clear hRw hmp hmv hkg hr4 HR HB
  have l7 : w4.cell? ⟨lb, 7, none⟩ = some (.slice none 0 0) := block_cell H4.out.blk
  have hsz := H4.out.mv.touch.size
  go_wp2_with (first | (at_builtin; refine wpList_push_g Tryd.underlying22 Tryd.infoInt rfl (by decide) (by decide) [.int .i64 k] (by intro u hu; rw [List.mem_singleton] at hu; subst hu; rfl) rfl rfl _ _ rfl w.heap.size (.slice none 0 0) 0 (([] : List Int).map (Value.int .i64)) rfl rfl H4.out.ownm (by omega) (by omega) ?_; intro s' c' w8 hp; have H8 := Lib.hid (H4.out.push hp); have c4 := hp.2.2.1 _ _ _ H4.out.blk (by decide); have c3 : w8.cell? ⟨lb, 7, none⟩ = some (.slice none 0 0) := block_cell c4; have f3 : w8.frozen? ⟨lb, 7, none⟩ = false := block_free c4; clear hp c4))
  have H5 := H8
  generalize w8.setCell ⟨lb, 7, none⟩ (.slice s' (0 + 1) c') = w5 at H8 H5 ⊢
  clear l7 c3 f3 H8
  have HREL := Lib.hid (show RelP w w5 lo rb pb sl n c src ig fold lb (f0 + 1) s.at' nv N R 0 from ⟨⟨kk, g4⟩, true, nv4, _, _, _, _, _, [], H5.out, .inr ⟨rfl, rfl, HRB.out, hl5⟩⟩)
  clear H5
  go_loopg [] 0 (fun gg wr => RelP w wr lo rb pb sl n c src ig fold lb (f0 + 1) s.at' nv N R gg)
  case atStart => exact HREL.out
  case round =>
   clear HREL
   obtain ⟨s1, bad, nv1, M, sk, m, ck, ks, acc, hrs, hcase⟩ := hrel
   have H1 := Lib.hid hrs
   have hat1 := hrs.rf.rd.at'
   clear hrs
   rcases hcase with ⟨rfl, hcc, htl, hf2, hgF, hg1, hs1, hm, hMl⟩ | ⟨rfl, -, hre, hMl⟩
   ·
    go_wp2_with fail
    refine (sees_f rb pb sl n c src s1.at' false 92 124 wr H1.out.rf.rd).mono ?_
    rintro e w_ ⟨rfl, m2, rfl⟩
    rw [sees_two (by decide)]
    have H2 := Lib.hid (H1.out.drewN m2)
    clear H1
    generalize wr.drewN m2 = w3 at H2 ⊢
    unfold contF at hcc
    have HTL := Lib.hid htl
    clear htl
    by_cases hE : escB src s1.at' 124 = true
    ·
     rw [if_pos hE] at hcc
     rw [hE]
     have hlt := (escB_is.mp hE).1
     obtain ⟨f, rfl⟩ : ∃ f, gk = f + 1 := ⟨gk - 1, by omega⟩
     rw [patP_eq] at hcc
     have HCC := Lib.hid hcc
     have b2 : w3.cell? ⟨rb, 2, none⟩ = some (.int .i64 s1.at') := block_cell H2.out.rf.rd.blk
     have g2 : w3.frozen? ⟨rb, 2, none⟩ = false := block_free H2.out.rf.rd.blk
     have p3 : IntKind.i64.wrap ((s1.at' : Int) + 2) = (s1.at' : Int) + 2 := by rw [IntKind.wrap_i64]; omega
     have hs := H2.out.go 2 (by omega)
     rw [show ((s1.at' + 2 : Nat) : Int) = (s1.at' : Int) + 2 from by omega] at hs
     have H3 := Lib.hid hs
     clear hs hE hcc H2
     go_upto_region 6 with (fail)
     generalize w3.setCell ⟨rb, 2, none⟩ (.int .i64 ((s1.at' : Int) + 2)) = w5 at H3 ⊢
     clear b2 g2 p3
     obtain ⟨s2, hs2⟩ : ∃ s2 : RS, s2 = { s1 with at' := s1.at' + 2 } := ⟨_, rfl⟩
     have ha2 : s2.at' = s1.at' + 2 := by rw [hs2]
     have hgr2 : s2.groups = s1.groups := by rw [hs2]
     rw [← hs2] at HCC
     have H3b := H3
     rw [← ha2, ← hgr2] at H3b
     clear hs2 H3
     have hRw := row_f f w5 lo rb pb sl n c src ig fold s2 nv1 (N ++ M) H3b.out.rf (by rw [List.length_append]; omega) (by omega) (by omega) (fun f' s' w' nv' N' hf' => HM.out f' s' w' nv' N' (by omega))
     have HON := Lib.hid ((reader_on src fold f).2.2.2.1 [] s2)
     go_wp2_with fail
     refine hRw.mono ?_
     rintro e w4 ⟨k, nv4, M4, rfl, hmv, hkg, hres⟩
     cases hmp : memsP src fold f [] s2 with
     | error kk =>
      rw [hmp] at hres
      obtain ⟨⟨g4, hr4⟩, hl4⟩ := hres
      have hl4 : M4.length ≤ 2 * (n - s2.at') + 1 := hl4
      have H4 := Lib.hid (H3b.out.call hmv hr4 hkg)
      have HRB := Lib.hid (show R = .error kk from by have := HCC.out; rw [hmp] at this; exact this.symm)
      have hl5 : (M ++ M4).length ≤ 2 * (n - s.at') + 1 := by rw [List.length_append]; omega
      clear hRw hmp hmv hkg hr4 HCC H3b HTL
      have l7 : w4.cell? ⟨lb, 7, none⟩ = some (.slice sk m ck) := block_cell H4.out.blk
      have hsz := H4.out.mv.touch.size
      go_wp2_with (first | (at_builtin; refine wpList_push_g Tryd.underlying22 Tryd.infoInt rfl (by decide) (by decide) [.int .i64 k] (by intro u hu; rw [List.mem_singleton] at hu; subst hu; rfl) rfl rfl _ _ rfl w.heap.size (.slice sk m ck) m (ks.map (Value.int .i64)) rfl rfl H4.out.ownm (by omega) (by omega) ?_; intro s' c' w8 hp; have H8 := Lib.hid (H4.out.push hp); have c4 := hp.2.2.1 _ _ _ H4.out.blk (by decide); have c3 : w8.cell? ⟨lb, 7, none⟩ = some (.slice sk m ck) := block_cell c4; have f3 : w8.frozen? ⟨lb, 7, none⟩ = false := block_free c4; clear hp c4))
      have H6 := H8
      generalize w8.setCell ⟨lb, 7, none⟩ (.slice s' (m + 1) c') = w6 at H8 H6 ⊢
      clear l7 c3 f3 H8
      go_roundg 0
      case measure => omega
      case rel => exact ⟨⟨kk, g4⟩, true, nv4, _, _, _, _, _, [], H6.out, .inr ⟨rfl, rfl, HRB.out, hl5⟩⟩
     | ok r =>
      obtain ⟨ms, s4⟩ := r
      rw [hmp] at hres
      obtain ⟨hr4, ht4, hl4⟩ := hres
      have hl4 : M4.length ≤ 2 * (s4.at' - s2.at') + 1 := hl4
      obtain ⟨on1, on2⟩ := HON.out _ _ hmp
      have hat4 := hr4.rd.at'
      have H4 := Lib.hid (H3b.out.call hmv hr4 hkg)
      have HRG := Lib.hid (show contF src fold f (acc ++ [.row ms]) s4 = R from by have := HCC.out; rw [hmp] at this; exact this)
      have HT4 := Lib.hid (show trL (N ++ (M ++ M4)) (ks ++ [(k : Int)]) (acc ++ [.row ms]) from by
       rw [← List.append_assoc]
       exact trL.push (trL.more _ M4 _ _ HTL.out) ht4)
      have hl5 : (M ++ M4).length ≤ 2 * (s4.at' - s.at') + 1 := by rw [List.length_append]; omega
      have hg4 := on2 (by omega)
      clear hRw hmp hmv hkg hr4 ht4 HCC H3b HTL
      have l7 : w4.cell? ⟨lb, 7, none⟩ = some (.slice sk m ck) := block_cell H4.out.blk
      have hsz := H4.out.mv.touch.size
      go_wp2_with (first | (at_builtin; refine wpList_push_g Tryd.underlying22 Tryd.infoInt rfl (by decide) (by decide) [.int .i64 k] (by intro u hu; rw [List.mem_singleton] at hu; subst hu; rfl) rfl rfl _ _ rfl w.heap.size (.slice sk m ck) m (ks.map (Value.int .i64)) rfl rfl H4.out.ownm (by omega) (by omega) ?_; intro s' c' w8 hp; have H8 := Lib.hid (H4.out.push hp); have c4 := hp.2.2.1 _ _ _ H4.out.blk (by decide); have c3 : w8.cell? ⟨lb, 7, none⟩ = some (.slice sk m ck) := block_cell c4; have f3 : w8.frozen? ⟨lb, 7, none⟩ = false := block_free c4; clear hp c4))
      have H6 := H8
      generalize w8.setCell ⟨lb, 7, none⟩ (.slice s' (m + 1) c') = w6 at H8 H6 ⊢
      clear l7 c3 f3 H8
      go_roundg f
      case measure => omega
      case rel => exact ⟨s4, false, nv4, _, _, _, _, _, _, H6.out, .inl ⟨rfl, HRG.out, HT4.out, by omega, by omega, hg4, by omega, by omega, hl5⟩⟩
    ·
     rw [if_neg hE] at hcc
     rw [Bool.eq_false_iff.mpr hE]
     have HRES := Lib.hid hcc.symm
     clear hE hcc
     have z0 : w3.cell? ⟨lb, 0, none⟩ = some (.int .i64 4) := block_cell H2.out.blk
     have z1 : w3.cell? ⟨lb, 1, none⟩ = some (.int .i64 0) := block_cell H2.out.blk
     have z2 : w3.cell? ⟨lb, 2, none⟩ = some (.int .i64 0) := block_cell H2.out.blk
     have z3 : w3.cell? ⟨lb, 3, none⟩ = some (.int .i64 0) := block_cell H2.out.blk
     have z4 : w3.cell? ⟨lb, 4, none⟩ = some (.bool false) := block_cell H2.out.blk
     have z5 : w3.cell? ⟨lb, 5, none⟩ = some (.bool false) := block_cell H2.out.blk
     have z6 : w3.cell? ⟨lb, 6, none⟩ = some (.slice none 0 0) := block_cell H2.out.blk
     have z7 : w3.cell? ⟨lb, 7, none⟩ = some (.slice sk m ck) := block_cell H2.out.blk
     obtain ⟨NN, hNN⟩ : ∃ NN, N ++ M = NN := ⟨_, rfl⟩
     have hrf := H2.out.rf
     rw [hNN] at hrf
     have HND := Lib.hid (node_f w3 lo rb pb _ n c src ig s1.at' false s1.groups nv1 NN hrf ⟨4, 0, 0, 0, false, false, .slice none 0 0, .slice sk m ck, ks⟩ H2.out.kidf (by rw [← hNN, List.length_append]; omega))
     have HNN := Lib.hid hNN
     clear hrf hNN
     go_wp2_with fail
     refine HND.out.mono ?_
     rintro e w9 ⟨rfl, nv', hmv, hr9⟩
     have HMV := Lib.hid (H2.out.mv.trans hmv)
     have HR9 := Lib.hid hr9
     clear hmv hr9 HND
     go_wp2
     go_ret
     rw [HRES.out]
     refine ⟨NN.length, nv', M ++ [⟨4, 0, 0, 0, false, false, .slice none 0 0, .slice sk m ck, ks⟩], rfl, HMV.out, fun x hx => ?_, ?_⟩
     ·
      rcases List.mem_append.mp hx with hx | hx
      · exact H2.out.kge x hx
      ·
       rw [List.mem_singleton] at hx
       exact hx ▸ H2.out.kg
     ·
      have hr9 := HR9.out
      rw [← HNN.out, List.append_assoc] at hr9
      have hnn := HNN.out
      exact ⟨hr9, by rw [← List.append_assoc, hnn]; exact trN_choice rfl (by rw [← hnn]; exact HTL.out), by simp only [List.length_append, List.length_singleton]; omega⟩
   ·
    subst hre
    go_wp2_with fail
    refine (sees_f rb pb sl n c src s1.at' true 92 124 wr H1.out.rf.rd).mono ?_
    rintro e w_ ⟨rfl, m2, rfl⟩
    rw [sees_bad]
    have H2 := Lib.hid (H1.out.drewN m2)
    clear H1
    generalize wr.drewN m2 = w3 at H2 ⊢
    have z0 : w3.cell? ⟨lb, 0, none⟩ = some (.int .i64 4) := block_cell H2.out.blk
    have z1 : w3.cell? ⟨lb, 1, none⟩ = some (.int .i64 0) := block_cell H2.out.blk
    have z2 : w3.cell? ⟨lb, 2, none⟩ = some (.int .i64 0) := block_cell H2.out.blk
    have z3 : w3.cell? ⟨lb, 3, none⟩ = some (.int .i64 0) := block_cell H2.out.blk
    have z4 : w3.cell? ⟨lb, 4, none⟩ = some (.bool false) := block_cell H2.out.blk
    have z5 : w3.cell? ⟨lb, 5, none⟩ = some (.bool false) := block_cell H2.out.blk
    have z6 : w3.cell? ⟨lb, 6, none⟩ = some (.slice none 0 0) := block_cell H2.out.blk
    have z7 : w3.cell? ⟨lb, 7, none⟩ = some (.slice sk m ck) := block_cell H2.out.blk
    obtain ⟨NN, hNN⟩ : ∃ NN, N ++ M = NN := ⟨_, rfl⟩
    have hrf := H2.out.rf
    rw [hNN] at hrf
    have HND := Lib.hid (node_f w3 lo rb pb _ n c src ig s1.at' true s1.groups nv1 NN hrf ⟨4, 0, 0, 0, false, false, .slice none 0 0, .slice sk m ck, ks⟩ H2.out.kidf (by rw [← hNN, List.length_append]; omega))
    have HNN := Lib.hid hNN
    clear hrf hNN
    go_wp2_with fail
    refine HND.out.mono ?_
    rintro e w9 ⟨rfl, nv', hmv, hr9⟩
    have HMV := Lib.hid (H2.out.mv.trans hmv)
    have HR9 := Lib.hid hr9
    clear hmv hr9 HND
    go_wp2
    go_ret
    refine ⟨NN.length, nv', M ++ [⟨4, 0, 0, 0, false, false, .slice none 0 0, .slice sk m ck, ks⟩], rfl, HMV.out, fun x hx => ?_, ?_⟩
    ·
     rcases List.mem_append.mp hx with hx | hx
     · exact H2.out.kge x hx
     ·
      rw [List.mem_singleton] at hx
      exact hx ▸ H2.out.kg
    ·
     have hr9 := HR9.out
     rw [← HNN.out, List.append_assoc] at hr9
     have hnn := HNN.out
     exact ⟨⟨_, hr9⟩, by simp only [List.length_append, List.length_singleton]; omega⟩
 | ok r =>
  obtain ⟨ms, s4⟩ := r
  rw [hmp] at hres
  obtain ⟨hr4, ht4, hl4⟩ := hres
  have hl4 : M4.length ≤ 2 * (s4.at' - s.at') + 1 := hl4
  obtain ⟨on1, on2⟩ := HON.out _ _ hmp
  have hat4 := hr4.rd.at'
  have H4 := Lib.hid (HB.out.call hmv hr4 hkg)
  have HRG := Lib.hid (show contF src fold f0 ([] ++ [.row ms]) s4 = R from by have := HR.out; rw [hmp] at this; exact this)
  have HT4 := Lib.hid (show trL (N ++ ([] ++ M4)) ([] ++ [(k : Int)]) ([] ++ [.row ms]) from by
   rw [← List.append_assoc]
   exact trL.push (by rw [trL]) ht4)
  have hl5 : ([] ++ M4 : List NdF).length ≤ 2 * (s4.at' - s.at') + 1 := by rw [List.nil_append]; exact hl4
  clear hRw hmp hmv hkg hr4 ht4 HR HB
  have l7 : w4.cell? ⟨lb, 7, none⟩ = some (.slice none 0 0) := block_cell H4.out.blk
  have hsz := H4.out.mv.touch.size
  go_wp2_with (first | (at_builtin; refine wpList_push_g Tryd.underlying22 Tryd.infoInt rfl (by decide) (by decide) [.int .i64 k] (by intro u hu; rw [List.mem_singleton] at hu; subst hu; rfl) rfl rfl _ _ rfl w.heap.size (.slice none 0 0) 0 (([] : List Int).map (Value.int .i64)) rfl rfl H4.out.ownm (by omega) (by omega) ?_; intro s' c' w8 hp; have H8 := Lib.hid (H4.out.push hp); have c4 := hp.2.2.1 _ _ _ H4.out.blk (by decide); have c3 : w8.cell? ⟨lb, 7, none⟩ = some (.slice none 0 0) := block_cell c4; have f3 : w8.frozen? ⟨lb, 7, none⟩ = false := block_free c4; clear hp c4))
  have H5 := H8
  generalize w8.setCell ⟨lb, 7, none⟩ (.slice s' (0 + 1) c') = w5 at H8 H5 ⊢
  clear l7 c3 f3 H8
  have HREL := Lib.hid (show RelP w w5 lo rb pb sl n c src ig fold lb (f0 + 1) s.at' nv N R f0 from ⟨s4, false, nv4, _, _, _, _, _, _, H5.out, .inl ⟨rfl, HRG.out, HT4.out, by omega, by omega, on2 hg9, by omega, by omega, hl5⟩⟩)
  clear H5
  go_loopg [] f0 (fun gg wr => RelP w wr lo rb pb sl n c src ig fold lb (f0 + 1) s.at' nv N R gg)
  case atStart => exact HREL.out
  case round =>
   clear HREL
   obtain ⟨s1, bad, nv1, M, sk, m, ck, ks, acc, hrs, hcase⟩ := hrel
   have H1 := Lib.hid hrs
   have hat1 := hrs.rf.rd.at'
   clear hrs
   rcases hcase with ⟨rfl, hcc, htl, hf2, hgF, hg1, hs1, hm, hMl⟩ | ⟨rfl, -, hre, hMl⟩
   ·
    go_wp2_with fail
    refine (sees_f rb pb sl n c src s1.at' false 92 124 wr H1.out.rf.rd).mono ?_
    rintro e w_ ⟨rfl, m2, rfl⟩
    rw [sees_two (by decide)]
    have H2 := Lib.hid (H1.out.drewN m2)
    clear H1
    generalize wr.drewN m2 = w3 at H2 ⊢
    unfold contF at hcc
    have HTL := Lib.hid htl
    clear htl
    by_cases hE : escB src s1.at' 124 = true
    ·
     rw [if_pos hE] at hcc
     rw [hE]
     have hlt := (escB_is.mp hE).1
     obtain ⟨f, rfl⟩ : ∃ f, gk = f + 1 := ⟨gk - 1, by omega⟩
     rw [patP_eq] at hcc
     have HCC := Lib.hid hcc
     have b2 : w3.cell? ⟨rb, 2, none⟩ = some (.int .i64 s1.at') := block_cell H2.out.rf.rd.blk
     have g2 : w3.frozen? ⟨rb, 2, none⟩ = false := block_free H2.out.rf.rd.blk
     have p3 : IntKind.i64.wrap ((s1.at' : Int) + 2) = (s1.at' : Int) + 2 := by rw [IntKind.wrap_i64]; omega
     have hs := H2.out.go 2 (by omega)
     rw [show ((s1.at' + 2 : Nat) : Int) = (s1.at' : Int) + 2 from by omega] at hs
     have H3 := Lib.hid hs
     clear hs hE hcc H2
     go_upto_region 6 with (fail)
     generalize w3.setCell ⟨rb, 2, none⟩ (.int .i64 ((s1.at' : Int) + 2)) = w5 at H3 ⊢
     clear b2 g2 p3
     obtain ⟨s2, hs2⟩ : ∃ s2 : RS, s2 = { s1 with at' := s1.at' + 2 } := ⟨_, rfl⟩
     have ha2 : s2.at' = s1.at' + 2 := by rw [hs2]
     have hgr2 : s2.groups = s1.groups := by rw [hs2]
     rw [← hs2] at HCC
     have H3b := H3
     rw [← ha2, ← hgr2] at H3b
     clear hs2 H3
     have hRw := row_f f w5 lo rb pb sl n c src ig fold s2 nv1 (N ++ M) H3b.out.rf (by rw [List.length_append]; omega) (by omega) (by omega) (fun f' s' w' nv' N' hf' => HM.out f' s' w' nv' N' (by omega))
     have HON := Lib.hid ((reader_on src fold f).2.2.2.1 [] s2)
     go_wp2_with fail
     refine hRw.mono ?_
     rintro e w4 ⟨k, nv4, M4, rfl, hmv, hkg, hres⟩
     cases hmp : memsP src fold f [] s2 with
     | error kk =>
      rw [hmp] at hres
      obtain ⟨⟨g4, hr4⟩, hl4⟩ := hres
      have hl4 : M4.length ≤ 2 * (n - s2.at') + 1 := hl4
      have H4 := Lib.hid (H3b.out.call hmv hr4 hkg)
      have HRB := Lib.hid (show R = .error kk from by have := HCC.out; rw [hmp] at this; exact this.symm)
      have hl5 : (M ++ M4).length ≤ 2 * (n - s.at') + 1 := by rw [List.length_append]; omega
      clear hRw hmp hmv hkg hr4 HCC H3b HTL
      have l7 : w4.cell? ⟨lb, 7, none⟩ = some (.slice sk m ck) := block_cell H4.out.blk
      have hsz := H4.out.mv.touch.size
      go_wp2_with (first | (at_builtin; refine wpList_push_g Tryd.underlying22 Tryd.infoInt rfl (by decide) (by decide) [.int .i64 k] (by intro u hu; rw [List.mem_singleton] at hu; subst hu; rfl) rfl rfl _ _ rfl w.heap.size (.slice sk m ck) m (ks.map (Value.int .i64)) rfl rfl H4.out.ownm (by omega) (by omega) ?_; intro s' c' w8 hp; have H8 := Lib.hid (H4.out.push hp); have c4 := hp.2.2.1 _ _ _ H4.out.blk (by decide); have c3 : w8.cell? ⟨lb, 7, none⟩ = some (.slice sk m ck) := block_cell c4; have f3 : w8.frozen? ⟨lb, 7, none⟩ = false := block_free c4; clear hp c4))
      have H6 := H8
      generalize w8.setCell ⟨lb, 7, none⟩ (.slice s' (m + 1) c') = w6 at H8 H6 ⊢
      clear l7 c3 f3 H8
      go_roundg 0
      case measure => omega
      case rel => exact ⟨⟨kk, g4⟩, true, nv4, _, _, _, _, _, [], H6.out, .inr ⟨rfl, rfl, HRB.out, hl5⟩⟩
     | ok r =>
      obtain ⟨ms, s4⟩ := r
      rw [hmp] at hres
      obtain ⟨hr4, ht4, hl4⟩ := hres
      have hl4 : M4.length ≤ 2 * (s4.at' - s2.at') + 1 := hl4
      obtain ⟨on1, on2⟩ := HON.out _ _ hmp
      have hat4 := hr4.rd.at'
      have H4 := Lib.hid (H3b.out.call hmv hr4 hkg)
      have HRG := Lib.hid (show contF src fold f (acc ++ [.row ms]) s4 = R from by have := HCC.out; rw [hmp] at this; exact this)
      have HT4 := Lib.hid (show trL (N ++ (M ++ M4)) (ks ++ [(k : Int)]) (acc ++ [.row ms]) from by
       rw [← List.append_assoc]
       exact trL.push (trL.more _ M4 _ _ HTL.out) ht4)
      have hl5 : (M ++ M4).length ≤ 2 * (s4.at' - s.at') + 1 := by rw [List.length_append]; omega
      have hg4 := on2 (by omega)
      clear hRw hmp hmv hkg hr4 ht4 HCC H3b HTL
      have l7 : w4.cell? ⟨lb, 7, none⟩ = some (.slice sk m ck) := block_cell H4.out.blk
      have hsz := H4.out.mv.touch.size
      go_wp2_with (first | (at_builtin; refine wpList_push_g Tryd.underlying22 Tryd.infoInt rfl (by decide) (by decide) [.int .i64 k] (by intro u hu; rw [List.mem_singleton] at hu; subst hu; rfl) rfl rfl _ _ rfl w.heap.size (.slice sk m ck) m (ks.map (Value.int .i64)) rfl rfl H4.out.ownm (by omega) (by omega) ?_; intro s' c' w8 hp; have H8 := Lib.hid (H4.out.push hp); have c4 := hp.2.2.1 _ _ _ H4.out.blk (by decide); have c3 : w8.cell? ⟨lb, 7, none⟩ = some (.slice sk m ck) := block_cell c4; have f3 : w8.frozen? ⟨lb, 7, none⟩ = false := block_free c4; clear hp c4))
      have H6 := H8
      generalize w8.setCell ⟨lb, 7, none⟩ (.slice s' (m + 1) c') = w6 at H8 H6 ⊢
      clear l7 c3 f3 H8
      go_roundg f
      case measure => omega
      case rel => exact ⟨s4, false, nv4, _, _, _, _, _, _, H6.out, .inl ⟨rfl, HRG.out, HT4.out, by omega, by omega, hg4, by omega, by omega, hl5⟩⟩
    ·
     rw [if_neg hE] at hcc
     rw [Bool.eq_false_iff.mpr hE]
     have HRES := Lib.hid hcc.symm
     clear hE hcc
     have z0 : w3.cell? ⟨lb, 0, none⟩ = some (.int .i64 4) := block_cell H2.out.blk
     have z1 : w3.cell? ⟨lb, 1, none⟩ = some (.int .i64 0) := block_cell H2.out.blk
     have z2 : w3.cell? ⟨lb, 2, none⟩ = some (.int .i64 0) := block_cell H2.out.blk
     have z3 : w3.cell? ⟨lb, 3, none⟩ = some (.int .i64 0) := block_cell H2.out.blk
     have z4 : w3.cell? ⟨lb, 4, none⟩ = some (.bool false) := block_cell H2.out.blk
     have z5 : w3.cell? ⟨lb, 5, none⟩ = some (.bool false) := block_cell H2.out.blk
     have z6 : w3.cell? ⟨lb, 6, none⟩ = some (.slice none 0 0) := block_cell H2.out.blk
     have z7 : w3.cell? ⟨lb, 7, none⟩ = some (.slice sk m ck) := block_cell H2.out.blk
     obtain ⟨NN, hNN⟩ : ∃ NN, N ++ M = NN := ⟨_, rfl⟩
     have hrf := H2.out.rf
     rw [hNN] at hrf
     have HND := Lib.hid (node_f w3 lo rb pb _ n c src ig s1.at' false s1.groups nv1 NN hrf ⟨4, 0, 0, 0, false, false, .slice none 0 0, .slice sk m ck, ks⟩ H2.out.kidf (by rw [← hNN, List.length_append]; omega))
     have HNN := Lib.hid hNN
     clear hrf hNN
     go_wp2_with fail
     refine HND.out.mono ?_
     rintro e w9 ⟨rfl, nv', hmv, hr9⟩
     have HMV := Lib.hid (H2.out.mv.trans hmv)
     have HR9 := Lib.hid hr9
     clear hmv hr9 HND
     go_wp2
     go_ret
     rw [HRES.out]
     refine ⟨NN.length, nv', M ++ [⟨4, 0, 0, 0, false, false, .slice none 0 0, .slice sk m ck, ks⟩], rfl, HMV.out, fun x hx => ?_, ?_⟩
     ·
      rcases List.mem_append.mp hx with hx | hx
      · exact H2.out.kge x hx
      ·
       rw [List.mem_singleton] at hx
       exact hx ▸ H2.out.kg
     ·
      have hr9 := HR9.out
      rw [← HNN.out, List.append_assoc] at hr9
      have hnn := HNN.out
      exact ⟨hr9, by rw [← List.append_assoc, hnn]; exact trN_choice rfl (by rw [← hnn]; exact HTL.out), by simp only [List.length_append, List.length_singleton]; omega⟩
   ·
    subst hre
    go_wp2_with fail
    refine (sees_f rb pb sl n c src s1.at' true 92 124 wr H1.out.rf.rd).mono ?_
    rintro e w_ ⟨rfl, m2, rfl⟩
    rw [sees_bad]
    have H2 := Lib.hid (H1.out.drewN m2)
    clear H1
    generalize wr.drewN m2 = w3 at H2 ⊢
    have z0 : w3.cell? ⟨lb, 0, none⟩ = some (.int .i64 4) := block_cell H2.out.blk
    have z1 : w3.cell? ⟨lb, 1, none⟩ = some (.int .i64 0) := block_cell H2.out.blk
    have z2 : w3.cell? ⟨lb, 2, none⟩ = some (.int .i64 0) := block_cell H2.out.blk
    have z3 : w3.cell? ⟨lb, 3, none⟩ = some (.int .i64 0) := block_cell H2.out.blk
    have z4 : w3.cell? ⟨lb, 4, none⟩ = some (.bool false) := block_cell H2.out.blk
    have z5 : w3.cell? ⟨lb, 5, none⟩ = some (.bool false) := block_cell H2.out.blk
    have z6 : w3.cell? ⟨lb, 6, none⟩ = some (.slice none 0 0) := block_cell H2.out.blk
    have z7 : w3.cell? ⟨lb, 7, none⟩ = some (.slice sk m ck) := block_cell H2.out.blk
    obtain ⟨NN, hNN⟩ : ∃ NN, N ++ M = NN := ⟨_, rfl⟩
    have hrf := H2.out.rf
    rw [hNN] at hrf
    have HND := Lib.hid (node_f w3 lo rb pb _ n c src ig s1.at' true s1.groups nv1 NN hrf ⟨4, 0, 0, 0, false, false, .slice none 0 0, .slice sk m ck, ks⟩ H2.out.kidf (by rw [← hNN, List.length_append]; omega))
    have HNN := Lib.hid hNN
    clear hrf hNN
    go_wp2_with fail
    refine HND.out.mono ?_
    rintro e w9 ⟨rfl, nv', hmv, hr9⟩
    have HMV := Lib.hid (H2.out.mv.trans hmv)
    have HR9 := Lib.hid hr9
    clear hmv hr9 HND
    go_wp2
    go_ret
    refine ⟨NN.length, nv', M ++ [⟨4, 0, 0, 0, false, false, .slice none 0 0, .slice sk m ck, ks⟩], rfl, HMV.out, fun x hx => ?_, ?_⟩
    ·
     rcases List.mem_append.mp hx with hx | hx
     · exact H2.out.kge x hx
     ·
      rw [List.mem_singleton] at hx
      exact hx ▸ H2.out.kg
    ·
     have hr9 := HR9.out
     rw [← HNN.out, List.append_assoc] at hr9
     have hnn := HNN.out
     exact ⟨⟨_, hr9⟩, by simp only [List.length_append, List.length_singleton]; omega⟩
end Go.Proofs.YtdegdoilpamjjaaDoor
namespace Go.Proofs.YtdegdoilpamjjaaDoor
open Go.RowKit
set_option linter.unusedVariables false
set_option linter.unusedSimpArgs false
theorem trN_group {N : List NdF} {x : NdF} {j : Nat} {nd : Nd} {g : Int} (h : x.kind = 5) (hg : x.group = g) (hk : x.kids = [(j : Int)]) (ht : trN N j nd) : trN (N ++ [x]) N.length (.group nd g) := by
 rw [trN]
 exact ⟨x, List.getElem?_concat_length, h, hg, j, hk, trN.more N _ nd j ht⟩
set_option maxRecDepth 100000 in
set_option maxHeartbeats 32000000 in
theorem grouped_t (F : Nat) (w : World) (lo rb pb : Nat) (sl : Option Addr) (n c : Nat) (src : List Int) (ig fold : Bool) (s : RS) (nv : Value) (N : List NdF) (h : RfM w lo rb pb sl n c src ig s.at' false s.groups nv N) (hlt : s.at' + 2 ≤ n) (hN : N.length + 2 * (n - s.at') < 90000) (hF : 4 * (n - (s.at' + 2)) + 9 ≤ F) (hg9 : s.groups ≤ 9) (hM : MemF lo rb pb sl n c src ig fold (F - 1)) :
  Calls Tryd.prog 90 #[.pointer (some ⟨rb, 0, none⟩), .bool true, .int .i64 2] w (NdP w lo rb pb sl n c src ig nv N w.heap.size (fun a => 2 * (a - s.at') - 1) ((if s.groups = 9 then .error (s.at' + 1) else insP src fold F (s.groups + 1 : Nat) { at' := s.at' + 2, groups := s.groups + 1 })) (fun N' x k => trN N' k x)) := by
 obtain ⟨f, rfl⟩ : ∃ f, F = f + 1 := ⟨F - 1, by omega⟩
 rw [Nat.add_sub_cancel] at hM
 obtain ⟨a, g⟩ := s
 simp only at h hlt hN hF hg9 ⊢
 obtain ⟨R, hR⟩ : ∃ R : RR Nd, (if g = 9 then .error (a + 1) else insP src fold (f + 1) (g + 1 : Nat) { at' := a + 2, groups := g + 1 }) = R := ⟨_, rfl⟩
 rw [hR]
 have hn30 := h.rd.n30
 have hlen := h.rd.len
 have HR := Lib.hid hR
 have HM := Lib.hid hM
 have ob := below_newJ w (.cells #[.int .i64 0, .int .i64 0, .int .i64 0, .int .i64 0, .bool false, .bool false, .slice none 0 0, .slice none 0 0] 138)
 have oo := one_new w (.cells #[.int .i64 0, .int .i64 0, .int .i64 0, .int .i64 0, .bool false, .bool false, .slice none 0 0, .slice none 0 0] 138)
 obtain ⟨lb, hlb⟩ : ∃ lb, w.heap.size = lb := ⟨_, rfl⟩
 generalize hw1 : w.alloc (.cells #[.int .i64 0, .int .i64 0, .int .i64 0, .int .i64 0, .bool false, .bool false, .slice none 0 0, .slice none 0 0] 138) = w1 at ob oo
 rw [hlb] at oo
 have PO := Lib.hid oo
 have HB := Lib.hid (show RowS w (w1.setRow lb #[.int .i64 (5), .int .i64 (0), .int .i64 (0), .int .i64 (0), .bool false, .bool false, .slice none 0 0, .slice none 0 0]) lo rb pb sl n c src ig lb 5 0 a false g nv nv N [] none 0 0 [] from by
  have := RowS.begin (kd := 5) h (w1.setRow lb #[.int .i64 (5), .int .i64 (0), .int .i64 (0), .int .i64 (0), .bool false, .bool false, .slice none 0 0, .slice none 0 0]) (ob.trans (row_belowg _ (by omega))) (by rw [hlb]; exact row_setg #[.int .i64 (5), .int .i64 (0), .int .i64 (0), .int .i64 (0), .bool false, .bool false, .slice none 0 0, .slice none 0 0] oo)
  rwa [hlb] at this)
 have H0 := Lib.hid h
 clear ob oo h hR hM
 go_enter Tryd.func90, Tryd.ntmps90
 go_upto_region 2 with (refine wpList_store_row rfl 138 _ _ rfl lb #[.int .i64 (5), .int .i64 (0), .int .i64 (0), .int .i64 (0), .bool false, .bool false, .slice none 0 0, .slice none 0 0] rfl rfl _ _ PO.out fnode_info rfl (fnode_all _ _ _ _ _ _ _ _ _ _ _ _) ?_)
 generalize w1.setRow lb #[.int .i64 (5), .int .i64 (0), .int .i64 (0), .int .i64 (0), .bool false, .bool false, .slice none 0 0, .slice none 0 0] = w2 at HB ⊢
 clear hw1 PO
 have p0 : w2.cell? ⟨rb, 0, none⟩ = some (.pointer (some ⟨pb, 0, none⟩)) := block_cell HB.out.rf.rd.blk
 have p2 : w2.cell? ⟨pb, 2, none⟩ = some (.int .i64 g) := block_cell HB.out.rf.pbk
 by_cases hg : g = 9
 ·
  subst hg
  have hr := HR.out
  rw [if_pos rfl] at hr
  subst hr
  have b2 : w2.cell? ⟨rb, 2, none⟩ = some (.int .i64 a) := block_cell HB.out.rf.rd.blk
  have q1 : (((9 : Nat) : Int) == 9) = true := rfl
  have p3 : IntKind.i64.wrap ((a : Int) + 1) = ((a + 1 : Nat) : Int) := by rw [IntKind.wrap_i64]; omega
  clear HR
  go_wp2_with fail
  refine (fail_f rb pb sl n c src a (a + 1) (by omega) w2 HB.out.rf.rd).mono ?_
  rintro e w5 ⟨rfl, t5, f5⟩
  have hrf := HB.out.rf.at_ t5 f5
  have hmv := HB.out.mv.trans (Mv.of (nv := nv) (pb := pb) t5)
  rw [List.append_nil] at hrf
  have HRF := Lib.hid hrf
  have HMV := Lib.hid hmv
  clear t5 f5 hrf hmv
  go_wp2
  go_ret
  exact NdP.err _ HMV.out HRF.out
 have hr := HR.out
 rw [if_neg hg] at hr
 have HR2 := Lib.hid hr
 have q1 : ((g : Int) == 9) = false := by
  rw [beq_eq_false_iff_ne]
  omega
 have q2 : ¬ (g : Int) = 9 := by omega
 have p4 : IntKind.i64.wrap ((g : Int) + 1) = (g : Int) + 1 := by rw [IntKind.wrap_i64]; omega
 have g2 : w2.frozen? ⟨pb, 2, none⟩ = false := block_free HB.out.rf.pbk
 have hs := HB.out.grp (g + 1)
 rw [show ((g + 1 : Nat) : Int) = (g : Int) + 1 from by omega] at hs
 have HB2 := Lib.hid hs
 clear hr HR hs HB
 go_upto_region 6 with (fail)
 generalize w2.setCell ⟨pb, 2, none⟩ (.int .i64 ((g : Int) + 1)) = w3 at HB2 ⊢
 clear p0 p2 p4 g2
 have p0 : w3.cell? ⟨rb, 0, none⟩ = some (.pointer (some ⟨pb, 0, none⟩)) := block_cell HB2.out.rf.rd.blk
 have p2 : w3.cell? ⟨pb, 2, none⟩ = some (.int .i64 ((g : Int) + 1)) := by
  have h2 : w3.cell? ⟨pb, 2, none⟩ = some (.int .i64 ((g + 1 : Nat) : Int)) := block_cell HB2.out.rf.pbk
  rw [h2]
  rfl
 have y1 : w3.cell? ⟨lb, 1, none⟩ = some (.int .i64 0) := block_cell HB2.out.blk
 have g1 : w3.frozen? ⟨lb, 1, none⟩ = false := block_free HB2.out.blk
 have HB3 := Lib.hid (HB2.out.setl ((g : Int) + 1))
 go_upto_region 7 with (fail)
 generalize w3.setCell ⟨lb, 1, none⟩ (.int .i64 ((g : Int) + 1)) = w4 at HB3 ⊢
 clear p0 p2 y1 g1 HB2
 have b2 : w4.cell? ⟨rb, 2, none⟩ = some (.int .i64 a) := block_cell HB3.out.rf.rd.blk
 have g2 : w4.frozen? ⟨rb, 2, none⟩ = false := block_free HB3.out.rf.rd.blk
 have p3 : IntKind.i64.wrap ((a : Int) + 2) = (a : Int) + 2 := by rw [IntKind.wrap_i64]; omega
 have hs := HB3.out.go 2 (by omega)
 rw [show ((a + 2 : Nat) : Int) = (a : Int) + 2 from by omega] at hs
 have HB4 := Lib.hid hs
 clear hs HB3
 go_upto_region 8 with (fail)
 generalize w4.setCell ⟨rb, 2, none⟩ (.int .i64 ((a : Int) + 2)) = w5 at HB4 ⊢
 clear b2 g2 p3
 have hPt := pattern_f f w5 lo rb pb sl n c src ig fold ⟨a + 2, (g + 1)⟩ nv (N ++ []) HB4.out.rf (by simp only [List.length_append, List.length_nil]; omega) (by show 4 * (n - (a + 2)) + 8 ≤ f; omega) (by show (g + 1) ≤ 9; omega) HM.out
 have HON := Lib.hid ((reader_on src fold f).2.2.2.2 [] ⟨a + 2, (g + 1)⟩)
 go_wp2_with fail
 refine hPt.mono ?_
 rintro e w6 ⟨k, nv4, M4, rfl, hmv, hkg, hres⟩
 have hr2 := HR2.out
 rw [insP_eq] at hr2
 cases hmp : patP src fold f [] ⟨a + 2, (g + 1)⟩ with
 | error kk =>
  rw [hmp] at hres hr2
  obtain ⟨⟨g4, hr4⟩, hl4⟩ := hres
  have hl4 : M4.length ≤ 2 * (n - (a + 2)) + 2 := hl4
  have H6 := Lib.hid (HB4.out.call hmv hr4 hkg)
  have HRE := Lib.hid (show R = .error kk from hr2.symm)
  have r3 : w6.cell? ⟨rb, 3, none⟩ = some (.bool true) := block_cell hr4.rd.blk
  clear hPt hmp hmv hkg hr4 hr2 HR2 HB4
  go_wp2
  go_ret
  rw [HRE.out]
  have hrf := H6.out.rf
  rw [List.nil_append] at hrf
  exact ⟨0, nv4, M4, rfl, H6.out.mv, fun x hx => H6.out.kge x (by rw [List.nil_append]; exact hx), ⟨_, hrf⟩, by simp only; omega⟩
 | ok r =>
  obtain ⟨x, s4⟩ := r
  rw [hmp] at hres hr2
  obtain ⟨hr4, ht4, hl4⟩ := hres
  obtain ⟨on1, on2⟩ := HON.out _ _ hmp
  have on1 : a + 2 ≤ s4.at' := by have := on1; simp only at this; omega
  have hl4 : M4.length ≤ 2 * (s4.at' - (a + 2)) + 2 := hl4
  have H6 := Lib.hid (HB4.out.call hmv hr4 hkg)
  have HT4 := Lib.hid (show trN (N ++ M4) k x from by have := ht4; rw [List.append_nil] at this; exact this)
  have hat4 := hr4.rd.at'
  have r3 : w6.cell? ⟨rb, 3, none⟩ = some (.bool false) := block_cell hr4.rd.blk
  have HR3 := Lib.hid (show (if escB src s4.at' 41 then .ok (.group x ((g + 1 : Nat) : Int), { s4 with at' := s4.at' + 2 }) else .error src.length) = R from hr2)
  clear hPt hmp hmv hkg hr4 hr2 HR2 HB4 ht4
  go_wp2_with fail
  refine (sees_f rb pb sl n c src s4.at' false 92 41 w6 H6.out.rf.rd).mono ?_
  rintro e w_ ⟨rfl, m2, rfl⟩
  rw [sees_two (by decide)]
  have H7 := Lib.hid (H6.out.drewN m2)
  clear H6 r3
  generalize w6.drewN m2 = w7 at H7 ⊢
  by_cases hE : escB src s4.at' 41 = true
  ·
   have hr3 := HR3.out
   rw [if_pos hE] at hr3
   rw [hE]
   have hlt4 := (escB_is.mp hE).1
   have HRE := Lib.hid hr3.symm
   have b2 : w7.cell? ⟨rb, 2, none⟩ = some (.int .i64 s4.at') := block_cell H7.out.rf.rd.blk
   have g2 : w7.frozen? ⟨rb, 2, none⟩ = false := block_free H7.out.rf.rd.blk
   have p3 : IntKind.i64.wrap ((s4.at' : Int) + 2) = (s4.at' : Int) + 2 := by rw [IntKind.wrap_i64]; omega
   have hs := H7.out.go 2 (by omega)
   rw [show ((s4.at' + 2 : Nat) : Int) = (s4.at' : Int) + 2 from by omega] at hs
   have H8 := Lib.hid hs
   clear hs hE hr3 H7 HR3
   go_upto_region 15 with (fail)
   generalize w7.setCell ⟨rb, 2, none⟩ (.int .i64 ((s4.at' : Int) + 2)) = w8 at H8 ⊢
   clear b2 g2 p3
   have H9 := Lib.hid (H8.out.kid1 (k : Int))
   obtain ⟨ib, hib⟩ : ∃ ib, w8.heap.size = ib := ⟨_, rfl⟩
   rw [hib] at H9
   have nb := below_newJ w8 (.cells #[.int .i64 (k : Int)] 3)
   have lN : (w8.alloc (.cells #[.int .i64 (k : Int)] 3)).heap[lb]? = _ := (nb.block lb (heap_lt H8.out.blk)).trans H8.out.blk
   generalize hwN : w8.alloc (.cells #[.int .i64 (k : Int)] 3) = wN at H9 lN
   have y7 : wN.cell? ⟨lb, 7, none⟩ = some (.slice none 0 0) := block_cell lN
   have g7 : wN.frozen? ⟨lb, 7, none⟩ = false := block_free lN
   clear lN nb H8
   go_upto_region 16 with (fail)
   generalize wN.setCell ⟨lb, 7, none⟩ (.slice (some ⟨ib, 0, none⟩) 1 1) = wM at H9 ⊢
   clear y7 g7 hwN hib
   have z0 : wM.cell? ⟨lb, 0, none⟩ = some (.int .i64 5) := block_cell H9.out.blk
   have z1 : wM.cell? ⟨lb, 1, none⟩ = some (.int .i64 ((g : Int) + 1)) := block_cell H9.out.blk
   have z2 : wM.cell? ⟨lb, 2, none⟩ = some (.int .i64 0) := block_cell H9.out.blk
   have z3 : wM.cell? ⟨lb, 3, none⟩ = some (.int .i64 0) := block_cell H9.out.blk
   have z4 : wM.cell? ⟨lb, 4, none⟩ = some (.bool false) := block_cell H9.out.blk
   have z5 : wM.cell? ⟨lb, 5, none⟩ = some (.bool false) := block_cell H9.out.blk
   have z6 : wM.cell? ⟨lb, 6, none⟩ = some (.slice none 0 0) := block_cell H9.out.blk
   have z7 : wM.cell? ⟨lb, 7, none⟩ = some (.slice (some ⟨ib, 0, none⟩) 1 1) := block_cell H9.out.blk
   obtain ⟨NN, hNN⟩ : ∃ NN, N ++ ([] ++ M4) = NN := ⟨_, rfl⟩
   have hrf := H9.out.rf
   rw [hNN] at hrf
   have HND := Lib.hid (node_f wM lo rb pb _ n c src ig (s4.at' + 2) false s4.groups nv4 NN hrf ⟨5, (g : Int) + 1, 0, 0, false, false, .slice none 0 0, .slice (some ⟨ib, 0, none⟩) 1 1, [(k : Int)]⟩ H9.out.kidf (by rw [← hNN]; simp only [List.length_append, List.length_nil]; omega))
   have HNN := Lib.hid hNN
   clear hrf hNN
   go_wp2_with fail
   refine HND.out.mono ?_
   rintro e w9 ⟨rfl, nv', hmv, hr9⟩
   have HMV := Lib.hid (H9.out.mv.trans hmv)
   have HR9 := Lib.hid hr9
   clear hmv hr9 HND
   go_wp2
   go_ret
   rw [HRE.out]
   refine ⟨NN.length, nv', M4 ++ [⟨5, (g : Int) + 1, 0, 0, false, false, .slice none 0 0, .slice (some ⟨ib, 0, none⟩) 1 1, [(k : Int)]⟩], rfl, HMV.out, fun x hx => ?_, ?_⟩
   ·
    rcases List.mem_append.mp hx with hx | hx
    · exact H9.out.kge x (by rw [List.nil_append]; exact hx)
    ·
     rw [List.mem_singleton] at hx
     exact hx ▸ H9.out.kg
   ·
    have hr9 := HR9.out
    have hnn := HNN.out
    rw [List.nil_append] at hnn
    rw [← hnn, List.append_assoc] at hr9
    exact ⟨hr9, by rw [← List.append_assoc, hnn]; exact trN_group rfl rfl rfl (by rw [← hnn]; exact HT4.out), by simp only [List.length_append, List.length_singleton]; omega⟩
  ·
   have hr3 := HR3.out
   rw [if_neg hE] at hr3
   rw [Bool.eq_false_iff.mpr hE]
   rw [hlen] at hr3
   have HRE := Lib.hid hr3.symm
   have r1 : w7.cell? ⟨rb, 1, none⟩ = some (.slice sl n c) := block_cell H7.out.rf.rd.blk
   clear hr3 HR3 hE
   go_wp2_with fail
   refine (fail_f rb pb sl n c src s4.at' n (Nat.le_refl _) w7 H7.out.rf.rd).mono ?_
   rintro e w9 ⟨rfl, t9, f9⟩
   have hrf := H7.out.rf.at_ t9 f9
   rw [List.nil_append] at hrf
   have HRF := Lib.hid hrf
   have HMV := Lib.hid (H7.out.mv.trans (Mv.of (nv := nv4) (pb := pb) t9))
   clear t9 f9 hrf
   go_wp2
   go_ret
   rw [HRE.out]
   exact ⟨0, nv4, M4, rfl, HMV.out, fun x hx => H7.out.kge x (by rw [List.nil_append]; exact hx), ⟨_, HRF.out⟩, by simp only; omega⟩
set_option maxRecDepth 100000 in
set_option maxHeartbeats 32000000 in
theorem grouped_n (F : Nat) (w : World) (lo rb pb : Nat) (sl : Option Addr) (n c : Nat) (src : List Int) (ig fold : Bool) (s : RS) (nv : Value) (N : List NdF) (h : RfM w lo rb pb sl n c src ig s.at' false s.groups nv N) (hlt : s.at' + 3 ≤ n) (hN : N.length + 2 * (n - s.at') < 90000) (hF : 4 * (n - (s.at' + 3)) + 9 ≤ F) (hg9 : s.groups ≤ 9) (hM : MemF lo rb pb sl n c src ig fold (F - 1)) :
  Calls Tryd.prog 90 #[.pointer (some ⟨rb, 0, none⟩), .bool false, .int .i64 3] w (NdP w lo rb pb sl n c src ig nv N w.heap.size (fun a => 2 * (a - s.at') - 1) (insP src fold F 0 { at' := s.at' + 3, groups := s.groups }) (fun N' x k => trN N' k x)) := by
 obtain ⟨f, rfl⟩ : ∃ f, F = f + 1 := ⟨F - 1, by omega⟩
 rw [Nat.add_sub_cancel] at hM
 obtain ⟨a, g⟩ := s
 simp only at h hlt hN hF hg9 ⊢
 obtain ⟨R, hR⟩ : ∃ R, insP src fold (f + 1) 0 { at' := a + 3, groups := g } = R := ⟨_, rfl⟩
 rw [hR]
 have hn30 := h.rd.n30
 have hlen := h.rd.len
 have HR := Lib.hid hR
 have HM := Lib.hid hM
 have ob := below_newJ w (.cells #[.int .i64 0, .int .i64 0, .int .i64 0, .int .i64 0, .bool false, .bool false, .slice none 0 0, .slice none 0 0] 138)
 have oo := one_new w (.cells #[.int .i64 0, .int .i64 0, .int .i64 0, .int .i64 0, .bool false, .bool false, .slice none 0 0, .slice none 0 0] 138)
 obtain ⟨lb, hlb⟩ : ∃ lb, w.heap.size = lb := ⟨_, rfl⟩
 generalize hw1 : w.alloc (.cells #[.int .i64 0, .int .i64 0, .int .i64 0, .int .i64 0, .bool false, .bool false, .slice none 0 0, .slice none 0 0] 138) = w1 at ob oo
 rw [hlb] at oo
 have PO := Lib.hid oo
 have HB := Lib.hid (show RowS w (w1.setRow lb #[.int .i64 (5), .int .i64 (0), .int .i64 (0), .int .i64 (0), .bool false, .bool false, .slice none 0 0, .slice none 0 0]) lo rb pb sl n c src ig lb 5 0 a false g nv nv N [] none 0 0 [] from by
  have := RowS.begin (kd := 5) h (w1.setRow lb #[.int .i64 (5), .int .i64 (0), .int .i64 (0), .int .i64 (0), .bool false, .bool false, .slice none 0 0, .slice none 0 0]) (ob.trans (row_belowg _ (by omega))) (by rw [hlb]; exact row_setg #[.int .i64 (5), .int .i64 (0), .int .i64 (0), .int .i64 (0), .bool false, .bool false, .slice none 0 0, .slice none 0 0] oo)
  rwa [hlb] at this)
 have H0 := Lib.hid h
 clear ob oo h hR hM
 go_enter Tryd.func90, Tryd.ntmps90
 go_upto_region 2 with (refine wpList_store_row rfl 138 _ _ rfl lb #[.int .i64 (5), .int .i64 (0), .int .i64 (0), .int .i64 (0), .bool false, .bool false, .slice none 0 0, .slice none 0 0] rfl rfl _ _ PO.out fnode_info rfl (fnode_all _ _ _ _ _ _ _ _ _ _ _ _) ?_)
 generalize w1.setRow lb #[.int .i64 (5), .int .i64 (0), .int .i64 (0), .int .i64 (0), .bool false, .bool false, .slice none 0 0, .slice none 0 0] = w2 at HB ⊢
 clear hw1 PO
 have p0 : w2.cell? ⟨rb, 0, none⟩ = some (.pointer (some ⟨pb, 0, none⟩)) := block_cell HB.out.rf.rd.blk
 have p2 : w2.cell? ⟨pb, 2, none⟩ = some (.int .i64 g) := block_cell HB.out.rf.pbk
 have HR2 := HR
 have HB3 := HB
 clear HR HB p0 p2
 go_upto_region 7 with (fail)
 obtain ⟨w4, hw4⟩ : ∃ w4, w4 = w2 := ⟨_, rfl⟩
 rw [← hw4] at HB3 ⊢
 clear hw4
 have b2 : w4.cell? ⟨rb, 2, none⟩ = some (.int .i64 a) := block_cell HB3.out.rf.rd.blk
 have g2 : w4.frozen? ⟨rb, 2, none⟩ = false := block_free HB3.out.rf.rd.blk
 have p3 : IntKind.i64.wrap ((a : Int) + 3) = (a : Int) + 3 := by rw [IntKind.wrap_i64]; omega
 have hs := HB3.out.go 3 (by omega)
 rw [show ((a + 3 : Nat) : Int) = (a : Int) + 3 from by omega] at hs
 have HB4 := Lib.hid hs
 clear hs HB3
 go_upto_region 8 with (fail)
 generalize w4.setCell ⟨rb, 2, none⟩ (.int .i64 ((a : Int) + 3)) = w5 at HB4 ⊢
 clear b2 g2 p3
 have hPt := pattern_f f w5 lo rb pb sl n c src ig fold ⟨a + 3, g⟩ nv (N ++ []) HB4.out.rf (by simp only [List.length_append, List.length_nil]; omega) (by show 4 * (n - (a + 3)) + 8 ≤ f; omega) (by show g ≤ 9; omega) HM.out
 have HON := Lib.hid ((reader_on src fold f).2.2.2.2 [] ⟨a + 3, g⟩)
 go_wp2_with fail
 refine hPt.mono ?_
 rintro e w6 ⟨k, nv4, M4, rfl, hmv, hkg, hres⟩
 have hr2 := HR2.out
 rw [insP_eq] at hr2
 cases hmp : patP src fold f [] ⟨a + 3, g⟩ with
 | error kk =>
  rw [hmp] at hres hr2
  obtain ⟨⟨g4, hr4⟩, hl4⟩ := hres
  have hl4 : M4.length ≤ 2 * (n - (a + 3)) + 2 := hl4
  have H6 := Lib.hid (HB4.out.call hmv hr4 hkg)
  have HRE := Lib.hid (show R = .error kk from hr2.symm)
  have r3 : w6.cell? ⟨rb, 3, none⟩ = some (.bool true) := block_cell hr4.rd.blk
  clear hPt hmp hmv hkg hr4 hr2 HR2 HB4
  go_wp2
  go_ret
  rw [HRE.out]
  have hrf := H6.out.rf
  rw [List.nil_append] at hrf
  exact ⟨0, nv4, M4, rfl, H6.out.mv, fun x hx => H6.out.kge x (by rw [List.nil_append]; exact hx), ⟨_, hrf⟩, by simp only; omega⟩
 | ok r =>
  obtain ⟨x, s4⟩ := r
  rw [hmp] at hres hr2
  obtain ⟨hr4, ht4, hl4⟩ := hres
  obtain ⟨on1, on2⟩ := HON.out _ _ hmp
  have on1 : a + 3 ≤ s4.at' := by have := on1; simp only at this; omega
  have hl4 : M4.length ≤ 2 * (s4.at' - (a + 3)) + 2 := hl4
  have H6 := Lib.hid (HB4.out.call hmv hr4 hkg)
  have HT4 := Lib.hid (show trN (N ++ M4) k x from by have := ht4; rw [List.append_nil] at this; exact this)
  have hat4 := hr4.rd.at'
  have r3 : w6.cell? ⟨rb, 3, none⟩ = some (.bool false) := block_cell hr4.rd.blk
  have HR3 := Lib.hid (show (if escB src s4.at' 41 then .ok (.group x 0, { s4 with at' := s4.at' + 2 }) else .error src.length) = R from hr2)
  clear hPt hmp hmv hkg hr4 hr2 HR2 HB4 ht4
  go_wp2_with fail
  refine (sees_f rb pb sl n c src s4.at' false 92 41 w6 H6.out.rf.rd).mono ?_
  rintro e w_ ⟨rfl, m2, rfl⟩
  rw [sees_two (by decide)]
  have H7 := Lib.hid (H6.out.drewN m2)
  clear H6 r3
  generalize w6.drewN m2 = w7 at H7 ⊢
  by_cases hE : escB src s4.at' 41 = true
  ·
   have hr3 := HR3.out
   rw [if_pos hE] at hr3
   rw [hE]
   have hlt4 := (escB_is.mp hE).1
   have HRE := Lib.hid hr3.symm
   have b2 : w7.cell? ⟨rb, 2, none⟩ = some (.int .i64 s4.at') := block_cell H7.out.rf.rd.blk
   have g2 : w7.frozen? ⟨rb, 2, none⟩ = false := block_free H7.out.rf.rd.blk
   have p3 : IntKind.i64.wrap ((s4.at' : Int) + 2) = (s4.at' : Int) + 2 := by rw [IntKind.wrap_i64]; omega
   have hs := H7.out.go 2 (by omega)
   rw [show ((s4.at' + 2 : Nat) : Int) = (s4.at' : Int) + 2 from by omega] at hs
   have H8 := Lib.hid hs
   clear hs hE hr3 H7 HR3
   go_upto_region 15 with (fail)
   generalize w7.setCell ⟨rb, 2, none⟩ (.int .i64 ((s4.at' : Int) + 2)) = w8 at H8 ⊢
   clear b2 g2 p3
   have H9 := Lib.hid (H8.out.kid1 (k : Int))
   obtain ⟨ib, hib⟩ : ∃ ib, w8.heap.size = ib := ⟨_, rfl⟩
   rw [hib] at H9
   have nb := below_newJ w8 (.cells #[.int .i64 (k : Int)] 3)
   have lN : (w8.alloc (.cells #[.int .i64 (k : Int)] 3)).heap[lb]? = _ := (nb.block lb (heap_lt H8.out.blk)).trans H8.out.blk
   generalize hwN : w8.alloc (.cells #[.int .i64 (k : Int)] 3) = wN at H9 lN
   have y7 : wN.cell? ⟨lb, 7, none⟩ = some (.slice none 0 0) := block_cell lN
   have g7 : wN.frozen? ⟨lb, 7, none⟩ = false := block_free lN
   clear lN nb H8
   go_upto_region 16 with (fail)
   generalize wN.setCell ⟨lb, 7, none⟩ (.slice (some ⟨ib, 0, none⟩) 1 1) = wM at H9 ⊢
   clear y7 g7 hwN hib
   have z0 : wM.cell? ⟨lb, 0, none⟩ = some (.int .i64 5) := block_cell H9.out.blk
   have z1 : wM.cell? ⟨lb, 1, none⟩ = some (.int .i64 (0)) := block_cell H9.out.blk
   have z2 : wM.cell? ⟨lb, 2, none⟩ = some (.int .i64 0) := block_cell H9.out.blk
   have z3 : wM.cell? ⟨lb, 3, none⟩ = some (.int .i64 0) := block_cell H9.out.blk
   have z4 : wM.cell? ⟨lb, 4, none⟩ = some (.bool false) := block_cell H9.out.blk
   have z5 : wM.cell? ⟨lb, 5, none⟩ = some (.bool false) := block_cell H9.out.blk
   have z6 : wM.cell? ⟨lb, 6, none⟩ = some (.slice none 0 0) := block_cell H9.out.blk
   have z7 : wM.cell? ⟨lb, 7, none⟩ = some (.slice (some ⟨ib, 0, none⟩) 1 1) := block_cell H9.out.blk
   obtain ⟨NN, hNN⟩ : ∃ NN, N ++ ([] ++ M4) = NN := ⟨_, rfl⟩
   have hrf := H9.out.rf
   rw [hNN] at hrf
   have HND := Lib.hid (node_f wM lo rb pb _ n c src ig (s4.at' + 2) false s4.groups nv4 NN hrf ⟨5, 0, 0, 0, false, false, .slice none 0 0, .slice (some ⟨ib, 0, none⟩) 1 1, [(k : Int)]⟩ H9.out.kidf (by rw [← hNN]; simp only [List.length_append, List.length_nil]; omega))
   have HNN := Lib.hid hNN
   clear hrf hNN
   go_wp2_with fail
   refine HND.out.mono ?_
   rintro e w9 ⟨rfl, nv', hmv, hr9⟩
   have HMV := Lib.hid (H9.out.mv.trans hmv)
   have HR9 := Lib.hid hr9
   clear hmv hr9 HND
   go_wp2
   go_ret
   rw [HRE.out]
   refine ⟨NN.length, nv', M4 ++ [⟨5, 0, 0, 0, false, false, .slice none 0 0, .slice (some ⟨ib, 0, none⟩) 1 1, [(k : Int)]⟩], rfl, HMV.out, fun x hx => ?_, ?_⟩
   ·
    rcases List.mem_append.mp hx with hx | hx
    · exact H9.out.kge x (by rw [List.nil_append]; exact hx)
    ·
     rw [List.mem_singleton] at hx
     exact hx ▸ H9.out.kg
   ·
    have hr9 := HR9.out
    have hnn := HNN.out
    rw [List.nil_append] at hnn
    rw [← hnn, List.append_assoc] at hr9
    exact ⟨hr9, by rw [← List.append_assoc, hnn]; exact trN_group rfl rfl rfl (by rw [← hnn]; exact HT4.out), by simp only [List.length_append, List.length_singleton]; omega⟩
  ·
   have hr3 := HR3.out
   rw [if_neg hE] at hr3
   rw [Bool.eq_false_iff.mpr hE]
   rw [hlen] at hr3
   have HRE := Lib.hid hr3.symm
   have r1 : w7.cell? ⟨rb, 1, none⟩ = some (.slice sl n c) := block_cell H7.out.rf.rd.blk
   clear hr3 HR3 hE
   go_wp2_with fail
   refine (fail_f rb pb sl n c src s4.at' n (Nat.le_refl _) w7 H7.out.rf.rd).mono ?_
   rintro e w9 ⟨rfl, t9, f9⟩
   have hrf := H7.out.rf.at_ t9 f9
   rw [List.nil_append] at hrf
   have HRF := Lib.hid hrf
   have HMV := Lib.hid (H7.out.mv.trans (Mv.of (nv := nv4) (pb := pb) t9))
   clear t9 f9 hrf
   go_wp2
   go_ret
   rw [HRE.out]
   exact ⟨0, nv4, M4, rfl, HMV.out, fun x hx => H7.out.kge x (by rw [List.nil_append]; exact hx), ⟨_, HRF.out⟩, by simp only; omega⟩
end Go.Proofs.YtdegdoilpamjjaaDoor
