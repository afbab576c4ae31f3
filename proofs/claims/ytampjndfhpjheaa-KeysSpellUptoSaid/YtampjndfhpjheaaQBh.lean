/- Contracts of the document's side: meets of any row, among. Condition: lists of fewer than 2^30, keys of fewer than 2^30. -/
import Derived.Test.YtampjndfhpjheaaQBf
import Derived.Test.YtampjndfhpjheaaQBa
namespace Go.Proofs.Ytampjndfhpjheaa
open Go.RowKit
set_option linter.unusedVariables false
set_option linter.unusedSimpArgs false
theorem meetsD_own {k l : List Int} {b : Bd} : meetsD k b l = meetsD k ⟨b.verb, b.move, b.arg, b.more, []⟩ l := rfl
theorem meets_c (x : DR) (ls : Option Addr) (ln lc : Nat) (l : List Int) (w : World) (hl : l.length = ln) (hkn : x.q.k.length < 1073741824) (hln : ln < 1073741824) (hx : KOk w x.q) (hrl : IsInts w ls ln (gl l)) :
  Calls Try.prog 105 #[.agg #[.slice (some ⟨x.q.g, x.q.off, none⟩) x.q.n x.q.c, .int .i64 x.b.verb, .int .i64 x.b.move, .int .i64 x.b.arg, .bool x.b.more], .slice ls ln lc] w
   fun e w' => e = .returned (.tuple #[.int .i64 ((meetsD x.q.k x.b l).1 : Nat), .int .i64 (meetsD x.q.k x.b l).2]) ∧ Below w.heap.size w w' := by
 rw [meetsD_own]
 have hn := hx.1
 cases hb : x.b.more
 · exact meets_f _ ls x.q.n x.q.c ln lc x.q.k l _ _ _ w hn.symm hl (by omega) hln hx.is hrl
 · exact meets_t _ ls x.q.n x.q.c ln lc x.q.k l _ _ _ w hn.symm hl (by omega) hln hx.is hrl
theorem RL.cell {w : World} {base n c : Nat} {s : Option Addr} {L : List DR} (h : RL w base (.slice s n c) L) {i : Nat} (hi : i < L.length) : ∃ g, s = some ⟨g, 0, none⟩ ∧ g < w.heap.size ∧ ∀ j, j < 5 → w.cell? ⟨g, i * 5 + j, none⟩ = (L[i].cells)[j]? := by
 have h' := h.1
 rcases h.1.2 with ⟨_, h2⟩ | ⟨g, cap, cur, h1, hg, hgg, _⟩
 · omega
 ·
  obtain ⟨rfl, hn, rfl⟩ := Value.slice.inj h1
  rw [hn] at h'
  exact ⟨g, rfl, heap_lt hgg, fun j hj => by rw [World.ownsRow.cellAt h' (i * 5 + j) (by omega), dr_cells_get L i j hi hj]⟩
theorem RL.len {w : World} {base n c : Nat} {s : Option Addr} {L : List DR} (h : RL w base (.slice s n c) L) : n = L.length := by
 obtain ⟨s', c', e, _⟩ := h.shape
 exact (Value.slice.inj e).2.1
theorem cmd5_at {w : World} {b : Nat} {o0 o1 o2 o3 o4 a0 a1 a2 a3 a4 : Value} (h : w.heap[b]? = some (.cells #[o0, o1, o2, o3, o4] 44 (0, 0))) :
  (((((w.setCell ⟨b, 0, none⟩ a0).setCell ⟨b, 1, none⟩ a1).setCell ⟨b, 2, none⟩ a2).setCell ⟨b, 3, none⟩ a3).setCell ⟨b, 4, none⟩ a4).heap[b]? = some (.cells #[a0, a1, a2, a3, a4] 44 (0, 0)) :=
 block_set _ (block_set _ (block_set _ (block_set _ (block_set _ h))))
theorem cells5 {w : World} {b : Nat} {t : TypeId} {a0 a1 a2 a3 a4 : Value} (h : w.heap[b]? = some (.cells #[a0, a1, a2, a3, a4] t (0, 0))) :
  w.cell? ⟨b, 0, none⟩ = some a0 ∧ w.cell? ⟨b, 1, none⟩ = some a1 ∧ w.cell? ⟨b, 2, none⟩ = some a2 ∧ w.cell? ⟨b, 3, none⟩ = some a3 ∧ w.cell? ⟨b, 4, none⟩ = some a4 :=
 ⟨block_cell h, block_cell h, block_cell h, block_cell h, block_cell h⟩
theorem free5 {w : World} {b : Nat} {t : TypeId} {c : Array Value} (h : w.heap[b]? = some (.cells c t (0, 0))) :
  w.frozen? ⟨b, 0, none⟩ = false ∧ w.frozen? ⟨b, 1, none⟩ = false ∧ w.frozen? ⟨b, 2, none⟩ = false ∧ w.frozen? ⟨b, 3, none⟩ = false ∧ w.frozen? ⟨b, 4, none⟩ = false :=
 ⟨block_free h, block_free h, block_free h, block_free h, block_free h⟩
theorem among_at {reg cnt : Int} {l : List Int} {x : DR} {T : Rows} {say : Nat} {M : Nat × Int} (hM : meetsD x.q.k x.b l = M) : amongD reg cnt (fun b => b.verb) l (DR.row x :: T) say = if M.1 = 1 then (1, ⟨reg, cnt, x.b.verb, if x.b.move = 33 ∧ 0 < cnt then 18 else x.b.move, M.2⟩) else amongD reg cnt (fun b => b.verb) l T (if M.1 = 0 then 0 else say) := by
 subst hM; rfl
set_option maxRecDepth 100000 in
set_option maxHeartbeats 8000000 in
theorem among_c (L : List DR) (s : Option Addr) (n c base : Nat) (ls : Option Addr) (ln lc : Nat) (l : List Int) (reg cnt : Int) (w : World) (hn : n < 1073741824) (hl : l.length = ln) (hln : ln < 1073741824) (hL : RL w base (.slice s n c) L) (hks : ∀ x ∈ L, x.q.k.length < 1000) (hrl : IsInts w ls ln (gl l)) :
  Calls Try.prog 104 #[.slice s n c, .slice ls ln lc, .int .i64 reg, .int .i64 cnt] w
   fun e w' => e = .returned (.tuple #[.agg (amongD reg cnt (fun b => b.verb) l (L.map DR.row) 2).2.cells, .int .i64 ((amongD reg cnt (fun b => b.verb) l (L.map DR.row) 2).1 : Nat)]) ∧ Below w.heap.size w w' := by
 obtain ⟨A, hA⟩ : ∃ A, amongD reg cnt (fun b => b.verb) l (L.map DR.row) 2 = A := ⟨_, rfl⟩
 have HA0 : Hid (amongD reg cnt (fun b => b.verb) l ((L.drop 0).map DR.row) 2 = A) := Lib.hid hA
 rw [hA]
 have hnl := hL.len
 have hbn := below_new2 w (.cells #[.int .i64 0, .int .i64 0, .int .i64 0, .int .i64 0, .int .i64 0] 44)
 have HON := Lib.hid (one_new w (.cells #[.int .i64 0, .int .i64 0, .int .i64 0, .int .i64 0, .int .i64 0] 44))
 have HBN := Lib.hid hbn
 have HL := Lib.hid hL
 have HRL := Lib.hid hrl
 have HKS := Lib.hid hks
 have HLN := Lib.hid hl
 have HNL := Lib.hid hnl
 clear hA hnl hbn hL hrl hks hl
 go_enter Try.func104, Try.ntmps104
 go_wp2_with fail
 generalize w.alloc (.cells #[.int .i64 0, .int .i64 0, .int .i64 0, .int .i64 0, .int .i64 0] 44) = w1 at HON HBN ⊢
 go_loopg [10, 11] (n + 1) (fun gg sv iv wr => ∃ (k say : Nat), sv = .int .i64 (say : Nat) ∧ iv = .int .i64 k ∧ k ≤ n ∧ n - k < gg ∧ amongD reg cnt (fun b => b.verb) l ((L.drop k).map DR.row) say = A ∧ wr.heap[w.heap.size]? = some (.cells #[.int .i64 0, .int .i64 0, .int .i64 0, .int .i64 0, .int .i64 0] 44 (0, 0)) ∧ Below w.heap.size w wr)
 case atStart => exact ⟨0, 2, rfl, rfl, by omega, by omega, HA0.out, HON.out, HBN.out⟩
 case round =>
  obtain ⟨k, say, rfl, rfl, hkn, hgg, hA, hcb, hbl⟩ := hrel
  clear HA0 HON HBN
  by_cases hlt : k < n
  ·
   have hkl : k < L.length := by rw [← HNL.out]; exact hlt
   obtain ⟨g, rfl, hg, hcell⟩ := (HL.out.later hbl).cell hkl
   have hkx := (HL.out.later hbl).2 _ (List.getElem_mem hkl)
   have hks := HKS.out _ (List.getElem_mem hkl)
   rw [List.drop_eq_getElem_cons hkl, List.map_cons] at hA
   generalize L[k] = x at hcell hkx hks hA
   have c0 := hcell 0 (by decide)
   have c1 := hcell 1 (by decide)
   have c2 := hcell 2 (by decide)
   have c3 := hcell 3 (by decide)
   have c4 := hcell 4 (by decide)
   obtain ⟨⟨qg, qo, qn, qc, qk⟩, ⟨bv, bm, ba, bmo, bo⟩⟩ := x
   simp only [DR.cells, KS.val, List.getElem?_cons_zero, List.getElem?_cons_succ, Nat.add_zero] at c0 c1 c2 c3 c4
   have hmc := meets_c ⟨⟨qg, qo, qn, qc, qk⟩, ⟨bv, bm, ba, bmo, bo⟩⟩ ls ln lc l wr HLN.out (by show qk.length < _; exact Nat.lt_of_lt_of_le hks (by decide)) hln hkx (HRL.out.later hbl)
   simp only at hmc
   have hm3 := @meets_3 qk l ⟨bv, bm, ba, bmo, bo⟩
   obtain ⟨M, hM⟩ : ∃ M, meetsD qk ⟨bv, bm, ba, bmo, bo⟩ l = M := ⟨_, rfl⟩
   rw [among_at hM] at hA
   rw [hM] at hm3
   simp only [hM] at hmc
   clear hM
   obtain ⟨m, ma⟩ := M
   simp only at hA hmc hm3
   have HMC := Lib.hid hmc
   have HAA := Lib.hid hA
   have HCB := Lib.hid hcb
   have HBL := Lib.hid hbl
   have hcl := hbl.size
   clear hcell hkx hks hmc hA hcb hbl
   have q1 : (k : Int) < (n : Int) := by omega
   have q2 : (0 : Int) ≤ (k : Int) := by omega
   go_wp2_with fail
   refine HMC.out.mono ?_
   rintro e w2 ⟨rfl, hb2⟩
   have HB2 := Lib.hid (HBL.out.trans (hb2.mono hcl))
   have HCB2 := Lib.hid ((hb2.block _ (heap_lt HCB.out)).trans HCB.out)
   have d0 := (hb2.cell (p := ⟨g, k * 5, none⟩) hg).trans c0
   have d1 := (hb2.cell (p := ⟨g, k * 5 + 1, none⟩) hg).trans c1
   have d2 := (hb2.cell (p := ⟨g, k * 5 + 2, none⟩) hg).trans c2
   have d3 := (hb2.cell (p := ⟨g, k * 5 + 3, none⟩) hg).trans c3
   have d4 := (hb2.cell (p := ⟨g, k * 5 + 4, none⟩) hg).trans c4
   clear c0 c1 c2 c3 c4 hb2 HMC HCB HBL
   rcases hm3 with rfl | rfl | rfl
   ·
    rw [if_neg (by decide), if_pos rfl] at HAA
    go_wp2
    go_roundg (gk - 1)
    case measure => omega
    case rel => exact ⟨k + 1, 0, rfl, by go_num, by omega, by omega, HAA.out, HCB2.out, HB2.out⟩
   ·
    rw [if_pos rfl] at HAA
    have hA := HAA.out
    clear HAA
    obtain ⟨mv, hmv⟩ : ∃ mv, (if bm = 33 ∧ 0 < cnt then (18 : Int) else bm) = mv := ⟨_, rfl⟩
    have hcc := command_c (some ⟨qg, qo, none⟩) qn qc bv bm ba reg cnt ma bmo w2
    rw [hmv] at hA
    simp only [hmv] at hcc
    clear hmv
    subst hA
    have HCC := Lib.hid hcc
    clear hcc
    go_wp2_with fail
    refine HCC.out.mono ?_
    rintro e w3 ⟨rfl, hb3⟩
    have hs2 := HB2.out.size
    have hb4 := HB2.out.trans (hb3.mono hs2)
    have hcb3 := (hb3.block _ (heap_lt HCB2.out)).trans HCB2.out
    have HX := Lib.hid (cmd5_at (a0 := .int .i64 reg) (a1 := .int .i64 cnt) (a2 := .int .i64 bv) (a3 := .int .i64 mv) (a4 := .int .i64 ma) hcb3)
    have HY := Lib.hid (row5_below (a0 := .int .i64 reg) (a1 := .int .i64 cnt) (a2 := .int .i64 bv) (a3 := .int .i64 mv) (a4 := .int .i64 ma) hb4 (Nat.le_refl _))
    obtain ⟨x0, x1, x2, x3, x4⟩ := cells5 hcb3
    obtain ⟨f0, f1, f2, f3, f4⟩ := free5 hcb3
    clear hcb3 hb4 hb3 d0 d1 d2 d3 d4 HCC HCB2 HB2
    go_wp2
    have hx := HX.out
    have hy := HY.out
    generalize ((((w3.setCell ⟨w.heap.size, 0, none⟩ (.int .i64 reg)).setCell ⟨w.heap.size, 1, none⟩ (.int .i64 cnt)).setCell ⟨w.heap.size, 2, none⟩ (.int .i64 bv)).setCell ⟨w.heap.size, 3, none⟩ (.int .i64 mv)).setCell ⟨w.heap.size, 4, none⟩ (.int .i64 ma) = w4 at hx hy ⊢
    obtain ⟨y0, y1, y2, y3, y4⟩ := cells5 hx
    exact bodyPost_ret (v := .tuple #[.agg #[.int .i64 reg, .int .i64 cnt, .int .i64 bv, .int .i64 mv, .int .i64 ma], .int .i64 1]) (by simp [results, Try.results104, go_sem, y0, y1, y2, y3, y4]) rfl ⟨rfl, hy⟩
   ·
    rw [if_neg (by decide), if_neg (by decide)] at HAA
    go_wp2
    go_roundg (gk - 1)
    case measure => omega
    case rel => exact ⟨k + 1, say, rfl, by go_num, by omega, by omega, HAA.out, HCB2.out, HB2.out⟩
  ·
   obtain rfl : k = n := by omega
   rw [List.drop_eq_nil_of_le (by rw [← HNL.out]; exact Nat.le_refl _), List.map_nil] at hA
   have hA2 : (say, cmd0) = A := hA
   subst hA2
   have HX := Lib.hid (cmd5_at (a0 := .int .i64 0) (a1 := .int .i64 0) (a2 := .int .i64 0) (a3 := .int .i64 0) (a4 := .int .i64 0) hcb)
   have HY := Lib.hid (row5_below (a0 := .int .i64 0) (a1 := .int .i64 0) (a2 := .int .i64 0) (a3 := .int .i64 0) (a4 := .int .i64 0) hbl (Nat.le_refl _))
   obtain ⟨x0, x1, x2, x3, x4⟩ := cells5 hcb
   obtain ⟨f0, f1, f2, f3, f4⟩ := free5 hcb
   clear hcb hbl hA
   go_wp2
   have hx := HX.out
   have hy := HY.out
   generalize ((((wr.setCell ⟨w.heap.size, 0, none⟩ (.int .i64 0)).setCell ⟨w.heap.size, 1, none⟩ (.int .i64 0)).setCell ⟨w.heap.size, 2, none⟩ (.int .i64 0)).setCell ⟨w.heap.size, 3, none⟩ (.int .i64 0)).setCell ⟨w.heap.size, 4, none⟩ (.int .i64 0) = w4 at hx hy ⊢
   obtain ⟨y0, y1, y2, y3, y4⟩ := cells5 hx
   exact bodyPost_ret (v := .tuple #[.agg #[.int .i64 0, .int .i64 0, .int .i64 0, .int .i64 0, .int .i64 0], .int .i64 say]) (by simp [results, Try.results104, go_sem, y0, y1, y2, y3, y4]) rfl ⟨rfl, hy⟩
end Go.Proofs.Ytampjndfhpjheaa
