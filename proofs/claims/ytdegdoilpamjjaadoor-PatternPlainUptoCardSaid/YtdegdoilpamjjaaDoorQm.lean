/- Contract: Match, of a pattern of plain ints. Condition: fewer than 2^29 ints of a line. -/
import Derived.Test.YtdegdoilpamjjaaDoorQk
namespace Go.Proofs.YtdegdoilpamjjaaDoor
open Go.RowKit
set_option linter.unusedVariables false
set_option linter.unusedSimpArgs false
theorem match_results (tmps : Array Value) (g : Nat) (cs : Array Value) (b : Bool) (w : World) (h6 : tmps.getD 6 undef = .pointer (some ⟨g, 0, none⟩)) (h7 : tmps.getD 7 undef = .bool b) (hg : w.heap[g]? = some (.cells cs 23 (0, 0))) (hi : (Tryd.prog.info? 23).map (·.size) = some cs.size) :
    (results Tryd.f16 tmps).run Tryd.prog w = .ok (.tuple #[.agg cs, .bool b]) w := by
  have hl := run_loadVar_row (P := Tryd.prog) w g 23 23 cs (0, 0) _ hg Tryd.underlying23 rfl hi
  simp only [Array.getD_eq_getD_getElem?] at h6 h7
  simp [results, Tryd.results16, h6, h7, asAddr, hl]
theorem no_far {l L : List Int} {start : Nat} (hl : 0 < l.length) (h : L.length < start) : NoAt L l start := by
  intro t h1 hp
  have := (hp 0 hl).1
  omega
set_option maxRecDepth 100000 in
set_option maxHeartbeats 8000000 in
theorem match_q (w : World) (base pb : Nat) (l : List Int) (ga cA : Nat) (vs : List Value) (hp : PlainP w base pb l (some ⟨ga, 0, none⟩) cA vs) (hl : 0 < l.length) (hll : l.length ≤ 4000) (sl : Option Addr) (n c : Nat) (L : List Int) (hL : L.length = n) (hn : n < 536870912) (hs : IsInts w sl n (gl L)) (at' : Int) :
    Calls Tryd.prog 16 #[.pointer (some ⟨pb, 0, none⟩), .slice sl n c, .int .i64 at'] w (RunP w l L at'.toNat) := by
  have hr6 := one_new w (.cells mZ 23)
  have hb1 := below_newJ w (.cells mZ 23)
  have HR6 := Lib.hid hr6
  have HB1 := Lib.hid hb1
  have HP := Lib.hid (hp.later hb1)
  have HS := Lib.hid (hs.later hb1)
  have HL := Lib.hid hL
  clear hr6 hb1 hp hs hL
  by_cases hbig : (n : Int) < at'
  · have HNO := Lib.hid (no_far (l := l) (L := L) (start := at'.toNat) hl (by have := HL.out; omega))
    go_enter Tryd.func16, Tryd.ntmps16
    go_upto_region 2 with (fail)
    change Code.wp _ _ _ _ (w.alloc (.cells mZ 23))
    generalize w.alloc (.cells mZ 23) = w1 at HR6 HB1 HP HS ⊢
    go_wp2_with (refine wpList_store_row rfl 23 _ _ rfl w.heap.size mZ rfl rfl _ _ HR6.out mZ_info rfl mZ_all ?_)
    refine bodyPost_ret (match_results _ w.heap.size mZ false _ rfl rfl (row_set mZ HR6.out) mZ_info) rfl ⟨?_, .inr ⟨HNO.out, rfl⟩⟩
    exact HB1.out.trans (row_below mZ (Nat.le_refl _))
  · have hst : at'.toNat ≤ n := by omega
    obtain ⟨st, hst2⟩ : ∃ st, at'.toNat = st := ⟨_, rfl⟩
    rw [hst2] at hst ⊢
    have hmax : (if (0 : Int) < at' then at' else 0) = (st : Int) := by split <;> omega
    have hmax2 : max at' 0 = (st : Int) := by omega
    have hmax3 : (if at' < (0 : Int) then 0 else at') = (st : Int) := by split <;> omega
    have q1 : ¬ (n : Int) < at' := hbig
    have HRUN := Lib.hid (run_q (w.alloc (.cells mZ 23)) base pb l ga cA vs HP.out hl hll sl n c L HL.out hn HS.out st hst)
    clear hbig hst hst2
    go_enter Tryd.func16, Tryd.ntmps16
    go_upto_region 3 with (fail)
    change Code.wp _ _ _ _ (w.alloc (.cells mZ 23))
    generalize w.alloc (.cells mZ 23) = w1 at HR6 HB1 HP HS HRUN ⊢
    go_wp2_with fail
    refine HRUN.out.mono ?_
    rintro e w2 ⟨hb, ⟨s, hf, rfl⟩ | ⟨hno, rfl⟩⟩
    · have hr2 := (hb.block _ (heap_lt HR6.out)).trans HR6.out
      have HB2 := Lib.hid (HB1.out.trans (hb.mono HB1.out.size))
      have HF := Lib.hid hf
      clear hb hf
      generalize ht0 : ((s + l.length : Nat) : Int) = tt
      have HTT := Lib.hid ht0
      clear ht0
      go_wp2_with (refine wpList_store_row rfl 23 _ _ rfl w.heap.size (mM s tt) rfl rfl _ _ hr2 (mM_info s tt) rfl (mM_all s tt) ?_)
      refine bodyPost_ret (match_results _ w.heap.size (mM s tt) true _ rfl rfl (row_set (mM s tt) hr2) (mM_info s tt)) rfl ⟨?_, .inl ⟨s, HF.out, by rw [HTT.out]⟩⟩
      exact HB2.out.trans (row_below (mM s tt) (Nat.le_refl _))
    · have hr2 := (hb.block _ (heap_lt HR6.out)).trans HR6.out
      have HB2 := Lib.hid (HB1.out.trans (hb.mono HB1.out.size))
      have HNO := Lib.hid hno
      clear hb hno
      go_wp2_with (refine wpList_store_row rfl 23 _ _ rfl w.heap.size mZ rfl rfl _ _ hr2 mZ_info rfl mZ_all ?_)
      refine bodyPost_ret (match_results _ w.heap.size mZ false _ rfl rfl (row_set mZ hr2) mZ_info) rfl ⟨?_, .inr ⟨HNO.out, rfl⟩⟩
      exact HB2.out.trans (row_below mZ (Nat.le_refl _))
end Go.Proofs.YtdegdoilpamjjaaDoor
