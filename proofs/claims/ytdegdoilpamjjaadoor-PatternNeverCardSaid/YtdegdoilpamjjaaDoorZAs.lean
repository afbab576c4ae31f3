/- Contracts: compiled, Groups and Match, in general. The walk of PatternNever's first half (wanted). No condition. The walk of the law PatternNever. No condition. -/
import Derived.Test.YtdegdoilpamjjaaDoorZAo
import Derived.Test.YtdegdoilpamjjaaDoorZAr
import Derived.Test.YtdegdoilpamjjaaDoorZAa
import Derived.Test.YtdegdoilpamjjaaDoorZAh
namespace Go.Proofs.YtdegdoilpamjjaaDoor
open Go.RowKit
set_option linter.unusedVariables false
set_option linter.unusedSimpArgs false
theorem comp_good {src : List Int} {fold : Bool} {nd : Nd} {g : Nat} (h : compileP src fold = .ok nd g) : GoodN nd ∧ partsP nd ≤ 4096 := by
 unfold compileP at h
 by_cases hn : 256 < src.length
 · rw [if_pos hn] at h; cases h
 ·
  rw [if_neg hn] at h
  have hg := fun nd s => (reader_good src fold (by omega) (4 * src.length + 8)).2.2.2.2 [] ⟨0, 0⟩ (by decide) (by simp) (by simp) (fun _ h => by cases h) nd s
  revert h hg
  rcases patP src fold (4 * src.length + 8) [] ⟨0, 0⟩ with e | ⟨x, s⟩
  · intro h _; cases h
  ·
   intro h hg
   simp only at h
   by_cases h1 : s.at' < src.length
   · rw [if_pos h1] at h; cases h
   ·
    rw [if_neg h1] at h
    by_cases h2 : 4096 < partsP x
    · rw [if_pos h2] at h; cases h
    ·
     rw [if_neg h2] at h
     cases h
     exact ⟨hg _ _ rfl, by omega⟩
structure Ready (w : World) (pb : Nat) (nd : Nd) (g : Nat) : Prop where
 pat : ∃ B E base, PaG w B E base pb (g : Int) (deepA 0 nd) (progA nd)
 good : GoodN nd
 parts : partsP nd ≤ 4096
theorem Ready.later {w w' : World} {pb : Nat} {nd : Nd} {g : Nat} (h : Ready w pb nd g) (hb : Below w.heap.size w w') : Ready w' pb nd g := by
 obtain ⟨⟨B, E, base, hp⟩, h1, h2⟩ := h
 refine ⟨⟨B, E, base, hp.later ?_ hb⟩, h1, h2⟩
 obtain ⟨_, _, _, hx⟩ := hp
 exact Nat.le_of_lt (Nat.lt_of_le_of_lt hx.low (heap_lt hx.blk))
def matchR (nd : Nd) (line : List Int) (at' : Int) : Option BestD :=
 if (line.length : Int) < at' then none else runR G0 (progA nd) (deepA 0 nd) line (line.length + 2) at'.toNat (fun _ => 0) [] none
theorem match_resultsg (tmps : Array Value) (g : Nat) (cs : Array Value) (b : Bool) (w : World) (h6 : tmps.getD 6 undef = .pointer (some ⟨g, 0, none⟩)) (h7 : tmps.getD 7 undef = .bool b) (hg : w.heap[g]? = some (.cells cs 23 (0, 0))) (hi : (Tryd.prog.info? 23).map (·.size) = some cs.size) :
  (results Tryd.f16 tmps).run Tryd.prog w = .ok (.tuple #[.agg cs, .bool b]) w := by
 have hl := run_loadVar_row (P := Tryd.prog) w g 23 23 cs (0, 0) _ hg Tryd.underlying23 rfl hi
 simp only [Array.getD_eq_getD_getElem?] at h6 h7
 simp [results, Tryd.results16, h6, h7, asAddr, hl]
set_option maxRecDepth 100000 in
set_option maxHeartbeats 8000000 in
theorem match_g (w : World) (pb : Nat) (nd : Nd) (g : Nat) (hp : Ready w pb nd g) (sl : Option Addr) (n c : Nat) (line : List Int) (hL : line.length = n) (hn : n < 536870912) (hs : IsInts w sl n (gl line)) (ht : Tabs w) (at' : Int) (RES : Option BestD) (hRES : matchR nd line at' = RES) :
  Calls Tryd.prog 16 #[.pointer (some ⟨pb, 0, none⟩), .slice sl n c, .int .i64 at'] w fun e w' => Below w.heap.size w w' ∧ RunE RES e := by
 have hr6 := one_new w (.cells mZg 23)
 have hb1 := below_newJ w (.cells mZg 23)
 have HR6 := Lib.hid hr6
 have HB1 := Lib.hid hb1
 have hp1 := hp.later hb1
 have hs1 := hs.later hb1
 have ht1 := ht.later hb1
 have HL := Lib.hid hL
 unfold matchR at hRES
 rw [hL] at hRES
 clear hr6 hb1 hp hs hL ht
 by_cases hbig : (n : Int) < at'
 ·
  rw [if_pos hbig] at hRES
  have HRS := Lib.hid hRES
  clear hp1 hs1 ht1 hRES
  go_enter Tryd.func16, Tryd.ntmps16
  go_upto_region 2 with (fail)
  change Code.wp _ _ _ _ (w.alloc (.cells mZg 23))
  generalize w.alloc (.cells mZg 23) = w1 at HR6 HB1 ⊢
  go_wp2_with (refine wpList_store_row rfl 23 _ _ rfl w.heap.size mZg rfl rfl _ _ HR6.out mZg_info rfl mZg_all ?_)
  refine bodyPost_ret (match_resultsg _ w.heap.size mZg false _ rfl rfl (row_setg mZg HR6.out) mZg_info) rfl ⟨?_, ?_⟩
  · exact HB1.out.trans (row_belowg mZg (Nat.le_refl _))
  · rw [← HRS.out]; rfl
 ·
  rw [if_neg hbig] at hRES
  have hst : at'.toNat ≤ n := by omega
  obtain ⟨st, hst2⟩ : ∃ st, at'.toNat = st := ⟨_, rfl⟩
  rw [hst2] at hst hRES
  have hmax : (if (0 : Int) < at' then at' else 0) = (st : Int) := by split <;> omega
  have hmax2 : max at' 0 = (st : Int) := by omega
  have hmax3 : (if at' < (0 : Int) then 0 else at') = (st : Int) := by split <;> omega
  have q1 : ¬ (n : Int) < at' := hbig
  obtain ⟨⟨B, E, base, hpat⟩, hG, hP⟩ := hp1
  obtain ⟨lv, hwf⟩ := wf_prog hG
  have hsd := size_bd hG hP
  have hdd := (deep_bd hG).2 hP 0
  have hlen : (progA nd).length = sizeA nd + 1 := by unfold progA; rw [List.length_append, genA_len hG]; rfl
  have hN12 : (progA nd).length * (deepA 0 nd + 1) < 900000000000 := by
   have h1 : (progA nd).length ≤ 3145729 := by omega
   have h2 : deepA 0 nd + 1 ≤ 4097 := by omega
   have := Nat.mul_le_mul h1 h2
   omega
  have HRUN := Lib.hid (run_g (w.alloc (.cells mZg 23)) B E base pb (g : Int) (deepA 0 nd) (progA nd) hpat lv hwf _ rfl hN12 sl n c line HL.out hs1 hn st hst ht1 RES hRES)
  clear hbig hst hst2 hpat hG hP hwf hsd hdd hlen hN12 hs1 ht1 hRES
  go_enter Tryd.func16, Tryd.ntmps16
  go_upto_region 3 with (fail)
  change Code.wp _ _ _ _ (w.alloc (.cells mZg 23))
  generalize w.alloc (.cells mZg 23) = w1 at HR6 HB1 HRUN ⊢
  go_wp2_with fail
  refine HRUN.out.mono ?_
  rintro e w2 ⟨hb, hre⟩
  have hr2 := (hb.block _ (heap_lt HR6.out)).trans HR6.out
  have HB2 := Lib.hid (HB1.out.trans (hb.mono HB1.out.size))
  cases RES with
  | none =>
   have he : e = .returned (.tuple #[.agg mZg, .bool false]) := hre
   subst he
   clear hb hre
   go_wp2_with (refine wpList_store_row rfl 23 _ _ rfl w.heap.size mZg rfl rfl _ _ hr2 mZg_info rfl mZg_all ?_)
   refine bodyPost_ret (match_resultsg _ w.heap.size mZg false _ rfl rfl (row_setg mZg hr2) mZg_info) rfl ⟨?_, rfl⟩
   exact HB2.out.trans (row_belowg mZg (Nat.le_refl _))
  | some b =>
   have he : e = .returned (.tuple #[.agg (mLg (mKg b 20)), .bool true]) := hre
   subst he
   clear hb hre
   go_wp2_with (refine wpList_store_row rfl 23 _ _ rfl w.heap.size (mLg (mKg b 20)) rfl rfl _ _ hr2 (mLg_info _) rfl (mLg_all _) ?_)
   refine bodyPost_ret (match_resultsg _ w.heap.size (mLg (mKg b 20)) true _ rfl rfl (row_setg (mLg (mKg b 20)) hr2) (mLg_info _)) rfl ⟨?_, rfl⟩
   exact HB2.out.trans (row_belowg (mLg (mKg b 20)) (Nat.le_refl _))
theorem num_g (k : Int) (w : World) : Calls Tryd.prog 22 #[.int .i64 k] w fun e w' => e = .returned (.int .i64 k) ∧ w' = w := by
 go_enter Tryd.func22, Tryd.ntmps22
 go_wp2
 go_ret
 exact ⟨rfl, rfl⟩
theorem groups_g (pb : Nat) (w : World) (nd : Nd) (g : Nat) (h : Ready w pb nd g) :
  Calls Tryd.prog 14 #[.pointer (some ⟨pb, 0, none⟩)] w fun e w' => e = .returned (.int .i64 g) ∧ w' = w := by
 obtain ⟨⟨B, E, base, xs, sA, cA, hx⟩, _, _⟩ := h
 have b1 : w.cell? ⟨pb, 1, none⟩ = some (.int .i64 g) := block_cell hx.blk
 clear hx
 go_enter Tryd.func14, Tryd.ntmps14
 go_wp2
 go_ret
 exact ⟨rfl, rfl⟩
theorem own_lt {w : World} {base : Nat} {s : Option Addr} {n c : Nat} {l : List Int} (h : OwnInts w base (.slice s n c) l) {a : Addr} (ha : s = some a) : a.block < w.heap.size := by
 rcases h.2 with ⟨h1, h2⟩ | ⟨g, cap, cur, h1, hg, hgg, _⟩
 ·
  obtain ⟨rfl, -, -⟩ := Value.slice.inj h1
  cases ha
 ·
  obtain ⟨rfl, -, -⟩ := Value.slice.inj h1
  cases ha
  exact heap_lt hgg
def CompE (w : World) (R : CP) (e : Ending) (w' : World) : Prop :=
 Below w.heap.size w w' ∧ match R with
  | .ok nd g => ∃ pb, e = .returned (.pointer (some ⟨pb, 0, none⟩)) ∧ Ready w' pb nd g
  | _ => e = .returned (.pointer none)
set_option maxRecDepth 100000 in
set_option maxHeartbeats 4000000 in
theorem compiled_g (sl : Option Addr) (n c : Nat) (src : List Int) (fold : Bool) (w : World) (hl : src.length = n) (hn : n < 1073741824) (hr : IsInts w sl n (gl src)) (hnil : sl = none → n = 0 ∧ c = 0) (R : CP) (hR : compileP src fold = R) :
  Calls Tryd.prog 12 #[.slice sl n c, .bool fold] w (CompE w R) := by
 have HR := Lib.hid hr
 have HL := Lib.hid hl
 clear hr hl
 go_enter Tryd.func12, Tryd.ntmps12
 go_wp2_with (first
  | (at_builtin; refine wpList_append_all rfl _ _ rfl rfl sl n c (gl src) rfl HR.out hnil (by omega) w.heap.size (Nat.le_refl _) ?_; intro so co w2 ho hb2 _ _ hi; have HO := Lib.hid ho; have HI := Lib.hid hi; have HB := Lib.hid hb2; clear ho hb2 hi))
 refine (compile_c so n co src fold _ HL.out HI.out (fun a ha => own_lt HO.out ha)).mono ?_
 rintro e w3 ⟨hb3, hc⟩
 have HB3 := Lib.hid (HB.out.trans (hb3.mono HB.out.size))
 have hcg := fun nd g => comp_good (src := src) (fold := fold) (nd := nd) (g := g)
 rw [hR] at hc hcg
 cases R with
 | long =>
  obtain rfl := (show e = .returned (.tuple #[.pointer none, .int .i64 0, .int .i64 3]) from hc)
  clear hc hb3 hcg
  go_wp2_with fail
  refine (num_g 3 _).mono ?_
  rintro e w4 ⟨rfl, rfl⟩
  go_wp2
  go_ret
  exact ⟨HB3.out, rfl⟩
 | bad k =>
  obtain rfl := (show e = .returned (.tuple #[.pointer none, .int .i64 k, .int .i64 100]) from hc)
  clear hc hb3 hcg
  go_wp2_with fail
  refine (num_g 100 _).mono ?_
  rintro e w4 ⟨rfl, rfl⟩
  go_wp2
  go_ret
  exact ⟨HB3.out, rfl⟩
 | big =>
  obtain rfl := (show e = .returned (.tuple #[.pointer none, .int .i64 0, .int .i64 103]) from hc)
  clear hc hb3 hcg
  go_wp2_with fail
  refine (num_g 103 _).mono ?_
  rintro e w4 ⟨rfl, rfl⟩
  go_wp2
  go_ret
  exact ⟨HB3.out, rfl⟩
 | ok nd g =>
  obtain ⟨pb, B, E, base, he, -, -, hp⟩ := (show ∃ pb B E base, e = .returned (.tuple #[.pointer (some ⟨pb, 0, none⟩), .int .i64 0, .int .i64 0]) ∧ _ from hc)
  subst he
  have HP := Lib.hid (Ready.mk ⟨B, E, base, hp⟩ (hcg nd g rfl).1 (hcg nd g rfl).2)
  clear hc hb3 hcg hp
  go_wp2_with fail
  refine (num_g 0 _).mono ?_
  rintro e w4 ⟨rfl, rfl⟩
  go_wp2
  go_ret
  exact ⟨HB3.out, pb, rfl, HP.out⟩
end Go.Proofs.YtdegdoilpamjjaaDoor
namespace Go.Proofs.YtdegdoilpamjjaaDoor
open Go.RowKit
set_option linter.unusedVariables false
set_option linter.unusedSimpArgs false
theorem okZ_all (k : Nat) (h1 : 1 ≤ k) (h2 : k ≤ 64) : okZ k = true := by
 by_cases a : k ≤ 36
 · have := List.all_eq_true.mp okZ_1 (k - 1) (List.mem_range.mpr (by omega)); rwa [show k - 1 + 1 = k from by omega] at this
 by_cases b : k ≤ 47
 · have := List.all_eq_true.mp okZ_2 (k - 37) (List.mem_range.mpr (by omega)); rwa [show k - 37 + 37 = k from by omega] at this
 by_cases c : k ≤ 56
 · have := List.all_eq_true.mp okZ_3 (k - 48) (List.mem_range.mpr (by omega)); rwa [show k - 48 + 48 = k from by omega] at this
 · have := List.all_eq_true.mp okZ_4 (k - 57) (List.mem_range.mpr (by omega)); rwa [show k - 57 + 57 = k from by omega] at this
theorem match_A (k n : Nat) (h1 : 1 ≤ k) (h2 : k ≤ 64) (hn : n ≤ 2 * k + 1) :
  (n < k ∧ matchR (ndA k) (List.replicate n 97) 0 = none) ∨ (k ≤ n ∧ ∃ b, matchR (ndA k) (List.replicate n 97) 0 = some b ∧ b.from' = 0 ∧ b.to' = k + min (n - k) k ∧ noteIn b.notes 2 = ((if k ≤ n - k then k - 1 else n - k : Nat) : Int) ∧ noteIn b.notes 3 = ((min (n - k) k : Nat) : Int)) := by
 obtain ⟨c1, c2, c3⟩ := caseA k h1 h2
 have h := run_A h1 (okZ_all k h1 h2) c2 G0 n hn
 have e : matchR (ndA k) (List.replicate n 97) 0 = runR G0 (progA (ndA k)) 1 (List.replicate n 97) (n + 2) 0 (fun _ => 0) [] none := by
  unfold matchR
  rw [if_neg (by rw [List.length_replicate]; omega), c3, List.length_replicate]; rfl
 rw [e]
 by_cases hl : n < k
 ·
  rw [if_pos hl] at h
  exact .inl ⟨hl, Option.map_eq_none_iff.mp h⟩
 ·
  rw [if_neg hl] at h
  obtain ⟨b, hb, hz⟩ := Option.map_eq_some_iff.mp h
  refine .inr ⟨by omega, b, hb, ?_⟩
  unfold bzZ nzZ at hz
  simp only [Prod.mk.injEq] at hz
  obtain ⟨z1, z2, z3, z4⟩ := hz
  refine ⟨by omega, z2, ?_, by omega⟩
  split at z3
  ·
   rename_i hk
   rw [if_pos hk]; omega
  ·
   rename_i hk
   rw [if_neg hk]; omega
def wrG (gg : Nat) (m : Int) : Prop := 0 ≤ m ∧ ((gg = 2 ∧ m ≤ 64) ∨ (gg = 1 ∧ m ≤ 6) ∨ (gg = 0 ∧ m ≤ 0))
theorem wrG_step {gg : Nat} {m : Int} (h : wrG gg m) (h0 : 0 < m) : ∃ g, gg = g + 1 ∧ wrG g (m / 10) := by
 obtain ⟨_, ⟨rfl, h⟩ | ⟨rfl, h⟩ | ⟨rfl, h⟩⟩ := h
 · exact ⟨1, rfl, by omega, by omega⟩
 · exact ⟨0, rfl, by omega, by omega⟩
 · omega
theorem digW_step {f : Nat} {m : Int} {out : List Int} (h0 : 0 < m) : digW (f + 1) m out = digW f (m / 10) ((48 + m % 10) :: out) := if_pos h0
theorem digW_end {f : Nat} {m : Int} {out : List Int} (h : ¬ 0 < m) : digW f m out = out := by
 cases f with
 | zero => rfl
 | succ f => exact if_neg h
theorem ownN (w : World) (base : Nat) (hb : base ≤ w.heap.size) (c : Array Value) (l : List Int) (hc : c = (l.map (Value.int .i64)).toArray) (hl : l.length ≤ maxLen) : OwnInts (w.alloc (.cells c 3)) base (.slice (some ⟨w.heap.size, 0, none⟩) l.length l.length) l := by
 subst hc
 refine ⟨by simp, .inr ⟨w.heap.size, l.length, _, rfl, hb, one_new w _, Nat.le_refl _, hl, by simp, ?_⟩⟩
 show List.take (l.length * 1) (l.map (Value.int .i64)).toArray.toList = _
 rw [Nat.mul_one]
 exact List.take_of_length_le (by simp)
theorem lst_gl (l : List Int) (n : Nat) (h : l.length = n) : lst (gl l) n = l := by subst h; exact lst_get l
theorem cell_mLg {w : World} {g : Nat} {f : Nat → Int} {t : TypeId} (h : w.heap[g]? = some (.cells (mLg f) t (0, 0))) (i : Nat) (hi : i < 20) (x : Int) (hx : f i = x) : w.cell? ⟨g, i, none⟩ = some (.int .i64 x) := by
 rw [block_cell h, mLg_at f i hi, hx]
theorem own_niln {w : World} {base : Nat} {s : Option Addr} {n c : Nat} {l : List Int} (h : OwnInts w base (.slice s n c) l) (hs : s = none) : n = 0 ∧ c = 0 := by
 subst hs
 rcases h.2 with ⟨h1, h2⟩ | ⟨g, cap, cur, h1, _⟩
 ·
  injection h1 with _ h3 h4
  exact ⟨h3, h4⟩
 ·
  injection h1 with h3
  cases h3
theorem own_isn {w : World} {base : Nat} {s : Option Addr} {n c : Nat} {l : List Int} (h : OwnInts w base (.slice s n c) l) : IsInts w s n (gl l) := by
 obtain ⟨sa, m, cap, hv, hn, hi⟩ := h.shape
 obtain ⟨rfl, rfl, rfl⟩ := Value.slice.inj hv
 exact hi
theorem wpList_append_onton {w : World} {ops : Array Oper} {rest : List Oper} {o : Oper} {a : Act} {Q : Exit → Act → World → Prop} (hgd : o.guard = none) (s x : Operand)
  (ho : o.op = .call { callee := .builtin .append, args := #[s, x], argTypes := #[22, 22] })
  (base : Nat) (v : Value) (l : List Int) (hs : a.eval s = v) (hown : OwnInts w base v l) (sa : Option Addr) (len cap : Nat) (f : Nat → Int) (hx : a.eval x = .slice sa len cap) (hr : IsInts w sa len f) (hnil : sa = none → len = 0 ∧ cap = 0) (hl : l.length + len < 4294967296) (hbase : base ≤ w.heap.size)
  (h : ∀ s' c' w', OwnInts w' base (.slice s' (l.length + len) c') (l ++ lst f len) → Below base w w' → wpList Tryd.prog ops Q rest (a.put o.dst (.slice s' (l.length + len) c')) w') : wpList Tryd.prog ops Q (o :: rest) a w := by
 obtain ⟨i0, hi, hz0, hz1, hz2⟩ := info_parts Tryd.infoInt
 cases sa with
 | none =>
  obtain ⟨rfl, rfl⟩ := hnil rfl
  refine wpList_append_own_none hgd s x 22 ho base 3 i0 1 Tryd.underlying22 hi _ _ _ hs hown hx ?_
  obtain ⟨sa, n, cap, hv, hn, _⟩ := hown.shape
  subst hv hn
  exact h sa cap w (by rw [show lst f 0 = [] from rfl, List.append_nil]; exact hown) (Below.refl _ _)
 | some ad =>
  refine wpList_append_own w hgd s x 22 ho base 3 i0 (.int .i64 0) 1 8 Tryd.underlying22 hi hz0 hz1 hz2 rfl (by decide) _ _ _ hs hown ad len cap ((lst f len).map (Value.int .i64)) hx (by rw [List.length_map, lst_len, Nat.mul_one]) ?_ (ints_one _) (by unfold maxLen; omega) (by omega) hbase ?_
  ·
   intro j u hu
   rw [List.getElem?_map] at hu
   rcases hr with h0 | ⟨b, off, he, hb, hc⟩
   · subst h0; simp [lst] at hu
   ·
    cases he
    by_cases hj : j < len
    ·
     rw [List.getElem?_eq_getElem (by rw [lst_len]; exact hj)] at hu
     simp [lst] at hu
     rw [Go.WideShapes.add_plain, ← hu]
     exact hc j hj
    · rw [List.getElem?_eq_none (by rw [lst_len]; omega)] at hu; cases hu
  ·
   intro v' w' hown' hgrow _
   have hO : OwnInts w' base v' (l ++ lst f len) := by
    unfold OwnInts
    rw [List.length_append, lst_len, List.map_append]
    exact hown'
   obtain ⟨sa, n, cap, hv, hn, _⟩ := hO.shape
   rw [List.length_append, lst_len] at hn
   subst hv hn
   exact h sa cap w' hO (Below.grown (Below.refl _ _) hgrow hbase (fun k hk => (hown.lt k hk).1))
set_option maxRecDepth 100000 in
set_option maxHeartbeats 16000000 in
theorem wanted_g (k n : Nat) (h1 : 1 ≤ k) (h2 : k ≤ 64) (hn : n ≤ 2 * k + 1) (w : World) (ht : Tabs w) :
  Calls Tryd.prog 17 #[.int .i64 k, .int .i64 n] w fun e w' => e = .returned (.bool true) ∧ Below w.heap.size w w' := by
 have HT := Lib.hid ht
 clear ht
 go_enter Tryd.func17, Tryd.ntmps17
 go_wp2_with fail
 go_loopg [5, 6] 2 (fun gg ov nv wr => ∃ (m : Int) (out : List Int) (s : Option Addr) (c : Nat), nv = .int .i64 m ∧ ov = .slice s out.length c ∧ wrG gg m ∧ digW gg m out = digW 2 k [] ∧ out.length + gg ≤ 2 ∧ OwnInts wr w.heap.size (.slice s out.length c) out ∧ Below w.heap.size w wr)
 case atStart => exact ⟨k, [], none, 0, rfl, rfl, ⟨by omega, .inl ⟨rfl, by omega⟩⟩, rfl, by decide, OwnInts.nil _ _, Below.refl _ _⟩
 case round =>
  obtain ⟨m, out, s, c, rfl, rfl, hf, hd, hlen, ho, hb⟩ := hrel
  by_cases hm0 : 0 < m
  ·
   obtain ⟨g, rfl, hg⟩ := wrG_step hf hm0
   rw [digW_step hm0] at hd
   have hm9 : m ≤ 64 := by unfold wrG at hf; omega
   have HG := Lib.hid hg
   have HD := Lib.hid hd
   have HO := Lib.hid ho
   have HBB := Lib.hid hb
   have hne : OwnInts (wr.alloc (.cells #[.int .i64 (48 + m % 10)] 3)) w.heap.size (.slice (some ⟨wr.heap.size, 0, none⟩) 1 1) [48 + m % 10] := ownN wr _ hb.size _ [48 + m % 10] rfl (show 1 ≤ maxLen by decide)
   have HNE := Lib.hid hne
   have HB2 := Lib.hid (below_newJ wr (.cells #[.int .i64 (48 + m % 10)] 3))
   clear hf hg hd ho hb hne
   have ht1 : m.tmod 10 = m % 10 := Int.tmod_eq_emod_of_nonneg (by omega)
   have ht2 : m.tdiv 10 = m / 10 := Int.tdiv_eq_ediv_of_nonneg (by omega)
   have hlen2 : ([48 + m % 10] : List Int).length + out.length < 4294967296 := by simp; omega
   go_wp2_with (first | (at_builtin; refine wpList_append_onton rfl _ _ rfl w.heap.size _ _ rfl HNE.out s out.length c (gl out) rfl ((own_isn HO.out).later HB2.out) (own_niln HO.out) hlen2 (HBB.out.trans (HB2.out.mono HBB.out.size)).size ?_; intro s' c' w' ho' hb'; have HO' := Lib.hid ho'; have HB' := Lib.hid hb'; clear ho' hb'))
   go_roundg g
   case measure => omega
   case rel =>
    have e : ([48 + m % 10] : List Int).length + out.length = ((48 + m % 10) :: out).length := by simp; omega
    have HO2 := HO'.out
    rw [lst_gl out _ rfl, e] at HO2
    exact ⟨m / 10, (48 + m % 10) :: out, s', c', rfl, by rw [List.length_cons, Nat.add_comm], HG.out, HD.out, by simp; omega, HO2, (HBB.out.trans (HB2.out.mono HBB.out.size)).trans HB'.out⟩
  ·
   rw [digW_end hm0] at hd
   subst hd
   obtain ⟨D, hD⟩ : ∃ D, digW 2 (k : Int) [] = D := ⟨_, rfl⟩
   obtain ⟨T, hT⟩ : ∃ T, tms k = T := ⟨_, rfl⟩
   have hT0 := hT
   unfold tms at hT0
   rw [hD] at hT0 hlen ho ⊢
   obtain ⟨q, hq⟩ : ∃ q, D.length = q := ⟨_, rfl⟩
   rw [hq] at hlen ho ⊢
   obtain ⟨L4, hL4⟩ : ∃ L4, [92, 40, 97, 92, 63, 92, 41] ++ T ++ [97] = L4 := ⟨_, rfl⟩
   obtain ⟨n5, hn5⟩ : ∃ n5, L4.length + (2 + q + 1) = n5 := ⟨_, rfl⟩
   obtain ⟨S5, hS5⟩ : ∃ S5, L4 ++ T = S5 := ⟨_, rfl⟩
   have hsrc : srcA k = S5 := by unfold srcA; rw [hT, hL4, hS5]
   have HSRC := Lib.hid hsrc
   have HL4 := Lib.hid hL4
   have HN5 := Lib.hid hn5
   have HS5 := Lib.hid hS5
   have HQ := Lib.hid hq
   have HT0 := Lib.hid hT0
   have HTD := Lib.hid hT
   have HTL := Lib.hid (show T.length = 2 + q + 1 from by rw [← hT0, List.length_append, List.length_append, hq]; rfl)
   have HO := Lib.hid ho
   have HB := Lib.hid hb
   have HQ2 := Lib.hid (show q ≤ 2 from by omega)
   have HOa := Lib.hid (ownN wr wr.heap.size (Nat.le_refl _) _ [92, 123] rfl (by decide))
   have HBa := Lib.hid (below_newJ wr (.cells #[.int .i64 92, .int .i64 123] 3))
   clear hf hlen ho hb hT hT0 hD hq hsrc hL4 hn5 hS5
   go_wp2_with (first
    | (at_builtin; refine wpList_append_onton rfl _ _ rfl wr.heap.size _ [92, 123] rfl HOa.out s q c (gl D) rfl ((own_isn HO.out).later HBa.out) (own_niln HO.out) (by have := HQ2.out; show 2 + q < _; omega) HBa.out.size ?_; intro s1 c1 w1 ho1 hb1; rw [lst_gl D q HQ.out] at ho1; change OwnInts w1 wr.heap.size (.slice s1 (2 + q) c1) _ at ho1; have HO1 := Lib.hid ho1; have HB1 := Lib.hid (HBa.out.trans hb1); clear ho1 hb1)
    | (at_builtin; refine wpList_push3 125 rfl _ _ rfl wr.heap.size s1 (2 + q) c1 _ rfl rfl HO1.out (by have := HQ2.out; omega) HB1.out.size ?_; intro s2 c2 w2 ho2 hg2 _; rw [HT0.out] at ho2; have HB2 := Lib.hid (Below.grown HB1.out hg2 HB1.out.size (fun z hz => (HO1.out.lt z hz).1)); have HO2 := Lib.hid ho2; have HOb := Lib.hid (ownN w2 w2.heap.size (Nat.le_refl _) _ [92, 40, 97, 92, 63, 92, 41] rfl (by decide)); have HBb := Lib.hid (below_newJ w2 (.cells #[.int .i64 92, .int .i64 40, .int .i64 97, .int .i64 92, .int .i64 63, .int .i64 92, .int .i64 41] 3)); clear ho2 hg2)
    | (at_builtin; refine wpList_append_onton rfl _ _ rfl w2.heap.size _ [92, 40, 97, 92, 63, 92, 41] rfl HOb.out s2 (2 + q + 1) c2 (gl T) rfl ((own_isn HO2.out).later HBb.out) (own_niln HO2.out) (by have := HQ2.out; show 7 + (2 + q + 1) < _; omega) HBb.out.size ?_; intro s3 c3 w3 ho3 hb3; rw [lst_gl T _ HTL.out] at ho3; change OwnInts w3 w2.heap.size (.slice s3 (7 + (2 + q + 1)) c3) _ at ho3; have HO3 := Lib.hid ho3; have HB3 := Lib.hid (HBb.out.trans hb3); clear ho3 hb3)
    | (at_builtin; refine wpList_push3 97 rfl _ _ rfl w2.heap.size s3 (7 + (2 + q + 1)) c3 _ rfl rfl HO3.out (by have := HQ2.out; omega) HB3.out.size ?_; intro s4 c4 w4 ho4 hg4 _; rw [HL4.out] at ho4; have HB4 := Lib.hid (Below.grown HB3.out hg4 HB3.out.size (fun z hz => (HO3.out.lt z hz).1)); have HO4 := Lib.hid ho4; have HO24 := Lib.hid (HO2.out.later HB4.out); clear ho4 hg4)
    | (at_builtin; refine wpList_append_onton rfl _ _ rfl w2.heap.size _ L4 rfl HO4.out s2 (2 + q + 1) c2 (gl T) rfl (own_isn HO24.out) (own_niln HO24.out) (by have := HQ2.out; have := HTL.out; rw [← HL4.out]; simp; omega) HB4.out.size ?_; intro s5 c5 w5 ho5 hb5; rw [lst_gl T _ HTL.out, HN5.out, HS5.out] at ho5; rw [HN5.out]; have HO5 := Lib.hid ho5; have HB5 := Lib.hid (HB4.out.trans hb5); clear ho5 hb5))
   have HCB := Lib.hid ((HB.out.trans (HB2.out.mono HB.out.size)).trans (HB5.out.mono (HB.out.trans (HB2.out.mono HB.out.size)).size))
   have HL5 := Lib.hid (show S5.length = n5 from by rw [← HS5.out, List.length_append, HTL.out, HN5.out])
   have HM5 := Lib.hid (show n5 < 1000 from by
    have := HTL.out
    have := HQ2.out
    rw [← HN5.out, ← HL4.out]
    simp
    omega)
   have HCS := Lib.hid (show compileP S5 false = .ok (ndA k) 1 from by rw [← HSRC.out]; exact (caseA k h1 h2).1)
   clear HB5 HO24 HB4 HO3 HB3 HOb HBb HO1 HB1 HOa HBa HO HB HO2 HB2 HO4 HSRC HT0 HTD HTL HQ HQ2 HS5 HN5 HL4
   refine (compiled_g s5 n5 c5 S5 false w5 HL5.out (by have := HM5.out; omega) (own_isn HO5.out) (own_niln HO5.out) (.ok (ndA k) 1) HCS.out).mono ?_
   rintro e w6 hce
   obtain ⟨hb6, pb, rfl, hr6⟩ := (show Below w5.heap.size w5 w6 ∧ ∃ pb, e = .returned (.pointer (some ⟨pb, 0, none⟩)) ∧ Ready w6 pb (ndA k) 1 from hce)
   have HRD := Lib.hid hr6
   have HB6 := Lib.hid (HCB.out.trans (hb6.mono HCB.out.size))
   clear hce hb6 hr6 HO5 HL5 HM5 HCB HCS
   go_wp2_with fail
   refine (groups_g pb w6 (ndA k) 1 HRD.out).mono ?_
   rintro e w7 ⟨rfl, rfl⟩
   go_wp2_with fail
   go_loopg [10, 11] n (fun gg ov iv wr => ∃ (j : Nat) (s : Option Addr) (c : Nat), j + gg = n ∧ iv = .int .i64 j ∧ ov = .slice s j c ∧ OwnInts wr w7.heap.size (.slice s j c) (List.replicate j 97) ∧ Below w7.heap.size w7 wr)
   case atStart => exact ⟨0, none, 0, by omega, rfl, rfl, OwnInts.nil _ _, Below.refl _ _⟩
   case round =>
    obtain ⟨j, s, c, hj, rfl, rfl, ho, hb⟩ := hrel
    have HO := Lib.hid ho
    have HB := Lib.hid hb
    clear ho hb
    by_cases hlt : j < n
    ·
     have q1 : (j : Int) < (n : Int) := by omega
     have q3 : IntKind.i64.wrap ((j : Int) + 1) = ((j + 1 : Nat) : Int) := by rw [IntKind.wrap_i64]; omega
     have hj9 : j < 1000 := by omega
     go_wp2_with (first
      | (at_builtin; refine wpList_push3 97 rfl _ _ rfl w7.heap.size s j c _ rfl rfl HO.out (by omega) HB.out.size ?_; intro s2 c2 w2 ho2 hg2 _; have HB2 := Lib.hid (Below.grown HB.out hg2 HB.out.size (fun z hz => (HO.out.lt z hz).1)); have HO2 := Lib.hid ho2; clear ho2 hg2))
     go_roundg (gk - 1)
     case measure => omega
     case rel => exact ⟨j + 1, s2, c2, by omega, by go_num, rfl, by rw [List.replicate_succ']; exact HO2.out, HB2.out⟩
    ·
     obtain rfl : j = n := by omega
     have q1 : ¬ (j : Int) < (j : Int) := by omega
     have HRD2 := Lib.hid (HRD.out.later HB.out)
     have HT2 := Lib.hid (HT.out.later (HB6.out.trans (HB.out.mono HB6.out.size)))
     have HBz := Lib.hid (HB6.out.trans (HB.out.mono HB6.out.size))
     clear HRD HT HB6 HB
     rcases match_A k j h1 h2 hn with ⟨hlt2, hm⟩ | ⟨hge, b, hm, z0, z1, z2, z3⟩
     ·
      have q2 : (j : Int) < (k : Int) := by omega
      go_wp2_with fail
      refine (match_g _ pb (ndA k) 1 HRD2.out s j c (List.replicate j 97) List.length_replicate (by omega) (own_isn HO.out) HT2.out 0 _ hm).mono ?_
      rintro e w8 ⟨hb8, he⟩
      obtain rfl := (show e = .returned (.tuple #[.agg mZg, .bool false]) from he)
      have HB8 := Lib.hid (HBz.out.trans (hb8.mono HBz.out.size))
      clear hb8 he HRD2 HT2 HO HBz
      go_upto_region 18 with (refine wpList_store_row rfl 23 _ _ rfl w8.heap.size mZg rfl rfl _ _ (one_new w8 _) mZg_info rfl mZg_all ?_)
      have HBf := Lib.hid ((HB8.out.trans ((below_newJ w8 (.cells mZg 23)).mono HB8.out.size)).trans (row_belowg (w := w8.alloc (.cells mZg 23)) (g := w8.heap.size) mZg HB8.out.size))
      change Code.wp _ _ _ _ ((w8.alloc (.cells mZg 23)).setRow w8.heap.size mZg)
      generalize (w8.alloc (.cells mZg 23)).setRow w8.heap.size mZg = w9 at HBf ⊢
      go_wp2
      go_ret
      exact ⟨rfl, HBf.out⟩
     ·
      have q2 : ¬ (j : Int) < (k : Int) := by omega
      obtain ⟨sp, hsp⟩ : ∃ sp, min (j - k) k = sp := ⟨_, rfl⟩
      rw [hsp] at z1 z3
      have q4 : IntKind.i64.wrap ((j : Int) - (k : Int)) = ((j - k : Nat) : Int) := by rw [IntKind.wrap_i64]; omega
      have hmin5 : (if k < j - k then (k : Int) else ((j - k : Nat) : Int)) = (sp : Int) := by split <;> omega
      have hmin7 : (if j - k < k then ((j - k : Nat) : Int) else (k : Int)) = (sp : Int) := by split <;> omega
      have hmin1 : (if (k : Int) < ((j - k : Nat) : Int) then (k : Int) else ((j - k : Nat) : Int)) = (sp : Int) := by split <;> omega
      have hmin3 : (if ((j - k : Nat) : Int) < (k : Int) then ((j - k : Nat) : Int) else (k : Int)) = (sp : Int) := by split <;> omega
      have q5 : IntKind.i64.wrap ((k : Int) + (sp : Int)) = ((k + sp : Nat) : Int) := by rw [IntKind.wrap_i64]; omega
      have q6 : IntKind.i64.wrap ((k : Int) - 1) = ((k - 1 : Nat) : Int) := by rw [IntKind.wrap_i64]; omega
      go_wp2_with fail
      refine (match_g _ pb (ndA k) 1 HRD2.out s j c (List.replicate j 97) List.length_replicate (by omega) (own_isn HO.out) HT2.out 0 _ hm).mono ?_
      rintro e w8 ⟨hb8, he⟩
      obtain rfl := (show e = .returned (.tuple #[.agg (mLg (mKg b 20)), .bool true]) from he)
      have HB8 := Lib.hid (HBz.out.trans (hb8.mono HBz.out.size))
      clear hb8 he HRD2 HT2 HO HBz
      go_upto_region 18 with (refine wpList_store_row rfl 23 _ _ rfl w8.heap.size (mLg (mKg b 20)) rfl rfl _ _ (one_new w8 (.cells mZg 23)) (mLg_info _) rfl (mLg_all _) ?_)
      have HBf := Lib.hid ((HB8.out.trans ((below_newJ w8 (.cells mZg 23)).mono HB8.out.size)).trans (row_belowg (w := w8.alloc (.cells mZg 23)) (g := w8.heap.size) (mLg (mKg b 20)) HB8.out.size))
      have hx9 := row_setg (mLg (mKg b 20)) (one_new w8 (.cells mZg 23))
      change Code.wp _ _ _ _ ((w8.alloc (.cells mZg 23)).setRow w8.heap.size (mLg (mKg b 20)))
      generalize (w8.alloc (.cells mZg 23)).setRow w8.heap.size (mLg (mKg b 20)) = w9 at HBf hx9 ⊢
      have y0 := cell_mLg hx9 0 (by decide) 0 z0
      have y1 := cell_mLg hx9 1 (by decide) ((k + sp : Nat) : Int) (by rw [← z1]; rfl)
      have y2 := cell_mLg hx9 2 (by decide) ((if k ≤ j - k then k - 1 else j - k : Nat) : Int) z2
      have y3 := cell_mLg hx9 3 (by decide) (sp : Int) z3
      clear hx9
      by_cases hsk : k ≤ j - k
      ·
       obtain rfl : sp = k := by omega
       rw [if_pos hsk] at y2
       go_wp2
       go_ret
       exact ⟨rfl, HBf.out⟩
      ·
       have e3 : sp = j - k := by omega
       rw [if_neg hsk, ← e3] at y2
       have q7 : ¬ (sp : Int) = (k : Int) := by omega
       go_wp2
       go_ret
       exact ⟨rfl, HBf.out⟩
end Go.Proofs.YtdegdoilpamjjaaDoor
namespace Go.Proofs.YtdegdoilpamjjaaDoor
open Go.RowKit
set_option linter.unusedVariables false
set_option linter.unusedSimpArgs false
theorem mask_len (a : Int) (m : Nat) (hm : m < 4611686018427387904) : 0 ≤ bits .and .i64 a (m : Int) ∧ bits .and .i64 a (m : Int) ≤ m := by
 have h2 : (BitVec.ofInt 64 (m : Int)).toNat = m := by
  rw [BitVec.toNat_ofInt]
  omega
 have h1 : (BitVec.ofInt 64 a &&& BitVec.ofInt 64 (m : Int)).toNat ≤ m := by
  rw [BitVec.toNat_and]
  exact Nat.le_trans Nat.and_le_right (Nat.le_of_eq h2)
 show 0 ≤ IntKind.i64.wrap ((BitVec.ofInt 64 a &&& BitVec.ofInt 64 (m : Int)).toNat : Int) ∧ IntKind.i64.wrap ((BitVec.ofInt 64 a &&& BitVec.ofInt 64 (m : Int)).toNat : Int) ≤ m
 generalize (BitVec.ofInt 64 a &&& BitVec.ofInt 64 (m : Int)).toNat = k at *
 rw [IntKind.wrap_i64]
 omega
theorem match_B (d n : Nat) (h1 : 1 ≤ d) (h2 : d ≤ 8) (hn : 1 ≤ n) (ms : Bool) : matchR (ndB d) (lineB n ms) 0 = resB d n ms := by
 obtain ⟨c1, c2, c3, c4, c5⟩ := caseB d h1 h2
 unfold matchR
 rw [if_neg (by omega), c2]
 exact run_B0 (okB_of (okB_all d h1 h2)) c3 c4 c5 G0 n hn ms _ (by rw [lineB_len]; omega)
theorem wrapB_succ (g : Nat) (l : List Int) : wrapB (g + 1) l = wrapB g (([92, 40] ++ l) ++ [92, 41, 42]) := rfl
theorem lineB_t (n : Nat) : lineB n true = List.replicate n 97 := by unfold lineB; rw [if_pos rfl, List.append_nil]
theorem lineB_f (n : Nat) : lineB n false = List.replicate n 97 ++ [98] := by unfold lineB; rw [if_neg (by decide)]
set_option maxRecDepth 100000 in
set_option maxHeartbeats 16000000 in
theorem never_g (deep n : Int) (missing : Bool) (w : World) (ht : Tabs w) :
  Calls Tryd.prog 5 #[.int .i64 deep, .int .i64 n, .bool missing] w fun e w' => e = .returned (.bool true) ∧ Below w.heap.size w w' := by
 have HT := Lib.hid ht
 obtain ⟨t0, q0, ht0⟩ : ∃ t0 : Nat, bits .and .i64 (deep / 8) 63 = (t0 : Int) ∧ t0 ≤ 63 := by
  have : 0 ≤ bits .and .i64 (deep / 8) 63 ∧ bits .and .i64 (deep / 8) 63 ≤ 63 := mask_len (deep / 8) 63 (by decide)
  exact ⟨(bits .and .i64 (deep / 8) 63).toNat, by omega, by omega⟩
 obtain ⟨n0, q1, hn0⟩ : ∃ n0 : Nat, bits .and .i64 n 1023 = (n0 : Int) ∧ n0 ≤ 1023 := by
  have : 0 ≤ bits .and .i64 n 1023 ∧ bits .and .i64 n 1023 ≤ 1023 := mask_len n 1023 (by decide)
  exact ⟨(bits .and .i64 n 1023).toNat, by omega, by omega⟩
 obtain ⟨d0, q2, hd0⟩ : ∃ d0 : Nat, bits .and .i64 deep 7 = (d0 : Int) ∧ d0 ≤ 7 := by
  have : 0 ≤ bits .and .i64 deep 7 ∧ bits .and .i64 deep 7 ≤ 7 := mask_len deep 7 (by decide)
  exact ⟨(bits .and .i64 deep 7).toNat, by omega, by omega⟩
 obtain ⟨m0, q3, hm0⟩ : ∃ m0 : Nat, bits .and .i64 n 4095 = (m0 : Int) ∧ m0 ≤ 4095 := by
  have : 0 ≤ bits .and .i64 n 4095 ∧ bits .and .i64 n 4095 ≤ 4095 := mask_len n 4095 (by decide)
  exact ⟨(bits .and .i64 n 4095).toNat, by omega, by omega⟩
 obtain ⟨k, hk⟩ : ∃ k, 1 + t0 = k := ⟨_, rfl⟩
 obtain ⟨K2, hK2⟩ : ∃ K2, 2 * k = K2 := ⟨_, rfl⟩
 obtain ⟨M, hM⟩ : ∃ M, K2 + 2 = M := ⟨_, rfl⟩
 obtain ⟨n1, hn1⟩ : ∃ n1, n0 % M = n1 := ⟨_, rfl⟩
 obtain ⟨d, hd⟩ : ∃ d, 1 + d0 = d := ⟨_, rfl⟩
 obtain ⟨N, hN⟩ : ∃ N, 1 + m0 = N := ⟨_, rfl⟩
 have q4 : IntKind.i64.wrap (1 + (t0 : Int)) = (k : Int) := by rw [IntKind.wrap_i64]; omega
 have q5 : IntKind.i64.wrap (2 * (k : Int)) = (K2 : Int) := by rw [IntKind.wrap_i64]; omega
 have q6 : IntKind.i64.wrap ((K2 : Int) + 2) = (M : Int) := by rw [IntKind.wrap_i64]; omega
 have q7 : Int.tmod (n0 : Int) (M : Int) = (n1 : Int) := by rw [← hn1]; rfl
 have q8 : ¬ (M : Int) = 0 := by omega
 obtain ⟨K1, hK1⟩ : ∃ K1, k - 1 = K1 := ⟨_, rfl⟩
 have q9 : IntKind.i64.wrap ((k : Int) - 1) = (K1 : Int) := by rw [IntKind.wrap_i64]; omega
 have q10 : IntKind.i64.wrap (1 + (d0 : Int)) = (d : Int) := by rw [IntKind.wrap_i64]; omega
 have q11 : IntKind.i64.wrap (1 + (m0 : Int)) = (N : Int) := by rw [IntKind.wrap_i64]; omega
 have hk1 : 1 ≤ k := by omega
 have hk2 : k ≤ 64 := by omega
 have hn2 : n1 ≤ 2 * k + 1 := by have := Nat.mod_lt n0 (show 0 < M from by omega); omega
 have hd1 : 1 ≤ d := by omega
 have hd2 : d ≤ 8 := by omega
 have hN1 : 1 ≤ N := by omega
 have hN2 : N ≤ 4096 := by omega
 have HW1 := fun w ht => Lib.hid (wanted_g k n1 hk1 hk2 hn2 w ht)
 have HW2 := fun w ht => Lib.hid (wanted_g k k hk1 hk2 (by omega) w ht)
 have HW3 := fun w ht => Lib.hid (wanted_g k K1 hk1 hk2 (by omega) w ht)
 clear ht hk hM hK1 hK2 hn1 hd hN ht0 hn0 hd0 hm0 hn2 hk1 hk2
 go_enter Tryd.func5, Tryd.ntmps5
 go_wp2_with fail
 refine (HW1 w HT.out).out.mono ?_
 rintro e w1 ⟨rfl, hb1⟩
 have HB1 := Lib.hid hb1
 clear hb1
 go_wp2_with fail
 refine (HW2 w1 (HT.out.later HB1.out)).out.mono ?_
 rintro e w2 ⟨rfl, hb2⟩
 have HB2 := Lib.hid (HB1.out.trans (hb2.mono HB1.out.size))
 clear hb2 HB1
 go_wp2_with fail
 refine (HW3 w2 (HT.out.later HB2.out)).out.mono ?_
 rintro e w3 ⟨rfl, hb3⟩
 have HB3 := Lib.hid (HB2.out.trans (hb3.mono HB2.out.size))
 clear hb3 HB2 HW1 HW2 HW3
 have HO3 := Lib.hid (ownN w3 w3.heap.size (Nat.le_refl _) _ [97, 42] rfl (by decide))
 have HBn3 := Lib.hid (below_newJ w3 (.cells #[.int .i64 97, .int .i64 42] 3))
 go_wp2_with fail
 go_loopg [9, 10] d (fun gg ov iv wr => ∃ (j : Nat) (l : List Int) (s : Option Addr) (m c : Nat), j + gg = d ∧ iv = .int .i64 j ∧ ov = .slice s m c ∧ l.length = m ∧ m = 2 + 5 * j ∧ wrapB gg l = wrapB d [97, 42] ∧ OwnInts wr w3.heap.size (.slice s m c) l ∧ Below w3.heap.size w3 wr)
 case atStart => exact ⟨0, [97, 42], _, 2, 2, by omega, rfl, rfl, rfl, rfl, rfl, HO3.out, HBn3.out⟩
 case round =>
  obtain ⟨j, l, s, m, c, hj, rfl, rfl, hl, hm, hw, ho, hb⟩ := hrel
  have HO := Lib.hid ho
  have HB := Lib.hid hb
  have HL := Lib.hid hl
  have HM := Lib.hid hm
  have hm9 : m < 1000 := by omega
  clear ho hb hl hm HO3 HBn3
  by_cases hlt : j < d
  ·
   obtain ⟨g, rfl⟩ : ∃ g, gk = g + 1 := ⟨gk - 1, by omega⟩
   rw [wrapB_succ] at hw
   have HW := Lib.hid hw
   clear hw
   have p1 : (j : Int) < (d : Int) := by omega
   have p2 : IntKind.i64.wrap ((j : Int) + 1) = ((j + 1 : Nat) : Int) := by rw [IntKind.wrap_i64]; omega
   have HOa := Lib.hid (ownN wr w3.heap.size HB.out.size _ [92, 40] rfl (by decide))
   have HBa := Lib.hid (below_newJ wr (.cells #[.int .i64 92, .int .i64 40] 3))
   go_wp2_with (first
    | (at_builtin; refine wpList_append_onton rfl _ _ rfl w3.heap.size _ [92, 40] rfl HOa.out s m c (gl l) rfl ((own_isn HO.out).later HBa.out) (own_niln HO.out) (by show 2 + m < _; omega) (HB.out.trans (HBa.out.mono HB.out.size)).size ?_; intro s1 c1 w1 ho1 hb1; rw [lst_gl l m HL.out] at ho1; change OwnInts w1 w3.heap.size (.slice s1 (2 + m) c1) _ at ho1; have HO1 := Lib.hid ho1; have HB1 := Lib.hid ((HB.out.trans (HBa.out.mono HB.out.size)).trans hb1); have HOb := Lib.hid (ownN w1 w1.heap.size (Nat.le_refl _) _ [92, 41, 42] rfl (by decide)); have HBb := Lib.hid (below_newJ w1 (.cells #[.int .i64 92, .int .i64 41, .int .i64 42] 3)); have HO1b := Lib.hid (HO1.out.later HBb.out); have HL1 := Lib.hid (show ([92, 40] ++ l).length = 2 + m from by rw [List.length_append, HL.out]; rfl); clear ho1 hb1)
    | (at_builtin; refine wpList_append_onton rfl _ _ rfl w3.heap.size _ ([92, 40] ++ l) rfl HO1b.out (some ⟨w1.heap.size, 0, none⟩) 3 3 (gl [92, 41, 42]) rfl (own_isn HOb.out) (fun h => by cases h) (by rw [HL1.out]; omega) (HB1.out.trans (HBb.out.mono HB1.out.size)).size ?_; intro s2 c2 w2 ho2 hb2; rw [HL1.out] at ho2; rw [HL1.out]; have HO2 := Lib.hid ho2; have HB2 := Lib.hid ((HB1.out.trans (HBb.out.mono HB1.out.size)).trans hb2); clear ho2 hb2))
   go_roundg g
   case measure => omega
   case rel => exact ⟨j + 1, ([92, 40] ++ l) ++ [92, 41, 42], s2, 2 + m + 3, c2, by omega, by go_num, rfl, by rw [List.length_append, HL1.out]; rfl, by have := HM.out; omega, HW.out, HO2.out, HB2.out⟩
  ·
   obtain rfl : gk = 0 := by omega
   obtain rfl : j = d := by omega
   have p1 : ¬ (j : Int) < (j : Int) := by omega
   have HWB := Lib.hid (show l ++ [98] = srcB j from by unfold srcB; rw [← hw]; rfl)
   clear hw
   go_wp2_with (first
    | (at_builtin; refine wpList_push3 98 rfl _ _ rfl w3.heap.size s m c _ rfl rfl HO.out (by omega) HB.out.size ?_; intro s2 c2 w2 ho2 hg2 _; rw [HWB.out] at ho2; have HB2 := Lib.hid (Below.grown HB.out hg2 HB.out.size (fun z hz => (HO.out.lt z hz).1)); have HO2 := Lib.hid ho2; clear ho2 hg2))
   have HL5 := Lib.hid (show (srcB j).length = m + 1 from by rw [← HWB.out, List.length_append, HL.out]; rfl)
   have HCS := Lib.hid (caseB j hd1 hd2).1
   generalize srcB j = S5 at HO2 HL5 HCS ⊢
   have HCB := Lib.hid (HB3.out.trans (HB2.out.mono HB3.out.size))
   clear HWB HL HO HB HB2
   refine (compiled_g s2 (m + 1) c2 S5 false w2 HL5.out (by omega) (own_isn HO2.out) (own_niln HO2.out) (.ok (ndB j) j) HCS.out).mono ?_
   rintro e w6 hce
   obtain ⟨hb6, pb, rfl, hr6⟩ := (show Below w2.heap.size w2 w6 ∧ ∃ pb, e = .returned (.pointer (some ⟨pb, 0, none⟩)) ∧ Ready w6 pb (ndB j) j from hce)
   have HRD := Lib.hid hr6
   have HB6 := Lib.hid (HCB.out.trans (hb6.mono HCB.out.size))
   clear hce hb6 hr6 HO2 HL5 HCS HCB
   go_wp2_with fail
   refine (groups_g pb w6 (ndB j) j HRD.out).mono ?_
   rintro e w7 ⟨rfl, rfl⟩
   go_wp2_with fail
   go_loopg [12, 13] N (fun gg ov iv wr => ∃ (i : Nat) (s : Option Addr) (c : Nat), i + gg = N ∧ iv = .int .i64 i ∧ ov = .slice s i c ∧ OwnInts wr w7.heap.size (.slice s i c) (List.replicate i 97) ∧ Below w7.heap.size w7 wr)
   case atStart => exact ⟨0, none, 0, by omega, rfl, rfl, OwnInts.nil _ _, Below.refl _ _⟩
   case round =>
    obtain ⟨i, s, c, hi, rfl, rfl, ho, hb⟩ := hrel
    have HO := Lib.hid ho
    have HB := Lib.hid hb
    clear ho hb
    by_cases hlt2 : i < N
    ·
     have p3 : (i : Int) < (N : Int) := by omega
     have p4 : IntKind.i64.wrap ((i : Int) + 1) = ((i + 1 : Nat) : Int) := by rw [IntKind.wrap_i64]; omega
     have hi9 : i < 5000 := by omega
     go_wp2_with (first
      | (at_builtin; refine wpList_push3 97 rfl _ _ rfl w7.heap.size s i c _ rfl rfl HO.out (by omega) HB.out.size ?_; intro s2 c2 w2 ho2 hg2 _; have HB2 := Lib.hid (Below.grown HB.out hg2 HB.out.size (fun z hz => (HO.out.lt z hz).1)); have HO2 := Lib.hid ho2; clear ho2 hg2))
     go_roundg (gk - 1)
     case measure => omega
     case rel => exact ⟨i + 1, s2, c2, by omega, by go_num, rfl, by rw [List.replicate_succ']; exact HO2.out, HB2.out⟩
    ·
     obtain rfl : i = N := by omega
     have p3 : ¬ (i : Int) < (i : Int) := by omega
     cases missing with
     | true =>
      have hm := match_B j i hd1 hd2 hN1 true
      rw [lineB_t] at hm
      have HRD2 := Lib.hid (HRD.out.later HB.out)
      have HT2 := Lib.hid (HT.out.later (HB6.out.trans (HB.out.mono HB6.out.size)))
      have HBz := Lib.hid (HB6.out.trans (HB.out.mono HB6.out.size))
      clear HRD HT HB6 HB
      go_wp2_with fail
      refine (match_g _ pb (ndB j) j HRD2.out s i c (List.replicate i 97) List.length_replicate (by omega) (own_isn HO.out) HT2.out 0 _ hm).mono ?_
      rintro e w8 ⟨hb8, he⟩
      obtain rfl := (show e = .returned (.tuple #[.agg mZg, .bool false]) from he)
      have HB8 := Lib.hid (HBz.out.trans (hb8.mono HBz.out.size))
      clear hb8 he HRD2 HT2 HO HBz
      go_upto_region 25 with (refine wpList_store_row rfl 23 _ _ rfl w8.heap.size mZg rfl rfl _ _ (one_new w8 _) mZg_info rfl mZg_all ?_)
      have HBf := Lib.hid ((HB8.out.trans ((below_newJ w8 (.cells mZg 23)).mono HB8.out.size)).trans (row_belowg (w := w8.alloc (.cells mZg 23)) (g := w8.heap.size) mZg HB8.out.size))
      change Code.wp _ _ _ _ ((w8.alloc (.cells mZg 23)).setRow w8.heap.size mZg)
      generalize (w8.alloc (.cells mZg 23)).setRow w8.heap.size mZg = w9 at HBf ⊢
      go_wp2
      go_ret
      exact ⟨rfl, HBf.out⟩
     | false =>
      obtain ⟨b, hb⟩ : ∃ b, BestD.mk 0 (i + 1) (atY i (odB j) ++ (atY 0 (evB j) ++ [])) = b := ⟨_, rfl⟩
      have hm : matchR (ndB j) (List.replicate i 97 ++ [98]) 0 = some b := by
       rw [← lineB_f, match_B j i hd1 hd2 hN1 false, ← hb]; rfl
      obtain ⟨z2, z3, z4, z5⟩ := resB_notes (okB_of (okB_all j hd1 hd2)) i
      have zf : b.from' = 0 := by rw [← hb]
      have zt : b.to' = i + 1 := by rw [← hb]
      have zn : b.notes = atY i (odB j) ++ (atY 0 (evB j) ++ []) := by rw [← hb]
      rw [← zn] at z2 z3 z4 z5
      clear hb zn
      obtain ⟨E, hE⟩ : ∃ E, 2 * j = E := ⟨_, rfl⟩
      rw [hE] at z4 z5
      have hE2 : 2 ≤ E ∧ E ≤ 16 := by omega
      have p4 : IntKind.i64.wrap (2 * (j : Int)) = (E : Int) := by rw [IntKind.wrap_i64]; omega
      have p5 : IntKind.i64.wrap ((E : Int) + 1) = ((E + 1 : Nat) : Int) := by rw [IntKind.wrap_i64]; omega
      have p6 : IntKind.i64.wrap ((i : Int) + 1) = ((i + 1 : Nat) : Int) := by rw [IntKind.wrap_i64]; omega
      have p7 : (E : Int) < 20 := by omega
      have p8 : ((E + 1 : Nat) : Int) < 20 := by omega
      have p9 : (0 : Int) ≤ (E : Int) := by omega
      have p10 : (0 : Int) ≤ ((E + 1 : Nat) : Int) := by omega
      have hi9 : i < 5000 := by omega
      go_wp2_with (first
       | (at_builtin; refine wpList_push3 98 rfl _ _ rfl w7.heap.size s i c _ rfl rfl HO.out (by omega) HB.out.size ?_; intro s2 c2 w2 ho2 hg2 _; have HB2 := Lib.hid (Below.grown HB.out hg2 HB.out.size (fun z hz => (HO.out.lt z hz).1)); have HO2 := Lib.hid ho2; clear ho2 hg2))
      have HRD2 := Lib.hid (HRD.out.later HB2.out)
      have HT2 := Lib.hid (HT.out.later (HB6.out.trans (HB2.out.mono HB6.out.size)))
      have HBz := Lib.hid (HB6.out.trans (HB2.out.mono HB6.out.size))
      clear HRD HT HB6 HB HB2 HO
      refine (match_g _ pb (ndB j) j HRD2.out s2 (i + 1) c2 (List.replicate i 97 ++ [98]) (by rw [List.length_append, List.length_replicate]; rfl) (by omega) (own_isn HO2.out) HT2.out 0 _ hm).mono ?_
      rintro e w8 ⟨hb8, he⟩
      obtain rfl := (show e = .returned (.tuple #[.agg (mLg (mKg b 20)), .bool true]) from he)
      have HB8 := Lib.hid (HBz.out.trans (hb8.mono HBz.out.size))
      clear hb8 he HRD2 HT2 HO2 HBz
      go_upto_region 25 with (refine wpList_store_row rfl 23 _ _ rfl w8.heap.size (mLg (mKg b 20)) rfl rfl _ _ (one_new w8 (.cells mZg 23)) (mLg_info _) rfl (mLg_all _) ?_)
      have HBf := Lib.hid ((HB8.out.trans ((below_newJ w8 (.cells mZg 23)).mono HB8.out.size)).trans (row_belowg (w := w8.alloc (.cells mZg 23)) (g := w8.heap.size) (mLg (mKg b 20)) HB8.out.size))
      have hx9 := row_setg (mLg (mKg b 20)) (one_new w8 (.cells mZg 23))
      change Code.wp _ _ _ _ ((w8.alloc (.cells mZg 23)).setRow w8.heap.size (mLg (mKg b 20)))
      generalize (w8.alloc (.cells mZg 23)).setRow w8.heap.size (mLg (mKg b 20)) = w9 at HBf hx9 ⊢
      have mk : ∀ x, 2 ≤ x → x < 20 → mKg b 20 x = noteIn b.notes (x : Int) := fun x h1 h2 => by
       unfold mKg
       rw [if_neg (by omega), if_neg (by omega), if_pos h2]
      have y0 := cell_mLg hx9 0 (by decide) 0 zf
      have y1 := cell_mLg hx9 1 (by decide) ((i + 1 : Nat) : Int) (by rw [← zt]; rfl)
      have y2 := cell_mLg hx9 2 (by decide) 0 ((mk 2 (by decide) (by decide)).trans z2)
      have y3 := cell_mLg hx9 3 (by decide) (i : Int) ((mk 3 (by decide) (by decide)).trans z3)
      have y4 := cell_mLg hx9 E (by omega) 0 ((mk E (by omega) (by omega)).trans z4)
      have y5 := cell_mLg hx9 (E + 1) (by omega) (i : Int) ((mk (E + 1) (by omega) (by omega)).trans z5)
      clear hx9 mk z2 z3 z4 z5 zf zt
      go_wp2
      go_ret
      exact ⟨rfl, HBf.out⟩
end Go.Proofs.YtdegdoilpamjjaaDoor
