/- The walk of ClusterCut. Condition: fewer than 2^20 members. -/
import Derived.Test.YtpipcmbfdcbboaaCx
namespace Go.Proofs.Ytpipcmbfdcbboaa
open Go.RowKit
/-- what stands behind a boundary -/
theorem stG_cut {f : Nat → Int} {p : Nat} (hb : brkB f p = true) : ∀ j, stG (fun i => f (i + p)) j = stG f (j + p) := by
  intro j
  induction j with
  | zero => rw [Nat.zero_add, stG_brk hb]; show beginF (f (0 + p)) = _; rw [Nat.zero_add]
  | succ j ih =>
    rw [show j + 1 + p = (j + p) + 1 from by omega, stG_succ, stG_succ, ih]
    show (if joinsB _ (classF (f (j + 1 + p))) _ = true then _ else _) = _
    rw [show j + 1 + p = j + p + 1 from by omega]
theorem brkB_cut {f : Nat → Int} {p : Nat} (hb : brkB f p = true) (j : Nat) : brkB (fun i => f (i + p)) j = brkB f (j + p) := by
  cases j with
  | zero => rw [Nat.zero_add, hb]; rfl
  | succ j =>
    rw [show j + 1 + p = (j + p) + 1 from by omega, brk_succ, brk_succ, stG_cut hb]
    show (!joinsB _ (classF (f (j + 1 + p))) (conjF (f (j + 1 + p)))) = _
    rw [show j + 1 + p = j + p + 1 from by omega]
theorem isB_cut {f : Nat → Int} {n p : Nat} (hp : p ≤ n) (hb : isB f n p = true) (j : Nat) (hj : j ≤ n - p) : isB (fun i => f (i + p)) (n - p) j = isB f n (j + p) := by
  by_cases hn : p < n
  · by_cases h : j < n - p
    · rw [isB_brk h, isB_brk (by omega)]
      rw [isB_brk hn] at hb
      exact brkB_cut hb j
    · rw [show j = n - p from by omega, isB_end, show n - p + p = n from by omega, isB_end]
  · have : p = n := by omega
    subst this
    rw [show j = 0 from by omega, Nat.zero_add, isB_end]; rfl
theorem allB_cut {f : Nat → Int} {n p : Nat} (hp : p ≤ n) (hb : isB f n p = true) : (allB (fun i => f (i + p)) (n - p)).map Int.ofNat = fromL (bf f n) (bn f n) p := by
  unfold fromL
  rw [lst_bf, List.filter_map, List.map_map]
  unfold allB
  rw [List.filter_filter]
  rw [show List.range (n + 1) = List.range p ++ (List.range (n - p + 1)).map (p + ·) from by rw [← List.range_add]; congr 1; omega, List.filter_append]
  rw [show List.filter _ (List.range p) = [] from ?_, List.nil_append, List.filter_map, List.map_map]
  · rw [show (List.range (n - p + 1)).filter (isB (fun i => f (i + p)) (n - p)) = (List.range (n - p + 1)).filter _ from ?_]
    · apply List.map_congr_left
      intro j _
      simp
      omega
    · apply List.filter_congr
      intro j hj
      rw [List.mem_range] at hj
      rw [isB_cut hp hb j (by omega)]
      simp
      rw [show p + j = j + p from by omega]
  · rw [List.filter_eq_nil_iff]
    intro j hj
    rw [List.mem_range] at hj
    simp; intro h; omega
theorem IsInts.cut {w : World} {b o n p : Nat} {f : Nat → Int} (h : IsInts w (some ⟨b, o, none⟩) n f) (hp : p ≤ n) : IsInts w (some ⟨b, o + p, none⟩) (n - p) (fun i => f (i + p)) := by
  rcases h with h | ⟨b', off, hs, hlt, hc⟩
  · exact .inl (by omega)
  · cases hs
    refine .inr ⟨b, o + p, rfl, hlt, fun i hi => ?_⟩
    have := hc (i + p) (by omega)
    rw [show o + p + i = o + (i + p) from by omega]; exact this
theorem IsInts.cut0 {w : World} {b n p : Nat} {f : Nat → Int} (h : IsInts w (some ⟨b, 0, none⟩) n f) (hp : p ≤ n) : IsInts w (some ⟨b, p, none⟩) (n - p) (fun i => f (i + p)) := by
  have := h.cut hp
  rw [Nat.zero_add] at this; exact this
set_option maxHeartbeats 4000000 in
theorem lawcut_any (sh st : Option Addr) (nh ch nt ct : Nat) (fh ft : Nat → Int) (w : World) (hlh : nh < 1048577) (hh : IsInts w sh nh fh) (hlt : nt < 1048577) (ht : IsInts w st nt ft) :
    Calls Try.prog 6 #[.slice sh nh ch, .slice st nt ct] w fun e w' => e = .returned (.bool true) ∧ Below w.heap.size w w' := by
  have HIh := Lib.hid hh
  have HIt := Lib.hid ht
  have HB := Lib.hid (Below.refl w.heap.size w)
  clear hh ht
  obtain ⟨p, hs⟩ : ∃ p, snapF (cat fh nh ft) (nh + nt) nh = p := ⟨_, rfl⟩
  have hp : p ≤ nh := by have := (snapN_spec (cat fh nh ft) (nh + nt) (min (nh : Int).toNat (nh + nt))).1; rw [← hs]; unfold snapF; omega
  have hb : isB (cat fh nh ft) (nh + nt) p = true := by rw [← hs]; exact (snapN_spec (cat fh nh ft) (nh + nt) (min (nh : Int).toNat (nh + nt))).2.1
  have hf : isF (cat fh nh ft) (nh + nt) (p : Nat) = true := by rw [isF_nat (by omega)]; exact hb
  have HS := Lib.hid hs
  have HF := Lib.hid hf
  have HBB := Lib.hid hb
  clear hs hf hb
  go_enter Try.func6, Try.ntmps6
  go_wp2_with fail
  refine (joined_c sh st nh ch nt ct fh ft _ (by omega) HIh.out HIt.out).mono ?_
  rintro e w1 ⟨sa, ca, rfl, hi, hc, ho, hb⟩
  have HIa := Lib.hid hi
  have HOa := Lib.hid ho
  have HCa := Lib.hid hc
  replace HIh := Lib.hid (HIh.out.later hb)
  replace HIt := Lib.hid (HIt.out.later hb)
  replace HB := Lib.hid (bt HB.out hb)
  clear hb hi hc ho
  clear HIh
  clear HIt
  go_wp2_with fail
  refine (copied_c sa (nh + nt) ca (cat fh nh ft) _ (by omega) HIa.out).mono ?_
  rintro e w2 ⟨sa2, ca2, rfl, hi, hc, ho, hb⟩
  have HIa2 := Lib.hid hi
  replace HIa := Lib.hid (HIa.out.later hb)
  replace HB := Lib.hid (bt HB.out hb)
  clear hb hi hc ho
  go_wp2_with fail
  refine (breaks_c sa2 (nh + nt) ca2 (cat fh nh ft) _ (by omega) HIa2.out).mono ?_
  rintro e w3 ⟨sx, cx, rfl, hi, ho, hb⟩
  have HIx := Lib.hid hi
  replace HIa := Lib.hid (HIa.out.later hb)
  replace HIa2 := Lib.hid (HIa2.out.later hb)
  replace HB := Lib.hid (bt HB.out hb)
  clear hb hi ho
  clear HIa2
  go_wp2_with fail
  refine (ends_c sx cx (nh + nt) (cat fh nh ft) _ (by omega) HIx.out).mono ?_
  rintro e w4 ⟨rfl, hb⟩
  replace HIa := Lib.hid (HIa.out.later hb)
  replace HIx := Lib.hid (HIx.out.later hb)
  replace HB := Lib.hid (bt HB.out hb)
  clear hb
  go_wp2_with fail
  refine (copied_c sa (nh + nt) ca (cat fh nh ft) _ (by omega) HIa.out).mono ?_
  rintro e w5 ⟨sa3, ca3, rfl, hi, hc, ho, hb⟩
  have HIa3 := Lib.hid hi
  replace HIa := Lib.hid (HIa.out.later hb)
  replace HIx := Lib.hid (HIx.out.later hb)
  replace HB := Lib.hid (bt HB.out hb)
  clear hb hi hc ho
  go_wp2_with fail
  refine (snap_any sa3 (nh + nt) ca3 (cat fh nh ft) nh _ (by unfold maxLen; omega) HIa3.out).mono ?_
  rintro e w6 ⟨rfl, hb⟩
  rw [HS.out]
  replace HIa := Lib.hid (HIa.out.later hb)
  replace HIx := Lib.hid (HIx.out.later hb)
  replace HIa3 := Lib.hid (HIa3.out.later hb)
  replace HB := Lib.hid (bt HB.out hb)
  clear hb
  clear HIa3
  go_wp2_with fail
  refine (copied_c sa (nh + nt) ca (cat fh nh ft) _ (by omega) HIa.out).mono ?_
  rintro e w7 ⟨sa4, ca4, rfl, hi, hc, ho, hb⟩
  have HIa4 := Lib.hid hi
  replace HIa := Lib.hid (HIa.out.later hb)
  replace HIx := Lib.hid (HIx.out.later hb)
  replace HB := Lib.hid (bt HB.out hb)
  clear hb hi hc ho
  go_wp2_with fail
  refine (isbreak_any sa4 (nh + nt) ca4 (cat fh nh ft) p _ (by unfold maxLen; omega) HIa4.out).mono ?_
  rintro e w8 ⟨rfl, hb⟩
  rw [HF.out]
  replace HIa := Lib.hid (HIa.out.later hb)
  replace HIx := Lib.hid (HIx.out.later hb)
  replace HIa4 := Lib.hid (HIa4.out.later hb)
  replace HB := Lib.hid (bt HB.out hb)
  clear hb
  clear HIa4
  have hsa : ∃ ga, sa = ga ∧ (ga = none ∧ nh + nt = 0 ∧ ca = 0 ∨ ∃ gb, ga = some ⟨gb, 0, none⟩) := by
    refine ⟨sa, rfl, ?_⟩
    rcases HOa.out.2 with ⟨hnil, hz⟩ | ⟨gb, cap, cur, hsl, hrest⟩
    · exact .inl ⟨(Value.slice.inj hnil).1, (Value.slice.inj hnil).2.1, (Value.slice.inj hnil).2.2⟩
    · exact .inr ⟨gb, (Value.slice.inj hsl).1⟩
  have hca := HCa.out
  have hL := allB_cut (f := cat fh nh ft) (n := nh + nt) (p := p) (by omega) HBB.out
  have HL := Lib.hid hL
  clear hL
  obtain ⟨ga, rfl, ⟨rfl, hz, rfl⟩ | ⟨gb, rfl⟩⟩ := hsa
  · obtain rfl : nh = 0 := by omega
    obtain rfl : nt = 0 := by omega
    obtain rfl : p = 0 := by omega
    go_wp2_with fail
    refine (copied_c _ (0 + 0 - 0) _ (fun i => cat fh 0 ft (i + 0)) _ (by omega) (by exact .inl rfl)).mono ?_
    rintro e w30 ⟨sq, cq, rfl, hi, hc, ho, hb⟩
    have HIq := Lib.hid hi
    replace HIx := Lib.hid (HIx.out.later hb)
    replace HIa := Lib.hid (HIa.out.later hb)
    replace HB := Lib.hid (bt HB.out hb)
    clear hi hc ho hb
    go_wp2_with fail
    refine (breaks_c sq (0 + 0 - 0) cq (fun i => cat fh 0 ft (i + 0)) _ (by omega) HIq.out).mono ?_
    rintro e w31 ⟨sy, cy, rfl, hi, ho, hb⟩
    have HIy := Lib.hid hi
    replace HIa := Lib.hid (HIa.out.later hb)
    replace HIx := Lib.hid (HIx.out.later hb)
    replace HIq := Lib.hid (HIq.out.later hb)
    replace HB := Lib.hid (bt HB.out hb)
    clear hb hi ho
    go_wp2_with fail
    refine (from_c sx (bn (cat fh 0 ft) (0 + 0)) cx (bf (cat fh 0 ft) (0 + 0)) ((0 : Nat) : Int) _ (by have := bn_bd (cat fh 0 ft) (0 + 0); omega) HIx.out (by omega) (fun i hi => by have := bf_bd _ _ i hi; omega)).mono ?_
    rintro e w32 ⟨su, cu, mu, hm, rfl, hi, hb⟩
    have HIu := Lib.hid hi
    have HMu := Lib.hid hm
    replace HIa := Lib.hid (HIa.out.later hb)
    replace HIx := Lib.hid (HIx.out.later hb)
    replace HIq := Lib.hid (HIq.out.later hb)
    replace HIy := Lib.hid (HIy.out.later hb)
    replace HB := Lib.hid (bt HB.out hb)
    clear hb hi hm
    have hm := HMu.out
    have hmu : mu < 4294967296 := by have := fromL_len (bf (cat fh 0 ft) (0 + 0)) (bn (cat fh 0 ft) (0 + 0)) ((0 : Nat) : Int); have := bn_bd (cat fh 0 ft) (0 + 0); omega
    have hS : sameB (bf (fun i => cat fh 0 ft (i + 0)) (0 + 0 - 0)) (bn (fun i => cat fh 0 ft (i + 0)) (0 + 0 - 0)) (gl (fromL (bf (cat fh 0 ft) (0 + 0)) (bn (cat fh 0 ft) (0 + 0)) ((0 : Nat) : Int))) mu = true := by
      refine sameB_of ?_
      rw [lst_gl' hm.symm, lst_bf, HL.out]
    have HSS := Lib.hid hS
    clear hm hS
    have hbny := bn_bd (fun i => cat fh 0 ft (i + 0)) (0 + 0 - 0)
    have HBN := Lib.hid hbny
    clear hbny
    go_wp2_with fail
    refine (same_any sy su _ cy mu cu _ _ _ (by have := HBN.out; unfold maxLen; omega) (by unfold maxLen; omega) HIy.out HIu.out).mono ?_
    rintro e wz ⟨rfl, hb⟩
    rw [HSS.out]
    replace HB := Lib.hid (bt HB.out hb)
    clear hb
    go_wp2
    go_ret
    exact ⟨rfl, HB.out⟩
  · go_wp2_with fail
    all_goals
      refine (copied_c _ (nh + nt - p) _ (fun i => cat fh nh ft (i + p)) _ (by omega) (by first | exact HIa.out.cut0 (by omega) | exact .inl (by omega))).mono ?_
      rintro e w30 ⟨sq, cq, rfl, hi, hc, ho, hb⟩
      have HIq := Lib.hid hi
      replace HIx := Lib.hid (HIx.out.later hb)
      replace HIa := Lib.hid (HIa.out.later hb)
      replace HB := Lib.hid (bt HB.out hb)
      clear hi hc ho hb
      go_wp2_with fail
      refine (breaks_c sq (nh + nt - p) cq (fun i => cat fh nh ft (i + p)) _ (by omega) HIq.out).mono ?_
      rintro e w31 ⟨sy, cy, rfl, hi, ho, hb⟩
      have HIy := Lib.hid hi
      replace HIa := Lib.hid (HIa.out.later hb)
      replace HIx := Lib.hid (HIx.out.later hb)
      replace HIq := Lib.hid (HIq.out.later hb)
      replace HB := Lib.hid (bt HB.out hb)
      clear hb hi ho
      go_wp2_with fail
      refine (from_c sx (bn (cat fh nh ft) (nh + nt)) cx (bf (cat fh nh ft) (nh + nt)) (p : Int) _ (by have := bn_bd (cat fh nh ft) (nh + nt); omega) HIx.out (by omega) (fun i hi => by have := bf_bd _ _ i hi; omega)).mono ?_
      rintro e w32 ⟨su, cu, mu, hm, rfl, hi, hb⟩
      have HIu := Lib.hid hi
      have HMu := Lib.hid hm
      replace HIa := Lib.hid (HIa.out.later hb)
      replace HIx := Lib.hid (HIx.out.later hb)
      replace HIq := Lib.hid (HIq.out.later hb)
      replace HIy := Lib.hid (HIy.out.later hb)
      replace HB := Lib.hid (bt HB.out hb)
      clear hb hi hm
      have hm := HMu.out
      have hmu : mu < 4294967296 := by have := fromL_len (bf (cat fh nh ft) (nh + nt)) (bn (cat fh nh ft) (nh + nt)) p; have := bn_bd (cat fh nh ft) (nh + nt); omega
      have hS : sameB (bf (fun i => cat fh nh ft (i + p)) (nh + nt - p)) (bn (fun i => cat fh nh ft (i + p)) (nh + nt - p)) (gl (fromL (bf (cat fh nh ft) (nh + nt)) (bn (cat fh nh ft) (nh + nt)) p)) mu = true := by
        refine sameB_of ?_
        rw [lst_gl' hm.symm, lst_bf, HL.out]
      have HSS := Lib.hid hS
      clear hm hS
      have hbny := bn_bd (fun i => cat fh nh ft (i + p)) (nh + nt - p)
      have HBN := Lib.hid hbny
      clear hbny
      go_wp2_with fail
      refine (same_any sy su _ cy mu cu _ _ _ (by have := HBN.out; unfold maxLen; omega) (by unfold maxLen; omega) HIy.out HIu.out).mono ?_
      rintro e wz ⟨rfl, hb⟩
      rw [HSS.out]
      replace HB := Lib.hid (bt HB.out hb)
      clear hb
      go_wp2
      go_ret
      exact ⟨rfl, HB.out⟩
end Go.Proofs.Ytpipcmbfdcbboaa
