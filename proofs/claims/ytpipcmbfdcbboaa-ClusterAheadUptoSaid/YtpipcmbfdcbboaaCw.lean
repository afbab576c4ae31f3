/- The walk of ClusterAhead. Condition: fewer than 2^31 members. -/
import Derived.Test.YtpipcmbfdcbboaaCv
namespace Go.Proofs.Ytpipcmbfdcbboaa
open Go.RowKit
set_option maxHeartbeats 2000000 in
theorem lawahead_any (sh so st : Option Addr) (nh ch no co nt ct : Nat) (fh fo ft : Nat → Int) (w : World) (hlh : nh < 1048577) (hh : IsInts w sh nh fh) (hlo : no < 1048577) (ho : IsInts w so no fo) (hlt : nt < 1048577) (ht : IsInts w st nt ft) :
    Calls Try.prog 4 #[.slice sh nh ch, .slice so no co, .slice st nt ct] w fun e w' => e = .returned (.bool true) ∧ Below w.heap.size w w' := by
  have HIh := Lib.hid hh
  have HIo := Lib.hid ho
  have HIt := Lib.hid ht
  have HB := Lib.hid (Below.refl w.heap.size w)
  clear hh ho ht
  go_enter Try.func4, Try.ntmps4
  go_wp2_with fail
  refine (joined_c sh so nh ch no co fh fo _ (by omega) HIh.out HIo.out).mono ?_
  rintro e w1 ⟨sa, ca, rfl, hi, hc, ho, hb⟩
  have HIa := Lib.hid hi
  replace HIh := Lib.hid (HIh.out.later hb)
  replace HIo := Lib.hid (HIo.out.later hb)
  replace HIt := Lib.hid (HIt.out.later hb)
  replace HB := Lib.hid (bt HB.out hb)
  clear hb hi hc ho
  go_wp2_with fail
  refine (joined_c sh st nh ch nt ct fh ft _ (by omega) HIh.out HIt.out).mono ?_
  rintro e w2 ⟨sb, cb, rfl, hi, hc, ho, hb⟩
  have HIb := Lib.hid hi
  replace HIh := Lib.hid (HIh.out.later hb)
  replace HIo := Lib.hid (HIo.out.later hb)
  replace HIt := Lib.hid (HIt.out.later hb)
  replace HIa := Lib.hid (HIa.out.later hb)
  replace HB := Lib.hid (bt HB.out hb)
  clear hb hi hc ho
  go_wp2_with fail
  refine (copied_c sa (nh + no) ca (cat fh nh fo) _ (by omega) HIa.out).mono ?_
  rintro e w3 ⟨sa2, ca2, rfl, hi, hc, ho, hb⟩
  have HIa2 := Lib.hid hi
  replace HIh := Lib.hid (HIh.out.later hb)
  replace HIo := Lib.hid (HIo.out.later hb)
  replace HIt := Lib.hid (HIt.out.later hb)
  replace HIa := Lib.hid (HIa.out.later hb)
  replace HIb := Lib.hid (HIb.out.later hb)
  replace HB := Lib.hid (bt HB.out hb)
  clear hb hi hc ho
  go_wp2_with fail
  refine (breaks_c sa2 (nh + no) ca2 (cat fh nh fo) _ (by omega) HIa2.out).mono ?_
  rintro e w4 ⟨sx, cx, rfl, hi, ho, hb⟩
  have HIx := Lib.hid hi
  replace HIh := Lib.hid (HIh.out.later hb)
  replace HIo := Lib.hid (HIo.out.later hb)
  replace HIt := Lib.hid (HIt.out.later hb)
  replace HIa := Lib.hid (HIa.out.later hb)
  replace HIb := Lib.hid (HIb.out.later hb)
  replace HIa2 := Lib.hid (HIa2.out.later hb)
  replace HB := Lib.hid (bt HB.out hb)
  clear hb hi ho
  go_wp2_with fail
  refine (copied_c sb (nh + nt) cb (cat fh nh ft) _ (by omega) HIb.out).mono ?_
  rintro e w5 ⟨sb2, cb2, rfl, hi, hc, ho, hb⟩
  have HIb2 := Lib.hid hi
  replace HIh := Lib.hid (HIh.out.later hb)
  replace HIo := Lib.hid (HIo.out.later hb)
  replace HIt := Lib.hid (HIt.out.later hb)
  replace HIa := Lib.hid (HIa.out.later hb)
  replace HIb := Lib.hid (HIb.out.later hb)
  replace HIa2 := Lib.hid (HIa2.out.later hb)
  replace HIx := Lib.hid (HIx.out.later hb)
  replace HB := Lib.hid (bt HB.out hb)
  clear hb hi hc ho
  go_wp2_with fail
  refine (breaks_c sb2 (nh + nt) cb2 (cat fh nh ft) _ (by omega) HIb2.out).mono ?_
  rintro e w6 ⟨sy, cy, rfl, hi, ho, hb⟩
  have HIy := Lib.hid hi
  replace HIh := Lib.hid (HIh.out.later hb)
  replace HIo := Lib.hid (HIo.out.later hb)
  replace HIt := Lib.hid (HIt.out.later hb)
  replace HIa := Lib.hid (HIa.out.later hb)
  replace HIb := Lib.hid (HIb.out.later hb)
  replace HIa2 := Lib.hid (HIa2.out.later hb)
  replace HIx := Lib.hid (HIx.out.later hb)
  replace HIb2 := Lib.hid (HIb2.out.later hb)
  replace HB := Lib.hid (bt HB.out hb)
  clear hb hi ho
  go_wp2_with fail
  refine (ends_c sx cx (nh + no) (cat fh nh fo) _ (by omega) HIx.out).mono ?_
  rintro e w7 ⟨rfl, hb⟩
  replace HIh := Lib.hid (HIh.out.later hb)
  replace HIo := Lib.hid (HIo.out.later hb)
  replace HIt := Lib.hid (HIt.out.later hb)
  replace HIa := Lib.hid (HIa.out.later hb)
  replace HIb := Lib.hid (HIb.out.later hb)
  replace HIa2 := Lib.hid (HIa2.out.later hb)
  replace HIx := Lib.hid (HIx.out.later hb)
  replace HIb2 := Lib.hid (HIb2.out.later hb)
  replace HIy := Lib.hid (HIy.out.later hb)
  replace HB := Lib.hid (bt HB.out hb)
  clear hb
  go_wp2_with fail
  refine (ends_c sy cy (nh + nt) (cat fh nh ft) _ (by omega) HIy.out).mono ?_
  rintro e w8 ⟨rfl, hb⟩
  replace HIh := Lib.hid (HIh.out.later hb)
  replace HIo := Lib.hid (HIo.out.later hb)
  replace HIt := Lib.hid (HIt.out.later hb)
  replace HIa := Lib.hid (HIa.out.later hb)
  replace HIb := Lib.hid (HIb.out.later hb)
  replace HIa2 := Lib.hid (HIa2.out.later hb)
  replace HIx := Lib.hid (HIx.out.later hb)
  replace HIb2 := Lib.hid (HIb2.out.later hb)
  replace HIy := Lib.hid (HIy.out.later hb)
  replace HB := Lib.hid (bt HB.out hb)
  clear hb
  go_wp2_with fail
  refine (upto_c sx (bn (cat fh nh fo) (nh + no)) cx (bf (cat fh nh fo) (nh + no)) (nh : Int) _ (by have := bn_bd (cat fh nh fo) (nh + no); omega) HIx.out).mono ?_
  rintro e w9 ⟨su, cu, mu, hm, rfl, hi, hb⟩
  have HIu := Lib.hid hi
  have HMu := Lib.hid hm
  replace HIh := Lib.hid (HIh.out.later hb)
  replace HIo := Lib.hid (HIo.out.later hb)
  replace HIt := Lib.hid (HIt.out.later hb)
  replace HIa := Lib.hid (HIa.out.later hb)
  replace HIb := Lib.hid (HIb.out.later hb)
  replace HIa2 := Lib.hid (HIa2.out.later hb)
  replace HIx := Lib.hid (HIx.out.later hb)
  replace HIb2 := Lib.hid (HIb2.out.later hb)
  replace HIy := Lib.hid (HIy.out.later hb)
  replace HB := Lib.hid (bt HB.out hb)
  clear hb hi hm
  go_wp2_with fail
  refine (upto_c sy (bn (cat fh nh ft) (nh + nt)) cy (bf (cat fh nh ft) (nh + nt)) (nh : Int) _ (by have := bn_bd (cat fh nh ft) (nh + nt); omega) HIy.out).mono ?_
  rintro e w10 ⟨sv, cv, mv, hm, rfl, hi, hb⟩
  have HIv := Lib.hid hi
  have HMv := Lib.hid hm
  replace HIh := Lib.hid (HIh.out.later hb)
  replace HIo := Lib.hid (HIo.out.later hb)
  replace HIt := Lib.hid (HIt.out.later hb)
  replace HIa := Lib.hid (HIa.out.later hb)
  replace HIb := Lib.hid (HIb.out.later hb)
  replace HIa2 := Lib.hid (HIa2.out.later hb)
  replace HIx := Lib.hid (HIx.out.later hb)
  replace HIb2 := Lib.hid (HIb2.out.later hb)
  replace HIy := Lib.hid (HIy.out.later hb)
  replace HIu := Lib.hid (HIu.out.later hb)
  replace HB := Lib.hid (bt HB.out hb)
  clear hb hi hm
  have hL := up_alike (f := cat fh nh fo) (g := cat fh nh ft) (n := nh + no) (m := nh + nt) (h := nh) (by omega) (by omega) (fun i hi => by unfold cat; rw [if_pos hi, if_pos hi])
  have hm1 := HMu.out
  have hm2 := HMv.out
  have hmu : mu < 4294967296 := by have := upL_len (bf (cat fh nh fo) (nh + no)) (bn (cat fh nh fo) (nh + no)) nh; have := bn_bd (cat fh nh fo) (nh + no); omega
  have hmv : mv < 4294967296 := by have := upL_len (bf (cat fh nh ft) (nh + nt)) (bn (cat fh nh ft) (nh + nt)) nh; have := bn_bd (cat fh nh ft) (nh + nt); omega
  have hS : sameB (gl (upL (bf (cat fh nh fo) (nh + no)) (bn (cat fh nh fo) (nh + no)) nh)) mu (gl (upL (bf (cat fh nh ft) (nh + nt)) (bn (cat fh nh ft) (nh + nt)) nh)) mv = true := by
    refine sameB_of ?_
    rw [lst_gl' hm1.symm, lst_gl' hm2.symm, hL]
  have HS := Lib.hid hS
  clear hL hm1 hm2 hS
  go_wp2_with fail
  refine (same_any su sv mu cu mv cv _ _ _ (by unfold maxLen; omega) (by unfold maxLen; omega) HIu.out HIv.out).mono ?_
  rintro e wz ⟨rfl, hb⟩
  rw [HS.out]
  replace HB := Lib.hid (bt HB.out hb)
  clear hb
  go_wp2
  go_ret
  exact ⟨rfl, HB.out⟩
end Go.Proofs.Ytpipcmbfdcbboaa
