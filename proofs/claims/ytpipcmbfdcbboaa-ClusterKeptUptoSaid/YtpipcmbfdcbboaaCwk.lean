/- The walk of ClusterWalk. Condition: fewer than 2^20 members. -/
import Derived.Test.YtpipcmbfdcbboaaCx
import Derived.Deep.RegionWith
import Derived.Deep.RegionHeld3
namespace Go.Proofs.Ytpipcmbfdcbboaa
open Go.RowKit
theorem nextN_eq {f : Nat → Int} {n k r : Nat} (h1 : k < r) (h2 : r ≤ n) (h3 : isB f n r = true) (h4 : ∀ j, k < j → j < r → isB f n j = false) : nextN f n k = r := by
  unfold nextN
  rw [find_range (isB f n) (n - k) (k + 1) r (fun j hj hj' => h4 j (by omega) hj') (by omega) (by omega)]
  rw [show k + 1 + (n - k) - r = (n - r) + 1 from by omega, List.range'_succ, List.find?_cons_of_pos h3]; rfl
theorem bf_of {f : Nat → Int} {n k : Nat} (h : k ≤ n) (hb : isB f n k = true) : ∃ m, m < bn f n ∧ bf f n m = k := by
  obtain ⟨m, hm, he⟩ := List.getElem_of_mem (allB_mem.2 ⟨h, hb⟩)
  refine ⟨m, hm, ?_⟩
  unfold bf gl; rw [List.getD_eq_getElem?_getD, List.getElem?_map, List.getElem?_eq_getElem hm, he]; rfl
theorem bf_le (f : Nat → Int) (n i j : Nat) (hij : i ≤ j) (h : j < bn f n) : bf f n i ≤ bf f n j := by
  by_cases e : i = j
  · rw [e]; exact Int.le_refl _
  · have := bf_up f n i j (by omega) h; omega
theorem next_bf (f : Nat → Int) (n i : Nat) (h : i + 1 < bn f n) : (nextF f n (bf f n i) : Int) = bf f n (i + 1) := by
  obtain ⟨k, h1, h2, h3, _⟩ := allB_get_bd f n i (by omega)
  obtain ⟨r, r1, r2, r3, _⟩ := allB_get_bd f n (i + 1) h
  have hup := bf_up f n i (i + 1) (by omega) h
  rw [h1, r1] at hup
  rw [h1, r1]
  unfold nextF
  rw [if_neg (by omega), show min (k : Int).toNat n = k from by omega]
  rw [nextN_eq (r := r) (by omega) r2 r3]
  intro j hj hj'
  cases hb : isB f n j
  · rfl
  · obtain ⟨m, hm, hv⟩ := bf_of (by omega) hb
    exfalso
    by_cases hmi : m ≤ i
    · have := bf_le f n m i hmi (by omega); omega
    · have := bf_le f n (i + 1) m (by omega) hm; omega
theorem prev_bf (f : Nat → Int) (n i : Nat) (h : i + 1 < bn f n) : (prevF f n (bf f n (i + 1)) : Int) = bf f n i := by
  obtain ⟨k, h1, h2, h3, _⟩ := allB_get_bd f n i (by omega)
  obtain ⟨r, r1, r2, r3, _⟩ := allB_get_bd f n (i + 1) h
  have hup := bf_up f n i (i + 1) (by omega) h
  rw [h1, r1] at hup
  rw [h1, r1]
  unfold prevF snapF
  rw [if_neg (by omega), if_neg (by omega), show min ((r : Int) - 1).toNat n = r - 1 from by omega]
  rw [snapN_eq (r := k) (by omega) h3]
  intro j hj hb
  obtain ⟨m, hm, hv⟩ := bf_of (by omega) hb
  by_cases hmi : m ≤ i
  · have := bf_le f n m i hmi (by omega); omega
  · have := bf_le f n (i + 1) m (by omega) hm; omega
set_option maxHeartbeats 4000000 in
theorem lawwalk_any (sh : Option Addr) (nh ch : Nat) (fh : Nat → Int) (w : World) (hlh : nh < 1048577) (hh : IsInts w sh nh fh) :
    Calls Try.prog 9 #[.slice sh nh ch] w fun e w' => e = .returned (.bool true) ∧ Below w.heap.size w w' := by
  have HIh := Lib.hid hh
  have HB := Lib.hid (Below.refl w.heap.size w)
  clear hh
  have hn : (bounds fh nh 0).length = bn fh nh - 1 := by have := cn_bn fh nh; unfold cn at this; omega
  have HN := Lib.hid hn
  have hbn := bn_bd fh nh
  have hcast : ((bn fh nh - 1 : Nat) : Int) = (bn fh nh : Int) - 1 := by omega
  clear hn
  go_enter Try.func9, Try.ntmps9
  go_wp2_with fail
  refine (copied_c sh nh ch fh _ (by omega) HIh.out).mono ?_
  rintro e w1 ⟨sa, ca, rfl, hi, hc, ho, hb⟩
  have HIa := Lib.hid hi
  replace HIh := Lib.hid (HIh.out.later hb)
  replace HB := Lib.hid (bt HB.out hb)
  clear hb hi hc ho
  go_wp2_with fail
  refine (breaks_c sa nh ca fh _ (by omega) HIa.out).mono ?_
  rintro e w2 ⟨sx, cx, rfl, hi, ho, hb⟩
  have HIx := Lib.hid hi
  replace HIh := Lib.hid (HIh.out.later hb)
  replace HIa := Lib.hid (HIa.out.later hb)
  replace HB := Lib.hid (bt HB.out hb)
  clear hb hi ho
  clear HIa
  go_wp2_with fail
  refine (ends_c sx cx nh fh _ (by omega) HIx.out).mono ?_
  rintro e w3 ⟨rfl, hb⟩
  replace HIh := Lib.hid (HIh.out.later hb)
  replace HIx := Lib.hid (HIx.out.later hb)
  replace HB := Lib.hid (bt HB.out hb)
  clear hb
  go_wp2_with fail
  refine (copied_c sh nh ch fh _ (by omega) HIh.out).mono ?_
  rintro e w4 ⟨sb, cb, rfl, hi, hc, ho, hb⟩
  have HIb := Lib.hid hi
  replace HIh := Lib.hid (HIh.out.later hb)
  replace HIx := Lib.hid (HIx.out.later hb)
  replace HB := Lib.hid (bt HB.out hb)
  clear hb hi hc ho
  go_wp2_with fail
  refine (count_any sb nh cb fh _ (by unfold maxLen; omega) HIb.out).mono ?_
  rintro e w5 ⟨rfl, hb⟩
  rw [HN.out]
  replace HIh := Lib.hid (HIh.out.later hb)
  replace HIx := Lib.hid (HIx.out.later hb)
  replace HIb := Lib.hid (HIb.out.later hb)
  replace HB := Lib.hid (bt HB.out hb)
  clear hb
  clear HIb
  go_wp2_with fail
  go_loopg [4] (bn fh nh - 1) (fun g i wr => ∃ k : Nat, k + g = bn fh nh - 1 ∧ i = .int .i64 k ∧ IsInts wr sh nh fh ∧ IsInts wr sx (bn fh nh) (bf fh nh) ∧ Below w.heap.size w wr)
  case atStart => exact ⟨0, by omega, rfl, HIh.out, HIx.out, HB.out⟩
  case round =>
    obtain ⟨i, hi, rfl, hih, hix, hbb⟩ := hrel
    replace HIh := Lib.hid hih
    replace HIx := Lib.hid hix
    replace HB := Lib.hid hbb
    clear hih hix hbb
    by_cases hlt : i + 1 < bn fh nh
    · obtain ⟨gb, off, rfl, hc0⟩ := HIx.out.at (Below.refl _ _) (show i < bn fh nh by omega)
      obtain ⟨gb1, off1, hab, hc1⟩ := HIx.out.at (Below.refl _ _) hlt
      cases hab
      have hnx := next_bf fh nh i hlt
      have hpv := prev_bf fh nh i hlt
      obtain ⟨u, hu⟩ : ∃ u, bf fh nh i = u := ⟨_, rfl⟩
      obtain ⟨v, hv⟩ : ∃ v, bf fh nh (i + 1) = v := ⟨_, rfl⟩
      rw [hu] at hc0 hnx hpv
      rw [hv] at hc1 hnx hpv
      have HNX := Lib.hid hnx
      have HPV := Lib.hid hpv
      clear hu hv hnx hpv
      have HB0 := Below.refl wr.heap.size wr
      have q1 : (0 : Int) ≤ (i : Int) + 1 := by omega
      have q2 : (i : Int) + 1 < (bn fh nh : Int) := by omega
      have q3 : (i : Int) < (bn fh nh : Int) := by omega
      have q4 : (0 : Int) ≤ (i : Int) := by omega
      have q5 : IntKind.i64.wrap ((i : Int) + 1) = (i : Int) + 1 := by rw [IntKind.wrap_i64]; omega
      go_wp2_with fail
      go_region_held3 (fun w' => w'.cell? ⟨gb, off + i, none⟩ = some (.int .i64 u) ∧ w'.cell? ⟨gb, off + (i + 1), none⟩ = some (.int .i64 v) ∧ Below wr.heap.size wr w')
        (first | exact ⟨hc0, hc1, HB0.drew⟩ | go_keep | (go_split_ands; exact ⟨cell_below (by assumption) hb2, cell_below (by assumption) hb2, bt (by assumption) hb2⟩))
        (first | (go_at_call 13; go_split_ands; refine (copied_c sh nh ch fh _ (by omega) (HIh.out.later (by assumption))).mono ?_; rintro e w2 ⟨sc, cc, rfl, hi, hc, ho, hb2⟩) | (go_at_call 27; refine (next_any _ nh _ fh u _ (by unfold maxLen; omega) (by assumption)).mono ?_; rintro e w2 ⟨rfl, hb2⟩))
      have hh : w2.cell? ⟨gb, off + i, none⟩ = some (.int .i64 u) ∧ w2.cell? ⟨gb, off + (i + 1), none⟩ = some (.int .i64 v) ∧ Below wr.heap.size wr w2 := by assumption
      rw [HNX.out]
      replace HIh := Lib.hid (HIh.out.later hh.2.2)
      replace HIx := Lib.hid (HIx.out.later hh.2.2)
      replace HB := Lib.hid (bt HB.out hh.2.2)
      obtain ⟨hd0, hd1, _⟩ := hh
      clear hc0 hc1 hi hc ho
      generalize w2 = wq at *
      have HB1 := Below.refl wq.heap.size wq
      clear HB0
      go_wp2_with fail
      go_region_held3 (fun w' => w'.cell? ⟨gb, off + i, none⟩ = some (.int .i64 u) ∧ w'.cell? ⟨gb, off + (i + 1), none⟩ = some (.int .i64 v) ∧ Below wq.heap.size wq w')
        (first | exact ⟨hd0, hd1, HB1.drew⟩ | go_keep | (go_split_ands; exact ⟨cell_below (by assumption) hb3, cell_below (by assumption) hb3, bt (by assumption) hb3⟩))
        (first | (go_at_call 13; go_split_ands; refine (copied_c sh nh ch fh _ (by omega) (HIh.out.later (by assumption))).mono ?_; rintro e w3 ⟨sd, cd, rfl, hi, hc, ho, hb3⟩) | (go_at_call 28; refine (prev_any _ nh _ fh v _ (by unfold maxLen; omega) (by assumption)).mono ?_; rintro e w3 ⟨rfl, hb3⟩))
      have hh : w3.cell? ⟨gb, off + i, none⟩ = some (.int .i64 u) ∧ w3.cell? ⟨gb, off + (i + 1), none⟩ = some (.int .i64 v) ∧ Below wq.heap.size wq w3 := by assumption
      rw [HPV.out]
      replace HIh := Lib.hid (HIh.out.later hh.2.2)
      replace HIx := Lib.hid (HIx.out.later hh.2.2)
      replace HB := Lib.hid (bt HB.out hh.2.2)
      obtain ⟨he0, he1, _⟩ := hh
      clear hd0 hd1 hi hc ho HB1
      generalize w3 = ws at *
      go_wp2
      go_roundg (gk - 1)
      case measure => omega
      case rel => exact ⟨i + 1, by omega, by go_num, HIh.out, HIx.out, HB.out⟩
    · go_wp2_with fail
      go_loopg [7, 8] (nh + 1) (fun g jv kv wr => ∃ j k : Nat, k + g = nh + 1 ∧ jv = .int .i64 j ∧ kv = .int .i64 k ∧ j ≤ bn fh nh ∧ (∀ m, m < j → bf fh nh m < k) ∧ (j < bn fh nh → (k : Int) ≤ bf fh nh j) ∧ IsInts wr sh nh fh ∧ IsInts wr sx (bn fh nh) (bf fh nh) ∧ Below w.heap.size w wr)
      case atStart => exact ⟨0, 0, by omega, rfl, rfl, by omega, fun m hm => absurd hm (Nat.not_lt_zero _), fun h => by rw [bf_zero]; exact Int.le_refl _, HIh.out, HIx.out, HB.out⟩
      case round =>
        obtain ⟨j, k, hk, rfl, rfl, hj, hlo, hup, hih, hix, hbb⟩ := hrel
        replace HIh := Lib.hid hih
        replace HIx := Lib.hid hix
        replace HB := Lib.hid hbb
        have HLO := Lib.hid hlo
        have HUP := Lib.hid hup
        clear hih hix hbb hlo hup
        by_cases hle : k ≤ nh
        · have his : isB fh nh k = true ↔ (j < bn fh nh ∧ bf fh nh j = k) := by
            constructor
            · intro hb
              obtain ⟨m, hm, hv⟩ := bf_of hle hb
              by_cases hmj : m < j
              · have := HLO.out m hmj; omega
              · have h1 := HUP.out (by omega)
                have h2 := bf_le fh nh j m (by omega) hm
                exact ⟨by omega, by omega⟩
            · rintro ⟨h1, h2⟩
              obtain ⟨q, q1, q2, q3, _⟩ := allB_get_bd fh nh j h1
              rw [show k = q from by omega]; exact q3
          have HIS := Lib.hid his
          clear his
          by_cases hjb : j < bn fh nh
          · obtain ⟨gb, off, rfl, hc0⟩ := HIx.out.at (Below.refl _ _) hjb
            obtain ⟨u, hu⟩ : ∃ u, bf fh nh j = u := ⟨_, rfl⟩
            rw [hu] at hc0
            have HU := Lib.hid hu
            clear hu
            cases huk : (u == (k : Int))
            · have hne : u ≠ (k : Int) := by intro h; rw [h] at huk; simp at huk
              have hF : isF fh nh k = false := by
                rw [isF_nat hle]
                cases hb : isB fh nh k
                · rfl
                · exact absurd ((HIS.out.1 hb).2) (by rw [HU.out]; exact hne)
              have HF := Lib.hid hF
              have HNE := Lib.hid hne
              clear hF hne
              go_wp2_with fail
              refine (copied_c sh nh ch fh _ (by omega) HIh.out).mono ?_
              rintro e w4 ⟨sd, cd, rfl, hi, hc, ho, hb⟩
              have HId := Lib.hid hi
              replace HIh := Lib.hid (HIh.out.later hb)
              replace HIx := Lib.hid (HIx.out.later hb)
              replace HB := Lib.hid (bt HB.out hb)
              clear hi hc ho hb hc0
              go_wp2_with fail
              refine (isbreak_any sd nh cd fh k _ (by unfold maxLen; omega) HId.out).mono ?_
              rintro e w5 ⟨rfl, hb⟩
              rw [HF.out]
              replace HIh := Lib.hid (HIh.out.later hb)
              replace HIx := Lib.hid (HIx.out.later hb)
              replace HB := Lib.hid (bt HB.out hb)
              clear hb
              go_wp2
              go_roundg (gk - 1)
              case measure => omega
              case rel => exact ⟨j, k + 1, by omega, rfl, by go_num, hj, fun m hm => by have := HLO.out m hm; omega, fun h => by have h1 := HUP.out h; have h2 := HNE.out; rw [HU.out] at h1 ⊢; omega, HIh.out, HIx.out, HB.out⟩
            · have hne : u = (k : Int) := eq_of_beq huk
              have hF : isF fh nh k = true := by
                rw [isF_nat hle]; exact HIS.out.2 ⟨hjb, by rw [HU.out]; exact hne⟩
              have HF := Lib.hid hF
              have HNE := Lib.hid hne
              clear hF hne
              go_wp2_with fail
              refine (copied_c sh nh ch fh _ (by omega) HIh.out).mono ?_
              rintro e w4 ⟨sd, cd, rfl, hi, hc, ho, hb⟩
              have HId := Lib.hid hi
              replace HIh := Lib.hid (HIh.out.later hb)
              replace HIx := Lib.hid (HIx.out.later hb)
              replace HB := Lib.hid (bt HB.out hb)
              clear hi hc ho hb hc0
              go_wp2_with fail
              refine (isbreak_any sd nh cd fh k _ (by unfold maxLen; omega) HId.out).mono ?_
              rintro e w5 ⟨rfl, hb⟩
              rw [HF.out]
              replace HIh := Lib.hid (HIh.out.later hb)
              replace HIx := Lib.hid (HIx.out.later hb)
              replace HB := Lib.hid (bt HB.out hb)
              clear hb
              go_wp2
              go_roundg (gk - 1)
              case measure => omega
              case rel => exact ⟨j + 1, k + 1, by omega, by go_num, by go_num, by omega, fun m hm => by have h1 := bf_le fh nh m j (by omega) hjb; rw [HU.out, HNE.out] at h1; omega, fun h => by have h1 := bf_up fh nh j (j + 1) (by omega) h; rw [HU.out, HNE.out] at h1; omega, HIh.out, HIx.out, HB.out⟩
          · have hF : isF fh nh k = false := by
              rw [isF_nat hle]
              cases hb : isB fh nh k
              · rfl
              · exact absurd (HIS.out.1 hb).1 hjb
            have HF := Lib.hid hF
            clear hF
            go_wp2_with fail
            refine (copied_c sh nh ch fh _ (by omega) HIh.out).mono ?_
            rintro e w4 ⟨sd, cd, rfl, hi, hc, ho, hb⟩
            have HId := Lib.hid hi
            replace HIh := Lib.hid (HIh.out.later hb)
            replace HIx := Lib.hid (HIx.out.later hb)
            replace HB := Lib.hid (bt HB.out hb)
            clear hi hc ho hb
            go_wp2_with fail
            refine (isbreak_any sd nh cd fh k _ (by unfold maxLen; omega) HId.out).mono ?_
            rintro e w5 ⟨rfl, hb⟩
            rw [HF.out]
            replace HIh := Lib.hid (HIh.out.later hb)
            replace HIx := Lib.hid (HIx.out.later hb)
            replace HB := Lib.hid (bt HB.out hb)
            clear hb
            go_wp2
            go_roundg (gk - 1)
            case measure => omega
            case rel => exact ⟨j, k + 1, by omega, rfl, by go_num, hj, fun m hm => by have := HLO.out m hm; omega, fun h => absurd h hjb, HIh.out, HIx.out, HB.out⟩
        · go_wp2
          go_ret
          exact ⟨rfl, HB.out⟩
end Go.Proofs.Ytpipcmbfdcbboaa
