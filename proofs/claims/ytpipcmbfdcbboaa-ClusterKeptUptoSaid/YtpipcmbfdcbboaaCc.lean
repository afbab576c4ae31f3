/- Contract: (*scan).takes of package cluster. Condition: the number of flags is a small one. -/
import Derived.Test.YtpipcmbfdcbboaaCb
namespace Go.Proofs.Ytpipcmbfdcbboaa
open Go.RowKit
set_option maxRecDepth 100000 in
set_option maxHeartbeats 8000000 in
theorem takes_any (b : Nat) (s : Sc) (a : Int) (w : World) (h : IsScan w b s) (hf : 0 ≤ s.flags) (hf' : s.flags < 9223372036854775807) :
    Calls Try.prog 46 #[.pointer (some ⟨b, 0, none⟩), .int .i64 a] w fun e w' => e = .returned (.bool (joinsB s (classF a) (conjF a))) ∧ IsScan w' b (takeF s a) ∧ Below b w w' := by
  have hb := heap_lt h
  have HS0 := Lib.hid h
  clear h
  obtain ⟨c, hc⟩ : ∃ c, classF a = c := ⟨_, rfl⟩
  obtain ⟨p, hp⟩ : ∃ p, conjF a = p := ⟨_, rfl⟩
  have HT := Lib.hid (show takeF s a = if joinsB s c p then noteF s c p else s by unfold takeF; rw [hc, hp])
  have HC := Lib.hid hc
  have HP := Lib.hid hp
  have HJ := Lib.hid (show joinsB s (classF a) (conjF a) = joinsB s c p by rw [hc, hp])
  clear hc hp
  go_enter Try.func46, Try.ntmps46
  go_wp2_with fail
  refine (class_eq _ _ _ HC.out).mono ?_
  rintro e w1 ⟨rfl, hb1⟩
  have HS1 := Lib.hid (HS0.out.below hb1)
  have HB1 := Lib.hid (hb1.mono (Nat.le_of_lt hb))
  clear hb1 HS0
  go_wp2_with fail
  refine (conj_eq _ _ _ HP.out).mono ?_
  rintro e w2 ⟨rfl, hb2⟩
  have hb3 : b < w1.heap.size := heap_lt HS1.out
  have HS := Lib.hid (HS1.out.below hb2)
  have HB := Lib.hid (HB1.out.trans (hb2.mono (Nat.le_of_lt hb3)))
  clear hb2 HS1 HB1 hb3
  obtain ⟨⟨c0, c1, c2, c3⟩, _⟩ := HS.out.facts
  go_upto_block 0 with fail
  go_cut [5, 6, 7] (fun cc pp v wx => cc = .int .i64 c ∧ pp = .int .i64 p ∧ v = .bool (joinsB s c p) ∧ w2 = wx)
  case first =>
    go_wp2_with (first | (go_at_call 53; refine (apart_any _ _).mono ?_; rintro e w' ⟨rfl, rfl⟩) | (go_at_call 62; refine (hangul_any _ _ _).mono ?_; rintro e w' ⟨rfl, rfl⟩))
    all_goals
      go_meet
      go_light
      clear HS HB HT HC HP HJ c0 c1 c2 c3
      refine ⟨by first | rfl | simp_all, by first | rfl | simp_all, congrArg Value.bool ?_, rfl⟩
      unfold joinsB
      simp_all
  case rest =>
    obtain ⟨rfl, rfl, rfl, rfl⟩ := hcut
    clear c0 c1 c2 c3
    cases hj : joinsB s c p
    · have HJ2 := Lib.hid hj
      go_wp2
      go_ret
      exact ⟨ret_bool (by rw [HJ.out, HJ2.out]), HS.out.as (by rw [HT.out, HJ2.out]; rfl), HB.out⟩
    · have HJ2 := Lib.hid hj
      go_wp2_with fail
      refine (note_any _ _ _ _ _ HS.out hf hf').mono ?_
      rintro e w3 ⟨rfl, hs3, hb3⟩
      have HS3 := Lib.hid hs3
      have HB3 := Lib.hid (HB.out.trans hb3)
      clear hs3 hb3
      go_wp2
      go_ret
      exact ⟨ret_bool (by rw [HJ.out, HJ2.out]), HS3.out.as (by rw [HT.out, HJ2.out]; rfl), HB3.out⟩
end Go.Proofs.Ytpipcmbfdcbboaa
