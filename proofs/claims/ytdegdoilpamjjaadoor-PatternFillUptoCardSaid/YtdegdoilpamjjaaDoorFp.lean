import Derived.Test.YtdegdoilpamjjaaDoorFc
import Derived.KernelRfl
namespace Go.Proofs.YtdegdoilpamjjaaDoor
open Go.RowKit
set_option linter.unusedVariables false
set_option maxRecDepth 100000 in
set_option maxHeartbeats 2000000 in
theorem letters_c (s : ByteArray) (n : Nat) (f : Nat → Int) (w : World) (hn : s.size = n) (hn2 : n < 1000) (hf : ∀ (i : Nat) (h : i < n), wrap64 ((s[i]'(by omega)).toNat : Int) = f i) :
    Calls Tryd.prog 11 #[.string s] w fun e w' => ∃ sl c, e = .returned (.slice sl n c) ∧ OwnInts w' w.heap.size (.slice sl n c) (lst f n) ∧ Below w.heap.size w w' := by
  have HF := Lib.hid hf
  clear hf
  go_enter Tryd.func11, Tryd.ntmps11
  go_wp2_with fail
  go_loopg [3, 4] n (fun g cv iv wr => ∃ k : Nat, ∃ sl : Option Addr, ∃ c : Nat, k + g = n ∧ cv = .slice sl k c ∧ iv = .int .i64 k ∧ OwnInts wr w.heap.size (.slice sl k c) (lst f k) ∧ Below w.heap.size w wr)
  case atStart => exact ⟨0, none, 0, by omega, rfl, rfl, OwnInts.nil _ _, Below.refl _ _⟩
  case round =>
    obtain ⟨k, sl, c, hk, rfl, rfl, ho, hb⟩ := hrel
    have HO := Lib.hid ho
    have HB := Lib.hid hb
    clear ho hb
    by_cases hlt : k < n
    · have e1 : (k : Int) < n := by omega
      have hz := HF.out k hlt
      obtain ⟨z, hfz⟩ : ∃ z, f k = z := ⟨_, rfl⟩
      rw [hfz] at hz
      have HZ := Lib.hid hfz
      clear hfz
      go_wp2_with (first | (at_builtin; refine wpList_push3 _ rfl _ _ rfl w.heap.size _ _ _ _ rfl rfl HO.out (by omega) HB.out.size ?_; intro s' c' w2 ho2 hg2 _; have HB2 := Lib.hid (Below.grown HB.out hg2 HB.out.size (fun q hq => (HO.out.lt q hq).1)); have HO2 := Lib.hid ho2; clear ho2 hg2))
      go_roundg (gk - 1)
      case measure => omega
      case rel => exact ⟨k + 1, _, _, by omega, rfl, by go_num, OwnInts.as HO2.out (by rw [lst_succ, HZ.out]), HB2.out⟩
    · obtain rfl : n = k := by omega
      have e1 : ¬ (n : Int) < n := by omega
      go_wp2
      go_ret
      exact ⟨_, _, rfl, HO.out, HB.out⟩
theorem lw64 (x : Int) (h : -9223372036854775808 ≤ x ∧ x ≤ 9223372036854775807) : wrap64 x = x := by
  rw [← IntWalk.i64_left]
  exact IntWalk.i64_in _ (by omega)
theorem letters_ap (w : World) : Calls Tryd.prog 11 #[.string ⟨#[97, 38]⟩] w fun e w' => ∃ sl c, e = .returned (.slice sl 2 c) ∧ OwnInts w' w.heap.size (.slice sl 2 c) (lst (gl [97, 38]) 2) ∧ Below w.heap.size w w' :=
  letters_c _ 2 _ w rfl (by omega) (fun i h => by
    obtain rfl | rfl : i = 0 ∨ i = 1 := by omega
    · exact lw64 97 (by omega)
    · exact lw64 38 (by omega))
theorem letters_xyz (w : World) : Calls Tryd.prog 11 #[.string ⟨#[120, 121, 122]⟩] w fun e w' => ∃ sl c, e = .returned (.slice sl 3 c) ∧ OwnInts w' w.heap.size (.slice sl 3 c) (lst (gl [120, 121, 122]) 3) ∧ Below w.heap.size w w' :=
  letters_c _ 3 _ w rfl (by omega) (fun i h => by
    obtain rfl | rfl | rfl : i = 0 ∨ i = 1 ∨ i = 2 := by omega
    · exact lw64 120 (by omega)
    · exact lw64 121 (by omega)
    · exact lw64 122 (by omega))
end Go.Proofs.YtdegdoilpamjjaaDoor
