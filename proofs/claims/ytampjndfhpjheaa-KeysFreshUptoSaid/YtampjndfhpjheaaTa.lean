/- Contracts for the tries of chapter 13: sameInts, begins. Condition: lists of at most maxLen members. -/
import Derived.Test.YtampjndfhpjheaaBa
import Derived.Deep.RegionHeld3
namespace Go.Proofs.Ytampjndfhpjheaa
open Go.RowKit
/-- are two lists equal? -/
def sameB (f : Nat → Int) (n : Nat) (g : Nat → Int) (m : Nat) : Bool := decide (lst f n = lst g m)
theorem sameB_refl (f : Nat → Int) (n : Nat) : sameB f n f n = true := decide_eq_true rfl
theorem sameB_of {f g : Nat → Int} {n m : Nat} (h : lst f n = lst g m) : sameB f n g m = true := decide_eq_true h
theorem sameB_not {f g : Nat → Int} {n m : Nat} (h : ¬ lst f n = lst g m) : sameB f n g m = false := decide_eq_false h
set_option maxHeartbeats 1000000 in
theorem same_any (sa sb : Option Addr) (len cap m capb : Nat) (f g : Nat → Int) (w : World) (hl : len ≤ maxLen) (hm : m ≤ maxLen) (hr : IsInts w sa len f) (hs : IsInts w sb m g) :
    Calls Try.prog 20 #[.slice sa len cap, .slice sb m capb] w fun e w' => e = .returned (.bool (sameB f len g m)) ∧ Below w.heap.size w w' := by
  unfold maxLen at hl hm
  by_cases hlm : len = m
  · subst hlm
    have HR := Lib.hid hr
    have HS := Lib.hid hs
    clear hr hs
    go_enter Try.func20, Try.ntmps20
    go_wp2_with fail
    go_loopg [5] len (fun gg i wr => ∃ k : Nat, k + gg = len ∧ i = .int .i64 k ∧ (∀ j, j < k → f j = g j) ∧ Below w.heap.size w wr)
    case atStart => exact ⟨0, by omega, rfl, (fun j hj => absurd hj (Nat.not_lt_zero _)), Below.refl _ _⟩
    case round =>
      obtain ⟨k, hk, rfl, he, hb⟩ := hrel
      have HE := Lib.hid he
      have HB := Lib.hid hb
      clear he hb
      by_cases hlt : k < len
      · obtain ⟨b, off, rfl, hcell⟩ := HR.out.at HB.out hlt
        obtain ⟨b', off', rfl, hcell'⟩ := HS.out.at HB.out hlt
        obtain ⟨x, hx⟩ : ∃ x, f k = x := ⟨_, rfl⟩
        obtain ⟨y, hy⟩ : ∃ y, g k = y := ⟨_, rfl⟩
        rw [hx] at hcell
        rw [hy] at hcell'
        have HX := Lib.hid hx
        have HY := Lib.hid hy
        clear hx hy
        have HB0 := HB.out
        go_wp2_with fail
        go_region_held3 (fun w' => w'.cell? ⟨b, off + k, none⟩ = some (.int .i64 x) ∧ w'.cell? ⟨b', off' + k, none⟩ = some (.int .i64 y) ∧ Below w.heap.size w w')
          (first | exact ⟨hcell, hcell', HB0.drew⟩ | go_keep) (fail)
        rename_i hheld
        have HH := Lib.hid hheld.2.2
        clear hheld HB0 hcell hcell'
        cases hxy : (x != y)
        · go_wp2
          go_roundg (gk - 1)
          case measure => omega
          case rel =>
            refine ⟨k + 1, by omega, by go_num, fun j hj => ?_, HH.out⟩
            by_cases e : j = k
            · rw [e, HX.out, HY.out]; simpa using hxy
            · exact HE.out j (by omega)
        · go_wp2
          go_ret
          refine ⟨ret_bool (sameB_not ?_).symm, HH.out⟩
          intro h
          have := lst_ext h k hlt
          rw [HX.out, HY.out] at this
          simp [this] at hxy
      · go_wp2
        go_ret
        exact ⟨ret_bool (sameB_of (lst_congr (fun j hj => HE.out j (by omega)))).symm, HB.out⟩
  · have hne : ¬ lst f len = lst g m := by
      intro h; have := congrArg List.length h; rw [lst_len, lst_len] at this; exact hlm this
    rw [sameB_not hne]
    clear hr hs hne
    go_enter Try.func20, Try.ntmps20
    go_wp2
    go_ret
    exact ⟨rfl, Below.refl _ _⟩
/-- does a list begin with another? -/
def begB (f : Nat → Int) (n : Nat) (g : Nat → Int) (m : Nat) : Bool := decide (m ≤ n ∧ lst f m = lst g m)
theorem begB_of {f g : Nat → Int} {n m : Nat} (hm : m ≤ n) (h : lst f m = lst g m) : begB f n g m = true := decide_eq_true ⟨hm, h⟩
theorem begB_not {f g : Nat → Int} {n m : Nat} (h : ¬ lst f m = lst g m) : begB f n g m = false := decide_eq_false (fun e => h e.2)
theorem begB_out {f g : Nat → Int} {n m : Nat} (h : n < m) : begB f n g m = false := decide_eq_false (fun e => by omega)
set_option maxHeartbeats 1000000 in
theorem begins_any (sa sb : Option Addr) (len cap m capb : Nat) (f g : Nat → Int) (w : World) (hl : len ≤ maxLen) (hr : IsInts w sa len f) (hs : IsInts w sb m g) :
    Calls Try.prog 63 #[.slice sa len cap, .slice sb m capb] w fun e w' => e = .returned (.bool (begB f len g m)) ∧ Below w.heap.size w w' := by
  unfold maxLen at hl
  by_cases hlm : m ≤ len
  · have hlm' : ¬ ((len : Int) < (m : Int)) := by omega
    have HR := Lib.hid hr
    have HS := Lib.hid hs
    clear hr hs
    go_enter Try.func63, Try.ntmps63
    go_wp2_with fail
    go_loopg [5] m (fun gg i wr => ∃ k : Nat, k + gg = m ∧ i = .int .i64 k ∧ (∀ j, j < k → f j = g j) ∧ Below w.heap.size w wr)
    case atStart => exact ⟨0, by omega, rfl, (fun j hj => absurd hj (Nat.not_lt_zero _)), Below.refl _ _⟩
    case round =>
      obtain ⟨k, hk, rfl, he, hb⟩ := hrel
      have HE := Lib.hid he
      have HB := Lib.hid hb
      clear he hb
      by_cases hlt : k < m
      · obtain ⟨b, off, rfl, hcell⟩ := HR.out.at HB.out (show k < len by omega)
        obtain ⟨b', off', rfl, hcell'⟩ := HS.out.at HB.out hlt
        obtain ⟨x, hx⟩ : ∃ x, f k = x := ⟨_, rfl⟩
        obtain ⟨y, hy⟩ : ∃ y, g k = y := ⟨_, rfl⟩
        rw [hx] at hcell
        rw [hy] at hcell'
        have HX := Lib.hid hx
        have HY := Lib.hid hy
        clear hx hy
        have q1 : (k : Int) < (len : Int) := by omega
        have q2 : (k : Int) < (m : Int) := by omega
        have q3 : (0 : Int) ≤ (k : Int) := by omega
        have HB0 := HB.out
        go_wp2_with fail
        go_region_held3 (fun w' => w'.cell? ⟨b, off + k, none⟩ = some (.int .i64 x) ∧ w'.cell? ⟨b', off' + k, none⟩ = some (.int .i64 y) ∧ Below w.heap.size w w')
          (first | exact ⟨hcell, hcell', HB0.drew⟩ | go_keep) (fail)
        rename_i hheld
        have HH := Lib.hid hheld.2.2
        clear hheld HB0 hcell hcell'
        cases hxy : (x != y)
        · go_wp2
          go_roundg (gk - 1)
          case measure => omega
          case rel =>
            refine ⟨k + 1, by omega, by go_num, fun j hj => ?_, HH.out⟩
            by_cases e : j = k
            · rw [e, HX.out, HY.out]; simpa using hxy
            · exact HE.out j (by omega)
        · go_wp2
          go_ret
          refine ⟨ret_bool (begB_not ?_).symm, HH.out⟩
          intro h
          have := lst_ext h k hlt
          rw [HX.out, HY.out] at this
          simp [this] at hxy
      · go_wp2
        go_ret
        exact ⟨ret_bool (begB_of hlm (lst_congr (fun j hj => HE.out j (by omega)))).symm, HB.out⟩
  · have hlm' : (len : Int) < (m : Int) := by omega
    rw [begB_out (by omega)]
    clear hr hs
    go_enter Try.func63, Try.ntmps63
    go_wp2
    go_ret
    exact ⟨rfl, Below.refl _ _⟩
end Go.Proofs.Ytampjndfhpjheaa
