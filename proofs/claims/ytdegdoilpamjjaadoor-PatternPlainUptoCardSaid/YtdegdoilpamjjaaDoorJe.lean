/- Contracts of the pattern's reader: kind, sign (printed by gen_je.py). Condition: no more than 2^30 ints. -/
import Derived.Test.YtdegdoilpamjjaaDoorJd
namespace Go.Proofs.YtdegdoilpamjjaaDoor
open Go.RowKit
set_option linter.unusedVariables false
set_option linter.unusedSimpArgs false
/-- what a letter takes, as a value -/
def kindV (c : Int) : Value := .func (.func (if c = 100 then 95 else if c = 115 then 96 else if c = 119 then 97 else if c = 108 then 98 else 99)) #[] #[]
theorem kind_c (c : Int) (w : World) : Calls Tryd.prog 84 #[.int .i64 c] w fun e w' => e = .returned (kindV c) ∧ w' = w := by
  by_cases h100 : c = 100
  · subst h100
    go_enter Tryd.func84, Tryd.ntmps84
    go_wp2
    go_ret
    exact ⟨rfl, rfl⟩
  have n100 : (c == 100) = false := by rw [beq_eq_false_iff_ne]; exact h100
  by_cases h115 : c = 115
  · subst h115
    go_enter Tryd.func84, Tryd.ntmps84
    go_wp2
    go_ret
    exact ⟨rfl, rfl⟩
  have n115 : (c == 115) = false := by rw [beq_eq_false_iff_ne]; exact h115
  by_cases h119 : c = 119
  · subst h119
    go_enter Tryd.func84, Tryd.ntmps84
    go_wp2
    go_ret
    exact ⟨rfl, rfl⟩
  have n119 : (c == 119) = false := by rw [beq_eq_false_iff_ne]; exact h119
  by_cases h108 : c = 108
  · subst h108
    go_enter Tryd.func84, Tryd.ntmps84
    go_wp2
    go_ret
    exact ⟨rfl, rfl⟩
  have n108 : (c == 108) = false := by rw [beq_eq_false_iff_ne]; exact h108
  have hk : kindV c = .func (.func 99) #[] #[] := by unfold kindV; rw [if_neg h100, if_neg h115, if_neg h119, if_neg h108]
  rw [hk]
  clear hk
  go_enter Tryd.func84, Tryd.ntmps84
  go_wp2
  go_ret
  exact ⟨rfl, rfl⟩
/-- a sign, as values -/
def signV (r : Int × Option Int) : Array Value := #[.int .i64 r.1, match r.2 with | none => .nilFunc | some k => kindV k]
set_option maxRecDepth 100000 in
set_option maxHeartbeats 8000000 in
theorem sign_c (rb : Nat) (sl : Option Addr) (n c : Nat) (src : List Int) (s : RS) (fold : Bool) (w : World) (h : RdM w rb sl n c src s fold) :
    Calls Tryd.prog 93 #[.pointer (some ⟨rb, 0, none⟩)] w (RdP w rb sl n c src fold (signP src s) (fun x w' v => v = .tuple (signV x))) := by
  obtain ⟨R, hR⟩ : ∃ R, signP src s = R := ⟨_, rfl⟩
  rw [hR]
  have hR2 := hR
  unfold signP at hR2
  have H := Lib.hid h
  have hn30 := h.n30
  clear h hR
  go_enter Tryd.func93, Tryd.ntmps93
  go_wp2_with fail
  refine (next_c rb sl n c src s fold w H.out).mono ?_
  rintro e w2 ⟨ht2, h2⟩
  cases hnx : nx src s with
  | error k =>
    rw [hnx] at h2 hR2
    have h2 : e = .panicked [wrongP k] := h2
    subst h2
    subst hR2
    go_wp2
    exact ⟨rfl, ht2, rfl⟩
  | ok r =>
    obtain ⟨y, s2⟩ := r
    rw [hnx] at h2 hR2
    obtain ⟨⟨v, rfl, rfl⟩, hrm2⟩ := h2
    have HM2 := Lib.hid hrm2
    have HT2 := Lib.hid ht2
    have HR2 := Lib.hid hR2
    clear hrm2 ht2 hR2 hnx H
    by_cases h92 : y = 92
    · subst h92
      go_wp2_with fail
      refine (next_c rb sl n c src s2 fold w2 HM2.out).mono ?_
      rintro e w3 ⟨ht3, h3⟩
      have hR3 := HR2.out
      simp only [ne_eq, not_true_eq_false, if_false] at hR3
      cases hnx : nx src s2 with
      | error k =>
        rw [hnx] at h3 hR3
        have h3 : e = .panicked [wrongP k] := h3
        subst h3
        subst hR3
        go_wp2
        exact ⟨rfl, HT2.out.trans ht3 (fun y hy => .inl hy), rfl⟩
      | ok r =>
        obtain ⟨y, s3⟩ := r
        rw [hnx] at h3 hR3
        obtain ⟨⟨v, rfl, rfl⟩, hrm3⟩ := h3
        have HM3 := Lib.hid hrm3
        have HT3 := Lib.hid (HT2.out.trans ht3 (fun y hy => .inl hy))
        have HR3 := Lib.hid hR3
        have hs3 : s3.at' = s2.at' + 1 := by
          unfold nx at hnx
          split at hnx
          · cases hnx
          · injection hnx with hnx
            injection hnx with _ hnx
            rw [← hnx]
        have HS3 := Lib.hid hs3
        clear hrm3 ht3 hR3 hnx HM2 HT2 HR2 hs3
        by_cases h92 : y = 92
        · subst h92
          have hr : R = .ok (((92 : Int), (none : Option Int)), s3) := HR3.out.symm
          subst hr
          have HM4 := HM3.out
          go_wp2
          refine bodyPost_ret (v := .tuple (signV ((92 : Int), (none : Option Int)))) (by simp [results, Tryd.results93, go_sem, signV]) rfl ?_
          exact ⟨HT3.out, ⟨_, rfl, rfl⟩, HM4⟩
        have n92 : (y == 92) = false := by rw [beq_eq_false_iff_ne]; exact h92
        by_cases h93 : y = 93
        · subst h93
          have hr : R = .ok (((93 : Int), (none : Option Int)), s3) := HR3.out.symm
          subst hr
          have HM4 := HM3.out
          go_wp2
          refine bodyPost_ret (v := .tuple (signV ((93 : Int), (none : Option Int)))) (by simp [results, Tryd.results93, go_sem, signV]) rfl ?_
          exact ⟨HT3.out, ⟨_, rfl, rfl⟩, HM4⟩
        have n93 : (y == 93) = false := by rw [beq_eq_false_iff_ne]; exact h93
        by_cases h94 : y = 94
        · subst h94
          have hr : R = .ok (((94 : Int), (none : Option Int)), s3) := HR3.out.symm
          subst hr
          have HM4 := HM3.out
          go_wp2
          refine bodyPost_ret (v := .tuple (signV ((94 : Int), (none : Option Int)))) (by simp [results, Tryd.results93, go_sem, signV]) rfl ?_
          exact ⟨HT3.out, ⟨_, rfl, rfl⟩, HM4⟩
        have n94 : (y == 94) = false := by rw [beq_eq_false_iff_ne]; exact h94
        by_cases h45 : y = 45
        · subst h45
          have hr : R = .ok (((45 : Int), (none : Option Int)), s3) := HR3.out.symm
          subst hr
          have HM4 := HM3.out
          go_wp2
          refine bodyPost_ret (v := .tuple (signV ((45 : Int), (none : Option Int)))) (by simp [results, Tryd.results93, go_sem, signV]) rfl ?_
          exact ⟨HT3.out, ⟨_, rfl, rfl⟩, HM4⟩
        have n45 : (y == 45) = false := by rw [beq_eq_false_iff_ne]; exact h45
        by_cases h116 : y = 116
        · subst h116
          have hr : R = .ok (((9 : Int), (none : Option Int)), s3) := HR3.out.symm
          subst hr
          have HM4 := HM3.out
          go_wp2
          refine bodyPost_ret (v := .tuple (signV ((9 : Int), (none : Option Int)))) (by simp [results, Tryd.results93, go_sem, signV]) rfl ?_
          exact ⟨HT3.out, ⟨_, rfl, rfl⟩, HM4⟩
        have n116 : (y == 116) = false := by rw [beq_eq_false_iff_ne]; exact h116
        by_cases h101 : y = 101
        · subst h101
          have hr : R = .ok (((27 : Int), (none : Option Int)), s3) := HR3.out.symm
          subst hr
          have HM4 := HM3.out
          go_wp2
          refine bodyPost_ret (v := .tuple (signV ((27 : Int), (none : Option Int)))) (by simp [results, Tryd.results93, go_sem, signV]) rfl ?_
          exact ⟨HT3.out, ⟨_, rfl, rfl⟩, HM4⟩
        have n101 : (y == 101) = false := by rw [beq_eq_false_iff_ne]; exact h101
        by_cases h120 : y = 120
        · subst h120
          have hR4 : (match hexP src 255 2 0 s3 with
            | .error e => .error e
            | .ok (v, s4) => .ok ((-1 - v, (none : Option Int)), s4)) = R := HR3.out
          go_wp2_with fail
          refine (show Calls Tryd.prog 85 #[.pointer (some ⟨rb, 0, none⟩), .int .i64 2, .int .i64 255] w3 _ from hex_c 2 (by decide) 255 (by decide) (by decide) rb sl n c src s3 fold w3 HM3.out).mono ?_
          rintro e w4 ⟨ht4, h4⟩
          cases hhx : hexP src 255 2 0 s3 with
          | error k =>
            rw [hhx] at h4 hR4
            have h4 : e = .panicked [wrongP k] := h4
            subst h4
            subst hR4
            go_wp2
            exact ⟨rfl, HT3.out.trans ht4 (fun y hy => .inl hy), rfl⟩
          | ok r =>
            obtain ⟨x, s4⟩ := r
            rw [hhx] at h4 hR4
            obtain ⟨⟨v, rfl, rfl, hx0, hx1⟩, hrm4⟩ := h4
            subst hR4
            have HT4 := HT3.out.trans ht4 (fun y hy => .inl hy)
            clear ht4 hhx
            go_wp2
            refine bodyPost_ret (v := .tuple (signV (-1 - x, none))) (by simp [results, Tryd.results93, go_sem, signV]) rfl ?_
            exact ⟨HT4, ⟨_, rfl, rfl⟩, hrm4⟩
        have n120 : (y == 120) = false := by rw [beq_eq_false_iff_ne]; exact h120
        by_cases h100 : y = 100
        · subst h100
          have hr : R = .ok ((0, some 100), s3) := HR3.out.symm
          subst hr
          have HM4 := HM3.out
          have hkc := kind_c 100 w3
          go_wp2_with fail
          refine hkc.mono ?_
          rintro e w4 ⟨rfl, rfl⟩
          go_wp2
          refine bodyPost_ret (v := .tuple (signV (0, some 100))) (by simp [results, Tryd.results93, go_sem, signV]) rfl ?_
          exact ⟨HT3.out, ⟨_, rfl, rfl⟩, HM4⟩
        have n100 : (y == 100) = false := by rw [beq_eq_false_iff_ne]; exact h100
        by_cases h115 : y = 115
        · subst h115
          have hr : R = .ok ((0, some 115), s3) := HR3.out.symm
          subst hr
          have HM4 := HM3.out
          have hkc := kind_c 115 w3
          go_wp2_with fail
          refine hkc.mono ?_
          rintro e w4 ⟨rfl, rfl⟩
          go_wp2
          refine bodyPost_ret (v := .tuple (signV (0, some 115))) (by simp [results, Tryd.results93, go_sem, signV]) rfl ?_
          exact ⟨HT3.out, ⟨_, rfl, rfl⟩, HM4⟩
        have n115 : (y == 115) = false := by rw [beq_eq_false_iff_ne]; exact h115
        by_cases h119 : y = 119
        · subst h119
          have hr : R = .ok ((0, some 119), s3) := HR3.out.symm
          subst hr
          have HM4 := HM3.out
          have hkc := kind_c 119 w3
          go_wp2_with fail
          refine hkc.mono ?_
          rintro e w4 ⟨rfl, rfl⟩
          go_wp2
          refine bodyPost_ret (v := .tuple (signV (0, some 119))) (by simp [results, Tryd.results93, go_sem, signV]) rfl ?_
          exact ⟨HT3.out, ⟨_, rfl, rfl⟩, HM4⟩
        have n119 : (y == 119) = false := by rw [beq_eq_false_iff_ne]; exact h119
        by_cases h108 : y = 108
        · subst h108
          have hr : R = .ok ((0, some 108), s3) := HR3.out.symm
          subst hr
          have HM4 := HM3.out
          have hkc := kind_c 108 w3
          go_wp2_with fail
          refine hkc.mono ?_
          rintro e w4 ⟨rfl, rfl⟩
          go_wp2
          refine bodyPost_ret (v := .tuple (signV (0, some 108))) (by simp [results, Tryd.results93, go_sem, signV]) rfl ?_
          exact ⟨HT3.out, ⟨_, rfl, rfl⟩, HM4⟩
        have n108 : (y == 108) = false := by rw [beq_eq_false_iff_ne]; exact h108
        by_cases h117 : y = 117
        · subst h117
          have hr : R = .ok ((0, some 117), s3) := HR3.out.symm
          subst hr
          have HM4 := HM3.out
          have hkc := kind_c 117 w3
          go_wp2_with fail
          refine hkc.mono ?_
          rintro e w4 ⟨rfl, rfl⟩
          go_wp2
          refine bodyPost_ret (v := .tuple (signV (0, some 117))) (by simp [results, Tryd.results93, go_sem, signV]) rfl ?_
          exact ⟨HT3.out, ⟨_, rfl, rfl⟩, HM4⟩
        have n117 : (y == 117) = false := by rw [beq_eq_false_iff_ne]; exact h117
        have hr : R = .error s2.at' := by
          rw [← HR3.out]
          simp only [h92, h93, h94, h45, h116, h101, h120, h100, h115, h119, h108, h117, or_self, if_false]
          rw [HS3.out]; rfl
        subst hr
        have b1 : w3.cell? ⟨rb, 1, none⟩ = some (.int .i64 ((s2.at' : Int) + 1)) := by
          have h := block_cell (i := 1) HM3.out.blk
          rw [HS3.out] at h
          exact h
        have han : s2.at' < 1073741824 := by have := HM3.out.at'; rw [HS3.out] at this; omega
        go_wp2
        exact ⟨rfl, HT3.out, rfl⟩
    · have n92 : (y != 92) = true := by rw [bne_iff_ne]; exact h92
      have hr : R = .ok ((y, none), s2) := by rw [← HR2.out]; exact if_pos h92
      subst hr
      have HM4 := HM2.out
      go_wp2
      refine bodyPost_ret (v := .tuple (signV (y, none))) (by simp [results, Tryd.results93, go_sem, signV]) rfl ?_
      exact ⟨HT2.out, ⟨_, rfl, rfl⟩, HM4⟩
end Go.Proofs.YtdegdoilpamjjaaDoor
