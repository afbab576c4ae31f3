/- Contracts of the pattern's reader: kind, sign (printed by gen_je.py). Condition: no more than 2^30 ints. Contracts: glyph.Word, and the five kinds of the pattern (letters a kind takes). Condition: the tables of glyph stand in memory (great and small letters). Nodes of a pattern in memory: blocks other than the reader's, made once and never written again. No walk but one. Contracts of the pattern's reader: times (how often). Condition: no more than 2^30 ints. Contracts: parts of a node (lid, set, edge). No condition. parts, called through an interface: what answers for each of the six types; a walk above a type not known (group, number 0). Contracts of the document's reader of patterns: number, raw. Condition: no more than 2^30 ints. parts: total (the sum over a list of nodes). Lists of elements that a call builds; blocks that stay by their kind; a set of one int. No walk but one. Nodes of a pattern in memory, by the stretch of blocks in which they lie; times of the reader. Condition: no more than 2^30 ints. Contracts of the pattern's reader at a quoted int: times, thing, member. Condition: no more than 2^30 ints. -/
import Derived.Deep.RegionWith
import Derived.Test.YtdegdoilpamjjaaDoorCAb
import Derived.Test.YtdegdoilpamjjaaDoorCAa
import Derived.Test.YtdegdoilpamjjaaDoorCAc
namespace Go.Proofs.YtdegdoilpamjjaaDoor
open Go.RowKit
set_option linter.unusedVariables false
set_option linter.unusedSimpArgs false
def kindV (c : Int) : Value := .func (.func (if c = 100 then 95 else if c = 115 then 96 else if c = 119 then 97 else if c = 108 then 98 else 99)) #[] #[]
theorem kind_c (c : Int) (w : World) : Calls Tryd.prog 84 #[.int .i64 c] w fun e w' => e = .returned (kindV c) ∧ w' = w := by
 by_cases h100 : c = 100
 ·
  subst h100
  go_enter Tryd.func84, Tryd.ntmps84
  go_wp2
  go_ret
  exact ⟨rfl, rfl⟩
 have n100 : (c == 100) = false := by rw [beq_eq_false_iff_ne]; exact h100
 by_cases h115 : c = 115
 ·
  subst h115
  go_enter Tryd.func84, Tryd.ntmps84
  go_wp2
  go_ret
  exact ⟨rfl, rfl⟩
 have n115 : (c == 115) = false := by rw [beq_eq_false_iff_ne]; exact h115
 by_cases h119 : c = 119
 ·
  subst h119
  go_enter Tryd.func84, Tryd.ntmps84
  go_wp2
  go_ret
  exact ⟨rfl, rfl⟩
 have n119 : (c == 119) = false := by rw [beq_eq_false_iff_ne]; exact h119
 by_cases h108 : c = 108
 ·
  subst h108
  go_enter Tryd.func84, Tryd.ntmps84
  go_wp2
  go_ret
  exact ⟨rfl, rfl⟩
 have n108 : (c == 108) = false := by rw [beq_eq_false_iff_ne]; exact h108
 have hk : kindV c = .func (.func 99) #[] #[] := by unfold kindV; rw [if_neg h100, if_neg h115, if_neg h119, if_neg h108]
 rw [hk]
 clear hk
 go_enter Tryd.func84, Tryd.ntmps84
 go_wp2
 go_ret
 exact ⟨rfl, rfl⟩
def signV (r : Int × Option Int) : Array Value := #[.int .i64 r.1, match r.2 with | none => .nilFunc | some k => kindV k]
set_option maxRecDepth 100000 in
set_option maxHeartbeats 8000000 in
theorem sign_c (rb : Nat) (sl : Option Addr) (n c : Nat) (src : List Int) (s : RS) (fold : Bool) (w : World) (h : RdM w rb sl n c src s fold) :
  Calls Tryd.prog 93 #[.pointer (some ⟨rb, 0, none⟩)] w (RdP w rb sl n c src fold (signP src s) (fun x w' v => v = .tuple (signV x))) := by
 obtain ⟨R, hR⟩ : ∃ R, signP src s = R := ⟨_, rfl⟩
 rw [hR]
 have hR2 := hR
 unfold signP at hR2
 have H := Lib.hid h
 have hn30 := h.n30
 clear h hR
 go_enter Tryd.func93, Tryd.ntmps93
 go_wp2_with fail
 refine (next_c rb sl n c src s fold w H.out).mono ?_
 rintro e w2 ⟨ht2, h2⟩
 cases hnx : nx src s with
 | error k =>
  rw [hnx] at h2 hR2
  have h2 : e = .panicked [wrongP k] := h2
  subst h2
  subst hR2
  go_wp2
  exact ⟨rfl, ht2, rfl⟩
 | ok r =>
  obtain ⟨y, s2⟩ := r
  rw [hnx] at h2 hR2
  obtain ⟨⟨v, rfl, rfl⟩, hrm2⟩ := h2
  have HM2 := Lib.hid hrm2
  have HT2 := Lib.hid ht2
  have HR2 := Lib.hid hR2
  clear hrm2 ht2 hR2 hnx H
  by_cases h92 : y = 92
  ·
   subst h92
   go_wp2_with fail
   refine (next_c rb sl n c src s2 fold w2 HM2.out).mono ?_
   rintro e w3 ⟨ht3, h3⟩
   have hR3 := HR2.out
   simp only [ne_eq, not_true_eq_false, if_false] at hR3
   cases hnx : nx src s2 with
   | error k =>
    rw [hnx] at h3 hR3
    have h3 : e = .panicked [wrongP k] := h3
    subst h3
    subst hR3
    go_wp2
    exact ⟨rfl, HT2.out.trans ht3 (fun y hy => .inl hy), rfl⟩
   | ok r =>
    obtain ⟨y, s3⟩ := r
    rw [hnx] at h3 hR3
    obtain ⟨⟨v, rfl, rfl⟩, hrm3⟩ := h3
    have HM3 := Lib.hid hrm3
    have HT3 := Lib.hid (HT2.out.trans ht3 (fun y hy => .inl hy))
    have HR3 := Lib.hid hR3
    have hs3 : s3.at' = s2.at' + 1 := by
     unfold nx at hnx
     split at hnx
     · cases hnx
     ·
      injection hnx with hnx
      injection hnx with _ hnx
      rw [← hnx]
    have HS3 := Lib.hid hs3
    clear hrm3 ht3 hR3 hnx HM2 HT2 HR2 hs3
    by_cases h92 : y = 92
    ·
     subst h92
     have hr : R = .ok (((92 : Int), (none : Option Int)), s3) := HR3.out.symm
     subst hr
     have HM4 := HM3.out
     go_wp2
     refine bodyPost_ret (v := .tuple (signV ((92 : Int), (none : Option Int)))) (by simp [results, Tryd.results93, go_sem, signV]) rfl ?_
     exact ⟨HT3.out, ⟨_, rfl, rfl⟩, HM4⟩
    have n92 : (y == 92) = false := by rw [beq_eq_false_iff_ne]; exact h92
    by_cases h93 : y = 93
    ·
     subst h93
     have hr : R = .ok (((93 : Int), (none : Option Int)), s3) := HR3.out.symm
     subst hr
     have HM4 := HM3.out
     go_wp2
     refine bodyPost_ret (v := .tuple (signV ((93 : Int), (none : Option Int)))) (by simp [results, Tryd.results93, go_sem, signV]) rfl ?_
     exact ⟨HT3.out, ⟨_, rfl, rfl⟩, HM4⟩
    have n93 : (y == 93) = false := by rw [beq_eq_false_iff_ne]; exact h93
    by_cases h94 : y = 94
    ·
     subst h94
     have hr : R = .ok (((94 : Int), (none : Option Int)), s3) := HR3.out.symm
     subst hr
     have HM4 := HM3.out
     go_wp2
     refine bodyPost_ret (v := .tuple (signV ((94 : Int), (none : Option Int)))) (by simp [results, Tryd.results93, go_sem, signV]) rfl ?_
     exact ⟨HT3.out, ⟨_, rfl, rfl⟩, HM4⟩
    have n94 : (y == 94) = false := by rw [beq_eq_false_iff_ne]; exact h94
    by_cases h45 : y = 45
    ·
     subst h45
     have hr : R = .ok (((45 : Int), (none : Option Int)), s3) := HR3.out.symm
     subst hr
     have HM4 := HM3.out
     go_wp2
     refine bodyPost_ret (v := .tuple (signV ((45 : Int), (none : Option Int)))) (by simp [results, Tryd.results93, go_sem, signV]) rfl ?_
     exact ⟨HT3.out, ⟨_, rfl, rfl⟩, HM4⟩
    have n45 : (y == 45) = false := by rw [beq_eq_false_iff_ne]; exact h45
    by_cases h116 : y = 116
    ·
     subst h116
     have hr : R = .ok (((9 : Int), (none : Option Int)), s3) := HR3.out.symm
     subst hr
     have HM4 := HM3.out
     go_wp2
     refine bodyPost_ret (v := .tuple (signV ((9 : Int), (none : Option Int)))) (by simp [results, Tryd.results93, go_sem, signV]) rfl ?_
     exact ⟨HT3.out, ⟨_, rfl, rfl⟩, HM4⟩
    have n116 : (y == 116) = false := by rw [beq_eq_false_iff_ne]; exact h116
    by_cases h101 : y = 101
    ·
     subst h101
     have hr : R = .ok (((27 : Int), (none : Option Int)), s3) := HR3.out.symm
     subst hr
     have HM4 := HM3.out
     go_wp2
     refine bodyPost_ret (v := .tuple (signV ((27 : Int), (none : Option Int)))) (by simp [results, Tryd.results93, go_sem, signV]) rfl ?_
     exact ⟨HT3.out, ⟨_, rfl, rfl⟩, HM4⟩
    have n101 : (y == 101) = false := by rw [beq_eq_false_iff_ne]; exact h101
    by_cases h120 : y = 120
    ·
     subst h120
     have hR4 : (match hexP src 255 2 0 s3 with
      | .error e => .error e
      | .ok (v, s4) => .ok ((-1 - v, (none : Option Int)), s4)) = R := HR3.out
     go_wp2_with fail
     refine (show Calls Tryd.prog 85 #[.pointer (some ⟨rb, 0, none⟩), .int .i64 2, .int .i64 255] w3 _ from hex_c 2 (by decide) 255 (by decide) (by decide) rb sl n c src s3 fold w3 HM3.out).mono ?_
     rintro e w4 ⟨ht4, h4⟩
     cases hhx : hexP src 255 2 0 s3 with
     | error k =>
      rw [hhx] at h4 hR4
      have h4 : e = .panicked [wrongP k] := h4
      subst h4
      subst hR4
      go_wp2
      exact ⟨rfl, HT3.out.trans ht4 (fun y hy => .inl hy), rfl⟩
     | ok r =>
      obtain ⟨x, s4⟩ := r
      rw [hhx] at h4 hR4
      obtain ⟨⟨v, rfl, rfl, hx0, hx1⟩, hrm4⟩ := h4
      subst hR4
      have HT4 := HT3.out.trans ht4 (fun y hy => .inl hy)
      clear ht4 hhx
      go_wp2
      refine bodyPost_ret (v := .tuple (signV (-1 - x, none))) (by simp [results, Tryd.results93, go_sem, signV]) rfl ?_
      exact ⟨HT4, ⟨_, rfl, rfl⟩, hrm4⟩
    have n120 : (y == 120) = false := by rw [beq_eq_false_iff_ne]; exact h120
    by_cases h100 : y = 100
    ·
     subst h100
     have hr : R = .ok ((0, some 100), s3) := HR3.out.symm
     subst hr
     have HM4 := HM3.out
     have hkc := kind_c 100 w3
     go_wp2_with fail
     refine hkc.mono ?_
     rintro e w4 ⟨rfl, rfl⟩
     go_wp2
     refine bodyPost_ret (v := .tuple (signV (0, some 100))) (by simp [results, Tryd.results93, go_sem, signV]) rfl ?_
     exact ⟨HT3.out, ⟨_, rfl, rfl⟩, HM4⟩
    have n100 : (y == 100) = false := by rw [beq_eq_false_iff_ne]; exact h100
    by_cases h115 : y = 115
    ·
     subst h115
     have hr : R = .ok ((0, some 115), s3) := HR3.out.symm
     subst hr
     have HM4 := HM3.out
     have hkc := kind_c 115 w3
     go_wp2_with fail
     refine hkc.mono ?_
     rintro e w4 ⟨rfl, rfl⟩
     go_wp2
     refine bodyPost_ret (v := .tuple (signV (0, some 115))) (by simp [results, Tryd.results93, go_sem, signV]) rfl ?_
     exact ⟨HT3.out, ⟨_, rfl, rfl⟩, HM4⟩
    have n115 : (y == 115) = false := by rw [beq_eq_false_iff_ne]; exact h115
    by_cases h119 : y = 119
    ·
     subst h119
     have hr : R = .ok ((0, some 119), s3) := HR3.out.symm
     subst hr
     have HM4 := HM3.out
     have hkc := kind_c 119 w3
     go_wp2_with fail
     refine hkc.mono ?_
     rintro e w4 ⟨rfl, rfl⟩
     go_wp2
     refine bodyPost_ret (v := .tuple (signV (0, some 119))) (by simp [results, Tryd.results93, go_sem, signV]) rfl ?_
     exact ⟨HT3.out, ⟨_, rfl, rfl⟩, HM4⟩
    have n119 : (y == 119) = false := by rw [beq_eq_false_iff_ne]; exact h119
    by_cases h108 : y = 108
    ·
     subst h108
     have hr : R = .ok ((0, some 108), s3) := HR3.out.symm
     subst hr
     have HM4 := HM3.out
     have hkc := kind_c 108 w3
     go_wp2_with fail
     refine hkc.mono ?_
     rintro e w4 ⟨rfl, rfl⟩
     go_wp2
     refine bodyPost_ret (v := .tuple (signV (0, some 108))) (by simp [results, Tryd.results93, go_sem, signV]) rfl ?_
     exact ⟨HT3.out, ⟨_, rfl, rfl⟩, HM4⟩
    have n108 : (y == 108) = false := by rw [beq_eq_false_iff_ne]; exact h108
    by_cases h117 : y = 117
    ·
     subst h117
     have hr : R = .ok ((0, some 117), s3) := HR3.out.symm
     subst hr
     have HM4 := HM3.out
     have hkc := kind_c 117 w3
     go_wp2_with fail
     refine hkc.mono ?_
     rintro e w4 ⟨rfl, rfl⟩
     go_wp2
     refine bodyPost_ret (v := .tuple (signV (0, some 117))) (by simp [results, Tryd.results93, go_sem, signV]) rfl ?_
     exact ⟨HT3.out, ⟨_, rfl, rfl⟩, HM4⟩
    have n117 : (y == 117) = false := by rw [beq_eq_false_iff_ne]; exact h117
    have hr : R = .error s2.at' := by
     rw [← HR3.out]
     simp only [h92, h93, h94, h45, h116, h101, h120, h100, h115, h119, h108, h117, or_self, if_false]
     rw [HS3.out]; rfl
    subst hr
    have b1 : w3.cell? ⟨rb, 1, none⟩ = some (.int .i64 ((s2.at' : Int) + 1)) := by
     have h := block_cell (i := 1) HM3.out.blk
     rw [HS3.out] at h
     exact h
    have han : s2.at' < 1073741824 := by have := HM3.out.at'; rw [HS3.out] at this; omega
    go_wp2
    exact ⟨rfl, HT3.out, rfl⟩
  ·
   have n92 : (y != 92) = true := by rw [bne_iff_ne]; exact h92
   have hr : R = .ok ((y, none), s2) := by rw [← HR2.out]; exact if_pos h92
   subst hr
   have HM4 := HM2.out
   go_wp2
   refine bodyPost_ret (v := .tuple (signV (y, none))) (by simp [results, Tryd.results93, go_sem, signV]) rfl ?_
   exact ⟨HT2.out, ⟨_, rfl, rfl⟩, HM4⟩
end Go.Proofs.YtdegdoilpamjjaaDoor
namespace Go.Proofs.YtdegdoilpamjjaaDoor
open Go.RowKit
set_option linter.unusedVariables false
set_option linter.unusedSimpArgs false
set_option maxHeartbeats 1000000 in
theorem word_any (a : Int) (w : World) :
  Calls Tryd.prog 89 #[.int .i64 a] w fun e w' => e = .returned (.int .i64 (wordF a)) ∧ Below w.heap.size w w' := by
 by_cases hs : scalarB a = true
 ·
  have hfin := Lib.hid (show wordF a = if sot wordT a = 2 then 2 else if sot wordT a = 1 then 0 else 1 by unfold wordF; rw [if_neg (by rw [hs]; decide)])
  obtain ⟨c, hc⟩ : ∃ c, sot wordT a = c := ⟨_, rfl⟩
  have HC := Lib.hid hc
  clear hc
  go_enter Tryd.func89, Tryd.ntmps89
  generalize hS : ByteArray.mk _ = S
  have HS := Lib.hid hS
  clear hS
  go_wp2_with fail
  refine (scalar_any _ _).mono ?_
  rintro e w' ⟨rfl, rfl⟩
  go_wp2_with fail
  refine (sought_table S wordT 81 a _ (by rw [← HS.out]; kernel_rfl) (by omega) (by rw [← HS.out]; kernel_rfl) (by rw [← HS.out]; kernel_rfl) wordT_len).mono ?_
  rintro e w2 ⟨rfl, hb2⟩
  have HB2 := Lib.hid hb2
  clear hb2
  rw [HC.out]
  by_cases c2 : c = 2
  ·
   subst c2
   go_wp2
   go_ret
   exact ⟨ret_int (by rw [hfin.out, HC.out]; rfl), HB2.out⟩
  ·
   by_cases c1 : c = 1
   ·
    subst c1
    clear c2
    go_wp2
    go_ret
    exact ⟨ret_int (by rw [hfin.out, HC.out]; rfl), HB2.out⟩
   ·
    go_wp2
    go_ret
    exact ⟨ret_int (by rw [hfin.out, HC.out, if_neg c2, if_neg c1]), HB2.out⟩
 ·
  have hs' : scalarB a = false := by simpa using hs
  clear hs
  have hfin := Lib.hid (show wordF a = 1 by unfold wordF; rw [if_pos hs'])
  go_enter Tryd.func89, Tryd.ntmps89
  generalize ByteArray.mk _ = S
  go_wp2_with fail
  refine (scalar_any _ _).mono ?_
  rintro e w' ⟨rfl, rfl⟩
  go_wp2
  go_ret
  exact ⟨ret_int (by rw [hfin.out]), Below.refl _ _⟩
theorem word_eq (a v : Int) (w : World) (h : wordF a = v) :
  Calls Tryd.prog 89 #[.int .i64 a] w fun e w' => e = .returned (.int .i64 v) ∧ Below w.heap.size w w' := by
 subst h; exact word_any a w
def G0 : GlyD := ⟨wordF, upperF, lowerF⟩
theorem kind1_c (a : Int) (w : World) : Calls Tryd.prog 95 #[.int .i64 a] w fun e w' => e = .returned (.bool (kindP G0 100 a)) ∧ w' = w := by
 have hk : kindP G0 100 a = decide (48 ≤ a ∧ a ≤ 57) := by unfold kindP; rw [if_pos rfl]
 rw [hk]
 clear hk
 by_cases h1 : 48 ≤ a
 ·
  by_cases h2 : a ≤ 57
  ·
   have H1 := Lib.hid h1
   have H2 := Lib.hid h2
   have d1 : decide (48 ≤ a) = true := decide_eq_true h1
   have d2 : decide (a ≤ 57) = true := decide_eq_true h2
   rw [decide_eq_true ⟨h1, h2⟩]
   go_enter Tryd.func95, Tryd.ntmps95
   go_wp2
   go_ret
   exact ⟨rfl, rfl⟩
  ·
   have d1 : decide (48 ≤ a) = true := decide_eq_true h1
   have d2 : decide (a ≤ 57) = false := decide_eq_false h2
   rw [decide_eq_false (fun h => h2 h.2)]
   go_enter Tryd.func95, Tryd.ntmps95
   go_wp2
   go_ret
   exact ⟨rfl, rfl⟩
 ·
  have d1 : decide (48 ≤ a) = false := decide_eq_false h1
  rw [decide_eq_false (fun h => h1 h.1)]
  go_enter Tryd.func95, Tryd.ntmps95
  go_wp2
  go_ret
  exact ⟨rfl, rfl⟩
theorem kind2_c (a : Int) (w : World) : Calls Tryd.prog 96 #[.int .i64 a] w fun e w' => e = .returned (.bool (kindP G0 115 a)) ∧ w' = w := by
 have hk : kindP G0 115 a = decide (a = 32 ∨ a = 9) := by unfold kindP; rw [if_neg (by decide), if_pos rfl]
 rw [hk]
 clear hk
 by_cases h1 : a = 32
 ·
  subst h1
  go_enter Tryd.func96, Tryd.ntmps96
  go_wp2
  go_ret
  exact ⟨rfl, rfl⟩
 ·
  by_cases h2 : a = 9
  ·
   subst h2
   go_enter Tryd.func96, Tryd.ntmps96
   go_wp2
   go_ret
   exact ⟨rfl, rfl⟩
  ·
   have n1 : (a == 32) = false := by rw [beq_eq_false_iff_ne]; exact h1
   have n2 : (a == 9) = false := by rw [beq_eq_false_iff_ne]; exact h2
   rw [decide_eq_false (fun h => h.elim h1 h2)]
   go_enter Tryd.func96, Tryd.ntmps96
   go_wp2
   go_ret
   exact ⟨rfl, rfl⟩
theorem kind3_c (a : Int) (w : World) : Calls Tryd.prog 97 #[.int .i64 a] w fun e w' => e = .returned (.bool (kindP G0 119 a)) ∧ Below w.heap.size w w' := by
 obtain ⟨v, hv⟩ : ∃ v, wordF a = v := ⟨_, rfl⟩
 have hk : kindP G0 119 a = decide (v = 2) := by subst hv; unfold kindP; rw [if_neg (by decide), if_neg (by decide), if_pos rfl]; rfl
 rw [hk]
 clear hk
 have HV := Lib.hid hv
 clear hv
 by_cases h2 : v = 2
 ·
  subst h2
  go_enter Tryd.func97, Tryd.ntmps97
  go_wp2_with fail
  refine (word_eq a 2 _ HV.out).mono ?_
  rintro e w1 ⟨rfl, hb1⟩
  have HB1 := Lib.hid hb1
  clear hb1
  go_wp2
  go_ret
  exact ⟨rfl, HB1.out⟩
 ·
  have n2 : (v == 2) = false := by rw [beq_eq_false_iff_ne]; exact h2
  rw [decide_eq_false h2]
  go_enter Tryd.func97, Tryd.ntmps97
  go_wp2_with fail
  refine (word_eq a v _ HV.out).mono ?_
  rintro e w1 ⟨rfl, hb1⟩
  have HB1 := Lib.hid hb1
  clear hb1
  go_wp2
  go_ret
  exact ⟨rfl, HB1.out⟩
theorem kind4_c (a : Int) (w : World) (ht : Tabs w) : Calls Tryd.prog 98 #[.int .i64 a] w fun e w' => e = .returned (.bool (kindP G0 108 a)) ∧ Below w.heap.size w w' := by
 have hU := upper_any a w ht
 obtain ⟨v, hv⟩ : ∃ v, upperF a = v := ⟨_, rfl⟩
 rw [hv] at hU
 have hk : kindP G0 108 a = decide (v ≠ a) := by subst hv; unfold kindP; rw [if_neg (by decide)]; rw [if_neg (by decide)]; rw [if_neg (by decide)]; rw [if_pos rfl]; rfl
 rw [hk]
 clear hk hv ht
 have HU := Lib.hid hU
 clear hU
 by_cases h2 : v = a
 ·
  subst h2
  rw [decide_eq_false (fun h => h rfl)]
  go_enter Tryd.func98, Tryd.ntmps98
  go_wp2_with fail
  refine HU.out.mono ?_
  rintro e w1 ⟨rfl, hb1⟩
  have HB1 := Lib.hid hb1
  clear hb1
  go_wp2
  go_ret
  exact ⟨rfl, HB1.out⟩
 ·
  have n2 : (v != a) = true := bne_iff_ne.2 h2
  rw [decide_eq_true h2]
  go_enter Tryd.func98, Tryd.ntmps98
  go_wp2_with fail
  refine HU.out.mono ?_
  rintro e w1 ⟨rfl, hb1⟩
  have HB1 := Lib.hid hb1
  clear hb1
  go_wp2
  go_ret
  exact ⟨rfl, HB1.out⟩
theorem kind5_c (a : Int) (w : World) (ht : Tabs w) : Calls Tryd.prog 99 #[.int .i64 a] w fun e w' => e = .returned (.bool (kindP G0 117 a)) ∧ Below w.heap.size w w' := by
 have hU := lower_any a w ht
 obtain ⟨v, hv⟩ : ∃ v, lowerF a = v := ⟨_, rfl⟩
 rw [hv] at hU
 have hk : kindP G0 117 a = decide (v ≠ a) := by subst hv; unfold kindP; rw [if_neg (by decide)]; rw [if_neg (by decide)]; rw [if_neg (by decide)]; rw [if_neg (by decide)]; rfl
 rw [hk]
 clear hk hv ht
 have HU := Lib.hid hU
 clear hU
 by_cases h2 : v = a
 ·
  subst h2
  rw [decide_eq_false (fun h => h rfl)]
  go_enter Tryd.func99, Tryd.ntmps99
  go_wp2_with fail
  refine HU.out.mono ?_
  rintro e w1 ⟨rfl, hb1⟩
  have HB1 := Lib.hid hb1
  clear hb1
  go_wp2
  go_ret
  exact ⟨rfl, HB1.out⟩
 ·
  have n2 : (v != a) = true := bne_iff_ne.2 h2
  rw [decide_eq_true h2]
  go_enter Tryd.func99, Tryd.ntmps99
  go_wp2_with fail
  refine HU.out.mono ?_
  rintro e w1 ⟨rfl, hb1⟩
  have HB1 := Lib.hid hb1
  clear hb1
  go_wp2
  go_ret
  exact ⟨rfl, HB1.out⟩
end Go.Proofs.YtdegdoilpamjjaaDoor
namespace Go.Proofs.YtdegdoilpamjjaaDoor
open Go.RowKit
set_option linter.unusedVariables false
set_option linter.unusedSimpArgs false
def SlAt (rb : Nat) (w : World) (k : Nat) (v : Value) (vs : List Value) : Prop :=
 ∃ sl n c, v = .slice sl n c ∧ n * k = vs.length ∧ (vs.length = 0 ∨ ∃ g off cs t rw, sl = some ⟨g, off, none⟩ ∧ g ≠ rb ∧ w.heap[g]? = some (.cells cs t rw) ∧ ∀ i, i < vs.length → cs[off + i]? = vs[i]?)
theorem SlAt.touch {rb : Nat} {w w' : World} {k : Nat} {v : Value} {vs : List Value} (h : SlAt rb w k v vs) (ht : Touch (fun b => b = rb) w w') : SlAt rb w' k v vs := by
 obtain ⟨sl, n, c, h1, h2, h3⟩ := h
 refine ⟨sl, n, c, h1, h2, h3.imp id ?_⟩
 rintro ⟨g, off, cs, t, rw, h4, h5, h6, h7⟩
 exact ⟨g, off, cs, t, rw, h4, h5, (ht.block g (heap_lt h6) h5).trans h6, h7⟩
def spanV (l : List (Int × Int)) : List Value := l.flatMap fun x => [.int .i64 x.1, .int .i64 x.2]
def kindsV (l : List Int) : List Value := l.map kindV
inductive NdAt (rb : Nat) (w : World) : Value → Nd → Prop
 | set (b : Nat) (v1 v2 : Value) (ranges : List (Int × Int)) (kinds : List Int) (not fold : Bool) (hb : b ≠ rb) (h : w.heap[b]? = some (.cells #[v1, v2, .bool not, .bool fold] 135 (0, 0)))
  (h1 : SlAt rb w 2 v1 (spanV ranges)) (h2 : SlAt rb w 1 v2 (kindsV kinds)) : NdAt rb w (.iface 78 (.pointer (some ⟨b, 0, none⟩))) (.set ranges kinds not fold)
 | edge (b : Nat) (what : Int) (hb : b ≠ rb) (h : w.heap[b]? = some (.cells #[.int .i64 what] 120 (0, 0))) : NdAt rb w (.iface 118 (.pointer (some ⟨b, 0, none⟩))) (.edge what)
 | row (b : Nat) (v1 : Value) (vs : List Value) (l : List Nd) (hb : b ≠ rb) (h : w.heap[b]? = some (.cells #[v1] 117 (0, 0))) (h1 : SlAt rb w 1 v1 vs) (hl : vs.length = l.length)
  (h2 : ∀ i (hi : i < vs.length) (hj : i < l.length), NdAt rb w vs[i] l[i]) : NdAt rb w (.iface 115 (.pointer (some ⟨b, 0, none⟩))) (.row l)
 | choice (b : Nat) (v1 : Value) (vs : List Value) (l : List Nd) (hb : b ≠ rb) (h : w.heap[b]? = some (.cells #[v1] 114 (0, 0))) (h1 : SlAt rb w 1 v1 vs) (hl : vs.length = l.length)
  (h2 : ∀ i (hi : i < vs.length) (hj : i < l.length), NdAt rb w vs[i] l[i]) : NdAt rb w (.iface 111 (.pointer (some ⟨b, 0, none⟩))) (.choice l)
 | group (b : Nat) (v1 : Value) (n : Nd) (number : Int) (hb : b ≠ rb) (h : w.heap[b]? = some (.cells #[v1, .int .i64 number] 123 (0, 0))) (h1 : NdAt rb w v1 n) : NdAt rb w (.iface 121 (.pointer (some ⟨b, 0, none⟩))) (.group n number)
 | again (b : Nat) (v1 : Value) (n : Nd) (least most : Int) (lazy : Bool) (hb : b ≠ rb) (h : w.heap[b]? = some (.cells #[v1, .int .i64 least, .int .i64 most, .bool lazy] 142 (0, 0))) (h1 : NdAt rb w v1 n) :
  NdAt rb w (.iface 124 (.pointer (some ⟨b, 0, none⟩))) (.again n least most lazy)
theorem NdAt.touch {rb : Nat} {w w' : World} {v : Value} {n : Nd} (h : NdAt rb w v n) (ht : Touch (fun b => b = rb) w w') : NdAt rb w' v n := by
 have hk : ∀ b, b ≠ rb → ∀ o, w.heap[b]? = some o → w'.heap[b]? = some o := fun b hb o h => (ht.block b (heap_lt h) hb).trans h
 induction h with
 | set b v1 v2 ranges kinds not fold hb h h1 h2 => exact .set b v1 v2 _ _ _ _ hb (hk b hb _ h) (h1.touch ht) (h2.touch ht)
 | edge b what hb h => exact .edge b _ hb (hk b hb _ h)
 | row b v1 vs l hb h h1 hl h2 ih => exact .row b v1 vs l hb (hk b hb _ h) (h1.touch ht) hl ih
 | choice b v1 vs l hb h h1 hl h2 ih => exact .choice b v1 vs l hb (hk b hb _ h) (h1.touch ht) hl ih
 | group b v1 n number hb h h1 ih => exact .group b v1 n _ hb (hk b hb _ h) ih
 | again b v1 n least most lazy hb h h1 ih => exact .again b v1 n _ _ _ hb (hk b hb _ h) ih
theorem SlAt.nil (rb : Nat) (w : World) (k : Nat) : SlAt rb w k (.slice none 0 0) [] := ⟨none, 0, 0, rfl, by simp, .inl rfl⟩
theorem size_new (w : World) (o : Obj) : (w.alloc o).heap.size = w.heap.size + 1 := Array.size_push _
theorem at_new {w : World} {k : Nat} {o : Obj} (u : Obj) (h : w.heap[k]? = some o) : (w.alloc u).heap[k]? = some o := by
 have hk := heap_lt h
 exact ((below_newJ w u).block k hk).trans h
end Go.Proofs.YtdegdoilpamjjaaDoor
namespace Go.Proofs.YtdegdoilpamjjaaDoor
open Go.RowKit
set_option linter.unusedVariables false
set_option linter.unusedSimpArgs false
theorem NdAt.iface {rb : Nat} {w : World} {v : Value} {n : Nd} (h : NdAt rb w v n) : ∃ t u, v = .iface t u := by cases h <;> exact ⟨_, _, rfl⟩
structure AgB (w0 w : World) (rb g : Nat) (nv : Value) (least most : Int) (lazy : Bool) : Prop where
 blk : w.heap[g]? = some (.cells #[nv, .int .i64 least, .int .i64 most, .bool lazy] 142 (0, 0))
 ne : g ≠ rb
 touch : Touch (fun b => b = rb) w0 w
theorem AgB.new (w : World) (rb : Nat) (nv : Value) (hrb : rb < w.heap.size) (o : Obj) (ho : o = .cells #[nv, .int .i64 0, .int .i64 (-1), .bool false] 142 (0, 0)) :
  AgB w (w.alloc o) rb w.heap.size nv 0 (-1) false := by
 subst ho
 exact ⟨one_new w _, by omega, Touch.alloc _ w _⟩
theorem AgB.node {w0 w : World} {rb g : Nat} {nv : Value} {nd : Nd} {least most : Int} {lazy : Bool} (h : AgB w0 w rb g nv least most lazy) (hn : NdAt rb w0 nv nd) :
 NdAt rb w (.iface 124 (.pointer (some ⟨g, 0, none⟩))) (.again nd least most lazy) := .again g nv nd least most lazy h.ne h.blk (hn.touch h.touch)
theorem AgB.drewN {w0 w : World} {rb g : Nat} {nv : Value} {least most : Int} {lazy : Bool} (h : AgB w0 w rb g nv least most lazy) (m : Nat) : AgB w0 (w.drewN m) rb g nv least most lazy := ⟨h.blk, h.ne, touch_drewN h.touch⟩
theorem AgB.step {w0 w : World} {rb g : Nat} {nv : Value} {least most : Int} {lazy : Bool} (h : AgB w0 w rb g nv least most lazy) (v : Value) : AgB w0 (w.setCell ⟨rb, 1, none⟩ v) rb g nv least most lazy :=
 ⟨(Below.heap_setCell _ _ _ _ h.ne).trans h.blk, h.ne, h.touch.trans (Touch.setCell (fun b => b = rb) w (p := ⟨rb, 1, none⟩) rfl v) (fun x hx => .inl hx)⟩
theorem esc_at {src : List Int} {a : Nat} {k : Int} (h : escB src a k = true) : a + 1 < src.length ∧ gl src (a + 1) = k := by
 unfold escB at h
 simp only [Bool.and_eq_true, decide_eq_true_eq] at h
 obtain ⟨⟨h1, h2⟩, h3⟩ := h
 refine ⟨h2, ?_⟩
 unfold pk at h3
 rw [if_pos h2] at h3
 exact h3
theorem AgB.put1 {w0 w : World} {rb : Nat} {nv : Value} {least most x : Int} {lazy : Bool} (h : AgB w0 w rb w0.heap.size nv least most lazy) : AgB w0 (w.setCell ⟨w0.heap.size, 1, none⟩ (.int .i64 x)) rb w0.heap.size nv x most lazy :=
 ⟨by rw [block_set _ h.blk]; rfl, h.ne, h.touch.trans (Touch.setCell (fun b => b = w0.heap.size) w (p := ⟨w0.heap.size, 1, none⟩) rfl _) (fun y hy => .inr (Nat.le_of_eq hy.symm))⟩
theorem AgB.put2 {w0 w : World} {rb : Nat} {nv : Value} {least most x : Int} {lazy : Bool} (h : AgB w0 w rb w0.heap.size nv least most lazy) : AgB w0 (w.setCell ⟨w0.heap.size, 2, none⟩ (.int .i64 x)) rb w0.heap.size nv least x lazy :=
 ⟨by rw [block_set _ h.blk]; rfl, h.ne, h.touch.trans (Touch.setCell (fun b => b = w0.heap.size) w (p := ⟨w0.heap.size, 2, none⟩) rfl _) (fun y hy => .inr (Nat.le_of_eq hy.symm))⟩
theorem RdM.put {w w0 : World} {rb : Nat} {sl : Option Addr} {n c : Nat} {src : List Int} {s : RS} {fold : Bool} (h : RdM w rb sl n c src s fold) (g i : Nat) (v : Value) (hg : g ≠ rb) (hs : ∀ a, sl = some a → a.block ≠ g) : RdM (w.setCell ⟨g, i, none⟩ v) rb sl n c src s fold := by
 refine ⟨(Below.heap_setCell _ _ _ _ (Ne.symm hg)).trans h.blk, h.len, ?_, h.ne, h.at', h.n30⟩
 rcases h.src with h0 | ⟨b', o', e, hb', hc'⟩
 · exact .inl h0
 · exact .inr ⟨b', o', e, by simpa [World.setCell] using hb', fun i hi => (World.cell?_of_block (w := w) (Below.heap_setCell _ _ _ _ (hs _ e))).trans (hc' i hi)⟩
end Go.Proofs.YtdegdoilpamjjaaDoor
namespace Go.Proofs.YtdegdoilpamjjaaDoor
open Go.RowKit
set_option linter.unusedVariables false
set_option linter.unusedSimpArgs false
theorem lid_c (n : Int) (w : World) : Calls Tryd.prog 128 #[.int .i64 n] w fun e w' => e = .returned (.int .i64 (lidP n)) ∧ w' = w := by
 obtain ⟨m, hm⟩ : ∃ m, lidP n = m := ⟨_, rfl⟩
 rw [hm]
 have hm1 : (if 4097 < n then 4097 else n) = m := by rw [← hm]; unfold lidP; split <;> omega
 clear hm
 go_enter Tryd.func128, Tryd.ntmps128
 go_wp2
 go_ret
 first | exact ⟨rfl, rfl⟩ | (rw [← hm1]; exact ⟨rfl, rfl⟩)
theorem parts_set (v : Value) (w : World) : Calls Tryd.prog 126 #[v] w fun e w' => e = .returned (.int .i64 1) ∧ w' = w := by
 go_enter Tryd.func126, Tryd.ntmps126
 go_wp2
 go_ret
 exact ⟨rfl, rfl⟩
theorem parts_edge (v : Value) (w : World) : Calls Tryd.prog 131 #[v] w fun e w' => e = .returned (.int .i64 1) ∧ w' = w := by
 go_enter Tryd.func131, Tryd.ntmps131
 go_wp2
 go_ret
 exact ⟨rfl, rfl⟩
end Go.Proofs.YtdegdoilpamjjaaDoor
namespace Go.Proofs.YtdegdoilpamjjaaDoor
open Go.RowKit
set_option linter.unusedVariables false
set_option maxRecDepth 100000 in
theorem parts_m_set (p : Value) (w : World) : Sem.run Tryd.prog (method 279 78 p "copyist/pattern.parts") w = .ok (126, p) w := rfl
set_option maxRecDepth 100000 in
theorem parts_f_set (q : Value) (w : World) : Sem.run Tryd.prog (callFunc 126 #[q]) w = .ok (.enter 126 #[q]) w := rfl
set_option maxRecDepth 100000 in
theorem parts_m_edge (p : Value) (w : World) : Sem.run Tryd.prog (method 279 118 p "copyist/pattern.parts") w = .ok (131, p) w := rfl
set_option maxRecDepth 100000 in
theorem parts_f_edge (q : Value) (w : World) : Sem.run Tryd.prog (callFunc 131 #[q]) w = .ok (.enter 131 #[q]) w := rfl
set_option maxRecDepth 100000 in
theorem parts_m_row (p : Value) (w : World) : Sem.run Tryd.prog (method 279 115 p "copyist/pattern.parts") w = .ok (130, p) w := rfl
set_option maxRecDepth 100000 in
theorem parts_f_row (q : Value) (w : World) : Sem.run Tryd.prog (callFunc 130 #[q]) w = .ok (.enter 130 #[q]) w := rfl
set_option maxRecDepth 100000 in
theorem parts_m_choice (p : Value) (w : World) : Sem.run Tryd.prog (method 279 111 p "copyist/pattern.parts") w = .ok (127, p) w := rfl
set_option maxRecDepth 100000 in
theorem parts_f_choice (q : Value) (w : World) : Sem.run Tryd.prog (callFunc 127 #[q]) w = .ok (.enter 127 #[q]) w := rfl
set_option maxRecDepth 100000 in
theorem parts_m_group (p : Value) (w : World) : Sem.run Tryd.prog (method 279 121 p "copyist/pattern.parts") w = .ok (132, p) w := rfl
set_option maxRecDepth 100000 in
theorem parts_f_group (q : Value) (w : World) : Sem.run Tryd.prog (callFunc 132 #[q]) w = .ok (.enter 132 #[q]) w := rfl
set_option maxRecDepth 100000 in
theorem parts_m_again (p : Value) (w : World) : Sem.run Tryd.prog (method 279 124 p "copyist/pattern.parts") w = .ok (133, p) w := rfl
set_option maxRecDepth 100000 in
theorem parts_f_again (q : Value) (w : World) : Sem.run Tryd.prog (callFunc 133 #[q]) w = .ok (.enter 133 #[q]) w := rfl
end Go.Proofs.YtdegdoilpamjjaaDoor
namespace Go.Proofs.YtdegdoilpamjjaaDoor
open Go.RowKit
set_option linter.unusedVariables false
set_option linter.unusedSimpArgs false
theorem numR_more {src : List Int} : ∀ (f : Nat) (n : Int) (s s1 : RS) (v : Int), numR src f n s = .ok (v, s1) → s.at' ≤ s1.at' ∧ s1.groups = s.groups
 | 0, n, s, s1, v, h => by rw [numR] at h; cases h; exact ⟨Nat.le_refl _, rfl⟩
 | f + 1, n, s, s1, v, h => by
  rw [numR] at h
  split at h
  ·
   split at h
   · cases h
   ·
    have := numR_more f _ _ s1 v h
    exact ⟨by have := this.1; simp at this; omega, this.2⟩
  · cases h; exact ⟨Nat.le_refl _, rfl⟩
theorem raw_f (a : Int) (w : World) : Calls Tryd.prog 109 #[.int .i64 a] w fun e w' => e = .returned (.bool (rawB a)) ∧ w' = w := by
 have hr : rawB a = (decide (-256 ≤ a) && decide (a < 0)) := by unfold rawB; simp
 rw [hr]
 by_cases h1 : -256 ≤ a
 ·
  by_cases h2 : a < 0
  ·
   go_enter Tryd.func109, Tryd.ntmps109
   go_wp2
   go_ret
   exact ⟨by simp [h1, h2], rfl⟩
  ·
   go_enter Tryd.func109, Tryd.ntmps109
   go_wp2
   go_ret
   exact ⟨by simp [h1, h2], rfl⟩
 ·
  go_enter Tryd.func109, Tryd.ntmps109
  go_wp2
  go_ret
  exact ⟨by simp; omega, rfl⟩
set_option maxRecDepth 100000 in
set_option maxHeartbeats 4000000 in
theorem number_f (rb pb : Nat) (sl : Option Addr) (n c : Nat) (src : List Int) (s : RS) (w : World) (h : FrM w rb pb sl n c src s.at' false) :
  Calls Tryd.prog 108 #[.pointer (some ⟨rb, 0, none⟩)] w (FrP w rb pb sl n c src (numP' src s) (fun x v => v = .int .i64 x ∧ -1 ≤ x ∧ x ≤ 255) (fun v => v = .int .i64 0)) := by
 obtain ⟨R, hR⟩ : ∃ R, numP' src s = R := ⟨_, rfl⟩
 rw [hR]
 have HR := Lib.hid hR
 have H := Lib.hid h
 have hn30 := h.n30
 have HLEN := Lib.hid h.len
 clear hR h
 go_enter Tryd.func108, Tryd.ntmps108
 go_wp2_with fail
 go_loopg [3] (n - s.at') (fun gg mv wr => ∃ (s1 : RS) (m : Int) (f : Nat), n - s1.at' = gg ∧ mv = .int .i64 m ∧ -1 ≤ m ∧ m ≤ 255 ∧ n - s1.at' < f ∧ numR src f m s1 = R ∧ FrM wr rb pb sl n c src s1.at' false ∧ Touch (fun b => b = rb) w wr)
 case atStart => exact ⟨s, -1, src.length + 1, rfl, rfl, by omega, by omega, by have := HLEN.out; omega, HR.out, H.out, Touch.refl _ _⟩
 case round =>
  clear H
  obtain ⟨s1, m, f, hg, rfl, hm0, hm1, hf, hnr, hrm, htw⟩ := hrel
  obtain ⟨f', rfl⟩ : ∃ f', f = f' + 1 := ⟨f - 1, by omega⟩
  have HM := Lib.hid hrm
  have HT := Lib.hid htw
  obtain ⟨x, hx⟩ : ∃ x, pk src s1.at' 0 = x := ⟨_, rfl⟩
  have hnr2 : (if 48 ≤ x ∧ x ≤ 57 then (if 255 < max m 0 * 10 + x - 48 then .error s1.at' else numR src f' (max m 0 * 10 + x - 48) { s1 with at' := s1.at' + 1 }) else .ok (m, s1)) = R := by
   rw [← hx]; exact hnr
  have HNR := Lib.hid hnr2
  have hat := hrm.at'
  have b1 : wr.cell? ⟨rb, 1, none⟩ = some (.slice sl n c) := block_cell hrm.blk
  have b2 : wr.cell? ⟨rb, 2, none⟩ = some (.int .i64 s1.at') := block_cell hrm.blk
  have f2 : wr.frozen? ⟨rb, 2, none⟩ = false := block_free hrm.blk
  clear htw hnr hnr2
  by_cases hlt : s1.at' < n
  ·
   obtain ⟨g, off, hgs, c0⟩ := hrm.src.at (Below.refl _ _) hlt
   have hp : pk src s1.at' 0 = gl src s1.at' := if_pos (by rw [hrm.len]; exact hlt)
   rw [hp] at hx
   rw [hx] at c0
   subst hgs
   obtain ⟨a, ha⟩ : ∃ a, s1.at' = a := ⟨_, rfl⟩
   have HA := Lib.hid ha
   rw [ha] at b2 hlt c0 hat
   have q1 : (a : Int) < (n : Int) := by omega
   have q2 : (0 : Int) ≤ (a : Int) := by omega
   have q3 : IntKind.i64.wrap ((a : Int) + 1) = (a : Int) + 1 := by rw [IntKind.wrap_i64]; omega
   clear hrm hp hx ha
   by_cases hd : 48 ≤ x ∧ x ≤ 57
   ·
    obtain ⟨d1, d2⟩ := hd
    obtain ⟨mm, hmm⟩ : ∃ mm, max m 0 = mm := ⟨_, rfl⟩
    have hmm0 : 0 ≤ mm ∧ mm ≤ 255 := by omega
    have hmm1 : (if 0 < m then m else 0) = mm := by rw [← hmm]; split <;> omega
    have hmm2 : (if m < 0 then 0 else m) = mm := by rw [← hmm]; split <;> omega
    have HNRd := Lib.hid (show (if 255 < mm * 10 + x - 48 then .error a else numR src f' (mm * 10 + x - 48) { s1 with at' := a + 1 }) = R from by
     have := HNR.out
     rw [if_pos ⟨d1, d2⟩, hmm, HA.out] at this
     exact this)
    have HM2 := HM.out
    rw [HA.out] at HM2
    have HM3 := Lib.hid HM2
    have hgk : n - (a + 1) < gk := by rw [HA.out] at hg; omega
    have hfk : n - (a + 1) < f' := by rw [HA.out] at hf; omega
    clear hf hg
    clear HNR HR HM2 HM
    rcases (show m < 0 ∧ mm = 0 ∨ 0 ≤ m ∧ m = mm by omega) with ⟨hm2, rfl⟩ | ⟨hm2, rfl⟩
    all_goals clear hmm hmm1
    ·
     by_cases hv : 255 < (0 : Int) * 10 + x - 48
     · omega
     ·
      have hr := HNRd.out
      rw [if_neg hv] at hr
      have HR2 := Lib.hid hr
      have HS := Lib.hid (HM3.out.step 1 (by omega))
      have ht1 := Touch.setCell (fun b => b = rb) wr (p := ⟨rb, 2, none⟩) rfl (.int .i64 ((a + 1 : Nat) : Int))
      have HTS := Lib.hid (HT.out.trans ht1 (fun y hy => .inl hy))
      have ec : ((a + 1 : Nat) : Int) = (a : Int) + 1 := by omega
      rw [ec] at HS HTS
      clear hr ht1 HNRd ec
      go_wp2_with fail
      go_quiet (fail)
      go_wp2_with fail
      go_quiet (fail)
      go_wp2
      go_roundg (n - (a + 1))
      case measure => exact hgk
      case rel => exact ⟨{ s1 with at' := a + 1 }, 0 * 10 + x - 48, f', rfl, by go_num, by omega, by omega, hfk, HR2.out, HS.out.drewN _, touch_drewN HTS.out⟩
    ·
     by_cases hv : 255 < m * 10 + x - 48
     ·
      have hr := HNRd.out
      rw [if_pos hv] at hr
      subst hr
      have HFL := Lib.hid (fun w' (h' : FrM w' rb pb (some ⟨g, off, none⟩) n c src a false) => fail_f rb pb (some ⟨g, off, none⟩) n c src a a (by omega) w' h')
      have hv2 : 255 < 10 * m + x - 48 := by omega
      clear HNRd hv
      go_wp2_with fail
      go_quiet (fail)
      go_wp2_with fail
      go_quiet (fail)
      go_wp2_with fail
      all_goals
       refine (HFL.out _ (HM3.out.drewN _)).mono ?_
       rintro e w2 ⟨rfl, ht2, h2⟩
       go_wp2
       go_ret
       exact ⟨(touch_drewN HT.out).trans ht2 (fun y hy => .inl hy), ⟨_, rfl, rfl⟩, h2⟩
     ·
      have hr := HNRd.out
      rw [if_neg hv] at hr
      have HR2 := Lib.hid hr
      have HS := Lib.hid (HM3.out.step 1 (by omega))
      have ht1 := Touch.setCell (fun b => b = rb) wr (p := ⟨rb, 2, none⟩) rfl (.int .i64 ((a + 1 : Nat) : Int))
      have HTS := Lib.hid (HT.out.trans ht1 (fun y hy => .inl hy))
      have ec : ((a + 1 : Nat) : Int) = (a : Int) + 1 := by omega
      rw [ec] at HS HTS
      have hv2 : ¬ 255 < 10 * m + x - 48 := by omega
      clear hr ht1 HNRd ec
      go_wp2_with fail
      go_quiet (fail)
      go_wp2_with fail
      go_quiet (fail)
      go_wp2
      all_goals
       go_roundg (n - (a + 1))
       case measure => exact hgk
       case rel => exact ⟨{ s1 with at' := a + 1 }, m * 10 + x - 48, f', rfl, by congr 1; omega, by omega, by omega, hfk, HR2.out, HS.out.drewN _, touch_drewN HTS.out⟩
   ·
    have hr : R = .ok (m, s1) := by rw [← HNR.out, if_neg hd]
    subst hr
    have HM2 := HM.out
    clear HNR HR
    by_cases h48 : 48 ≤ x
    ·
     have h57 : 57 < x := by omega
     clear hd
     go_wp2_with fail
     go_quiet (fail)
     go_wp2
     go_ret
     exact ⟨touch_drewN HT.out, ⟨_, rfl, rfl, hm0, hm1⟩, HM2.drewN _⟩
    ·
     have h48b : x < 48 := by omega
     have hdec : decide (48 ≤ x) = false := decide_eq_false h48
     clear hd
     go_wp2_with fail
     go_quiet (fail)
     go_wp2
     go_ret
     exact ⟨touch_drewN HT.out, ⟨_, rfl, rfl, hm0, hm1⟩, HM2.drewN _⟩
  ·
   have hxx : x = -4611686018427387904 := by rw [← hx]; exact if_neg (by rw [hrm.len]; exact hlt)
   have hr : R = .ok (m, s1) := by rw [← HNR.out, if_neg (by omega)]
   subst hr
   have HM2 := HM.out
   obtain ⟨a, ha⟩ : ∃ a, s1.at' = a := ⟨_, rfl⟩
   rw [ha] at b2 hlt hat
   have q1 : ¬ (a : Int) < (n : Int) := by omega
   clear HNR HR hrm hx hxx ha
   go_wp2_with fail
   go_quiet (fail)
   go_wp2
   go_ret
   exact ⟨touch_drewN HT.out, ⟨_, rfl, rfl, hm0, hm1⟩, HM2.drewN _⟩
end Go.Proofs.YtdegdoilpamjjaaDoor
namespace Go.Proofs.YtdegdoilpamjjaaDoor
open Go.RowKit
set_option linter.unusedVariables false
set_option linter.unusedSimpArgs false
def PM (W : World) (nv : Value) (k : Int) : Prop := ∃ t p f q, nv = .iface t p ∧ (∀ w, Sem.run Tryd.prog (method 279 t p "copyist/pattern.parts") w = .ok (f, q) w) ∧ (∀ w, Sem.run Tryd.prog (callFunc f #[q]) w = .ok (.enter f #[q]) w) ∧
 (∀ m, Calls Tryd.prog f #[q] (W.drewN m) fun e w' => e = .returned (.int .i64 k) ∧ ∃ m', w' = (W.drewN m).drewN m') ∧ 0 ≤ k ∧ k ≤ 4097
def sumP (l : List Int) (t : Int) : Int := l.foldl (fun t k => lidP (t + k)) t
set_option maxRecDepth 100000 in
set_option maxHeartbeats 4000000 in
theorem total_c (g off c : Nat) (vs : List Value) (ks : List Int) (w : World) (hl : ks.length = vs.length) (hn : vs.length < 1073741824)
  (hc : ∀ i (hi : i < vs.length), w.cell? ⟨g, off + i, none⟩ = some vs[i]) (hP : ∀ i (hi : i < vs.length) (hj : i < ks.length), PM w vs[i] ks[i]) :
  Calls Tryd.prog 129 #[.slice (some ⟨g, off, none⟩) vs.length c] w fun e w' => e = .returned (.int .i64 (sumP ks 0)) ∧ ∃ m, w' = w.drewN m := by
 obtain ⟨n, hlen⟩ : ∃ n, vs.length = n := ⟨_, rfl⟩
 have HC := Lib.hid hc
 have HP := Lib.hid hP
 have HL := Lib.hid hl
 have HLEN := Lib.hid hlen
 rw [hlen] at hn ⊢
 clear hc hP hl hlen
 go_enter Tryd.func129, Tryd.ntmps129
 go_wp2_with fail
 go_loopg [3, 8] n (fun gg mv iv wr => ∃ (k : Nat) (m : Int), k + gg = n ∧ iv = .int .i64 k ∧ mv = .int .i64 m ∧ 0 ≤ m ∧ m ≤ 4097 ∧ sumP (ks.drop k) m = sumP ks 0 ∧ ∃ d, wr = w.drewN d)
 case atStart => exact ⟨0, 0, by omega, rfl, rfl, by omega, by omega, rfl, 0, rfl⟩
 case round =>
  obtain ⟨k, m, hk, rfl, rfl, hm0, hm1, hs, d, rfl⟩ := hrel
  have HS := Lib.hid hs
  clear hs
  by_cases hlt : k < n
  ·
   have c0 := HC.out k (by rw [HLEN.out]; exact hlt)
   obtain ⟨t, p, f, q, hv, hm, hf, hcall, hk0, hk1⟩ := HP.out k (by rw [HLEN.out]; exact hlt) (by rw [HL.out, HLEN.out]; exact hlt)
   rw [hv] at c0
   obtain ⟨kk, hkk⟩ : ∃ kk, ks[k]'(by rw [HL.out, HLEN.out]; exact hlt) = kk := ⟨_, rfl⟩
   rw [hkk] at hk0 hk1 hcall
   have HK := Lib.hid hkk
   clear hkk hv
   have HSN := Lib.hid (show sumP (ks.drop (k + 1)) (lidP (m + kk)) = sumP ks 0 from by
    rw [← HS.out, List.drop_eq_getElem_cons (l := ks) (i := k) (by rw [HL.out, HLEN.out]; exact hlt), HK.out]; rfl)
   have q1 : IntKind.i64.wrap (m + kk) = m + kk := by rw [IntKind.wrap_i64]; omega
   have q2 : IntKind.i64.wrap ((k : Int) + 1) = ((k + 1 : Nat) : Int) := by rw [IntKind.wrap_i64]; omega
   go_wp2_with fail
   try rw [hf, Oper.upon_enter]
   refine (hcall d).mono ?_
   rintro e w2 ⟨rfl, m2, rfl⟩
   go_wp2_with fail
   refine (lid_c _ _).mono ?_
   rintro e w2 ⟨rfl, rfl⟩
   go_wp2
   go_roundg (gk - 1)
   case measure => omega
   case rel => exact ⟨k + 1, lidP (m + kk), by omega, by go_num, rfl, by unfold lidP; omega, by unfold lidP; omega, HSN.out, d + m2, by first | rw [World.drewN_drewN] | rfl⟩
  ·
   obtain rfl : n = k := by omega
   go_wp2
   go_ret
   refine ⟨ret_int ?_, _, rfl⟩
   rw [← HS.out, List.drop_of_length_le (by rw [HL.out, HLEN.out]; exact Nat.le_refl _)]
   rfl
set_option maxRecDepth 100000 in
theorem parts_row (b g off c : Nat) (vs : List Value) (ks : List Int) (w : World) (h : w.heap[b]? = some (.cells #[.slice (some ⟨g, off, none⟩) vs.length c] 117 (0, 0))) (hl : ks.length = vs.length) (hn : vs.length < 1073741824)
  (hc : ∀ i (hi : i < vs.length), w.cell? ⟨g, off + i, none⟩ = some vs[i]) (hP : ∀ i (hi : i < vs.length) (hj : i < ks.length), PM w vs[i] ks[i]) :
  Calls Tryd.prog 130 #[.pointer (some ⟨b, 0, none⟩)] w fun e w' => e = .returned (.int .i64 (sumP ks 0)) ∧ ∃ m, w' = w.drewN m := by
 have hT := Lib.hid (total_c g off c vs ks w hl hn hc hP)
 have b0 : w.cell? ⟨b, 0, none⟩ = some (.slice (some ⟨g, off, none⟩) vs.length c) := block_cell h
 clear h hl hn hc hP
 go_enter Tryd.func130, Tryd.ntmps130
 go_wp2_with fail
 refine hT.out.mono ?_
 rintro e w2 ⟨rfl, m, rfl⟩
 go_wp2
 go_ret
 exact ⟨rfl, _, rfl⟩
end Go.Proofs.YtdegdoilpamjjaaDoor
namespace Go.Proofs.YtdegdoilpamjjaaDoor
open Go.RowKit
set_option linter.unusedVariables false
set_option linter.unusedSimpArgs false
theorem own_kept {w w' : World} {base : Nat} {e : TypeId} {size n : Nat} {v : Value} {xs : List Value} (h : w.ownsRow base e size v n xs) (k : ∀ b, v.ownBlock = some b → w'.heap[b]? = w.heap[b]?) : w'.ownsRow base e size v n xs := by
 refine ⟨h.1, ?_⟩
 rcases h.2 with hn | ⟨g, cap, cur, rfl, hb, hgg, rest⟩
 · exact .inl hn
 · exact .inr ⟨g, cap, cur, rfl, hb, (k g rfl).trans hgg, rest⟩
theorem own_type {w : World} {base : Nat} {e : TypeId} {size n : Nat} {v : Value} {xs : List Value} (h : w.ownsRow base e size v n xs) {b : Nat} (hb : v.ownBlock = some b) : ∃ cs, w.heap[b]? = some (.cells cs e (0, 0)) := by
 rcases h.2 with ⟨h1, _⟩ | ⟨g, cap, cur, h1, _, hgg, _⟩
 · rw [h1] at hb; cases hb
 · rw [h1] at hb; cases hb; exact ⟨_, hgg⟩
theorem own_shape {w : World} {base : Nat} {e : TypeId} {size n : Nat} {v : Value} {xs : List Value} (h : w.ownsRow base e size v n xs) : ∃ s c, v = .slice s n c ∧ n ≤ c := by
 rcases h.2 with ⟨h1, h2⟩ | ⟨g, cap, cur, h1, _, _, h2, _⟩
 · exact ⟨none, 0, by rw [h1, h2], by omega⟩
 · exact ⟨_, _, h1, h2⟩
theorem own_shape1 {w : World} {base : Nat} {e : TypeId} {size n : Nat} {v : Value} {xs : List Value} (h : w.ownsRow base e size v (n + 1) xs) : ∃ s c, v = .slice s (n + 1) c := by
 obtain ⟨s, c, h1, _⟩ := own_shape h
 exact ⟨s, c, h1⟩
theorem own_later {w w' : World} {base : Nat} {e : TypeId} {size n : Nat} {v : Value} {xs : List Value} (h : w.ownsRow base e size v n xs) (hb : Below w.heap.size w w') : w'.ownsRow base e size v n xs :=
 own_kept h (fun b hb' => hb.block b (World.ownsRow.lt h b hb').2)
theorem own_mono {w : World} {base base' : Nat} {e : TypeId} {size n : Nat} {v : Value} {xs : List Value} (h : w.ownsRow base e size v n xs) (hb : base' ≤ base) : w.ownsRow base' e size v n xs := by
 refine ⟨h.1, ?_⟩
 rcases h.2 with h1 | ⟨g, cap, cur, h1, h2, h3⟩
 · exact .inl h1
 · exact .inr ⟨g, cap, cur, h1, Nat.le_trans hb h2, h3⟩
def Oth (T : TypeId) (w w' : World) : Prop := ∀ (b : Nat) (cs : Array Value) (t : TypeId), w.heap[b]? = some (.cells cs t (0, 0)) → t ≠ T → w'.heap[b]? = some (.cells cs t (0, 0))
theorem new_cells {x : List Value} (w : World) (t : TypeId) : ∀ j u, x[j]? = some u → (w.alloc (.cells x.toArray t)).cell? ((⟨w.heap.size, 0, none⟩ : Addr).add j) = some u := by
 intro j u hj
 have hadd : (⟨w.heap.size, 0, none⟩ : Addr).add j = ⟨w.heap.size, j, none⟩ := by unfold Addr.add; split <;> simp_all
 rw [hadd, block_cell (one_new w _)]
 simpa using hj
theorem push_leaves {w w' : World} {base : Nat} {e : TypeId} {size n : Nat} {v : Value} {xs : List Value} (hown : w.ownsRow base e size v n xs) (hg : w.grownBy w' v.ownBlock) (hbase : base ≤ w.heap.size) : Below base w w' ∧ Oth e w w' := by
 refine ⟨Below.grown (Below.refl _ _) hg hbase (fun b hb => (World.ownsRow.lt hown b hb).1), fun b cs t hb ht => ?_⟩
 exact (hg.block b (heap_lt hb) (fun e2 => by
  obtain ⟨c2, h2⟩ := own_type hown e2.symm
  exact type_ne hb h2 ht rfl)).trans hb
theorem wpList_push_e {w : World} {ops : Array Oper} {rest : List Oper} {o : Oper} {a : Act} {Q : Exit → Act → World → Prop} {st et : TypeId} {z : Value} {size bytes : Nat} (hu : Tryd.prog.underlying st = some (.slice et))
  (hinfo : (Tryd.prog.info? et).map (fun i => (i.zero, i.size, i.bytes)) = some (some z, size, bytes)) (hzs : z.cells.size = size) (hsz : 0 < size) (hby : bytes ≤ 100)
  (x : List Value) (hx1 : ∀ u ∈ x, u.oneCell' = true) (hxl : x.length = size) (hgd : o.guard = none) (s y : Operand)
  (ho : o.op = .call { callee := .builtin .append, args := #[s, y], argTypes := #[st, st] })
  (base : Nat) (v : Value) (n : Nat) (xs : List Value) (hs : a.eval s = v) (hy : a.eval y = .slice (some ⟨w.heap.size, 0, none⟩) 1 1) (hown : w.ownsRow base et size v n xs) (hn : n < 1000000) (hbase : base ≤ w.heap.size)
  (h : ∀ s' c' w', w'.ownsRow base et size (.slice s' (n + 1) c') (n + 1) (xs ++ x) → Below base w w' → Oth et w w' → wpList Tryd.prog ops Q rest (a.put o.dst (.slice s' (n + 1) c')) w') :
  wpList Tryd.prog ops Q (o :: rest) a (w.alloc (.cells x.toArray et)) := by
 obtain ⟨i0, hi, hz0, hz1, hz2⟩ := info_parts hinfo
 have hb1 := below_newJ w (.cells x.toArray et)
 refine wpList_append_own_at _ hgd s y st ho base et i0 z size bytes hu hi hz0 hz1 hz2 hzs hsz v _ _ hs (own_later hown hb1) ⟨w.heap.size, 0, none⟩ 1 1 x hy (by omega) (new_cells _ _) hx1 (by unfold maxLen; omega) ?_ (by simp; omega) ?_
 ·
  have : (n + 1) * bytes ≤ 1000000 * 100 := Nat.mul_le_mul (by omega) hby
  omega
 ·
  intro v' w' h2 h3 _ _
  obtain ⟨s', c', rfl⟩ := own_shape1 h2
  obtain ⟨p1, p2⟩ := push_leaves hown (World.grownBy.trans (World.grownBy_alloc w _ _) h3) hbase
  exact h s' c' w' h2 p1 p2
def SetN (w : World) (fold : Bool) (v : Value) (x : Int) : Prop := ∃ b g, v = .iface 78 (.pointer (some ⟨b, 0, none⟩)) ∧
 w.heap[b]? = some (.cells #[.slice (some ⟨g, 0, none⟩) 1 1, .slice none 0 0, .bool false, .bool fold] 135 (0, 0)) ∧ w.heap[g]? = some (.cells #[.int .i64 x, .int .i64 x] 144 (0, 0))
def KeepS (w w' : World) : Prop := ∀ (b : Nat) (cs : Array Value) (t : TypeId), w.heap[b]? = some (.cells cs t (0, 0)) → t = 135 ∨ t = 144 → w'.heap[b]? = some (.cells cs t (0, 0))
theorem SetN.keep {w w' : World} {fold : Bool} {v : Value} {x : Int} (h : SetN w fold v x) (k : KeepS w w') : SetN w' fold v x := by
 obtain ⟨b, g, h1, h2, h3⟩ := h
 exact ⟨b, g, h1, k _ _ _ h2 (.inl rfl), k _ _ _ h3 (.inr rfl)⟩
theorem KeepS.refl (w : World) : KeepS w w := fun _ _ _ h _ => h
theorem KeepS.trans {a b c : World} (h : KeepS a b) (k : KeepS b c) : KeepS a c := fun x cs t h1 h2 => k x cs t (h x cs t h1 h2) h2
theorem KeepS.below {w w' : World} (h : Below w.heap.size w w') : KeepS w w' := fun b cs t h1 h2 => (h.block b (heap_lt h1)).trans h1
theorem KeepS.oth {T : TypeId} {w w' : World} (h : Oth T w w') (h1 : 135 ≠ T) (h2 : 144 ≠ T) : KeepS w w' := fun b cs t h3 h4 => h b cs t h3 (by rcases h4 with rfl | rfl <;> assumption)
theorem KeepS.touch {T : TypeId} {w w' : World} {rb : Nat} {c : Array Value} (h : Touch (fun b => b = rb) w w') (hr : w.heap[rb]? = some (.cells c T (0, 0))) (h1 : 135 ≠ T) (h2 : 144 ≠ T) : KeepS w w' :=
 fun b cs t h3 h4 => (h.block b (heap_lt h3) (type_ne h3 hr (by rcases h4 with rfl | rfl <;> assumption))).trans h3
theorem KeepS.setCell {T : TypeId} {w : World} {p : Addr} {c : Array Value} (v : Value) (hr : w.heap[p.block]? = some (.cells c T (0, 0))) (h1 : 135 ≠ T) (h2 : 144 ≠ T) : KeepS w (w.setCell p v) :=
 KeepS.touch (Touch.setCell (fun b => b = p.block) w rfl v) hr h1 h2
end Go.Proofs.YtdegdoilpamjjaaDoor
namespace Go.Proofs.YtdegdoilpamjjaaDoor
open Go.RowKit
set_option linter.unusedVariables false
set_option linter.unusedSimpArgs false
def SlR (w : World) (B E : Nat) (k : Nat) (v : Value) (vs : List Value) : Prop :=
 ∃ sl n c, v = .slice sl n c ∧ n * k = vs.length ∧ (vs.length = 0 ∨ ∃ g off cs t rw, sl = some ⟨g, off, none⟩ ∧ B ≤ g ∧ g < E ∧ w.heap[g]? = some (.cells cs t rw) ∧ ∀ i, i < vs.length → cs[off + i]? = vs[i]?)
theorem SlR.keep {w w' : World} {B E : Nat} {k : Nat} {v : Value} {vs : List Value} (h : SlR w B E k v vs) (hk : ∀ b, B ≤ b → b < E → w'.heap[b]? = w.heap[b]?) : SlR w' B E k v vs := by
 obtain ⟨sl, n, c, h1, h2, h3⟩ := h
 refine ⟨sl, n, c, h1, h2, h3.imp id ?_⟩
 rintro ⟨g, off, cs, t, rw, h4, h5, h6, h7, h8⟩
 exact ⟨g, off, cs, t, rw, h4, h5, h6, (hk g h5 h6).trans h7, h8⟩
theorem SlR.wide {w : World} {B E B' E' : Nat} {k : Nat} {v : Value} {vs : List Value} (h : SlR w B E k v vs) (hB : B' ≤ B) (hE : E ≤ E') : SlR w B' E' k v vs := by
 obtain ⟨sl, n, c, h1, h2, h3⟩ := h
 refine ⟨sl, n, c, h1, h2, h3.imp id ?_⟩
 rintro ⟨g, off, cs, t, rw, h4, h5, h6, h7, h8⟩
 exact ⟨g, off, cs, t, rw, h4, by omega, by omega, h7, h8⟩
theorem SlR.nil (w : World) (B E k : Nat) : SlR w B E k (.slice none 0 0) [] := ⟨none, 0, 0, rfl, by simp, .inl rfl⟩
inductive NdR (w : World) (B E : Nat) : Value → Nd → Prop
 | set (b : Nat) (v1 v2 : Value) (ranges : List (Int × Int)) (kinds : List Int) (not fold : Bool) (hb : B ≤ b) (hE : b < E) (h : w.heap[b]? = some (.cells #[v1, v2, .bool not, .bool fold] 135 (0, 0)))
  (h1 : SlR w B E 2 v1 (spanV ranges)) (h2 : SlR w B E 1 v2 (kindsV kinds)) : NdR w B E (.iface 78 (.pointer (some ⟨b, 0, none⟩))) (.set ranges kinds not fold)
 | edge (b : Nat) (what : Int) (hb : B ≤ b) (hE : b < E) (h : w.heap[b]? = some (.cells #[.int .i64 what] 120 (0, 0))) : NdR w B E (.iface 118 (.pointer (some ⟨b, 0, none⟩))) (.edge what)
 | row (b : Nat) (v1 : Value) (vs : List Value) (l : List Nd) (hb : B ≤ b) (hE : b < E) (h : w.heap[b]? = some (.cells #[v1] 117 (0, 0))) (h1 : SlR w B E 1 v1 vs) (hl : vs.length = l.length)
  (h2 : ∀ i (hi : i < vs.length) (hj : i < l.length), NdR w B E vs[i] l[i]) : NdR w B E (.iface 115 (.pointer (some ⟨b, 0, none⟩))) (.row l)
 | choice (b : Nat) (v1 : Value) (vs : List Value) (l : List Nd) (hb : B ≤ b) (hE : b < E) (h : w.heap[b]? = some (.cells #[v1] 114 (0, 0))) (h1 : SlR w B E 1 v1 vs) (hl : vs.length = l.length)
  (h2 : ∀ i (hi : i < vs.length) (hj : i < l.length), NdR w B E vs[i] l[i]) (hc : ∃ s c, v1 = .slice s vs.length c ∧ vs.length ≤ c) : NdR w B E (.iface 111 (.pointer (some ⟨b, 0, none⟩))) (.choice l)
 | group (b : Nat) (v1 : Value) (n : Nd) (number : Int) (hb : B ≤ b) (hE : b < E) (h : w.heap[b]? = some (.cells #[v1, .int .i64 number] 123 (0, 0))) (h1 : NdR w B E v1 n) : NdR w B E (.iface 121 (.pointer (some ⟨b, 0, none⟩))) (.group n number)
 | again (b : Nat) (v1 : Value) (n : Nd) (least most : Int) (lazy : Bool) (hb : B ≤ b) (hE : b < E) (h : w.heap[b]? = some (.cells #[v1, .int .i64 least, .int .i64 most, .bool lazy] 142 (0, 0))) (h1 : NdR w B E v1 n) :
  NdR w B E (.iface 124 (.pointer (some ⟨b, 0, none⟩))) (.again n least most lazy)
theorem NdR.keep {w w' : World} {B E : Nat} {v : Value} {n : Nd} (h : NdR w B E v n) (hk : ∀ b, B ≤ b → b < E → w'.heap[b]? = w.heap[b]?) : NdR w' B E v n := by
 induction h with
 | set b v1 v2 ranges kinds not fold hb hE h h1 h2 => exact .set b v1 v2 _ _ _ _ hb hE ((hk b hb hE).trans h) (h1.keep hk) (h2.keep hk)
 | edge b what hb hE h => exact .edge b _ hb hE ((hk b hb hE).trans h)
 | row b v1 vs l hb hE h h1 hl h2 ih => exact .row b v1 vs l hb hE ((hk b hb hE).trans h) (h1.keep hk) hl ih
 | choice b v1 vs l hb hE h h1 hl h2 hc ih => exact .choice b v1 vs l hb hE ((hk b hb hE).trans h) (h1.keep hk) hl ih hc
 | group b v1 n number hb hE h h1 ih => exact .group b v1 n _ hb hE ((hk b hb hE).trans h) ih
 | again b v1 n least most lazy hb hE h h1 ih => exact .again b v1 n _ _ _ hb hE ((hk b hb hE).trans h) ih
theorem NdR.wide {w : World} {B E B' E' : Nat} {v : Value} {n : Nd} (h : NdR w B E v n) (hB : B' ≤ B) (hE' : E ≤ E') : NdR w B' E' v n := by
 induction h with
 | set b v1 v2 ranges kinds not fold hb hE h h1 h2 => exact .set b v1 v2 _ _ _ _ (by omega) (by omega) h (h1.wide hB hE') (h2.wide hB hE')
 | edge b what hb hE h => exact .edge b _ (by omega) (by omega) h
 | row b v1 vs l hb hE h h1 hl h2 ih => exact .row b v1 vs l (by omega) (by omega) h (h1.wide hB hE') hl ih
 | choice b v1 vs l hb hE h h1 hl h2 hc ih => exact .choice b v1 vs l (by omega) (by omega) h (h1.wide hB hE') hl ih hc
 | group b v1 n number hb hE h h1 ih => exact .group b v1 n _ (by omega) (by omega) h ih
 | again b v1 n least most lazy hb hE h h1 ih => exact .again b v1 n _ _ _ (by omega) (by omega) h ih
theorem NdR.iface {w : World} {B E : Nat} {v : Value} {n : Nd} (h : NdR w B E v n) : ∃ t u, v = .iface t u := by cases h <;> exact ⟨_, _, rfl⟩
theorem NdR.moved {w w' : World} {B E rb : Nat} {v : Value} {n : Nd} (h : NdR w B E v n) (ht : Touch (fun b => b = rb) w w') (hrB : rb < B) (hEw : E ≤ w.heap.size) : NdR w' B w'.heap.size v n :=
 (h.keep (fun b h1 h2 => ht.block b (by omega) (by omega))).wide (Nat.le_refl _) (Nat.le_trans hEw ht.size)
theorem AgB.nodeR {w0 w : World} {rb : Nat} {nv : Value} {nd : Nd} {least most : Int} {lazy : Bool} {B E : Nat} (h : AgB w0 w rb w0.heap.size nv least most lazy) (hn : NdR w0 B E nv nd) (hrB : rb < B) (hBw : B ≤ w0.heap.size) (hEw : E ≤ w0.heap.size) :
  NdR w B w.heap.size (.iface 124 (.pointer (some ⟨w0.heap.size, 0, none⟩))) (.again nd least most lazy) :=
 .again w0.heap.size nv nd least most lazy hBw (heap_lt h.blk) h.blk (hn.moved h.touch hrB hEw)
set_option maxRecDepth 100000 in
set_option maxHeartbeats 4000000 in
theorem timesR_star (rb : Nat) (sl : Option Addr) (n c : Nat) (src : List Int) (s : RS) (fold : Bool) (nv : Value) (nd : Nd) (w : World) (h : RdM w rb sl n c src s fold) (B E : Nat) (hn : NdR w B E nv nd) (hrB : rb < B) (hBw : B ≤ w.heap.size) (hEw : E ≤ w.heap.size) (hp : pk src s.at' 0 = 42) :
  Calls Tryd.prog 69 #[.pointer (some ⟨rb, 0, none⟩), nv] w (RdP w rb sl n c src fold (.ok (.again nd 0 (-1) false, { s with at' := s.at' + 1 })) (fun x w' v => NdR w' B w'.heap.size v x)) := by
 have hlt : s.at' < n := by
  have := h.len
  unfold pk at hp
  split at hp <;> omega
 obtain ⟨t0, v0, hnv⟩ := hn.iface
 subst hnv
 have hrb := heap_lt h.blk
 have hA := AgB.new w rb (.iface t0 v0) hrb _ rfl
 have hR := h.later (below_newJ w (.cells #[(.iface t0 v0), .int .i64 0, .int .i64 (-1), .bool false] 142 (0, 0)))
 have HN := Lib.hid hn
 have HA := Lib.hid hA
 have HR := Lib.hid hR
 have HP := Lib.hid hp
 have hn30 := h.n30
 clear h hn hA hR hp
 go_enter Tryd.func69, Tryd.ntmps69
 go_wp2_with fail
 refine (peek_c rb sl n c src s fold 0 _ HR.out (by decide)).mono ?_
 rintro e w2 ⟨rfl, m, rfl⟩
 have HR2 := Lib.hid (HR.out.drewN m)
 have HA2 := Lib.hid (HA.out.drewN m)
 clear HR HA
 rw [HP.out]
 generalize World.drewN _ m = w2 at HR2 HA2 ⊢
 have b1 : w2.cell? ⟨rb, 1, none⟩ = some (.int .i64 s.at') := block_cell HR2.out.blk
 have f1 : w2.frozen? ⟨rb, 1, none⟩ = false := block_free HR2.out.blk
 have q3 : IntKind.i64.wrap ((s.at' : Int) + 1) = ((s.at' + 1 : Nat) : Int) := by rw [IntKind.wrap_i64]; omega
 have HA3 := Lib.hid (HA2.out.step (.int .i64 ((s.at' + 1 : Nat) : Int)))
 have HR3 := Lib.hid (HR2.out.step 1 (by omega))
 go_wp2
 go_ret
 exact ⟨HA3.out.touch, ⟨_, rfl, HA3.out.nodeR HN.out hrB hBw hEw⟩, HR3.out⟩
set_option maxRecDepth 100000 in
set_option maxHeartbeats 4000000 in
theorem timesR_none (rb : Nat) (sl : Option Addr) (n c : Nat) (src : List Int) (s : RS) (fold : Bool) (nv : Value) (nd : Nd) (w : World) (h : RdM w rb sl n c src s fold) (B E : Nat) (hn : NdR w B E nv nd) (hrB : rb < B) (hBw : B ≤ w.heap.size) (hEw : E ≤ w.heap.size) (n42 : pk src s.at' 0 ≠ 42) (e43 : escB src s.at' 43 = false) (e63 : escB src s.at' 63 = false) (e123 : escB src s.at' 123 = false) :
  Calls Tryd.prog 69 #[.pointer (some ⟨rb, 0, none⟩), nv] w (RdP w rb sl n c src fold (.ok (nd, s)) (fun x w' v => NdR w' B w'.heap.size v x)) := by
 obtain ⟨t0, v0, hnv⟩ := hn.iface
 subst hnv
 have hrb := heap_lt h.blk
 have hA := AgB.new w rb (.iface t0 v0) hrb _ rfl
 have hR := h.later (below_newJ w (.cells #[.iface t0 v0, .int .i64 0, .int .i64 (-1), .bool false] 142 (0, 0)))
 have HN := Lib.hid hn
 have HA := Lib.hid hA
 have HR := Lib.hid hR
 have hn30 := h.n30
 have E43 := Lib.hid e43
 have E63 := Lib.hid e63
 have E123 := Lib.hid e123
 clear h hn hA hR e43 e63 e123
 go_enter Tryd.func69, Tryd.ntmps69
 go_wp2_with fail
 refine (peek_c rb sl n c src s fold 0 _ HR.out (by decide)).mono ?_
 rintro e w2 ⟨rfl, m, rfl⟩
 have HR2 := Lib.hid (HR.out.drewN m)
 have HA2 := Lib.hid (HA.out.drewN m)
 clear HR HA
 generalize World.drewN _ m = w2 at HR2 HA2 ⊢
 generalize pk src s.at' 0 = p0 at n42 ⊢
 have N42 : (p0 == 42) = false := by rw [beq_eq_false_iff_ne]; exact n42
 go_wp2_with fail
 refine (escaped_c rb sl n c src s fold 43 _ HR2.out).mono ?_
 rintro e w3 ⟨rfl, m, rfl⟩
 rw [E43.out]
 have HR3 := Lib.hid (HR2.out.drewN m)
 have HA3 := Lib.hid (HA2.out.drewN m)
 clear HR2 HA2
 generalize World.drewN _ m = w3 at HR3 HA3 ⊢
 go_wp2_with fail
 refine (escaped_c rb sl n c src s fold 63 _ HR3.out).mono ?_
 rintro e w4 ⟨rfl, m, rfl⟩
 rw [E63.out]
 have HR4 := Lib.hid (HR3.out.drewN m)
 have HA4 := Lib.hid (HA3.out.drewN m)
 clear HR3 HA3
 generalize World.drewN _ m = w4 at HR4 HA4 ⊢
 go_wp2_with fail
 refine (escaped_c rb sl n c src s fold 123 _ HR4.out).mono ?_
 rintro e w5 ⟨rfl, m, rfl⟩
 rw [E123.out]
 have HR5 := Lib.hid (HR4.out.drewN m)
 have HA5 := Lib.hid (HA4.out.drewN m)
 clear HR4 HA4
 generalize World.drewN _ m = w5 at HR5 HA5 ⊢
 go_wp2
 go_ret
 exact ⟨HA5.out.touch, ⟨_, rfl, HN.out.moved HA5.out.touch hrB hEw⟩, HR5.out⟩
set_option maxRecDepth 100000 in
set_option maxHeartbeats 4000000 in
theorem timesR_plus (rb : Nat) (sl : Option Addr) (n c : Nat) (src : List Int) (s : RS) (fold : Bool) (nv : Value) (nd : Nd) (w : World) (h : RdM w rb sl n c src s fold) (B E : Nat) (hn : NdR w B E nv nd) (hrB : rb < B) (hBw : B ≤ w.heap.size) (hEw : E ≤ w.heap.size) (n42 : pk src s.at' 0 ≠ 42) (e43 : escB src s.at' 43 = true) :
  Calls Tryd.prog 69 #[.pointer (some ⟨rb, 0, none⟩), nv] w (RdP w rb sl n c src fold (.ok (.again nd 1 (-1) false, { s with at' := s.at' + 2 })) (fun x w' v => NdR w' B w'.heap.size v x)) := by
 obtain ⟨t0, v0, hnv⟩ := hn.iface
 subst hnv
 have hrb := heap_lt h.blk
 have hA := AgB.new w rb (.iface t0 v0) hrb _ rfl
 have hR := h.later (below_newJ w (.cells #[.iface t0 v0, .int .i64 0, .int .i64 (-1), .bool false] 142 (0, 0)))
 have HN := Lib.hid hn
 have HA := Lib.hid hA
 have HR := Lib.hid hR
 have hn30 := h.n30
 obtain ⟨hlt, hch⟩ := esc_at e43
 rw [h.len] at hlt
 obtain ⟨gs, off, hg, _⟩ := h.src.at (Below.refl _ _) hlt
 have hsb : ∀ a, sl = some a → a.block ≠ w.heap.size := by
  intro a ha
  rcases h.src with h0 | ⟨b', o', e, hb', hc'⟩
  · omega
  ·
   rw [e] at ha; injection ha with ha; subst ha
   exact Nat.ne_of_lt hb'
 have hne := h.ne _ hg
 have hns := hsb _ hg
 subst hg
 have HSB := Lib.hid hsb
 have E43 := Lib.hid e43
 clear h hn hA hR hsb e43
 go_enter Tryd.func69, Tryd.ntmps69
 go_wp2_with fail
 refine (peek_c rb _ n c src s fold 0 _ HR.out (by decide)).mono ?_
 rintro e w2 ⟨rfl, m, rfl⟩
 have HR2 := Lib.hid (HR.out.drewN m)
 have HA2 := Lib.hid (HA.out.drewN m)
 clear HR HA
 generalize World.drewN _ m = w2 at HR2 HA2 ⊢
 generalize pk src s.at' 0 = p0 at n42 ⊢
 have N42 : (p0 == 42) = false := by rw [beq_eq_false_iff_ne]; exact n42
 go_wp2_with fail
 refine (escaped_c rb _ n c src s fold 43 _ HR2.out).mono ?_
 rintro e w3 ⟨rfl, m, rfl⟩
 rw [E43.out]
 have HR3 := Lib.hid (HR2.out.drewN m)
 have HA3 := Lib.hid (HA2.out.drewN m)
 clear HR2 HA2
 generalize World.drewN _ m = w3 at HR3 HA3 ⊢
 have HA7 := Lib.hid (HA3.out.put1 (x := 1))
 have HR7 := Lib.hid (HR3.out.put (w0 := w) w.heap.size 1 (.int .i64 1) HA3.out.ne HSB.out)
 have a1 : w3.cell? ⟨w.heap.size, 1, none⟩ = some (.int .i64 (0)) := block_cell HA3.out.blk
 have d1 : w3.frozen? ⟨w.heap.size, 1, none⟩ = false := block_free HA3.out.blk
 have hgr := HA3.out.ne
 go_upto_region 11 with (fail)
 generalize World.setCell _ _ _ = w7 at HA7 HR7 ⊢
 have b1 : w7.cell? ⟨rb, 1, none⟩ = some (.int .i64 s.at') := block_cell HR7.out.blk
 have f1 : w7.frozen? ⟨rb, 1, none⟩ = false := block_free HR7.out.blk
 have q3 : IntKind.i64.wrap ((s.at' : Int) + 2) = ((s.at' + 2 : Nat) : Int) := by rw [IntKind.wrap_i64]; omega
 have HA8 := Lib.hid (HA7.out.step (.int .i64 ((s.at' + 2 : Nat) : Int)))
 have HR8 := Lib.hid (HR7.out.step 2 (by omega))
 go_upto_region 12 with (fail)
 rw [show ((s.at' : Int) + 2) = ((s.at' + 2 : Nat) : Int) from by omega]
 generalize World.setCell _ _ _ = w8 at HA8 HR8 ⊢
 clear HA7 HR7 b1 f1
 have b0 : w8.cell? ⟨rb, 0, none⟩ = some (.slice (some ⟨gs, off, none⟩) n c) := block_cell HR8.out.blk
 have b1 : w8.cell? ⟨rb, 1, none⟩ = some (.int .i64 ((s.at' + 2 : Nat) : Int)) := block_cell HR8.out.blk
 have c0 : w8.cell? ⟨gs, off + (s.at' + 1), none⟩ = some (.int .i64 43) := by
  obtain ⟨g', o', e, c0⟩ := HR8.out.src.at (Below.refl _ _) hlt
  cases e
  rw [hch] at c0
  exact c0
 have q5 : IntKind.i64.wrap (((s.at' + 2 : Nat) : Int) - 1) = ((s.at' + 1 : Nat) : Int) := by rw [IntKind.wrap_i64]; omega
 have q4 : decide (n ≤ s.at' + 1) = false := decide_eq_false (by omega)
 go_quiet (fail)
 go_wp2
 go_ret
 exact ⟨touch_drewN HA8.out.touch, ⟨_, rfl, (HA8.out.drewN _).nodeR HN.out hrB hBw hEw⟩, HR8.out.drewN _⟩
set_option maxRecDepth 100000 in
set_option maxHeartbeats 4000000 in
theorem timesR_quest (rb : Nat) (sl : Option Addr) (n c : Nat) (src : List Int) (s : RS) (fold : Bool) (nv : Value) (nd : Nd) (w : World) (h : RdM w rb sl n c src s fold) (B E : Nat) (hn : NdR w B E nv nd) (hrB : rb < B) (hBw : B ≤ w.heap.size) (hEw : E ≤ w.heap.size) (n42 : pk src s.at' 0 ≠ 42) (e43 : escB src s.at' 43 = false) (e63 : escB src s.at' 63 = true) :
  Calls Tryd.prog 69 #[.pointer (some ⟨rb, 0, none⟩), nv] w (RdP w rb sl n c src fold (.ok (.again nd 0 1 false, { s with at' := s.at' + 2 })) (fun x w' v => NdR w' B w'.heap.size v x)) := by
 obtain ⟨t0, v0, hnv⟩ := hn.iface
 subst hnv
 have hrb := heap_lt h.blk
 have hA := AgB.new w rb (.iface t0 v0) hrb _ rfl
 have hR := h.later (below_newJ w (.cells #[.iface t0 v0, .int .i64 0, .int .i64 (-1), .bool false] 142 (0, 0)))
 have HN := Lib.hid hn
 have HA := Lib.hid hA
 have HR := Lib.hid hR
 have hn30 := h.n30
 obtain ⟨hlt, hch⟩ := esc_at e63
 rw [h.len] at hlt
 obtain ⟨gs, off, hg, _⟩ := h.src.at (Below.refl _ _) hlt
 have hsb : ∀ a, sl = some a → a.block ≠ w.heap.size := by
  intro a ha
  rcases h.src with h0 | ⟨b', o', e, hb', hc'⟩
  · omega
  ·
   rw [e] at ha; injection ha with ha; subst ha
   exact Nat.ne_of_lt hb'
 have hne := h.ne _ hg
 have hns := hsb _ hg
 subst hg
 have HSB := Lib.hid hsb
 have E43 := Lib.hid e43
 have E63 := Lib.hid e63
 clear h hn hA hR hsb e43 e63
 go_enter Tryd.func69, Tryd.ntmps69
 go_wp2_with fail
 refine (peek_c rb _ n c src s fold 0 _ HR.out (by decide)).mono ?_
 rintro e w2 ⟨rfl, m, rfl⟩
 have HR2 := Lib.hid (HR.out.drewN m)
 have HA2 := Lib.hid (HA.out.drewN m)
 clear HR HA
 generalize World.drewN _ m = w2 at HR2 HA2 ⊢
 generalize pk src s.at' 0 = p0 at n42 ⊢
 have N42 : (p0 == 42) = false := by rw [beq_eq_false_iff_ne]; exact n42
 go_wp2_with fail
 refine (escaped_c rb _ n c src s fold 43 _ HR2.out).mono ?_
 rintro e w3 ⟨rfl, m, rfl⟩
 rw [E43.out]
 have HR3 := Lib.hid (HR2.out.drewN m)
 have HA3 := Lib.hid (HA2.out.drewN m)
 clear HR2 HA2
 generalize World.drewN _ m = w3 at HR3 HA3 ⊢
 go_wp2_with fail
 refine (escaped_c rb _ n c src s fold 63 _ HR3.out).mono ?_
 rintro e w4 ⟨rfl, m, rfl⟩
 rw [E63.out]
 have HR4 := Lib.hid (HR3.out.drewN m)
 have HA4 := Lib.hid (HA3.out.drewN m)
 clear HR3 HA3
 generalize World.drewN _ m = w4 at HR4 HA4 ⊢
 have HA7 := Lib.hid (HA4.out.put2 (x := 1))
 have HR7 := Lib.hid (HR4.out.put (w0 := w) w.heap.size 2 (.int .i64 1) HA4.out.ne HSB.out)
 have a1 : w4.cell? ⟨w.heap.size, 2, none⟩ = some (.int .i64 (-1)) := block_cell HA4.out.blk
 have d1 : w4.frozen? ⟨w.heap.size, 2, none⟩ = false := block_free HA4.out.blk
 have hgr := HA4.out.ne
 go_upto_region 11 with (fail)
 generalize World.setCell _ _ _ = w7 at HA7 HR7 ⊢
 have b1 : w7.cell? ⟨rb, 1, none⟩ = some (.int .i64 s.at') := block_cell HR7.out.blk
 have f1 : w7.frozen? ⟨rb, 1, none⟩ = false := block_free HR7.out.blk
 have q3 : IntKind.i64.wrap ((s.at' : Int) + 2) = ((s.at' + 2 : Nat) : Int) := by rw [IntKind.wrap_i64]; omega
 have HA8 := Lib.hid (HA7.out.step (.int .i64 ((s.at' + 2 : Nat) : Int)))
 have HR8 := Lib.hid (HR7.out.step 2 (by omega))
 go_upto_region 12 with (fail)
 rw [show ((s.at' : Int) + 2) = ((s.at' + 2 : Nat) : Int) from by omega]
 generalize World.setCell _ _ _ = w8 at HA8 HR8 ⊢
 clear HA7 HR7 b1 f1
 have b0 : w8.cell? ⟨rb, 0, none⟩ = some (.slice (some ⟨gs, off, none⟩) n c) := block_cell HR8.out.blk
 have b1 : w8.cell? ⟨rb, 1, none⟩ = some (.int .i64 ((s.at' + 2 : Nat) : Int)) := block_cell HR8.out.blk
 have c0 : w8.cell? ⟨gs, off + (s.at' + 1), none⟩ = some (.int .i64 63) := by
  obtain ⟨g', o', e, c0⟩ := HR8.out.src.at (Below.refl _ _) hlt
  cases e
  rw [hch] at c0
  exact c0
 have q5 : IntKind.i64.wrap (((s.at' + 2 : Nat) : Int) - 1) = ((s.at' + 1 : Nat) : Int) := by rw [IntKind.wrap_i64]; omega
 have q4 : decide (n ≤ s.at' + 1) = false := decide_eq_false (by omega)
 go_quiet (fail)
 go_wp2
 go_ret
 exact ⟨touch_drewN HA8.out.touch, ⟨_, rfl, (HA8.out.drewN _).nodeR HN.out hrB hBw hEw⟩, HR8.out.drewN _⟩
end Go.Proofs.YtdegdoilpamjjaaDoor
namespace Go.Proofs.YtdegdoilpamjjaaDoor
open Go.RowKit
set_option linter.unusedVariables false
set_option linter.unusedSimpArgs false
end Go.Proofs.YtdegdoilpamjjaaDoor
