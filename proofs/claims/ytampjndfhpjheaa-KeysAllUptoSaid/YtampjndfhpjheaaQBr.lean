/- Contract: KeysSpell. Condition: a register and an argument of 64 bits. -/
import Derived.Test.YtampjndfhpjheaaQBq
import Derived.Test.YtampjndfhpjheaaQBp
namespace Go.Proofs.Ytampjndfhpjheaa
open Go.RowKit
set_option linter.unusedVariables false
theorem eqlI_nil (w : World) : (binOp .eql 33 (.slice none 0 0) (.slice none 0 0)).run Try.prog w = .ok (.bool true) w := by kernel_rfl
theorem eqlI_some (a : Addr) (n c : Nat) (w : World) : (binOp .eql 33 (.slice (some a) n c) (.slice none 0 0)).run Try.prog w = .ok (.bool false) w := by kernel_rfl
set_option maxRecDepth 100000 in
set_option maxHeartbeats 8000000 in
theorem kspell_c (mode : Int) (c : Cmd) (w : World) (hreg : inKey c.reg) (harg : inKey c.arg) : Calls Try.prog 5 #[.int .i64 mode, .agg c.cells] w fun e w' => e = .returned (.bool true) ∧ Below w.heap.size w w' := by
 have HRG := Lib.hid hreg
 have HAG := Lib.hid harg
 clear hreg harg
 obtain ⟨y1, y2, y3, y4, y5⟩ := c
 have hbn := below_new2 w (.cells #[.int .i64 y1, .int .i64 y2, .int .i64 y3, .int .i64 y4, .int .i64 y5] 44)
 have hk := one_new w (.cells #[.int .i64 y1, .int .i64 y2, .int .i64 y3, .int .i64 y4, .int .i64 y5] 44)
 have HB := Lib.hid hbn
 have HK := Lib.hid hk
 clear hbn hk
 show Calls Try.prog 5 #[.int .i64 mode, .agg #[.int .i64 y1, .int .i64 y2, .int .i64 y3, .int .i64 y4, .int .i64 y5]] w _
 go_enter Try.func5, Try.ntmps5
 go_wp2_with fail
 generalize w.alloc (.cells #[.int .i64 y1, .int .i64 y2, .int .i64 y3, .int .i64 y4, .int .i64 y5] 44) = w1 at HB HK ⊢
 refine (alive_c w1).mono ?_
 rintro e w2 ⟨rfl, hb2⟩
 have hk2 := (hb2.block _ (heap_lt HK.out)).trans HK.out
 have HB2 := Lib.hid (HB.out.trans (hb2.mono HB.out.size))
 have HK2 := Lib.hid hk2
 obtain ⟨m0, m1, m2, m3, m4⟩ := cells5 hk2
 have hsp := spell_c mode ⟨y1, y2, y3, y4, y5⟩ w2 HRG.out HAG.out
 have HSP : Hid (Calls Try.prog 16 #[.int .i64 mode, .agg #[.int .i64 y1, .int .i64 y2, .int .i64 y3, .int .i64 y4, .int .i64 y5]] w2 (SpellIs w2 (spellP (selP mode) ⟨y1, y2, y3, y4, y5⟩))) := Lib.hid hsp
 clear hb2 hk2 hsp HB HK
 go_wp2_with fail
 refine HSP.out.mono ?_
 clear m0 m1 m2 m3 m4
 rintro e w4 ⟨v, rfl, hv, hb4⟩
 have hb24 := HB2.out.trans (hb4.mono HB2.out.size)
 have hk4 := (hb4.block _ (heap_lt HK2.out)).trans HK2.out
 have HB4 := Lib.hid hb24
 have HK4 := Lib.hid hk4
 have HV := Lib.hid hv
 clear hb4 hb24 hk4 hv HB2 HK2 HSP
 go_wp2_with fail
 refine (selects_c mode w4).mono ?_
 rintro e w5 ⟨rfl, rfl⟩
 go_wp2_with fail
 refine (of_c (selP mode) w5).mono ?_
 rintro e w6 ⟨tb, rfl, ht, hb6⟩
 have HB6 := Lib.hid (HB4.out.trans (hb6.mono HB4.out.size))
 have hk6 := (hb6.block _ (heap_lt HK4.out)).trans HK4.out
 have HBS := Lib.hid hb6
 obtain ⟨m0, m1, m2, m3, m4⟩ := cells5 hk6
 have hds := dspell_c tb (selP mode) y1 y2 y3 y4 y5 w6 ht
 have e0 := spell_law mode ⟨y1, y2, y3, y4, y5⟩
 rw [e0] at hds
 have HDS := Lib.hid hds
 clear ht hb6 hk6 HK4 HB4 hds e0
 go_wp2_with fail
 refine HDS.out.mono ?_
 clear m0 m1 m2 m3 m4 HDS
 rintro e w7 ⟨v2, rfl, hv2, hb7⟩
 have HB7 := Lib.hid (HB6.out.trans (hb7.mono HB6.out.size))
 have HBS7 := Lib.hid (HBS.out.trans (hb7.mono HBS.out.size))
 have HV2 := Lib.hid hv2
 clear hb7 hv2 HB6 HBS
 cases hs : spellP (selP mode) ⟨y1, y2, y3, y4, y5⟩ with
 | none =>
  rw [hs] at HV HV2
  have hv3 : v = .slice none 0 0 := HV.out
  subst hv3
  have hv4 : v2 = .slice none 0 0 := by
   rcases HV2.out with ⟨_, h⟩ | ⟨l, a, n, c, h, _⟩
   · exact h
   · cases h
  subst hv4
  have hq := eqlI_nil
  have hsm := same_any none none 0 0 0 0 (gl []) (gl []) w7 (by decide) (by decide) (.inl rfl) (.inl rfl)
  rw [sameB_refl] at hsm
  have HSM := Lib.hid hsm
  clear hs HV HV2 hsm
  go_wp2_with fail
  refine HSM.out.mono ?_
  rintro e w8 ⟨rfl, hb8⟩
  have HB8 := Lib.hid (HB7.out.trans (hb8.mono HB7.out.size))
  clear hb8
  go_wp2
  go_ret
  exact ⟨rfl, HB8.out⟩
 | some l =>
  rw [hs] at HV HV2
  obtain ⟨g, k, rfl, hqk, hgl, hll⟩ := HV.out
  obtain ⟨a, n, c, rfl, hn, hn0, hnb, hi⟩ : ∃ a n c, v2 = .slice (some a) n c ∧ n = l.length ∧ 0 < n ∧ n < 1048576 ∧ IsInts w7 (some a) n (gl l) := by
   rcases HV2.out with ⟨h, _⟩ | ⟨l', a, n, c, h, h2, h3, h4, h5, _, h6⟩
   · cases h
   · cases h; exact ⟨a, n, c, h2, h3, h4, h5, h6⟩
  subst hn
  have hq := eqlI_some
  have hil : IsInts w7 (some ⟨g, 0, none⟩) l.length (gl l) := (qok_list hqk).later HBS7.out
  have hsm := same_any (some ⟨g, 0, none⟩) (some a) l.length k l.length c (gl l) (gl l) w7 (by unfold maxLen; omega) (by unfold maxLen; omega) hil hi
  rw [sameB_refl] at hsm
  have HSM := Lib.hid hsm
  have hn1 : ((l.length : Int) == 0) = false := by rw [beq_eq_false_iff_ne]; omega
  clear hs HV HV2 hsm hil hi hqk
  go_wp2_with fail
  refine HSM.out.mono ?_
  rintro e w8 ⟨rfl, hb8⟩
  have HB8 := Lib.hid (HB7.out.trans (hb8.mono HB7.out.size))
  clear hb8
  go_wp2
  go_ret
  exact ⟨rfl, HB8.out⟩
end Go.Proofs.Ytampjndfhpjheaa
