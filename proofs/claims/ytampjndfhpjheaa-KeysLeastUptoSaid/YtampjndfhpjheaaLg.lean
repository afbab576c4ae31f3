/- Contract: KeysLeast. Condition: keys of 64 bits, fewer than 2^30 of them. -/
import Derived.Test.YtampjndfhpjheaaLd
import Derived.Test.YtampjndfhpjheaaKr
namespace Go.Proofs.Ytampjndfhpjheaa
open Go.RowKit
set_option linter.unusedVariables false
def argB (T : Rows) : Bool := T.all fun r => decide (0 ≤ r.2.arg) && decide (r.2.arg < 1000)
theorem arg_n : argB normalT = true := by decide +kernel
theorem arg_s : argB selectedT = true := by decide +kernel
theorem arg_b : argB behindT = true := by decide +kernel
theorem arg_of {T : Rows} (h : argB T = true) {k : List Int} {b : Bd} (hm : (k, b) ∈ T) : inKey b.arg := by
  have h1 := List.all_eq_true.1 h _ hm
  simp only [Bool.and_eq_true, decide_eq_true_eq] at h1
  exact inKey_small h1.1 h1.2
theorem fed_keys {mode : Int} {l : List Int} {c : Cmd} (h : fedP mode l = (c, 1)) (hk : ∀ x ∈ l, inKey x) : inKey c.reg ∧ inKey c.arg := by
  obtain ⟨hne, h27, hr, hm⟩ := fed_inv h
  obtain ⟨p, s, ts, t, k, d, k', a, b, b', rfl, hf⟩ := form_inv (sel := selP mode) (l := l) (by rw [hr])
  have hc : c = cmdOf (effs (0, 0) ts).1 (cntD (effs (0, 0) ts).2 d) b.verb b' a := by
    have h2 := hf.read s
    rw [hr] at h2
    exact (Prod.mk.inj h2).2
  have hp : ∀ x ∈ p, inKey x := fun x hx => hk x (List.mem_append.2 (.inl hx))
  have h0 : inKey 0 := inKey_small (by decide) (by decide)
  rw [hc]
  refine ⟨?_, ?_⟩
  · show inKey (effs (0, 0) ts).1
    have h3 := effs_reg ts false 0 0 hf.ok
    by_cases h4 : lenR ts = 0
    · rw [h3.1 h4]; exact h0
    · exact hp _ (by rw [hf.eq]; exact List.mem_append.2 (.inl (h3.2 h4).2))
  · show inKey (if b'.more then a.headD 0 else b'.arg)
    rcases hf.text.arg with ⟨h1, h2⟩ | ⟨h1, _⟩
    · obtain ⟨x, rfl⟩ := List.length_eq_one_iff.1 h2
      rw [h1]
      exact hp _ (by rw [hf.eq, hf.text.eq]; simp)
    · rw [h1]
      show inKey b'.arg
      have hT : argB (topT (selP mode)) = true := by cases selP mode; exact arg_n; exact arg_s
      rcases hf.text.way with ⟨_, _, _, rfl⟩ | ⟨_, _, h5, _⟩
      · exact arg_of hT hf.text.mem
      · rcases List.mem_append.1 h5 with h5 | h5
        · obtain ⟨o, _, e⟩ := List.mem_map.1 h5
          injection e with _ e2
          rw [← e2]; exact inKey_small (by decide) (by decide)
        · exact arg_of arg_b h5
set_option maxRecDepth 100000 in
set_option maxHeartbeats 8000000 in
theorem least_c (mode : Int) (s : Option Addr) (n cap : Nat) (l : List Int) (w : World) (hl : l.length = n) (hn : n < 1073741824) (hr : IsInts w s n (gl l)) (hk : ∀ x ∈ l, inKey x) :
    Calls Try.prog 7 #[.int .i64 mode, .slice s n cap] w fun e w' => e = .returned (.bool true) ∧ Below w.heap.size w w' := by
  have HR := Lib.hid hr
  have HK := Lib.hid hk
  have HL := Lib.hid hl
  clear hr hk hl
  go_enter Try.func7, Try.ntmps7
  go_wp2_with fail
  refine (alive_c w).mono ?_
  rintro e w1 ⟨rfl, hb1⟩
  have hfd := fed_w mode s n cap l w1 HL.out hn (HR.out.later hb1) HK.out
  have HB1 := Lib.hid hb1
  clear hb1
  obtain ⟨⟨⟨y1, y2, y3, y4, y5⟩, say⟩, hq⟩ : ∃ r, fedP mode l = r := ⟨_, rfl⟩
  rw [hq] at hfd
  have HFD : Hid (Calls Try.prog 14 #[.int .i64 mode, .slice s n cap] w1 fun e w' => e = .returned (.tuple #[.agg #[.int .i64 y1, .int .i64 y2, .int .i64 y3, .int .i64 y4, .int .i64 y5], .int .i64 say]) ∧ Below w1.heap.size w1 w') := Lib.hid hfd
  have HQ := Lib.hid hq
  clear hfd hq
  go_wp2_with fail
  refine HFD.out.mono ?_
  rintro e w2 ⟨rfl, hb2⟩
  have HB3 := Lib.hid (HB1.out.trans ((bt hb2 (below_new2 w2 (.cells #[.int .i64 y1, .int .i64 y2, .int .i64 y3, .int .i64 y4, .int .i64 y5] 44))).mono HB1.out.size))
  have HK3 := Lib.hid (one_new w2 (.cells #[.int .i64 y1, .int .i64 y2, .int .i64 y3, .int .i64 y4, .int .i64 y5] 44))
  clear hb2 HFD HB1
  go_upto_region 5 with (fail)
  generalize w2.alloc (.cells #[.int .i64 y1, .int .i64 y2, .int .i64 y3, .int .i64 y4, .int .i64 y5] 44) = w3 at HB3 HK3 ⊢
  generalize w2.heap.size = cb at HK3 ⊢
  by_cases hs1 : say = 1
  · subst hs1
    have hlaw := least_law HQ.out
    obtain ⟨best, hsp, hbt, hne, hfb⟩ := hlaw
    have hkeys := fed_keys HQ.out HK.out
    have hsc := spell_c mode ⟨y1, y2, y3, y4, y5⟩ w3 hkeys.1 hkeys.2
    rw [hsp] at hsc
    have HSP : Hid (Calls Try.prog 16 #[.int .i64 mode, .agg #[.int .i64 y1, .int .i64 y2, .int .i64 y3, .int .i64 y4, .int .i64 y5]] w3 (SpellIs w3 (some best))) := Lib.hid hsc
    have HBK := Lib.hid (spell_keys hsp hkeys.1 hkeys.2)
    have HSH : Hid (shortB best l = true) := Lib.hid (by unfold shortB; rw [hbt]; rfl)
    have HFB := Lib.hid hfb
    have m0 : w3.cell? ⟨cb, 0, none⟩ = some (.int .i64 y1) := block_cell HK3.out
    have m1 : w3.cell? ⟨cb, 1, none⟩ = some (.int .i64 y2) := block_cell HK3.out
    have m2 : w3.cell? ⟨cb, 2, none⟩ = some (.int .i64 y3) := block_cell HK3.out
    have m3 : w3.cell? ⟨cb, 3, none⟩ = some (.int .i64 y4) := block_cell HK3.out
    have m4 : w3.cell? ⟨cb, 4, none⟩ = some (.int .i64 y5) := block_cell HK3.out
    have hn0 : (0 : Int) < (best.length : Int) := by
      have := List.length_pos_iff.2 hne
      omega
    clear hsp hbt hne hfb hkeys hsc HQ
    go_wp2_with fail
    refine HSP.out.mono ?_
    clear m0 m1 m2 m3 m4
    rintro e w4 ⟨v, rfl, hv, hb4⟩
    obtain ⟨g, k, rfl, hq, hgl, hll⟩ := hv
    have HB4 := Lib.hid (HB3.out.trans (hb4.mono HB3.out.size))
    have HK4 := Lib.hid ((hb4.block _ (heap_lt HK3.out)).trans HK3.out)
    have hfd := fed_w mode (some ⟨g, 0, none⟩) best.length k best w4 rfl (by omega) (qok_list hq) HBK.out
    rw [HFB.out] at hfd
    have HFD : Hid (Calls Try.prog 14 #[.int .i64 mode, .slice (some ⟨g, 0, none⟩) best.length k] w4 fun e w' => e = .returned (.tuple #[.agg #[.int .i64 y1, .int .i64 y2, .int .i64 y3, .int .i64 y4, .int .i64 y5], .int .i64 1]) ∧ Below w4.heap.size w4 w') := Lib.hid hfd
    have HQ4 := Lib.hid (qok_list hq)
    clear hb4 HB3 HK3 HSP hq hfd HBK HFB
    go_wp2_with fail
    refine HFD.out.mono ?_
    rintro e w5 ⟨rfl, hb5⟩
    have hn6 := below_new2 w5 (.cells #[.int .i64 y1, .int .i64 y2, .int .i64 y3, .int .i64 y4, .int .i64 y5] 44)
    have hb6 := bt hb5 hn6
    have HB6 := Lib.hid (HB4.out.trans (hb6.mono HB4.out.size))
    have HK6 := Lib.hid ((hb6.block _ (heap_lt HK4.out)).trans HK4.out)
    have HC6 := Lib.hid (one_new w5 (.cells #[.int .i64 y1, .int .i64 y2, .int .i64 y3, .int .i64 y4, .int .i64 y5] 44))
    have HQ6 := Lib.hid (HQ4.out.later hb6)
    clear hb5 hn6 hb6 HB4 HK4 HQ4 HFD
    go_upto_region 9 with (fail)
    generalize w5.alloc (.cells #[.int .i64 y1, .int .i64 y2, .int .i64 y3, .int .i64 y4, .int .i64 y5] 44) = w6 at HB6 HK6 HC6 HQ6 ⊢
    generalize w5.heap.size = cc at HC6 ⊢
    have hsh := shorter_c (some ⟨g, 0, none⟩) s best.length k n cap best l w6 rfl HL.out (by omega) hn HQ6.out (HR.out.later HB6.out)
    rw [HSH.out] at hsh
    have HSC := Lib.hid hsh
    clear hsh
    go_wp2_with fail
    refine HSC.out.mono ?_
    rintro e w7 ⟨rfl, hb7⟩
    have hk7 := (hb7.block _ (heap_lt HK6.out)).trans HK6.out
    have hc7 := (hb7.block _ (heap_lt HC6.out)).trans HC6.out
    have m0 : w7.cell? ⟨cb, 0, none⟩ = some (.int .i64 y1) := block_cell hk7
    have m1 : w7.cell? ⟨cb, 1, none⟩ = some (.int .i64 y2) := block_cell hk7
    have m2 : w7.cell? ⟨cb, 2, none⟩ = some (.int .i64 y3) := block_cell hk7
    have m3 : w7.cell? ⟨cb, 3, none⟩ = some (.int .i64 y4) := block_cell hk7
    have m4 : w7.cell? ⟨cb, 4, none⟩ = some (.int .i64 y5) := block_cell hk7
    have p0 : w7.cell? ⟨cc, 0, none⟩ = some (.int .i64 y1) := block_cell hc7
    have p1 : w7.cell? ⟨cc, 1, none⟩ = some (.int .i64 y2) := block_cell hc7
    have p2 : w7.cell? ⟨cc, 2, none⟩ = some (.int .i64 y3) := block_cell hc7
    have p3 : w7.cell? ⟨cc, 3, none⟩ = some (.int .i64 y4) := block_cell hc7
    have p4 : w7.cell? ⟨cc, 4, none⟩ = some (.int .i64 y5) := block_cell hc7
    have HB7 := Lib.hid (HB6.out.trans (hb7.mono HB6.out.size))
    clear hb7 hk7 hc7 HB6 HK6 HC6 HQ6 HSC
    go_wp2
    go_ret
    exact ⟨rfl, HB7.out⟩
  · have hs2 : (say != 1) = true := by rw [bne_iff_ne]; exact hs1
    go_wp2
    go_ret
    exact ⟨rfl, HB3.out⟩
end Go.Proofs.Ytampjndfhpjheaa
