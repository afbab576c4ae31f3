/- Plain: the three codes of the reader. No program. Contracts: Pending; parsers with the blocks that are their own; fed; alive. Condition: fewer than 2^31 keys. Contract: alive. No condition. -/
import Derived.Test.YtampjndfhpjheaaYv
import Derived.Test.YtampjndfhpjheaaSi
import Derived.Test.YtampjndfhpjheaaSh
import Derived.Test.YtampjndfhpjheaaLa
import Derived.Test.YtampjndfhpjheaaTa
namespace Go.Proofs.Ytampjndfhpjheaa
theorem prefP_3 (f : Nat) (r c : Int) (l : List Int) : (prefP f r c l).1 = 0 ∨ (prefP f r c l).1 = 1 ∨ (prefP f r c l).1 = 2 := by
  induction f generalizing r c l with
  | zero => exact .inl rfl
  | succ f ih =>
    simp only [prefP]
    split
    · exact .inl rfl
    · split
      · split
        · exact .inl rfl
        · split
          · exact .inr (.inr rfl)
          · exact ih _ _ _
      · exact .inr (.inl rfl)
theorem finP_3 (reg cnt verb : Int) (b : Bd) (l : List Int) : (finP reg cnt verb b l).1 = 0 ∨ (finP reg cnt verb b l).1 = 1 ∨ (finP reg cnt verb b l).1 = 2 := by
  unfold finP
  simp only
  split
  · split
    · exact .inl rfl
    · exact .inr (.inl rfl)
  · exact .inr (.inl rfl)
theorem behP_3' (own : List (List Int)) (l : List Int) : (behP own l).1 = 0 ∨ (behP own l).1 = 1 ∨ (behP own l).1 = 2 := by
  by_cases hl : l = []
  · exact .inl (by rw [hl]; rfl)
  · rcases lookG_3 (own.map fun k => (k, mlB)) l with h | h | h
    · rcases lookG_3 behindT l with g | g | g
      · exact .inl (behP_c hl (by rw [h]; decide) g (by decide))
      · exact .inr (.inl (behP_c hl (by rw [h]; decide) g (by decide)))
      · exact .inl (by rw [behP_b hl h (by decide) g])
    · exact .inr (.inl (beh1 hl h))
    · rcases lookG_3 behindT l with g | g | g
      · exact .inl (behP_c hl (by rw [h]; decide) g (by decide))
      · exact .inr (.inl (behP_c hl (by rw [h]; decide) g (by decide)))
      · exact .inr (.inr (by rw [behP_b hl h (by decide) g]))
theorem rowP_3 (T : Rows) (reg cnt : Int) (l : List Int) : (rowP T reg cnt l).1 = 0 ∨ (rowP T reg cnt l).1 = 1 ∨ (rowP T reg cnt l).1 = 2 := by
  have h1 := lookG_3 T l
  unfold rowP
  split
  · split
    · exact finP_3 _ _ _ _ _
    · rename_i k b _ _
      have h2 := behP_3' b.own (numP cnt (l.drop k.length)).2
      split
      · exact finP_3 _ _ _ _ _
      · rename_i e; rw [e] at h2; exact h2
  · rename_i e; rw [e] at h1; exact h1
theorem readP_3 (sel : Bool) (l : List Int) : (readP sel l).1 = 0 ∨ (readP sel l).1 = 1 ∨ (readP sel l).1 = 2 := by
  have h1 := prefP_3 (l.length + 1) 0 0 l
  unfold readP
  split
  · exact rowP_3 _ _ _ _
  · rename_i e; rw [e] at h1; exact h1
open Go.RowKit
set_option linter.unusedVariables false
theorem pending_c (B : Nat) (ow : Nat → Nat) (pb tb : Nat) (p : Par) (w : World) (hp : ParN w B ow pb tb p) (hl : p.pend.length < 1073741824) :
    Calls Try.prog 28 #[.pointer (some ⟨pb, 0, none⟩)] w fun e w' => ∃ s c, e = .returned (.slice s p.pend.length c) ∧ OwnInts w' w.heap.size (.slice s p.pend.length c) p.pend ∧ Below w.heap.size w w' := by
  obtain ⟨_, _, _, s, c, h4, h5, _⟩ := hp
  have c1 : w.cell? ⟨pb, 1, none⟩ = some (.slice s p.pend.length c) := block_cell h4
  have HC := Lib.hid (clone_c s p.pend.length c p.pend w rfl hl h5.is (own_nil h5))
  clear h4 h5
  go_enter Try.func28, Try.ntmps28
  go_wp2_with fail
  refine HC.out.mono ?_
  rintro e w2 ⟨s', c', rfl, ho, hb⟩
  have HO := Lib.hid ho
  have HB := Lib.hid hb
  clear ho hb
  go_wp2
  go_ret
  exact ⟨s', c', rfl, HO.out, HB.out⟩
/-- a parser: F: the blocks that it writes, R: those that it reads alone -/
def ParF (w : World) (F R : Nat → Prop) (pb : Nat) (p : Par) : Prop := ∃ ow tb, ParN w 0 ow pb tb p ∧ F pb ∧ PendO w pb F ∧ (∀ b, ow b ≠ 0 → R b) ∧ ∀ b, F b → b < w.heap.size
theorem ParN.zero {w : World} {B : Nat} {ow : Nat → Nat} {pb tb : Nat} {p : Par} (h : ParN w B ow pb tb p) : ParN w 0 ow pb tb p := by
  obtain ⟨h1, h2, h3, s, c, h4, h5, h6⟩ := h
  exact ⟨h1, h2, Nat.zero_le _, s, c, h4, h5.mono (Nat.zero_le _), h6⟩
theorem newp_c (w : World) : Calls Try.prog 23 #[] w fun e w' => ∃ pb, e = .returned (.pointer (some ⟨pb, 0, none⟩)) ∧ ParF w' (fun b => b = pb) (fun b => w.heap.size ≤ b ∧ b < w'.heap.size ∧ b ≠ pb) pb par0 ∧ w.heap.size ≤ pb ∧ pb < w'.heap.size ∧ Below w.heap.size w w' := by
  refine (new_c w).mono ?_
  rintro e w' ⟨pb, tb, ow, rfl, h1, h2, h3, h4, h5, h6, h7⟩
  have hl := heap_lt h2
  exact ⟨pb, rfl, ⟨ow, tb, ⟨h3, h4, Nat.zero_le _, none, 0, h2, OwnInts.nil _ _, fun b hb => by cases hb⟩, rfl, pend_of h2 (fun b hb => by cases hb), fun b hb => ⟨Nat.le_of_not_lt fun h => hb (h6 b h), Nat.lt_of_not_le fun h => hb (h7 b h), fun e => hb (by rw [e]; exact h4)⟩, fun b hb => by rw [show b = pb from hb]; exact hl⟩, h1, hl, h5⟩
theorem ParF.kept {w w' : World} {F R O : Nat → Prop} {pb : Nat} {p : Par} (h : ParF w F R pb p) (ht : Touch O w w') (hF : ∀ b, F b → ¬ O b) (hR : ∀ b, R b → ¬ O b) : ParF w' F R pb p := by
  obtain ⟨ow, tb, hp, hf, hpo, hr, hl⟩ := h
  obtain ⟨h1, h2, h3, s, c, h4, h5, h6⟩ := hp
  have e4 := (ht.block pb (heap_lt h4) (hF pb hf))
  have c1 : w.cell? ⟨pb, 1, none⟩ = some (.slice s p.pend.length c) := block_cell h4
  refine ⟨ow, tb, ⟨h1.kept (fun b hb hne => ⟨ht.block b hb (hR b (hr b hne)), rfl⟩) ht.size, h2, h3, s, c, e4.trans h4, h5.kept (fun b hb he => ht.block b hb (hF b (hpo s _ c c1 b he))), h6⟩, hf, hpo.same e4, hr, fun b hb => Nat.lt_of_lt_of_le (hl b hb) ht.size⟩
theorem ParF.later {w w' : World} {F R : Nat → Prop} {pb : Nat} {p : Par} (h : ParF w F R pb p) (hb : Below w.heap.size w w') : ParF w' F R pb p := h.kept (O := fun _ => False) (Touch.of hb) (fun _ _ e => e) (fun _ _ e => e)
/-- the blocks that a parser may write behind a call -/
def FG (F : Nat → Prop) (w w' : World) (b : Nat) : Prop := F b ∨ (w.heap.size ≤ b ∧ b < w'.heap.size)
theorem feed_f (F R : Nat → Prop) (pb : Nat) (p : Par) (mode key : Int) (w : World) (hp : ParF w F R pb p) (hk : ∀ x ∈ p.pend, inKey x) (hkey : inKey key) (hl : p.pend.length < 4294967295) :
    Calls Try.prog 26 #[.pointer (some ⟨pb, 0, none⟩), .int .i64 mode, .int .i64 key] w fun e w' => e = .returned (.tuple #[.agg (feedP p mode key).2.1.cells, .int .i64 ((feedP p mode key).2.2 : Nat)]) ∧ ParF w' (FG F w w') R pb (feedP p mode key).1 ∧ Touch F w w' := by
  obtain ⟨ow, tb, h1, hf, hpo, hr, hlt⟩ := hp
  refine (feed_c 0 (fun b => F b ∨ w.heap.size ≤ b) ow pb tb p mode key w h1 (Nat.zero_le _) hk hkey hl (fun b hb => .inr hb) (.inl hf) (fun s n c hc b hb => .inl (hpo s n c hc b hb))).mono ?_
  rintro e w' ⟨rfl, ⟨ow', hp', how⟩, hpo', ht⟩
  refine ⟨rfl, ⟨ow', tb, hp', .inl hf, fun s n c hc b hb => ?_, fun b hb => hr b (how b hb), fun b hb => ?_⟩, ht.wide (fun b hb hO => hO.elim id (fun h => by omega))⟩
  · obtain ⟨_, _, _, s', c', h4, h5, _⟩ := hp'
    have c1 : w'.cell? ⟨pb, 1, none⟩ = some (.slice s' (feedP p mode key).1.pend.length c') := block_cell h4
    have h7 := hpo' s n c hc b hb
    have h8 : (Value.slice s n c) = .slice s' (feedP p mode key).1.pend.length c' := by
      rw [c1] at hc
      injection hc with hc
      exact hc.symm
    rw [h8] at hb
    have h9 := (h5.lt b hb).2
    rcases h7 with h7 | h7
    · exact .inl h7
    · exact .inr ⟨h7, h9⟩
  · rcases hb with hb | hb
    · exact Nat.lt_of_lt_of_le (hlt b hb) ht.size
    · exact hb.2
theorem reset_f (F R : Nat → Prop) (pb : Nat) (p : Par) (w : World) (hp : ParF w F R pb p) :
    Calls Try.prog 29 #[.pointer (some ⟨pb, 0, none⟩)] w fun e w' => e = .returned (.tuple #[]) ∧ ParF w' F R pb ⟨[], p.sel⟩ ∧ Touch F w w' := by
  obtain ⟨ow, tb, ⟨h1, h2, h3, s, c, h4, h5, h6⟩, hf, hpo, hr, hlt⟩ := hp
  refine (reset_c pb tb s _ c p.sel w h4).mono ?_
  rintro e w' ⟨rfl, rfl⟩
  have t1 := Touch.setCell (fun b => b = pb) w (p := ⟨pb, 1, none⟩) rfl (.slice none 0 0)
  have k4 : (w.setCell ⟨pb, 1, none⟩ (.slice none 0 0)).heap[pb]? = some (.cells #[.pointer (some ⟨tb, 0, none⟩), .slice none 0 0, .bool p.sel] 108 (0, 0)) := by rw [block_set _ h4]; rfl
  exact ⟨rfl, ⟨ow, tb, par_nil (h1.touch t1 h2) h2 h3 k4, hf, pend_of k4 (fun b hb => by cases hb), hr, fun b hb => Nat.lt_of_lt_of_le (hlt b hb) t1.size⟩, t1.wide (fun b _ e => by rw [show b = pb from e]; exact hf)⟩
theorem pp_len (p : Par) (mode : Int) : (pp p mode).length ≤ p.pend.length := by
  unfold pp
  split
  · exact Nat.le_refl _
  · exact Nat.zero_le _
theorem pp_mem {p : Par} {mode y : Int} (h : y ∈ pp p mode) : y ∈ p.pend := by
  unfold pp at h
  split at h
  · exact h
  · cases h
theorem feed_pend {p : Par} {mode x : Int} (h : ∀ y ∈ p.pend, inKey y) (hx : inKey x) : ∀ y ∈ (feedP p mode x).1.pend, inKey y := by
  by_cases h27 : x = 27
  · subst h27
    rw [feed_27]
    intro y hy; cases hy
  · rw [feed_pp h27]
    intro y hy
    simp only at hy
    split at hy
    · rcases List.mem_append.1 hy with hy | hy
      · exact h y (pp_mem hy)
      · rw [List.mem_singleton] at hy; rw [hy]; exact hx
    · cases hy
theorem feed_plen {p : Par} {mode x : Int} : (feedP p mode x).1.pend.length ≤ p.pend.length + 1 := by
  by_cases h27 : x = 27
  · subst h27
    rw [feed_27]
    exact Nat.zero_le _
  · rw [feed_pp h27]
    have := pp_len p mode
    simp only
    split
    · simp; omega
    · exact Nat.zero_le _
theorem peq_nil (a : Addr) (w : World) : (binOp .eql 59 (.pointer (some a)) (.pointer none)).run Try.prog w = .ok (.bool false) w := by kernel_rfl
set_option maxRecDepth 100000 in
set_option maxHeartbeats 8000000 in
theorem fed_w (mode : Int) (s : Option Addr) (n cap : Nat) (l : List Int) (w : World) (hl : l.length = n) (hn : n < 1073741824) (hr : IsInts w s n (gl l)) (hk : ∀ x ∈ l, inKey x) :
    Calls Try.prog 14 #[.int .i64 mode, .slice s n cap] w fun e w' => e = .returned (.tuple #[.agg (fedP mode l).1.cells, .int .i64 (fedP mode l).2]) ∧ Below w.heap.size w w' := by
  have hbn := below_new2 w (.cells #[.int .i64 0, .int .i64 0, .int .i64 0, .int .i64 0, .int .i64 0] 44)
  have h4 := one_new w (.cells #[.int .i64 0, .int .i64 0, .int .i64 0, .int .i64 0, .int .i64 0] 44)
  have HB1 := Lib.hid hbn
  have H4 := Lib.hid h4
  have HR := Lib.hid hr
  have HK := Lib.hid hk
  have HL := Lib.hid hl
  have hsz : (w.alloc (.cells #[.int .i64 0, .int .i64 0, .int .i64 0, .int .i64 0, .int .i64 0] 44)).heap.size = w.heap.size + 1 := by simp
  have hsz1 : w.heap.size < (w.alloc (.cells #[.int .i64 0, .int .i64 0, .int .i64 0, .int .i64 0, .int .i64 0] 44)).heap.size := by omega
  clear hbn h4 hr hk hl hsz
  go_enter Try.func14, Try.ntmps14
  go_upto_region 1 with (fail)
  generalize w.alloc (.cells #[.int .i64 0, .int .i64 0, .int .i64 0, .int .i64 0, .int .i64 0] 44) = w1 at HB1 H4 hsz1 ⊢
  go_wp2_with fail
  refine (newp_c w1).mono ?_
  rintro e w2 ⟨pb, rfl, hp, hpl, hpl2, hb2⟩
  have hq := peq_nil ⟨pb, 0, none⟩ w2
  have HP := Lib.hid (hp.later (below_new2 w2 (.cells #[.int .i64 0, .int .i64 0, .int .i64 0, .int .i64 0, .int .i64 0] 44)))
  have HB2 := Lib.hid (HB1.out.trans ((hb2.trans ((below_new2 w2 (.cells #[.int .i64 0, .int .i64 0, .int .i64 0, .int .i64 0, .int .i64 0] 44)).mono hb2.size)).mono HB1.out.size))
  have HC := Lib.hid (one_new w2 (.cells #[.int .i64 0, .int .i64 0, .int .i64 0, .int .i64 0, .int .i64 0] 44))
  have H42 := Lib.hid (((below_new2 w2 (.cells #[.int .i64 0, .int .i64 0, .int .i64 0, .int .i64 0, .int .i64 0] 44)).block _ (Nat.lt_of_lt_of_le (heap_lt H4.out) hb2.size)).trans ((hb2.block _ (heap_lt H4.out)).trans H4.out))
  have hs2 := hb2.size
  have hsz3 : (w2.alloc (.cells #[.int .i64 0, .int .i64 0, .int .i64 0, .int .i64 0, .int .i64 0] 44)).heap.size = w2.heap.size + 1 := by simp
  have hs3 : w2.heap.size < (w2.alloc (.cells #[.int .i64 0, .int .i64 0, .int .i64 0, .int .i64 0, .int .i64 0] 44)).heap.size := by omega
  clear hp hb2 HB1 H4 hsz3
  generalize hw1s : w1.heap.size = n1 at *
  clear hw1s
  go_upto_region 5 with (fail)
  generalize w2.alloc (.cells #[.int .i64 0, .int .i64 0, .int .i64 0, .int .i64 0, .int .i64 0] 44) = w3 at HP HB2 HC H42 hs3 ⊢
  clear hq
  generalize hn2 : w2.heap.size = cb at *
  clear hn2
  go_wp2_with fail
  go_loopg [8, 9] n (fun gg sv iv wr => ∃ (i : Nat) (p : Par) (cmd : Cmd) (say : Int) (F : Nat → Prop), i + gg = n ∧ iv = .int .i64 i ∧ sv = .int .i64 say ∧ ParF wr F (fun b => n1 ≤ b ∧ b < cb ∧ b ≠ pb) pb p ∧ (∀ b, F b → b = pb ∨ cb < b) ∧ wr.heap[cb]? = some (.cells cmd.cells 44 (0, 0)) ∧ wr.heap[w.heap.size]? = some (.cells #[.int .i64 0, .int .i64 0, .int .i64 0, .int .i64 0, .int .i64 0] 44 (0, 0)) ∧ Below w.heap.size w wr ∧ fedL mode p (l.drop i) (cmd, say) = fedP mode l ∧ (∀ x ∈ p.pend, inKey x) ∧ p.pend.length ≤ i)
  case atStart => exact ⟨0, par0, cmd0, -1, _, by omega, rfl, rfl, HP.out, fun b hb => .inl hb, HC.out, H42.out, HB2.out, rfl, (fun x hx => by cases hx), Nat.zero_le _⟩
  case round =>
    obtain ⟨i, p, cmd, say, F, hgi, rfl, rfl, hp, hF, hc, h4, hb, hfe, hpk, hpl3⟩ := hrel
    clear HP HC H42 HB2
    have hFlow : ∀ b, F b → w.heap.size ≤ b := fun b hb => by rcases hF b hb with h | h <;> omega
    have hFcb : ¬ F cb := fun h => by rcases hF cb h with h | h <;> omega
    have hF4 : ¬ F w.heap.size := fun h => by rcases hF _ h with h | h <;> omega
    have HFI := Lib.hid hF
    have HFL := Lib.hid hFlow
    have HFC := Lib.hid hFcb
    have HF4 := Lib.hid hF4
    have HP := Lib.hid hp
    have HC := Lib.hid hc
    have H4 := Lib.hid h4
    have HB := Lib.hid hb
    have HFE := Lib.hid hfe
    have HPK := Lib.hid hpk
    have hcbl := heap_lt hc
    clear hp hF hc h4 hb hfe hpk hFlow hFcb hF4
    by_cases hlt : i < n
    · have hsb : ∀ a, s = some a → a.block < w.heap.size := fun a e => by
        rcases HR.out with h0 | ⟨b0, o0, e0, hb0, _⟩
        · omega
        · rw [e0] at e; cases e; exact hb0
      obtain ⟨b, off, rfl, hcell⟩ := (ints_base HR.out HB.out hsb).at (Below.refl _ _) hlt
      clear hsb
      have hd := glS_drop (l := l) (k := i) (by rw [HL.out]; exact hlt)
      have hxm : gl l i ∈ l := by
        unfold gl
        rw [List.getD_eq_getElem?_getD, List.getElem?_eq_getElem (by rw [HL.out]; exact hlt)]
        exact List.getElem_mem _
      have hkx := HK.out _ hxm
      generalize gl l i = x at hcell hd hkx
      have HD := Lib.hid hd
      have HKX := Lib.hid hkx
      have q1 : (i : Int) < (n : Int) := by omega
      have hw1 : wrap64 ((n : Int) - 1) = (n : Int) - 1 := by unfold wrap64; omega
      clear hd hkx hxm
      have hfd := feed_f F (fun b => n1 ≤ b ∧ b < cb ∧ b ≠ pb) pb p mode x wr HP.out HPK.out HKX.out (by omega)
      have hpk5 := feed_pend (mode := mode) HPK.out HKX.out
      have hpl5 : (feedP p mode x).1.pend.length ≤ i + 1 := by have := feed_plen (p := p) (mode := mode) (x := x); omega
      have hfe5 : fedL mode p (x :: l.drop (i + 1)) (cmd, say) = fedP mode l := by rw [← HD.out]; exact HFE.out
      simp only [fedL] at hfe5
      generalize feedP p mode x = rr at hfd hpk5 hpl5 hfe5
      obtain ⟨p5, ⟨b1, b2, b3, b4, b5⟩, code⟩ := rr
      simp only at hpk5 hpl5 hfe5
      have HFD : Hid (Calls Try.prog 26 #[.pointer (some ⟨pb, 0, none⟩), .int .i64 mode, .int .i64 x] wr fun e w' => e = .returned (.tuple #[.agg #[.int .i64 b1, .int .i64 b2, .int .i64 b3, .int .i64 b4, .int .i64 b5], .int .i64 (code : Nat)]) ∧ ParF w' (FG F wr w') (fun b => n1 ≤ b ∧ b < cb ∧ b ≠ pb) pb p5 ∧ Touch F wr w') := Lib.hid hfd
      have HFE5 := Lib.hid hfe5
      have HPK5 := Lib.hid hpk5
      clear hfd hfe5 hpk5
      go_wp2_with fail
      refine HFD.out.mono ?_
      rintro e w5 ⟨rfl, hp5, ht5⟩
      have hc5 := (ht5.block cb hcbl HFC.out).trans HC.out
      have h45 := (ht5.block _ (heap_lt H4.out) HF4.out).trans H4.out
      have hb5 := HB.out.trans (ht5.below HFL.out HB.out.size)
      have hF5 : ∀ b, FG F wr w5 b → b = pb ∨ cb < b := fun b hb => by
        rcases hb with hb | hb
        · exact HFI.out b hb
        · exact .inr (by omega)
      have hpln : ¬ FG F wr w5 cb := fun h => by rcases hF5 cb h with h | h <;> omega
      have ts := set5_touch w5 cb ⟨b1, b2, b3, b4, b5⟩
      have hp6 := hp5.kept ts (fun b hb e => hpln (by rw [← show b = cb from e]; exact hb)) (fun b hb e => by have : b = cb := e; omega)
      have hc6 : (set5 w5 cb ⟨b1, b2, b3, b4, b5⟩).heap[cb]? = some (.cells (⟨b1, b2, b3, b4, b5⟩ : Cmd).cells 44 (0, 0)) := by
        unfold set5
        rw [block_set _ (block_set _ (block_set _ (block_set _ (block_set _ hc5))))]
        rfl
      have h46 := (ts.block w.heap.size (heap_lt h45) (by omega)).trans h45
      have hb6 := hb5.trans (ts.below (B := w.heap.size) (fun b hb => by rw [show b = cb from hb]; omega) hb5.size)
      have m0 : w5.cell? ⟨cb, 0, none⟩ = some (.int .i64 cmd.reg) := block_cell hc5
      have m1 : w5.cell? ⟨cb, 1, none⟩ = some (.int .i64 cmd.count) := block_cell hc5
      have m2 : w5.cell? ⟨cb, 2, none⟩ = some (.int .i64 cmd.verb) := block_cell hc5
      have m3 : w5.cell? ⟨cb, 3, none⟩ = some (.int .i64 cmd.move) := block_cell hc5
      have m4 : w5.cell? ⟨cb, 4, none⟩ = some (.int .i64 cmd.arg) := block_cell hc5
      have fz0 : w5.frozen? ⟨cb, 0, none⟩ = false := block_free hc5
      have fz1 : w5.frozen? ⟨cb, 1, none⟩ = false := block_free hc5
      have fz2 : w5.frozen? ⟨cb, 2, none⟩ = false := block_free hc5
      have fz3 : w5.frozen? ⟨cb, 3, none⟩ = false := block_free hc5
      have fz4 : w5.frozen? ⟨cb, 4, none⟩ = false := block_free hc5
      have HP6 : Hid (ParF (((((w5.setCell ⟨cb, 0, none⟩ (.int .i64 b1)).setCell ⟨cb, 1, none⟩ (.int .i64 b2)).setCell ⟨cb, 2, none⟩ (.int .i64 b3)).setCell ⟨cb, 3, none⟩ (.int .i64 b4)).setCell ⟨cb, 4, none⟩ (.int .i64 b5)) (FG F wr w5) (fun b => n1 ≤ b ∧ b < cb ∧ b ≠ pb) pb p5) := Lib.hid hp6
      have HF5 := Lib.hid hF5
      have HC6 : Hid ((((((w5.setCell ⟨cb, 0, none⟩ (.int .i64 b1)).setCell ⟨cb, 1, none⟩ (.int .i64 b2)).setCell ⟨cb, 2, none⟩ (.int .i64 b3)).setCell ⟨cb, 3, none⟩ (.int .i64 b4)).setCell ⟨cb, 4, none⟩ (.int .i64 b5)).heap[cb]? = some (.cells (⟨b1, b2, b3, b4, b5⟩ : Cmd).cells 44 (0, 0))) := Lib.hid hc6
      have H46 : Hid ((((((w5.setCell ⟨cb, 0, none⟩ (.int .i64 b1)).setCell ⟨cb, 1, none⟩ (.int .i64 b2)).setCell ⟨cb, 2, none⟩ (.int .i64 b3)).setCell ⟨cb, 3, none⟩ (.int .i64 b4)).setCell ⟨cb, 4, none⟩ (.int .i64 b5)).heap[w.heap.size]? = some (.cells #[.int .i64 0, .int .i64 0, .int .i64 0, .int .i64 0, .int .i64 0] 44 (0, 0))) := Lib.hid h46
      have HB6 : Hid (Below w.heap.size w (((((w5.setCell ⟨cb, 0, none⟩ (.int .i64 b1)).setCell ⟨cb, 1, none⟩ (.int .i64 b2)).setCell ⟨cb, 2, none⟩ (.int .i64 b3)).setCell ⟨cb, 3, none⟩ (.int .i64 b4)).setCell ⟨cb, 4, none⟩ (.int .i64 b5))) := Lib.hid hb6
      clear hp5 hc5 h45 hb5 hF5 hpln ts hp6 hc6 h46 hb6 ht5 hcell
      go_upto_region 10 with (fail)
      generalize (((((w5.setCell ⟨cb, 0, none⟩ (.int .i64 b1)).setCell ⟨cb, 1, none⟩ (.int .i64 b2)).setCell ⟨cb, 2, none⟩ (.int .i64 b3)).setCell ⟨cb, 3, none⟩ (.int .i64 b4)).setCell ⟨cb, 4, none⟩ (.int .i64 b5)) = w6 at HP6 HC6 H46 HB6 ⊢
      clear m0 m1 m2 m3 m4 fz0 fz1 fz2 fz3 fz4
      have hdl : (l.drop (i + 1)).length = n - (i + 1) := by rw [List.length_drop, HL.out]
      by_cases hc0 : code = 0
      · subst hc0
        have hk0 : (((0 : Nat) : Int) != 0) = false := rfl
        have hf6 := HFE5.out
        rw [if_neg (fun e => e.1 rfl)] at hf6
        have HF6 := Lib.hid hf6
        clear hf6 hdl
        go_wp2
        go_roundg (gk - 1)
        case measure => omega
        case rel => exact ⟨i + 1, p5, ⟨b1, b2, b3, b4, b5⟩, _, _, by omega, by go_num, rfl, HP6.out, HF5.out, HC6.out, H46.out, HB6.out, HF6.out, HPK5.out, hpl5⟩
      · have hk0 : ((code : Int) != 0) = true := by rw [bne_iff_ne]; omega
        by_cases hi1 : i + 1 < n
        · have q2 : (i : Int) < (n : Int) - 1 := by omega
          have hne : l.drop (i + 1) ≠ [] := fun e => by rw [e] at hdl; simp at hdl; omega
          have hf6 := HFE5.out
          rw [if_pos ⟨hc0, hne⟩] at hf6
          have HF6 := Lib.hid hf6
          clear hf6 hdl hne hc0
          have e0 : w6.cell? ⟨w.heap.size, 0, none⟩ = some (.int .i64 0) := block_cell H46.out
          have ef0 : w6.frozen? ⟨w.heap.size, 0, none⟩ = false := block_free H46.out
          have e1 : w6.cell? ⟨w.heap.size, 1, none⟩ = some (.int .i64 0) := block_cell H46.out
          have ef1 : w6.frozen? ⟨w.heap.size, 1, none⟩ = false := block_free H46.out
          have e2 : w6.cell? ⟨w.heap.size, 2, none⟩ = some (.int .i64 0) := block_cell H46.out
          have ef2 : w6.frozen? ⟨w.heap.size, 2, none⟩ = false := block_free H46.out
          have e3 : w6.cell? ⟨w.heap.size, 3, none⟩ = some (.int .i64 0) := block_cell H46.out
          have ef3 : w6.frozen? ⟨w.heap.size, 3, none⟩ = false := block_free H46.out
          have e4 : w6.cell? ⟨w.heap.size, 4, none⟩ = some (.int .i64 0) := block_cell H46.out
          have ef4 : w6.frozen? ⟨w.heap.size, 4, none⟩ = false := block_free H46.out
          go_wp2
          refine bodyPost_ret (v := .tuple #[.agg #[.int .i64 0, .int .i64 0, .int .i64 0, .int .i64 0, .int .i64 0], .int .i64 (-1)]) (by simp [results, Try.results14, go_sem, e0, e1, e2, e3, e4]) rfl ⟨by rw [← HF6.out]; rfl, set5_below HB6.out cmd0⟩
        · have q2 : ¬ ((i : Int) < (n : Int) - 1) := by omega
          have hne : l.drop (i + 1) = [] := List.length_eq_zero_iff.1 (by omega)
          have hf6 := HFE5.out
          rw [if_neg (fun e => e.2 hne)] at hf6
          have HF6 := Lib.hid hf6
          clear hf6 hdl hne hc0
          go_wp2
          go_roundg (gk - 1)
          case measure => omega
          case rel => exact ⟨i + 1, p5, ⟨b1, b2, b3, b4, b5⟩, _, _, by omega, by go_num, rfl, HP6.out, HF5.out, HC6.out, H46.out, HB6.out, HF6.out, HPK5.out, hpl5⟩
    · have hne : l.drop i = [] := List.drop_eq_nil_of_le (by rw [HL.out]; omega)
      have hf6 := HFE.out
      rw [hne] at hf6
      have hf7 : (cmd, say) = fedP mode l := hf6
      have HF6 := Lib.hid hf7
      obtain ⟨b1, b2, b3, b4, b5⟩ := cmd
      clear hne hf6 hf7
      have e0 : wr.cell? ⟨w.heap.size, 0, none⟩ = some (.int .i64 0) := block_cell H4.out
      have ef0 : wr.frozen? ⟨w.heap.size, 0, none⟩ = false := block_free H4.out
      have e1 : wr.cell? ⟨w.heap.size, 1, none⟩ = some (.int .i64 0) := block_cell H4.out
      have ef1 : wr.frozen? ⟨w.heap.size, 1, none⟩ = false := block_free H4.out
      have e2 : wr.cell? ⟨w.heap.size, 2, none⟩ = some (.int .i64 0) := block_cell H4.out
      have ef2 : wr.frozen? ⟨w.heap.size, 2, none⟩ = false := block_free H4.out
      have e3 : wr.cell? ⟨w.heap.size, 3, none⟩ = some (.int .i64 0) := block_cell H4.out
      have ef3 : wr.frozen? ⟨w.heap.size, 3, none⟩ = false := block_free H4.out
      have e4 : wr.cell? ⟨w.heap.size, 4, none⟩ = some (.int .i64 0) := block_cell H4.out
      have ef4 : wr.frozen? ⟨w.heap.size, 4, none⟩ = false := block_free H4.out
      have n0 : wr.cell? ⟨cb, 0, none⟩ = some (.int .i64 b1) := block_cell HC.out
      have n1 : wr.cell? ⟨cb, 1, none⟩ = some (.int .i64 b2) := block_cell HC.out
      have n2 : wr.cell? ⟨cb, 2, none⟩ = some (.int .i64 b3) := block_cell HC.out
      have n3 : wr.cell? ⟨cb, 3, none⟩ = some (.int .i64 b4) := block_cell HC.out
      have n4 : wr.cell? ⟨cb, 4, none⟩ = some (.int .i64 b5) := block_cell HC.out
      go_wp2
      refine bodyPost_ret (v := .tuple #[.agg #[.int .i64 b1, .int .i64 b2, .int .i64 b3, .int .i64 b4, .int .i64 b5], .int .i64 say]) (by simp [results, Try.results14, go_sem, e0, e1, e2, e3, e4]) rfl ⟨by rw [← HF6.out]; rfl, set5_below HB.out ⟨b1, b2, b3, b4, b5⟩⟩
open Go.RowKit
theorem fed_c (mode : Int) (s : Option Addr) (n cap : Nat) (l : List Int) (w : World) (hl : l.length = n) (hn : n < 1073741824) (hr : IsInts w s n (gl l)) (hs : ∀ a, s = some a → a.block < w.heap.size) (hk : ∀ x ∈ l, inKey x) :
    Calls Try.prog 14 #[.int .i64 mode, .slice s n cap] w fun e w' => e = .returned (.tuple #[.agg (fedP mode l).1.cells, .int .i64 (fedP mode l).2]) ∧ Below w.heap.size w w' :=
  fed_w mode s n cap l w hl hn hr hk
set_option linter.unusedVariables false
theorem inKeys_small {l : List Int} (h : (l.all fun x => decide (0 ≤ x) && decide (x < 1000)) = true) : ∀ x ∈ l, inKey x := by
  intro x hx
  have h1 := List.all_eq_true.1 h x hx
  simp only [Bool.and_eq_true, decide_eq_true_eq] at h1
  exact inKey_small h1.1 h1.2
theorem alive_fed : fedP 0 [50, 100, 51, 119] = (⟨0, 6, 2, 21, 0⟩, 1) := by decide +kernel
theorem alive_spell : spellP (selP 0) ⟨97, 6, 2, 21, 0⟩ = some [34, 97, 54, 100, 119] := by decide +kernel
set_option maxRecDepth 100000 in
set_option maxHeartbeats 4000000 in
theorem alive_c (w : World) : Calls Try.prog 15 #[] w fun e w' => e = .returned (.bool true) ∧ Below w.heap.size w w' := by
  have hb1 := below_new2 w (.cells #[.int .i64 50, .int .i64 100, .int .i64 51, .int .i64 119] 3)
  have hn1 := one_new w (.cells #[.int .i64 50, .int .i64 100, .int .i64 51, .int .i64 119] 3)
  have hi : IsInts (w.alloc (.cells #[.int .i64 50, .int .i64 100, .int .i64 51, .int .i64 119] 3)) (some ⟨w.heap.size, 0, none⟩) 4 (gl [50, 100, 51, 119]) := by
    refine .inr ⟨w.heap.size, 0, rfl, by simp, fun i hi => ?_⟩
    rw [Nat.zero_add, block_cell hn1]
    match i, hi with
    | 0, _ => rfl
    | 1, _ => rfl
    | 2, _ => rfl
    | 3, _ => rfl
  have hfed := fed_c 0 (some ⟨w.heap.size, 0, none⟩) 4 4 [50, 100, 51, 119] _ rfl (by decide) hi (fun a e => by cases e; simp) (inKeys_small (by decide))
  rw [alive_fed] at hfed
  have HFD : Hid (Calls Try.prog 14 #[.int .i64 0, .slice (some ⟨w.heap.size, 0, none⟩) 4 4] (w.alloc (.cells #[.int .i64 50, .int .i64 100, .int .i64 51, .int .i64 119] 3)) fun e w' => e = .returned (.tuple #[.agg #[.int .i64 0, .int .i64 6, .int .i64 2, .int .i64 21, .int .i64 0], .int .i64 1]) ∧ Below (w.alloc (.cells #[.int .i64 50, .int .i64 100, .int .i64 51, .int .i64 119] 3)).heap.size (w.alloc (.cells #[.int .i64 50, .int .i64 100, .int .i64 51, .int .i64 119] 3)) w') := Lib.hid hfed
  have HB1 := Lib.hid hb1
  clear hb1 hn1 hi hfed
  go_enter Try.func15, Try.ntmps15
  go_wp2_with fail
  refine HFD.out.mono ?_
  rintro e w2 ⟨rfl, hb2⟩
  have HB2 := Lib.hid (bt HB1.out hb2)
  clear hb2
  go_upto_region 2 with (fail)
  have hb3 := below_new2 w2 (.cells #[.int .i64 0, .int .i64 6, .int .i64 2, .int .i64 21, .int .i64 0] 44)
  have HB3 := Lib.hid (bt HB2.out hb3)
  have HK3 := Lib.hid (one_new w2 (.cells #[.int .i64 0, .int .i64 6, .int .i64 2, .int .i64 21, .int .i64 0] 44))
  clear hb3
  generalize w2.alloc (.cells #[.int .i64 0, .int .i64 6, .int .i64 2, .int .i64 21, .int .i64 0] 44) = w3 at HB3 HK3 ⊢
  generalize w2.heap.size = cb at HK3 ⊢
  have hsp := spell_c 0 ⟨97, 6, 2, 21, 0⟩ w3 (inKey_small (by decide) (by decide)) (inKey_small (by decide) (by decide))
  rw [alive_spell] at hsp
  have HSP : Hid (Calls Try.prog 16 #[.int .i64 0, .agg #[.int .i64 97, .int .i64 6, .int .i64 2, .int .i64 21, .int .i64 0]] w3 (SpellIs w3 (some [34, 97, 54, 100, 119]))) := Lib.hid hsp
  clear hsp
  go_wp2_with fail
  refine HSP.out.mono ?_
  rintro e w4 ⟨v, rfl, ⟨g, k, rfl, hq, _, _⟩, hb4⟩
  have HB4 := Lib.hid (HB3.out.trans (hb4.mono HB3.out.size))
  have HK4 := Lib.hid ((hb4.block cb (heap_lt HK3.out)).trans HK3.out)
  have m0 : w4.cell? ⟨cb, 0, none⟩ = some (.int .i64 0) := block_cell HK4.out
  have m1 : w4.cell? ⟨cb, 1, none⟩ = some (.int .i64 6) := block_cell HK4.out
  have m2 : w4.cell? ⟨cb, 2, none⟩ = some (.int .i64 2) := block_cell HK4.out
  have m3 : w4.cell? ⟨cb, 3, none⟩ = some (.int .i64 21) := block_cell HK4.out
  have m4 : w4.cell? ⟨cb, 4, none⟩ = some (.int .i64 0) := block_cell HK4.out
  have hb5 := below_new2 w4 (.cells #[.int .i64 34, .int .i64 97, .int .i64 54, .int .i64 100, .int .i64 119] 3)
  have hn5 := one_new w4 (.cells #[.int .i64 34, .int .i64 97, .int .i64 54, .int .i64 100, .int .i64 119] 3)
  have hi5 : IsInts (w4.alloc (.cells #[.int .i64 34, .int .i64 97, .int .i64 54, .int .i64 100, .int .i64 119] 3)) (some ⟨w4.heap.size, 0, none⟩) 5 (gl [34, 97, 54, 100, 119]) := by
    refine .inr ⟨w4.heap.size, 0, rfl, by simp, fun i hi => ?_⟩
    rw [Nat.zero_add, block_cell hn5]
    match i, hi with
    | 0, _ => rfl
    | 1, _ => rfl
    | 2, _ => rfl
    | 3, _ => rfl
    | 4, _ => rfl
  have hsame := same_any (some ⟨g, 0, none⟩) (some ⟨w4.heap.size, 0, none⟩) 5 k 5 5 (gl [34, 97, 54, 100, 119]) (gl [34, 97, 54, 100, 119]) _ (by decide) (by decide) ((qok_list hq).later hb5) hi5
  rw [sameB_refl] at hsame
  have HS := Lib.hid hsame
  have HB5 := Lib.hid (bt HB4.out hb5)
  clear hb4 hq hb5 hn5 hi5 hsame
  go_wp2_with fail
  refine HS.out.mono ?_
  rintro e w6 ⟨rfl, hb6⟩
  have HB6 := Lib.hid (bt HB5.out hb6)
  clear hb6
  go_wp2
  go_ret
  exact ⟨rfl, HB6.out⟩
end Go.Proofs.Ytampjndfhpjheaa
