/- Plain: the three codes of the reader. No program. Contracts: Pending; parsers with the blocks that are their own; fed; alive. Condition: fewer than 2^31 keys. Contract: alive. No condition. Contracts: the document's lists of rows: normal, selected (printed by gen_eb.py). No condition. Contracts of the document's side: both, tails. Condition: lists of fewer than 1000 rows. -/
import Derived.Test.YtampjndfhpjheaaQAn
import Derived.Test.YtampjndfhpjheaaQBi
import Derived.Test.YtampjndfhpjheaaQBj
import Derived.Test.YtampjndfhpjheaaQAx
import Derived.Test.YtampjndfhpjheaaQAa
import Derived.Test.YtampjndfhpjheaaQBb
import Derived.Test.YtampjndfhpjheaaQBh
import Derived.Test.YtampjndfhpjheaaQBc
import Derived.Test.YtampjndfhpjheaaQBd
namespace Go.Proofs.Ytampjndfhpjheaa
open Go.RowKit
set_option linter.unusedVariables false
theorem pending_c (B : Nat) (ow : Nat → Nat) (pb tb : Nat) (p : Par) (w : World) (hp : ParN w B ow pb tb p) (hl : p.pend.length < 1073741824) :
  Calls Try.prog 28 #[.pointer (some ⟨pb, 0, none⟩)] w fun e w' => ∃ s c, e = .returned (.slice s p.pend.length c) ∧ OwnInts w' w.heap.size (.slice s p.pend.length c) p.pend ∧ Below w.heap.size w w' := by
 obtain ⟨_, _, _, s, c, h4, h5, _⟩ := hp
 have c1 : w.cell? ⟨pb, 1, none⟩ = some (.slice s p.pend.length c) := block_cell h4
 have HC := Lib.hid (clone_c s p.pend.length c p.pend w rfl hl h5.is (own_nil h5))
 clear h4 h5
 go_enter Try.func28, Try.ntmps28
 go_wp2_with fail
 refine HC.out.mono ?_
 rintro e w2 ⟨s', c', rfl, ho, hb⟩
 have HO := Lib.hid ho
 have HB := Lib.hid hb
 clear ho hb
 go_wp2
 go_ret
 exact ⟨s', c', rfl, HO.out, HB.out⟩
def ParF (w : World) (F R : Nat → Prop) (pb : Nat) (p : Par) : Prop := ∃ ow tb, ParN w 0 ow pb tb p ∧ F pb ∧ PendO w pb F ∧ (∀ b, ow b ≠ 0 → R b) ∧ ∀ b, F b → b < w.heap.size
theorem ParN.zero {w : World} {B : Nat} {ow : Nat → Nat} {pb tb : Nat} {p : Par} (h : ParN w B ow pb tb p) : ParN w 0 ow pb tb p := by
 obtain ⟨h1, h2, h3, s, c, h4, h5, h6⟩ := h
 exact ⟨h1, h2, Nat.zero_le _, s, c, h4, h5.mono (Nat.zero_le _), h6⟩
theorem newp_c (w : World) : Calls Try.prog 23 #[] w fun e w' => ∃ pb, e = .returned (.pointer (some ⟨pb, 0, none⟩)) ∧ ParF w' (fun b => b = pb) (fun b => w.heap.size ≤ b ∧ b < w'.heap.size ∧ b ≠ pb) pb par0 ∧ w.heap.size ≤ pb ∧ pb < w'.heap.size ∧ Below w.heap.size w w' := by
 refine (new_c w).mono ?_
 rintro e w' ⟨pb, tb, ow, rfl, h1, h2, h3, h4, h5, h6, h7⟩
 have hl := heap_lt h2
 exact ⟨pb, rfl, ⟨ow, tb, ⟨h3, h4, Nat.zero_le _, none, 0, h2, OwnInts.nil _ _, fun b hb => by cases hb⟩, rfl, pend_of h2 (fun b hb => by cases hb), fun b hb => ⟨Nat.le_of_not_lt fun h => hb (h6 b h), Nat.lt_of_not_le fun h => hb (h7 b h), fun e => hb (by rw [e]; exact h4)⟩, fun b hb => by rw [show b = pb from hb]; exact hl⟩, h1, hl, h5⟩
theorem ParF.kept {w w' : World} {F R O : Nat → Prop} {pb : Nat} {p : Par} (h : ParF w F R pb p) (ht : Touch O w w') (hF : ∀ b, F b → ¬ O b) (hR : ∀ b, R b → ¬ O b) : ParF w' F R pb p := by
 obtain ⟨ow, tb, hp, hf, hpo, hr, hl⟩ := h
 obtain ⟨h1, h2, h3, s, c, h4, h5, h6⟩ := hp
 have e4 := (ht.block pb (heap_lt h4) (hF pb hf))
 have c1 : w.cell? ⟨pb, 1, none⟩ = some (.slice s p.pend.length c) := block_cell h4
 refine ⟨ow, tb, ⟨h1.kept (fun b hb hne => ⟨ht.block b hb (hR b (hr b hne)), rfl⟩) ht.size, h2, h3, s, c, e4.trans h4, h5.kept (fun b hb he => ht.block b hb (hF b (hpo s _ c c1 b he))), h6⟩, hf, hpo.same e4, hr, fun b hb => Nat.lt_of_lt_of_le (hl b hb) ht.size⟩
theorem ParF.later {w w' : World} {F R : Nat → Prop} {pb : Nat} {p : Par} (h : ParF w F R pb p) (hb : Below w.heap.size w w') : ParF w' F R pb p := h.kept (O := fun _ => False) (Touch.of hb) (fun _ _ e => e) (fun _ _ e => e)
def FG (F : Nat → Prop) (w w' : World) (b : Nat) : Prop := F b ∨ (w.heap.size ≤ b ∧ b < w'.heap.size)
theorem feed_f (F R : Nat → Prop) (pb : Nat) (p : Par) (mode key : Int) (w : World) (hp : ParF w F R pb p) (hk : ∀ x ∈ p.pend, inKey x) (hkey : inKey key) (hl : p.pend.length < 4294967295) :
  Calls Try.prog 26 #[.pointer (some ⟨pb, 0, none⟩), .int .i64 mode, .int .i64 key] w fun e w' => e = .returned (.tuple #[.agg (feedP p mode key).2.1.cells, .int .i64 ((feedP p mode key).2.2 : Nat)]) ∧ ParF w' (FG F w w') R pb (feedP p mode key).1 ∧ Touch F w w' := by
 obtain ⟨ow, tb, h1, hf, hpo, hr, hlt⟩ := hp
 refine (feed_c 0 (fun b => F b ∨ w.heap.size ≤ b) ow pb tb p mode key w h1 (Nat.zero_le _) hk hkey hl (fun b hb => .inr hb) (.inl hf) (fun s n c hc b hb => .inl (hpo s n c hc b hb))).mono ?_
 rintro e w' ⟨rfl, ⟨ow', hp', how⟩, hpo', ht⟩
 refine ⟨rfl, ⟨ow', tb, hp', .inl hf, fun s n c hc b hb => ?_, fun b hb => hr b (how b hb), fun b hb => ?_⟩, ht.wide (fun b hb hO => hO.elim id (fun h => by omega))⟩
 ·
  obtain ⟨_, _, _, s', c', h4, h5, _⟩ := hp'
  have c1 : w'.cell? ⟨pb, 1, none⟩ = some (.slice s' (feedP p mode key).1.pend.length c') := block_cell h4
  have h7 := hpo' s n c hc b hb
  have h8 : (Value.slice s n c) = .slice s' (feedP p mode key).1.pend.length c' := by
   rw [c1] at hc
   injection hc with hc
   exact hc.symm
  rw [h8] at hb
  have h9 := (h5.lt b hb).2
  rcases h7 with h7 | h7
  · exact .inl h7
  · exact .inr ⟨h7, h9⟩
 ·
  rcases hb with hb | hb
  · exact Nat.lt_of_lt_of_le (hlt b hb) ht.size
  · exact hb.2
theorem reset_f (F R : Nat → Prop) (pb : Nat) (p : Par) (w : World) (hp : ParF w F R pb p) :
  Calls Try.prog 29 #[.pointer (some ⟨pb, 0, none⟩)] w fun e w' => e = .returned (.tuple #[]) ∧ ParF w' F R pb ⟨[], p.sel⟩ ∧ Touch F w w' := by
 obtain ⟨ow, tb, ⟨h1, h2, h3, s, c, h4, h5, h6⟩, hf, hpo, hr, hlt⟩ := hp
 refine (reset_c pb tb s _ c p.sel w h4).mono ?_
 rintro e w' ⟨rfl, rfl⟩
 have t1 := Touch.setCell (fun b => b = pb) w (p := ⟨pb, 1, none⟩) rfl (.slice none 0 0)
 have k4 : (w.setCell ⟨pb, 1, none⟩ (.slice none 0 0)).heap[pb]? = some (.cells #[.pointer (some ⟨tb, 0, none⟩), .slice none 0 0, .bool p.sel] 108 (0, 0)) := by rw [block_set _ h4]; rfl
 exact ⟨rfl, ⟨ow, tb, par_nil (h1.touch t1 h2) h2 h3 k4, hf, pend_of k4 (fun b hb => by cases hb), hr, fun b hb => Nat.lt_of_lt_of_le (hlt b hb) t1.size⟩, t1.wide (fun b _ e => by rw [show b = pb from e]; exact hf)⟩
theorem pp_len (p : Par) (mode : Int) : (pp p mode).length ≤ p.pend.length := by
 unfold pp
 split
 · exact Nat.le_refl _
 · exact Nat.zero_le _
theorem pp_mem {p : Par} {mode y : Int} (h : y ∈ pp p mode) : y ∈ p.pend := by
 unfold pp at h
 split at h
 · exact h
 · cases h
theorem feed_pend {p : Par} {mode x : Int} (h : ∀ y ∈ p.pend, inKey y) (hx : inKey x) : ∀ y ∈ (feedP p mode x).1.pend, inKey y := by
 by_cases h27 : x = 27
 ·
  subst h27
  rw [feed_27]
  intro y hy; cases hy
 ·
  rw [feed_pp h27]
  intro y hy
  simp only at hy
  split at hy
  ·
   rcases List.mem_append.1 hy with hy | hy
   · exact h y (pp_mem hy)
   · rw [List.mem_singleton] at hy; rw [hy]; exact hx
  · cases hy
theorem feed_plen {p : Par} {mode x : Int} : (feedP p mode x).1.pend.length ≤ p.pend.length + 1 := by
 by_cases h27 : x = 27
 ·
  subst h27
  rw [feed_27]
  exact Nat.zero_le _
 ·
  rw [feed_pp h27]
  have := pp_len p mode
  simp only
  split
  · simp; omega
  · exact Nat.zero_le _
theorem peq_nil (a : Addr) (w : World) : (binOp .eql 59 (.pointer (some a)) (.pointer none)).run Try.prog w = .ok (.bool false) w := by kernel_rfl
set_option maxRecDepth 100000 in
set_option maxHeartbeats 8000000 in
theorem fed_w (mode : Int) (s : Option Addr) (n cap : Nat) (l : List Int) (w : World) (hl : l.length = n) (hn : n < 1073741824) (hr : IsInts w s n (gl l)) (hk : ∀ x ∈ l, inKey x) :
  Calls Try.prog 14 #[.int .i64 mode, .slice s n cap] w fun e w' => e = .returned (.tuple #[.agg (fedP mode l).1.cells, .int .i64 (fedP mode l).2]) ∧ Below w.heap.size w w' := by
 have hbn := below_new2 w (.cells #[.int .i64 0, .int .i64 0, .int .i64 0, .int .i64 0, .int .i64 0] 44)
 have h4 := one_new w (.cells #[.int .i64 0, .int .i64 0, .int .i64 0, .int .i64 0, .int .i64 0] 44)
 have HB1 := Lib.hid hbn
 have H4 := Lib.hid h4
 have HR := Lib.hid hr
 have HK := Lib.hid hk
 have HL := Lib.hid hl
 have hsz : (w.alloc (.cells #[.int .i64 0, .int .i64 0, .int .i64 0, .int .i64 0, .int .i64 0] 44)).heap.size = w.heap.size + 1 := by simp
 have hsz1 : w.heap.size < (w.alloc (.cells #[.int .i64 0, .int .i64 0, .int .i64 0, .int .i64 0, .int .i64 0] 44)).heap.size := by omega
 clear hbn h4 hr hk hl hsz
 go_enter Try.func14, Try.ntmps14
 go_upto_region 1 with (fail)
 generalize w.alloc (.cells #[.int .i64 0, .int .i64 0, .int .i64 0, .int .i64 0, .int .i64 0] 44) = w1 at HB1 H4 hsz1 ⊢
 go_wp2_with fail
 refine (newp_c w1).mono ?_
 rintro e w2 ⟨pb, rfl, hp, hpl, hpl2, hb2⟩
 have hq := peq_nil ⟨pb, 0, none⟩ w2
 have HP := Lib.hid (hp.later (below_new2 w2 (.cells #[.int .i64 0, .int .i64 0, .int .i64 0, .int .i64 0, .int .i64 0] 44)))
 have HB2 := Lib.hid (HB1.out.trans ((hb2.trans ((below_new2 w2 (.cells #[.int .i64 0, .int .i64 0, .int .i64 0, .int .i64 0, .int .i64 0] 44)).mono hb2.size)).mono HB1.out.size))
 have HC := Lib.hid (one_new w2 (.cells #[.int .i64 0, .int .i64 0, .int .i64 0, .int .i64 0, .int .i64 0] 44))
 have H42 := Lib.hid (((below_new2 w2 (.cells #[.int .i64 0, .int .i64 0, .int .i64 0, .int .i64 0, .int .i64 0] 44)).block _ (Nat.lt_of_lt_of_le (heap_lt H4.out) hb2.size)).trans ((hb2.block _ (heap_lt H4.out)).trans H4.out))
 have hs2 := hb2.size
 have hsz3 : (w2.alloc (.cells #[.int .i64 0, .int .i64 0, .int .i64 0, .int .i64 0, .int .i64 0] 44)).heap.size = w2.heap.size + 1 := by simp
 have hs3 : w2.heap.size < (w2.alloc (.cells #[.int .i64 0, .int .i64 0, .int .i64 0, .int .i64 0, .int .i64 0] 44)).heap.size := by omega
 clear hp hb2 HB1 H4 hsz3
 generalize hw1s : w1.heap.size = n1 at *
 clear hw1s
 go_upto_region 5 with (fail)
 generalize w2.alloc (.cells #[.int .i64 0, .int .i64 0, .int .i64 0, .int .i64 0, .int .i64 0] 44) = w3 at HP HB2 HC H42 hs3 ⊢
 clear hq
 generalize hn2 : w2.heap.size = cb at *
 clear hn2
 go_wp2_with fail
 go_loopg [8, 9] n (fun gg sv iv wr => ∃ (i : Nat) (p : Par) (cmd : Cmd) (say : Int) (F : Nat → Prop), i + gg = n ∧ iv = .int .i64 i ∧ sv = .int .i64 say ∧ ParF wr F (fun b => n1 ≤ b ∧ b < cb ∧ b ≠ pb) pb p ∧ (∀ b, F b → b = pb ∨ cb < b) ∧ wr.heap[cb]? = some (.cells cmd.cells 44 (0, 0)) ∧ wr.heap[w.heap.size]? = some (.cells #[.int .i64 0, .int .i64 0, .int .i64 0, .int .i64 0, .int .i64 0] 44 (0, 0)) ∧ Below w.heap.size w wr ∧ fedL mode p (l.drop i) (cmd, say) = fedP mode l ∧ (∀ x ∈ p.pend, inKey x) ∧ p.pend.length ≤ i)
 case atStart => exact ⟨0, par0, cmd0, -1, _, by omega, rfl, rfl, HP.out, fun b hb => .inl hb, HC.out, H42.out, HB2.out, rfl, (fun x hx => by cases hx), Nat.zero_le _⟩
 case round =>
  obtain ⟨i, p, cmd, say, F, hgi, rfl, rfl, hp, hF, hc, h4, hb, hfe, hpk, hpl3⟩ := hrel
  clear HP HC H42 HB2
  have hFlow : ∀ b, F b → w.heap.size ≤ b := fun b hb => by rcases hF b hb with h | h <;> omega
  have hFcb : ¬ F cb := fun h => by rcases hF cb h with h | h <;> omega
  have hF4 : ¬ F w.heap.size := fun h => by rcases hF _ h with h | h <;> omega
  have HFI := Lib.hid hF
  have HFL := Lib.hid hFlow
  have HFC := Lib.hid hFcb
  have HF4 := Lib.hid hF4
  have HP := Lib.hid hp
  have HC := Lib.hid hc
  have H4 := Lib.hid h4
  have HB := Lib.hid hb
  have HFE := Lib.hid hfe
  have HPK := Lib.hid hpk
  have hcbl := heap_lt hc
  clear hp hF hc h4 hb hfe hpk hFlow hFcb hF4
  by_cases hlt : i < n
  ·
   have hsb : ∀ a, s = some a → a.block < w.heap.size := fun a e => by
    rcases HR.out with h0 | ⟨b0, o0, e0, hb0, _⟩
    · omega
    · rw [e0] at e; cases e; exact hb0
   obtain ⟨b, off, rfl, hcell⟩ := (ints_base HR.out HB.out hsb).at (Below.refl _ _) hlt
   clear hsb
   have hd := glS_drop (l := l) (k := i) (by rw [HL.out]; exact hlt)
   have hxm : gl l i ∈ l := by
    unfold gl
    rw [List.getD_eq_getElem?_getD, List.getElem?_eq_getElem (by rw [HL.out]; exact hlt)]
    exact List.getElem_mem _
   have hkx := HK.out _ hxm
   generalize gl l i = x at hcell hd hkx
   have HD := Lib.hid hd
   have HKX := Lib.hid hkx
   have q1 : (i : Int) < (n : Int) := by omega
   have hw1 : wrap64 ((n : Int) - 1) = (n : Int) - 1 := by unfold wrap64; omega
   clear hd hkx hxm
   have hfd := feed_f F (fun b => n1 ≤ b ∧ b < cb ∧ b ≠ pb) pb p mode x wr HP.out HPK.out HKX.out (by omega)
   have hpk5 := feed_pend (mode := mode) HPK.out HKX.out
   have hpl5 : (feedP p mode x).1.pend.length ≤ i + 1 := by have := feed_plen (p := p) (mode := mode) (x := x); omega
   have hfe5 : fedL mode p (x :: l.drop (i + 1)) (cmd, say) = fedP mode l := by rw [← HD.out]; exact HFE.out
   simp only [fedL] at hfe5
   generalize feedP p mode x = rr at hfd hpk5 hpl5 hfe5
   obtain ⟨p5, ⟨b1, b2, b3, b4, b5⟩, code⟩ := rr
   simp only at hpk5 hpl5 hfe5
   have HFD : Hid (Calls Try.prog 26 #[.pointer (some ⟨pb, 0, none⟩), .int .i64 mode, .int .i64 x] wr fun e w' => e = .returned (.tuple #[.agg #[.int .i64 b1, .int .i64 b2, .int .i64 b3, .int .i64 b4, .int .i64 b5], .int .i64 (code : Nat)]) ∧ ParF w' (FG F wr w') (fun b => n1 ≤ b ∧ b < cb ∧ b ≠ pb) pb p5 ∧ Touch F wr w') := Lib.hid hfd
   have HFE5 := Lib.hid hfe5
   have HPK5 := Lib.hid hpk5
   clear hfd hfe5 hpk5
   go_wp2_with fail
   refine HFD.out.mono ?_
   rintro e w5 ⟨rfl, hp5, ht5⟩
   have hc5 := (ht5.block cb hcbl HFC.out).trans HC.out
   have h45 := (ht5.block _ (heap_lt H4.out) HF4.out).trans H4.out
   have hb5 := HB.out.trans (ht5.below HFL.out HB.out.size)
   have hF5 : ∀ b, FG F wr w5 b → b = pb ∨ cb < b := fun b hb => by
    rcases hb with hb | hb
    · exact HFI.out b hb
    · exact .inr (by omega)
   have hpln : ¬ FG F wr w5 cb := fun h => by rcases hF5 cb h with h | h <;> omega
   have ts := set5_touch w5 cb ⟨b1, b2, b3, b4, b5⟩
   have hp6 := hp5.kept ts (fun b hb e => hpln (by rw [← show b = cb from e]; exact hb)) (fun b hb e => by have : b = cb := e; omega)
   have hc6 : (set5 w5 cb ⟨b1, b2, b3, b4, b5⟩).heap[cb]? = some (.cells (⟨b1, b2, b3, b4, b5⟩ : Cmd).cells 44 (0, 0)) := by
    unfold set5
    rw [block_set _ (block_set _ (block_set _ (block_set _ (block_set _ hc5))))]
    rfl
   have h46 := (ts.block w.heap.size (heap_lt h45) (by omega)).trans h45
   have hb6 := hb5.trans (ts.below (B := w.heap.size) (fun b hb => by rw [show b = cb from hb]; omega) hb5.size)
   have m0 : w5.cell? ⟨cb, 0, none⟩ = some (.int .i64 cmd.reg) := block_cell hc5
   have m1 : w5.cell? ⟨cb, 1, none⟩ = some (.int .i64 cmd.count) := block_cell hc5
   have m2 : w5.cell? ⟨cb, 2, none⟩ = some (.int .i64 cmd.verb) := block_cell hc5
   have m3 : w5.cell? ⟨cb, 3, none⟩ = some (.int .i64 cmd.move) := block_cell hc5
   have m4 : w5.cell? ⟨cb, 4, none⟩ = some (.int .i64 cmd.arg) := block_cell hc5
   have fz0 : w5.frozen? ⟨cb, 0, none⟩ = false := block_free hc5
   have fz1 : w5.frozen? ⟨cb, 1, none⟩ = false := block_free hc5
   have fz2 : w5.frozen? ⟨cb, 2, none⟩ = false := block_free hc5
   have fz3 : w5.frozen? ⟨cb, 3, none⟩ = false := block_free hc5
   have fz4 : w5.frozen? ⟨cb, 4, none⟩ = false := block_free hc5
   have HP6 : Hid (ParF (((((w5.setCell ⟨cb, 0, none⟩ (.int .i64 b1)).setCell ⟨cb, 1, none⟩ (.int .i64 b2)).setCell ⟨cb, 2, none⟩ (.int .i64 b3)).setCell ⟨cb, 3, none⟩ (.int .i64 b4)).setCell ⟨cb, 4, none⟩ (.int .i64 b5)) (FG F wr w5) (fun b => n1 ≤ b ∧ b < cb ∧ b ≠ pb) pb p5) := Lib.hid hp6
   have HF5 := Lib.hid hF5
   have HC6 : Hid ((((((w5.setCell ⟨cb, 0, none⟩ (.int .i64 b1)).setCell ⟨cb, 1, none⟩ (.int .i64 b2)).setCell ⟨cb, 2, none⟩ (.int .i64 b3)).setCell ⟨cb, 3, none⟩ (.int .i64 b4)).setCell ⟨cb, 4, none⟩ (.int .i64 b5)).heap[cb]? = some (.cells (⟨b1, b2, b3, b4, b5⟩ : Cmd).cells 44 (0, 0))) := Lib.hid hc6
   have H46 : Hid ((((((w5.setCell ⟨cb, 0, none⟩ (.int .i64 b1)).setCell ⟨cb, 1, none⟩ (.int .i64 b2)).setCell ⟨cb, 2, none⟩ (.int .i64 b3)).setCell ⟨cb, 3, none⟩ (.int .i64 b4)).setCell ⟨cb, 4, none⟩ (.int .i64 b5)).heap[w.heap.size]? = some (.cells #[.int .i64 0, .int .i64 0, .int .i64 0, .int .i64 0, .int .i64 0] 44 (0, 0))) := Lib.hid h46
   have HB6 : Hid (Below w.heap.size w (((((w5.setCell ⟨cb, 0, none⟩ (.int .i64 b1)).setCell ⟨cb, 1, none⟩ (.int .i64 b2)).setCell ⟨cb, 2, none⟩ (.int .i64 b3)).setCell ⟨cb, 3, none⟩ (.int .i64 b4)).setCell ⟨cb, 4, none⟩ (.int .i64 b5))) := Lib.hid hb6
   clear hp5 hc5 h45 hb5 hF5 hpln ts hp6 hc6 h46 hb6 ht5 hcell
   go_upto_region 10 with (fail)
   generalize (((((w5.setCell ⟨cb, 0, none⟩ (.int .i64 b1)).setCell ⟨cb, 1, none⟩ (.int .i64 b2)).setCell ⟨cb, 2, none⟩ (.int .i64 b3)).setCell ⟨cb, 3, none⟩ (.int .i64 b4)).setCell ⟨cb, 4, none⟩ (.int .i64 b5)) = w6 at HP6 HC6 H46 HB6 ⊢
   clear m0 m1 m2 m3 m4 fz0 fz1 fz2 fz3 fz4
   have hdl : (l.drop (i + 1)).length = n - (i + 1) := by rw [List.length_drop, HL.out]
   by_cases hc0 : code = 0
   ·
    subst hc0
    have hk0 : (((0 : Nat) : Int) != 0) = false := rfl
    have hf6 := HFE5.out
    rw [if_neg (fun e => e.1 rfl)] at hf6
    have HF6 := Lib.hid hf6
    clear hf6 hdl
    go_wp2
    go_roundg (gk - 1)
    case measure => omega
    case rel => exact ⟨i + 1, p5, ⟨b1, b2, b3, b4, b5⟩, _, _, by omega, by go_num, rfl, HP6.out, HF5.out, HC6.out, H46.out, HB6.out, HF6.out, HPK5.out, hpl5⟩
   ·
    have hk0 : ((code : Int) != 0) = true := by rw [bne_iff_ne]; omega
    by_cases hi1 : i + 1 < n
    ·
     have q2 : (i : Int) < (n : Int) - 1 := by omega
     have hne : l.drop (i + 1) ≠ [] := fun e => by rw [e] at hdl; simp at hdl; omega
     have hf6 := HFE5.out
     rw [if_pos ⟨hc0, hne⟩] at hf6
     have HF6 := Lib.hid hf6
     clear hf6 hdl hne hc0
     have e0 : w6.cell? ⟨w.heap.size, 0, none⟩ = some (.int .i64 0) := block_cell H46.out
     have ef0 : w6.frozen? ⟨w.heap.size, 0, none⟩ = false := block_free H46.out
     have e1 : w6.cell? ⟨w.heap.size, 1, none⟩ = some (.int .i64 0) := block_cell H46.out
     have ef1 : w6.frozen? ⟨w.heap.size, 1, none⟩ = false := block_free H46.out
     have e2 : w6.cell? ⟨w.heap.size, 2, none⟩ = some (.int .i64 0) := block_cell H46.out
     have ef2 : w6.frozen? ⟨w.heap.size, 2, none⟩ = false := block_free H46.out
     have e3 : w6.cell? ⟨w.heap.size, 3, none⟩ = some (.int .i64 0) := block_cell H46.out
     have ef3 : w6.frozen? ⟨w.heap.size, 3, none⟩ = false := block_free H46.out
     have e4 : w6.cell? ⟨w.heap.size, 4, none⟩ = some (.int .i64 0) := block_cell H46.out
     have ef4 : w6.frozen? ⟨w.heap.size, 4, none⟩ = false := block_free H46.out
     go_wp2
     refine bodyPost_ret (v := .tuple #[.agg #[.int .i64 0, .int .i64 0, .int .i64 0, .int .i64 0, .int .i64 0], .int .i64 (-1)]) (by simp [results, Try.results14, go_sem, e0, e1, e2, e3, e4]) rfl ⟨by rw [← HF6.out]; rfl, set5_below HB6.out cmd0⟩
    ·
     have q2 : ¬ ((i : Int) < (n : Int) - 1) := by omega
     have hne : l.drop (i + 1) = [] := List.length_eq_zero_iff.1 (by omega)
     have hf6 := HFE5.out
     rw [if_neg (fun e => e.2 hne)] at hf6
     have HF6 := Lib.hid hf6
     clear hf6 hdl hne hc0
     go_wp2
     go_roundg (gk - 1)
     case measure => omega
     case rel => exact ⟨i + 1, p5, ⟨b1, b2, b3, b4, b5⟩, _, _, by omega, by go_num, rfl, HP6.out, HF5.out, HC6.out, H46.out, HB6.out, HF6.out, HPK5.out, hpl5⟩
  ·
   have hne : l.drop i = [] := List.drop_eq_nil_of_le (by rw [HL.out]; omega)
   have hf6 := HFE.out
   rw [hne] at hf6
   have hf7 : (cmd, say) = fedP mode l := hf6
   have HF6 := Lib.hid hf7
   obtain ⟨b1, b2, b3, b4, b5⟩ := cmd
   clear hne hf6 hf7
   have e0 : wr.cell? ⟨w.heap.size, 0, none⟩ = some (.int .i64 0) := block_cell H4.out
   have ef0 : wr.frozen? ⟨w.heap.size, 0, none⟩ = false := block_free H4.out
   have e1 : wr.cell? ⟨w.heap.size, 1, none⟩ = some (.int .i64 0) := block_cell H4.out
   have ef1 : wr.frozen? ⟨w.heap.size, 1, none⟩ = false := block_free H4.out
   have e2 : wr.cell? ⟨w.heap.size, 2, none⟩ = some (.int .i64 0) := block_cell H4.out
   have ef2 : wr.frozen? ⟨w.heap.size, 2, none⟩ = false := block_free H4.out
   have e3 : wr.cell? ⟨w.heap.size, 3, none⟩ = some (.int .i64 0) := block_cell H4.out
   have ef3 : wr.frozen? ⟨w.heap.size, 3, none⟩ = false := block_free H4.out
   have e4 : wr.cell? ⟨w.heap.size, 4, none⟩ = some (.int .i64 0) := block_cell H4.out
   have ef4 : wr.frozen? ⟨w.heap.size, 4, none⟩ = false := block_free H4.out
   have n0 : wr.cell? ⟨cb, 0, none⟩ = some (.int .i64 b1) := block_cell HC.out
   have n1 : wr.cell? ⟨cb, 1, none⟩ = some (.int .i64 b2) := block_cell HC.out
   have n2 : wr.cell? ⟨cb, 2, none⟩ = some (.int .i64 b3) := block_cell HC.out
   have n3 : wr.cell? ⟨cb, 3, none⟩ = some (.int .i64 b4) := block_cell HC.out
   have n4 : wr.cell? ⟨cb, 4, none⟩ = some (.int .i64 b5) := block_cell HC.out
   go_wp2
   refine bodyPost_ret (v := .tuple #[.agg #[.int .i64 b1, .int .i64 b2, .int .i64 b3, .int .i64 b4, .int .i64 b5], .int .i64 say]) (by simp [results, Try.results14, go_sem, e0, e1, e2, e3, e4]) rfl ⟨by rw [← HF6.out]; rfl, set5_below HB.out ⟨b1, b2, b3, b4, b5⟩⟩
open Go.RowKit
theorem fed_c (mode : Int) (s : Option Addr) (n cap : Nat) (l : List Int) (w : World) (hl : l.length = n) (hn : n < 1073741824) (hr : IsInts w s n (gl l)) (hs : ∀ a, s = some a → a.block < w.heap.size) (hk : ∀ x ∈ l, inKey x) :
  Calls Try.prog 14 #[.int .i64 mode, .slice s n cap] w fun e w' => e = .returned (.tuple #[.agg (fedP mode l).1.cells, .int .i64 (fedP mode l).2]) ∧ Below w.heap.size w w' :=
 fed_w mode s n cap l w hl hn hr hk
set_option linter.unusedVariables false
theorem inKeys_small {l : List Int} (h : (l.all fun x => decide (0 ≤ x) && decide (x < 1000)) = true) : ∀ x ∈ l, inKey x := by
 intro x hx
 have h1 := List.all_eq_true.1 h x hx
 simp only [Bool.and_eq_true, decide_eq_true_eq] at h1
 exact inKey_small h1.1 h1.2
theorem alive_fed : fedP 0 [50, 100, 51, 119] = (⟨0, 6, 2, 21, 0⟩, 1) := by decide +kernel
theorem alive_spell : spellP (selP 0) ⟨97, 6, 2, 21, 0⟩ = some [34, 97, 54, 100, 119] := by decide +kernel
set_option maxRecDepth 100000 in
set_option maxHeartbeats 4000000 in
theorem alive_c (w : World) : Calls Try.prog 15 #[] w fun e w' => e = .returned (.bool true) ∧ Below w.heap.size w w' := by
 have hb1 := below_new2 w (.cells #[.int .i64 50, .int .i64 100, .int .i64 51, .int .i64 119] 3)
 have hn1 := one_new w (.cells #[.int .i64 50, .int .i64 100, .int .i64 51, .int .i64 119] 3)
 have hi : IsInts (w.alloc (.cells #[.int .i64 50, .int .i64 100, .int .i64 51, .int .i64 119] 3)) (some ⟨w.heap.size, 0, none⟩) 4 (gl [50, 100, 51, 119]) := by
  refine .inr ⟨w.heap.size, 0, rfl, by simp, fun i hi => ?_⟩
  rw [Nat.zero_add, block_cell hn1]
  match i, hi with
  | 0, _ => rfl
  | 1, _ => rfl
  | 2, _ => rfl
  | 3, _ => rfl
 have hfed := fed_c 0 (some ⟨w.heap.size, 0, none⟩) 4 4 [50, 100, 51, 119] _ rfl (by decide) hi (fun a e => by cases e; simp) (inKeys_small (by decide))
 rw [alive_fed] at hfed
 have HFD : Hid (Calls Try.prog 14 #[.int .i64 0, .slice (some ⟨w.heap.size, 0, none⟩) 4 4] (w.alloc (.cells #[.int .i64 50, .int .i64 100, .int .i64 51, .int .i64 119] 3)) fun e w' => e = .returned (.tuple #[.agg #[.int .i64 0, .int .i64 6, .int .i64 2, .int .i64 21, .int .i64 0], .int .i64 1]) ∧ Below (w.alloc (.cells #[.int .i64 50, .int .i64 100, .int .i64 51, .int .i64 119] 3)).heap.size (w.alloc (.cells #[.int .i64 50, .int .i64 100, .int .i64 51, .int .i64 119] 3)) w') := Lib.hid hfed
 have HB1 := Lib.hid hb1
 clear hb1 hn1 hi hfed
 go_enter Try.func15, Try.ntmps15
 go_wp2_with fail
 refine HFD.out.mono ?_
 rintro e w2 ⟨rfl, hb2⟩
 have HB2 := Lib.hid (bt HB1.out hb2)
 clear hb2
 go_upto_region 2 with (fail)
 have hb3 := below_new2 w2 (.cells #[.int .i64 0, .int .i64 6, .int .i64 2, .int .i64 21, .int .i64 0] 44)
 have HB3 := Lib.hid (bt HB2.out hb3)
 have HK3 := Lib.hid (one_new w2 (.cells #[.int .i64 0, .int .i64 6, .int .i64 2, .int .i64 21, .int .i64 0] 44))
 clear hb3
 generalize w2.alloc (.cells #[.int .i64 0, .int .i64 6, .int .i64 2, .int .i64 21, .int .i64 0] 44) = w3 at HB3 HK3 ⊢
 generalize w2.heap.size = cb at HK3 ⊢
 have hsp := spell_c 0 ⟨97, 6, 2, 21, 0⟩ w3 (inKey_small (by decide) (by decide)) (inKey_small (by decide) (by decide))
 rw [alive_spell] at hsp
 have HSP : Hid (Calls Try.prog 16 #[.int .i64 0, .agg #[.int .i64 97, .int .i64 6, .int .i64 2, .int .i64 21, .int .i64 0]] w3 (SpellIs w3 (some [34, 97, 54, 100, 119]))) := Lib.hid hsp
 clear hsp
 go_wp2_with fail
 refine HSP.out.mono ?_
 rintro e w4 ⟨v, rfl, ⟨g, k, rfl, hq, _, _⟩, hb4⟩
 have HB4 := Lib.hid (HB3.out.trans (hb4.mono HB3.out.size))
 have HK4 := Lib.hid ((hb4.block cb (heap_lt HK3.out)).trans HK3.out)
 have m0 : w4.cell? ⟨cb, 0, none⟩ = some (.int .i64 0) := block_cell HK4.out
 have m1 : w4.cell? ⟨cb, 1, none⟩ = some (.int .i64 6) := block_cell HK4.out
 have m2 : w4.cell? ⟨cb, 2, none⟩ = some (.int .i64 2) := block_cell HK4.out
 have m3 : w4.cell? ⟨cb, 3, none⟩ = some (.int .i64 21) := block_cell HK4.out
 have m4 : w4.cell? ⟨cb, 4, none⟩ = some (.int .i64 0) := block_cell HK4.out
 have hb5 := below_new2 w4 (.cells #[.int .i64 34, .int .i64 97, .int .i64 54, .int .i64 100, .int .i64 119] 3)
 have hn5 := one_new w4 (.cells #[.int .i64 34, .int .i64 97, .int .i64 54, .int .i64 100, .int .i64 119] 3)
 have hi5 : IsInts (w4.alloc (.cells #[.int .i64 34, .int .i64 97, .int .i64 54, .int .i64 100, .int .i64 119] 3)) (some ⟨w4.heap.size, 0, none⟩) 5 (gl [34, 97, 54, 100, 119]) := by
  refine .inr ⟨w4.heap.size, 0, rfl, by simp, fun i hi => ?_⟩
  rw [Nat.zero_add, block_cell hn5]
  match i, hi with
  | 0, _ => rfl
  | 1, _ => rfl
  | 2, _ => rfl
  | 3, _ => rfl
  | 4, _ => rfl
 have hsame := same_any (some ⟨g, 0, none⟩) (some ⟨w4.heap.size, 0, none⟩) 5 k 5 5 (gl [34, 97, 54, 100, 119]) (gl [34, 97, 54, 100, 119]) _ (by decide) (by decide) ((qok_list hq).later hb5) hi5
 rw [sameB_refl] at hsame
 have HS := Lib.hid hsame
 have HB5 := Lib.hid (bt HB4.out hb5)
 clear hb4 hq hb5 hn5 hi5 hsame
 go_wp2_with fail
 refine HS.out.mono ?_
 rintro e w6 ⟨rfl, hb6⟩
 have HB6 := Lib.hid (bt HB5.out hb6)
 clear hb6
 go_wp2
 go_ret
 exact ⟨rfl, HB6.out⟩
end Go.Proofs.Ytampjndfhpjheaa
namespace Go.Proofs.Ytampjndfhpjheaa
open Go.RowKit
set_option linter.unusedVariables false
set_option linter.unusedSimpArgs false
set_option maxRecDepth 100000 in
set_option maxHeartbeats 8000000 in
theorem dnor_c (w : World) : Calls Try.prog 53 #[] w (ListIs (eveD ++ norD) w) := by
 go_enter Try.func53, Try.ntmps53
 have HL := Lib.hid (Below.refl w.heap.size w)
 go_wp2_with fail
 refine (deve_c w).mono ?_
 rintro e w1 ⟨s0, c0, L, rfl, hL, hrl, hb⟩
 obtain ⟨n0, hn0⟩ : ∃ n0, n0 = eveD.length := ⟨_, rfl⟩
 have HG : Hid (Grows eveD w.heap.size (.slice s0 n0 c0) w1) := Lib.hid ⟨s0, c0, L, by rw [hn0], hL, by rw [hn0]; exact hrl⟩
 rw [← hn0]
 replace HL := Lib.hid hb
 clear hL hrl hb hn0
 go_upto_region 2 with (fail)
 go_upto_region 3 with (first
  | (refine wpList_buildTo rfl 154 _ rfl _ rfl (strC nor1S) (by kernel_rfl) ?_)
  | (refine wpList_store_rowTo rfl 154 _ _ rfl rfl w1.heap.size (strC nor1S) rfl rfl _ _ (one_new _ _) (by kernel_rfl) (by kernel_rfl) (by kernel_rfl) ?_)
  | fail)
 generalize hw : (w1.alloc _).setRow w1.heap.size (strC nor1S) = y1
 have hA1 : y1.heap[w1.heap.size]? = some (.cells (strC nor1S) 154 (0, 0)) := by rw [← hw]; exact (arr_new _ _ _ _).1
 have hbA1 : Below w1.heap.size w1 y1 := by rw [← hw]; exact (arr_new _ _ _ _).2
 clear hw
 have hlA1 := heap_lt hA1
 replace HG := Lib.hid (HG.out.later hbA1)
 replace HL := Lib.hid (HL.out.trans (hbA1.mono HL.out.size))
 have HA1 := Lib.hid hA1
 clear hA1 hbA1
 go_upto_region 4 with (first
  | (refine wpList_buildTo rfl 155 _ rfl _ rfl (intC nor1V) (by kernel_rfl) ?_)
  | (refine wpList_store_rowTo rfl 155 _ _ rfl rfl y1.heap.size (intC nor1V) rfl rfl _ _ (one_new _ _) (by kernel_rfl) (by kernel_rfl) (by kernel_rfl) ?_)
  | fail)
 generalize hw : (y1.alloc _).setRow y1.heap.size (intC nor1V) = y2
 have hA2 : y2.heap[y1.heap.size]? = some (.cells (intC nor1V) 155 (0, 0)) := by rw [← hw]; exact (arr_new _ _ _ _).1
 have hbA2 : Below y1.heap.size y1 y2 := by rw [← hw]; exact (arr_new _ _ _ _).2
 clear hw
 have hlA2 := heap_lt hA2
 replace HA1 := Lib.hid ((hbA2.block _ (heap_lt HA1.out)).trans HA1.out)
 replace HG := Lib.hid (HG.out.later hbA2)
 replace HL := Lib.hid (HL.out.trans (hbA2.mono HL.out.size))
 have HA2 := Lib.hid hA2
 clear hA2 hbA2
 go_upto_region 5 with (first
  | (refine wpList_buildTo rfl 155 _ rfl _ rfl (intC nor1M) (by kernel_rfl) ?_)
  | (refine wpList_store_rowTo rfl 155 _ _ rfl rfl y2.heap.size (intC nor1M) rfl rfl _ _ (one_new _ _) (by kernel_rfl) (by kernel_rfl) (by kernel_rfl) ?_)
  | fail)
 generalize hw : (y2.alloc _).setRow y2.heap.size (intC nor1M) = y3
 have hA3 : y3.heap[y2.heap.size]? = some (.cells (intC nor1M) 155 (0, 0)) := by rw [← hw]; exact (arr_new _ _ _ _).1
 have hbA3 : Below y2.heap.size y2 y3 := by rw [← hw]; exact (arr_new _ _ _ _).2
 clear hw
 have hlA3 := heap_lt hA3
 replace HA1 := Lib.hid ((hbA3.block _ (heap_lt HA1.out)).trans HA1.out)
 replace HA2 := Lib.hid ((hbA3.block _ (heap_lt HA2.out)).trans HA2.out)
 replace HG := Lib.hid (HG.out.later hbA3)
 replace HL := Lib.hid (HL.out.trans (hbA3.mono HL.out.size))
 have HA3 := Lib.hid hA3
 clear hA3 hbA3
 go_wp2_with fail
 go_loopg [1, 5] 22 (fun gg lv iv wr => ∃ (k n : Nat) (s : Option Addr) (c : Nat), k + gg = 22 ∧ lv = .slice s n c ∧ iv = .int .i64 k ∧ Grows (eveD ++ rowsA false (nor1V.getD · 0) (nor1M.getD · 0) nor1S k) w.heap.size (.slice s n c) wr ∧ wr.heap[w1.heap.size]? = some (.cells (strC nor1S) 154 (0, 0)) ∧ wr.heap[y1.heap.size]? = some (.cells (intC nor1V) 155 (0, 0)) ∧ wr.heap[y2.heap.size]? = some (.cells (intC nor1M) 155 (0, 0)) ∧ Below w.heap.size w wr)
 case atStart => exact ⟨0, _, _, _, rfl, rfl, rfl, by first | exact Grows.nil _ _ | (simpa [rowsA] using HG.out), HA1.out, HA2.out, HA3.out, HL.out⟩
 case round =>
  try clear HG
  clear HL HA1 HA2 HA3
  obtain ⟨k, n, s, c, hk, rfl, rfl, hgr, hA1, hA2, hA3, hbl⟩ := hrel
  by_cases hlt : k < 22
  ·
   skip
   have e0 : k < nor1S.length := hlt
   have c0 := str_at hA1 e0
   have k0 : (strC nor1S)[k]? = some (.string nor1S[k]) := by rw [← block_cell hA1]; exact c0
   have hz : 0 < nor1S[k].size ∧ nor1S[k].size < 1000 := all_size (by decide +kernel) e0
   have e1 : k < nor1V.length := hlt
   have c1 := int_at hA2 e1
   have k1 : (intC nor1V)[k]? = some (.int .i64 nor1V[k]) := by rw [← block_cell hA2]; exact c1
   have e2 : k < nor1M.length := hlt
   have c2 := int_at hA3 e2
   have k2 : (intC nor1M)[k]? = some (.int .i64 nor1M[k]) := by rw [← block_cell hA3]; exact c2
   have hrow : eveD ++ rowsA false (nor1V.getD · 0) (nor1M.getD · 0) nor1S (k + 1) = (eveD ++ rowsA false (nor1V.getD · 0) (nor1M.getD · 0) nor1S k) ++ ([(bs (nor1S[k]'e0), ⟨(nor1V[k]'e1), (nor1M[k]'e2), 0, false, []⟩)] : Rows) := by rw [rowsA_next false (nor1V.getD · 0) (nor1M.getD · 0) nor1S k e0 (a := (nor1V[k]'e1)) (b := (nor1M[k]'e2)) (getD_at e1 0) (getD_at e2 0)]; simp only [List.append_assoc]
   generalize nor1S[k] = st at *
   generalize nor1V[k] = mv1 at *
   generalize nor1M[k] = mv2 at *
   have hd := (Below.refl wr.heap.size wr).drew
   have HG := Lib.hid (hgr.later hd)
   have HA1 := Lib.hid (show wr.drew.heap[w1.heap.size]? = _ from hA1)
   have HA2 := Lib.hid (show wr.drew.heap[y1.heap.size]? = _ from hA2)
   have HA3 := Lib.hid (show wr.drew.heap[y2.heap.size]? = _ from hA3)
   have HL := Lib.hid hbl.drew
   have HR := Lib.hid hrow
   have hlen : (eveD ++ rowsA false (nor1V.getD · 0) (nor1M.getD · 0) nor1S k).length < 1000 := by simp only [List.length_append, rowsA_len, List.length_cons, List.length_nil]; first | omega | (have : eveD.length < 500 := by decide +kernel); omega
   have HLEN := Lib.hid hlen
   clear hd hgr hbl hrow hlen hA1 hA2 hA3
   have q1 : (k : Int) < 22 := by omega
   have q2 : (0 : Int) ≤ (k : Int) := by omega
   go_wp2_with fail
   go_region_held3 (fun w' => w'.cell? ⟨w1.heap.size, k, none⟩ = some (.string st) ∧ w'.cell? ⟨y1.heap.size, k, none⟩ = some (.int .i64 mv1) ∧ w'.cell? ⟨y2.heap.size, k, none⟩ = some (.int .i64 mv2))
    (first | exact ⟨c0, c1, c2⟩ | exact ⟨(block_cell hA17).trans k0, (block_cell hA27).trans k1, (block_cell hA37).trans k2⟩ | exact ⟨(block_cell hA15).trans k0, (block_cell hA25).trans k1, (block_cell hA35).trans k2⟩ | go_keep)
    (first
     | (refine (one_c st mv1 mv2 _ hz.1 hz.2).mono ?_; rintro e w5 ⟨g5, c5, rfl, hk5, hb5⟩; have hA15 := (hb5.block _ (heap_lt HA1.out)).trans HA1.out; have hA25 := (hb5.block _ (heap_lt HA2.out)).trans HA2.out; have hA35 := (hb5.block _ (heap_lt HA3.out)).trans HA3.out)
     | (refine grows_push ⟨⟨g5, 0, st.size, c5, bs st⟩, ⟨mv1, mv2, 0, false, []⟩⟩ _ rfl _ _ rfl w.heap.size _ rfl rfl (HG.out.later hb5) hk5 (by have := HLEN.out; omega) (HL.out.trans (hb5.mono HL.out.size)).size ?_; intro s7 n7 c7 w7 hg7 hb7 ho7; have hA17 := ho7 _ _ _ hA15 (by decide); have hA27 := ho7 _ _ _ hA25 (by decide); have hA37 := ho7 _ _ _ hA35 (by decide)))
   rename_i hheld
   have HG7 := Lib.hid hg7
   have HA17 := Lib.hid hA17
   have HA27 := Lib.hid hA27
   have HA37 := Lib.hid hA37
   have HL7 := Lib.hid ((HL.out.trans (hb5.mono HL.out.size)).trans hb7)
   clear hheld hg7 hb7 ho7 hb5 hk5 HG HL hA17 hA15 HA1 c0 k0 hA27 hA25 HA2 c1 k1 hA37 hA35 HA3 c2 k2
   go_wp2
   go_roundg (gk - 1)
   case measure => omega
   case rel => exact ⟨k + 1, _, s7, c7, by omega, rfl, by go_num, by rw [HR.out]; exact HG7.out, HA17.out, HA27.out, HA37.out, HL7.out⟩
  ·
   skip
   obtain rfl : k = 22 := by omega
   clear hA1 hA2 hA3
   obtain ⟨wz, hwo⟩ : ∃ wz, wz = wr := ⟨_, rfl⟩
   subst hwo
   have HG := Lib.hid hgr
   have HL := Lib.hid hbl
   clear hgr hbl
   go_wp2
   go_ret
   rw [nor_all] at HG
   exact Grows.is HG.out HL.out
set_option maxRecDepth 100000 in
set_option maxHeartbeats 8000000 in
theorem dsel_c (w : World) : Calls Try.prog 52 #[] w (ListIs (eveD ++ selD) w) := by
 go_enter Try.func52, Try.ntmps52
 have HL := Lib.hid (Below.refl w.heap.size w)
 go_wp2_with fail
 refine (deve_c w).mono ?_
 rintro e w1 ⟨s0, c0, L, rfl, hL, hrl, hb⟩
 obtain ⟨n0, hn0⟩ : ∃ n0, n0 = eveD.length := ⟨_, rfl⟩
 have HG : Hid (Grows eveD w.heap.size (.slice s0 n0 c0) w1) := Lib.hid ⟨s0, c0, L, by rw [hn0], hL, by rw [hn0]; exact hrl⟩
 rw [← hn0]
 replace HL := Lib.hid hb
 clear hL hrl hb hn0
 go_upto_region 2 with (fail)
 go_upto_region 3 with (first
  | (refine wpList_buildTo rfl 152 _ rfl _ rfl (strC sel1S) (by kernel_rfl) ?_)
  | (refine wpList_store_rowTo rfl 152 _ _ rfl rfl w1.heap.size (strC sel1S) rfl rfl _ _ (one_new _ _) (by kernel_rfl) (by kernel_rfl) (by kernel_rfl) ?_)
  | fail)
 generalize hw : (w1.alloc _).setRow w1.heap.size (strC sel1S) = y1
 have hA1 : y1.heap[w1.heap.size]? = some (.cells (strC sel1S) 152 (0, 0)) := by rw [← hw]; exact (arr_new _ _ _ _).1
 have hbA1 : Below w1.heap.size w1 y1 := by rw [← hw]; exact (arr_new _ _ _ _).2
 clear hw
 have hlA1 := heap_lt hA1
 replace HG := Lib.hid (HG.out.later hbA1)
 replace HL := Lib.hid (HL.out.trans (hbA1.mono HL.out.size))
 have HA1 := Lib.hid hA1
 clear hA1 hbA1
 go_upto_region 4 with (first
  | (refine wpList_buildTo rfl 153 _ rfl _ rfl (intC sel1V) (by kernel_rfl) ?_)
  | (refine wpList_store_rowTo rfl 153 _ _ rfl rfl y1.heap.size (intC sel1V) rfl rfl _ _ (one_new _ _) (by kernel_rfl) (by kernel_rfl) (by kernel_rfl) ?_)
  | fail)
 generalize hw : (y1.alloc _).setRow y1.heap.size (intC sel1V) = y2
 have hA2 : y2.heap[y1.heap.size]? = some (.cells (intC sel1V) 153 (0, 0)) := by rw [← hw]; exact (arr_new _ _ _ _).1
 have hbA2 : Below y1.heap.size y1 y2 := by rw [← hw]; exact (arr_new _ _ _ _).2
 clear hw
 have hlA2 := heap_lt hA2
 replace HA1 := Lib.hid ((hbA2.block _ (heap_lt HA1.out)).trans HA1.out)
 replace HG := Lib.hid (HG.out.later hbA2)
 replace HL := Lib.hid (HL.out.trans (hbA2.mono HL.out.size))
 have HA2 := Lib.hid hA2
 clear hA2 hbA2
 go_wp2_with fail
 go_loopg [1, 4] 14 (fun gg lv iv wr => ∃ (k n : Nat) (s : Option Addr) (c : Nat), k + gg = 14 ∧ lv = .slice s n c ∧ iv = .int .i64 k ∧ Grows (eveD ++ rowsA false (sel1V.getD · 0) (fun _ => 0) sel1S k) w.heap.size (.slice s n c) wr ∧ wr.heap[w1.heap.size]? = some (.cells (strC sel1S) 152 (0, 0)) ∧ wr.heap[y1.heap.size]? = some (.cells (intC sel1V) 153 (0, 0)) ∧ Below w.heap.size w wr)
 case atStart => exact ⟨0, _, _, _, rfl, rfl, rfl, by first | exact Grows.nil _ _ | (simpa [rowsA] using HG.out), HA1.out, HA2.out, HL.out⟩
 case round =>
  try clear HG
  clear HL HA1 HA2
  obtain ⟨k, n, s, c, hk, rfl, rfl, hgr, hA1, hA2, hbl⟩ := hrel
  by_cases hlt : k < 14
  ·
   skip
   have e0 : k < sel1S.length := hlt
   have c0 := str_at hA1 e0
   have k0 : (strC sel1S)[k]? = some (.string sel1S[k]) := by rw [← block_cell hA1]; exact c0
   have hz : 0 < sel1S[k].size ∧ sel1S[k].size < 1000 := all_size (by decide +kernel) e0
   have e1 : k < sel1V.length := hlt
   have c1 := int_at hA2 e1
   have k1 : (intC sel1V)[k]? = some (.int .i64 sel1V[k]) := by rw [← block_cell hA2]; exact c1
   have hrow : eveD ++ rowsA false (sel1V.getD · 0) (fun _ => 0) sel1S (k + 1) = (eveD ++ rowsA false (sel1V.getD · 0) (fun _ => 0) sel1S k) ++ ([(bs (sel1S[k]'e0), ⟨(sel1V[k]'e1), 0, 0, false, []⟩)] : Rows) := by rw [rowsA_next false (sel1V.getD · 0) (fun _ => 0) sel1S k e0 (a := (sel1V[k]'e1)) (b := 0) (getD_at e1 0) (rfl)]; simp only [List.append_assoc]
   generalize sel1S[k] = st at *
   generalize sel1V[k] = mv1 at *
   have hd := (Below.refl wr.heap.size wr).drew
   have HG := Lib.hid (hgr.later hd)
   have HA1 := Lib.hid (show wr.drew.heap[w1.heap.size]? = _ from hA1)
   have HA2 := Lib.hid (show wr.drew.heap[y1.heap.size]? = _ from hA2)
   have HL := Lib.hid hbl.drew
   have HR := Lib.hid hrow
   have hlen : (eveD ++ rowsA false (sel1V.getD · 0) (fun _ => 0) sel1S k).length < 1000 := by simp only [List.length_append, rowsA_len, List.length_cons, List.length_nil]; first | omega | (have : eveD.length < 500 := by decide +kernel); omega
   have HLEN := Lib.hid hlen
   clear hd hgr hbl hrow hlen hA1 hA2
   have q1 : (k : Int) < 14 := by omega
   have q2 : (0 : Int) ≤ (k : Int) := by omega
   go_wp2_with fail
   go_region_held3 (fun w' => w'.cell? ⟨w1.heap.size, k, none⟩ = some (.string st) ∧ w'.cell? ⟨y1.heap.size, k, none⟩ = some (.int .i64 mv1))
    (first | exact ⟨c0, c1⟩ | exact ⟨(block_cell hA17).trans k0, (block_cell hA27).trans k1⟩ | exact ⟨(block_cell hA15).trans k0, (block_cell hA25).trans k1⟩ | go_keep)
    (first
     | (refine (one_c st mv1 0 _ hz.1 hz.2).mono ?_; rintro e w5 ⟨g5, c5, rfl, hk5, hb5⟩; have hA15 := (hb5.block _ (heap_lt HA1.out)).trans HA1.out; have hA25 := (hb5.block _ (heap_lt HA2.out)).trans HA2.out)
     | (refine grows_push ⟨⟨g5, 0, st.size, c5, bs st⟩, ⟨mv1, 0, 0, false, []⟩⟩ _ rfl _ _ rfl w.heap.size _ rfl rfl (HG.out.later hb5) hk5 (by have := HLEN.out; omega) (HL.out.trans (hb5.mono HL.out.size)).size ?_; intro s7 n7 c7 w7 hg7 hb7 ho7; have hA17 := ho7 _ _ _ hA15 (by decide); have hA27 := ho7 _ _ _ hA25 (by decide)))
   rename_i hheld
   have HG7 := Lib.hid hg7
   have HA17 := Lib.hid hA17
   have HA27 := Lib.hid hA27
   have HL7 := Lib.hid ((HL.out.trans (hb5.mono HL.out.size)).trans hb7)
   clear hheld hg7 hb7 ho7 hb5 hk5 HG HL hA17 hA15 HA1 c0 k0 hA27 hA25 HA2 c1 k1
   go_wp2
   go_roundg (gk - 1)
   case measure => omega
   case rel => exact ⟨k + 1, _, s7, c7, by omega, rfl, by go_num, by rw [HR.out]; exact HG7.out, HA17.out, HA27.out, HL7.out⟩
  ·
   skip
   obtain rfl : k = 14 := by omega
   clear hA1 hA2
   obtain ⟨wz, hwo⟩ : ∃ wz, wz = wr := ⟨_, rfl⟩
   subst hwo
   have HG := Lib.hid hgr
   have HL := Lib.hid hbl
   clear hgr hbl
   go_wp2
   go_ret
   rw [sel_all] at HG
   exact Grows.is HG.out HL.out
end Go.Proofs.Ytampjndfhpjheaa
namespace Go.Proofs.Ytampjndfhpjheaa
open Go.RowKit
set_option linter.unusedVariables false
set_option linter.unusedSimpArgs false
theorem wpList_push_r2 {w : World} {ops : Array Oper} {rest : List Oper} {o : Oper} {a : Act} {Q : Exit → Act → World → Prop} (x : DR) (hgd : o.guard = none) (s y : Operand)
  (ho : o.op = .call { callee := .builtin .append, args := #[s, y], argTypes := #[95, 95] })
  (base : Nat) (v : Value) (L : List DR) (hs : a.eval s = v) (hy : a.eval y = .slice (some ⟨w.heap.size, 0, none⟩) 1 1) (hown : RL w base v L) (hx : KOk w x.q) (hj : L.length < 1000000) (hbase : base ≤ w.heap.size)
  (vB : Value) (LB : List DR) (hB : RL w 0 vB LB) (hap : Apart v vB)
  (h : ∀ s' n' c' w', RL w' base (.slice s' n' c') (L ++ [x]) → RL w' 0 vB LB → Apart (.slice s' n' c') vB → Below base w w' → wpList Try.prog ops Q rest (a.put o.dst (.slice s' n' c')) w') :
  wpList Try.prog ops Q (o :: rest) a (w.alloc (.cells x.cells.toArray 103)) := by
 obtain ⟨i0, hi, hz0, hz1, hz2⟩ := info_parts Try.infoRow
 have hb1 := below_new2 w (.cells x.cells.toArray 103)
 refine wpList_append_own_at _ hgd s y 95 ho base 103 i0 _ 5 56 Try.underlying95 hi hz0 hz1 hz2 rfl (by decide) v _ _ hs (hown.later hb1).1 ⟨w.heap.size, 0, none⟩ 1 1 x.cells hy rfl (cells_new5 _ _ _) (one5 x) (by unfold maxLen; omega) (by omega) (by simp; omega) ?_
 intro v' w' h2 h3 _ hat
 obtain ⟨s', c', rfl⟩ := slice_shape h2
 have hg := World.grownBy.trans (World.grownBy_alloc w _ _) h3
 obtain ⟨p1, p2, p3⟩ := hown.push hx hbase h2 hg
 refine h s' _ c' w' p1 ⟨own_kept hB.1 (fun b hb => hg.block b (World.ownsRow.lt hB.1 b hb).2 (fun e => hap b e.symm hb)), fun z hz => (hB.2 z hz).kept ?_⟩ ?_ p2
 ·
  obtain ⟨cs, h1⟩ := (hB.2 z hz).type
  exact (p3 _ _ _ h1 (by decide)).trans h1.symm
 ·
  intro b h1 h4
  rcases hat with e | e
  · rw [e] at h1; exact hap b h1 h4
  ·
   rw [e] at h1
   have h5 := (World.ownsRow.lt hB.1 b h4).2
   have h6 : (w.alloc (.cells x.cells.toArray 103)).heap.size = b := by simpa using h1
   simp at h6
   omega
set_option maxRecDepth 100000 in
set_option maxHeartbeats 8000000 in
theorem dboth_c (La Lb : List DR) (sa : Option Addr) (na ca : Nat) (sb : Option Addr) (nb cb base : Nat) (w : World) (hna : na < 100000) (hnb : nb < 100000) (ha : RL w base (.slice sa na ca) La) (hb : RL w 0 (.slice sb nb cb) Lb) (hap : Apart (.slice sa na ca) (.slice sb nb cb)) (hbase : base ≤ w.heap.size) :
  Calls Try.prog 49 #[.slice sa na ca, .slice sb nb cb] w fun e w' => ∃ s n c, e = .returned (.slice s n c) ∧ n = na + nb ∧ RL w' base (.slice s n c) (La ++ Lb) ∧ Below base w w' := by
 have hla := ha.len
 have hlb := hb.len
 have HA := Lib.hid (show RL w base (.slice sa na ca) (La ++ Lb.take 0) by simpa using ha)
 have HB := Lib.hid hb
 have HAP := Lib.hid hap
 have HLA := Lib.hid hla
 have HLB := Lib.hid hlb
 clear ha hb hap hla hlb
 go_enter Try.func49, Try.ntmps49
 go_wp2_with fail
 go_loopg [0, 5] nb (fun gg v iv wr => ∃ (k n : Nat) (s : Option Addr) (c : Nat), k + gg = nb ∧ v = .slice s n c ∧ iv = .int .i64 k ∧ RL wr base (.slice s n c) (La ++ Lb.take k) ∧ RL wr 0 (.slice sb nb cb) Lb ∧ Apart (.slice s n c) (.slice sb nb cb) ∧ Below base w wr)
 case atStart => exact ⟨0, na, sa, ca, by omega, rfl, rfl, HA.out, HB.out, HAP.out, Below.refl _ _⟩
 case round =>
  obtain ⟨k, n, s, c, hk, rfl, rfl, h1, h2, h3, hbl⟩ := hrel
  clear HA HB HAP
  by_cases hlt : k < nb
  ·
   have hkl : k < Lb.length := by rw [← HLB.out]; exact hlt
   obtain ⟨g, rfl, hg, hcell⟩ := h2.cell hkl
   have hkx := h2.2 _ (List.getElem_mem hkl)
   have htk : Lb.take (k + 1) = Lb.take k ++ [Lb[k]] := by rw [List.take_add_one, List.getElem?_eq_getElem hkl]; rfl
   obtain ⟨x, hx⟩ : ∃ x, Lb[k] = x := ⟨_, rfl⟩
   rw [hx] at hcell hkx htk
   have HTK := Lib.hid (show La ++ Lb.take (k + 1) = (La ++ Lb.take k) ++ [x] by rw [htk, List.append_assoc])
   clear hx htk
   obtain ⟨⟨qg, qo, qn, qc, qk⟩, ⟨bv, bm, ba, bmo, bo⟩⟩ := x
   have c0 := hcell 0 (by decide)
   have c1 := hcell 1 (by decide)
   have c2 := hcell 2 (by decide)
   have c3 := hcell 3 (by decide)
   have c4 := hcell 4 (by decide)
   simp only [DR.cells, KS.val, List.getElem?_cons_zero, List.getElem?_cons_succ, Nat.add_zero] at c0 c1 c2 c3 c4
   have HKX := Lib.hid hkx
   have H1 := Lib.hid h1
   have H2 := Lib.hid h2
   have H3 := Lib.hid h3
   have HBL := Lib.hid hbl
   have hlen : (La ++ Lb.take k).length < 1000000 := by rw [List.length_append, List.length_take, ← HLA.out]; omega
   have HLEN := Lib.hid hlen
   have hbw : base ≤ wr.heap.size := Nat.le_trans hbase hbl.size
   clear hcell hkx h1 h2 h3 hbl hlen
   have q1 : (k : Int) < (nb : Int) := by omega
   have q2 : (0 : Int) ≤ (k : Int) := by omega
   go_wp2_with (first
    | (at_builtin; refine wpList_push_r2 ⟨⟨qg, qo, qn, qc, qk⟩, ⟨bv, bm, ba, bmo, bo⟩⟩ rfl _ _ rfl base _ _ rfl rfl H1.out HKX.out HLEN.out hbw _ _ H2.out H3.out ?_; intro s7 n7 c7 w7 p1 p2 p3 p4; have P1 := Lib.hid p1; have P2 := Lib.hid p2; have P3 := Lib.hid p3; have P4 := Lib.hid (HBL.out.trans p4); clear p1 p2 p3 p4))
   go_roundg (gk - 1)
   case measure => omega
   case rel => exact ⟨k + 1, n7, s7, c7, by omega, rfl, by go_num, by rw [HTK.out]; exact P1.out, P2.out, P3.out, P4.out⟩
  ·
   obtain rfl : k = nb := by omega
   rw [List.take_of_length_le (by rw [← HLB.out]; exact Nat.le_refl _)] at h1
   have H1 := Lib.hid h1
   have HBL := Lib.hid hbl
   have hn := h1.len
   have HN := Lib.hid (show n = na + k by rw [hn, List.length_append, ← HLA.out, ← HLB.out])
   clear h1 h2 h3 hbl hn
   go_wp2
   go_ret
   exact ⟨s, n, c, rfl, HN.out, H1.out, HBL.out⟩
end Go.Proofs.Ytampjndfhpjheaa
