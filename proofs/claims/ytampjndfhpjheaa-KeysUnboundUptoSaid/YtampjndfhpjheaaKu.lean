/- Contract: KeysUnbound. Condition: lists of fewer than 2^30 keys. -/
import Derived.Test.YtampjndfhpjheaaSj
namespace Go.Proofs.Ytampjndfhpjheaa
open Go.RowKit
set_option linter.unusedVariables false
theorem readP_cmd {sel : Bool} {l : List Int} (h : (readP sel l).1 ≠ 1) : (readP sel l).2 = cmd0 := by
  unfold readP at *
  split
  · rename_i e
    rw [e] at h
    unfold rowP at *
    split
    · split
      · unfold finP at *
        simp only at *
        split
        · split
          · rfl
          · simp_all
        · simp_all
      · split
        · unfold finP at *
          simp only at *
          split
          · split
            · rfl
            · simp_all
          · simp_all
        · rfl
    · rfl
  · rfl
/-- what Feed may say -/
theorem feed_say (p : Par) (mode x : Int) : ((feedP p mode x).2.2 = 0 ∧ (feedP p mode x).1.pend ≠ [] ∧ (feedP p mode x).2.1 = cmd0) ∨ ((feedP p mode x).2.2 = 1 ∧ (feedP p mode x).1.pend = []) ∨ ((feedP p mode x).2.2 = 2 ∧ (feedP p mode x).1.pend = [] ∧ (feedP p mode x).2.1 = cmd0) ∨ ((feedP p mode x).2.2 = 3 ∧ (feedP p mode x).1.pend = [] ∧ (feedP p mode x).2.1 = cmd0) := by
  by_cases h27 : x = 27
  · subst h27
    rw [feed_27]
    exact .inr (.inr (.inr ⟨rfl, rfl, rfl⟩))
  · rw [feed_pp h27]
    simp only
    rcases readP_3 (selP mode) (pp p mode ++ [x]) with h | h | h
    · exact .inl ⟨h, by rw [if_pos h]; simp, readP_cmd (by rw [h]; decide)⟩
    · exact .inr (.inl ⟨h, if_neg (by rw [h]; decide)⟩)
    · exact .inr (.inr (.inl ⟨h, if_neg (by rw [h]; decide), readP_cmd (by rw [h]; decide)⟩))
theorem feed_same_pp {p q : Par} {mode x : Int} (h : pp p mode = pp q mode) : feedP p mode x = feedP q mode x := by
  by_cases h27 : x = 27
  · subst h27; rw [feed_27, feed_27]
  · rw [feed_pp h27, feed_pp h27, h]
theorem pend_f {w : World} {F R : Nat → Prop} {pb : Nat} {p : Par} (hp : ParF w F R pb p) (hl : p.pend.length < 1073741824) :
    Calls Try.prog 28 #[.pointer (some ⟨pb, 0, none⟩)] w fun e w' => ∃ s c, e = .returned (.slice s p.pend.length c) ∧ IsInts w' s p.pend.length (gl p.pend) ∧ Below w.heap.size w w' := by
  obtain ⟨ow, tb, h1, _⟩ := hp
  refine (pending_c 0 ow pb tb p w h1 hl).mono ?_
  rintro e w' ⟨s, c, rfl, ho, hb⟩
  exact ⟨s, c, rfl, ho.is, hb⟩
/-- what a call of Feed leaves for the next round -/
def UbS (w w6 : World) (F : Nat → Prop) (n1 n2 n3 n4 pb qb ga nA : Nat) (AL : List Int) (p : Par) : Prop :=
  ParF w6 F (fun b => n1 ≤ b ∧ b < n2 ∧ b ≠ pb) pb p ∧ (∀ b, F b → b = pb ∨ n4 ≤ b) ∧ ParF w6 (fun b => b = qb) (fun b => n2 ≤ b ∧ b < n3 ∧ b ≠ qb) qb par0 ∧ IsInts w6 (some ⟨ga, 0, none⟩) nA (gl AL) ∧ Below w.heap.size w w6 ∧ n4 ≤ w6.heap.size
theorem ints_touch {w w' : World} {O : Nat → Prop} {b n : Nat} {f : Nat → Int} (h : IsInts w (some ⟨b, 0, none⟩) n f) (ht : Touch O w w') (hb : ¬ O b) : IsInts w' (some ⟨b, 0, none⟩) n f := by
  rcases h with h | ⟨b', off, e, hlt, hc⟩
  · exact .inl h
  · cases e
    exact .inr ⟨b, 0, rfl, Nat.lt_of_lt_of_le hlt ht.size, fun k hk => (World.cell?_of_block (w := w) (ht.block b hlt hb)).trans (hc k hk)⟩
theorem ub_later {w w6 w8 : World} {F : Nat → Prop} {n1 n2 n3 n4 pb qb ga nA : Nat} {AL : List Int} {p : Par} (h : UbS w w6 F n1 n2 n3 n4 pb qb ga nA AL p) (hb : Below w6.heap.size w6 w8) : UbS w w8 F n1 n2 n3 n4 pb qb ga nA AL p :=
  ⟨h.1.later hb, h.2.1, h.2.2.1.later hb, h.2.2.2.1.later hb, h.2.2.2.2.1.trans (hb.mono h.2.2.2.2.1.size), Nat.le_trans h.2.2.2.2.2 hb.size⟩
theorem ub_keep {w wr w6 : World} {F : Nat → Prop} {n1 n2 n3 n4 pb qb ga : Nat} (hF : ∀ b, F b → b = pb ∨ n4 ≤ b) (hq : ParF wr (fun b => b = qb) (fun b => n2 ≤ b ∧ b < n3 ∧ b ≠ qb) qb par0) (hb : Below w.heap.size w wr)
    (hn : w.heap.size ≤ n1 ∧ n1 ≤ pb ∧ pb < n2 ∧ n2 ≤ qb ∧ qb < n3 ∧ n3 ≤ ga ∧ ga < n4 ∧ n4 ≤ wr.heap.size) (ht : Touch F wr w6) : ParF w6 (fun b => b = qb) (fun b => n2 ≤ b ∧ b < n3 ∧ b ≠ qb) qb par0 ∧ Below w.heap.size w w6 ∧ n4 ≤ w6.heap.size := by
  obtain ⟨h1, h2, h3, h4, h5, h6, h7, h8⟩ := hn
  have hFl : ∀ b, F b → w.heap.size ≤ b := fun b hb => by rcases hF b hb with h | h <;> omega
  refine ⟨hq.kept ht (fun b hb hb' => ?_) (fun b hb hb' => ?_), hb.trans (ht.below hFl hb.size), Nat.le_trans h8 ht.size⟩
  · have h9 : b = qb := hb
    rcases hF b hb' with h | h <;> omega
  · have h9 : n2 ≤ b ∧ b < n3 ∧ b ≠ qb := hb
    rcases hF b hb' with h | h <;> omega
/-- two parsers side by side -/
structure Two (w wr : World) (F G : Nat → Prop) (n1 n2 n3 n4 pb qb : Nat) (p q : Par) : Prop where
  p : ParF wr F (fun b => n1 ≤ b ∧ b < n2 ∧ b ≠ pb) pb p
  q : ParF wr G (fun b => n2 ≤ b ∧ b < n3 ∧ b ≠ qb) qb q
  f : ∀ b, F b → b = pb ∨ n4 ≤ b
  g : ∀ b, G b → b = qb ∨ n4 ≤ b
  a : ∀ b, F b → ¬ G b
  b : Below w.heap.size w wr
  n : n4 ≤ wr.heap.size
theorem Two.later {w wr w6 : World} {F G : Nat → Prop} {n1 n2 n3 n4 pb qb : Nat} {p q : Par} (h : Two w wr F G n1 n2 n3 n4 pb qb p q) (hb : Below wr.heap.size wr w6) : Two w w6 F G n1 n2 n3 n4 pb qb p q :=
  ⟨h.p.later hb, h.q.later hb, h.f, h.g, h.a, h.b.trans (hb.mono h.b.size), Nat.le_trans h.n hb.size⟩
theorem ParF.lt {w : World} {F R : Nat → Prop} {pb : Nat} {p : Par} (h : ParF w F R pb p) : ∀ b, F b → b < w.heap.size := by
  obtain ⟨_, _, _, _, _, _, h⟩ := h
  exact h
theorem Two.feedp {w wr w6 : World} {F G : Nat → Prop} {n1 n2 n3 n4 pb qb : Nat} {p q p5 : Par} (h : Two w wr F G n1 n2 n3 n4 pb qb p q) (hn : w.heap.size ≤ n1 ∧ n1 ≤ pb ∧ pb < n2 ∧ n2 ≤ qb ∧ qb < n3 ∧ n3 ≤ n4) (hp6 : ParF w6 (FG F wr w6) (fun b => n1 ≤ b ∧ b < n2 ∧ b ≠ pb) pb p5) (ht : Touch F wr w6) : Two w w6 (FG F wr w6) G n1 n2 n3 n4 pb qb p5 q := by
  obtain ⟨h1, h2, h3, h4, h5, h6⟩ := hn
  have hz := h.n
  refine ⟨hp6, h.q.kept ht (fun b hb hb' => h.a b hb' hb) (fun b hb hb' => ?_), fun b hb => ?_, h.g, fun b hb hg => ?_, h.b.trans (ht.below (fun b hb => ?_) h.b.size), Nat.le_trans h.n ht.size⟩
  · have h9 : n2 ≤ b ∧ b < n3 ∧ b ≠ qb := hb
    rcases h.f b hb' with h | h <;> omega
  · rcases hb with hb | hb
    · exact h.f b hb
    · exact .inr (by omega)
  · rcases hb with hb | hb
    · exact h.a b hb hg
    · have := h.q.lt b hg; omega
  · rcases h.f b hb with h | h <;> omega
theorem Two.feedq {w wr w6 : World} {F G : Nat → Prop} {n1 n2 n3 n4 pb qb : Nat} {p q q5 : Par} (h : Two w wr F G n1 n2 n3 n4 pb qb p q) (hn : w.heap.size ≤ n1 ∧ n1 ≤ pb ∧ pb < n2 ∧ n2 ≤ qb ∧ qb < n3 ∧ n3 ≤ n4) (hq6 : ParF w6 (FG G wr w6) (fun b => n2 ≤ b ∧ b < n3 ∧ b ≠ qb) qb q5) (ht : Touch G wr w6) : Two w w6 F (FG G wr w6) n1 n2 n3 n4 pb qb p q5 := by
  obtain ⟨h1, h2, h3, h4, h5, h6⟩ := hn
  have hz := h.n
  refine ⟨h.p.kept ht (fun b hb hb' => h.a b hb hb') (fun b hb hb' => ?_), hq6, h.f, fun b hb => ?_, fun b hb hg => ?_, h.b.trans (ht.below (fun b hb => ?_) h.b.size), Nat.le_trans h.n ht.size⟩
  · have h9 : n1 ≤ b ∧ b < n2 ∧ b ≠ pb := hb
    rcases h.g b hb' with h | h <;> omega
  · rcases hb with hb | hb
    · exact h.g b hb
    · exact .inr (by omega)
  · rcases hg with hg | hg
    · exact h.a b hb hg
    · have := h.p.lt b hb; omega
  · rcases h.g b hb with h | h <;> omega
theorem ub_step {w wr w6 w7 : World} {F : Nat → Prop} {n1 n2 n3 n4 pb qb ga nA : Nat} {AL : List Int} {p p5 : Par} (hp : ParF wr F (fun b => n1 ≤ b ∧ b < n2 ∧ b ≠ pb) pb p) (hF : ∀ b, F b → b = pb ∨ n4 ≤ b) (hq : ParF wr (fun b => b = qb) (fun b => n2 ≤ b ∧ b < n3 ∧ b ≠ qb) qb par0) (ha : IsInts wr (some ⟨ga, 0, none⟩) nA (gl AL)) (hb : Below w.heap.size w wr)
    (hn : w.heap.size ≤ n1 ∧ n1 ≤ pb ∧ pb < n2 ∧ n2 ≤ qb ∧ qb < n3 ∧ n3 ≤ ga ∧ ga < n4 ∧ n4 ≤ wr.heap.size) (hp6 : ParF w6 (FG F wr w6) (fun b => n1 ≤ b ∧ b < n2 ∧ b ≠ pb) pb p5) (ht : Touch F wr w6) (hb7 : Below w6.heap.size w6 w7) : UbS w w7 (FG F wr w6) n1 n2 n3 n4 pb qb ga nA AL p5 := by
  obtain ⟨h1, h2, h3, h4, h5, h6, h7, h8⟩ := hn
  have hFl : ∀ b, F b → w.heap.size ≤ b := fun b hb => by rcases hF b hb with h | h <;> omega
  refine ub_later (w6 := w6) ⟨hp6, fun b hb => ?_, hq.kept ht (fun b hb hb' => ?_) (fun b hb hb' => ?_), ints_touch ha ht (fun h => ?_), hb.trans (ht.below hFl hb.size), Nat.le_trans h8 ht.size⟩ hb7
  · rcases hb with hb | hb
    · exact hF b hb
    · exact .inr (by omega)
  · have h9 : b = qb := hb
    rcases hF b hb' with h | h <;> omega
  · have h9 : n2 ≤ b ∧ b < n3 ∧ b ≠ qb := hb
    rcases hF b hb' with h | h <;> omega
  · rcases hF ga h with h | h <;> omega
set_option maxRecDepth 100000 in
set_option maxHeartbeats 16000000 in
theorem unbound_c (mode : Int) (s1 : Option Addr) (m1 c1 : Nat) (l1 : List Int) (s2 : Option Addr) (m2 c2 : Nat) (l2 : List Int) (w : World)
    (hl1 : l1.length = m1) (hm1 : m1 < 1048577) (hr1 : IsInts w s1 m1 (gl l1)) (hz1 : s1 = none → m1 = 0 ∧ c1 = 0) (hk1 : ∀ x ∈ l1, inKey x)
    (hl2 : l2.length = m2) (hm2 : m2 < 1048577) (hr2 : IsInts w s2 m2 (gl l2)) (hk2 : ∀ x ∈ l2, inKey x) :
    Calls Try.prog 10 #[.int .i64 mode, .slice s1 m1 c1, .slice s2 m2 c2] w fun e w' => e = .returned (.bool true) ∧ Below w.heap.size w w' := by
  have HL1 := Lib.hid hl1
  have HR1 := Lib.hid hr1
  have HZ1 := Lib.hid hz1
  have HK1 := Lib.hid hk1
  have HL2 := Lib.hid hl2
  have HR2 := Lib.hid hr2
  have HK2 := Lib.hid hk2
  clear hl1 hr1 hz1 hk1 hl2 hr2 hk2
  go_enter Try.func10, Try.ntmps10
  go_wp2_with fail
  refine (alive_c w).mono ?_
  rintro e w1 ⟨rfl, hb1⟩
  go_wp2_with fail
  refine (newp_c w1).mono ?_
  rintro e w2 ⟨pb, rfl, hp, hp1, hp2, hb2⟩
  go_wp2_with fail
  refine (newp_c w2).mono ?_
  rintro e w3 ⟨qb, rfl, hq, hq1, hq2, hb3⟩
  have hqn := peq_nil ⟨qb, 0, none⟩ w3
  have hpn := peq_nil ⟨pb, 0, none⟩ w3
  have HP3 := Lib.hid (hp.later hb3)
  have HQ3 := Lib.hid hq
  have HB3 := Lib.hid (hb1.trans ((bt hb2 hb3).mono hb1.size))
  have z1 := hb1.size
  have z2 := hb2.size
  have z3 := hb3.size
  clear hb1 hp hb2 hq hb3
  generalize w1.heap.size = n1 at *
  generalize w2.heap.size = n2 at *
  have ho0 : OwnInts w3 w3.heap.size (.slice none 0 0) [] := OwnInts.nil _ _
  have HO0 := Lib.hid ho0
  have HR13 := Lib.hid (HR1.out.later HB3.out)
  clear ho0
  have hlen0 : ([] : List Int).length + m1 < 4294967296 := by simp; omega
  have hm1b : m1 < 4294967296 := by omega
  go_wp2_with (first
    | (at_builtin; refine wpList_append_onto rfl _ _ rfl w3.heap.size _ _ l1 rfl HO0.out s1 m1 c1 rfl HL1.out.symm HR13.out HZ1.out hlen0 (Nat.le_refl _) ?_; intro s' n' c' w4 hn' ho' hg' hb'; have hn2' : n' = m1 := hn'.trans (Nat.zero_add _); subst hn2'; have HO' := Lib.hid ho'; have HB' := Lib.hid hb'; clear hn' ho' hg' hb')
    | (at_builtin; refine wpList_push3 _ rfl _ _ rfl w3.heap.size _ _ _ _ rfl rfl HO'.out hm1b HB'.out.size ?_; intro s'' c'' w5 ho5 hg5 hat5; have HO5 := Lib.hid ho5; have HB5 := Lib.hid (Below.grown HB'.out hg5 HB'.out.size (fun b hb => (HO'.out.lt b hb).1)); clear ho5 hg5 hat5))
  obtain ⟨ga, hga⟩ : ∃ ga, s'' = some ⟨ga, 0, none⟩ := by
    rcases HO5.out.2 with ⟨h1, h2⟩ | ⟨g, cap, cur, h1, _⟩
    · simp at h2
    · obtain ⟨h2, _⟩ := Value.slice.inj h1
      exact ⟨g, h2⟩
  subst hga
  have hgal := HO5.out.lt ga rfl
  have hg1 := hgal.1
  have hg2 := hgal.2
  have hAI : IsInts w5 (some ⟨ga, 0, none⟩) (n' + 1) (gl (l1 ++ [10])) := HO5.out.is
  have hAK : ∀ x ∈ l1 ++ [10], inKey x := fun x hx => by
    rcases List.mem_append.1 hx with h | h
    · exact HK1.out x h
    · rw [List.mem_singleton] at h; rw [h]; exact inKey_small (by decide) (by decide)
  have hAL : (l1 ++ [10]).length = n' + 1 := by rw [List.length_append, HL1.out]; rfl
  generalize l1 ++ [10] = AL at hAI hAK hAL
  obtain ⟨nA, hnA⟩ : ∃ nA, nA = n' + 1 := ⟨_, rfl⟩
  rw [← hnA] at hAI hAL ⊢
  have hnA1 : 0 < nA := by omega
  have hnA2 : nA < 1048579 := by omega
  have HAI := Lib.hid hAI
  have HAK := Lib.hid hAK
  have HAL := Lib.hid hAL
  have hp5 := (HP3.out.later HB5.out)
  have hq5 := (HQ3.out.later HB5.out)
  have hb5 := HB3.out.trans (HB5.out.mono HB3.out.size)
  have z5 := HB5.out.size
  have HP5 := Lib.hid hp5
  have HQ5 := Lib.hid hq5
  have HBB5 := Lib.hid hb5
  clear hp5 hq5 hb5 hAI hAK hAL
  have hnA3 : nA = n' + 1 := hnA
  have HNA := Lib.hid hnA3
  clear hnA hnA3 HP3 HQ3 HB3 HO0 HR13 HO' HB' HO5 HB5
  generalize w3.heap.size = n3 at *
  have hn45 : ga < w5.heap.size := hg2
  obtain ⟨n4, hn4⟩ : ∃ n4, n4 = w5.heap.size := ⟨_, rfl⟩
  rw [← hn4] at hn45
  have hn4l : n4 ≤ w5.heap.size := by omega
  have HN4 := Lib.hid hn4
  clear hn4 hg2 hgal
  go_wp2_with fail
  go_loopg [11, 12] nA (fun gg sv iv wr => ∃ (i : Nat) (p : Par) (say : Int) (F : Nat → Prop), i + gg = nA ∧ iv = .int .i64 i ∧ sv = .int .i64 say ∧ ParF wr F (fun b => n1 ≤ b ∧ b < n2 ∧ b ≠ pb) pb p ∧ (∀ b, F b → b = pb ∨ n4 ≤ b) ∧ ParF wr (fun b => b = qb) (fun b => n2 ≤ b ∧ b < n3 ∧ b ≠ qb) qb par0 ∧ IsInts wr (some ⟨ga, 0, none⟩) nA (gl AL) ∧ Below w.heap.size w wr ∧ (∀ x ∈ p.pend, inKey x) ∧ p.pend.length ≤ i ∧ (0 < i → (say = 0 ∧ p.pend ≠ []) ∨ (say ≠ 0 ∧ p.pend = [])) ∧ n4 ≤ wr.heap.size)
  case atStart => exact ⟨0, par0, -1, _, by omega, rfl, rfl, HP5.out, fun b hb => .inl hb, HQ5.out, HAI.out, HBB5.out, (fun x hx => by cases hx), Nat.zero_le _, fun h => by omega, hn4l⟩
  case round =>
    obtain ⟨i, p, say, F, hgi, rfl, rfl, hp, hF, hq, hai, hb, hpk, hpl, hst0, hn4r⟩ := hrel
    clear HP5 HQ5 HAI HBB5
    have HP := Lib.hid hp
    have HFI := Lib.hid hF
    have HQ := Lib.hid hq
    have HAI := Lib.hid hai
    have HB := Lib.hid hb
    have HPK := Lib.hid hpk
    have HST0 := Lib.hid hst0
    have hnn : w.heap.size ≤ n1 ∧ n1 ≤ pb ∧ pb < n2 ∧ n2 ≤ qb ∧ qb < n3 ∧ n3 ≤ ga ∧ ga < n4 ∧ n4 ≤ wr.heap.size := by omega
    have HN := Lib.hid hnn
    clear hp hF hq hai hb hpk hst0 hnn
    by_cases hlt : i < nA
    · obtain ⟨b, off, hbo, hcell⟩ := HAI.out.at (Below.refl _ _) hlt
      cases hbo
      rw [Nat.zero_add] at hcell
      have hxm : gl AL i ∈ AL := by
        unfold gl
        rw [List.getD_eq_getElem?_getD, List.getElem?_eq_getElem (by rw [HAL.out]; exact hlt)]
        exact List.getElem_mem _
      have hkx := HAK.out _ hxm
      generalize gl AL i = x at hcell hkx
      have q1 : (i : Int) < (nA : Int) := by omega
      have hfd := feed_f F (fun b => n1 ≤ b ∧ b < n2 ∧ b ≠ pb) pb p mode x wr HP.out HPK.out hkx (by omega)
      have hpk5 := feed_pend (mode := mode) HPK.out hkx
      have hpl5 : (feedP p mode x).1.pend.length ≤ i + 1 := by have := feed_plen (p := p) (mode := mode) (x := x); omega
      have hsay := feed_say p mode x
      generalize feedP p mode x = rr at hfd hpk5 hpl5 hsay
      obtain ⟨p5, ⟨b1, b2, b3, b4, b5⟩, code⟩ := rr
      simp only at hpk5 hpl5 hsay
      have HPK5 := Lib.hid hpk5
      clear hkx hxm hpk5
      rcases hsay with ⟨rfl, hne, hcmd⟩ | ⟨rfl, hnil⟩ | ⟨rfl, hnil, hcmd⟩ | ⟨rfl, hnil, hcmd⟩
      · obtain ⟨LP, hLP⟩ : ∃ L, L = p5.pend.length := ⟨_, rfl⟩
        have hpos : (0 : Int) < (LP : Int) := by have := List.length_pos_iff.2 hne; omega
        have hposb : decide ((LP : Int) > 0) = true := decide_eq_true hpos
        have hposn : 0 < LP := by omega
        have HLL := Lib.hid hLP
        clear hLP
        have HNE := Lib.hid hne
        clear hne
        injection hcmd with e1 e2 e3 e4 e5
        subst e1; subst e2; subst e3; subst e4; subst e5
        have HFD : Hid (Calls Try.prog 26 #[.pointer (some ⟨pb, 0, none⟩), .int .i64 mode, .int .i64 x] wr fun e w' => e = .returned (.tuple #[.agg #[.int .i64 0, .int .i64 0, .int .i64 0, .int .i64 0, .int .i64 0], .int .i64 0]) ∧ ParF w' (FG F wr w') (fun b => n1 ≤ b ∧ b < n2 ∧ b ≠ pb) pb p5 ∧ Touch F wr w') := Lib.hid hfd
        clear hfd
        go_wp2_with fail
        refine HFD.out.mono ?_
        rintro e w6 ⟨rfl, hp6, ht6⟩
        have hb67 := below_new2 w6 (.cells #[.int .i64 0, .int .i64 0, .int .i64 0, .int .i64 0, .int .i64 0] 44)
        have hst := ub_step HP.out HFI.out HQ.out HAI.out HB.out HN.out hp6 ht6 hb67
        have HST := Lib.hid hst
        have hpd := pend_f hst.1 (by omega)
        rw [← HLL.out] at hpd
        have HPD := Lib.hid hpd
        clear hp6 ht6 hb67 hst hpd
        go_wp2_with fail
        refine HPD.out.mono ?_
        rintro e w8 ⟨sx, cx, rfl, _, hb8⟩
        have hst8 := ub_later HST.out hb8
        have HST8 := Lib.hid hst8
        clear hb8 hst8 HST HPD
        go_wp2
        go_roundg (gk - 1)
        case measure => omega
        case rel => exact ⟨i + 1, p5, 0, _, by omega, by go_num, rfl, HST8.out.1, HST8.out.2.1, HST8.out.2.2.1, HST8.out.2.2.2.1, HST8.out.2.2.2.2.1, HPK5.out, hpl5, fun _ => .inl ⟨rfl, HNE.out⟩, HST8.out.2.2.2.2.2⟩
      · obtain ⟨pe5, se5⟩ := p5
        have hnil' : pe5 = [] := hnil
        subst hnil'
        clear hnil
        have HFD : Hid (Calls Try.prog 26 #[.pointer (some ⟨pb, 0, none⟩), .int .i64 mode, .int .i64 x] wr fun e w' => e = .returned (.tuple #[.agg #[.int .i64 b1, .int .i64 b2, .int .i64 b3, .int .i64 b4, .int .i64 b5], .int .i64 1]) ∧ ParF w' (FG F wr w') (fun b => n1 ≤ b ∧ b < n2 ∧ b ≠ pb) pb ⟨[], se5⟩ ∧ Touch F wr w') := Lib.hid hfd
        clear hfd
        go_wp2_with fail
        refine HFD.out.mono ?_
        rintro e w6 ⟨rfl, hp6, ht6⟩
        have hb67 := below_new2 w6 (.cells #[.int .i64 b1, .int .i64 b2, .int .i64 b3, .int .i64 b4, .int .i64 b5] 44)
        have hst := ub_step HP.out HFI.out HQ.out HAI.out HB.out HN.out hp6 ht6 hb67
        have HST := Lib.hid hst
        have hpd := pend_f hst.1 (by show 0 < 1073741824; decide)
        have HPD := Lib.hid hpd
        clear hp6 ht6 hb67 hst hpd
        go_wp2_with fail
        refine HPD.out.mono ?_
        rintro e w8 ⟨sx, cx, rfl, _, hb8⟩
        have hst8 := ub_later HST.out hb8
        have HST8 := Lib.hid hst8
        clear hb8 hst8 HST HPD
        go_wp2
        go_roundg (gk - 1)
        case measure => omega
        case rel => exact ⟨i + 1, ⟨[], se5⟩, 1, _, by omega, by go_num, rfl, HST8.out.1, HST8.out.2.1, HST8.out.2.2.1, HST8.out.2.2.2.1, HST8.out.2.2.2.2.1, HPK5.out, hpl5, fun _ => .inr ⟨by decide, rfl⟩, HST8.out.2.2.2.2.2⟩
      · obtain ⟨pe5, se5⟩ := p5
        have hnil' : pe5 = [] := hnil
        subst hnil'
        clear hnil
        injection hcmd with e1 e2 e3 e4 e5
        subst e1; subst e2; subst e3; subst e4; subst e5
        have HFD : Hid (Calls Try.prog 26 #[.pointer (some ⟨pb, 0, none⟩), .int .i64 mode, .int .i64 x] wr fun e w' => e = .returned (.tuple #[.agg #[.int .i64 0, .int .i64 0, .int .i64 0, .int .i64 0, .int .i64 0], .int .i64 2]) ∧ ParF w' (FG F wr w') (fun b => n1 ≤ b ∧ b < n2 ∧ b ≠ pb) pb ⟨[], se5⟩ ∧ Touch F wr w') := Lib.hid hfd
        clear hfd
        go_wp2_with fail
        refine HFD.out.mono ?_
        rintro e w6 ⟨rfl, hp6, ht6⟩
        have hb67 := below_new2 w6 (.cells #[.int .i64 0, .int .i64 0, .int .i64 0, .int .i64 0, .int .i64 0] 44)
        have hst := ub_step HP.out HFI.out HQ.out HAI.out HB.out HN.out hp6 ht6 hb67
        have HST := Lib.hid hst
        have hpd := pend_f hst.1 (by show 0 < 1073741824; decide)
        have HPD := Lib.hid hpd
        clear hp6 ht6 hb67 hst hpd
        go_wp2_with fail
        refine HPD.out.mono ?_
        rintro e w8 ⟨sx, cx, rfl, _, hb8⟩
        have hst8 := ub_later HST.out hb8
        have HST8 := Lib.hid hst8
        clear hb8 hst8 HST HPD
        go_wp2
        go_roundg (gk - 1)
        case measure => omega
        case rel => exact ⟨i + 1, ⟨[], se5⟩, 2, _, by omega, by go_num, rfl, HST8.out.1, HST8.out.2.1, HST8.out.2.2.1, HST8.out.2.2.2.1, HST8.out.2.2.2.2.1, HPK5.out, hpl5, fun _ => .inr ⟨by decide, rfl⟩, HST8.out.2.2.2.2.2⟩
      · obtain ⟨pe5, se5⟩ := p5
        have hnil' : pe5 = [] := hnil
        subst hnil'
        clear hnil
        injection hcmd with e1 e2 e3 e4 e5
        subst e1; subst e2; subst e3; subst e4; subst e5
        have HFD : Hid (Calls Try.prog 26 #[.pointer (some ⟨pb, 0, none⟩), .int .i64 mode, .int .i64 x] wr fun e w' => e = .returned (.tuple #[.agg #[.int .i64 0, .int .i64 0, .int .i64 0, .int .i64 0, .int .i64 0], .int .i64 3]) ∧ ParF w' (FG F wr w') (fun b => n1 ≤ b ∧ b < n2 ∧ b ≠ pb) pb ⟨[], se5⟩ ∧ Touch F wr w') := Lib.hid hfd
        clear hfd
        go_wp2_with fail
        refine HFD.out.mono ?_
        rintro e w6 ⟨rfl, hp6, ht6⟩
        have hb67 := below_new2 w6 (.cells #[.int .i64 0, .int .i64 0, .int .i64 0, .int .i64 0, .int .i64 0] 44)
        have hst := ub_step HP.out HFI.out HQ.out HAI.out HB.out HN.out hp6 ht6 hb67
        have HST := Lib.hid hst
        have hpd := pend_f hst.1 (by show 0 < 1073741824; decide)
        have HPD := Lib.hid hpd
        clear hp6 ht6 hb67 hst hpd
        go_wp2_with fail
        refine HPD.out.mono ?_
        rintro e w8 ⟨sx, cx, rfl, _, hb8⟩
        have hst8 := ub_later HST.out hb8
        have HST8 := Lib.hid hst8
        clear hb8 hst8 HST HPD
        go_wp2
        go_roundg (gk - 1)
        case measure => omega
        case rel => exact ⟨i + 1, ⟨[], se5⟩, 3, _, by omega, by go_num, rfl, HST8.out.1, HST8.out.2.1, HST8.out.2.2.1, HST8.out.2.2.2.1, HST8.out.2.2.2.2.1, HPK5.out, hpl5, fun _ => .inr ⟨by decide, rfl⟩, HST8.out.2.2.2.2.2⟩
    · have hst := HST0.out (by omega)
      have HST := Lib.hid hst
      clear hst
      go_upto_if 77 with (fail)
      go_cut [] (fun wc => ∃ (sl : Bool) (F : Nat → Prop), Two w wc F (fun b => b = qb) n1 n2 n3 n4 pb qb ⟨[], sl⟩ par0)
      case first =>
        rcases HST.out with ⟨h0, _⟩ | ⟨h0, h1⟩
        · subst h0
          have HRS := Lib.hid (reset_f F (fun b => n1 ≤ b ∧ b < n2 ∧ b ≠ pb) pb p wr HP.out)
          go_wp2_with fail
          refine HRS.out.mono ?_
          rintro e w6 ⟨rfl, hp6, ht6⟩
          have hk := ub_keep (w := w) HFI.out HQ.out HB.out HN.out ht6
          have h2 : Two w w6 F (fun b => b = qb) n1 n2 n3 n4 pb qb ⟨[], p.sel⟩ par0 := ⟨hp6, hk.1, HFI.out, fun b hb => .inl hb, fun b hb hb' => by
            have h9 : b = qb := hb'
            have h8 := HN.out
            rcases HFI.out b hb with h | h <;> omega, hk.2.1, hk.2.2⟩
          have H2 := Lib.hid h2
          clear hp6 ht6 hk h2
          go_wp2
          go_meet
          exact ⟨_, F, H2.out⟩
        · have hs0 : (say == 0) = false := by rw [beq_eq_false_iff_ne]; exact h0
          obtain ⟨pe, se⟩ := p
          have h1' : pe = [] := h1
          subst h1'
          have h2 : Two w wr F (fun b => b = qb) n1 n2 n3 n4 pb qb ⟨[], se⟩ par0 := ⟨HP.out, HQ.out, HFI.out, fun b hb => .inl hb, fun b hb hb' => by
            have h9 : b = qb := hb'
            have h8 := HN.out
            rcases HFI.out b hb with h | h <;> omega, HB.out, hn4r⟩
          have H2 := Lib.hid h2
          clear h0 h1 h2
          go_wp2
          go_meet
          exact ⟨_, F, H2.out⟩
      case rest =>
        obtain ⟨sl, F2, h2⟩ := hcut
        have hn5 : w.heap.size ≤ n1 ∧ n1 ≤ pb ∧ pb < n2 ∧ n2 ≤ qb ∧ qb < n3 ∧ n3 ≤ n4 := by omega
        have HN5 := Lib.hid hn5
        have H2 := Lib.hid h2
        have HPD := Lib.hid (pend_f h2.p (by show 0 < 1073741824; decide))
        clear h2 hn5 HP HFI HQ HAI HB HPK HST0 HST HN
        go_wp2_with fail
        refine HPD.out.mono ?_
        rintro e w8 ⟨sx, cx, rfl, _, hb8⟩
        have H28 := Lib.hid (H2.out.later hb8)
        clear hb8 H2 HPD
        go_wp2_with fail
        go_loopg [15] m2 (fun gg iv wr => ∃ (i : Nat) (p q : Par) (F G : Nat → Prop), i + gg = m2 ∧ iv = .int .i64 i ∧ Two w wr F G n1 n2 n3 n4 pb qb p q ∧ pp p mode = pp q mode ∧ (∀ x ∈ p.pend, inKey x) ∧ (∀ x ∈ q.pend, inKey x) ∧ p.pend.length ≤ i ∧ q.pend.length ≤ i)
        case atStart => exact ⟨0, ⟨[], sl⟩, par0, F2, _, by omega, rfl, H28.out, by rw [pp_par0]; unfold pp; simp, (fun x hx => by cases hx), (fun x hx => by cases hx), Nat.zero_le _, Nat.zero_le _⟩
        case round =>
          obtain ⟨i, p, q, F, G, hgi, rfl, h2, hpp, hpk, hqk, hpl, hql⟩ := hrel
          clear H28
          have H2 := Lib.hid h2
          have HPP := Lib.hid hpp
          have HPK := Lib.hid hpk
          have HQK := Lib.hid hqk
          clear h2 hpp hpk hqk
          by_cases hlt : i < m2
          · have hS2 : ∀ a, s2 = some a → a.block < w.heap.size := fun a e => by
              rcases HR2.out with h | ⟨b, off, e2, hb, _⟩
              · omega
              · rw [e2] at e; cases e; exact hb
            have HS2 := Lib.hid hS2
            clear hS2
            obtain ⟨b, off, rfl, hcell⟩ := (ints_base HR2.out H2.out.b HS2.out).at (Below.refl _ _) hlt
            have hxm : gl l2 i ∈ l2 := by
              unfold gl
              rw [List.getD_eq_getElem?_getD, List.getElem?_eq_getElem (by rw [HL2.out]; exact hlt)]
              exact List.getElem_mem _
            have hkx := HK2.out _ hxm
            have hbl : b < w.heap.size := HS2.out _ rfl
            generalize gl l2 i = x at hcell hkx
            have HKX := Lib.hid hkx
            have HCL := Lib.hid hcell
            have q1 : (i : Int) < (m2 : Int) := by omega
            have hfd := feed_f F (fun b => n1 ≤ b ∧ b < n2 ∧ b ≠ pb) pb p mode x wr H2.out.p HPK.out hkx (by omega)
            have hpk5 := feed_pend (mode := mode) HPK.out hkx
            have hpl5 : (feedP p mode x).1.pend.length ≤ i + 1 := by have := feed_plen (p := p) (mode := mode) (x := x); omega
            have hpq : feedP q mode x = feedP p mode x := (feed_same_pp HPP.out).symm
            generalize hrr : feedP p mode x = rr at hfd hpk5 hpl5 hpq
            obtain ⟨p5, ⟨b1, b2, b3, b4, b5⟩, code⟩ := rr
            simp only at hpk5 hpl5
            have HPQ := Lib.hid hpq
            have HPK5 := Lib.hid hpk5
            have HFD : Hid (Calls Try.prog 26 #[.pointer (some ⟨pb, 0, none⟩), .int .i64 mode, .int .i64 x] wr fun e w' => e = .returned (.tuple #[.agg #[.int .i64 b1, .int .i64 b2, .int .i64 b3, .int .i64 b4, .int .i64 b5], .int .i64 (code : Nat)]) ∧ ParF w' (FG F wr w') (fun b => n1 ≤ b ∧ b < n2 ∧ b ≠ pb) pb p5 ∧ Touch F wr w') := Lib.hid hfd
            clear hkx hxm hpk5 hpq hrr hfd
            go_wp2_with fail
            refine HFD.out.mono ?_
            rintro e w6 ⟨rfl, hp6, ht6⟩
            have hb67 := below_new2 w6 (.cells #[.int .i64 b1, .int .i64 b2, .int .i64 b3, .int .i64 b4, .int .i64 b5] 44)
            have hk67 := one_new w6 (.cells #[.int .i64 b1, .int .i64 b2, .int .i64 b3, .int .i64 b4, .int .i64 b5] 44)
            have hs67 : (w6.alloc (.cells #[.int .i64 b1, .int .i64 b2, .int .i64 b3, .int .i64 b4, .int .i64 b5] 44)).heap.size = w6.heap.size + 1 := by simp
            have h26 := H2.out.feedp HN5.out hp6 ht6
            have h27 := h26.later hb67
            have hfq := feed_f G (fun b => n2 ≤ b ∧ b < n3 ∧ b ≠ qb) qb q mode x _ h27.q HQK.out HKX.out (by omega)
            rw [HPQ.out] at hfq
            have hGc : ¬ G w6.heap.size := fun h => by
              have h8 := H2.out.q.lt _ h
              have h9 := ht6.size
              omega
            have hcell7 : (w6.alloc (.cells #[.int .i64 b1, .int .i64 b2, .int .i64 b3, .int .i64 b4, .int .i64 b5] 44)).cell? ⟨b, off + i, none⟩ = some (.int .i64 x) := by
              have h8 : wr.cell? ⟨b, off + i, none⟩ = w.cell? ⟨b, off + i, none⟩ := World.cell?_of_block (w := w) (H2.out.b.block b hbl)
              have h9 : (w6.alloc (.cells #[.int .i64 b1, .int .i64 b2, .int .i64 b3, .int .i64 b4, .int .i64 b5] 44)).cell? ⟨b, off + i, none⟩ = w.cell? ⟨b, off + i, none⟩ := World.cell?_of_block (w := w) (h27.b.block b hbl)
              rw [h9, ← h8]; exact HCL.out
            have H27 := Lib.hid h27
            have HK67 := Lib.hid hk67
            have HGC := Lib.hid hGc
            clear hp6 ht6 hb67 hk67 h26 h27 hGc hcell
            go_upto_region 25 with (fail)
            generalize w6.alloc (.cells #[.int .i64 b1, .int .i64 b2, .int .i64 b3, .int .i64 b4, .int .i64 b5] 44) = w7 at H27 HK67 hs67 hfq hcell7 ⊢
            have HFQ : Hid (Calls Try.prog 26 #[.pointer (some ⟨qb, 0, none⟩), .int .i64 mode, .int .i64 x] w7 fun e w' => e = .returned (.tuple #[.agg #[.int .i64 b1, .int .i64 b2, .int .i64 b3, .int .i64 b4, .int .i64 b5], .int .i64 (code : Nat)]) ∧ ParF w' (FG G w7 w') (fun b => n2 ≤ b ∧ b < n3 ∧ b ≠ qb) qb p5 ∧ Touch G w7 w') := Lib.hid hfq
            have hs67' : w6.heap.size < w7.heap.size := by omega
            clear hfq hs67
            generalize w6.heap.size = cb at HK67 HGC hs67' ⊢
            go_wp2_with fail
            refine HFQ.out.mono ?_
            rintro e w9 ⟨rfl, hq9, ht9⟩
            have hb9 := below_new2 w9 (.cells #[.int .i64 b1, .int .i64 b2, .int .i64 b3, .int .i64 b4, .int .i64 b5] 44)
            have h29 := (H27.out.feedq HN5.out hq9 ht9).later hb9
            have hk9 := (hb9.block cb (Nat.lt_of_lt_of_le hs67' ht9.size)).trans ((ht9.block cb hs67' HGC.out).trans HK67.out)
            have H29 := Lib.hid h29
            have me0 := block_cell (i := 0) hk9
            have me1 := block_cell (i := 1) hk9
            have me2 := block_cell (i := 2) hk9
            have me3 := block_cell (i := 3) hk9
            have me4 := block_cell (i := 4) hk9
            have HPD1 := Lib.hid (pend_f h29.p (by omega))
            have hcc : ((code : Int) != (code : Int)) = false := bne_self_eq_false _
            clear hq9 ht9 hb9 h29 hk9 hcell7 HFQ HFD
            go_wp2_with fail
            refine HPD1.out.mono ?_
            rintro e wa ⟨sx1, cx1, rfl, hi1, hba⟩
            have h2a := H29.out.later hba
            have HPD2 := Lib.hid (pend_f h2a.q (by omega))
            have H2A := Lib.hid h2a
            have HI1 := Lib.hid hi1
            clear hba hi1 h2a H29 HPD1 me0 me1 me2 me3 me4
            go_wp2_with fail
            refine HPD2.out.mono ?_
            rintro e wb ⟨sx2, cx2, rfl, hi2, hbb⟩
            have hsm := same_any sx1 sx2 p5.pend.length cx1 p5.pend.length cx2 (gl p5.pend) (gl p5.pend) wb (by unfold maxLen; omega) (by unfold maxLen; omega) (HI1.out.later hbb) hi2
            rw [sameB_refl] at hsm
            have HSM := Lib.hid hsm
            have H2B := Lib.hid (H2A.out.later hbb)
            clear hsm hbb hi2 H2A HPD2
            go_wp2_with fail
            refine HSM.out.mono ?_
            rintro e we ⟨rfl, hbe⟩
            have H2E := Lib.hid (H2B.out.later hbe)
            clear hbe H2B
            go_wp2
            go_roundg (gk - 1)
            case measure => omega
            case rel => exact ⟨i + 1, p5, p5, _, _, by omega, by go_num, H2E.out, rfl, HPK5.out, HPK5.out, hpl5, hpl5⟩
          · go_wp2
            go_ret
            exact ⟨rfl, H2.out.b⟩
end Go.Proofs.Ytampjndfhpjheaa

