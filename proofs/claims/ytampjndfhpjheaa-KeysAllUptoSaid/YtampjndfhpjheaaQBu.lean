/- Contract: KeysAll. Condition: fewer than 2^20 steps, keys of 64 bits. -/
import Derived.Test.YtampjndfhpjheaaQBt
import Derived.Test.YtampjndfhpjheaaQBr
import Derived.Test.YtampjndfhpjheaaQBe
namespace Go.Proofs.Ytampjndfhpjheaa
open Go.RowKit
set_option linter.unusedVariables false
set_option linter.unusedSimpArgs false
def AS (w w0 wr : World) (pb rb k : Nat) (p : Par) : Prop := ∃ cls : Nat → Nat, SB w w0 wr cls ∧ PP w0 wr cls 1 pb p ∧ DP w0 wr cls 3 rb p ∧ GoodP p ∧ (∀ x ∈ p.pend, inKey x) ∧ p.pend.length ≤ k
theorem AS.below {w w0 wr : World} {pb rb k : Nat} {p : Par} (h : AS w w0 wr pb rb k p) : Below w.heap.size w wr := by
 obtain ⟨cls, h1, _⟩ := h
 exact h1.below
theorem AS.later {w w0 wr w' : World} {pb rb k : Nat} {p : Par} (h : AS w w0 wr pb rb k p) (hb : Below wr.heap.size wr w') : AS w w0 w' pb rb k p := by
 obtain ⟨cls, h1, h2, h3, h4⟩ := h
 exact ⟨cls, h1.later hb, h2.later h1 hb, h3.later h1 hb, h4⟩
theorem AS.more {w w0 wr : World} {pb rb k : Nat} {p : Par} (h : AS w w0 wr pb rb k p) : AS w w0 wr pb rb (k + 1) p := by
 obtain ⟨cls, h1, h2, h3, h4, h5, h6⟩ := h
 exact ⟨cls, h1, h2, h3, h4, h5, by omega⟩
theorem AS.played {w w0 wr : World} {pb rb k : Nat} {p : Par} (h : AS w w0 wr pb rb k p) (hk : k < 1048576) (kd who mode key : Int) (hkey : inKey key) :
  Calls Try.prog 25 #[.pointer (some ⟨pb, 0, none⟩), .pointer (some ⟨rb, 0, none⟩), .agg #[.int .i64 kd, .int .i64 who, .int .i64 mode, .int .i64 key]] wr
   fun e w' => e = .returned (.bool true) ∧ AS w w0 w' pb rb (k + 1) (stepP p kd mode key) := by
 obtain ⟨cls, h1, h2, h3, h4, h5, h6⟩ := h
 refine (played_c w w0 wr cls 1 3 pb rb p kd who mode key (by decide) (by decide) (by decide) h1 h2 h3 h4 h5 hkey (by omega)).mono ?_
 rintro e w' ⟨rfl, cls', g1, g2, g3, g4⟩
 exact ⟨rfl, cls', g1, g2, g3, step_good h4 _ _ _, step_key h5 hkey, by have := @step_len p kd mode key; omega⟩
def argB2 (T : Rows) : Bool := T.all fun r => decide (0 ≤ r.2.arg) && decide (r.2.arg < 1000)
theorem arg_n2 : argB2 normalT = true := by decide +kernel
theorem arg_s2 : argB2 selectedT = true := by decide +kernel
theorem arg_b2 : argB2 behindT = true := by decide +kernel
theorem arg_of2 {T : Rows} (h : argB2 T = true) {k : List Int} {b : Bd} (hm : (k, b) ∈ T) : inKey b.arg := by
 have h1 := List.all_eq_true.1 h _ hm
 simp only [Bool.and_eq_true, decide_eq_true_eq] at h1
 exact inKey_small h1.1 h1.2
theorem read_keys {sel : Bool} {l : List Int} {c : Cmd} (hr : readP sel l = (1, c)) (hk : ∀ x ∈ l, inKey x) : inKey c.reg ∧ inKey c.arg := by
 obtain ⟨p, s, ts, t, k, d, k', a, b, b', rfl, hf⟩ := form_inv (sel := sel) (l := l) (by rw [hr])
 have hc : c = cmdOf (effs (0, 0) ts).1 (cntD (effs (0, 0) ts).2 d) b.verb b' a := by
  have h2 := hf.read s
  rw [hr] at h2
  exact (Prod.mk.inj h2).2
 have hp : ∀ x ∈ p, inKey x := fun x hx => hk x (List.mem_append.2 (.inl hx))
 have h0 : inKey 0 := inKey_small (by decide) (by decide)
 rw [hc]
 refine ⟨?_, ?_⟩
 ·
  show inKey (effs (0, 0) ts).1
  have h3 := effs_reg ts false 0 0 hf.ok
  by_cases h4 : lenR ts = 0
  · rw [h3.1 h4]; exact h0
  · exact hp _ (by rw [hf.eq]; exact List.mem_append.2 (.inl (h3.2 h4).2))
 ·
  show inKey (if b'.more then a.headD 0 else b'.arg)
  rcases hf.text.arg with ⟨h1, h2⟩ | ⟨h1, _⟩
  ·
   obtain ⟨x, rfl⟩ := List.length_eq_one_iff.1 h2
   rw [h1]
   exact hp _ (by rw [hf.eq, hf.text.eq]; simp)
  ·
   rw [h1]
   show inKey b'.arg
   have hT : argB2 (topT (sel)) = true := by cases sel; exact arg_n2; exact arg_s2
   rcases hf.text.way with ⟨_, _, _, rfl⟩ | ⟨_, _, h5, _⟩
   · exact arg_of2 hT hf.text.mem
   ·
    rcases List.mem_append.1 h5 with h5 | h5
    ·
     obtain ⟨o, _, e⟩ := List.mem_map.1 h5
     injection e with _ e2
     rw [← e2]; exact inKey_small (by decide) (by decide)
    · exact arg_of2 arg_b2 h5
theorem feed_keys {p : Par} {mode key : Int} (h : ∀ x ∈ p.pend, inKey x) (hk : inKey key) (h1 : (feedP p mode key).2.2 = 1) : inKey (feedP p mode key).2.1.reg ∧ inKey (feedP p mode key).2.1.arg := by
 by_cases h27 : key = 27
 · subst h27; rw [feed_27] at h1; exact absurd h1 (by show ¬ (3 : Nat) = 1; decide)
 ·
  rw [feed_pp h27] at h1 ⊢
  refine read_keys (sel := selP mode) (l := pp p mode ++ [key]) (Prod.ext h1 rfl) (fun x hx => ?_)
  rcases List.mem_append.1 hx with hx | hx
  · exact h x (pp_mem hx)
  · rw [List.mem_singleton] at hx; rw [hx]; exact hk
theorem as_start {w w1 w2 w4 : World} {pb rb t0 t1 : Nat} (hb1 : Below w.heap.size w w1)
  (hp : ParF w2 (fun b => b = pb) (fun b => w1.heap.size ≤ b ∧ b < w2.heap.size ∧ b ≠ pb) pb par0) (hp1 : w1.heap.size ≤ pb) (hp2 : pb < w2.heap.size) (hb2 : Below w1.heap.size w1 w2)
  (hr1 : w2.heap.size ≤ rb) (hr : RB w4 rb t0 t1 none 0 0 false) (ht0 : TabD w4 t0 false) (ht1 : TabD w4 t1 true) (hb4 : Below w2.heap.size w2 w4) : AS w w4 w4 pb rb 0 par0 := by
 have hr2 := heap_lt hr
 have hz := hb1.size
 have hz2 := hb2.size
 have hz4 := hb4.size
 have hp4 := hp.later hb4
 let cls : Nat → Nat := fun b => if b = pb then 1 else if b = rb then 3 else 0
 have hc : ∀ b, cls b = if b = pb then 1 else if b = rb then 3 else 0 := fun _ => rfl
 have c0 : ∀ b, cls b ≠ 0 → b = pb ∨ b = rb := fun b hb => by
  rw [hc] at hb
  by_cases h1 : b = pb
  · exact .inl h1
  ·
   by_cases h3 : b = rb
   · exact .inr h3
   · rw [if_neg h1, if_neg h3] at hb; exact absurd rfl hb
 have cz : ∀ b, b ≠ pb → b ≠ rb → cls b = 0 := fun b h1 h3 => by rw [hc, if_neg h1, if_neg h3]
 have e1 : (fun b => b = pb) = (fun b => cls b = 1) := by
  funext b; rw [hc]; apply propext; constructor
  · intro e; rw [if_pos e]
  ·
   intro e
   split at e
   · assumption
   · split at e <;> omega
 have e3 : cls rb = 3 := by rw [hc, if_neg (by omega), if_pos rfl]
 rw [e1] at hp4
 have hsb : SB w w4 w4 cls := by
  refine ⟨KeepT.refl _, fun b cs t hb ht hk => ?_, fun b hb => ?_, fun b hb => ?_, ?_⟩
  ·
   have hty : ∃ cs', w4.heap[b]? = some (.cells cs' 108 (0, 0)) ∨ w4.heap[b]? = some (.cells cs' 69 (0, 0)) := by
    rcases c0 b hb with rfl | rfl
    · obtain ⟨cs', h⟩ := hp4.btype; exact ⟨cs', .inl h⟩
    · exact ⟨_, .inr hr⟩
   obtain ⟨cs', h | h⟩ := hty <;>
   ·
    rw [h] at ht
    injection ht with ht
    injection ht with _ ht
    subst ht
    rcases hk with h | h | h | h <;> exact absurd h (by decide)
  · rcases c0 b hb with rfl | rfl <;> omega
  · rcases c0 b hb with rfl | rfl <;> omega
  · exact (hb1.trans (hb2.mono hz)).trans (hb4.mono (by omega))
 exact ⟨cls, hsb, ⟨_, hp4, fun b hb => ⟨cz b hb.2.2 (by omega), by omega⟩⟩, ⟨t0, t1, none, 0, ht0, ht1, hr, OwnInts.nil _ _, (fun b hb => by cases hb), e3⟩, good_nil _, (fun x hx => by cases hx), Nat.le_refl _⟩
set_option maxRecDepth 100000 in
set_option maxHeartbeats 16000000 in
theorem keysall_c (s : Option Addr) (n cap : Nat) (O : Nat → Int × Int × Int × Int) (w : World) (hn : n < 1048577) (hs : IsOps w s n O) :
  Calls Try.prog 9 #[.slice s n cap] w fun e w' => e = .returned (.bool true) ∧ Below w.heap.size w w' := by
 have HS := Lib.hid hs
 clear hs
 go_enter Try.func9, Try.ntmps9
 go_wp2_with fail
 refine (fits_c s n cap O w hn HS.out).mono ?_
 rintro e w' ⟨b, rfl, rfl⟩
 cases b
 ·
  go_wp2
  go_ret
  exact ⟨rfl, Below.refl _ _⟩
 ·
  go_wp2_with fail
  refine (alive_c w).mono ?_
  rintro e w1 ⟨rfl, hb1⟩
  go_wp2_with fail
  refine (newp_c w1).mono ?_
  rintro e w2 ⟨pb, rfl, hp, hp1, hp2, hb2⟩
  have hpn := peq_nil ⟨pb, 0, none⟩ w2
  go_wp2_with fail
  refine (dnew_c w2).mono ?_
  rintro e w0 ⟨rb, t0, t1, rfl, hr1, hr, ht0, ht1, hb4⟩
  have HFS := Lib.hid (as_start hb1 hp hp1 hp2 hb2 hr1 hr ht0 ht1 hb4)
  clear hb1 hp hp1 hp2 hb2 hr1 hr ht0 ht1 hb4 hpn
  go_wp2_with fail
  go_loopg [6] n (fun g iv wr => ∃ (k : Nat) (p : Par), k + g = n ∧ iv = .int .i64 k ∧ AS w w0 wr pb rb k p)
  case atStart => exact ⟨0, par0, by omega, rfl, HFS.out⟩
  case round =>
   clear HFS
   obtain ⟨k, p, hk, rfl, hfs⟩ := hrel
   have HF := Lib.hid hfs
   clear hfs
   by_cases hlt : k < n
   ·
    rcases HS.out with h0 | ⟨b, off, rfl, hbl, hlk⟩
    · exfalso; omega
    ·
     obtain ⟨d0, d1, d2, d3, d4⟩ := hlk k hlt
     have hB := HF.out.below
     have c0 := (hB.cell (p := ⟨b, off + k * 4, none⟩) hbl).trans d0
     have c1 := (hB.cell (p := ⟨b, off + k * 4 + 1, none⟩) hbl).trans d1
     have c2 := (hB.cell (p := ⟨b, off + k * 4 + 2, none⟩) hbl).trans d2
     have c3 := (hB.cell (p := ⟨b, off + k * 4 + 3, none⟩) hbl).trans d3
     have H4 := Lib.hid d4
     clear d0 d1 d2 d3 d4 hB hlk
     generalize O k = o at c0 c1 c2 c3 H4
     obtain ⟨kd, who, mode, key⟩ := o
     simp only at c0 c1 c2 c3
     have HKY : Hid (inKey key) := H4
     clear H4
     have q1 : (k : Int) < (n : Int) := by omega
     have q2 : (0 : Int) ≤ (k : Int) := by omega
     have hbn := below_new2 wr (.cells #[.int .i64 kd, .int .i64 who, .int .i64 mode, .int .i64 key] 64)
     have h5 := one_new wr (.cells #[.int .i64 kd, .int .i64 who, .int .i64 mode, .int .i64 key] 64)
     have HF1 := Lib.hid (HF.out.later hbn)
     have H5 := Lib.hid h5
     obtain ⟨cls, hs0, hp0, hd0, hg1, hk1, hl1⟩ := HF.out
     have HS1 := Lib.hid (hs0.later hbn)
     have HP1 := Lib.hid (hp0.later hs0 hbn)
     have HD1 := Lib.hid (hd0.later hs0 hbn)
     have hz5 := hs0.zero (Nat.le_refl wr.heap.size)
     clear hs0 hp0 hd0
     go_upto_region 12 with (fail)
     obtain ⟨bx, hbx⟩ : ∃ bx, bx = wr.heap.size := ⟨_, rfl⟩
     rw [← hbx] at H5 hz5 ⊢
     clear hbx
     generalize wr.alloc (.cells #[.int .i64 kd, .int .i64 who, .int .i64 mode, .int .i64 key] 64) = w1 at HF1 HS1 HP1 HD1 H5 ⊢
     clear hbn h5 c0 c1 c2 c3 HF
     have z0 : w1.cell? ⟨bx, 0, none⟩ = some (.int .i64 kd) := block_cell H5.out
     have z1 : w1.cell? ⟨bx, 1, none⟩ = some (.int .i64 who) := block_cell H5.out
     have z2 : w1.cell? ⟨bx, 2, none⟩ = some (.int .i64 mode) := block_cell H5.out
     have z3 : w1.cell? ⟨bx, 3, none⟩ = some (.int .i64 key) := block_cell H5.out
     by_cases h1 : kd = 1
     ·
      subst h1
      obtain ⟨R, hpf, hR⟩ := HP1.out
      have hfc := feed_f (fun b => cls b = 1) R pb p mode key w1 hpf hk1 HKY.out (by omega)
      have HLAW := Lib.hid (feed_law hg1 mode key)
      have HKEY := Lib.hid (feed_keys (mode := mode) hk1 HKY.out)
      have HPEND := Lib.hid (feed_pend (mode := mode) hk1 HKY.out)
      have HGOOD := Lib.hid (good_feed hg1 mode key)
      have hplen := @feed_plen p mode key
      obtain ⟨F, hF⟩ : ∃ F, feedP p mode key = F := ⟨_, rfl⟩
      rw [hF] at hfc HLAW HKEY HPEND HGOOD hplen
      obtain ⟨p', ⟨a1, a2, a3, a4, a5⟩, m⟩ := F
      have HFC : Hid (Calls Try.prog 26 #[.pointer (some ⟨pb, 0, none⟩), .int .i64 mode, .int .i64 key] w1 fun e w' => e = .returned (.tuple #[.agg #[.int .i64 a1, .int .i64 a2, .int .i64 a3, .int .i64 a4, .int .i64 a5], .int .i64 (m : Nat)]) ∧ ParF w' (FG (fun b => cls b = 1) w1 w') R pb p' ∧ Touch (fun b => cls b = 1) w1 w') := Lib.hid hfc
      have HR := Lib.hid hR
      have hpl2 : p'.pend.length ≤ k + 1 := by simp only at hplen; omega
      clear hpf hfc hF hR hg1 hk1 hplen HF1 HP1
      go_wp2_with fail
      refine HFC.out.mono ?_
      clear z0 z1 z2 z3 HFC
      rintro e w2 ⟨rfl, hp2, ht2⟩
      have st2 := newK_stp (i := 1) (j := 1) (k := 1) HS1.out (ht2.wide (fun b _ e => .inl e)) (.inl rfl)
      have hs2 := HS1.out.step (by decide) (by decide) st2
      have hp2' := PP.fed (w0 := w0) HS1.out (by decide) HR.out hp2
      have hd2 := DP.kept HS1.out HD1.out st2 (by decide) (by decide)
      have h52 := (ht2.block bx (heap_lt H5.out) (fun e => by have e : cls bx = 1 := e; omega)).trans H5.out
      generalize newK cls w1.heap.size w2.heap.size 1 = cls2 at st2 hs2 hp2' hd2
      have hb3 := below_new2 w2 (.cells #[.int .i64 a1, .int .i64 a2, .int .i64 a3, .int .i64 a4, .int .i64 a5] 44)
      have hk3 := one_new w2 (.cells #[.int .i64 a1, .int .i64 a2, .int .i64 a3, .int .i64 a4, .int .i64 a5] 44)
      have HS3 := Lib.hid (hs2.later hb3)
      have HP3 := Lib.hid (hp2'.later hs2 hb3)
      have HD3 := Lib.hid (hd2.later hs2 hb3)
      have H53 := Lib.hid ((hb3.block bx (heap_lt h52)).trans h52)
      have HK3 := Lib.hid hk3
      have hzc : cls2 w2.heap.size = 0 := hs2.zero (Nat.le_refl _)
      clear hp2 ht2 st2 hs2 hp2' hd2 h52 hb3 hk3 HS1 HD1 H5 HR
      go_upto_region 17 with (fail)
      generalize w2.alloc (.cells #[.int .i64 a1, .int .i64 a2, .int .i64 a3, .int .i64 a4, .int .i64 a5] 44) = w3 at HS3 HP3 HD3 H53 HK3 ⊢
      generalize w2.heap.size = cb at HK3 hzc ⊢
      have z2 : w3.cell? ⟨bx, 2, none⟩ = some (.int .i64 mode) := block_cell H53.out
      have z3 : w3.cell? ⟨bx, 3, none⟩ = some (.int .i64 key) := block_cell H53.out
      obtain ⟨t0, t1, s2, c2, ht0, ht1, hrb, hown, hcl, hcr⟩ := HD3.out
      have hfd := dfeed_c w0 rb t0 t1 s2 c2 p mode key w3 ht0 ht1 HS3.out.keep hrb hown (by omega)
      rw [HLAW.out] at hfd
      have HFD : Hid (Calls Try.prog 27 #[.pointer (some ⟨rb, 0, none⟩), .int .i64 mode, .int .i64 key] w3 fun e w' => e = .returned (.tuple #[.agg #[.int .i64 a1, .int .i64 a2, .int .i64 a3, .int .i64 a4, .int .i64 a5], .int .i64 (m : Nat)]) ∧
       (∃ s' c', RB w' rb t0 t1 s' p'.pend.length c' p'.sel ∧ OwnInts w' 0 (.slice s' p'.pend.length c') p'.pend ∧ ∀ b, (Value.slice s' p'.pend.length c').ownBlock = some b → w3.heap.size ≤ b) ∧ Touch (fun b => b = rb) w3 w') := Lib.hid hfd
      have HTA := Lib.hid ht0
      have HTB := Lib.hid ht1
      have HCR := Lib.hid hcr
      have hrl := heap_lt hrb
      clear ht0 ht1 hrb hown hcl hcr hfd
      go_wp2_with fail
      refine HFD.out.mono ?_
      clear z2 z3 HFD
      rintro e w4 ⟨rfl, ⟨s', c', hr4, ho4, hb4⟩, ht4⟩
      have st4 := newK_stp (i := 3) (j := 3) (k := 3) HS3.out (ht4.wide (fun b _ e => .inl (by rw [show b = rb from e]; exact HCR.out))) (.inl rfl)
      have hs4 := HS3.out.step (by decide) (by decide) st4
      have hd4 := DP.fed (p' := p') HTA.out HTB.out HCR.out hrl hr4 ho4 hb4
      have hp4 := PP.kept HS3.out HP3.out st4 (by decide) (by decide) (by decide) (by decide) (by decide)
      have hk4 := (ht4.block cb (heap_lt HK3.out) (fun e => by have e : cb = rb := e; have h := HCR.out; rw [← e] at h; omega)).trans HK3.out
      generalize newK cls2 w3.heap.size w4.heap.size 3 = cls4 at st4 hs4 hd4 hp4
      have hb5 := below_new2 w4 (.cells #[.int .i64 a1, .int .i64 a2, .int .i64 a3, .int .i64 a4, .int .i64 a5] 44)
      have hk5 := one_new w4 (.cells #[.int .i64 a1, .int .i64 a2, .int .i64 a3, .int .i64 a4, .int .i64 a5] 44)
      have HS5 := Lib.hid (hs4.later hb5)
      have HP5 := Lib.hid (hp4.later hs4 hb5)
      have HD5 := Lib.hid (hd4.later hs4 hb5)
      have HK4 := Lib.hid ((hb5.block cb (heap_lt hk4)).trans hk4)
      have HK5 := Lib.hid hk5
      have HR5 := Lib.hid (show RB (w4.alloc (.cells #[.int .i64 a1, .int .i64 a2, .int .i64 a3, .int .i64 a4, .int .i64 a5] 44)) rb t0 t1 s' p'.pend.length c' p'.sel from (hb5.block rb (heap_lt hr4)).trans hr4)
      clear hr4 ho4 hb4 ht4 st4 hs4 hd4 hp4 hk4 hb5 hk5 HS3 HP3 HD3 H53 HK3 HCR
      go_upto_region 18 with (fail)
      generalize w4.alloc (.cells #[.int .i64 a1, .int .i64 a2, .int .i64 a3, .int .i64 a4, .int .i64 a5] 44) = w5 at HS5 HP5 HD5 HK4 HK5 HR5 ⊢
      generalize w4.heap.size = cb2 at HK5 ⊢
      have HAS : Hid (AS w w0 w5 pb rb (k + 1) p') := Lib.hid ⟨cls4, HS5.out, HP5.out, HD5.out, HGOOD.out, HPEND.out, hpl2⟩
      have HTA5 := Lib.hid (HS5.out.keep.tab HTA.out)
      have HTB5 := Lib.hid (HS5.out.keep.tab HTB.out)
      clear HS5 HP5 HD5 HTA HTB HLAW HGOOD HPEND
      obtain ⟨m0, m1, m2, m3, m4⟩ := cells5 HK4.out
      obtain ⟨n0, n1, n2, n3, n4⟩ := cells5 HK5.out
      by_cases hm : m = 1
      ·
       subst hm
       by_cases h40 : (k : Int) < 40
       ·
        have hky := HKEY.out rfl
        obtain ⟨hkr, hka⟩ := hky
        have r0 : w5.cell? ⟨rb, 0, none⟩ = some (.pointer (some ⟨t0, 0, none⟩)) := block_cell HR5.out
        have r1 : w5.cell? ⟨rb, 1, none⟩ = some (.pointer (some ⟨t1, 0, none⟩)) := block_cell HR5.out
        have HKR := Lib.hid hkr
        have HKA := Lib.hid hka
        clear hkr hka HKEY
        clear HR5 HK4
        have hmd : (k : Int) % 2 = 0 ∨ (k : Int) % 2 = 1 := by omega
        rcases hmd with hmd | hmd
        ·
         have htm : Int.tmod (k : Int) 2 = 0 := by rw [Int.tmod_eq_emod_of_nonneg (by omega)]; exact hmd
         have hsp := spell_c 0 (⟨a1, a2, a3, a4, a5⟩ : Cmd) w5 HKR.out HKA.out
         have HSP : Hid (Calls Try.prog 16 #[.int .i64 0, .agg #[.int .i64 a1, .int .i64 a2, .int .i64 a3, .int .i64 a4, .int .i64 a5]] w5 (SpellIs w5 (spellP false (⟨a1, a2, a3, a4, a5⟩ : Cmd)))) := Lib.hid hsp
         clear hsp
         go_wp2_with fail
         refine HSP.out.mono ?_
         clear m0 m1 m2 m3 m4 n0 n1 n2 n3 n4 HSP r0 r1
         rintro e w6 ⟨v, rfl, hv, hb6⟩
         have HV := Lib.hid hv
         have HB6 := Lib.hid hb6
         obtain ⟨n0, n1, n2, n3, n4⟩ := cells5 ((hb6.block _ (heap_lt HK5.out)).trans HK5.out)
         have hds := dspell_c t0 false a1 a2 a3 a4 a5 w6 (HTA5.out.later hb6)
         have e0 : spellD false (⟨a1, a2, a3, a4, a5⟩ : Cmd) = spellP false (⟨a1, a2, a3, a4, a5⟩ : Cmd) := spell_law 0 (⟨a1, a2, a3, a4, a5⟩ : Cmd)
         rw [e0] at hds
         have HDS := Lib.hid hds
         clear hv hb6 hds e0
         go_wp2_with fail
         refine HDS.out.mono ?_
         clear n0 n1 n2 n3 n4 HDS
         rintro e w7 ⟨v2, rfl, hv2, hb7⟩
         have HB7 := Lib.hid (HB6.out.trans (hb7.mono HB6.out.size))
         have HBS7 := Lib.hid hb7
         have HV2 := Lib.hid hv2
         clear hb7 hv2 HB6
         cases hs : spellP false (⟨a1, a2, a3, a4, a5⟩ : Cmd) with
         | none =>
          rw [hs] at HV HV2
          have hv3 : v = .slice none 0 0 := HV.out
          subst hv3
          have hv4 : v2 = .slice none 0 0 := by
           rcases HV2.out with ⟨_, h⟩ | ⟨l, a, n, c, h, _⟩
           · exact h
           · cases h
          subst hv4
          have hsm := same_any none none 0 0 0 0 (gl []) (gl []) w7 (by decide) (by decide) (.inl rfl) (.inl rfl)
          rw [sameB_refl] at hsm
          have HSM := Lib.hid hsm
          clear hs HV HV2 hsm HBS7
          go_wp2_with fail
          refine HSM.out.mono ?_
          rintro e w8 ⟨rfl, hb8⟩
          have HB8 := Lib.hid (HB7.out.trans (hb8.mono HB7.out.size))
          clear hb8
          go_wp2
          go_roundg (gk - 1)
          case measure => omega
          case rel => exact ⟨k + 1, p', by omega, by go_num, HAS.out.later HB8.out⟩
         | some l =>
          rw [hs] at HV HV2
          obtain ⟨g, kk, rfl, hqk, hgl, hll⟩ := HV.out
          obtain ⟨a, n', c, rfl, hn', hn0, hnb, hi⟩ : ∃ a n c, v2 = .slice (some a) n c ∧ n = l.length ∧ 0 < n ∧ n < 1048576 ∧ IsInts w7 (some a) n (gl l) := by
           rcases HV2.out with ⟨h, _⟩ | ⟨l', a, n, c, h, h2, h3, h4, h5, _, h6⟩
           · cases h
           · cases h; exact ⟨a, n, c, h2, h3, h4, h5, h6⟩
          subst hn'
          have hil : IsInts w7 (some ⟨g, 0, none⟩) l.length (gl l) := (qok_list hqk).later HBS7.out
          have hsm := same_any (some ⟨g, 0, none⟩) (some a) l.length kk l.length c (gl l) (gl l) w7 (by unfold maxLen; omega) (by unfold maxLen; omega) hil hi
          rw [sameB_refl] at hsm
          have HSM := Lib.hid hsm
          clear hs HV HV2 hsm hil hi hqk HBS7
          go_wp2_with fail
          refine HSM.out.mono ?_
          rintro e w8 ⟨rfl, hb8⟩
          have HB8 := Lib.hid (HB7.out.trans (hb8.mono HB7.out.size))
          clear hb8
          go_wp2
          go_roundg (gk - 1)
          case measure => omega
          case rel => exact ⟨k + 1, p', by omega, by go_num, HAS.out.later HB8.out⟩
        ·
         have htm : Int.tmod (k : Int) 2 = 1 := by rw [Int.tmod_eq_emod_of_nonneg (by omega)]; exact hmd
         have hsp := spell_c 3 (⟨a1, a2, a3, a4, a5⟩ : Cmd) w5 HKR.out HKA.out
         have HSP : Hid (Calls Try.prog 16 #[.int .i64 3, .agg #[.int .i64 a1, .int .i64 a2, .int .i64 a3, .int .i64 a4, .int .i64 a5]] w5 (SpellIs w5 (spellP true (⟨a1, a2, a3, a4, a5⟩ : Cmd)))) := Lib.hid hsp
         clear hsp
         go_wp2_with fail
         refine HSP.out.mono ?_
         clear m0 m1 m2 m3 m4 n0 n1 n2 n3 n4 HSP r0 r1
         rintro e w6 ⟨v, rfl, hv, hb6⟩
         have HV := Lib.hid hv
         have HB6 := Lib.hid hb6
         obtain ⟨n0, n1, n2, n3, n4⟩ := cells5 ((hb6.block _ (heap_lt HK5.out)).trans HK5.out)
         have hds := dspell_c t1 true a1 a2 a3 a4 a5 w6 (HTB5.out.later hb6)
         have e0 : spellD true (⟨a1, a2, a3, a4, a5⟩ : Cmd) = spellP true (⟨a1, a2, a3, a4, a5⟩ : Cmd) := spell_law 3 (⟨a1, a2, a3, a4, a5⟩ : Cmd)
         rw [e0] at hds
         have HDS := Lib.hid hds
         clear hv hb6 hds e0
         go_wp2_with fail
         refine HDS.out.mono ?_
         clear n0 n1 n2 n3 n4 HDS
         rintro e w7 ⟨v2, rfl, hv2, hb7⟩
         have HB7 := Lib.hid (HB6.out.trans (hb7.mono HB6.out.size))
         have HBS7 := Lib.hid hb7
         have HV2 := Lib.hid hv2
         clear hb7 hv2 HB6
         cases hs : spellP true (⟨a1, a2, a3, a4, a5⟩ : Cmd) with
         | none =>
          rw [hs] at HV HV2
          have hv3 : v = .slice none 0 0 := HV.out
          subst hv3
          have hv4 : v2 = .slice none 0 0 := by
           rcases HV2.out with ⟨_, h⟩ | ⟨l, a, n, c, h, _⟩
           · exact h
           · cases h
          subst hv4
          have hsm := same_any none none 0 0 0 0 (gl []) (gl []) w7 (by decide) (by decide) (.inl rfl) (.inl rfl)
          rw [sameB_refl] at hsm
          have HSM := Lib.hid hsm
          clear hs HV HV2 hsm HBS7
          go_wp2_with fail
          refine HSM.out.mono ?_
          rintro e w8 ⟨rfl, hb8⟩
          have HB8 := Lib.hid (HB7.out.trans (hb8.mono HB7.out.size))
          clear hb8
          go_wp2
          go_roundg (gk - 1)
          case measure => omega
          case rel => exact ⟨k + 1, p', by omega, by go_num, HAS.out.later HB8.out⟩
         | some l =>
          rw [hs] at HV HV2
          obtain ⟨g, kk, rfl, hqk, hgl, hll⟩ := HV.out
          obtain ⟨a, n', c, rfl, hn', hn0, hnb, hi⟩ : ∃ a n c, v2 = .slice (some a) n c ∧ n = l.length ∧ 0 < n ∧ n < 1048576 ∧ IsInts w7 (some a) n (gl l) := by
           rcases HV2.out with ⟨h, _⟩ | ⟨l', a, n, c, h, h2, h3, h4, h5, _, h6⟩
           · cases h
           · cases h; exact ⟨a, n, c, h2, h3, h4, h5, h6⟩
          subst hn'
          have hil : IsInts w7 (some ⟨g, 0, none⟩) l.length (gl l) := (qok_list hqk).later HBS7.out
          have hsm := same_any (some ⟨g, 0, none⟩) (some a) l.length kk l.length c (gl l) (gl l) w7 (by unfold maxLen; omega) (by unfold maxLen; omega) hil hi
          rw [sameB_refl] at hsm
          have HSM := Lib.hid hsm
          clear hs HV HV2 hsm hil hi hqk HBS7
          go_wp2_with fail
          refine HSM.out.mono ?_
          rintro e w8 ⟨rfl, hb8⟩
          have HB8 := Lib.hid (HB7.out.trans (hb8.mono HB7.out.size))
          clear hb8
          go_wp2
          go_roundg (gk - 1)
          case measure => omega
          case rel => exact ⟨k + 1, p', by omega, by go_num, HAS.out.later HB8.out⟩
       ·
        clear HKEY HTA5 HTB5
        go_wp2
        go_roundg (gk - 1)
        case measure => omega
        case rel => exact ⟨k + 1, p', by omega, by go_num, HAS.out⟩
      ·
       have hmb : ((m : Int) == 1) = false := by rw [beq_eq_false_iff_ne]; omega
       clear HKEY HTA5 HTB5
       go_wp2
       go_roundg (gk - 1)
       case measure => omega
       case rel => exact ⟨k + 1, p', by omega, by go_num, HAS.out⟩
     ·
      have f1 : (kd != 1) = true := by rw [bne_iff_ne]; exact h1
      go_wp2_with fail
      refine (HF1.out.played (by omega) kd who mode key HKY.out).mono ?_
      clear z0 z1 z2 z3
      rintro e w6 ⟨rfl, hf6⟩
      have HF6 := Lib.hid hf6
      clear hf6
      go_wp2
      go_roundg (gk - 1)
      case measure => omega
      case rel => exact ⟨k + 1, _, by omega, by go_num, HF6.out⟩
   ·
    have hkn : ¬ (k : Int) < (n : Int) := by omega
    go_wp2
    go_ret
    exact ⟨rfl, HF.out.below⟩
end Go.Proofs.Ytampjndfhpjheaa
