/- Contracts: fits, KeysFeed. Condition: fewer than 2^20 steps, keys of 64 bits. -/
import Derived.Test.YtampjndfhpjheaaQBs
namespace Go.Proofs.Ytampjndfhpjheaa
open Go.RowKit
set_option linter.unusedVariables false
set_option linter.unusedSimpArgs false
def IsOps (w : World) (s : Option Addr) (n : Nat) (O : Nat → Int × Int × Int × Int) : Prop := n = 0 ∨ ∃ b off, s = some ⟨b, off, none⟩ ∧ b < w.heap.size ∧ ∀ i, i < n →
 w.cell? ⟨b, off + i * 4, none⟩ = some (.int .i64 (O i).1) ∧ w.cell? ⟨b, off + i * 4 + 1, none⟩ = some (.int .i64 (O i).2.1) ∧ w.cell? ⟨b, off + i * 4 + 2, none⟩ = some (.int .i64 (O i).2.2.1) ∧ w.cell? ⟨b, off + i * 4 + 3, none⟩ = some (.int .i64 (O i).2.2.2) ∧ inKey (O i).2.2.2
set_option maxRecDepth 100000 in
set_option maxHeartbeats 4000000 in
theorem fits_c (s : Option Addr) (n cap : Nat) (O : Nat → Int × Int × Int × Int) (w : World) (hn : n < 1048577) (hs : IsOps w s n O) :
  Calls Try.prog 22 #[.slice s n cap] w fun e w' => ∃ b, e = .returned (.bool b) ∧ w = w' := by
 have HS := Lib.hid hs
 clear hs
 go_enter Try.func22, Try.ntmps22
 go_wp2_with fail
 go_loopg [3, 4] n (fun g cv iv wr => ∃ (k : Nat) (m : Int), k + g = n ∧ iv = .int .i64 k ∧ cv = .int .i64 m ∧ w = wr)
 case atStart => exact ⟨0, 0, by omega, rfl, rfl, rfl⟩
 case round =>
  obtain ⟨k, m, hk, rfl, rfl, rfl⟩ := hrel
  by_cases hlt : k < n
  ·
   rcases HS.out with h0 | ⟨b, off, rfl, hbl, hlk⟩
   · exfalso; omega
   ·
    obtain ⟨_, _, _, d3, _⟩ := hlk k hlt
    generalize (O k).2.2.2 = x at d3
    have HD := Lib.hid d3
    clear hlk
    have q1 : (k : Int) < (n : Int) := by omega
    have q2 : (0 : Int) ≤ (k : Int) := by omega
    by_cases h1 : 48 ≤ x
    ·
     by_cases h2 : x ≤ 57
     ·
      go_wp2
      go_roundg (gk - 1)
      case measure => omega
      case rel => exact ⟨k + 1, _, by omega, by go_num, rfl, rfl⟩
     ·
      by_cases h3 : x = 34
      · omega
      ·
       have q3 : (x == 34) = false := by rw [beq_eq_false_iff_ne]; exact h3
       go_wp2
       go_roundg (gk - 1)
       case measure => omega
       case rel => exact ⟨k + 1, _, by omega, by go_num, rfl, rfl⟩
    ·
     by_cases h3 : x = 34
     ·
      subst h3
      go_wp2
      go_roundg (gk - 1)
      case measure => omega
      case rel => exact ⟨k + 1, _, by omega, by go_num, rfl, rfl⟩
     ·
      have q3 : (x == 34) = false := by rw [beq_eq_false_iff_ne]; exact h3
      go_wp2
      go_roundg (gk - 1)
      case measure => omega
      case rel => exact ⟨k + 1, _, by omega, by go_num, rfl, rfl⟩
  ·
   have hkn : ¬ (k : Int) < (n : Int) := by omega
   by_cases h6 : m ≤ 600
   ·
    go_wp2
    go_ret
    exact ⟨.inr rfl, rfl⟩
   ·
    go_wp2
    go_ret
    exact ⟨.inl rfl, rfl⟩
def FS (w w0 wr : World) (pb qb rb ub k : Nat) : Prop := ∃ (cls : Nat → Nat) (p q : Par), SB w w0 wr cls ∧ PP w0 wr cls 1 pb p ∧ DP w0 wr cls 3 rb p ∧ PP w0 wr cls 2 qb q ∧ DP w0 wr cls 4 ub q ∧ (GoodP p ∧ GoodP q) ∧ ((∀ x ∈ p.pend, inKey x) ∧ ∀ x ∈ q.pend, inKey x) ∧ p.pend.length ≤ k ∧ q.pend.length ≤ k
theorem FS.below {w w0 wr : World} {pb qb rb ub k : Nat} (h : FS w w0 wr pb qb rb ub k) : Below w.heap.size w wr := by
 obtain ⟨cls, p, q, h1, _⟩ := h
 exact h1.below
theorem FS.first {w w0 wr : World} {pb qb rb ub k : Nat} (h : FS w w0 wr pb qb rb ub k) (hk : k < 1048576) (kd who mode key : Int) (hkey : inKey key) :
  Calls Try.prog 25 #[.pointer (some ⟨pb, 0, none⟩), .pointer (some ⟨rb, 0, none⟩), .agg #[.int .i64 kd, .int .i64 who, .int .i64 mode, .int .i64 key]] wr
   fun e w' => e = .returned (.bool true) ∧ FS w w0 w' pb qb rb ub (k + 1) := by
 obtain ⟨cls, p, q, h1, h2, h3, h4, h5, h6, h7, h8, h9⟩ := h
 refine (played_c w w0 wr cls 1 3 pb rb p kd who mode key (by decide) (by decide) (by decide) h1 h2 h3 h6.1 h7.1 hkey (by omega)).mono ?_
 rintro e w' ⟨rfl, cls', g1, g2, g3, g4⟩
 exact ⟨rfl, cls', stepP p kd mode key, q, g1, g2, g3, h4.kept h1 g4 (by decide) (by decide) (by decide) (by decide) (by decide), h5.kept h1 g4 (by decide) (by decide), ⟨step_good h6.1 _ _ _, h6.2⟩, ⟨step_key h7.1 hkey, h7.2⟩, by have := @step_len p kd mode key; omega, by omega⟩
theorem FS.second {w w0 wr : World} {pb qb rb ub k : Nat} (h : FS w w0 wr pb qb rb ub k) (hk : k < 1048576) (kd who mode key : Int) (hkey : inKey key) :
  Calls Try.prog 25 #[.pointer (some ⟨qb, 0, none⟩), .pointer (some ⟨ub, 0, none⟩), .agg #[.int .i64 kd, .int .i64 who, .int .i64 mode, .int .i64 key]] wr
   fun e w' => e = .returned (.bool true) ∧ FS w w0 w' pb qb rb ub (k + 1) := by
 obtain ⟨cls, p, q, h1, h2, h3, h4, h5, h6, h7, h8, h9⟩ := h
 refine (played_c w w0 wr cls 2 4 qb ub q kd who mode key (by decide) (by decide) (by decide) h1 h4 h5 h6.2 h7.2 hkey (by omega)).mono ?_
 rintro e w' ⟨rfl, cls', g1, g2, g3, g4⟩
 exact ⟨rfl, cls', p, stepP q kd mode key, g1, h2.kept h1 g4 (by decide) (by decide) (by decide) (by decide) (by decide), h3.kept h1 g4 (by decide) (by decide), g2, g3, ⟨h6.1, step_good h6.2 _ _ _⟩, ⟨h7.1, step_key h7.2 hkey⟩, by omega, by have := @step_len q kd mode key; omega⟩
theorem ParF.btype {w : World} {F R : Nat → Prop} {pb : Nat} {p : Par} (h : ParF w F R pb p) : ∃ cs, w.heap[pb]? = some (.cells cs 108 (0, 0)) := by
 obtain ⟨ow, tb, ⟨_, _, _, s, c, h4, _⟩, _⟩ := h
 exact ⟨_, h4⟩
theorem fs_start {w w1 w2 w3 w4 w5 : World} {pb qb rb ub t0 t1 t2 t3 : Nat} (hb1 : Below w.heap.size w w1)
  (hp : ParF w2 (fun b => b = pb) (fun b => w1.heap.size ≤ b ∧ b < w2.heap.size ∧ b ≠ pb) pb par0) (hp1 : w1.heap.size ≤ pb) (hp2 : pb < w2.heap.size) (hb2 : Below w1.heap.size w1 w2)
  (hq : ParF w3 (fun b => b = qb) (fun b => w2.heap.size ≤ b ∧ b < w3.heap.size ∧ b ≠ qb) qb par0) (hq1 : w2.heap.size ≤ qb) (hq2 : qb < w3.heap.size) (hb3 : Below w2.heap.size w2 w3)
  (hr1 : w3.heap.size ≤ rb) (hr : RB w4 rb t0 t1 none 0 0 false) (ht0 : TabD w4 t0 false) (ht1 : TabD w4 t1 true) (hb4 : Below w3.heap.size w3 w4)
  (hu1 : w4.heap.size ≤ ub) (hu : RB w5 ub t2 t3 none 0 0 false) (ht2 : TabD w5 t2 false) (ht3 : TabD w5 t3 true) (hb5 : Below w4.heap.size w4 w5) : FS w w5 w5 pb qb rb ub 0 := by
 have hr2 := heap_lt hr
 have hu2 := heap_lt hu
 have hz := hb1.size
 have hz4 := hb4.size
 have hz5 := hb5.size
 have hq5 := (hq.later hb4).later hb5
 have hp5 := ((hp.later hb3).later hb4).later hb5
 have hr5 : RB w5 rb t0 t1 none 0 0 false := (hb5.block _ hr2).trans hr
 let cls : Nat → Nat := fun b => if b = pb then 1 else if b = qb then 2 else if b = rb then 3 else if b = ub then 4 else 0
 have hc : ∀ b, cls b = if b = pb then 1 else if b = qb then 2 else if b = rb then 3 else if b = ub then 4 else 0 := fun _ => rfl
 have c0 : ∀ b, cls b ≠ 0 → b = pb ∨ b = qb ∨ b = rb ∨ b = ub := fun b hb => by
  rw [hc] at hb
  by_cases h1 : b = pb
  · exact .inl h1
  ·
   by_cases h2 : b = qb
   · exact .inr (.inl h2)
   ·
    by_cases h3 : b = rb
    · exact .inr (.inr (.inl h3))
    ·
     by_cases h4 : b = ub
     · exact .inr (.inr (.inr h4))
     · rw [if_neg h1, if_neg h2, if_neg h3, if_neg h4] at hb; exact absurd rfl hb
 have cz : ∀ b, b ≠ pb → b ≠ qb → b ≠ rb → b ≠ ub → cls b = 0 := fun b h1 h2 h3 h4 => by rw [hc, if_neg h1, if_neg h2, if_neg h3, if_neg h4]
 have e1 : (fun b => b = pb) = (fun b => cls b = 1) := by
  funext b; rw [hc]; apply propext; constructor
  · intro e; rw [if_pos e]
  ·
   intro e
   split at e
   · assumption
   ·
    split at e
    · omega
    ·
     split at e
     · omega
     · split at e <;> omega
 have e2 : (fun b => b = qb) = (fun b => cls b = 2) := by
  funext b; rw [hc]; apply propext; constructor
  · intro e; rw [if_neg (by omega), if_pos e]
  ·
   intro e
   split at e
   · omega
   ·
    split at e
    · assumption
    ·
     split at e
     · omega
     · split at e <;> omega
 have e3 : cls rb = 3 := by rw [hc, if_neg (by omega), if_neg (by omega), if_pos rfl]
 have e4 : cls ub = 4 := by rw [hc, if_neg (by omega), if_neg (by omega), if_neg (by omega), if_pos rfl]
 rw [e1] at hp5
 rw [e2] at hq5
 have hsb : SB w w5 w5 cls := by
  refine ⟨KeepT.refl _, fun b cs t hb ht hk => ?_, fun b hb => ?_, fun b hb => ?_, ?_⟩
  ·
   have hty : ∃ cs', w5.heap[b]? = some (.cells cs' 108 (0, 0)) ∨ w5.heap[b]? = some (.cells cs' 69 (0, 0)) := by
    rcases c0 b hb with rfl | rfl | rfl | rfl
    · obtain ⟨cs', h⟩ := hp5.btype; exact ⟨cs', .inl h⟩
    · obtain ⟨cs', h⟩ := hq5.btype; exact ⟨cs', .inl h⟩
    · exact ⟨_, .inr hr5⟩
    · exact ⟨_, .inr hu⟩
   obtain ⟨cs', h | h⟩ := hty <;>
   ·
    rw [h] at ht
    injection ht with ht
    injection ht with _ ht
    subst ht
    rcases hk with h | h | h | h <;> exact absurd h (by decide)
  ·
   have := hb3.size
   rcases c0 b hb with rfl | rfl | rfl | rfl <;> omega
  ·
   have := hb2.size
   have := hb3.size
   rcases c0 b hb with rfl | rfl | rfl | rfl <;> omega
  ·
   have h2 := hb2.size
   have h3 := hb3.size
   exact (((hb1.trans (hb2.mono hz)).trans (hb3.mono (by omega))).trans (hb4.mono (by omega))).trans (hb5.mono (by omega))
 have h2 := hb2.size
 have h3 := hb3.size
 exact ⟨cls, par0, par0, hsb, ⟨_, hp5, fun b hb => ⟨cz b hb.2.2 (by omega) (by omega) (by omega), by omega⟩⟩, ⟨t0, t1, none, 0, ht0.later hb5, ht1.later hb5, hr5, OwnInts.nil _ _, (fun b hb => by cases hb), e3⟩, ⟨_, hq5, fun b hb => ⟨cz b (by omega) hb.2.2 (by omega) (by omega), by omega⟩⟩, ⟨t2, t3, none, 0, ht2, ht3, hu, OwnInts.nil _ _, (fun b hb => by cases hb), e4⟩, ⟨good_nil _, good_nil _⟩, ⟨(fun x hx => by cases hx), (fun x hx => by cases hx)⟩, Nat.le_refl _, Nat.le_refl _⟩
set_option maxRecDepth 100000 in
set_option maxHeartbeats 8000000 in
theorem keysfeed_c (s : Option Addr) (n cap : Nat) (O : Nat → Int × Int × Int × Int) (w : World) (hn : n < 1048577) (hs : IsOps w s n O) :
  Calls Try.prog 8 #[.slice s n cap] w fun e w' => e = .returned (.bool true) ∧ Below w.heap.size w w' := by
 have HS := Lib.hid hs
 clear hs
 go_enter Try.func8, Try.ntmps8
 go_wp2_with fail
 refine (fits_c s n cap O w hn HS.out).mono ?_
 rintro e w' ⟨b, rfl, rfl⟩
 cases b
 ·
  go_wp2
  go_ret
  exact ⟨rfl, Below.refl _ _⟩
 ·
  go_wp2_with fail
  refine (alive_c w).mono ?_
  rintro e w1 ⟨rfl, hb1⟩
  go_wp2_with fail
  refine (newp_c w1).mono ?_
  rintro e w2 ⟨pb, rfl, hp, hp1, hp2, hb2⟩
  go_wp2_with fail
  refine (newp_c w2).mono ?_
  rintro e w3 ⟨qb, rfl, hq, hq1, hq2, hb3⟩
  have hpn := peq_nil ⟨pb, 0, none⟩ w3
  have hqn := peq_nil ⟨qb, 0, none⟩ w3
  go_wp2_with fail
  refine (dnew_c w3).mono ?_
  rintro e w4 ⟨rb, t0, t1, rfl, hr1, hr, ht0, ht1, hb4⟩
  go_wp2_with fail
  refine (dnew_c w4).mono ?_
  rintro e w5 ⟨ub, t2, t3, rfl, hu1, hu, ht2, ht3, hb5⟩
  have HFS := Lib.hid (fs_start hb1 hp hp1 hp2 hb2 hq hq1 hq2 hb3 hr1 hr ht0 ht1 hb4 hu1 hu ht2 ht3 hb5)
  clear hb1 hp hp1 hp2 hb2 hq hq1 hq2 hb3 hr1 hr ht0 ht1 hb4 hu1 hu ht2 ht3 hb5 hpn hqn
  go_wp2_with fail
  go_loopg [8, 9] n (fun g iv ov wr => ∃ k : Nat, k + g = n ∧ iv = .int .i64 k ∧ FS w w5 wr pb qb rb ub k)
  case atStart => exact ⟨0, by omega, rfl, HFS.out⟩
  case round =>
   clear HFS
   obtain ⟨k, hk, rfl, hfs⟩ := hrel
   have HF := Lib.hid hfs
   clear hfs
   by_cases hlt : k < n
   ·
    rcases HS.out with h0 | ⟨b, off, rfl, hbl, hlk⟩
    · exfalso; omega
    ·
     obtain ⟨d0, d1, d2, d3, d4⟩ := hlk k hlt
     have hB := HF.out.below
     have c0 := (hB.cell (p := ⟨b, off + k * 4, none⟩) hbl).trans d0
     have c1 := (hB.cell (p := ⟨b, off + k * 4 + 1, none⟩) hbl).trans d1
     have c2 := (hB.cell (p := ⟨b, off + k * 4 + 2, none⟩) hbl).trans d2
     have c3 := (hB.cell (p := ⟨b, off + k * 4 + 3, none⟩) hbl).trans d3
     have H4 := Lib.hid d4
     clear d0 d1 d2 d3 d4 hB hlk
     generalize O k = o at c0 c1 c2 c3 H4
     obtain ⟨kd, who, mode, key⟩ := o
     simp only at c0 c1 c2 c3
     have q1 : (k : Int) < (n : Int) := by omega
     have q2 : (0 : Int) ≤ (k : Int) := by omega
     go_wp2_with fail
     ·
      refine (HF.out.first (by omega) kd who mode key H4.out).mono ?_
      rintro e w6 ⟨rfl, hf6⟩
      have HF6 := Lib.hid hf6
      clear hf6
      go_wp2
      go_roundg (gk - 1)
      case measure => omega
      case rel => exact ⟨k + 1, by omega, by go_num, HF6.out⟩
     ·
      refine (HF.out.second (by omega) kd who mode key H4.out).mono ?_
      rintro e w6 ⟨rfl, hf6⟩
      have HF6 := Lib.hid hf6
      clear hf6
      go_wp2
      go_roundg (gk - 1)
      case measure => omega
      case rel => exact ⟨k + 1, by omega, by go_num, HF6.out⟩
   ·
    have hkn : ¬ (k : Int) < (n : Int) := by omega
    go_wp2
    go_ret
    exact ⟨rfl, HF.out.below⟩
end Go.Proofs.Ytampjndfhpjheaa
