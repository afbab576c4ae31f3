/- Contract: KeysFresh. Condition: keys, a register and an argument of 64 bits. -/
import Derived.Test.YtampjndfhpjheaaHd
namespace Go.Proofs.Ytampjndfhpjheaa
open Go.RowKit
set_option linter.unusedVariables false
set_option linter.unusedSimpArgs false
theorem HC.put {w a : World} {x : Nat → Nat} {n0 g n c j : Nat} {l : List Int} (hm : MB w a x n0) (h : HC a x n0 20 (.slice (some ⟨g, 0, none⟩) n c) l) (hj : j < l.length) (k : Int) :
    Sp a (a.setCell ⟨g, j, none⟩ (.int .i64 k)) x x 20 ∧ HC (a.setCell ⟨g, j, none⟩ (.int .i64 k)) x n0 20 (.slice (some ⟨g, 0, none⟩) n c) (l.set j k) := by
  have hx := (h.2 g rfl).1
  have ht : Touch (fun b => x b = 20) a (a.setCell ⟨g, j, none⟩ (.int .i64 k)) := Touch.setCell (fun b => x b = 20) a (p := ⟨g, j, none⟩) hx _
  have hz : (a.setCell ⟨g, j, none⟩ (.int .i64 k)).heap.size = a.heap.size := by simp
  refine ⟨⟨ht, fun _ _ => rfl, fun b hb => .inl (hm.zero hb), fun b hb => hm.zero (by omega)⟩, ?_, h.2⟩
  have ho := h.1
  rcases ho.2 with ⟨e1, e2⟩ | ⟨g2, cap, cur, e1, _, hgg, _⟩
  · cases e1
  · have e3 : g2 = g := by injection e1 with e1; injection e1 with e1; injection e1 with e1; exact e1.symm
    subst e3
    refine own_row_set ho hgg (block_set _ hgg) (by simp) (fun q => ?_)
    rw [Array.getElem?_setIfInBounds]
    by_cases e4 : j = q
    · subst e4
      rw [if_pos rfl, if_pos rfl]
      have : j < cur.size := by
        have h5 := World.ownsRow.cells (g := g2) ho rfl j (.int .i64 (l[j]'hj)) (by rw [List.getElem?_map, List.getElem?_eq_getElem hj]; rfl)
        rw [Go.WideShapes.add_plain, Nat.zero_add, block_cell hgg] at h5
        exact Classical.byContradiction fun hn => by rw [Array.getElem?_eq_none (by omega)] at h5; cases h5
      rw [if_pos this]
    · rw [if_neg e4, if_neg (fun h => e4 h.symm)]
theorem HC.more {w a b : World} {x : Nat → Nat} {n0 n c : Nat} {s : Option Addr} {v' : Value} {l l' : List Int} (hm : MB w a x n0) (hv : HC a x n0 20 (.slice s n c) l) (ho : OwnInts b 0 v' l') (hg : Grew a b (.slice s n c) v' n) :
    ∃ y, Sp a b x y 20 ∧ HC b y n0 20 v' l' ∧ ∀ u lu, HC a x n0 20 u lu → ∃ lu', lu'.length = lu.length ∧ HC b y n0 20 u lu' ∧ (lu.length ≤ n → lu' = lu) := by
  have ht : Touch (fun q => x q = 20) a b := hg.1.wide (fun q _ hq => (hv.2 q hq).1)
  refine ⟨_, newQ_sp hm ht, ⟨ho, fun q hq => ?_⟩, fun u lu hu => ?_⟩
  · rcases hg.2.1 q hq with e | e
    · exact ⟨by rw [newQ_old (hv.lt e)]; exact (hv.2 q e).1, (hv.2 q e).2⟩
    · exact ⟨newQ_new e (World.ownsRow.lt ho q hq).2, Nat.le_trans hm.n e⟩
  · obtain ⟨lu', h1, h2, h3⟩ := hg.2.2 0 u lu hu.1
    exact ⟨lu', h1, ⟨h2, fun q hq => ⟨by rw [newQ_old (hu.lt hq)]; exact (hu.2 q hq).1, (hu.2 q hq).2⟩⟩, h3⟩
theorem grew1 {a b : World} {s : Option Addr} {n c : Nat} {v' : Value} (hg : a.grownBy b (Value.slice s n c).ownBlock) (hat : v'.ownBlock = (Value.slice s n c).ownBlock ∨ ∃ q, v'.ownBlock = some q ∧ a.heap.size ≤ q) (hk : KeepS a b n) : Grew a b (.slice s n c) v' n :=
  ⟨Touch.grown hg (fun q hq => hq), fun q hq => by
    rcases hat with e | ⟨q', e, he⟩
    · exact .inl (e ▸ hq)
    · have h3 : some q' = some q := e.symm.trans hq
      injection h3 with h3
      exact .inr (by omega), hk⟩
theorem each2 {wr : World} {x : Nat → Nat} {n0 : Nat} {u v : Value} {lu lv : List Int} (hu : HC wr x n0 0 u lu) (hv : HC wr x n0 0 v lv) : ∀ i (h : i < [u, v].length) (h' : i < [lu, lv].length), HC wr x n0 0 [u, v][i] [lu, lv][i] := by
  intro i h h'
  rcases i with _ | _ | i
  · exact hu
  · exact hv
  · simp at h; omega
theorem each4 {wr : World} {x : Nat → Nat} {n0 : Nat} {u v p q : Value} {lu lv lp lq : List Int} (hu : HC wr x n0 0 u lu) (hv : HC wr x n0 0 v lv) (hp : HC wr x n0 0 p lp) (hq : HC wr x n0 0 q lq) : ∀ i (h : i < [u, v, p, q].length) (h' : i < [lu, lv, lp, lq].length), HC wr x n0 0 [u, v, p, q][i] [lu, lv, lp, lq][i] := by
  intro i h h'
  rcases i with _ | _ | _ | _ | i
  · exact hu
  · exact hv
  · exact hp
  · exact hq
  · simp at h; omega
theorem lone2 {vs : List Value} {u v : Value} {N : Nat} (h : Lone vs) (hN : ∀ i (hi : i < vs.length) b, vs[i].ownBlock = some b → b < N) (hu : ∀ b, u.ownBlock = some b → N ≤ b) (hv : ∀ b, v.ownBlock = some b → N ≤ b) (huv : ∀ b, u.ownBlock = some b → v.ownBlock ≠ some b) : Lone (vs ++ [u, v]) := by
  intro i j hi hj hne b hb
  rw [List.length_append] at hi hj
  simp only [List.length_cons, List.length_nil] at hi hj
  rw [List.getElem_append] at hb ⊢
  intro hb2
  have h2 : ∀ q (hq : q < [u, v].length), ∀ b, [u, v][q].ownBlock = some b → N ≤ b := fun q hq b hb => by
    rcases q with _ | _ | q
    · exact hu b hb
    · exact hv b hb
    · simp at hq; omega
  split at hb
  · rename_i h1
    split at hb2
    · exact h i j h1 (by assumption) hne b hb hb2
    · have := hN i h1 b hb
      have := h2 _ _ b hb2
      omega
  · split at hb2
    · rename_i h3
      have := hN j h3 b hb2
      have := h2 _ _ b hb
      omega
    · have e1 : i = vs.length ∨ i = vs.length + 1 := by omega
      have e2 : j = vs.length ∨ j = vs.length + 1 := by omega
      rcases e1 with rfl | rfl <;> rcases e2 with rfl | rfl
      · exact hne rfl
      · simp at hb hb2; exact huv b hb hb2
      · simp at hb hb2; exact huv b hb2 hb
      · exact hne rfl
theorem box5 {w : World} {b : Nat} {x1 x2 x3 x4 x5 : Int} {t : TypeId} (h : w.heap[b]? = some (.cells #[.int .i64 x1, .int .i64 x2, .int .i64 x3, .int .i64 x4, .int .i64 x5] t (0, 0))) :
    w.cell? ⟨b, 0, none⟩ = some (.int .i64 x1) ∧ w.cell? ⟨b, 1, none⟩ = some (.int .i64 x2) ∧ w.cell? ⟨b, 2, none⟩ = some (.int .i64 x3) ∧ w.cell? ⟨b, 3, none⟩ = some (.int .i64 x4) ∧ w.cell? ⟨b, 4, none⟩ = some (.int .i64 x5) :=
  ⟨block_cell h, block_cell h, block_cell h, block_cell h, block_cell h⟩
/-- two slices just made -/
structure TwoM (N : Nat) (wc : World) (x : Nat → Nat) (n0 : Nat) (sx : Option Addr) (cx : Nat) (lx : List Int) (sy : Option Addr) (cy : Nat) (ly : List Int) : Prop where
  a : HC wc x n0 0 (.slice sx lx.length cx) lx
  b : HC wc x n0 0 (.slice sy ly.length cy) ly
  na : ∀ b, (Value.slice sx lx.length cx).ownBlock = some b → N ≤ b
  nb : ∀ b, (Value.slice sy ly.length cy).ownBlock = some b → N ≤ b
  ab : ∀ b, (Value.slice sx lx.length cx).ownBlock = some b → (Value.slice sy ly.length cy).ownBlock ≠ some b
  la : lx.length < 1000
  lb : ly.length < 1000
theorem TwoM.made {w0 wa wb wc : World} {x : Nat → Nat} {n0 cx cy : Nat} {sx sy : Option Addr} {lx ly : List Int} (hm : MB w0 wa x n0) (h : Made wa wb sx cx lx) (h' : Made wb wc sy cy ly) : TwoM wa.heap.size wc x n0 sx cx lx sy cy ly := by
  have hmb := hm.sp (Sp.of hm h.below 20) (by decide)
  have hc := h.hc hm
  exact ⟨hc.sp (Sp.of hmb h'.below 20) (by decide), h'.hc hmb, h.new, fun b hb => Nat.le_trans h.below.size (h'.new b hb), fun b h1 h2 => by have := hc.lt h1; have := h'.new b h2; omega, h.len, h'.len⟩
theorem TwoM.swap {N : Nat} {wc : World} {x : Nat → Nat} {n0 cx cy : Nat} {sx sy : Option Addr} {lx ly : List Int} (h : TwoM N wc x n0 sx cx lx sy cy ly) : TwoM N wc x n0 sy cy ly sx cx lx :=
  ⟨h.b, h.a, h.nb, h.na, fun b h1 h2 => h.ab b h2 h1, h.lb, h.la⟩
theorem TwoM.less {N N' : Nat} {wc : World} {x : Nat → Nat} {n0 cx cy : Nat} {sx sy : Option Addr} {lx ly : List Int} (h : TwoM N wc x n0 sx cx lx sy cy ly) (hN : N' ≤ N) : TwoM N' wc x n0 sx cx lx sy cy ly :=
  ⟨h.a, h.b, fun b hb => Nat.le_trans hN (h.na b hb), fun b hb => Nat.le_trans hN (h.nb b hb), h.ab, h.la, h.lb⟩
/-- all that holds at a round's begin -/
structure FrS (w wr : World) (x : Nat → Nat) (n0 pb qb : Nat) (C : Array Value) (vw : Value) (lw : List Int) (P : Par) (k n1 n3 : Nat) (s1 : Option Addr) (c1 : Nat) (vs1 : List Value) (s2 : Option Addr) (c2 : Nat) (vs2 : List Value) (s3 : Option Addr) (c3 : Nat) (vs3 : List Value) (s4 : Option Addr) (c4 : Nat) (vs4 : List Value) (la lb : List (List Int)) : Prop where
  kf : KF w wr x n0 pb qb w.heap.size C vw lw P P ⟨.slice s1 n1 c1, vs1, la⟩ ⟨.slice s2 n1 c2, vs2, la⟩ ⟨.slice s3 n3 c3, vs3, lb⟩ ⟨.slice s4 n3 c4, vs4, lb⟩
  z1 : vs1.length = n1
  z3 : vs3.length = n3
  la : ∀ l ∈ la, l.length < 2000
  lb : ∀ l ∈ lb, l.length < 1000
  pl : P.pend.length ≤ k
  pk : ∀ x ∈ P.pend, inKey x
set_option maxRecDepth 100000 in
set_option maxHeartbeats 40000000 in
theorem fresh_c (mode : Int) (s : Option Addr) (n cap : Nat) (l : List Int) (c : Cmd) (w : World) (hl : l.length = n) (hr : IsInts w s n (gl l)) (hk : ∀ x ∈ l, inKey x) (hreg : inKey c.reg) (harg : inKey c.arg) :
    Calls Try.prog 11 #[.int .i64 mode, .slice s n cap, .agg c.cells] w fun e w' => e = .returned (.bool true) ∧ Below w.heap.size w w' := by
  have HL := Lib.hid hl
  have HR := Lib.hid hr
  have HKS := Lib.hid hk
  obtain ⟨y1, y2, y3, y4, y5⟩ := c
  have HSPM := Lib.hid (fun (W : World) => spell_m mode (⟨y1, y2, y3, y4, y5⟩ : Cmd) W hreg harg)
  obtain ⟨SP, hSP⟩ : ∃ SP, (spellP (selP mode) (⟨y1, y2, y3, y4, y5⟩ : Cmd)).getD [] = SP := ⟨_, rfl⟩
  rw [hSP] at HSPM
  replace HSPM : Hid (∀ W : World, Calls Try.prog 16 #[.int .i64 mode, .agg #[.int .i64 y1, .int .i64 y2, .int .i64 y3, .int .i64 y4, .int .i64 y5]] W fun e b => ∃ s k, e = .returned (.slice s SP.length k) ∧ Made W b s k SP) := HSPM
  have hbn := below_new2 w (.cells #[.int .i64 y1, .int .i64 y2, .int .i64 y3, .int .i64 y4, .int .i64 y5] 44)
  have hkb := one_new w (.cells #[.int .i64 y1, .int .i64 y2, .int .i64 y3, .int .i64 y4, .int .i64 y5] 44)
  have HB0 := Lib.hid hbn
  have HBX := Lib.hid hkb
  clear hl hr hk hreg harg hSP hbn hkb
  show Calls Try.prog 11 #[.int .i64 mode, .slice s n cap, .agg #[.int .i64 y1, .int .i64 y2, .int .i64 y3, .int .i64 y4, .int .i64 y5]] w _
  go_enter Try.func11, Try.ntmps11
  go_upto_region 1 with (fail)
  generalize w.alloc (.cells #[.int .i64 y1, .int .i64 y2, .int .i64 y3, .int .i64 y4, .int .i64 y5] 44) = w0 at HB0 HBX ⊢
  by_cases h200 : 200 < n
  · have q1 : (200 : Int) < (n : Int) := by omega
    go_wp2
    go_ret
    exact ⟨rfl, HB0.out⟩
  · have q1 : ¬ (200 : Int) < (n : Int) := by omega
    go_wp2_with fail
    refine (alive_c w0).mono ?_
    rintro e w1 ⟨rfl, hb1⟩
    have HB1 := Lib.hid (HB0.out.trans (hb1.mono HB0.out.size))
    have HBX1 := Lib.hid ((hb1.block _ (heap_lt HBX.out)).trans HBX.out)
    have hz0 := heap_lt HBX1.out
    clear hb1 HB0 HBX
    go_wp2_with fail
    refine (newp_c w1).mono ?_
    rintro e w2 ⟨pb, rfl, hp, hp1, hp2, hb2⟩
    go_wp2_with fail
    refine (newp_c w2).mono ?_
    rintro e w3 ⟨qb, rfl, hq, hq1, hq2, hb3⟩
    have hpn := peq_nil ⟨pb, 0, none⟩ w3
    have hqn := peq_nil ⟨qb, 0, none⟩ w3
    have HP := Lib.hid (hp.later hb3)
    have HQ := Lib.hid hq
    have hz2 := hb2.size
    have hz3 := hb3.size
    have HB3 := Lib.hid (HB1.out.trans ((hb2.trans (hb3.mono hb2.size)).mono HB1.out.size))
    have HBX3 := Lib.hid ((hb3.block _ (by omega)).trans ((hb2.block _ hz0).trans HBX1.out))
    clear hp hq hb2 hb3 HB1 HBX1
    obtain ⟨m0, m1, m2, m3, m4⟩ := box5 HBX3.out
    go_wp2_with fail
    refine (HSPM.out w3).mono ?_
    clear m0 m1 m2 m3 m4 hpn hqn
    rintro e w4 ⟨ss, cs, rfl, hms⟩
    have HMS := Lib.hid hms
    clear hms
    go_upto_region 10 with (first
      | (at_builtin; refine wpList_copyM rfl _ _ rfl rfl ss SP.length cs SP rfl HMS.out.own (by have := HMS.out.len; omega) ?_; intro sw cw w5 how hnw hbw; have HOW := Lib.hid how; have HNW := Lib.hid hnw; have HBW := Lib.hid hbw; clear how hnw hbw))
    have hkf : ∃ x, KF w w5 x w3.heap.size pb qb w.heap.size #[.int .i64 y1, .int .i64 y2, .int .i64 y3, .int .i64 y4, .int .i64 y5] (.slice sw SP.length cw) SP par0 par0 ⟨.slice none 0 0, [], []⟩ ⟨.slice none 0 0, [], []⟩ ⟨.slice none 0 0, [], []⟩ ⟨.slice none 0 0, [], []⟩ := by
      have hb5 : Below w3.heap.size w3 w5 := HMS.out.below.trans (HBW.out.mono HMS.out.below.size)
      have hz5 := hb5.size
      refine ⟨fun b => if b = pb then 1 else if b = qb then 2 else 0, ⟨fun b hb => ?_, fun b hb => ?_, HB3.out.trans (hb5.mono HB3.out.size), hz5⟩, ⟨fun b => w1.heap.size ≤ b ∧ b < w2.heap.size ∧ b ≠ pb, ?_, fun b hb => ⟨?_, by omega⟩⟩, ⟨fun b => w2.heap.size ≤ b ∧ b < w3.heap.size ∧ b ≠ qb, ?_, fun b hb => ⟨?_, by omega⟩⟩, RW.nil _ _ _ _, RW.nil _ _ _ _, RW.nil _ _ _ _, RW.nil _ _ _ _, (fun i j hi => by cases hi), ⟨(hb5.block _ (by omega)).trans HBX3.out, ?_⟩, ⟨HOW.out, fun b hb => ⟨?_, Nat.le_trans HMS.out.below.size (HNW.out b hb)⟩⟩⟩
      · have hb : (if b = pb then 1 else if b = qb then 2 else 0) ≠ 0 := hb
        split at hb
        · omega
        · split at hb
          · omega
          · exact absurd rfl hb
      · have hb : (if b = pb then 1 else if b = qb then 2 else 0) ≠ 0 := hb
        split at hb
        · omega
        · split at hb
          · omega
          · exact absurd rfl hb
      · have e : (fun b => b = pb) = (fun b => (if b = pb then 1 else if b = qb then 2 else 0) = 1) := by
          funext b; apply propext; constructor
          · intro e; rw [if_pos e]
          · intro e
            split at e
            · assumption
            · split at e <;> omega
        have h := HP.out.later hb5
        rw [e] at h
        exact h
      · simp only; rw [if_neg hb.2.2, if_neg (by omega)]
      · have e : (fun b => b = qb) = (fun b => (if b = pb then 1 else if b = qb then 2 else 0) = 2) := by
          funext b; apply propext; constructor
          · intro e; rw [if_neg (by omega), if_pos e]
          · intro e
            split at e
            · omega
            · split at e
              · assumption
              · omega
        have h := HQ.out.later hb5
        rw [e] at h
        exact h
      · simp only; rw [if_neg (by omega), if_neg hb.2.2]
      · show (if _ then 1 else if _ then 2 else 0) = 0; rw [if_neg (by omega), if_neg (by omega)]
      · have := HNW.out b hb
        have := HMS.out.below.size
        show (if _ then 1 else if _ then 2 else 0) = 0; rw [if_neg (by omega), if_neg (by omega)]
    obtain ⟨x0, hkf⟩ := hkf
    have HKF0 := Lib.hid hkf
    have hn0 : w.heap.size ≤ w3.heap.size := by omega
    generalize w3.heap.size = n0 at HKF0 hn0
    clear hkf HP HQ HB3 HBX3 HMS HOW HNW HBW hz0 hz2 hz3 hp1 hp2 hq1 hq2
    obtain ⟨lw, hlw⟩ : ∃ lw, lw = SP := ⟨_, rfl⟩
    go_wp2_with fail
    go_loopg [11, 12, 13, 14, 15, 16] n (fun gg v1 v2 v3 v4 mv iv wr => ∃ (k mk : Nat) (x : Nat → Nat) (P : Par) (n1 n3 : Nat) (s1 : Option Addr) (c1 : Nat) (vs1 : List Value) (s2 : Option Addr) (c2 : Nat) (vs2 : List Value) (s3 : Option Addr) (c3 : Nat) (vs3 : List Value) (s4 : Option Addr) (c4 : Nat) (vs4 : List Value) (la lb : List (List Int)), k + gg = n ∧ v1 = .slice s1 n1 c1 ∧ v2 = .slice s2 n1 c2 ∧ v3 = .slice s3 n3 c3 ∧ v4 = .slice s4 n3 c4 ∧ mv = .int .i64 mk ∧ iv = .int .i64 k ∧ n1 = 8 * k ∧ n3 = 4 * k ∧ mk ≤ k * 3000 ∧ FrS w wr x n0 pb qb #[.int .i64 y1, .int .i64 y2, .int .i64 y3, .int .i64 y4, .int .i64 y5] (.slice sw SP.length cw) SP P k n1 n3 s1 c1 vs1 s2 c2 vs2 s3 c3 vs3 s4 c4 vs4 la lb)
    case atStart => exact ⟨0, 0, x0, par0, 0, 0, none, 0, [], none, 0, [], none, 0, [], none, 0, [], [], [], by omega, rfl, rfl, rfl, rfl, rfl, rfl, rfl, rfl, by omega, ⟨HKF0.out, rfl, rfl, (fun l hl => by cases hl), (fun l hl => by cases hl), Nat.le_refl _, (fun x hx => by cases hx)⟩⟩
    case round =>
      clear HKF0
      obtain ⟨k, mk, x, P, n1, n3, s1, c1, vs1, s2, c2, vs2, s3, c3, vs3, s4, c4, vs4, la, lb, hk, rfl, rfl, rfl, rfl, rfl, rfl, hn1, hn3, hmk, hfs⟩ := hrel
      have HF := Lib.hid hfs
      have HN1 := Lib.hid hn1
      have HN3 := Lib.hid hn3
      have hn1b : n1 ≤ 1600 := by omega
      have hn3b : n3 ≤ 800 := by omega
      clear hfs hn1 hn3
      by_cases hlt : k < n
      · obtain ⟨gs, os, rfl, c0⟩ := HR.out.at HF.out.kf.m.below hlt
        obtain ⟨key, hkey⟩ : ∃ key, gl l k = key := ⟨_, rfl⟩
        have hik : inKey key := by
          rw [← hkey]
          unfold gl
          rw [List.getD_eq_getElem?_getD, List.getElem?_eq_getElem (by rw [HL.out]; exact hlt)]
          exact HKS.out _ (List.getElem_mem _)
        rw [hkey] at c0
        have HKEY := Lib.hid hkey
        have hpl := HF.out.pl
        have hfp := HF.out.kf.p.feed HF.out.kf.m (by decide) mode key HF.out.pk hik (by omega)
        have HPEND := Lib.hid (feed_pend (mode := mode) HF.out.pk hik)
        have hplen := @feed_plen P mode key
        obtain ⟨F, hF⟩ : ∃ F, feedP P mode key = F := ⟨_, rfl⟩
        rw [hF] at hfp HPEND hplen
        have HFE := Lib.hid hF
        obtain ⟨P', ⟨a1, a2, a3, a4, a5⟩, m⟩ := F
        have HFP : Hid (Calls Try.prog 26 #[.pointer (some ⟨pb, 0, none⟩), .int .i64 mode, .int .i64 key] wr fun e b => e = .returned (.tuple #[.agg #[.int .i64 a1, .int .i64 a2, .int .i64 a3, .int .i64 a4, .int .i64 a5], .int .i64 (m : Nat)]) ∧ ∃ y, Sp wr b x y 1 ∧ PQ b y n0 1 pb P') := Lib.hid hfp
        have HIK := Lib.hid hik
        have hpl2 : P'.pend.length ≤ k + 1 := by have h : P'.pend.length ≤ P.pend.length + 1 := hplen; omega
        clear hfp hF hplen hik hkey
        have q1 : (k : Int) < (n : Int) := by omega
        have q2 : (0 : Int) ≤ (k : Int) := by omega
        go_wp2_with fail
        refine HFP.out.mono ?_
        clear HFP c0
        rintro e wa ⟨rfl, x2, st2, hp2⟩
        have hka := HF.out.kf.feedp st2 hp2
        have hb3 := below_new2 wa (.cells #[.int .i64 a1, .int .i64 a2, .int .i64 a3, .int .i64 a4, .int .i64 a5] 44)
        have hk3 := one_new wa (.cells #[.int .i64 a1, .int .i64 a2, .int .i64 a3, .int .i64 a4, .int .i64 a5] 44)
        have HKA := Lib.hid (hka.later hb3)
        have HK3 := Lib.hid hk3
        have hzc : x2 wa.heap.size = 0 := hka.m.zero (Nat.le_refl _)
        have HPK := Lib.hid HF.out.pk
        have HZS := Lib.hid (show vs1.length = n1 ∧ vs3.length = n3 ∧ (∀ l ∈ la, l.length < 2000) ∧ (∀ l ∈ lb, l.length < 1000) from ⟨HF.out.z1, HF.out.z3, HF.out.la, HF.out.lb⟩)
        clear st2 hp2 hka hb3 hk3 HF
        go_upto_region 19 with (fail)
        generalize wa.alloc (.cells #[.int .i64 a1, .int .i64 a2, .int .i64 a3, .int .i64 a4, .int .i64 a5] 44) = wb at HKA HK3 ⊢
        generalize wa.heap.size = cb at HK3 hzc ⊢
        obtain ⟨gs', os', e', c0⟩ := HR.out.at HKA.out.m.below hlt
        cases e'
        rw [HKEY.out] at c0
        have hfq := HKA.out.q.feed HKA.out.m (by decide) mode key HPK.out HIK.out (by omega)
        rw [HFE.out] at hfq
        have HFQ : Hid (Calls Try.prog 26 #[.pointer (some ⟨qb, 0, none⟩), .int .i64 mode, .int .i64 key] wb fun e b => e = .returned (.tuple #[.agg #[.int .i64 a1, .int .i64 a2, .int .i64 a3, .int .i64 a4, .int .i64 a5], .int .i64 (m : Nat)]) ∧ ∃ y, Sp wb b x2 y 2 ∧ PQ b y n0 2 qb P') := Lib.hid hfq
        clear hfq
        go_wp2_with fail
        refine HFQ.out.mono ?_
        clear HFQ c0
        rintro e wc ⟨rfl, x3, st3, hq3⟩
        have hkc := HKA.out.feedq st3 hq3
        have hk4 := (st3.touch.block cb (heap_lt HK3.out) (fun e => by have e : x2 cb = 2 := e; omega)).trans HK3.out
        have hb5 := below_new2 wc (.cells #[.int .i64 a1, .int .i64 a2, .int .i64 a3, .int .i64 a4, .int .i64 a5] 44)
        have hk5 := one_new wc (.cells #[.int .i64 a1, .int .i64 a2, .int .i64 a3, .int .i64 a4, .int .i64 a5] 44)
        have HKC := Lib.hid (hkc.later hb5)
        have HK4 := Lib.hid ((hb5.block cb (heap_lt hk4)).trans hk4)
        have HK5 := Lib.hid hk5
        clear st3 hq3 hkc hk4 hb5 hk5 HKA HK3 HPK HFE HIK hzc
        go_upto_region 20 with (fail)
        generalize wc.alloc (.cells #[.int .i64 a1, .int .i64 a2, .int .i64 a3, .int .i64 a4, .int .i64 a5] 44) = wd at HKC HK4 HK5 ⊢
        generalize wc.heap.size = cb2 at HK5 ⊢
        obtain ⟨m0, m1, m2, m3, m4⟩ := box5 HK4.out
        obtain ⟨e0, e1, e2, e3, e4⟩ := box5 HK5.out
        have HFS : Hid (FrS w wd x3 n0 pb qb #[.int .i64 y1, .int .i64 y2, .int .i64 y3, .int .i64 y4, .int .i64 y5] (.slice sw SP.length cw) SP P' (k + 1) n1 n3 s1 c1 vs1 s2 c2 vs2 s3 c3 vs3 s4 c4 vs4 la lb) := Lib.hid ⟨HKC.out, HZS.out.1, HZS.out.2.1, HZS.out.2.2.1, HZS.out.2.2.2, hpl2, HPEND.out⟩
        clear HKC HK4 HK5 HZS HPEND hpl
        go_upto_region 22 with (fail)
        clear m0 m1 m2 m3 m4 e0 e1 e2 e3 e4
        go_wp2_with fail
        go_loopg [11, 12, 13, 14, 15, 21] 2 (fun gg v1 v2 v3 v4 mv tv wq => ∃ (t mk2 : Nat) (x : Nat → Nat) (n1 n3 : Nat) (s1 : Option Addr) (c1 : Nat) (vs1 : List Value) (s2 : Option Addr) (c2 : Nat) (vs2 : List Value) (s3 : Option Addr) (c3 : Nat) (vs3 : List Value) (s4 : Option Addr) (c4 : Nat) (vs4 : List Value) (la lb : List (List Int)), t + gg = 2 ∧ v1 = .slice s1 n1 c1 ∧ v2 = .slice s2 n1 c2 ∧ v3 = .slice s3 n3 c3 ∧ v4 = .slice s4 n3 c4 ∧ mv = .int .i64 mk2 ∧ tv = .int .i64 t ∧ n1 = 8 * k + 4 * t ∧ n3 = 4 * k + 2 * t ∧ mk2 ≤ k * 3000 + t * 1500 ∧ FrS w wq x n0 pb qb #[.int .i64 y1, .int .i64 y2, .int .i64 y3, .int .i64 y4, .int .i64 y5] (.slice sw SP.length cw) SP P' (k + 1) n1 n3 s1 c1 vs1 s2 c2 vs2 s3 c3 vs3 s4 c4 vs4 la lb)
        case atStart => exact ⟨0, mk, x3, n1, n3, s1, c1, vs1, s2, c2, vs2, s3, c3, vs3, s4, c4, vs4, la, lb, by omega, rfl, rfl, rfl, rfl, rfl, rfl, HN1.out, HN3.out, by omega, HFS.out⟩
        case round =>
          clear HFS
          obtain ⟨t, mk2, x, n1, n3, s1, c1, vs1, s2, c2, vs2, s3, c3, vs3, s4, c4, vs4, la, lb, ht, rfl, rfl, rfl, rfl, rfl, rfl, hn1, hn3, hmk2, hfs⟩ := hrel
          have HFT := Lib.hid hfs
          have HN1T := Lib.hid hn1
          have HN3T := Lib.hid hn3
          have hn1c : n1 ≤ 1700 := by omega
          have hn3c : n3 ≤ 900 := by omega
          have hk200 : k < 200 := by omega
          have hpl3 := HFT.out.pl
          clear hfs hn1 hn3
          by_cases hlt2 : t < 2
          · have q3 : (t : Int) < 2 := by omega
            go_wp2_with fail
            refine (HFT.out.kf.p.pend (w := w) (by omega)).mono ?_
            rintro e wa ⟨sx, cx, rfl, hmx⟩
            have HMX := Lib.hid hmx
            have HKA := Lib.hid (HFT.out.kf.later hmx.below)
            clear hmx
            go_wp2_with fail
            refine (HKA.out.p.pend (w := w) (by omega)).mono ?_
            rintro e wb ⟨sy, cy, rfl, hmy⟩
            have HKB := Lib.hid (HKA.out.later hmy.below)
            have HTM := Lib.hid (TwoM.made HFT.out.kf.m HMX.out hmy)
            have hzb : wr.heap.size ≤ wb.heap.size := Nat.le_trans HMX.out.below.size hmy.below.size
            clear hmy HMX HKA
            go_upto_if 94 with (fail)
            obtain ⟨tq, htq⟩ : ∃ tq, ((t : Int) == 1) = tq := ⟨_, rfl⟩
            have HTQ := Lib.hid htq
            rw [htq]
            clear htq
            go_cut [22, 23] from 95 to 100 (fun xv yv wc => ∃ (sx : Option Addr) (lx : List Int) (cx : Nat) (sy : Option Addr) (ly : List Int) (cy : Nat), xv = .slice sx lx.length cx ∧ yv = .slice sy ly.length cy ∧ KF w wc x n0 pb qb w.heap.size #[.int .i64 y1, .int .i64 y2, .int .i64 y3, .int .i64 y4, .int .i64 y5] (.slice sw SP.length cw) SP P' P' ⟨.slice s1 n1 c1, vs1, la⟩ ⟨.slice s2 n1 c2, vs2, la⟩ ⟨.slice s3 n3 c3, vs3, lb⟩ ⟨.slice s4 n3 c4, vs4, lb⟩ ∧ TwoM wr.heap.size wc x n0 sx cx lx sy cy ly)
            case first =>
              cases tq
              case true =>
                obtain ⟨z0, z1, z2, z3, z4⟩ := box5 HKB.out.box.1
                have hbl := heap_lt HKB.out.box.1
                have HSA := Lib.hid (HSPM.out wb.drew)
                go_wp2_with fail
                go_region_held3 (fun w' => w'.cell? ⟨w.heap.size, 0, none⟩ = some (.int .i64 y1) ∧ w'.cell? ⟨w.heap.size, 1, none⟩ = some (.int .i64 y2) ∧ w'.cell? ⟨w.heap.size, 2, none⟩ = some (.int .i64 y3) ∧ w'.cell? ⟨w.heap.size, 3, none⟩ = some (.int .i64 y4) ∧ w'.cell? ⟨w.heap.size, 4, none⟩ = some (.int .i64 y5))
                  (first | with_reducible exact hSB.out | with_reducible exact hSA1.out | exact ⟨z0, z1, z2, z3, z4⟩ | go_keep)
                  (first
                    | (go_at_call 16; refine HSB2.out.mono ?_; rintro e w6 ⟨s6, k6, rfl, hm6⟩; have HM6 := Lib.hid hm6; have hSB := Lib.hid (show w6.cell? ⟨w.heap.size, 0, none⟩ = some (.int .i64 y1) ∧ w6.cell? ⟨w.heap.size, 1, none⟩ = some (.int .i64 y2) ∧ w6.cell? ⟨w.heap.size, 2, none⟩ = some (.int .i64 y3) ∧ w6.cell? ⟨w.heap.size, 3, none⟩ = some (.int .i64 y4) ∧ w6.cell? ⟨w.heap.size, 4, none⟩ = some (.int .i64 y5) from ⟨(hm6.below.cell (p := ⟨w.heap.size, 0, none⟩) (Nat.lt_of_lt_of_le hbl HM5.out.below.size)).trans ((HM5.out.below.cell (p := ⟨w.heap.size, 0, none⟩) hbl).trans z0), (hm6.below.cell (p := ⟨w.heap.size, 1, none⟩) (Nat.lt_of_lt_of_le hbl HM5.out.below.size)).trans ((HM5.out.below.cell (p := ⟨w.heap.size, 1, none⟩) hbl).trans z1), (hm6.below.cell (p := ⟨w.heap.size, 2, none⟩) (Nat.lt_of_lt_of_le hbl HM5.out.below.size)).trans ((HM5.out.below.cell (p := ⟨w.heap.size, 2, none⟩) hbl).trans z2), (hm6.below.cell (p := ⟨w.heap.size, 3, none⟩) (Nat.lt_of_lt_of_le hbl HM5.out.below.size)).trans ((HM5.out.below.cell (p := ⟨w.heap.size, 3, none⟩) hbl).trans z3), (hm6.below.cell (p := ⟨w.heap.size, 4, none⟩) (Nat.lt_of_lt_of_le hbl HM5.out.below.size)).trans ((HM5.out.below.cell (p := ⟨w.heap.size, 4, none⟩) hbl).trans z4)⟩); clear hm6)
                    | (go_at_call 16; refine HSA.out.mono ?_; rintro e w5 ⟨s5, k5, rfl, hm5⟩; have HM5 := Lib.hid hm5; have hSA1 := Lib.hid (show w5.cell? ⟨w.heap.size, 0, none⟩ = some (.int .i64 y1) ∧ w5.cell? ⟨w.heap.size, 1, none⟩ = some (.int .i64 y2) ∧ w5.cell? ⟨w.heap.size, 2, none⟩ = some (.int .i64 y3) ∧ w5.cell? ⟨w.heap.size, 3, none⟩ = some (.int .i64 y4) ∧ w5.cell? ⟨w.heap.size, 4, none⟩ = some (.int .i64 y5) from ⟨(hm5.below.cell (p := ⟨w.heap.size, 0, none⟩) hbl).trans z0, (hm5.below.cell (p := ⟨w.heap.size, 1, none⟩) hbl).trans z1, (hm5.below.cell (p := ⟨w.heap.size, 2, none⟩) hbl).trans z2, (hm5.below.cell (p := ⟨w.heap.size, 3, none⟩) hbl).trans z3, (hm5.below.cell (p := ⟨w.heap.size, 4, none⟩) hbl).trans z4⟩); have HSB2 := Lib.hid (HSPM.out w5); clear hm5))
                all_goals
                  have HKD := Lib.hid (HKB.out.later ((Below.refl wb.heap.size wb).drew))
                  have HTN := Lib.hid ((TwoM.made HKD.out.m HM5.out HM6.out).less hzb)
                  have HKE := Lib.hid ((HKD.out.later HM5.out.below).later HM6.out.below)
                  go_wp2
                  go_meet
                  first
                    | exact ⟨s5, SP, k5, s6, SP, k6, rfl, rfl, HKE.out, HTN.out⟩
                    | exact ⟨s6, SP, k6, s5, SP, k5, rfl, rfl, HKE.out, HTN.out.swap⟩
              case false =>
                go_wp2
                go_meet
                exact ⟨sx, P'.pend, cx, sy, P'.pend, cy, rfl, rfl, HKB.out, HTM.out⟩
            case rest =>
              clear HKB HTM
              obtain ⟨sx, lx, cx, sy, ly, cy, rfl, rfl, hkc, htm⟩ := hcut
              have HKC := Lib.hid hkc
              have HTM := Lib.hid htm
              have HN := Lib.hid (show ∀ i (hi : i < vs3.length) b, vs3[i].ownBlock = some b → b < wr.heap.size from fun i hi b hb => (HFT.out.kf.w3.each i hi (by rw [← HFT.out.kf.w3.len]; exact hi)).lt hb)
              have HZT := Lib.hid (show vs1.length = n1 ∧ vs2.length = n1 ∧ vs3.length = n3 ∧ vs4.length = n3 from ⟨HFT.out.z1, by rw [HFT.out.kf.w2.len]; exact (HFT.out.kf.w1.len).symm.trans HFT.out.z1, HFT.out.z3, by rw [HFT.out.kf.w4.len]; exact (HFT.out.kf.w3.len).symm.trans HFT.out.z3⟩)
              have HLL := Lib.hid (show (∀ l ∈ la, l.length < 2000) ∧ (∀ l ∈ lb, l.length < 1000) ∧ (∀ x ∈ P'.pend, inKey x) from ⟨HFT.out.la, HFT.out.lb, HFT.out.pk⟩)
              clear hkc htm HFT
              obtain ⟨wd0, hwd0⟩ : ∃ q, q = wr := ⟨_, rfl⟩
              go_upto_region 29 with (first
                | (at_builtin; refine wpList_push_rows [.slice sx lx.length cx, .slice sy ly.length cy] rfl _ _ rfl s3 n3 c3 vs3 rfl rfl HKC.out.w3.own (by intro u hu; simp only [List.mem_cons, List.not_mem_nil, or_false] at hu; rcases hu with rfl | rfl <;> rfl) (by simp) (by simp) (by rw [HZT.out.2.2.1]; omega) ?_; intro sp cp wd hop hgp hap; have HOP := Lib.hid hop; have HGP := Lib.hid hgp; have HATP := Lib.hid hap; clear hop hgp hap))
              obtain ⟨x5, st5, hr5⟩ := RW.push (V' := .slice sp (n3 + 2) cp) (xs := [.slice sx lx.length cx, .slice sy ly.length cy]) (lx := [lx, ly]) HKC.out.m HKC.out.w3 (by decide) HOP.out HGP.out HATP.out rfl (each2 HTM.out.a HTM.out.b)
              have HKD := Lib.hid (HKC.out.row3 st5 hr5 (lone2 HKC.out.lone HN.out HTM.out.na HTM.out.nb HTM.out.ab))
              have HXD := Lib.hid (HTM.out.a.sp st5 (by decide))
              have HYD := Lib.hid (HTM.out.b.sp st5 (by decide))
              have hxl := HTM.out.la
              have hyl := HTM.out.lb
              clear st5 hr5 HOP HGP HATP HKC HTM HN
              go_upto_region 30 with (first
                | (at_builtin; refine wpList_push_rows [.slice su lx.length cu, .slice sv ly.length cv] rfl _ _ rfl s4 n3 c4 vs4 rfl rfl HKF.out.w4.own (by intro u hu; simp only [List.mem_cons, List.not_mem_nil, or_false] at hu; rcases hu with rfl | rfl <;> rfl) (by simp) (by simp) (by rw [HZT.out.2.2.2]; omega) ?_; intro sp2 cp2 wg hop hgp hap; have HOP := Lib.hid hop; have HGP := Lib.hid hgp; have HATP := Lib.hid hap; clear hop hgp hap)
                | (at_builtin; refine wpList_copyM rfl _ _ rfl rfl sy ly.length cy ly rfl (HYD.out.1.later HBU.out) (by omega) ?_; intro sv cv wf hov hnv hbv; have HOV := Lib.hid hov; have HNV := Lib.hid hnv; have HBV := Lib.hid hbv; have HKF := Lib.hid ((HKD.out.later HBU.out).later hbv); clear hov hnv hbv)
                | (at_builtin; refine wpList_copyM rfl _ _ rfl rfl sx lx.length cx lx rfl HXD.out.1 (by omega) ?_; intro su cu we hou hnu hbu; have HOU := Lib.hid hou; have HNU := Lib.hid hnu; have HBU := Lib.hid hbu; clear hou hnu hbu))
              have hme := (HKD.out.later HBU.out).m
              have hcu : HC wf x5 n0 0 (.slice su lx.length cu) lx := HC.sp ⟨HOU.out, fun b hb => ⟨HKD.out.m.zero (HNU.out b hb), Nat.le_trans HKD.out.m.n (HNU.out b hb)⟩⟩ (Sp.of hme HBV.out 20) (by decide)
              have hcv : HC wf x5 n0 0 (.slice sv ly.length cv) ly := ⟨HOV.out, fun b hb => ⟨hme.zero (HNV.out b hb), Nat.le_trans hme.n (HNV.out b hb)⟩⟩
              obtain ⟨x6, st6, hr6⟩ := RW.push (V' := .slice sp2 (n3 + 2) cp2) (xs := [.slice su lx.length cu, .slice sv ly.length cv]) (lx := [lx, ly]) HKF.out.m HKF.out.w4 (by decide) HOP.out HGP.out HATP.out rfl (each2 hcu hcv)
              have HKG := Lib.hid (HKF.out.row4 st6 hr6)
              clear st6 hr6 HOP HGP HATP HKF HKD hcu hcv hme HOU HNU HBU HOV HNV HBV HXD HYD
              have HZ3 := Lib.hid (show (vs3 ++ [Value.slice sx lx.length cx, .slice sy ly.length cy]).length = n3 + 2 ∧ (vs4 ++ [Value.slice su lx.length cu, .slice sv ly.length cv]).length = n3 + 2 ∧ ∀ l ∈ lb ++ [lx, ly], l.length < 1000 from ⟨by rw [List.length_append, HZT.out.2.2.1]; rfl, by rw [List.length_append, HZT.out.2.2.2]; rfl, fun l hl => by
                rcases List.mem_append.1 hl with h | h
                · exact HLL.out.2.1 l h
                · simp only [List.mem_cons, List.not_mem_nil, or_false] at h
                  rcases h with rfl | rfl
                  · exact hxl
                  · exact hyl⟩)
              generalize vs3 ++ [Value.slice sx lx.length cx, .slice sy ly.length cy] = vt3 at HKG HZ3
              generalize vs4 ++ [Value.slice su lx.length cu, .slice sv ly.length cv] = vt4 at HKG HZ3
              generalize lb ++ [lx, ly] = lbt at HKG HZ3
              replace HKG : Hid (KF w wg x6 n0 pb qb w.heap.size #[.int .i64 y1, .int .i64 y2, .int .i64 y3, .int .i64 y4, .int .i64 y5] (.slice sw SP.length cw) SP P' P' ⟨.slice s1 n1 c1, vs1, la⟩ ⟨.slice s2 n1 c2, vs2, la⟩ ⟨.slice sp (n3 + 2) cp, vt3, lbt⟩ ⟨.slice sp2 (n3 + 2) cp2, vt4, lbt⟩) := HKG
              clear hxl hyl hwd0
              go_wp2_with fail
              refine (HKG.out.p.pend (w := w) (by omega)).mono ?_
              rintro e wh ⟨s9, c9, rfl, hm9⟩
              have hlv := hm9.live HKG.out.m
              have HKH := Lib.hid (HKG.out.sp hlv.1 rfl)
              have HLV := Lib.hid hlv.2
              have hl9 := hm9.len
              generalize newQ x6 wg.heap.size wh.heap.size 20 = x7 at HKH HLV
              clear hm9 hlv HKG
              go_upto_if 116 with (fail)
              rw [HTQ.out]
              go_cut [24] from 117 to 128 (fun lv wc => ∃ (sl : Option Addr) (ll : List Int) (cl : Nat) (x8 : Nat → Nat), lv = .slice sl ll.length cl ∧ KF w wc x8 n0 pb qb w.heap.size #[.int .i64 y1, .int .i64 y2, .int .i64 y3, .int .i64 y4, .int .i64 y5] (.slice sw SP.length cw) SP P' P' ⟨.slice s1 n1 c1, vs1, la⟩ ⟨.slice s2 n1 c2, vs2, la⟩ ⟨.slice sp (n3 + 2) cp, vt3, lbt⟩ ⟨.slice sp2 (n3 + 2) cp2, vt4, lbt⟩ ∧ HC wc x8 n0 20 (.slice sl ll.length cl) ll ∧ ll.length < 1000)
              case first =>
                cases tq
                case true =>
                  obtain ⟨z0, z1, z2, z3, z4⟩ := box5 HKH.out.box.1
                  go_wp2_with fail
                  refine (HSPM.out wh).mono ?_
                  clear z0 z1 z2 z3 z4
                  rintro e wi ⟨s6, k6, rfl, hm6⟩
                  have hlv := hm6.live HKH.out.m
                  have HKI := Lib.hid (HKH.out.sp hlv.1 rfl)
                  have HLI := Lib.hid hlv.2
                  have hl6 := hm6.len
                  generalize newQ x7 wh.heap.size wi.heap.size 20 = x8 at HKI HLI
                  have hsm := same_any s6 sw SP.length k6 SP.length cw (gl SP) (gl SP) wi (by unfold maxLen; omega) (by unfold maxLen; omega) HLI.out.1.is HKI.out.want.1.is
                  rw [sameB_refl] at hsm
                  have HSM := Lib.hid hsm
                  clear hm6 hlv hsm HKH HLV
                  go_wp2_with fail
                  refine HSM.out.mono ?_
                  rintro e wj ⟨rfl, hbj⟩
                  have HKJ := Lib.hid (HKI.out.later hbj)
                  have HLJ := Lib.hid (HLI.out.sp (Sp.of HKI.out.m hbj 9) (by decide))
                  clear hbj HKI HLI HSM
                  go_wp2
                  go_meet
                  exact ⟨s6, SP, k6, x8, rfl, HKJ.out, HLJ.out, hl6⟩
                case false =>
                  go_wp2_with fail
                  refine (HKH.out.q.pend (w := w) (by omega)).mono ?_
                  rintro e wi ⟨s6, k6, rfl, hm6⟩
                  have HKI := Lib.hid (HKH.out.later hm6.below)
                  have HLI := Lib.hid (HLV.out.sp (Sp.of HKH.out.m hm6.below 9) (by decide))
                  have hsm := same_any s9 s6 P'.pend.length c9 P'.pend.length k6 (gl P'.pend) (gl P'.pend) wi (by unfold maxLen; omega) (by unfold maxLen; omega) HLI.out.1.is hm6.own.is
                  rw [sameB_refl] at hsm
                  have HSM := Lib.hid hsm
                  clear hm6 hsm HKH HLV
                  go_wp2_with fail
                  refine HSM.out.mono ?_
                  rintro e wj ⟨rfl, hbj⟩
                  have HKJ := Lib.hid (HKI.out.later hbj)
                  have HLJ := Lib.hid (HLI.out.sp (Sp.of HKI.out.m hbj 9) (by decide))
                  clear hbj HKI HLI HSM
                  go_wp2
                  go_meet
                  exact ⟨s9, P'.pend, c9, x7, rfl, HKJ.out, HLJ.out, hl9⟩
              case rest =>
                clear HKH HLV hl9
                obtain ⟨sl, ll, cl, x8, rfl, hkc, hlc, hllb⟩ := hcut
                have HKC := Lib.hid hkc
                have HLC := Lib.hid hlc
                obtain ⟨ml, hml⟩ : ∃ ml, ll.length = ml := ⟨_, rfl⟩
                rw [hml] at hllb
                rw [hml] at HLC
                have HML := Lib.hid hml
                rw [hml]
                have hg0 : 0 < ml → ∃ g, sl = some ⟨g, 0, none⟩ := fun h0 => by
                  rcases HLC.out.1.2 with ⟨e, e2⟩ | ⟨g, cap, cur, e, _⟩
                  · rw [HML.out] at e2; omega
                  · injection e with e; exact ⟨g, e⟩
                have HG0 := Lib.hid hg0
                clear hkc hlc hml hg0
                go_wp2_with fail
                go_loopg [15, 25] ml (fun gg mv jv wq => ∃ (j mk3 : Nat) (l3 : List Int), j + gg = ml ∧ mv = .int .i64 mk3 ∧ mk3 = mk2 + j ∧ jv = .int .i64 j ∧ l3.length = ml ∧ KF w wq x8 n0 pb qb w.heap.size #[.int .i64 y1, .int .i64 y2, .int .i64 y3, .int .i64 y4, .int .i64 y5] (.slice sw SP.length cw) SP P' P' ⟨.slice s1 n1 c1, vs1, la⟩ ⟨.slice s2 n1 c2, vs2, la⟩ ⟨.slice sp (n3 + 2) cp, vt3, lbt⟩ ⟨.slice sp2 (n3 + 2) cp2, vt4, lbt⟩ ∧ HC wq x8 n0 20 (.slice sl ml cl) l3)
                case atStart => exact ⟨0, mk2, ll, by omega, rfl, rfl, rfl, HML.out, HKC.out, HLC.out⟩
                case round =>
                  clear HKC HLC HML
                  obtain ⟨j, mk3, l3, hj, rfl, hmk3, rfl, hl3, hkq, hlq⟩ := hrel
                  have HKQ := Lib.hid hkq
                  have HLQ := Lib.hid hlq
                  have HL3 := Lib.hid hl3
                  clear hkq hlq hl3
                  by_cases hltj : j < ml
                  · obtain ⟨g, hg⟩ := HG0.out (by omega)
                    subst hg
                    have hjl : j < l3.length := by rw [HL3.out]; exact hltj
                    obtain ⟨y, hy⟩ : ∃ y, l3[j]'hjl = y := ⟨_, rfl⟩
                    have hcj : wr.cell? ⟨g, j, none⟩ = some (.int .i64 y) := by
                      have h5 := World.ownsRow.cells (g := g) HLQ.out.1 rfl j (.int .i64 y) (by rw [List.getElem?_map, List.getElem?_eq_getElem hjl, hy]; rfl)
                      rw [Go.WideShapes.add_plain, Nat.zero_add] at h5
                      exact h5
                    have hfj : wr.frozen? ⟨g, j, none⟩ = false := by
                      rcases HLQ.out.1.2 with ⟨e, _⟩ | ⟨g', cap, cur, e, _, hgg, _⟩
                      · cases e
                      · injection e with e; injection e with e; injection e with e; subst e; exact block_free hgg
                    have HPUT := Lib.hid (fun (z : Int) => HC.put HKQ.out.m HLQ.out hjl z)
                    have q5 : (j : Int) < (ml : Int) := by omega
                    have q6 : (0 : Int) ≤ (j : Int) := by omega
                    clear hy
                    go_wp2
                    go_roundg (gk - 1)
                    case measure => omega
                    case rel => exact ⟨j + 1, mk3 + 1, _, by omega, by first | rfl | (rw [hmk3]; go_num), by omega, by go_num, by rw [List.length_set]; exact HL3.out, HKQ.out.sp (HPUT.out _).1 rfl, (HPUT.out _).2⟩
                  · obtain rfl : ml = j := by omega
                    have hmln : ¬ (ml : Int) < (ml : Int) := by omega
                    go_wp2_with fail
                    refine (HKQ.out.p.pend (w := w) (by omega)).mono ?_
                    rintro e wi ⟨t1, u1, rfl, hm1⟩
                    have HKI := Lib.hid (HKQ.out.later hm1.below)
                    have HLI := Lib.hid (HLQ.out.sp (Sp.of HKQ.out.m hm1.below 9) (by decide))
                    have HO1 := Lib.hid hm1.own
                    clear hm1 HKQ HLQ
                    go_wp2_with fail
                    refine (HKI.out.q.pend (w := w) (by omega)).mono ?_
                    rintro e wj ⟨t2, u2, rfl, hm2⟩
                    have HKJ := Lib.hid (HKI.out.later hm2.below)
                    have HLJ := Lib.hid (HLI.out.sp (Sp.of HKI.out.m hm2.below 9) (by decide))
                    have hsm := same_any t1 t2 P'.pend.length u1 P'.pend.length u2 (gl P'.pend) (gl P'.pend) wj (by unfold maxLen; omega) (by unfold maxLen; omega) (HO1.out.later hm2.below).is hm2.own.is
                    rw [sameB_refl] at hsm
                    have HSM := Lib.hid hsm
                    clear hm2 hsm HKI HLI HO1
                    go_wp2_with fail
                    refine HSM.out.mono ?_
                    rintro e wk ⟨rfl, hbk⟩
                    have HKK := Lib.hid (HKJ.out.later hbk)
                    have HLK := Lib.hid (HLJ.out.sp (Sp.of HKJ.out.m hbk 9) (by decide))
                    obtain ⟨z0, z1, z2, z3, z4⟩ := box5 HKK.out.box.1
                    clear hbk HKJ HLJ HSM
                    go_wp2_with fail
                    refine (HSPM.out wk).mono ?_
                    clear z0 z1 z2 z3 z4
                    rintro e wl ⟨s6, k6, rfl, hm6⟩
                    have HKL := Lib.hid (HKK.out.later hm6.below)
                    have HLL2 := Lib.hid (HLK.out.sp (Sp.of HKK.out.m hm6.below 9) (by decide))
                    have hspb := hm6.len
                    have hsm := same_any s6 sw SP.length k6 SP.length cw (gl SP) (gl SP) wl (by unfold maxLen; omega) (by unfold maxLen; omega) hm6.own.is HKL.out.want.1.is
                    rw [sameB_refl] at hsm
                    have HSM := Lib.hid hsm
                    clear hm6 hsm HKK HLK
                    go_wp2_with fail
                    refine HSM.out.mono ?_
                    rintro e wm ⟨rfl, hbm⟩
                    have HKM := Lib.hid (HKL.out.later hbm)
                    have HLM := Lib.hid (HLL2.out.sp (Sp.of HKL.out.m hbm 9) (by decide))
                    clear hbm HKL HLL2 HSM
                    go_upto_region 46 with (first
                      | (at_builtin; refine wpList_push4 _ rfl _ _ rfl sl ml cl l3 rfl rfl HLM.out.1 (by omega) ?_; intro sg cg wn hog hgg hag hkg; have HOG := Lib.hid hog; have HGG := Lib.hid (grew1 hgg hag hkg); clear hog hgg hag hkg))
                    obtain ⟨x9, st9, hg9, hu9⟩ := HC.more HKM.out.m HLM.out HOG.out HGG.out
                    obtain ⟨l3', e3, h3', h3e⟩ := hu9 _ _ HLM.out
                    rw [h3e (by rw [HL3.out]; exact Nat.le_refl _)] at h3'
                    have HKN := Lib.hid (HKM.out.sp st9 rfl)
                    have HLN := Lib.hid h3'
                    have HGN := Lib.hid hg9
                    clear st9 hg9 hu9 h3' h3e e3 HKM HLM HOG HGG
                    go_upto_region 47 with (first
                      | (at_builtin; refine wpList_push4 _ rfl _ _ rfl sl ml cl l3 rfl rfl HLN.out.1 (by omega) ?_; intro sh ch wo hog hgg hag hkg; have HOG := Lib.hid hog; have HGG := Lib.hid (grew1 hgg hag hkg); clear hog hgg hag hkg))
                    obtain ⟨x10, st10, hh10, hu10⟩ := HC.more HKN.out.m HLN.out HOG.out HGG.out
                    obtain ⟨l4, e4, h4, h4e⟩ := hu10 _ _ HLN.out
                    rw [h4e (by rw [HL3.out]; exact Nat.le_refl _)] at h4
                    obtain ⟨lg, eg, hg, _⟩ := hu10 _ _ HGN.out
                    have hlgl : lg.length = ml + 1 := by rw [eg, List.length_append, HL3.out]; rfl
                    have HKO := Lib.hid (HKN.out.sp st10 rfl)
                    have HLO := Lib.hid h4
                    have HGO := Lib.hid hg
                    have HHO := Lib.hid hh10
                    have HLGL := Lib.hid hlgl
                    clear st10 hh10 hu10 h4 h4e e4 eg hg hlgl HKN HLN HGN HOG HGG
                    go_wp2_with fail
                    refine (grown_c sl ml cl l3 _ wo HLO.out.1 (by omega)).mono ?_
                    rintro e wp ⟨sf, cf, rfl, hof, hgf⟩
                    obtain ⟨x11, st11, hf11, hu11⟩ := HC.more HKO.out.m HLO.out hof hgf
                    obtain ⟨l5, e5, h5, h5e⟩ := hu11 _ _ HLO.out
                    rw [h5e (by rw [HL3.out]; exact Nat.le_refl _)] at h5
                    obtain ⟨lg2, eg2, hg2, _⟩ := hu11 _ _ HGO.out
                    obtain ⟨lh, eh2, hh2, _⟩ := hu11 _ _ HHO.out
                    obtain ⟨lf, hf2, hlf⟩ : ∃ lf, HC wp (unQ x11) n0 0 (.slice sf (ml + 100) cf) lf ∧ lf.length = ml + 100 := ⟨_, hf11.dead, hof.len.symm⟩
                    have HLEN := Lib.hid (show l3.length = ml ∧ lg2.length = ml + 1 ∧ lh.length = ml + 1 ∧ lf.length = ml + 100 from ⟨HL3.out, eg2.trans HLGL.out, by rw [eh2, List.length_append, HL3.out]; rfl, hlf⟩)
                    have HKP := Lib.hid (HKO.out.sp st11 rfl).un
                    have HLQ := Lib.hid h5.dead
                    have HGQ := Lib.hid hg2.dead
                    have HHQ := Lib.hid hh2.dead
                    have HFQ := Lib.hid hf2
                    generalize unQ x11 = x12 at HKP HLQ HGQ HHQ HFQ
                    clear hof hgf st11 hf11 hu11 e5 h5 h5e eg2 hg2 eh2 hh2 hf2 hlf HKO HLO HGO HHO HLGL
                    go_upto_region 49 with (first
                      | (at_builtin; refine wpList_push_rows [.slice sl (ml) cl, .slice sg (ml + 1) cg, .slice sh (ml + 1) ch, .slice sf (ml + 100) cf] rfl _ _ rfl s1 n1 c1 vs1 rfl rfl HKP.out.w1.own (by intro u hu; simp only [List.mem_cons, List.not_mem_nil, or_false] at hu; rcases hu with rfl | rfl | rfl | rfl <;> rfl) (by simp) (by simp) (by rw [HZT.out.1]; omega) ?_; intro sp9 cp9 wr9 hop hgp hap; have HOP := Lib.hid hop; have HGP := Lib.hid hgp; have HATP := Lib.hid hap; clear hop hgp hap))
                    obtain ⟨x13, st13, hr13⟩ := RW.push (V' := .slice sp9 (n1 + 4) cp9) (xs := [.slice sl (ml) cl, .slice sg (ml + 1) cg, .slice sh (ml + 1) ch, .slice sf (ml + 100) cf]) (lx := [l3, lg2, lh, lf]) HKP.out.m HKP.out.w1 (by decide) HOP.out HGP.out HATP.out rfl (each4 HLQ.out HGQ.out HHQ.out HFQ.out)
                    have HKR := Lib.hid (HKP.out.row1 st13 hr13)
                    have HLR := Lib.hid (HLQ.out.sp st13 (by decide))
                    have HGR := Lib.hid (HGQ.out.sp st13 (by decide))
                    have HHR := Lib.hid (HHQ.out.sp st13 (by decide))
                    have HFR := Lib.hid (HFQ.out.sp st13 (by decide))
                    clear st13 hr13 HOP HGP HATP HKP HLQ HGQ HHQ HFQ
                    go_wp2_with (first
                      | (at_builtin; refine wpList_push_rows [.slice sc0 (ml) cc0, .slice sc1 (ml + 1) cc1, .slice sc2 (ml + 1) cc2, .slice sc3 (ml + 100) cc3] rfl _ _ rfl s2 n1 c2 vs2 rfl rfl HKV3.out.w2.own (by intro u hu; simp only [List.mem_cons, List.not_mem_nil, or_false] at hu; rcases hu with rfl | rfl | rfl | rfl <;> rfl) (by simp) (by simp) (by rw [HZT.out.2.1]; omega) ?_; intro sq cq wz hop hgp hap; have HOP := Lib.hid hop; have HGP := Lib.hid hgp; have HATP := Lib.hid hap; clear hop hgp hap)
                      | (at_builtin; refine wpList_copyM rfl _ _ rfl rfl sf (ml + 100) cf lf rfl (OwnInts.later (OwnInts.later (OwnInts.later HFR.out.1 HBC0.out) HBC1.out) HBC2.out) (by omega) ?_; intro sc3 cc3 wv3 hov hnv hbv; have HOC3 := Lib.hid hov; have HNC3 := Lib.hid hnv; have HBC3 := Lib.hid hbv; have HKV3 := Lib.hid (HKV2.out.later hbv); clear hov hnv hbv)
                      | (at_builtin; refine wpList_copyM rfl _ _ rfl rfl sh (ml + 1) ch lh rfl (OwnInts.later (OwnInts.later HHR.out.1 HBC0.out) HBC1.out) (by omega) ?_; intro sc2 cc2 wv2 hov hnv hbv; have HOC2 := Lib.hid hov; have HNC2 := Lib.hid hnv; have HBC2 := Lib.hid hbv; have HKV2 := Lib.hid (HKV1.out.later hbv); clear hov hnv hbv)
                      | (at_builtin; refine wpList_copyM rfl _ _ rfl rfl sg (ml + 1) cg lg2 rfl (OwnInts.later HGR.out.1 HBC0.out) (by omega) ?_; intro sc1 cc1 wv1 hov hnv hbv; have HOC1 := Lib.hid hov; have HNC1 := Lib.hid hnv; have HBC1 := Lib.hid hbv; have HKV1 := Lib.hid (HKV0.out.later hbv); clear hov hnv hbv)
                      | (at_builtin; refine wpList_copyM rfl _ _ rfl rfl sl (ml) cl l3 rfl HLR.out.1 (by omega) ?_; intro sc0 cc0 wv0 hov hnv hbv; have HOC0 := Lib.hid hov; have HNC0 := Lib.hid hnv; have HBC0 := Lib.hid hbv; have HKV0 := Lib.hid (HKR.out.later hbv); clear hov hnv hbv))
                    obtain ⟨x14, st14, hr14⟩ := RW.push (V' := .slice sq (n1 + 4) cq) (xs := [.slice sc0 (ml) cc0, .slice sc1 (ml + 1) cc1, .slice sc2 (ml + 1) cc2, .slice sc3 (ml + 100) cc3]) (lx := [l3, lg2, lh, lf]) HKV3.out.m HKV3.out.w2 (by decide) HOP.out HGP.out HATP.out rfl (each4 (HC.sp (HC.sp (HC.sp (⟨HOC0.out, fun b hb => ⟨HKR.out.m.zero (HNC0.out b hb), Nat.le_trans HKR.out.m.n (HNC0.out b hb)⟩⟩ : HC wv0 x13 n0 0 (.slice sc0 (ml) cc0) l3) (Sp.of HKV0.out.m HBC1.out 9) (by decide)) (Sp.of HKV1.out.m HBC2.out 9) (by decide)) (Sp.of HKV2.out.m HBC3.out 9) (by decide)) (HC.sp (HC.sp (⟨HOC1.out, fun b hb => ⟨HKV0.out.m.zero (HNC1.out b hb), Nat.le_trans HKV0.out.m.n (HNC1.out b hb)⟩⟩ : HC wv1 x13 n0 0 (.slice sc1 (ml + 1) cc1) lg2) (Sp.of HKV1.out.m HBC2.out 9) (by decide)) (Sp.of HKV2.out.m HBC3.out 9) (by decide)) (HC.sp (⟨HOC2.out, fun b hb => ⟨HKV1.out.m.zero (HNC2.out b hb), Nat.le_trans HKV1.out.m.n (HNC2.out b hb)⟩⟩ : HC wv2 x13 n0 0 (.slice sc2 (ml + 1) cc2) lh) (Sp.of HKV2.out.m HBC3.out 9) (by decide)) (⟨HOC3.out, fun b hb => ⟨HKV2.out.m.zero (HNC3.out b hb), Nat.le_trans HKV2.out.m.n (HNC3.out b hb)⟩⟩ : HC wv3 x13 n0 0 (.slice sc3 (ml + 100) cc3) lf))
                    have HKZ := Lib.hid (HKV3.out.row2 st14 hr14)
                    have hbd : ∀ q ∈ la ++ [l3, lg2, lh, lf], q.length < 2000 := fun q hq => by
                      rcases List.mem_append.1 hq with h | h
                      · exact HLL.out.1 q h
                      · have := HLEN.out
                        simp only [List.mem_cons, List.not_mem_nil, or_false] at h
                        rcases h with rfl | rfl | rfl | rfl <;> omega
                    have HBD := Lib.hid hbd
                    have hmkb : mk3 + 3 ≤ k * 3000 + (t + 1) * 1500 := by omega
                    have hnn1 : n1 + 4 = 8 * k + 4 * (t + 1) := by have := HN1T.out; omega
                    have hnn3 : n3 + 2 = 4 * k + 2 * (t + 1) := by have := HN3T.out; omega
                    have HNN := Lib.hid (And.intro hnn1 hnn3)
                    clear st14 hr14 HOP HGP HATP hbd hnn1 hnn3
                    go_roundg (2 - (t + 1))
                    case measure => omega
                    case rel =>
                      refine ⟨t + 1, mk3 + 3, x14, n1 + 4, n3 + 2, sp9, cp9, _, sq, cq, _, sp, cp, vt3, sp2, cp2, vt4, _, lbt, by omega, rfl, rfl, rfl, rfl, ?_, by go_num, HNN.out.1, HNN.out.2, hmkb, ⟨HKZ.out, ?_, HZ3.out.1, HBD.out, HZ3.out.2.2, hpl3, HLL.out.2.2⟩⟩
                      · first | rfl | (rw [hmk3]; go_num)
                      · rw [List.length_append, HZT.out.1]; rfl
          · obtain rfl : t = 2 := by omega
            obtain ⟨wb, hwb⟩ : ∃ wb, wb = wr := ⟨_, rfl⟩
            subst hwb
            have HV1 := Lib.hid HFT.out.z1
            have HV2 := Lib.hid (show vs2.length = n1 from by rw [HFT.out.kf.w2.len]; exact (HFT.out.kf.w1.len).symm.trans HFT.out.z1)
            go_wp2_with fail
            go_loopg [29] n1 (fun gg iv wq => ∃ j : Nat, j + gg = n1 ∧ iv = .int .i64 j ∧ Below wb.heap.size wb wq)
            case atStart => exact ⟨0, by omega, rfl, Below.refl _ _⟩
            case round =>
              obtain ⟨j, hj, rfl, hb⟩ := hrel
              have HB := Lib.hid hb
              clear hb
              by_cases hltj : j < n1
              · have hkv : j < vs1.length := by rw [HV1.out]; exact hltj
                have hku : j < vs2.length := by rw [HV2.out]; exact hltj
                have hkl : j < la.length := by rw [← HFT.out.kf.w1.len]; exact hkv
                obtain ⟨g3, e3, hl3, yy3⟩ := OwnL.cell HFT.out.kf.w1.own hkv
                obtain ⟨g4, e4, hl4, yy4⟩ := OwnL.cell HFT.out.kf.w2.own hku
                have y3 := (HB.out.cell (p := ⟨g3, j, none⟩) hl3).trans yy3
                have y4 := (HB.out.cell (p := ⟨g4, j, none⟩) hl4).trans yy4
                clear yy3 yy4
                have hc3 := (HFT.out.kf.w1.each j hkv hkl).1
                have hc4 := (HFT.out.kf.w2.each j hku hkl).1
                simp only at hc3 hc4 y3 y4
                have hln := HFT.out.la _ (List.getElem_mem hkl)
                obtain ⟨sa, ca, ea⟩ := hc3.form
                obtain ⟨sb, cb, eb⟩ := hc4.form
                rw [ea] at hc3 y3
                rw [eb] at hc4 y4
                generalize la[j] = L at hc3 hc4 y3 y4 hln
                obtain ⟨m, hm⟩ : ∃ m, L.length = m := ⟨_, rfl⟩
                rw [hm] at hc3 hc4 y3 y4 hln
                have hsm := fun (W : World) (hW : Below wr.heap.size wr W) => same_any sa sb m ca m cb (gl L) (gl L) W (by unfold maxLen; omega) (by unfold maxLen; omega) ((OwnInts.is (hc3.later HB.out)).later hW) ((OwnInts.is (hc4.later HB.out)).later hW)
                simp only [sameB_refl] at hsm
                have HSM := Lib.hid hsm
                have q5 : (j : Int) < (n1 : Int) := by omega
                have q6 : (0 : Int) ≤ (j : Int) := by omega
                subst e3 e4
                clear hsm hc3 hc4 ea eb hm
                go_wp2_with fail
                go_region_held3 (fun w' => w'.cell? ⟨g3, j, none⟩ = some (.slice sa m ca) ∧ w'.cell? ⟨g4, j, none⟩ = some (.slice sb m cb))
                  (first | with_reducible exact hSR.out | exact ⟨y3, y4⟩ | go_keep)
                  (first | (go_at_call 20; refine (HSM.out wr.drew (Below.refl _ _).drew).mono ?_; rintro e w6 ⟨rfl, hb6⟩; have HB6 := Lib.hid ((Below.refl wr.heap.size wr).drew.trans hb6); have hSR := Lib.hid (show w6.cell? ⟨g3, j, none⟩ = some (.slice sa m ca) ∧ w6.cell? ⟨g4, j, none⟩ = some (.slice sb m cb) from ⟨(HB6.out.cell (p := ⟨g3, j, none⟩) (Nat.lt_of_lt_of_le hl3 HB.out.size)).trans y3, (HB6.out.cell (p := ⟨g4, j, none⟩) (Nat.lt_of_lt_of_le hl4 HB.out.size)).trans y4⟩); clear hb6))
                rename_i hheld
                clear hheld hSR y3 y4
                go_wp2
                go_roundg (gk - 1)
                case measure => omega
                case rel => exact ⟨j + 1, by omega, by go_num, HB.out.trans (HB6.out.mono HB.out.size)⟩
              · have hjn : ¬ (j : Int) < (n1 : Int) := by omega
                have HFZ : Hid (FrS w wr x n0 pb qb #[.int .i64 y1, .int .i64 y2, .int .i64 y3, .int .i64 y4, .int .i64 y5] (.slice sw SP.length cw) SP P' (k + 1) n1 n3 s1 c1 vs1 s2 c2 vs2 s3 c3 vs3 s4 c4 vs4 la lb) := Lib.hid ⟨HFT.out.kf.later HB.out, HFT.out.z1, HFT.out.z3, HFT.out.la, HFT.out.lb, HFT.out.pl, HFT.out.pk⟩
                have hmkb : mk2 ≤ (k + 1) * 3000 := by omega
                have hnn1 : n1 = 8 * (k + 1) := by have := HN1T.out; omega
                have hnn3 : n3 = 4 * (k + 1) := by have := HN3T.out; omega
                have HNN := Lib.hid (And.intro hnn1 hnn3)
                clear hnn1 hnn3
                go_wp2
                go_roundg (n - (k + 1))
                case measure => omega
                case rel => exact ⟨k + 1, mk2, x, P', n1, n3, s1, c1, vs1, s2, c2, vs2, s3, c3, vs3, s4, c4, vs4, la, lb, by omega, rfl, rfl, rfl, rfl, rfl, by go_num, HNN.out.1, HNN.out.2, hmkb, HFZ.out⟩
      · have hkn : ¬ (k : Int) < (n : Int) := by omega
        obtain rfl : k = n := by omega
        have hap := apart_c w wr x n0 n3 c3 c4 mk s3 s4 vs3 vs4 lb HF.out.kf.m hn0 HF.out.kf.w3 HF.out.kf.w4 HF.out.kf.lone HF.out.lb HF.out.z3 (by omega) (by omega)
        have HAP := Lib.hid hap
        clear hap
        go_wp2_with fail
        refine HAP.out.mono ?_
        rintro e w9 ⟨rfl, hb9⟩
        go_wp2
        go_ret
        exact ⟨rfl, hb9⟩
end Go.Proofs.Ytampjndfhpjheaa
