/- Contract: heads. Condition: none. Contract: rows$1 of Spell: a list's rows, each with what goes ahead and with its argument. Condition: lists that are good. -/
import Derived.Test.YtampjndfhpjheaaSa
import Derived.Test.YtampjndfhpjheaaYx
import Derived.Deep.DeepCutAuto
namespace Go.Proofs.Ytampjndfhpjheaa
open Go.RowKit
theorem own_nil {w : World} {base : Nat} {s : Option Addr} {n c : Nat} {l : List Int} (h : OwnInts w base (.slice s n c) l) : s = none → n = 0 ∧ c = 0 := by
  intro e
  rcases h.2 with ⟨h1, _⟩ | ⟨g, cap, cur, h1, _⟩
  · obtain ⟨_, h2, h3⟩ := Value.slice.inj h1; exact ⟨h2, h3⟩
  · obtain ⟨h2, _⟩ := Value.slice.inj h1; rw [e] at h2; cases h2
theorem digits_step {f : Nat} {m : Int} {out : List Int} (h0 : 0 < m) (h1 : m ≤ 9999) : digitsP (f + 1) m out = digitsP f (m / 10) ((48 + m % 10) :: out) := if_pos ⟨h0, h1⟩
theorem digits_end {f : Nat} {m : Int} {out : List Int} (h : ¬ (0 < m ∧ m ≤ 9999)) : digitsP f m out = out := by
  cases f with
  | zero => rfl
  | succ f => exact if_neg h
def digF (f : Nat) (m : Int) : Prop := f = 5 ∨ (f = 4 ∧ m ≤ 999) ∨ (f = 3 ∧ m ≤ 99) ∨ (f = 2 ∧ m ≤ 9) ∨ (f = 1 ∧ m ≤ 0)
theorem digF_step {f : Nat} {m : Int} (h : digF f m) (h0 : 0 < m) (h1 : m ≤ 9999) : ∃ g, f = g + 1 ∧ digF g (m / 10) := by
  unfold digF at *
  rcases h with h | h | h | h | h
  · exact ⟨4, h, by omega⟩
  · exact ⟨3, h.1, by omega⟩
  · exact ⟨2, h.1, by omega⟩
  · exact ⟨1, h.1, by omega⟩
  · omega
theorem digF_len {f : Nat} {m : Int} {out : List Int} (h : out.length + f ≤ 5) : (digitsP f m out).length ≤ 5 := by
  induction f generalizing m out with
  | zero => simpa [digitsP] using h
  | succ f ih =>
    unfold digitsP
    split
    · exact ih (by simp; omega)
    · omega
set_option maxRecDepth 100000 in
set_option maxHeartbeats 4000000 in
theorem heads_c (c : Cmd) (w : World) :
    Calls Try.prog 47 #[.agg c.cells] w fun e w' => ∃ g s1 n1 c1 s2 n2 c2 h1 h2, e = .returned (.slice (some ⟨g, 0, none⟩) 2 2) ∧ headsP c = [h1, h2] ∧ w.heap.size ≤ g ∧ h1.length ≤ 7 ∧ h2.length ≤ 7 ∧ w'.heap[g]? = some (.cells #[.slice s1 n1 c1, .slice s2 n2 c2] 33 (0, 0)) ∧ OwnInts w' w.heap.size (.slice s1 n1 c1) h1 ∧ OwnInts w' w.heap.size (.slice s2 n2 c2) h2 ∧ Below w.heap.size w w' := by
  obtain ⟨rg, ct, vb, mv, ag⟩ := c
  have hbn := below_new2 w (.cells #[.int .i64 rg, .int .i64 ct, .int .i64 vb, .int .i64 mv, .int .i64 ag] 44)
  have h0 := one_new w (.cells #[.int .i64 rg, .int .i64 ct, .int .i64 vb, .int .i64 mv, .int .i64 ag] 44)
  have HBN := Lib.hid hbn
  have H0 := Lib.hid h0
  clear hbn h0
  show Calls Try.prog 47 #[.agg #[.int .i64 rg, .int .i64 ct, .int .i64 vb, .int .i64 mv, .int .i64 ag]] w _
  go_enter Try.func47, Try.ntmps47
  go_upto_region 2 with (fail)
  generalize w.alloc (.cells #[.int .i64 rg, .int .i64 ct, .int .i64 vb, .int .i64 mv, .int .i64 ag] 44) = w1 at HBN H0 ⊢
  have c0 : w1.cell? ⟨w.heap.size, 0, none⟩ = some (.int .i64 rg) := block_cell H0.out
  have c1 : w1.cell? ⟨w.heap.size, 1, none⟩ = some (.int .i64 ct) := block_cell H0.out
  obtain ⟨reg, hreg⟩ : ∃ reg : List Int, reg = if rg = 0 then [] else [34, rg] := ⟨_, rfl⟩
  have HREG := Lib.hid hreg
  clear hreg
  go_upto_if 8 with (fail)
  go_cut [3] (fun v wc => ∃ s n k, v = .slice s n k ∧ n = reg.length ∧ OwnInts wc w.heap.size v reg ∧ Below w.heap.size w wc ∧ wc.heap[w.heap.size]? = some (.cells #[.int .i64 rg, .int .i64 ct, .int .i64 vb, .int .i64 mv, .int .i64 ag] 44 (0, 0)))
  case first =>
    by_cases hrg : rg = 0
    · have hz : (rg != 0) = false := by rw [hrg]; rfl
      have hr : reg = [] := by rw [HREG.out, if_pos hrg]
      subst hr
      clear hrg
      go_wp2
      go_meet
      exact ⟨none, 0, 0, rfl, rfl, OwnInts.nil _ _, HBN.out, H0.out⟩
    · have hz : (rg != 0) = true := by rw [bne_iff_ne]; exact hrg
      have hr : reg = [34, rg] := by rw [HREG.out, if_neg hrg]
      subst hr
      clear hrg
      have hb2 := below_new2 w1 (.cells #[.int .i64 34, .int .i64 rg] 3)
      have ho : OwnInts (w1.alloc (.cells #[.int .i64 34, .int .i64 rg] 3)) w.heap.size (.slice (some ⟨w1.heap.size, 0, none⟩) 2 2) [34, rg] := ⟨rfl, .inr ⟨w1.heap.size, 2, _, rfl, HBN.out.size, one_new w1 _, Nat.le_refl _, by decide, rfl, rfl⟩⟩
      have HO := Lib.hid ho
      have HB2 := Lib.hid hb2
      clear ho hb2
      go_wp2
      go_meet
      exact ⟨_, 2, 2, rfl, rfl, HO.out, HBN.out.trans (HB2.out.mono HBN.out.size), (HB2.out.block _ (heap_lt H0.out)).trans H0.out⟩
  case rest =>
    obtain ⟨sR, nR, cR, rfl, hnR, hoR, hbR, h0R⟩ := hcut
    have c1 : wc.cell? ⟨w.heap.size, 1, none⟩ = some (.int .i64 ct) := block_cell h0R
    have HNR := Lib.hid hnR
    have HOR := Lib.hid hoR
    have HBR := Lib.hid hbR
    have hsR := hbR.size
    clear hnR hoR hbR h0R H0 HBN c0
    go_wp2_with fail
    go_loopg [4, 5] 5 (fun gg cv nv wr => ∃ (m : Int) (out : List Int) (s : Option Addr) (k : Nat), nv = .int .i64 m ∧ cv = .slice s out.length k ∧ digF gg m ∧ digitsP gg m out = digitsP 5 ct [] ∧ out.length + gg ≤ 5 ∧ OwnInts wr w.heap.size (.slice s out.length k) out ∧ OwnInts wr w.heap.size (.slice sR nR cR) reg ∧ Below w.heap.size w wr)
    case atStart => exact ⟨ct, [], none, 0, rfl, rfl, .inl rfl, rfl, by decide, OwnInts.nil _ _, HOR.out, HBR.out⟩
    case round =>
      obtain ⟨m, out, s, k, rfl, rfl, hf, hd, hlen, ho, hoR, hb⟩ := hrel
      by_cases hm : 0 < m ∧ m ≤ 9999
      · obtain ⟨g, rfl, hg⟩ := digF_step hf hm.1 hm.2
        rw [digits_step hm.1 hm.2] at hd
        have hm0 := hm.1
        have hm1 := hm.2
        have HG := Lib.hid hg
        have HD := Lib.hid hd
        have HO := Lib.hid ho
        have HOR := Lib.hid hoR
        have HBB := Lib.hid hb
        have hne : OwnInts (wr.alloc (.cells #[.int .i64 (48 + m % 10)] 3)) w.heap.size (.slice (some ⟨wr.heap.size, 0, none⟩) 1 1) [48 + m % 10] := ⟨rfl, .inr ⟨wr.heap.size, 1, _, rfl, hb.size, one_new wr _, Nat.le_refl _, by decide, rfl, rfl⟩⟩
        have HNE := Lib.hid hne
        have HB2 := Lib.hid (below_new2 wr (.cells #[.int .i64 (48 + m % 10)] 3))
        clear hm hf hg hd ho hoR hb hne
        have ht1 : m.tmod 10 = m % 10 := Int.tmod_eq_emod_of_nonneg (by omega)
        have ht2 : m.tdiv 10 = m / 10 := Int.tdiv_eq_ediv_of_nonneg (by omega)
        have hk : OwnInts (wr.alloc (.cells #[.int .i64 (48 + m % 10)] 3)) w.heap.size (.slice sR nR cR) reg := HOR.out.later HB2.out
        have HK := Lib.hid hk
        have hlen2 : ([48 + m % 10] : List Int).length + out.length < 4294967296 := by simp; omega
        clear hk
        go_wp2_with (first | (at_builtin; refine wpList_append_onto rfl _ _ rfl w.heap.size _ _ out rfl HNE.out s out.length k rfl rfl (HO.out.is.later HB2.out) (own_nil HO.out) hlen2 (HBB.out.trans (HB2.out.mono HBB.out.size)).size ?_; intro s' n' c' w' hn' ho' hg' hb'; have HN' := Lib.hid hn'; have HO' := Lib.hid ho'; have HG' := Lib.hid hg'; have HB' := Lib.hid hb'; clear hn' ho' hg' hb'))
        go_roundg g
        case measure => omega
        case rel =>
          have e : n' = ((48 + m % 10) :: out).length := by rw [HN'.out]; simp; omega
          refine ⟨m / 10, (48 + m % 10) :: out, s', c', rfl, by rw [e], HG.out, HD.out, by simp; omega, by rw [← e]; exact HO'.out, ?_, (HBB.out.trans (HB2.out.mono HBB.out.size)).trans HB'.out⟩
          exact HK.out.kept (fun b hb he => HG'.out.block b hb (fun e2 => by
            have h1 : some b = some wr.heap.size := e2
            injection h1 with h1
            have h2 := (HOR.out.lt b he).2
            omega))
      · have hde := digits_end (f := gk) (out := out) hm
        rw [hde] at hd
        have HH : Hid (headsP ⟨rg, ct, vb, mv, ag⟩ = [reg ++ out, out ++ reg]) := Lib.hid (by unfold headsP; rw [hd, HREG.out])
        have HO := Lib.hid ho
        have HOR := Lib.hid hoR
        have HBB := Lib.hid hb
        have hregl : reg.length ≤ 2 := by rw [HREG.out]; split <;> simp
        have HRL := Lib.hid hregl
        clear hf hd ho hoR hb hde hregl
        have hout : out.length ≤ 5 := by omega
        have hb1 := below_new2 wr (.cells #[.slice sR nR cR, .slice s out.length k] 33)
        have HB1 := Lib.hid hb1
        have HO1 := Lib.hid (HO.out.later hb1)
        have HOR1 := Lib.hid (HOR.out.later hb1)
        have HC1 := Lib.hid (one_new wr (.cells #[.slice sR nR cR, .slice s out.length k] 33))
        have hsz1 : (wr.alloc (.cells #[.slice sR nR cR, .slice s out.length k] 33)).heap.size = wr.heap.size + 1 := by simp
        have HSZ1 := Lib.hid hsz1
        have hnr : nR ≤ 2 := by rw [HNR.out]; exact HRL.out
        clear hb1 hsz1
        go_upto_region 8 with (fail)
        all_goals
          go_wp2_with fail
          refine (concat_c wr.heap.size sR s nR cR out.length k reg out _ HC1.out HNR.out.symm rfl (by omega) (by omega) (by have h := HOR1.out.is; exact h) HO1.out.is (own_nil HOR1.out) (own_nil HO1.out)).mono ?_
          rintro e w3 ⟨s1, k1, rfl, ho1, hb3⟩
          have HO31 := Lib.hid ho1
          have HB3 := Lib.hid hb3
          have HO3 := Lib.hid (HO1.out.later hb3)
          have HOR3 := Lib.hid (HOR1.out.later hb3)
          have hb4 := below_new2 w3 (.cells #[.slice s out.length k, .slice sR nR cR] 33)
          have HB4 := Lib.hid hb4
          have HO4 := Lib.hid (HO3.out.later hb4)
          have HOR4 := Lib.hid (HOR3.out.later hb4)
          have HO41 := Lib.hid (HO31.out.later hb4)
          have HC4 := Lib.hid (one_new w3 (.cells #[.slice s out.length k, .slice sR nR cR] 33))
          clear ho1 hb3 hb4
          go_wp2_with fail
          refine (concat_c w3.heap.size s sR out.length k nR cR out reg _ HC4.out rfl HNR.out.symm (by omega) (by omega) HO4.out.is (by have h := HOR4.out.is; exact h) (own_nil HO4.out) (own_nil HOR4.out)).mono ?_
          rintro e w5 ⟨s2, k2, rfl, ho2, hb5⟩
          have HO52 := Lib.hid ho2
          have HO51 := Lib.hid (HO41.out.later hb5)
          have HB5 := Lib.hid hb5
          clear ho2 hb5
          go_wp2
          go_ret
          have hz1 := HB1.out.size
          have hz3 := HB3.out.size
          have hz4 := HB4.out.size
          have hz5 := HB5.out.size
          have hzb := HBB.out.size
          have b6 := below_new2 w5 (.cells #[.slice s1 (nR + out.length) k1, .slice s2 (out.length + nR) k2] 33)
          refine ⟨w5.heap.size, s1, _, k1, s2, _, k2, reg ++ out, out ++ reg, rfl, HH.out, by omega, ?_, ?_, one_new w5 _, ?_, ?_, ?_⟩
          · have := HRL.out; simp; omega
          · have := HRL.out; simp; omega
          · exact (HO51.out.later b6).mono (by omega)
          · exact (HO52.out.later b6).mono (by omega)
          · exact HBB.out.trans ((bt (bt (bt (bt HB1.out HB3.out) HB4.out) HB5.out) b6).mono hzb)
open Go.RowKit
set_option linter.unusedVariables false
/-- block ob: the rows that were gathered, in memory of the call's own -/
structure OutM (w : World) (base ob : Nat) (R : List (List Int)) (s : Option Addr) (c : Nat) (qs : List QuietD) : Prop where
  box : IsBox w ob 32 (.slice s R.length c)
  own : OwnQ w 0 (.slice s R.length c) qs
  low : ∀ b, (Value.slice s R.length c).ownBlock = some b → base ≤ b
  ge : base ≤ ob
  is : qs.map (·.l) = R
  each : ∀ q ∈ qs, QOk w q ∧ q.n = q.l.length
def OutR (w : World) (base ob : Nat) (R : List (List Int)) : Prop := ∃ s c qs, OutM w base ob R s c qs
theorem OutM.len {w : World} {base ob : Nat} {R : List (List Int)} {s : Option Addr} {c : Nat} {qs : List QuietD} (h : OutM w base ob R s c qs) : R.length = qs.length := by rw [← h.is, List.length_map]
theorem OutM.later {w w' : World} {base ob : Nat} {R : List (List Int)} {s : Option Addr} {c : Nat} {qs : List QuietD} (h : OutM w base ob R s c qs) (hb : Below w.heap.size w w') : OutM w' base ob R s c qs :=
  { h with
    box := h.box.below hb
    own := own_kept h.own (fun b hb' => hb.block b (own_size h.own hb'))
    each := fun q hq => ⟨(h.each q hq).1.kept (hb.block _ (h.each q hq).1.lt), (h.each q hq).2⟩ }
theorem OutM.type {w : World} {base ob : Nat} {R : List (List Int)} {s : Option Addr} {c : Nat} {qs : List QuietD} (h : OutM w base ob R s c qs) {b : Nat} (hb : (Value.slice s R.length c).ownBlock = some b) : ∃ cs, w.heap[b]? = some (.cells cs 33 (0, 0)) := by
  rcases h.own.2 with ⟨h1, _⟩ | ⟨g, cap, cur, h1, hg, hgg, _⟩
  · rw [h1] at hb; cases hb
  · rw [h1] at hb; cases hb; exact ⟨_, hgg⟩
theorem OutM.step {w w' : World} {base ob g1 : Nat} {R : List (List Int)} {s : Option Addr} {c : Nat} {qs : List QuietD} {cs : Array Value} (h : OutM w base ob R s c qs) (hb : w.grownBy w' (some g1)) (hg : w.heap[g1]? = some (.cells cs 3 (0, 0))) (hq : ∀ q ∈ qs, q.g ≠ g1) : OutM w' base ob R s c qs :=
  { h with
    box := (hb.block ob (heap_lt h.box) (fun e => type_ne h.box hg (by decide) (by cases e; rfl))).trans h.box
    own := own_kept h.own (fun b hb' => hb.block b (own_size h.own hb') (fun e => by
      obtain ⟨cs2, h2⟩ := h.type hb'
      exact type_ne h2 hg (by decide) (by cases e; rfl)))
    each := fun q hx => ⟨(h.each q hx).1.kept (hb.block _ (h.each q hx).1.lt (fun e => hq q hx (by cases e; rfl))), (h.each q hx).2⟩ }
theorem OutM.boxG {w w' : World} {base ob : Nat} {R : List (List Int)} {s : Option Addr} {c : Nat} {qs : List QuietD} (h : OutM w base ob R s c qs) (hg : w.grownBy w' (Value.slice s R.length c).ownBlock) : IsBox w' ob 32 (.slice s R.length c) :=
  (hg.block ob (heap_lt h.box) (fun e => by
    obtain ⟨cs2, h2⟩ := h.type e.symm
    exact type_ne h2 h.box (by decide) rfl)).trans h.box
theorem own_type {w : World} {base g n c : Nat} {l : List Int} (h : OwnInts w base (.slice (some ⟨g, 0, none⟩) n c) l) : ∃ cs, w.heap[g]? = some (.cells cs 3 (0, 0)) := by
  rcases h.2 with ⟨h1, _⟩ | ⟨g', cap, cur, h1, hg, hgg, _⟩
  · cases h1
  · obtain ⟨h2, _⟩ := Value.slice.inj h1
    cases h2
    exact ⟨_, hgg⟩
/-- a row more -/
theorem OutM.push {w w' : World} {base ob : Nat} {R : List (List Int)} {s : Option Addr} {c : Nat} {qs : List QuietD} (h : OutM w base ob R s c qs) {q : QuietD} {p : List Int} {s' : Option Addr} {c' : Nat} (hq : QOk w q) (hqn : q.n = q.l.length) (hql : q.l = p) (hbase : base ≤ w.heap.size)
    (ho : OwnQ w' 0 (.slice s' (R.length + 1) c') (qs ++ [q])) (hg : w.grownBy w' (Value.slice s R.length c).ownBlock) (hat : (Value.slice s' (R.length + 1) c').ownBlock = (Value.slice s R.length c).ownBlock ∨ ∃ b, (Value.slice s' (R.length + 1) c').ownBlock = some b ∧ w.heap.size ≤ b) :
    OutM (w'.setCell ⟨ob, 0, none⟩ (.slice s' (R.length + 1) c')) base ob (R ++ [p]) s' c' (qs ++ [q]) ∧ Below base w (w'.setCell ⟨ob, 0, none⟩ (.slice s' (R.length + 1) c')) ∧
      ∀ (b : Nat) (cs : Array Value) (t : TypeId), w.heap[b]? = some (.cells cs t (0, 0)) → t ≠ 32 → t ≠ 33 → (w'.setCell ⟨ob, 0, none⟩ (.slice s' (R.length + 1) c')).heap[b]? = some (.cells cs t (0, 0)) := by
  have hrl := heap_lt h.box
  have hold : ∀ b, b < w.heap.size → b ≠ ob → (Value.slice s R.length c).ownBlock ≠ some b → (w'.setCell ⟨ob, 0, none⟩ (.slice s' (R.length + 1) c')).heap[b]? = w.heap[b]? := fun b hb hbr hbR => by
    rw [Below.heap_setCell _ _ _ _ hbr]
    exact hg.block b hb (fun e => hbR e.symm)
  have hrR : ∀ b, (Value.slice s R.length c).ownBlock = some b → b ≠ ob := fun b hb => by
    obtain ⟨cs, h1⟩ := h.type hb
    exact type_ne h1 h.box (by decide)
  have hr' : w'.heap[ob]? = some (.cells #[.slice s R.length c] 32 (0, 0)) := (hg.block ob hrl (fun e => hrR ob e.symm rfl)).trans h.box
  have hqk : ∀ x, QOk w x → QOk (w'.setCell ⟨ob, 0, none⟩ (.slice s' (R.length + 1) c')) x := fun x hx => by
    obtain ⟨cs, h1⟩ := hx.type
    refine hx.kept (hold _ hx.lt (type_ne h1 h.box (by decide)) (fun e => ?_))
    obtain ⟨cs2, h2⟩ := h.type e
    exact type_ne h2 h1 (by decide) rfl
  refine ⟨⟨?_, ?_, ?_, h.ge, ?_, ?_⟩, ?_, ?_⟩
  · unfold IsBox
    rw [block_set _ hr', List.length_append]; rfl
  · rw [List.length_append]
    refine own_kept ho (fun b hb => Below.heap_setCell _ _ _ _ ?_)
    rcases hat with e | ⟨b', e, he⟩
    · exact hrR b (e ▸ hb)
    · have h3 : some b' = some b := e.symm.trans hb
      injection h3 with h3
      intro e2
      have : b = ob := e2
      omega
  · intro b hb
    rw [List.length_append] at hb
    rcases hat with e | ⟨b', e, he⟩
    · exact h.low b (e ▸ hb)
    · have h3 : some b' = some b := e.symm.trans hb
      injection h3 with h3
      omega
  · rw [List.map_append, h.is, ← hql]; rfl
  · intro x hx
    rcases List.mem_append.1 hx with hx | hx
    · exact ⟨hqk x (h.each x hx).1, (h.each x hx).2⟩
    · rw [List.mem_singleton] at hx
      subst hx
      exact ⟨hqk _ hq, hqn⟩
  · exact (Below.grown (Below.refl _ _) hg hbase (fun b hb => h.low b hb)).setCell h.ge _
  · intro b cs t hb ht1 ht2
    refine (hold b (heap_lt hb) (type_ne hb h.box ht1) (fun e => ?_)).trans hb
    obtain ⟨cs2, h2⟩ := h.type e
    exact type_ne h2 hb (fun e => ht2 e.symm) rfl
/-- all but the lists of rows is as it was -/
def Keeps (w w' : World) : Prop := ∀ (b : Nat) (cs : Array Value) (t : TypeId), w.heap[b]? = some (.cells cs t (0, 0)) → t ≠ 32 → t ≠ 33 → w'.heap[b]? = some (.cells cs t (0, 0))
theorem Keeps.refl (w : World) : Keeps w w := fun _ _ _ h _ _ => h
theorem Keeps.trans {a b c : World} (h : Keeps a b) (k : Keeps b c) : Keeps a c := fun x cs t h1 h2 h3 => k x cs t (h x cs t h1 h2 h3) h2 h3
theorem Keeps.of {w w' : World} (h : Below w.heap.size w w') : Keeps w w' := fun b _ _ h1 _ _ => (h.block b (heap_lt h1)).trans h1
theorem ints_base {w w' : World} {base : Nat} {s : Option Addr} {n : Nat} {f : Nat → Int} (h : IsInts w s n f) (hb : Below base w w') (hs : ∀ a, s = some a → a.block < base) : IsInts w' s n f := by
  rcases h with h | ⟨b, off, rfl, hlt, hc⟩
  · exact .inl h
  · have h1 : b < base := hs _ rfl
    exact .inr ⟨b, off, rfl, Nat.lt_of_lt_of_le hlt hb.size, fun k hk => (World.cell?_of_block (w := w) (hb.block b h1)).trans (hc k hk)⟩
theorem Tabs.base {w w' : World} {ow : Nat → Nat} {tb base : Nat} {T : Nat → Rows} (h : Tabs w ow tb T) (hb : Below base w w') (hz : ∀ b, base ≤ b → ow b = 0) : Tabs w' ow tb T :=
  h.kept (fun b _ hne => ⟨hb.block b (Nat.lt_of_not_le fun hn => hne (hz b hn)), rfl⟩) hb.size
theorem LPart.base {w w' : World} {ow : Nat → Nat} {i tb base : Nat} {K : List (List Int)} {B : List Bd} {S : TrieS} {qs : List QuietD} {bvs : List BV} {sK : Option Addr} {cK : Nat} {sB : Option Addr} {cB : Nat}
    (h : LPart w ow i tb (4 * i) K B S qs bvs sK cK sB cB) (hb : Below base w w') (hz : ∀ b, base ≤ b → ow b = 0) (htb : ow tb = 4) : LPart w' ow i tb (4 * i) K B S qs bvs sK cK sB cB := by
  have he : w'.heap[tb]? = w.heap[tb]? := hb.block tb (by have h1 := hz tb; omega)
  refine h.kept (fun b _ hc => ⟨hb.block b (by have h1 := hz b; rcases hc with hc | hc | hc | hc <;> omega), rfl⟩) hb.size (World.cell?_of_block (w := w) he) (World.cell?_of_block (w := w) he) (RootSame.of fun _ => he)
def putR (h : List Int) (r : List Int × Bd) (arg : Int) : List Int := if r.2.more then h ++ r.1 ++ [arg] else h ++ r.1
theorem putP_snoc (h : List Int) (T : Rows) (arg : Int) (k : Nat) (hk : k < T.length) : putP h (T.take (k + 1)) arg = putP h (T.take k) arg ++ [putR h T[k] arg] := by
  rw [List.take_add_one, List.getElem?_eq_getElem hk]
  unfold putP putR
  rw [List.map_append]
  rfl
set_option maxRecDepth 100000 in
set_option maxHeartbeats 8000000 in
theorem rows1_c (base : Nat) (ow : Nat → Nat) (tb i : Nat) (T : Nat → Rows) (hd : List Int) (sh : Option Addr) (nh ch : Nat) (c : Cmd) (cb ob : Nat) (R : List (List Int)) (w : World) (hi : i < 3) (ht : Tabs w ow tb T) (hz : ∀ b, base ≤ b → ow b = 0) (hbase : base ≤ w.heap.size)
    (hT : ∀ r ∈ T i, r.1 ≠ [] ∧ r.1.length < 1000) (hTl : (T i).length < 1000) (hR : R.length < 100000) (hh : IsInts w sh nh (gl hd)) (hhn : hd.length = nh) (hhl : nh < 1000) (hhb : ∀ a, sh = some a → a.block < base) (hhz : sh = none → nh = 0 ∧ ch = 0) (hc : w.heap[cb]? = some (.cells c.cells 44 (0, 0))) (ho : OutR w base ob R) :
    Calls Try.prog 88 #[.slice sh nh ch, .pointer (some ⟨tb, 4 * i, none⟩), .pointer (some ⟨cb, 0, none⟩), .pointer (some ⟨ob, 0, none⟩)] w fun e w' => e = .returned (.tuple #[]) ∧ OutR w' base ob (R ++ putP hd (T i) c.arg) ∧ Keeps w w' ∧ Below base w w' := by
  obtain ⟨qs, bvs, sK, cK, sB, cB, hp⟩ := ht.list i hi
  have htb := ht.own
  have HP := Lib.hid hp
  have HZ := Lib.hid hz
  have HT := Lib.hid hT
  have HH := Lib.hid hh
  have HHN := Lib.hid hhn
  have HHB := Lib.hid hhb
  have HHZ := Lib.hid hhz
  have HC := Lib.hid hc
  have HO := Lib.hid ho
  have HTB := Lib.hid htb
  have k0 : w.cell? ⟨tb, 4 * i, none⟩ = some (.slice sK ((T i).map (·.1)).length cK) := hp.k.cell
  rw [List.length_map] at k0
  clear hp ht hz hT hh hhn hhb hhz hc ho htb
  go_enter Try.func88, Try.ntmps88
  go_wp2_with fail
  go_loopg [14] (T i).length (fun gg iv wr => ∃ k : Nat, k + gg = (T i).length ∧ iv = .int .i64 k ∧ OutR wr base ob (R ++ putP hd ((T i).take k) c.arg) ∧ Keeps w wr ∧ Below base w wr)
  case atStart => exact ⟨0, by omega, rfl, by simpa [putP] using HO.out, Keeps.refl _, Below.refl _ _⟩
  case round =>
    obtain ⟨k, hgk, rfl, ho, hkp, hb⟩ := hrel
    have hc := hkp cb _ _ HC.out (by decide) (by decide)
    clear HO
    have HC := Lib.hid hc
    have HKP := Lib.hid hkp
    clear hkp
    have HB := Lib.hid hb
    by_cases hlt : k < (T i).length
    · obtain ⟨sO, cO, qO, hom⟩ := ho
      have hp := HP.out.base hb HZ.out HTB.out
      have hkl : k < ((T i).map (·.1)).length := by rw [List.length_map]; exact hlt
      have hql : k < qs.length := by rw [hp.k.len]; exact hkl
      obtain ⟨gK, rfl, d0⟩ := hp.k.keys.cell hql
      obtain ⟨e1, e2, e3, _⟩ := hp.k.each k hql hkl
      obtain ⟨gB, rfl, _, hbc⟩ := hp.b.at (j := k) (by rw [List.length_map]; exact hlt)
      have hjb : k < bvs.length := by rw [hp.b.len, List.length_map]; exact hlt
      have hbd := hp.b.each k hjb (by rw [List.length_map]; exact hlt)
      have hmore : bvs[k].more = (T i)[k].2.more := by have := hbd.2.2.2.1; rwa [List.getElem_map] at this
      have b0 := hp.b.cell
      rw [List.length_map] at b0
      have b3 : wr.cell? ⟨gB, k * 6 + 3, none⟩ = some (.bool (T i)[k].2.more) := by rw [Nat.mul_comm]; exact (hbc 3 (by omega)).trans (by rw [← hmore]; rfl)
      rw [List.getElem_map] at e2 e3
      have hTk := HT.out _ (List.getElem_mem hlt)
      have hps : R ++ putP hd ((T i).take (k + 1)) c.arg = (R ++ putP hd ((T i).take k) c.arg) ++ [putR hd (T i)[k] c.arg] := by rw [putP_snoc hd (T i) c.arg k hlt, List.append_assoc]
      have hrl : (R ++ putP hd ((T i).take k) c.arg).length < 101001 := by rw [List.length_append]; unfold putP; rw [List.length_map, List.length_take]; omega
      generalize R ++ putP hd ((T i).take k) c.arg = RR at hom hps hrl
      generalize hq0 : qs[k] = q0 at d0 e1 e2 e3
      obtain ⟨qg, qn, qc, ql⟩ := q0
      simp only [qval] at d0 e1 e2 e3
      generalize (T i)[k] = rk at b3 e2 e3 hTk hps
      obtain ⟨rk1, rb⟩ := rk
      simp only at b3 e2 e3 hTk
      subst e3
      have hqn : qn = ql.length := e2
      have HOM := Lib.hid hom
      have HE1 := Lib.hid e1
      have HQN := Lib.hid hqn
      have HPS := Lib.hid hps
      have hqn1 : qn < 1000 := by omega
      have hqn0 : ql ≠ [] := hTk.1
      have q1 : (k : Int) < ((T i).length : Int) := by omega
      clear hp hom e1 hqn hps hTk hc hb hq0 hbd hmore hbc e2
      have hb1 := below_new2 wr (.cells #[.slice sh nh ch, .slice (some ⟨qg, 0, none⟩) qn qc] 33)
      have HB1 := Lib.hid hb1
      have HC1 := Lib.hid (one_new wr (.cells #[.slice sh nh ch, .slice (some ⟨qg, 0, none⟩) qn qc] 33))
      have HH1 := Lib.hid ((ints_base HH.out HB.out HHB.out).later hb1)
      have HQ1 := Lib.hid ((qok_list HE1.out).later hb1)
      clear hb1
      go_wp2_with fail
      refine (concat_c wr.heap.size sh (some ⟨qg, 0, none⟩) nh ch qn qc hd ql _ HC1.out HHN.out HQN.out.symm (by omega) (by omega) HH1.out HQ1.out HHZ.out (fun e => by cases e)).mono ?_
      rintro e w3 ⟨s1, k1, rfl, ho1, hb3⟩
      have hbb := bt HB1.out hb3
      have HB3 := Lib.hid hbb
      have hom3 := HOM.out.later hbb
      have hc3 := (hbb.block _ (heap_lt HC.out)).trans HC.out
      have b03 : w3.cell? ⟨tb, 4 * i + 1, none⟩ = some (.slice (some ⟨gB, 0, none⟩) (T i).length cB) := (hbb.cell (p := ⟨tb, 4 * i + 1, none⟩) (World.block_lt_of_cell? wr _ b0)).trans b0
      have b33 : w3.cell? ⟨gB, k * 6 + 3, none⟩ = some (.bool rb.more) := (hbb.cell (p := ⟨gB, k * 6 + 3, none⟩) (World.block_lt_of_cell? wr _ b3)).trans b3
      have hs1 : ∃ g1, s1 = some ⟨g1, 0, none⟩ := by
        rcases ho1.2 with ⟨h1, h2⟩ | ⟨g, cap, cur, h1, _⟩
        · rw [List.length_append] at h2
          exact absurd (List.length_eq_zero_iff.1 (by omega)) hqn0
        · obtain ⟨h2, _⟩ := Value.slice.inj h1
          exact ⟨g, h2⟩
      obtain ⟨g1, rfl⟩ := hs1
      have hgs1 : wr.heap.size ≤ g1 := by
        have h1 := (ho1.lt g1 rfl).1
        simp at h1
        omega
      have HQG := Lib.hid (fun q hq => (by have h1 := (HOM.out.each q hq).1.lt; omega) : ∀ q ∈ qO, q.g ≠ g1)
      have HOM3 := Lib.hid hom3
      have HO1 := Lib.hid (ho1.mono (Nat.zero_le _))
      have HC3 := Lib.hid hc3
      have HKP3 := Lib.hid (HKP.out.trans (Keeps.of hbb))
      have hsz3 := Nat.le_trans HB.out.size hbb.size
      have hszr := HB.out.size
      clear ho1 hb3 hbb hom3 hc3 b0 b3 d0 k0
      have HB3B := Lib.hid (HB.out.trans (HB3.out.mono (Nat.le_trans hbase HB.out.size)))
      go_upto_if 30 with (fail)
      go_cut [8] (fun v wc => ∃ q : QuietD, v = qval q ∧ QOk wc q ∧ q.n = q.l.length ∧ q.l = putR hd (ql, rb) c.arg ∧ OutM wc base ob RR sO cO qO ∧ Keeps w wc ∧ Below base w wc)
      case first =>
        cases hrm : rb.more
        · go_wp2
          go_meet
          exact ⟨⟨g1, nh + qn, k1, hd ++ ql⟩, rfl, HO1.out, by rw [List.length_append, HHN.out, HQN.out], by unfold putR; rw [hrm]; rfl, HOM3.out, HKP3.out, HB3B.out⟩
        · have cc : w3.cell? ⟨cb, 4, none⟩ = some (.int .i64 c.arg) := block_cell HC3.out
          have hjl : nh + qn < 4294967296 := by omega
          go_wp2_with (first | (at_builtin; refine wpList_push3 _ rfl _ _ rfl 0 _ _ _ _ rfl rfl HO1.out hjl (Nat.zero_le _) ?_; intro s' c' w4 ho4 hg4 hat4; have HO4 := Lib.hid ho4; have HG4 := Lib.hid hg4; have HA4 := Lib.hid hat4; clear ho4 hg4 hat4))
          have hs4 : ∃ g4, s' = some ⟨g4, 0, none⟩ := by
            rcases HO4.out.2 with ⟨h1, h2⟩ | ⟨g, cap, cur, h1, _⟩
            · cases h1
            · obtain ⟨h2, _⟩ := Value.slice.inj h1
              exact ⟨g, h2⟩
          obtain ⟨g4, rfl⟩ := hs4
          obtain ⟨cs1, hty⟩ := own_type HO1.out
          go_meet
          refine ⟨⟨g4, nh + qn + 1, c', hd ++ ql ++ [c.arg]⟩, rfl, HO4.out, by simp only [List.length_append, HHN.out, HQN.out]; rfl, by unfold putR; rw [hrm]; rfl, HOM3.out.step HG4.out hty HQG.out, ?_, ?_⟩
          · intro b cs t h1 h2 h3
            have h4 := HKP3.out b cs t h1 h2 h3
            have h5 := heap_lt h1
            exact (HG4.out.block b (heap_lt h4) (fun e => by
              have h6 : some b = some g1 := e
              injection h6 with h6
              omega)).trans h4
          · exact Below.grown HB3B.out HG4.out (by omega) (fun b hb => by
            have h1 : some g1 = some b := hb
            injection h1 with h1
            omega)
      case rest =>
        obtain ⟨q, rfl, hq1, hq2, hq3, hom, hc, hb⟩ := hcut
        have HOM := Lib.hid hom
        have HQ1 := Lib.hid hq1
        have HQ2 := Lib.hid hq2
        have HQ3 := Lib.hid hq3
        have HC := Lib.hid hc
        have HB := Lib.hid hb
        have o0 : wc.cell? ⟨ob, 0, none⟩ = some (.slice sO RR.length cO) := block_cell hom.box
        have o1 : wc.frozen? ⟨ob, 0, none⟩ = false := block_free hom.box
        have hsz := hb.size
        have hsw : base ≤ wc.heap.size := by omega
        clear hq1 hq2 hq3 hom hc hb
        obtain ⟨g5, n5, c5, l5⟩ := q
        rw [show qval ⟨g5, n5, c5, l5⟩ = .slice (some ⟨g5, 0, none⟩) n5 c5 from rfl]
        go_wp2_with (first | (at_builtin; refine wpList_push_q ⟨g5, n5, c5, l5⟩ rfl _ _ rfl sO _ cO qO rfl rfl HOM.out.own HOM.out.len (by omega) ?_; intro s' c' w4 ho4 hg4 hat4; have m1 := HOM.out.boxG hg4; have m2 : w4.cell? ⟨ob, 0, none⟩ = some (.slice sO RR.length cO) := block_cell m1; have m3 : w4.frozen? ⟨ob, 0, none⟩ = false := block_free m1; have hpu := HOM.out.push HQ1.out HQ2.out HQ3.out hsw ho4 hg4 hat4; have HPU := Lib.hid hpu; clear ho4 hg4 hat4 m1 hpu))
        go_roundg (gk - 1)
        case measure => omega
        case rel =>
          obtain ⟨p1, p2, p3⟩ := HPU.out
          refine ⟨k + 1, by omega, by go_num, ⟨s', c', qO ++ [⟨g5, n5, c5, l5⟩], ?_⟩, HC.out.trans p3, HB.out.trans p2⟩
          rw [HPS.out]
          exact p1
    · have hk : (T i).take k = T i := List.take_of_length_le (by omega)
      rw [hk] at ho
      have HO := Lib.hid ho
      clear hk ho hc hb
      go_wp2
      go_end0
      exact ⟨rfl, HO.out, HKP.out, HB.out⟩
end Go.Proofs.Ytampjndfhpjheaa
