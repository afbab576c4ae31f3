/- Contract: Spell. Condition: a register and an argument of 64 bits. -/
import Derived.Test.YtampjndfhpjheaaSf
namespace Go.Proofs.Ytampjndfhpjheaa
open Go.RowKit
set_option linter.unusedVariables false
theorem inKey_small {x : Int} (h0 : 0 ≤ x) (h1 : x < 1000) : inKey x := by
  have e1 : IntKind.i64.min = -9223372036854775808 := by decide
  have e2 : IntKind.i64.max = 9223372036854775807 := by decide
  show (decide (IntKind.i64.min ≤ x) && decide (x ≤ IntKind.i64.max)) = true
  rw [e1, e2, decide_eq_true (by omega), decide_eq_true (by omega)]
  rfl
def keysB (T : Rows) : Bool := T.all fun r => (r.1.all fun x => decide (0 ≤ x) && decide (x < 1000)) && r.2.own.all fun o => o.all fun x => decide (0 ≤ x) && decide (x < 1000)
theorem keysB_n : keysB normalT = true := by decide +kernel
theorem keysB_s : keysB selectedT = true := by decide +kernel
theorem keysB_b : keysB behindT = true := by decide +kernel
theorem keysB_of {T : Rows} (h : keysB T = true) {r : List Int × Bd} (hr : r ∈ T) : (∀ x ∈ r.1, inKey x) ∧ ∀ o ∈ r.2.own, ∀ x ∈ o, inKey x := by
  have h1 := List.all_eq_true.1 h r hr
  simp only [Bool.and_eq_true, decide_eq_true_eq, List.all_eq_true] at h1
  exact ⟨fun x hx => inKey_small (h1.1 x hx).1 (h1.1 x hx).2, fun o ho x hx => inKey_small (h1.2 o ho x hx).1 (h1.2 o ho x hx).2⟩
/-- a row that Spell tries -/
def RowOk (r : List Int) : Prop := r ≠ [] ∧ r.length < 10 ∧ ∀ x ∈ r, inKey x
theorem putP_ok {h : List Int} {T : Rows} {a : Int} (hb : rowB T = true) (hk : keysB T = true) (ha : inKey a) (hh : h.length < 3) (hhk : ∀ x ∈ h, inKey x) : ∀ r ∈ putP h T a, RowOk r := by
  intro r hr
  unfold putP at hr
  obtain ⟨x, hx, rfl⟩ := List.mem_map.1 hr
  have h1 := rowB_of hb hx
  have h2 := (keysB_of hk hx).1
  have hy : ∀ y ∈ h ++ x.1, inKey y := fun y hy => (List.mem_append.1 hy).elim (hhk y) (h2 y)
  split
  · refine ⟨by simp, by simp; omega, fun y hy' => ?_⟩
    rcases List.mem_append.1 hy' with h | h
    · exact hy y h
    · rw [List.mem_singleton] at h; rw [h]; exact ha
  · exact ⟨fun e => h1.1 (List.append_eq_nil_iff.1 e).2, by simp; omega, hy⟩
theorem rowsP_ok (sel : Bool) (c : Cmd) (ha : inKey c.arg) : ∀ r ∈ rowsP sel c, RowOk r := by
  cases sel
  · rw [rowsP_nor]
    intro r hr
    rcases List.mem_append.1 hr with h | h
    · exact putP_ok rowB_n keysB_n ha (by decide) (fun x hx => by cases hx) r h
    · unfold opsR2 at h
      rw [List.take_length] at h
      obtain ⟨x, hx, hrx⟩ := List.mem_flatMap.1 h
      have h1 := rowB_of rowB_n hx
      have h2 := keysB_of keysB_n hx
      unfold opR at hrx
      split at hrx
      · cases hrx
      · rcases List.mem_append.1 hrx with h3 | h3
        · exact putP_ok rowB_b keysB_b ha h1.2.1 h2.1 r h3
        · obtain ⟨o, ho, rfl⟩ := List.mem_map.1 h3
          have h4 := h1.2.2.2 o ho
          refine ⟨fun e => h4.1 (List.append_eq_nil_iff.1 e).2, by simp; omega, fun y hy => (List.mem_append.1 hy).elim (h2.1 y) (h2.2 o ho y)⟩
  · exact putP_ok rowB_s keysB_s ha (by decide) (fun x hx => by cases hx)
theorem rowsP_len (sel : Bool) (c : Cmd) : (rowsP sel c).length < 100000 := by
  cases sel
  · rw [rowsP_nor, List.length_append]
    have h1 := opsR2_len c normalT.length (Nat.le_refl _)
    have h2 := len_n
    unfold putP
    rw [List.length_map]
    omega
  · have h2 := len_s
    rw [rowsP_sel]
    unfold putP
    rw [List.length_map]
    omega
theorem digits_key {f : Nat} {n : Int} {out : List Int} (h : ∀ x ∈ out, inKey x) : ∀ x ∈ digitsP f n out, inKey x := by
  induction f generalizing n out with
  | zero => exact h
  | succ f ih =>
    unfold digitsP
    split
    · refine ih (fun x hx => ?_)
      rcases List.mem_cons.1 hx with rfl | hx
      · exact inKey_small (by omega) (by omega)
      · exact h x hx
    · exact h
theorem heads_key {c : Cmd} {h1 h2 : List Int} (h : headsP c = [h1, h2]) (hr : inKey c.reg) : (∀ x ∈ h1, inKey x) ∧ ∀ x ∈ h2, inKey x := by
  unfold headsP at h
  injection h with e1 e2
  injection e2 with e2 _
  have hd : ∀ x ∈ digitsP 5 c.count [], inKey x := digits_key (fun x hx => by cases hx)
  have hg : ∀ x ∈ (if c.reg = 0 then [] else [34, c.reg] : List Int), inKey x := by
    intro x hx
    split at hx
    · cases hx
    · simp only [List.mem_cons, List.not_mem_nil, or_false] at hx
      rcases hx with rfl | rfl
      · exact inKey_small (by omega) (by omega)
      · exact hr
  subst e1; subst e2
  exact ⟨fun x hx => (List.mem_append.1 hx).elim (hg x) (hd x), fun x hx => (List.mem_append.1 hx).elim (hd x) (hg x)⟩
/-- what Spell holds while it tries -/
structure SpS (w0 W : World) (ow : Nat → Nat) (tb bt bm bc bb : Nat) (mode : Int) (c : Cmd) (sR : Option Addr) (nR cR : Nat) (qs : List QuietD) : Prop where
  t : Tabs W ow tb tabT
  t0 : ow bb = 0
  b1 : IsBox W bt 86 (.pointer (some ⟨tb, 0, none⟩))
  b2 : IsBox W bm 3 (.int .i64 mode)
  b3 : W.heap[bc]? = some (.cells c.cells 44 (0, 0))
  r : OwnQ W 0 (.slice sR nR cR) qs
  rb : ∀ b, (Value.slice sR nR cR).ownBlock = some b → b ≠ bb
  q : ∀ q ∈ qs, QOk W q ∧ q.n = q.l.length
  bl : Below w0.heap.size w0 W
  n1 : bt ≠ bb
  n2 : bm ≠ bb
  n3 : bc ≠ bb
  low : w0.heap.size ≤ bb
  hi : bb < W.heap.size
theorem SpS.step {w0 W W' : World} {v : Value} {ow : Nat → Nat} {tb bt bm bc bb : Nat} {mode : Int} {c : Cmd} {sR : Option Addr} {nR cR : Nat} {qs : List QuietD} (h : SpS w0 W ow tb bt bm bc bb mode c sR nR cR qs) (hx : IsBox W bb 33 v) (ht : Touch (fun b => b = bb) W W') : SpS w0 W' ow tb bt bm bc bb mode c sR nR cR qs := by
  have hb : ∀ b, b < W.heap.size → b ≠ bb → W'.heap[b]? = W.heap[b]? := fun b h1 h2 => ht.block b h1 h2
  exact
  { h with
    t := h.t.touch ht h.t0
    b1 := (hb _ (heap_lt h.b1) h.n1).trans h.b1
    b2 := (hb _ (heap_lt h.b2) h.n2).trans h.b2
    b3 := (hb _ (heap_lt h.b3) h.n3).trans h.b3
    r := own_kept h.r (fun b hb' => hb b (own_size h.r hb') (h.rb b hb'))
    q := fun q hq => by
      obtain ⟨cs, hty⟩ := (h.q q hq).1.type
      exact ⟨(h.q q hq).1.kept (hb _ (h.q q hq).1.lt (type_ne hty hx (by decide))), (h.q q hq).2⟩
    bl := h.bl.trans (ht.below (fun b hb => by subst hb; exact h.low) h.bl.size)
    hi := Nat.lt_of_lt_of_le h.hi ht.size }
theorem SpS.later {w0 W W' : World} {ow : Nat → Nat} {tb bt bm bc bb : Nat} {mode : Int} {c : Cmd} {sR : Option Addr} {nR cR : Nat} {qs : List QuietD} (h : SpS w0 W ow tb bt bm bc bb mode c sR nR cR qs) (hb : Below W.heap.size W W') : SpS w0 W' ow tb bt bm bc bb mode c sR nR cR qs :=
  { h with
    t := h.t.later hb
    b1 := h.b1.below hb
    b2 := h.b2.below hb
    b3 := (hb.block _ (heap_lt h.b3)).trans h.b3
    r := own_kept h.r (fun b hb' => hb.block b (own_size h.r hb'))
    q := fun q hq => ⟨(h.q q hq).1.kept (hb.block _ (h.q q hq).1.lt), (h.q q hq).2⟩
    bl := h.bl.trans (hb.mono h.bl.size)
    hi := Nat.lt_of_lt_of_le h.hi hb.size }
/-- the two heads in memory -/
structure HdS (W : World) (g bb : Nat) (s1 : Option Addr) (n1 c1 : Nat) (h1 : List Int) (s2 : Option Addr) (n2 c2 : Nat) (h2 : List Int) : Prop where
  blk : W.heap[g]? = some (.cells #[.slice s1 n1 c1, .slice s2 n2 c2] 33 (0, 0))
  o1 : OwnInts W 0 (.slice s1 n1 c1) h1
  o2 : OwnInts W 0 (.slice s2 n2 c2) h2
  ne : g ≠ bb
theorem ownints_type {w : World} {base : Nat} {v : Value} {l : List Int} (h : OwnInts w base v l) {b : Nat} (hb : v.ownBlock = some b) : ∃ cs, w.heap[b]? = some (.cells cs 3 (0, 0)) := by
  rcases h.2 with ⟨h1, _⟩ | ⟨g, cap, cur, h1, hg, hgg, _⟩
  · rw [h1] at hb; cases hb
  · rw [h1] at hb; cases hb; exact ⟨_, hgg⟩
theorem HdS.step {W W' : World} {v : Value} {g bb : Nat} {s1 : Option Addr} {n1 c1 : Nat} {h1 : List Int} {s2 : Option Addr} {n2 c2 : Nat} {h2 : List Int} (h : HdS W g bb s1 n1 c1 h1 s2 n2 c2 h2) (hx : IsBox W bb 33 v) (ht : Touch (fun b => b = bb) W W') : HdS W' g bb s1 n1 c1 h1 s2 n2 c2 h2 := by
  have hk : ∀ {u : Value} {l : List Int}, OwnInts W 0 u l → OwnInts W' 0 u l := fun ho => ho.kept (fun b hb he => by
    obtain ⟨cs, hty⟩ := ownints_type ho he
    exact ht.block b hb (type_ne hty hx (by decide)))
  exact ⟨(ht.block g (heap_lt h.blk) h.ne).trans h.blk, hk h.o1, hk h.o2, h.ne⟩
theorem HdS.later {W W' : World} {g bb : Nat} {s1 : Option Addr} {n1 c1 : Nat} {h1 : List Int} {s2 : Option Addr} {n2 c2 : Nat} {h2 : List Int} (h : HdS W g bb s1 n1 c1 h1 s2 n2 c2 h2) (hb : Below W.heap.size W W') : HdS W' g bb s1 n1 c1 h1 s2 n2 c2 h2 :=
  ⟨(hb.block g (heap_lt h.blk)).trans h.blk, h.o1.later hb, h.o2.later hb, h.ne⟩
def spK (sel : Bool) (c : Cmd) (L : List (List Int)) (k : Nat) : Option (List Int) := ((L.take k).flatMap fun r => (headsP c).map fun h => h ++ r).foldl (tryP sel c) none
theorem spK_snoc {sel : Bool} {c : Cmd} {L : List (List Int)} {k : Nat} (hk : k < L.length) {h1 h2 : List Int} (hh : headsP c = [h1, h2]) : spK sel c L (k + 1) = tryP sel c (tryP sel c (spK sel c L k) (h1 ++ L[k])) (h2 ++ L[k]) := by
  unfold spK
  rw [List.take_add_one, List.getElem?_eq_getElem hk, List.flatMap_append, List.foldl_append]
  simp [hh]
theorem spK_all (sel : Bool) (c : Cmd) (L : List (List Int)) (hL : L = rowsP sel c) : spK sel c L L.length = spellP sel c := by
  subst hL
  unfold spK
  rw [List.take_length]
  rfl
theorem try_enters (args : Array Value) (w : World) : (callFunc 41 args).run Try.prog w = .ok (.enter 41 args) w := enters_of Try.func41 (by kernel_rfl) rfl args w
/-- what Spell answers -/
def SpellIs (w0 : World) (r : Option (List Int)) (e : Ending) (w' : World) : Prop := ∃ v, e = .returned v ∧ BestIs w' w0.heap.size v r ∧ Below w0.heap.size w0 w'
set_option maxRecDepth 100000 in
set_option maxHeartbeats 8000000 in
theorem spell_c (mode : Int) (c : Cmd) (w : World) (hreg : inKey c.reg) (harg : inKey c.arg) : Calls Try.prog 16 #[.int .i64 mode, .agg c.cells] w (SpellIs w (spellP (selP mode) c)) := by
  have hmf : ∀ (fn : Fn) (first cap : Array Value) (w : World), (Instr.makeFunc fn first cap).run Try.prog w = .ok (.func fn first cap) w := fun _ _ _ _ => rfl
  have eg := try_enters
  have HRG := Lib.hid hreg
  have HAG := Lib.hid harg
  clear hreg harg
  obtain ⟨wa, hwa⟩ : ∃ wa, wa = (w.alloc (.cells #[.int .i64 mode] 3)).alloc (.cells c.cells 44) := ⟨_, rfl⟩
  have hA : IsBox wa w.heap.size 3 (.int .i64 mode) ∧ wa.heap[w.heap.size + 1]? = some (.cells c.cells 44 (0, 0)) ∧ Below w.heap.size w wa ∧ wa.heap.size = w.heap.size + 2 := by
    have n1 := IsBox.new w 3 (.int .i64 mode)
    have b1 := below_new2 w (.cells #[.int .i64 mode] 3)
    have s1 : (w.alloc (.cells #[.int .i64 mode] 3)).heap.size = w.heap.size + 1 := by simp
    rw [hwa]
    generalize w.alloc (.cells #[.int .i64 mode] 3) = w1 at *
    have n2 := one_new w1 (.cells c.cells 44)
    have b2 := below_new2 w1 (.cells c.cells 44)
    rw [s1] at n2
    exact ⟨n1.below b2, n2, bt b1 b2, by simp [s1]⟩
  obtain ⟨a1, a2, a3, a4⟩ := hA
  have HWA := Lib.hid hwa
  have HA1 := Lib.hid a1
  have HA2 := Lib.hid a2
  have HA3 := Lib.hid a3
  have HA4 := Lib.hid a4
  clear hwa a1 a2 a3 a4
  obtain ⟨y1, y2, y3, y4, y5⟩ := c
  show Calls Try.prog 16 #[.int .i64 mode, .agg #[.int .i64 y1, .int .i64 y2, .int .i64 y3, .int .i64 y4, .int .i64 y5]] w _
  go_enter Try.func16, Try.ntmps16
  go_wp2_with fail
  rw [show (w.alloc (.cells #[.int .i64 mode] 3)).alloc (.cells #[.int .i64 y1, .int .i64 y2, .int .i64 y3, .int .i64 y4, .int .i64 y5] 44) = wa from HWA.out.symm]
  refine (tables_c wa).mono ?_
  rintro e w1 ⟨tb, ow0, rfl, ht, hb1, _⟩
  have hB : ∃ ow w3, w3 = (w1.alloc (.cells #[.pointer (some ⟨tb, 0, none⟩)] 86)).alloc (.cells #[.slice none 0 0] 33) ∧ Tabs w3 ow tb tabT ∧ ow (w1.heap.size + 1) = 0 ∧ IsBox w3 w1.heap.size 86 (.pointer (some ⟨tb, 0, none⟩)) ∧ IsBox w3 (w1.heap.size + 1) 33 (.slice none 0 0) ∧ Below wa.heap.size wa w3 ∧ w1.heap.size + 1 < w3.heap.size := by
    have n1 := IsBox.new w1 86 (.pointer (some ⟨tb, 0, none⟩))
    have b1 := below_new2 w1 (.cells #[.pointer (some ⟨tb, 0, none⟩)] 86)
    have s1 : (w1.alloc (.cells #[.pointer (some ⟨tb, 0, none⟩)] 86)).heap.size = w1.heap.size + 1 := by simp
    generalize w1.alloc (.cells #[.pointer (some ⟨tb, 0, none⟩)] 86) = w2 at *
    have n2 := IsBox.new w2 33 (.slice none 0 0)
    have b2 := below_new2 w2 (.cells #[.slice none 0 0] 33)
    rw [s1] at n2
    have bb := bt b1 b2
    exact ⟨newC ow0 w1.heap.size 0, _, rfl, ht.kept (fun b hb _ => ⟨bb.block b hb, newC_old ow0 hb⟩) bb.size, newC_new ow0 (by omega), n1.below b2, n2, bt hb1 bb, by simp [s1]⟩
  obtain ⟨ow, w3, hw3, ht3, hz, hbt, hbb, hb3, hs3⟩ := hB
  have hsz := HA4.out
  have hsz1 := hb1.size
  have HW3 := Lib.hid hw3
  have HT3 := Lib.hid ht3
  have HZ := Lib.hid hz
  have HBT := Lib.hid hbt
  have HBB := Lib.hid hbb
  have HB3 := Lib.hid hb3
  have HSZ := Lib.hid hsz
  clear ht hb1 hw3 ht3 hz hbt hbb hb3
  replace hsz : w.heap.size + 2 ≤ wa.heap.size := by omega
  go_upto_region 4 with (fail)
  rw [show (w1.alloc (.cells #[.pointer (some ⟨tb, 0, none⟩)] 86)).alloc (.cells #[.slice none 0 0] 33) = w3 from HW3.out.symm]
  have c5 : w3.cell? ⟨w1.heap.size, 0, none⟩ = some (.pointer (some ⟨tb, 0, none⟩)) := block_cell HBT.out
  have hm3 := (HB3.out.block _ (heap_lt HA1.out)).trans HA1.out
  have hc3 := (HB3.out.block _ (heap_lt HA2.out)).trans HA2.out
  have HM3 : Hid (IsBox w3 w.heap.size 3 (.int .i64 mode)) := Lib.hid hm3
  have HC3 := Lib.hid hc3
  have c2 : w3.cell? ⟨w.heap.size, 0, none⟩ = some (.int .i64 mode) := block_cell hm3
  have m0 : w3.cell? ⟨w.heap.size + 1, 0, none⟩ = some (.int .i64 y1) := block_cell hc3
  have m1 : w3.cell? ⟨w.heap.size + 1, 1, none⟩ = some (.int .i64 y2) := block_cell hc3
  have m2 : w3.cell? ⟨w.heap.size + 1, 2, none⟩ = some (.int .i64 y3) := block_cell hc3
  have m3 : w3.cell? ⟨w.heap.size + 1, 3, none⟩ = some (.int .i64 y4) := block_cell hc3
  have m4 : w3.cell? ⟨w.heap.size + 1, 4, none⟩ = some (.int .i64 y5) := block_cell hc3
  obtain ⟨L, hL⟩ : ∃ L, L = rowsP (selP mode) ⟨y1, y2, y3, y4, y5⟩ := ⟨_, rfl⟩
  have hrows := (rows_c (selP mode) ow tb ⟨y1, y2, y3, y4, y5⟩ w3.drew (HT3.out.later (Below.refl w3.heap.size w3).drew))
  rw [← hL] at hrows
  have HROWS := Lib.hid hrows
  have HL := Lib.hid hL
  have hdr : Below w3.heap.size w3 w3.drew := (Below.refl w3.heap.size w3).drew
  have HDR := Lib.hid hdr
  clear hm3 hc3 hdr hrows hL
  go_cut [18, 19, 20] (fun a b d wc => ∃ sR kR qs, a = .slice sR L.length kR ∧ b = .int .i64 L.length ∧ d = .int .i64 0 ∧ qs.map (·.l) = L ∧ SpS w wc ow tb w1.heap.size w.heap.size (w.heap.size + 1) (w1.heap.size + 1) mode ⟨y1, y2, y3, y4, y5⟩ sR L.length kR qs ∧ IsBox wc (w1.heap.size + 1) 33 (.slice none 0 0))
  case first =>
    go_region_law (first
      | (go_simp; refine (sel_c mode _).mono ?_; rintro e w4 ⟨rfl, rfl⟩)
      | (go_simp; refine HROWS.out.mono ?_; rintro e w5 ⟨sR, kR, qs, rfl, hr1, hr2, hr3, hr4, hr5⟩; have HR1 := Lib.hid hr1; have HR2 := Lib.hid hr2; have HR3 := Lib.hid hr3; have HR4 := Lib.hid hr4; have HR5 := Lib.hid hr5; clear hr1 hr2 hr3 hr4 hr5))
    all_goals
      go_wp2_with fail
      go_meet
      have hb5 : Below w3.heap.size w3 w5 := HDR.out.trans HR5.out
      have hs3' : w1.heap.size + 1 < w3.heap.size := hs3
      refine ⟨sR, kR, qs, rfl, rfl, rfl, HR2.out, ⟨HT3.out.later hb5, HZ.out, HBT.out.below hb5, HM3.out.below hb5, (hb5.block _ (heap_lt HC3.out)).trans HC3.out, HR1.out, fun b hb => ?_, HR3.out, ?_, by omega, by omega, by omega, by omega, Nat.lt_of_lt_of_le hs3 hb5.size⟩, HBB.out.below hb5⟩
      · have h1 := HR4.out b hb
        have h2 : w3.drew.heap.size = w3.heap.size := rfl
        omega
      · exact HA3.out.trans ((HB3.out.mono (by omega)).trans (hb5.mono (by have := HB3.out.size; omega)))
  case rest =>
    obtain ⟨sR, kR, qs, rfl, rfl, rfl, hqs, hsp, hbx⟩ := hcut
    have HQS := Lib.hid hqs
    have HSP := Lib.hid hsp
    have HBX := Lib.hid hbx
    clear hqs hsp hbx
    have hLo : ∀ r ∈ L, RowOk r := by rw [HL.out]; exact rowsP_ok _ _ HAG.out
    have HLO := Lib.hid hLo
    have hLl : L.length < 100000 := by rw [HL.out]; exact rowsP_len _ _
    clear hLo
    go_wp2_with fail
    go_loopg [20] L.length (fun gg iv wr => ∃ (k : Nat) (bv : Value), k + gg = L.length ∧ iv = .int .i64 k ∧ SpS w wr ow tb w1.heap.size w.heap.size (w.heap.size + 1) (w1.heap.size + 1) mode ⟨y1, y2, y3, y4, y5⟩ sR L.length kR qs ∧ IsBox wr (w1.heap.size + 1) 33 bv ∧ BestIs wr w.heap.size bv (spK (selP mode) ⟨y1, y2, y3, y4, y5⟩ L k))
    case atStart => exact ⟨0, .slice none 0 0, by omega, rfl, HSP.out, HBX.out, rfl⟩
    case round =>
      obtain ⟨k, bv, hgk, rfl, hsp, hbx, hbi⟩ := hrel
      clear HSP HBX HDR HB3 HT3 HBT HBB HM3 HC3 HROWS
      have HSP := Lib.hid hsp
      have HBX := Lib.hid hbx
      have HBI := Lib.hid hbi
      clear hsp hbx hbi
      by_cases hlt : k < L.length
      · have hql : k < qs.length := by
          have h := congrArg List.length HQS.out
          rw [List.length_map] at h
          omega
        obtain ⟨gR, hsR, d0⟩ := HSP.out.r.cell hql
        have hq := HSP.out.q _ (List.getElem_mem hql)
        have hqm : qs[k] ∈ qs := List.getElem_mem hql
        have hqL : qs[k].l = L[k] := by
          have h1 : (qs.map (·.l))[k]'(by rw [List.length_map]; exact hql) = L[k] := List.getElem_of_eq HQS.out _
          rwa [List.getElem_map] at h1
        have hro := HLO.out _ (List.getElem_mem hlt)
        have HSN := Lib.hid (fun h1 h2 (hh : headsP ⟨y1, y2, y3, y4, y5⟩ = [h1, h2]) => spK_snoc (sel := selP mode) hlt hh)
        generalize qs[k] = qk at d0 hq hqm hqL
        generalize L[k] = rk at hqL hro HSN
        obtain ⟨qg, qn, qc, ql⟩ := qk
        have hqL' : ql = rk := hqL
        subst hqL'
        have d0' : wr.cell? ⟨gR, k, none⟩ = some (.slice (some ⟨qg, 0, none⟩) qn qc) := d0
        have HQM := Lib.hid hqm
        have HQN : Hid (qn = ql.length) := Lib.hid hq.2
        have HRO := Lib.hid hro
        have hqn10 : qn < 10 := by rw [HQN.out]; exact HRO.out.2.1
        have m0 : wr.cell? ⟨w.heap.size + 1, 0, none⟩ = some (.int .i64 y1) := block_cell HSP.out.b3
        have m1 : wr.cell? ⟨w.heap.size + 1, 1, none⟩ = some (.int .i64 y2) := block_cell HSP.out.b3
        have m2 : wr.cell? ⟨w.heap.size + 1, 2, none⟩ = some (.int .i64 y3) := block_cell HSP.out.b3
        have m3 : wr.cell? ⟨w.heap.size + 1, 3, none⟩ = some (.int .i64 y4) := block_cell HSP.out.b3
        have m4 : wr.cell? ⟨w.heap.size + 1, 4, none⟩ = some (.int .i64 y5) := block_cell HSP.out.b3
        have q1 : (k : Int) < (L.length : Int) := by omega
        have HSR := Lib.hid hsR
        have HHC := Lib.hid (heads_c ⟨y1, y2, y3, y4, y5⟩ wr)
        generalize spK (selP mode) ⟨y1, y2, y3, y4, y5⟩ L k = B0 at HBI HSN
        clear d0 hqm hqL hq hro hql
        cases hsR
        go_wp2_with fail
        refine HHC.out.mono ?_
        rintro e w5 ⟨g, s1, n1, c1, s2, n2, c2, h1, h2, rfl, hh, hgw, hl1, hl2, hg, ho1, ho2, hb5⟩
        have hkk := heads_key hh HRG.out
        have HSP5 := Lib.hid (HSP.out.later hb5)
        have HBX5 := Lib.hid (HBX.out.below hb5)
        have HBI5 := Lib.hid (HBI.out.kept (fun b hb _ => hb5.block b hb))
        have HHD5 : Hid (HdS w5 g (w1.heap.size + 1) s1 n1 c1 h1 s2 n2 c2 h2) := Lib.hid ⟨hg, ho1.mono (Nat.zero_le _), ho2.mono (Nat.zero_le _), by have := HSP.out.hi; omega⟩
        have HK1 := Lib.hid hkk.1
        have HK2 := Lib.hid hkk.2
        have HL1 := Lib.hid hl1
        have HL2 := Lib.hid hl2
        have HSN2 := Lib.hid (HSN.out h1 h2 hh)
        clear hh hgw hl1 hl2 hg ho1 ho2 hb5 hkk HSN HHC m0 m1 m2 m3 m4 d0' HSP HBX HBI
        go_wp2_with fail
        obtain ⟨gu, hgu⟩ : ∃ g, g = gk := ⟨_, rfl⟩
        subst hgu
        go_loopg [27] 2 (fun gg iv wr => ∃ (j : Nat) (bv : Value) (B : Option (List Int)), j + gg = 2 ∧ iv = .int .i64 j ∧ SpS w wr ow tb w1.heap.size w.heap.size (w.heap.size + 1) (w1.heap.size + 1) mode ⟨y1, y2, y3, y4, y5⟩ (some ⟨gR, 0, none⟩) L.length kR qs ∧ IsBox wr (w1.heap.size + 1) 33 bv ∧ BestIs wr w.heap.size bv B ∧ HdS wr g (w1.heap.size + 1) s1 n1 c1 h1 s2 n2 c2 h2 ∧ ((j = 0 ∧ B = B0) ∨ (j = 1 ∧ B = tryP (selP mode) ⟨y1, y2, y3, y4, y5⟩ B0 (h1 ++ ql)) ∨ (j = 2 ∧ B = tryP (selP mode) ⟨y1, y2, y3, y4, y5⟩ (tryP (selP mode) ⟨y1, y2, y3, y4, y5⟩ B0 (h1 ++ ql)) (h2 ++ ql))))
        case atStart => exact ⟨0, bv, B0, rfl, rfl, HSP5.out, HBX5.out, HBI5.out, HHD5.out, .inl ⟨rfl, rfl⟩⟩
        case round =>
          obtain ⟨j, bv, B, hgj, rfl, hsp, hbx, hbi, hhd, hj⟩ := hrel
          clear HSP5 HBX5 HBI5 HHD5
          have HSP := Lib.hid hsp
          have HBX := Lib.hid hbx
          have HBI := Lib.hid hbi
          have HHD := Lib.hid hhd
          clear hsp hbx hbi hhd
          rcases hj with ⟨rfl, hB⟩ | ⟨rfl, rfl⟩ | ⟨rfl, rfl⟩
          · have hB' : B0 = B := hB.symm
            subst hB'
            clear hB
            have g0 : wr.cell? ⟨g, 0, none⟩ = some (.slice s1 n1 c1) := block_cell HHD.out.blk
            have o1 := HHD.out.o1
            have HBN := Lib.hid (below_new2 wr (.cells #[.slice s1 n1 c1, .slice (some ⟨qg, 0, none⟩) qn qc] 33))
            have HNW := Lib.hid (one_new wr (.cells #[.slice s1 n1 c1, .slice (some ⟨qg, 0, none⟩) qn qc] 33))
            have hq1 := (HSP.out.q _ HQM.out).1
            have hnh : h1.length = n1 := o1.len.symm
            have HO1 := Lib.hid (o1.later HBN.out)
            have HQ1 := Lib.hid ((qok_list hq1).later HBN.out)
            have hn7 : n1 ≤ 7 := by rw [← hnh]; exact HL1.out
            have HNH := Lib.hid hnh
            clear o1 hq1 hnh
            go_wp2_with fail
            refine (concat_q wr.heap.size s1 (some ⟨qg, 0, none⟩) n1 c1 qn qc h1 ql _ HNW.out HNH.out HQN.out.symm (by omega) (by omega) HO1.out.is HQ1.out (own_nil HO1.out) (fun e => by cases e) (fun e => HRO.out.1 (List.append_eq_nil_iff.1 e).2)).mono ?_
            rintro e w6 ⟨q6, rfl, k1, k2, k3, k4, k5⟩
            have hb6 := bt HBN.out k5
            have hsz6 := HSP.out.bl.size
            have hszn : wr.heap.size ≤ (wr.alloc (.cells #[.slice s1 n1 c1, .slice (some ⟨qg, 0, none⟩) qn qc] 33)).heap.size := HBN.out.size
            have hsp6 := HSP.out.later hb6
            have hbx6 := HBX.out.below hb6
            have hbi6 := HBI.out.kept (fun b hb _ => hb6.block b hb)
            have hhd6 := HHD.out.later hb6
            have htry := try_c w.heap.size ow tb w1.heap.size w.heap.size (w.heap.size + 1) (w1.heap.size + 1) mode ⟨y1, y2, y3, y4, y5⟩ B0 bv q6 w6 hsp6.t hsp6.b1 hsp6.b2 hsp6.b3 hbx6 hbi6 (by omega) k1 k2 (by rw [k3, List.length_append, HNH.out]; have := HRO.out.2.1; omega) (by rw [k3]; intro x hx; exact (List.mem_append.1 hx).elim (HK1.out x) (HRO.out.2.2 x)) (by rw [k3]; exact fun e => HRO.out.1 (List.append_eq_nil_iff.1 e).2)
            rw [k3] at htry
            have HTRY := Lib.hid htry
            have HSP6 := Lib.hid hsp6
            have HBX6 := Lib.hid hbx6
            have HHD6 := Lib.hid hhd6
            obtain ⟨q6g, q6n, q6c, q6l⟩ := q6
            clear k1 k2 k3 k4 k5 hb6 hszn hsp6 hbx6 hbi6 hhd6 htry hsz6
            go_wp2_with fail
            refine HTRY.out.mono ?_
            rintro e w7 ⟨rfl, ⟨bv7, hbx7, hbi7⟩, ht7⟩
            have HS7 := Lib.hid (HSP6.out.step HBX6.out ht7)
            have HH7 := Lib.hid (HHD6.out.step HBX6.out ht7)
            have HX7 := Lib.hid hbx7
            have HI7 := Lib.hid hbi7
            clear ht7 hbx7 hbi7
            go_wp2
            go_roundg 1
            case measure => omega
            case rel => exact ⟨1, bv7, _, rfl, rfl, HS7.out, HX7.out, HI7.out, HH7.out, .inr (.inl ⟨rfl, rfl⟩)⟩
          · have g0 : wr.cell? ⟨g, 1, none⟩ = some (.slice s2 n2 c2) := block_cell HHD.out.blk
            have o1 := HHD.out.o2
            have HBN := Lib.hid (below_new2 wr (.cells #[.slice s2 n2 c2, .slice (some ⟨qg, 0, none⟩) qn qc] 33))
            have HNW := Lib.hid (one_new wr (.cells #[.slice s2 n2 c2, .slice (some ⟨qg, 0, none⟩) qn qc] 33))
            have hq1 := (HSP.out.q _ HQM.out).1
            have hnh : h2.length = n2 := o1.len.symm
            have HO1 := Lib.hid (o1.later HBN.out)
            have HQ1 := Lib.hid ((qok_list hq1).later HBN.out)
            have hn7 : n2 ≤ 7 := by rw [← hnh]; exact HL2.out
            have HNH := Lib.hid hnh
            clear o1 hq1 hnh
            go_wp2_with fail
            refine (concat_q wr.heap.size s2 (some ⟨qg, 0, none⟩) n2 c2 qn qc h2 ql _ HNW.out HNH.out HQN.out.symm (by omega) (by omega) HO1.out.is HQ1.out (own_nil HO1.out) (fun e => by cases e) (fun e => HRO.out.1 (List.append_eq_nil_iff.1 e).2)).mono ?_
            rintro e w6 ⟨q6, rfl, k1, k2, k3, k4, k5⟩
            have hb6 := bt HBN.out k5
            have hsz6 := HSP.out.bl.size
            have hszn : wr.heap.size ≤ (wr.alloc (.cells #[.slice s2 n2 c2, .slice (some ⟨qg, 0, none⟩) qn qc] 33)).heap.size := HBN.out.size
            have hsp6 := HSP.out.later hb6
            have hbx6 := HBX.out.below hb6
            have hbi6 := HBI.out.kept (fun b hb _ => hb6.block b hb)
            have hhd6 := HHD.out.later hb6
            have htry := try_c w.heap.size ow tb w1.heap.size w.heap.size (w.heap.size + 1) (w1.heap.size + 1) mode ⟨y1, y2, y3, y4, y5⟩ (tryP (selP mode) ⟨y1, y2, y3, y4, y5⟩ B0 (h1 ++ ql)) bv q6 w6 hsp6.t hsp6.b1 hsp6.b2 hsp6.b3 hbx6 hbi6 (by omega) k1 k2 (by rw [k3, List.length_append, HNH.out]; have := HRO.out.2.1; omega) (by rw [k3]; intro x hx; exact (List.mem_append.1 hx).elim (HK2.out x) (HRO.out.2.2 x)) (by rw [k3]; exact fun e => HRO.out.1 (List.append_eq_nil_iff.1 e).2)
            rw [k3] at htry
            have HTRY := Lib.hid htry
            have HSP6 := Lib.hid hsp6
            have HBX6 := Lib.hid hbx6
            have HHD6 := Lib.hid hhd6
            obtain ⟨q6g, q6n, q6c, q6l⟩ := q6
            clear k1 k2 k3 k4 k5 hb6 hszn hsp6 hbx6 hbi6 hhd6 htry hsz6
            go_wp2_with fail
            refine HTRY.out.mono ?_
            rintro e w7 ⟨rfl, ⟨bv7, hbx7, hbi7⟩, ht7⟩
            have HS7 := Lib.hid (HSP6.out.step HBX6.out ht7)
            have HH7 := Lib.hid (HHD6.out.step HBX6.out ht7)
            have HX7 := Lib.hid hbx7
            have HI7 := Lib.hid hbi7
            clear ht7 hbx7 hbi7
            go_wp2
            go_roundg 0
            case measure => omega
            case rel => exact ⟨2, bv7, _, rfl, rfl, HS7.out, HX7.out, HI7.out, HH7.out, .inr (.inr ⟨rfl, rfl⟩)⟩
          · go_wp2
            go_roundg (gu - 1)
            case measure => omega
            case rel => exact ⟨k + 1, bv, by omega, by go_num, HSP.out, HBX.out, by rw [HSN2.out]; exact HBI.out⟩
      · have hk : k = L.length := by omega
        subst hk
        have b0 : wr.cell? ⟨w1.heap.size + 1, 0, none⟩ = some bv := block_cell HBX.out
        have hfin : SpellIs w (spellP (selP mode) ⟨y1, y2, y3, y4, y5⟩) (.returned bv) wr := ⟨bv, rfl, by rw [← spK_all _ _ L HL.out]; exact HBI.out, HSP.out.bl⟩
        have HFIN := Lib.hid hfin
        clear hfin
        go_wp2
        go_ret
        exact HFIN.out
end Go.Proofs.Ytampjndfhpjheaa
