/- Contract: rows of the tables, the rows that may spell a command. No condition. -/
import Derived.Test.YtampjndfhpjheaaSc
import Derived.Deep.RegionLaw
import Derived.Shelf.Abstract
namespace Go.Proofs.Ytampjndfhpjheaa
open Go.RowKit
set_option linter.unusedVariables false
def opR (c : Cmd) (r : List Int × Bd) : List (List Int) := if r.2.own = [] ∨ r.2.verb ≠ c.verb then [] else putP r.1 behindT c.arg ++ r.2.own.map fun o => r.1 ++ o
def opsR2 (c : Cmd) (k : Nat) : List (List Int) := (normalT.take k).flatMap (opR c)
theorem rowsP_sel (c : Cmd) : rowsP true c = putP [] selectedT c.arg := rfl
theorem rowsP_nor (c : Cmd) : rowsP false c = putP [] normalT c.arg ++ opsR2 c normalT.length := by
  unfold opsR2
  rw [List.take_length]
  rfl
theorem opsR2_snoc (c : Cmd) (k : Nat) (h : k < normalT.length) : opsR2 c (k + 1) = opsR2 c k ++ opR c normalT[k] := by
  unfold opsR2
  rw [List.take_add_one, List.getElem?_eq_getElem h, List.flatMap_append]
  simp
def rowB (T : Rows) : Bool := T.all fun r => !r.1.isEmpty && decide (r.1.length < 3) && decide (r.2.own.length < 3) && r.2.own.all fun o => !o.isEmpty && decide (o.length < 3)
theorem rowB_n : rowB normalT = true := by decide +kernel
theorem rowB_s : rowB selectedT = true := by decide +kernel
theorem rowB_b : rowB behindT = true := by decide +kernel
theorem rowB_of {T : Rows} (h : rowB T = true) {r : List Int × Bd} (hr : r ∈ T) : r.1 ≠ [] ∧ r.1.length < 3 ∧ r.2.own.length < 3 ∧ ∀ o ∈ r.2.own, o ≠ [] ∧ o.length < 3 := by
  have h1 := List.all_eq_true.1 h r hr
  simp only [Bool.and_eq_true, decide_eq_true_eq, Bool.not_eq_true', List.all_eq_true, List.isEmpty_eq_false_iff] at h1
  exact ⟨h1.1.1.1, h1.1.1.2, h1.1.2, fun o ho => ⟨(h1.2 o ho).1, (h1.2 o ho).2⟩⟩
theorem len_n : normalT.length < 200 := by decide
theorem len_s : selectedT.length < 200 := by decide
theorem len_b : behindT.length < 200 := by decide
theorem opR_len (c : Cmd) {r : List Int × Bd} (hr : r ∈ normalT) : (opR c r).length < 210 := by
  unfold opR
  split
  · decide
  · have h1 := (rowB_of rowB_n hr).2.2.1
    have h2 := len_b
    rw [List.length_append, List.length_map]
    unfold putP
    rw [List.length_map]
    omega
theorem opsR2_len (c : Cmd) (k : Nat) (hk : k ≤ normalT.length) : (opsR2 c k).length ≤ k * 210 := by
  induction k with
  | zero => simp [opsR2]
  | succ k ih =>
    rw [opsR2_snoc c k hk, List.length_append]
    have := opR_len c (List.getElem_mem (show k < normalT.length from hk))
    have := ih (by omega)
    omega
theorem eql2_nil (w : World) : (binOp .eql 32 (.slice none 0 0) (.slice none 0 0)).run Try.prog w = .ok (.bool true) w := by kernel_rfl
theorem eql2_some (a : Addr) (n c : Nat) (w : World) : (binOp .eql 32 (.slice (some a) n c) (.slice none 0 0)).run Try.prog w = .ok (.bool false) w := by kernel_rfl
theorem OutR.later {w w' : World} {base ob : Nat} {R : List (List Int)} (h : OutR w base ob R) (hb : Below w.heap.size w w') : OutR w' base ob R := by
  obtain ⟨s, c, qs, h⟩ := h
  exact ⟨s, c, qs, h.later hb⟩
theorem concat_q (b0 : Nat) (sa sb : Option Addr) (n ca m cb : Nat) (l k : List Int) (w : World) (hb0 : w.heap[b0]? = some (.cells #[.slice sa n ca, .slice sb m cb] 33 (0, 0))) (hl : l.length = n) (hk : k.length = m) (hn : n < 1073741824) (hm : m < 1073741824)
    (hr : IsInts w sa n (gl l)) (hs : IsInts w sb m (gl k)) (hna : sa = none → n = 0 ∧ ca = 0) (hnb : sb = none → m = 0 ∧ cb = 0) (h0 : l ++ k ≠ []) :
    Calls Try.prog 48 #[.slice (some ⟨b0, 0, none⟩) 2 2] w fun e w' => ∃ q : QuietD, e = .returned (.slice (some ⟨q.g, 0, none⟩) q.n q.c) ∧ QOk w' q ∧ q.n = q.l.length ∧ q.l = l ++ k ∧ w.heap.size ≤ q.g ∧ Below w.heap.size w w' := by
  refine (concat_c b0 sa sb n ca m cb l k w hb0 hl hk hn hm hr hs hna hnb).mono ?_
  rintro e w' ⟨s, c, rfl, ho, hb⟩
  rcases ho.2 with ⟨h1, h2⟩ | ⟨g, cap, cur, h1, hg, _⟩
  · exact absurd (List.length_eq_zero_iff.1 h2) h0
  · obtain ⟨h2, _⟩ := Value.slice.inj h1
    subst h2
    refine ⟨⟨g, n + m, c, l ++ k⟩, rfl, ho.mono (Nat.zero_le _), by rw [List.length_append, hl, hk], rfl, hg, hb⟩
theorem ints_back {w w' : World} {base : Nat} {s : Option Addr} {n : Nat} {f : Nat → Int} (h : IsInts w' s n f) (hb : Below base w w') (hs : ∀ a, s = some a → a.block < base) (hz : base ≤ w.heap.size) : IsInts w s n f := by
  rcases h with h | ⟨b, off, rfl, hlt, hc⟩
  · exact .inl h
  · have h1 : b < base := hs _ rfl
    exact .inr ⟨b, off, rfl, by omega, fun k hk => (World.cell?_of_block (w := w') (hb.block b h1).symm).trans (hc k hk)⟩
theorem map_snoc (l : List (List Int)) (q : List Int) (j : Nat) (h : j < l.length) : (l.take (j + 1)).map (fun o => q ++ o) = (l.take j).map (fun o => q ++ o) ++ [q ++ l[j]] := by
  rw [List.take_add_one, List.getElem?_eq_getElem h, List.map_append]
  rfl
theorem rows1_enters (args : Array Value) (w : World) : (callFunc 88 args).run Try.prog w = .ok (.enter 88 args) w := enters_of Try.func88 (by kernel_rfl) rfl args w
theorem rows_start (w : World) (ow0 : Nat → Nat) (tb : Nat) (c : Cmd) (ht : Tabs w ow0 tb tabT) :
    ∃ ow w1, w1 = (w.alloc (.cells c.cells 44)).alloc (.cells #[.slice none 0 0] 32) ∧ Tabs w1 ow tb tabT ∧ (∀ b, w.heap.size ≤ b → ow b = 0) ∧ w1.heap[w.heap.size]? = some (.cells c.cells 44 (0, 0)) ∧ OutR w1 w.heap.size (w.heap.size + 1) [] ∧ Below w.heap.size w w1 := by
  have h1 := one_new w (.cells c.cells 44)
  have b1 := below_new2 w (.cells c.cells 44)
  have s1 : (w.alloc (.cells c.cells 44)).heap.size = w.heap.size + 1 := by simp
  generalize w.alloc (.cells c.cells 44) = w1 at *
  have h2 := IsBox.new w1 32 (.slice none 0 0)
  have b2 := below_new2 w1 (.cells #[.slice none 0 0] 32)
  rw [s1] at h2
  have bb := bt b1 b2
  refine ⟨newC ow0 w.heap.size 0, _, rfl, ht.kept (fun b hb _ => ⟨bb.block b hb, newC_old ow0 hb⟩) bb.size, fun b hb => newC_new ow0 hb, (b2.block _ (by omega)).trans h1, ⟨none, 0, [], h2, World.ownsRow_nil _ 0 _ 1, fun b hb => by simp [Value.ownBlock] at hb, by omega, rfl, fun q hq => by cases hq⟩, bb⟩
/-- what rows answers -/
def RowsR (w0 : World) (L : List (List Int)) (e : Ending) (w' : World) : Prop := ∃ s k qs, e = .returned (.slice s L.length k) ∧ OwnQ w' 0 (.slice s L.length k) qs ∧ qs.map (·.l) = L ∧ (∀ q ∈ qs, QOk w' q ∧ q.n = q.l.length) ∧ (∀ b, (Value.slice s L.length k).ownBlock = some b → w0.heap.size ≤ b) ∧ Below w0.heap.size w0 w'
theorem OutM.answer {w0 w : World} {ob : Nat} {R : List (List Int)} {s : Option Addr} {c : Nat} {qs : List QuietD} (h : OutM w w0.heap.size ob R s c qs) (hb : Below w0.heap.size w0 w) : RowsR w0 R (.returned (.slice s R.length c)) w := ⟨s, c, qs, rfl, h.own, h.is, h.each, h.low, hb⟩
set_option maxRecDepth 100000 in
set_option maxHeartbeats 8000000 in
theorem rows_sel (ow0 : Nat → Nat) (tb : Nat) (c : Cmd) (w : World) (ht : Tabs w ow0 tb tabT) :
    Calls Try.prog 46 #[.pointer (some ⟨tb, 0, none⟩), .bool true, .agg c.cells] w (RowsR w (rowsP true c)) := by
  obtain ⟨ow, w1, hw1, ht1, hz, hc, ho, hb⟩ := rows_start w ow0 tb c ht
  obtain ⟨rg, ct, vb, mv, ag⟩ := c
  have hmf : ∀ (fn : Fn) (first cap : Array Value) (w : World), (Instr.makeFunc fn first cap).run Try.prog w = .ok (.func fn first cap) w := fun _ _ _ _ => rfl
  have eg := rows1_enters
  have hcall := rows1_c w.heap.size ow tb 1 tabT [] none 0 0 ⟨rg, ct, vb, mv, ag⟩ w.heap.size (w.heap.size + 1) [] w1 (by omega) ht1 hz hb.size (fun r hr => by have h1 := rowB_of rowB_s hr; exact ⟨h1.1, by omega⟩) (by have := len_s; show selectedT.length < 1000; omega) (by decide) (.inl rfl) rfl (by omega) (fun a e => by cases e) (fun _ => ⟨rfl, rfl⟩) hc ho
  have HW1 := Lib.hid hw1
  have HCALL := Lib.hid hcall
  have HB := Lib.hid hb
  clear ht hw1 ht1 hz hc ho hb hcall
  show Calls Try.prog 46 #[.pointer (some ⟨tb, 0, none⟩), .bool true, .agg #[.int .i64 rg, .int .i64 ct, .int .i64 vb, .int .i64 mv, .int .i64 ag]] w _
  go_enter Try.func46, Try.ntmps46
  go_wp2_with fail
  rw [show (w.alloc (.cells #[.int .i64 rg, .int .i64 ct, .int .i64 vb, .int .i64 mv, .int .i64 ag] 44)).alloc (.cells #[.slice none 0 0] 32) = w1 from HW1.out.symm]
  refine HCALL.out.mono ?_
  rintro e w2 ⟨rfl, ⟨sO, cO, qO, hom⟩, hc2, hb2⟩
  have o0 := block_cell (i := 0) hom.box
  have HFIN := Lib.hid (hom.answer (HB.out.trans hb2))
  clear hom hc2 hb2
  go_wp2
  go_ret
  exact HFIN.out
set_option maxRecDepth 100000 in
set_option maxHeartbeats 16000000 in
theorem rows_nor (ow0 : Nat → Nat) (tb : Nat) (c : Cmd) (w : World) (ht : Tabs w ow0 tb tabT) :
    Calls Try.prog 46 #[.pointer (some ⟨tb, 0, none⟩), .bool false, .agg c.cells] w (RowsR w (rowsP false c)) := by
  rw [rowsP_nor]
  obtain ⟨ow, w1, hw1, ht1, hz, hc, ho, hb⟩ := rows_start w ow0 tb c ht
  have hTn : ∀ r ∈ tabT 0, r.1 ≠ [] ∧ r.1.length < 1000 := fun r hr => by have h1 := rowB_of rowB_n hr; exact ⟨h1.1, by omega⟩
  have hTb : ∀ r ∈ tabT 2, r.1 ≠ [] ∧ r.1.length < 1000 := fun r hr => by have h1 := rowB_of rowB_b hr; exact ⟨h1.1, by omega⟩
  have hmf : ∀ (fn : Fn) (first cap : Array Value) (w : World), (Instr.makeFunc fn first cap).run Try.prog w = .ok (.func fn first cap) w := fun _ _ _ _ => rfl
  have eg := rows1_enters
  have hcall := rows1_c w.heap.size ow tb 0 tabT [] none 0 0 c w.heap.size (w.heap.size + 1) [] w1 (by omega) ht1 hz hb.size hTn (by have := len_n; show normalT.length < 1000; omega) (by decide) (.inl rfl) rfl (by omega) (fun a e => by cases e) (fun _ => ⟨rfl, rfl⟩) hc ho
  have HW1 := Lib.hid hw1
  have HCALL := Lib.hid hcall
  have HB := Lib.hid hb
  have HT := Lib.hid ht1
  have HZ := Lib.hid hz
  have HTB := Lib.hid hTb
  have HCB := Lib.hid hc
  clear ht hw1 ht1 hz hc ho hb hcall hTn hTb
  obtain ⟨rg, ct, vb, mv, ag⟩ := c
  show Calls Try.prog 46 #[.pointer (some ⟨tb, 0, none⟩), .bool false, .agg #[.int .i64 rg, .int .i64 ct, .int .i64 vb, .int .i64 mv, .int .i64 ag]] w _
  go_enter Try.func46, Try.ntmps46
  go_wp2_with fail
  rw [show (w.alloc (.cells #[.int .i64 rg, .int .i64 ct, .int .i64 vb, .int .i64 mv, .int .i64 ag] 44)).alloc (.cells #[.slice none 0 0] 32) = w1 from HW1.out.symm]
  refine HCALL.out.mono ?_
  rintro e w2 ⟨rfl, ho2, hkp2, hb2⟩
  have hc2 := hkp2 _ _ _ HCB.out (by decide) (by decide)
  clear HCALL HCB hkp2 HW1
  generalize hcm : (⟨rg, ct, vb, mv, ag⟩ : Cmd) = c at ho2 hc2
  have HCM := Lib.hid hcm
  have hb02 := HB.out.trans hb2
  have ht2 := HT.out.base hb2 HZ.out
  have HO2 := Lib.hid ho2
  have HC2 := Lib.hid hc2
  have HB02 := Lib.hid hb02
  obtain ⟨qs, bvs, sK, cK, sB, cB, hp⟩ := ht2.list 0 (by omega)
  replace hp : LPart w2 ow 0 tb (4 * 0) (normalT.map (·.1)) (normalT.map (·.2)) (trieOf normalT) qs bvs sK cK sB cB := hp
  have b0 : w2.cell? ⟨tb, 1, none⟩ = some (.slice sB (normalT.map (·.2)).length cB) := hp.b.cell
  rw [List.length_map] at b0
  have HP := Lib.hid hp
  have HT2 := Lib.hid ht2
  clear hcm ho2 hc2 hb02 hb2 hp ht2 HT HB
  go_wp2_with fail
  have hnl := len_n
  go_loopg [33] normalT.length (fun gg iv wr => ∃ k : Nat, k + gg = normalT.length ∧ iv = .int .i64 k ∧ OutR wr w.heap.size (w.heap.size + 1) (putP [] normalT c.arg ++ opsR2 c k) ∧ wr.heap[w.heap.size]? = some (.cells c.cells 44 (0, 0)) ∧ Below w.heap.size w2 wr)
  case atStart => exact ⟨0, by omega, rfl, by have h := HO2.out; rw [show opsR2 c 0 = [] from rfl, List.append_nil, ← HCM.out]; exact h, HC2.out, Below.refl _ _⟩
  case round =>
    obtain ⟨k, hgk, rfl, ho, hc, hb⟩ := hrel
    clear HO2 HC2
    have HO := Lib.hid ho
    have HC := Lib.hid hc
    have HB := Lib.hid hb
    by_cases hlt : k < normalT.length
    · have hp := HP.out.base hb HZ.out HT2.out.own
      obtain ⟨gB, rfl, _, hbc⟩ := hp.b.at (j := k) (by rw [List.length_map]; exact hlt)
      have hjb : k < bvs.length := by rw [hp.b.len, List.length_map]; exact hlt
      have hbd := hp.b.each k hjb (by rw [List.length_map]; exact hlt)
      rw [List.getElem_map] at hbd
      have hkl : k < (normalT.map (·.1)).length := by rw [List.length_map]; exact hlt
      have hql : k < qs.length := by rw [hp.k.len]; exact hkl
      obtain ⟨gK, rfl, d0⟩ := hp.k.keys.cell hql
      obtain ⟨e1, e2, e3, e4⟩ := hp.k.each k hql hkl
      have dk : wr.cell? ⟨tb, 0, none⟩ = some (.slice (some ⟨gK, 0, none⟩) (normalT.map (·.1)).length cK) := hp.k.cell
      rw [List.length_map] at dk
      rw [List.getElem_map] at e2 e3
      have hrk := rowB_of rowB_n (List.getElem_mem hlt)
      have hsn : putP [] normalT c.arg ++ opsR2 c (k + 1) = (putP [] normalT c.arg ++ opsR2 c k) ++ opR c normalT[k] := by rw [opsR2_snoc c k hlt]; exact (List.append_assoc _ _ _).symm
      have hlen : (putP [] normalT c.arg ++ opsR2 c k).length < 99000 := by
        have h1 := opsR2_len c k (by omega)
        have h2 := len_n
        rw [List.length_append]
        unfold putP
        rw [List.length_map]
        omega
      generalize hbv : bvs[k] = bv at hbc hbd
      generalize hqk : qs[k] = qk at d0 e1 e2 e3 e4
      generalize normalT[k] = rk at hbd e2 e3 hrk hsn
      obtain ⟨rk1, rb⟩ := rk
      obtain ⟨qg, qn, qc, ql⟩ := qk
      obtain ⟨x1, x2, x3, x4, x5, x6, x7, x8⟩ := bv
      simp only [qval] at d0 e1 e2 e3 e4 hbd hrk
      subst e3
      have g0 : wr.cell? ⟨gB, k * 6, none⟩ = some (.int .i64 x1) := by rw [Nat.mul_comm]; exact hbc 0 (by omega)
      have g1 : wr.cell? ⟨gB, k * 6 + 1, none⟩ = some (.int .i64 x2) := by rw [Nat.mul_comm]; exact hbc 1 (by omega)
      have g2 : wr.cell? ⟨gB, k * 6 + 2, none⟩ = some (.int .i64 x3) := by rw [Nat.mul_comm]; exact hbc 2 (by omega)
      have g3 : wr.cell? ⟨gB, k * 6 + 3, none⟩ = some (.bool x4) := by rw [Nat.mul_comm]; exact hbc 3 (by omega)
      have g4 : wr.cell? ⟨gB, k * 6 + 4, none⟩ = some (.slice x5 x6 x7) := by rw [Nat.mul_comm]; exact hbc 4 (by omega)
      have g5 : wr.cell? ⟨gB, k * 6 + 5, none⟩ = some (.pointer x8) := by rw [Nat.mul_comm]; exact hbc 5 (by omega)
      have HBD := Lib.hid hbd
      have HE1 := Lib.hid e1
      have HE2 := Lib.hid e2
      have HE4 := Lib.hid e4
      have HRK := Lib.hid hrk
      have HSN := Lib.hid hsn
      have HD0 := Lib.hid d0
      have HDK := Lib.hid dk
      have HBN := Lib.hid (below_new2 wr (.cells #[.int .i64 x1, .int .i64 x2, .int .i64 x3, .bool x4, .slice x5 x6 x7, .pointer x8] 133))
      have H11 := Lib.hid (one_new wr (.cells #[.int .i64 x1, .int .i64 x2, .int .i64 x3, .bool x4, .slice x5 x6 x7, .pointer x8] 133))
      have q1 : (k : Int) < (normalT.length : Int) := by omega
      clear hp hbc hjb hbd hql hkl e1 e2 e4 hrk hsn d0 dk hbv hqk ho hc hb b0
      go_upto_region 10 with (fail)
      generalize wr.alloc (.cells #[.int .i64 x1, .int .i64 x2, .int .i64 x3, .bool x4, .slice x5 x6 x7, .pointer x8] 133) = w3 at HBN H11 ⊢
      have t4 : w3.cell? ⟨wr.heap.size, 4, none⟩ = some (.slice x5 x6 x7) := block_cell H11.out
      have t0 : w3.cell? ⟨wr.heap.size, 0, none⟩ = some (.int .i64 x1) := block_cell H11.out
      have hc3 := (HBN.out.block _ (heap_lt HC.out)).trans HC.out
      have u2 : w3.cell? ⟨w.heap.size, 2, none⟩ = some (.int .i64 c.verb) := block_cell hc3
      have HC3 := Lib.hid hc3
      have HO3 := Lib.hid (HO.out.later HBN.out)
      have hszw : w.heap.size ≤ wr.heap.size := Nat.le_trans HB02.out.size HB.out.size
      have HB3 := Lib.hid (HB.out.trans (HBN.out.mono hszw))
      have hx1 : x1 = rb.verb := HBD.out.1
      have HX1 := Lib.hid hx1
      clear hc3 hx1 g0 g1 g2 g3 g4 g5
      rcases HBD.out.2.2.2.2 with ⟨o1, o2, o3, o4, o5⟩ | ⟨o1, o2, o3, _⟩
      · have o2' : x5 = none := o2
        have o3' : x6 = 0 := o3
        have o4' : x7 = 0 := o4
        subst o2'; subst o3'; subst o4'
        have HOP : Hid (opR c (ql, rb) = []) := Lib.hid (if_pos (.inl o1))
        have hq := eql2_nil w3
        clear o1 o2 o3 o4 o5
        go_wp2
        go_roundg (gk - 1)
        case measure => omega
        case rel => exact ⟨k + 1, by omega, by go_num, by rw [HSN.out, HOP.out, List.append_nil]; exact HO3.out, HC3.out, HB3.out⟩
      · obtain ⟨hx6, g5, rfl, hg5, hg5o, hcl⟩ := o2
        have hq := eql2_some ⟨g5, 0, none⟩ x6 x7 w3
        by_cases hv : rb.verb = c.verb
        · have HOP : Hid (opR c (ql, rb) = putP ql behindT c.arg ++ rb.own.map fun o => ql ++ o) := Lib.hid (if_neg (fun h => h.elim o1 (fun h => h hv)))
          have hvb : (x1 != c.verb) = false := by rw [HX1.out, hv, bne_self_eq_false]
          have HX6 := Lib.hid hx6
          have HCL := Lib.hid hcl
          have HG5 := Lib.hid hg5o
          have d03 : w3.cell? ⟨gK, k, none⟩ = some (.slice (some ⟨qg, 0, none⟩) qn qc) := (HBN.out.cell (p := ⟨gK, k, none⟩) (World.block_lt_of_cell? wr _ HD0.out)).trans HD0.out
          have dk3 : w3.cell? ⟨tb, 0, none⟩ = some (.slice (some ⟨gK, 0, none⟩) normalT.length cK) := (HBN.out.cell (p := ⟨tb, 0, none⟩) (World.block_lt_of_cell? wr _ HDK.out)).trans HDK.out
          clear hv o1 o3 hx6 hcl hg5o
          have h5z : ∀ b, ow b = 5 → b < w.heap.size := fun b hb => Nat.lt_of_not_le fun hn => by rw [HZ.out b hn] at hb; cases hb
          have hcall := rows1_c w.heap.size ow tb 2 tabT ql (some ⟨qg, 0, none⟩) qn qc c w.heap.size (w.heap.size + 1) _ w3 (by omega) (HT2.out.base HB3.out HZ.out) HZ.out (Nat.le_trans hszw HBN.out.size) HTB.out (by have := len_b; show behindT.length < 1000; omega) (by omega) ((qok_list HE1.out).later HBN.out) HE2.out.symm (by rw [HE2.out]; have := HRK.out.2.1; omega) (fun a e => by cases e; exact h5z _ HE4.out) (fun e => by cases e) HC3.out HO3.out
          have HCALL := Lib.hid hcall
          clear hcall
          go_wp2_with fail
          refine HCALL.out.mono ?_
          rintro e w4 ⟨rfl, ho4, hkp4, hb4⟩
          clear HCALL
          have h114 := hkp4 _ _ _ H11.out (by decide) (by decide)
          have hc4 := hkp4 _ _ _ HC3.out (by decide) (by decide)
          have t44 : w4.cell? ⟨wr.heap.size, 4, none⟩ = some (.slice (some ⟨g5, 0, none⟩) x6 x7) := block_cell h114
          have HO4 := Lib.hid ho4
          have HC4 := Lib.hid hc4
          have HB4 := Lib.hid (HB3.out.trans hb4)
          have H5Z := Lib.hid h5z
          clear ho4 hkp4 hb4 h114 hc4 h5z d03 dk3 t4 t0 u2 hq
          go_wp2_with fail
          have hbz : w.heap.size ≤ w2.heap.size := HB02.out.size
          have hown3 := HRK.out.2.2.1
          have hx6 : x6 = rb.own.length := HX6.out
          have hw4z : w.heap.size ≤ w4.heap.size := Nat.le_trans hbz HB4.out.size
          have HX := Lib.hid hx6
          have hx3 : x6 < 3 := by omega
          obtain ⟨RR, hRR⟩ : ∃ RR, RR = (putP [] normalT c.arg ++ opsR2 c k) ++ putP ql behindT c.arg := ⟨_, rfl⟩
          have ho4 : OutR w4 w.heap.size (w.heap.size + 1) RR := by rw [hRR]; exact HO4.out
          have hrl : RR.length < 99300 := by
            rw [hRR, List.length_append]
            have h1 : (putP ql behindT c.arg).length = behindT.length := by unfold putP; rw [List.length_map]
            have := len_b
            omega
          have HRR := Lib.hid hRR
          have HO4' := Lib.hid ho4
          clear hRR ho4 HO4 hx6
          obtain ⟨wo, hwo⟩ : ∃ wo, wo = wr := ⟨_, rfl⟩
          subst hwo
          obtain ⟨gu, hgu⟩ : ∃ g, g = gk := ⟨_, rfl⟩
          subst hgu
          go_loopg [65] x6 (fun gg iv wq => ∃ j : Nat, j + gg = x6 ∧ iv = .int .i64 j ∧ OutR wq w.heap.size (w.heap.size + 1) (RR ++ (rb.own.take j).map fun o => ql ++ o) ∧ wq.heap[w.heap.size]? = some (.cells c.cells 44 (0, 0)) ∧ Below w.heap.size w2 wq)
          case atStart => exact ⟨0, by omega, rfl, by simpa using HO4'.out, HC4.out, HB4.out⟩
          case round =>
            obtain ⟨j, hgj, rfl, ho, hc, hb⟩ := hrel
            have HBQ := Lib.hid hb
            have HCQ := Lib.hid hc
            by_cases hj : j < x6
            · have hj2 : j < rb.own.length := by rw [← HX.out]; exact hj
              obtain ⟨b5, o5, c5, k1, k2, k3, k4, k5⟩ := HCL.out j hj2
              have hg5b := H5Z.out g5 HG5.out
              have hb5b := H5Z.out b5 k4
              have k1' : w2.cell? ⟨g5, j, none⟩ = _ := (World.cell?_of_block (w := wo) (HB.out.block g5 hg5b).symm).trans k1
              have k1q : wr.cell? ⟨g5, j, none⟩ = _ := (World.cell?_of_block (w := w2) (hb.block g5 hg5b)).trans k1'
              have k5q := ints_base (ints_back k5 HB.out (fun a e => by cases e; exact hb5b) hbz) hb (fun a e => by cases e; exact hb5b)
              have hql5 := ints_base (ints_back (qok_list HE1.out) HB.out (fun a e => by cases e; exact H5Z.out _ HE4.out) hbz) hb (fun a e => by cases e; exact H5Z.out _ HE4.out)
              have hown5 := (HRK.out.2.2.2 _ (List.getElem_mem hj2))
              have hms := map_snoc rb.own ql j hj2
              generalize rb.own[j] = ro at k1q k5q hown5 hms k2
              obtain ⟨sO, cO, qO, hom⟩ := ho
              have hrl2 : (RR ++ (rb.own.take j).map fun o => ql ++ o).length < 100000 := by
                rw [List.length_append, List.length_map, List.length_take]; omega
              have hms2 : RR ++ (rb.own.take (j + 1)).map (fun o => ql ++ o) = (RR ++ (rb.own.take j).map fun o => ql ++ o) ++ [ql ++ ro] := by rw [hms, List.append_assoc]
              generalize RR ++ (rb.own.take j).map (fun o => ql ++ o) = R5 at hom hrl2 hms2
              have HOM := Lib.hid hom
              have HMS := Lib.hid hms2
              have HK5 := Lib.hid k5q
              have HQL5 := Lib.hid hql5
              have HOW5 := Lib.hid hown5
              have o0 : wr.cell? ⟨w.heap.size + 1, 0, none⟩ = some (.slice sO R5.length cO) := block_cell hom.box
              have hobl : w.heap.size + 1 < wr.heap.size := heap_lt hom.box
              have HO0 := Lib.hid o0
              have q5 : (j : Int) < (x6 : Int) := by omega
              clear k1 k1' k5 k5q hql5 hown5 hms hms2 hom hc hb k3 k4
              go_upto_region 16 with (fail)
              have hbA : Below wr.heap.size wr (wr.drew.alloc (.cells #[.slice (some ⟨qg, 0, none⟩) qn qc, .slice (some ⟨b5, o5, none⟩) ro.length c5] 33)) := ((Below.refl _ _).drew).alloc (Nat.le_refl _) _
              have oA : (wr.drew.alloc (.cells #[.slice (some ⟨qg, 0, none⟩) qn qc, .slice (some ⟨b5, o5, none⟩) ro.length c5] 33)).cell? ⟨w.heap.size + 1, 0, none⟩ = some (.slice sO R5.length cO) := (hbA.cell (p := ⟨w.heap.size + 1, 0, none⟩) hobl).trans HO0.out
              have hA0 := one_new wr.drew (.cells #[.slice (some ⟨qg, 0, none⟩) qn qc, .slice (some ⟨b5, o5, none⟩) ro.length c5] 33)
              have HA0 := Lib.hid hA0
              have HBA := Lib.hid hbA
              have hqnl : ql.length < 3 := HRK.out.2.1
              have hqn2 : qn < 3 := by rw [HE2.out]; exact hqnl
              have hne : ql ++ ro ≠ [] := fun e => HRK.out.1 (List.append_eq_nil_iff.1 e).1
              have HNE := Lib.hid hne
              have hro : ro.length < 3 := HOW5.out.2
              clear hA0 hbA hne
              go_region_law (first
                | (go_simp; refine (concat_q wr.heap.size (some ⟨qg, 0, none⟩) (some ⟨b5, o5, none⟩) qn qc ro.length c5 ql ro _ HA0.out HE2.out.symm rfl (by omega) (by omega) (HQL5.out.later HBA.out) (HK5.out.later HBA.out) (fun e => by cases e) (fun e => by cases e) HNE.out).mono ?_; rintro e w5 ⟨q, rfl, hq, hqn', hql', hqg, hb5⟩; have hb5' := bt HBA.out hb5; have oB := (hb5'.cell (p := ⟨w.heap.size + 1, 0, none⟩) hobl).trans HO0.out; have oC := ((below_new2 w5 (.cells #[.slice (some ⟨q.g, 0, none⟩) q.n q.c] 33)).cell (p := ⟨w.heap.size + 1, 0, none⟩) (Nat.lt_of_lt_of_le hobl hb5'.size)).trans oB; have HOM5 := Lib.hid (HOM.out.later hb5'); have hown2 := HOM5.out.own; have HQ := Lib.hid hq; have HQN := Lib.hid hqn'; have HQL := Lib.hid hql'; have HB5 := Lib.hid hb5'; clear hq hqn' hql' hqg hb5 hb5')
                | (refine step_push_q q ?_ (.tmp 69) (.tmp 74) ?_ sO R5.length cO qO ?_ ?_ hown2 HOM.out.len (by omega) ?_; rfl; rfl; simp [Act.eval]; simp [Act.eval]; intro s' c' w6 ho6 hg6 hat6; have m1 := HOM5.out.boxG hg6; have m2 := block_cell (i := 0) m1; have m3 := block_free (i := 0) m1))
              all_goals
                obtain ⟨p1, p2, p3⟩ := HOM5.out.push HQ.out HQN.out HQL.out (Nat.le_trans (Nat.le_trans hbz HBQ.out.size) HB5.out.size) ho6 hg6 hat6
                have p4 := p3 _ _ _ ((HB5.out.block _ (heap_lt HCQ.out)).trans HCQ.out) (by decide) (by decide)
                have p5 := (HBQ.out.trans (HB5.out.mono (Nat.le_trans hbz HBQ.out.size))).trans p2
                have P1 := Lib.hid p1
                have P4 := Lib.hid p4
                have P5 := Lib.hid p5
                clear p1 p2 p3 p4 p5 ho6 hg6 hat6 m1 m2 m3
                generalize w6.setCell ⟨w.heap.size + 1, 0, none⟩ (.slice s' (R5.length + 1) c') = w7 at P1 P4 P5 ⊢
                go_wp2
                go_roundg (gk - 1)
                case measure => omega
                case rel => exact ⟨j + 1, by omega, by go_num, by rw [HMS.out]; exact ⟨_, _, _, P1.out⟩, P4.out, P5.out⟩
            · have hjx : rb.own.take j = rb.own := List.take_of_length_le (by rw [← HX.out]; omega)
              rw [hjx] at ho
              have hof : OutR wr w.heap.size (w.heap.size + 1) (putP [] normalT c.arg ++ opsR2 c (k + 1)) := by
                rw [HSN.out, HOP.out, ← List.append_assoc, ← HRR.out]
                exact ho
              have HOF := Lib.hid hof
              clear hjx ho hof hc hb
              go_wp2
              go_roundg (gu - 1)
              case measure => omega
              case rel => exact ⟨k + 1, by omega, by go_num, HOF.out, HCQ.out, HBQ.out⟩
        · have HOP : Hid (opR c (ql, rb) = []) := Lib.hid (if_pos (.inr hv))
          have hvb : (x1 != c.verb) = true := by rw [HX1.out, bne_iff_ne]; exact hv
          clear hv o1 o3 hx6 hcl hg5o
          go_wp2
          go_roundg (gk - 1)
          case measure => omega
          case rel => exact ⟨k + 1, by omega, by go_num, by rw [HSN.out, HOP.out, List.append_nil]; exact HO3.out, HC3.out, HB3.out⟩
    · have hk : k = normalT.length := by omega
      subst hk
      obtain ⟨sO, cO, qO, hom⟩ := HO.out
      have o0 := block_cell (i := 0) hom.box
      have hfin := hom.answer (HB02.out.trans (HB.out))
      obtain ⟨nR, hnR⟩ : ∃ n, n = (putP [] normalT c.arg ++ opsR2 c normalT.length).length := ⟨_, rfl⟩
      rw [← hnR] at o0 hfin
      rw [← HCM.out] at hfin
      have HFIN := Lib.hid hfin
      clear hnR hfin
      clear hom hc hb ho
      go_wp2
      go_ret
      exact HFIN.out
theorem rows_c (sel : Bool) (ow0 : Nat → Nat) (tb : Nat) (c : Cmd) (w : World) (ht : Tabs w ow0 tb tabT) :
    Calls Try.prog 46 #[.pointer (some ⟨tb, 0, none⟩), .bool sel, .agg c.cells] w (RowsR w (rowsP sel c)) := by
  cases sel
  · exact rows_nor ow0 tb c w ht
  · exact rows_sel ow0 tb c w ht
end Go.Proofs.Ytampjndfhpjheaa
