/- Contract: behindOperator. Condition: fewer than 2^62 keys. -/
import Derived.Test.YtampjndfhpjheaaYu
namespace Go.Proofs.Ytampjndfhpjheaa
open Go.RowKit
theorem Tabs.touch {w w' : World} {ow : Nat → Nat} {tb rb : Nat} {T : Nat → Rows} (h : Tabs w ow tb T) (ht : Touch (fun b => b = rb) w w') (h0 : ow rb = 0) : Tabs w' ow tb T :=
  h.kept (fun b hb hne => ⟨ht.block b hb (fun e => by have e' : b = rb := e; subst e'; exact hne h0), rfl⟩) ht.size
theorem TPart.touch {w w' : World} {ow : Nat → Nat} {r rb k : Nat} {E : Int → BV} {S : TrieS} (h : TPart w ow k r 0 E S) (ht : Touch (fun b => b = rb) w w') (h0 : ow rb = 0) (hk : k ≠ 0) (hr : r ≠ rb) : TPart w' ow k r 0 E S :=
  h.kept (fun b hb he => ⟨ht.block b hb (fun e => by have e' : b = rb := e; subst e'; omega), rfl⟩) (RootSame.of fun hl => ht.block r hl hr)
theorem lookG_3 {α : Type} (S : List (List Int × α)) (l : List Int) : (lookG S l).1 = 0 ∨ (lookG S l).1 = 1 ∨ (lookG S l).1 = 2 := by
  unfold lookG
  split
  · exact .inr (.inl rfl)
  · split
    · exact .inl rfl
    · exact .inr (.inr rfl)
theorem behP_one {own : List (List Int)} {l : List Int} (hl : l ≠ []) {r : Option (List Int × Bd)} (h : lookG (own.map fun k => (k, mlB)) l = (1, r)) : behP own l = (1, r) := by
  unfold behP
  rw [if_neg hl, h]; rfl
theorem behP_eq {own : List (List Int)} {l : List Int} (hl : l ≠ []) (h : (lookG (own.map fun k => (k, mlB)) l).1 ≠ 1) (h2 : (lookG behindT l).1 ≠ 2) : behP own l = lookG behindT l := by
  unfold behP
  rw [if_neg hl]
  split
  · rename_i e; rw [e] at h; exact absurd rfl h
  · split
    · rename_i e; rw [e] at h2; exact absurd rfl h2
    · rfl
theorem behP_bad {own : List (List Int)} {l : List Int} (hl : l ≠ []) (h : (lookG (own.map fun k => (k, mlB)) l).1 ≠ 1) (h2 : (lookG behindT l).1 = 2) : behP own l = ((lookG (own.map fun k => (k, mlB)) l).1, none) := by
  unfold behP
  rw [if_neg hl]
  split
  · rename_i e; rw [e] at h; exact absurd rfl h
  · rename_i s x hne e
    split
    · rw [e]
    · rename_i hx
      exact (hx _ (Prod.ext h2 rfl : lookG behindT l = (2, (lookG behindT l).2))).elim
theorem behP_c {own : List (List Int)} {l : List Int} {s : Nat} (hl : l ≠ []) (h : (lookG (own.map fun k => (k, mlB)) l).1 ≠ 1) (h2 : (lookG behindT l).1 = s) (hs : s ≠ 2) : (behP own l).1 = s := by
  rw [behP_eq hl h (by rw [h2]; exact hs), h2]
theorem behP_b {own : List (List Int)} {l : List Int} {s : Nat} (hl : l ≠ []) (h : (lookG (own.map fun k => (k, mlB)) l).1 = s) (hs : s ≠ 1) (h2 : (lookG behindT l).1 = 2) : behP own l = (s, none) := by
  rw [behP_bad hl (by rw [h]; exact hs) h2, h]
theorem behP_nil (own : List (List Int)) : behP own [] = (0, none) := rfl
theorem beh1 {own : List (List Int)} {l : List Int} (hl : l ≠ []) (h : (lookG (own.map fun k => (k, mlB)) l).1 = 1) : (behP own l).1 = 1 := by
  rw [behP_one (r := (lookG (own.map fun k => (k, mlB)) l).2) hl (Prod.ext h rfl)]
def BehPost (own : List (List Int)) (w : World) (rb : Nat) (l : List Int) (cnt : Int) (B : Nat) (e : Ending) (w' : World) : Prop :=
  ∃ bv : BV, e = .returned (.tuple #[.agg bv.cells, .int .i64 ((behP own l).1 : Nat)]) ∧ Touch (fun b => b = rb) w w' ∧ ((behP own l).1 = 1 → ∃ k b, behP own l = (1, some (k, b)) ∧ BvIs b bv ∧ RdOk w' rb (l.drop k.length) cnt B)
set_option maxRecDepth 100000 in
set_option maxHeartbeats 8000000 in
theorem behind_c (ow : Nat → Nat) (tb r rb : Nat) (own : List (List Int)) (l : List Int) (cnt : Int) (B : Nat) (w : World) (hB : B ≤ w.heap.size) (ht : Tabs w ow tb tabT) (hown : TPart w ow 5 r 0 (fun _ => mlV) (ownS own)) (hok : TrieOk (ownS own)) (h5 : ow r = 5) (hr : RdOk w rb l cnt B) (h0 : ow rb = 0) (hl : l.length < 4611686018427387904) (hkeys : ∀ x ∈ l, inKey x) :
    Calls Try.prog 86 #[.pointer (some ⟨tb, 0, none⟩), .pointer (some ⟨rb, 0, none⟩), .pointer (some ⟨r, 0, none⟩)] w (BehPost own w rb l cnt B) := by
  have hrr : r ≠ rb := fun e => by rw [e, h0] at h5; cases h5
  have HTB := Lib.hid ht
  have HOWN := Lib.hid hown
  have HOKO := Lib.hid hok
  have HRR := Lib.hid hr
  have HOW := Lib.hid h0
  have HKY := Lib.hid hkeys
  have hb0 := below_new2 w (.cells bv0.cells 133)
  have n0 := one_new w (.cells bv0.cells 133)
  obtain ⟨s, c, d1, hcl, d3, d4⟩ := hr
  have D3 := Lib.hid d3
  have D4 := Lib.hid d4
  have D1 := Lib.hid d1
  have hrbl := heap_lt d1
  cases l with
  | nil =>
    have c0 : w.cell? ⟨rb, 0, none⟩ = some (.slice s 0 c) := block_cell d1
    have HB0 := Lib.hid hb0
    clear ht hown hok h0 hkeys d1 d3 d4 h5 hrr
    go_enter Try.func86, Try.ntmps86
    have c1 : (w.alloc (.cells #[.int .i64 0, .int .i64 0, .int .i64 0, .bool false, .slice none 0 0, .pointer none] 133)).cell? ⟨rb, 0, none⟩ = some (.slice s 0 c) := (hb0.cell (p := ⟨rb, 0, none⟩) hrbl).trans c0
    clear hb0 n0
    go_upto_region 2 with (fail)
    have n0 := one_new w (.cells #[.int .i64 0, .int .i64 0, .int .i64 0, .bool false, .slice none 0 0, .pointer none] 133)
    replace HB0 : Hid (Below w.heap.size w (w.alloc (.cells #[.int .i64 0, .int .i64 0, .int .i64 0, .bool false, .slice none 0 0, .pointer none] 133))) := HB0
    generalize w.alloc (.cells #[.int .i64 0, .int .i64 0, .int .i64 0, .bool false, .slice none 0 0, .pointer none] 133) = w1 at HB0 n0 ⊢
    have e0 : w1.cell? ⟨w.heap.size, 0, none⟩ = some (.int .i64 0) := block_cell n0
    have ef0 : w1.frozen? ⟨w.heap.size, 0, none⟩ = false := block_free n0
    have e1 : w1.cell? ⟨w.heap.size, 1, none⟩ = some (.int .i64 0) := block_cell n0
    have ef1 : w1.frozen? ⟨w.heap.size, 1, none⟩ = false := block_free n0
    have e2 : w1.cell? ⟨w.heap.size, 2, none⟩ = some (.int .i64 0) := block_cell n0
    have ef2 : w1.frozen? ⟨w.heap.size, 2, none⟩ = false := block_free n0
    have e3 : w1.cell? ⟨w.heap.size, 3, none⟩ = some (.bool false) := block_cell n0
    have ef3 : w1.frozen? ⟨w.heap.size, 3, none⟩ = false := block_free n0
    have e4 : w1.cell? ⟨w.heap.size, 4, none⟩ = some (.slice none 0 0) := block_cell n0
    have ef4 : w1.frozen? ⟨w.heap.size, 4, none⟩ = false := block_free n0
    have e5 : w1.cell? ⟨w.heap.size, 5, none⟩ = some (.pointer none) := block_cell n0
    have ef5 : w1.frozen? ⟨w.heap.size, 5, none⟩ = false := block_free n0
    clear n0 c1
    go_wp2
    exact bodyPost_ret (v := .tuple #[.agg #[.int .i64 0, .int .i64 0, .int .i64 0, .bool false, .slice none 0 0, .pointer none], .int .i64 0]) (by simp [results, Try.results86, go_sem, e0, e1, e2, e3, e4, e5]) rfl ⟨bv0, rfl, Touch.of (set6_below HB0.out bv0), fun h => by cases h⟩
  | cons x t =>
    have hnil : x :: t ≠ [] := by simp
    have HNIL := Lib.hid hnil
    have z0 : (((x :: t).length : Int) == 0) = false := by rw [beq_eq_false_iff_ne]; simp only [List.length_cons]; omega
    clear ht hown hok h0 hkeys d1 d3 d4 hnil
    generalize x :: t = l at *
    have c0 : w.cell? ⟨rb, 0, none⟩ = some (.slice s l.length c) := block_cell D1.out
    have c1 : w.cell? ⟨rb, 1, none⟩ = some (.int .i64 cnt) := block_cell D1.out
    have q0 : (w.alloc (.cells #[.int .i64 0, .int .i64 0, .int .i64 0, .bool false, .slice none 0 0, .pointer none] 133)).cell? ⟨rb, 0, none⟩ = some (.slice s l.length c) := (hb0.cell (p := ⟨rb, 0, none⟩) hrbl).trans c0
    have q1 : (w.alloc (.cells #[.int .i64 0, .int .i64 0, .int .i64 0, .bool false, .slice none 0 0, .pointer none] 133)).cell? ⟨rb, 1, none⟩ = some (.int .i64 cnt) := (hb0.cell (p := ⟨rb, 1, none⟩) hrbl).trans c1
    have hb1 := below_new2 (w.alloc (.cells #[.int .i64 0, .int .i64 0, .int .i64 0, .bool false, .slice none 0 0, .pointer none] 133)) (.cells #[.slice s l.length c, .int .i64 cnt] 139)
    have n1 := one_new (w.alloc (.cells #[.int .i64 0, .int .i64 0, .int .i64 0, .bool false, .slice none 0 0, .pointer none] 133)) (.cells #[.slice s l.length c, .int .i64 cnt] 139)
    have hs0 : (w.alloc (.cells #[.int .i64 0, .int .i64 0, .int .i64 0, .bool false, .slice none 0 0, .pointer none] 133)).heap.size = w.heap.size + 1 := by simp
    rw [hs0] at n1
    have h61 := (hb1.block w.heap.size (by omega)).trans n0
    have HBB := Lib.hid (bt hb0 hb1)
    replace HBB : Hid (Below w.heap.size w ((w.alloc (.cells #[.int .i64 0, .int .i64 0, .int .i64 0, .bool false, .slice none 0 0, .pointer none] 133)).alloc (.cells #[.slice s l.length c, .int .i64 cnt] 139))) := HBB
    have N1 := Lib.hid n1
    replace N1 : Hid (((w.alloc (.cells #[.int .i64 0, .int .i64 0, .int .i64 0, .bool false, .slice none 0 0, .pointer none] 133)).alloc (.cells #[.slice s l.length c, .int .i64 cnt] 139)).heap[w.heap.size + 1]? = some (.cells #[.slice s l.length c, .int .i64 cnt] 139 (0, 0))) := N1
    have H61 := Lib.hid h61
    replace H61 : Hid (((w.alloc (.cells #[.int .i64 0, .int .i64 0, .int .i64 0, .bool false, .slice none 0 0, .pointer none] 133)).alloc (.cells #[.slice s l.length c, .int .i64 cnt] 139)).heap[w.heap.size]? = some (.cells bv0.cells 133 (0, 0))) := H61
    clear hb0 n0 hb1 n1 h61 hs0
    go_enter Try.func86, Try.ntmps86
    go_upto_region 4 with (fail)
    generalize (w.alloc (.cells #[.int .i64 0, .int .i64 0, .int .i64 0, .bool false, .slice none 0 0, .pointer none] 133)).alloc (.cells #[.slice s l.length c, .int .i64 cnt] 139) = w1 at HBB N1 H61 ⊢
    clear c0 c1 q0 q1
    have HO1 := Lib.hid (HOWN.out.kept (Same.of HBB.out) (RootSame.of fun h => HBB.out.block _ h))
    go_wp2_with fail
    refine (look_o ow r own rb l cnt B w1 (Nat.le_trans hB HBB.out.size) HOKO.out HO1.out (HRR.out.later HBB.out) hl HKY.out).mono ?_
    rintro e w2 ⟨bv, rfl, ht2, hcase⟩
    obtain ⟨v1, v2, v3, v4, v5, v6, v7, v8⟩ := bv
    rw [show (BV.cells ⟨v1, v2, v3, v4, v5, v6, v7, v8⟩) = #[.int .i64 v1, .int .i64 v2, .int .i64 v3, .bool v4, .slice v5 v6 v7, .pointer v8] from rfl]
    have hw01 := HBB.out.size
    have h62 := (ht2.block w.heap.size (heap_lt H61.out) (by omega)).trans H61.out
    have h82 := (ht2.block (w.heap.size + 1) (heap_lt N1.out) (by omega)).trans N1.out
    have HTO2 := Lib.hid ((Touch.of (O := fun b => b = rb) HBB.out).trans ht2 (fun x hx => .inl hx))
    have HC2 := Lib.hid hcase
    clear ht2 hcase
    rcases lookG_3 (own.map fun k => (k, mlB)) l with h0 | h1 | h2
    · rw [h0]
      have HS0 := Lib.hid h0
      have hrdx : RdOk w2 rb l cnt B := by
        rcases HC2.out with ⟨e, _⟩ | ⟨_, _, h⟩
        · rw [h0] at e; cases e
        · exact h
      obtain ⟨s2, c2, hc2, _⟩ := hrdx
      have hrd2 := heap_lt hc2
      clear h0
      go_upto_region 7 with (fail)
      have hb3 := below_new2 w2 (.cells #[.int .i64 v1, .int .i64 v2, .int .i64 v3, .bool v4, .slice v5 v6 v7, .pointer v8] 133)
      have n3 := one_new w2 (.cells #[.int .i64 v1, .int .i64 v2, .int .i64 v3, .bool v4, .slice v5 v6 v7, .pointer v8] 133)
      have r3 := (hb3.block _ hrd2).trans hc2
      have k3 := (hb3.block _ (heap_lt h62)).trans h62
      have k4 := (hb3.block _ (heap_lt h82)).trans h82
      have HT3 := Lib.hid (HTO2.out.trans (Touch.of (O := fun b => b = rb) hb3) (fun x hx => .inl hx))
      have h6l := heap_lt h62
      generalize hx3 : w2.heap.size = x3 at n3 h6l
      generalize w2.alloc (.cells #[.int .i64 v1, .int .i64 v2, .int .i64 v3, .bool v4, .slice v5 v6 v7, .pointer v8] 133) = w3 at n3 r3 k3 k4 HT3 ⊢
      have hx3l := heap_lt n3
      have hx3' : x3 ≠ rb := by omega
      clear hb3 hc2 h62 h82 hx3
      have p0 : w3.cell? ⟨w.heap.size + 1, 0, none⟩ = some (.slice s l.length c) := block_cell k4
      have p1 : w3.cell? ⟨w.heap.size + 1, 1, none⟩ = some (.int .i64 cnt) := block_cell k4
      have p2 : w3.cell? ⟨rb, 0, none⟩ = some (.slice s2 l.length c2) := block_cell r3
      have p3 : w3.cell? ⟨rb, 1, none⟩ = some (.int .i64 cnt) := block_cell r3
      have p4 : w3.frozen? ⟨rb, 0, none⟩ = false := block_free r3
      have p5 : w3.frozen? ⟨rb, 1, none⟩ = false := block_free r3
      go_upto_region 8 with (fail)
      have ht4 : Touch (fun b => b = rb) w3 ((w3.setCell ⟨rb, 0, none⟩ (.slice s l.length c)).setCell ⟨rb, 1, none⟩ (.int .i64 cnt)) := (Touch.setCell (fun b => b = rb) w3 (p := ⟨rb, 0, none⟩) rfl _).trans (Touch.setCell (fun b => b = rb) _ (p := ⟨rb, 1, none⟩) rfl _) (fun x hx => .inl hx)
      have r4 : ((w3.setCell ⟨rb, 0, none⟩ (.slice s l.length c)).setCell ⟨rb, 1, none⟩ (.int .i64 cnt)).heap[rb]? = some (.cells #[.slice s l.length c, .int .i64 cnt] 139 (0, 0)) := by
        rw [block_set _ (block_set _ r3)]; rfl
      generalize (w3.setCell ⟨rb, 0, none⟩ (.slice s l.length c)).setCell ⟨rb, 1, none⟩ (.int .i64 cnt) = w4 at ht4 r4 ⊢
      have ht04 := HT3.out.trans ht4 (fun x hx => .inl hx)
      have hrd4 : RdOk w4 rb l cnt B := ⟨s, c, r4, hcl, by
        rcases D3.out with e | ⟨b, o, rfl, hb, hc⟩
        · exact .inl e
        · have hne' : b ≠ rb := (D4.out ⟨b, o, none⟩ rfl).1
          exact .inr ⟨b, o, rfl, Nat.lt_of_lt_of_le hb ht04.size, fun i hi => (World.cell?_of_block (w := w) (ht04.block b hb hne')).trans (hc i hi)⟩, D4.out⟩
      have n4 := (ht4.block x3 hx3l hx3').trans n3
      have k6 := (ht4.block w.heap.size (heap_lt k3) (by omega)).trans k3
      have hx4 := heap_lt n4
      have HRD4 := Lib.hid hrd4
      have HT04 := Lib.hid ht04
      have K6 := Lib.hid k6
      have N4 := Lib.hid n4
      have HTB4 := Lib.hid ((HTB.out.touch ht04 HOW.out).list 2 (by omega))
      clear p0 p1 p2 p3 p4 p5 r3 k3 k4 HT3 ht4 r4 hrd4 ht04 n4 k6 n3
      go_wp2_with fail
      refine (look_t ow tb 2 behindT rb l cnt B w4 (Nat.le_trans hB HT04.out.size) good_behind.ok HTB4.out HRD4.out hl HKY.out).mono ?_
      rintro e w5 ⟨bw, rfl, ht5, hcase5⟩
      obtain ⟨u1, u2, u3, u4, u5, u6, u7, u8⟩ := bw
      rw [show (BV.cells ⟨u1, u2, u3, u4, u5, u6, u7, u8⟩) = #[.int .i64 u1, .int .i64 u2, .int .i64 u3, .bool u4, .slice u5 u6 u7, .pointer u8] from rfl]
      have k5 := (ht5.block w.heap.size (heap_lt K6.out) (by omega)).trans K6.out
      have n5 := (ht5.block x3 hx4 hx3').trans N4.out
      have HT5 := Lib.hid (HT04.out.trans ht5 (fun x hx => .inl hx))
      have HC5 := Lib.hid hcase5
      have hl5 := ht5.size
      clear ht5 hcase5
      rcases lookG_3 behindT l with h0 | h1 | h2
      · rw [h0]
        have HL := Lib.hid h0
        clear h0
        go_upto_region 11 with (fail)
        have hb6 := below_new2 w5 (.cells #[.int .i64 u1, .int .i64 u2, .int .i64 u3, .bool u4, .slice u5 u6 u7, .pointer u8] 133)
        have n6 := one_new w5 (.cells #[.int .i64 u1, .int .i64 u2, .int .i64 u3, .bool u4, .slice u5 u6 u7, .pointer u8] 133)
        have k6 := (hb6.block _ (heap_lt k5)).trans k5
        have m6 := (hb6.block _ (heap_lt n5)).trans n5
        have HTX := Lib.hid (HT5.out.trans (Touch.of (O := fun b => b = rb) hb6) (fun x hx => .inl hx))
        have HB6 := Lib.hid hb6
        generalize hx6 : w5.heap.size = x6 at n6
        have hx6l : w.heap.size < x6 := by rw [← hx6]; exact heap_lt k5
        generalize w5.alloc (.cells #[.int .i64 u1, .int .i64 u2, .int .i64 u3, .bool u4, .slice u5 u6 u7, .pointer u8] 133) = w6 at n6 k6 m6 HTX HB6 ⊢
        clear hb6 k5 n5 hx6
        clear m6
        have e0 : w6.cell? ⟨w.heap.size, 0, none⟩ = some (.int .i64 0) := block_cell k6
        have ef0 : w6.frozen? ⟨w.heap.size, 0, none⟩ = false := block_free k6
        have e1 : w6.cell? ⟨w.heap.size, 1, none⟩ = some (.int .i64 0) := block_cell k6
        have ef1 : w6.frozen? ⟨w.heap.size, 1, none⟩ = false := block_free k6
        have e2 : w6.cell? ⟨w.heap.size, 2, none⟩ = some (.int .i64 0) := block_cell k6
        have ef2 : w6.frozen? ⟨w.heap.size, 2, none⟩ = false := block_free k6
        have e3 : w6.cell? ⟨w.heap.size, 3, none⟩ = some (.bool false) := block_cell k6
        have ef3 : w6.frozen? ⟨w.heap.size, 3, none⟩ = false := block_free k6
        have e4 : w6.cell? ⟨w.heap.size, 4, none⟩ = some (.slice none 0 0) := block_cell k6
        have ef4 : w6.frozen? ⟨w.heap.size, 4, none⟩ = false := block_free k6
        have e5 : w6.cell? ⟨w.heap.size, 5, none⟩ = some (.pointer none) := block_cell k6
        have ef5 : w6.frozen? ⟨w.heap.size, 5, none⟩ = false := block_free k6
        have n0 : w6.cell? ⟨x6, 0, none⟩ = some (.int .i64 u1) := block_cell n6
        have n1 : w6.cell? ⟨x6, 1, none⟩ = some (.int .i64 u2) := block_cell n6
        have n2 : w6.cell? ⟨x6, 2, none⟩ = some (.int .i64 u3) := block_cell n6
        have n3 : w6.cell? ⟨x6, 3, none⟩ = some (.bool u4) := block_cell n6
        have n4 : w6.cell? ⟨x6, 4, none⟩ = some (.slice u5 u6 u7) := block_cell n6
        have n5 : w6.cell? ⟨x6, 5, none⟩ = some (.pointer u8) := block_cell n6
        clear k6 n6
        go_wp2
        exact bodyPost_ret (v := .tuple #[.agg #[.int .i64 u1, .int .i64 u2, .int .i64 u3, .bool u4, .slice u5 u6 u7, .pointer u8], .int .i64 0]) (by simp [results, Try.results86, go_sem, e0, e1, e2, e3, e4, e5]) rfl ⟨⟨u1, u2, u3, u4, u5, u6, u7, u8⟩, by rw [behP_c HNIL.out (by rw [HS0.out]; decide) HL.out (by decide)]; rfl, (HTX.out.trans (set6_touch w6 w.heap.size ⟨u1, u2, u3, u4, u5, u6, u7, u8⟩) (fun x hx => .inr (by omega))), fun h => by rw [behP_c HNIL.out (by rw [HS0.out]; decide) HL.out (by decide)] at h; cases h⟩
      · rw [h1]
        have HL := Lib.hid h1
        clear h1
        go_upto_region 11 with (fail)
        have hb6 := below_new2 w5 (.cells #[.int .i64 u1, .int .i64 u2, .int .i64 u3, .bool u4, .slice u5 u6 u7, .pointer u8] 133)
        have n6 := one_new w5 (.cells #[.int .i64 u1, .int .i64 u2, .int .i64 u3, .bool u4, .slice u5 u6 u7, .pointer u8] 133)
        have k6 := (hb6.block _ (heap_lt k5)).trans k5
        have m6 := (hb6.block _ (heap_lt n5)).trans n5
        have HTX := Lib.hid (HT5.out.trans (Touch.of (O := fun b => b = rb) hb6) (fun x hx => .inl hx))
        have HB6 := Lib.hid hb6
        generalize hx6 : w5.heap.size = x6 at n6
        have hx6l : w.heap.size < x6 := by rw [← hx6]; exact heap_lt k5
        generalize w5.alloc (.cells #[.int .i64 u1, .int .i64 u2, .int .i64 u3, .bool u4, .slice u5 u6 u7, .pointer u8] 133) = w6 at n6 k6 m6 HTX HB6 ⊢
        clear hb6 k5 n5 hx6
        clear m6
        have e0 : w6.cell? ⟨w.heap.size, 0, none⟩ = some (.int .i64 0) := block_cell k6
        have ef0 : w6.frozen? ⟨w.heap.size, 0, none⟩ = false := block_free k6
        have e1 : w6.cell? ⟨w.heap.size, 1, none⟩ = some (.int .i64 0) := block_cell k6
        have ef1 : w6.frozen? ⟨w.heap.size, 1, none⟩ = false := block_free k6
        have e2 : w6.cell? ⟨w.heap.size, 2, none⟩ = some (.int .i64 0) := block_cell k6
        have ef2 : w6.frozen? ⟨w.heap.size, 2, none⟩ = false := block_free k6
        have e3 : w6.cell? ⟨w.heap.size, 3, none⟩ = some (.bool false) := block_cell k6
        have ef3 : w6.frozen? ⟨w.heap.size, 3, none⟩ = false := block_free k6
        have e4 : w6.cell? ⟨w.heap.size, 4, none⟩ = some (.slice none 0 0) := block_cell k6
        have ef4 : w6.frozen? ⟨w.heap.size, 4, none⟩ = false := block_free k6
        have e5 : w6.cell? ⟨w.heap.size, 5, none⟩ = some (.pointer none) := block_cell k6
        have ef5 : w6.frozen? ⟨w.heap.size, 5, none⟩ = false := block_free k6
        have n0 : w6.cell? ⟨x6, 0, none⟩ = some (.int .i64 u1) := block_cell n6
        have n1 : w6.cell? ⟨x6, 1, none⟩ = some (.int .i64 u2) := block_cell n6
        have n2 : w6.cell? ⟨x6, 2, none⟩ = some (.int .i64 u3) := block_cell n6
        have n3 : w6.cell? ⟨x6, 3, none⟩ = some (.bool u4) := block_cell n6
        have n4 : w6.cell? ⟨x6, 4, none⟩ = some (.slice u5 u6 u7) := block_cell n6
        have n5 : w6.cell? ⟨x6, 5, none⟩ = some (.pointer u8) := block_cell n6
        clear k6 n6
        go_wp2
        exact bodyPost_ret (v := .tuple #[.agg #[.int .i64 u1, .int .i64 u2, .int .i64 u3, .bool u4, .slice u5 u6 u7, .pointer u8], .int .i64 1]) (by simp [results, Try.results86, go_sem, e0, e1, e2, e3, e4, e5]) rfl ⟨⟨u1, u2, u3, u4, u5, u6, u7, u8⟩, by rw [behP_c HNIL.out (by rw [HS0.out]; decide) HL.out (by decide)]; rfl, (HTX.out.trans (set6_touch w6 w.heap.size ⟨u1, u2, u3, u4, u5, u6, u7, u8⟩) (fun x hx => .inr (by omega))), fun _ => by
          rcases HC5.out with ⟨_, k, b, h7, h8, h9, h10⟩ | ⟨h7, _⟩
          · refine ⟨k, b, by rw [behP_eq HNIL.out (by rw [HS0.out]; decide) (by rw [HL.out]; decide), h7], h9.is, ?_⟩
            exact (h10.later HB6.out).keep (set6_touch w6 w.heap.size ⟨u1, u2, u3, u4, u5, u6, u7, u8⟩) (by omega) hB
          · exact absurd HL.out h7⟩
      · rw [h2]
        have HL := Lib.hid h2
        clear h2
        go_upto_region 10 with (fail)
        have hb6 := below_new2 w5 (.cells #[.int .i64 u1, .int .i64 u2, .int .i64 u3, .bool u4, .slice u5 u6 u7, .pointer u8] 133)
        have n6 := one_new w5 (.cells #[.int .i64 u1, .int .i64 u2, .int .i64 u3, .bool u4, .slice u5 u6 u7, .pointer u8] 133)
        have k6 := (hb6.block _ (heap_lt k5)).trans k5
        have m6 := (hb6.block _ (heap_lt n5)).trans n5
        have HTX := Lib.hid (HT5.out.trans (Touch.of (O := fun b => b = rb) hb6) (fun x hx => .inl hx))
        have HB6 := Lib.hid hb6
        generalize hx6 : w5.heap.size = x6 at n6
        have hx6l : w.heap.size < x6 := by rw [← hx6]; exact heap_lt k5
        generalize w5.alloc (.cells #[.int .i64 u1, .int .i64 u2, .int .i64 u3, .bool u4, .slice u5 u6 u7, .pointer u8] 133) = w6 at n6 k6 m6 HTX HB6 ⊢
        clear hb6 k5 n5 hx6
        clear n6
        have e0 : w6.cell? ⟨w.heap.size, 0, none⟩ = some (.int .i64 0) := block_cell k6
        have ef0 : w6.frozen? ⟨w.heap.size, 0, none⟩ = false := block_free k6
        have e1 : w6.cell? ⟨w.heap.size, 1, none⟩ = some (.int .i64 0) := block_cell k6
        have ef1 : w6.frozen? ⟨w.heap.size, 1, none⟩ = false := block_free k6
        have e2 : w6.cell? ⟨w.heap.size, 2, none⟩ = some (.int .i64 0) := block_cell k6
        have ef2 : w6.frozen? ⟨w.heap.size, 2, none⟩ = false := block_free k6
        have e3 : w6.cell? ⟨w.heap.size, 3, none⟩ = some (.bool false) := block_cell k6
        have ef3 : w6.frozen? ⟨w.heap.size, 3, none⟩ = false := block_free k6
        have e4 : w6.cell? ⟨w.heap.size, 4, none⟩ = some (.slice none 0 0) := block_cell k6
        have ef4 : w6.frozen? ⟨w.heap.size, 4, none⟩ = false := block_free k6
        have e5 : w6.cell? ⟨w.heap.size, 5, none⟩ = some (.pointer none) := block_cell k6
        have ef5 : w6.frozen? ⟨w.heap.size, 5, none⟩ = false := block_free k6
        have n0 : w6.cell? ⟨x3, 0, none⟩ = some (.int .i64 v1) := block_cell m6
        have n1 : w6.cell? ⟨x3, 1, none⟩ = some (.int .i64 v2) := block_cell m6
        have n2 : w6.cell? ⟨x3, 2, none⟩ = some (.int .i64 v3) := block_cell m6
        have n3 : w6.cell? ⟨x3, 3, none⟩ = some (.bool v4) := block_cell m6
        have n4 : w6.cell? ⟨x3, 4, none⟩ = some (.slice v5 v6 v7) := block_cell m6
        have n5 : w6.cell? ⟨x3, 5, none⟩ = some (.pointer v8) := block_cell m6
        clear k6 m6
        go_wp2
        exact bodyPost_ret (v := .tuple #[.agg #[.int .i64 v1, .int .i64 v2, .int .i64 v3, .bool v4, .slice v5 v6 v7, .pointer v8], .int .i64 0]) (by simp [results, Try.results86, go_sem, e0, e1, e2, e3, e4, e5]) rfl ⟨⟨v1, v2, v3, v4, v5, v6, v7, v8⟩, by rw [behP_b HNIL.out HS0.out (by decide) HL.out]; rfl, (HTX.out.trans (set6_touch w6 w.heap.size ⟨v1, v2, v3, v4, v5, v6, v7, v8⟩) (fun x hx => .inr (by omega))), fun h => by rw [behP_b HNIL.out HS0.out (by decide) HL.out] at h; cases h⟩
    · rw [h1]
      have HS1 := Lib.hid h1
      clear h1
      go_upto_region 6 with (fail)
      have hb3 := below_new2 w2 (.cells #[.int .i64 v1, .int .i64 v2, .int .i64 v3, .bool v4, .slice v5 v6 v7, .pointer v8] 133)
      have n6 := one_new w2 (.cells #[.int .i64 v1, .int .i64 v2, .int .i64 v3, .bool v4, .slice v5 v6 v7, .pointer v8] 133)
      have k6 := (hb3.block _ (heap_lt h62)).trans h62
      have HTX := Lib.hid (HTO2.out.trans (Touch.of (O := fun b => b = rb) hb3) (fun x hx => .inl hx))
      have HB6 := Lib.hid hb3
      have h6l := heap_lt h62
      generalize hx6 : w2.heap.size = x6 at n6 h6l
      generalize w2.alloc (.cells #[.int .i64 v1, .int .i64 v2, .int .i64 v3, .bool v4, .slice v5 v6 v7, .pointer v8] 133) = w6 at n6 k6 HTX HB6 ⊢
      clear hb3 hx6 h62 h82
      have e0 : w6.cell? ⟨w.heap.size, 0, none⟩ = some (.int .i64 0) := block_cell k6
      have ef0 : w6.frozen? ⟨w.heap.size, 0, none⟩ = false := block_free k6
      have e1 : w6.cell? ⟨w.heap.size, 1, none⟩ = some (.int .i64 0) := block_cell k6
      have ef1 : w6.frozen? ⟨w.heap.size, 1, none⟩ = false := block_free k6
      have e2 : w6.cell? ⟨w.heap.size, 2, none⟩ = some (.int .i64 0) := block_cell k6
      have ef2 : w6.frozen? ⟨w.heap.size, 2, none⟩ = false := block_free k6
      have e3 : w6.cell? ⟨w.heap.size, 3, none⟩ = some (.bool false) := block_cell k6
      have ef3 : w6.frozen? ⟨w.heap.size, 3, none⟩ = false := block_free k6
      have e4 : w6.cell? ⟨w.heap.size, 4, none⟩ = some (.slice none 0 0) := block_cell k6
      have ef4 : w6.frozen? ⟨w.heap.size, 4, none⟩ = false := block_free k6
      have e5 : w6.cell? ⟨w.heap.size, 5, none⟩ = some (.pointer none) := block_cell k6
      have ef5 : w6.frozen? ⟨w.heap.size, 5, none⟩ = false := block_free k6
      have n0 : w6.cell? ⟨x6, 0, none⟩ = some (.int .i64 v1) := block_cell n6
      have n1 : w6.cell? ⟨x6, 1, none⟩ = some (.int .i64 v2) := block_cell n6
      have n2 : w6.cell? ⟨x6, 2, none⟩ = some (.int .i64 v3) := block_cell n6
      have n3 : w6.cell? ⟨x6, 3, none⟩ = some (.bool v4) := block_cell n6
      have n4 : w6.cell? ⟨x6, 4, none⟩ = some (.slice v5 v6 v7) := block_cell n6
      have n5 : w6.cell? ⟨x6, 5, none⟩ = some (.pointer v8) := block_cell n6
      clear k6 n6
      go_wp2
      exact bodyPost_ret (v := .tuple #[.agg #[.int .i64 v1, .int .i64 v2, .int .i64 v3, .bool v4, .slice v5 v6 v7, .pointer v8], .int .i64 1]) (by simp [results, Try.results86, go_sem, e0, e1, e2, e3, e4, e5]) rfl ⟨⟨v1, v2, v3, v4, v5, v6, v7, v8⟩, by rw [beh1 HNIL.out HS1.out]; rfl, (HTX.out.trans (set6_touch w6 w.heap.size ⟨v1, v2, v3, v4, v5, v6, v7, v8⟩) (fun x hx => .inr (by omega))), fun _ => by
        rcases HC2.out with ⟨_, h7, k, h8, h9⟩ | ⟨h7, _⟩
        · refine ⟨k, mlB, behP_one HNIL.out h8, by rw [h7]; exact ⟨rfl, rfl, rfl, rfl⟩, ?_⟩
          exact (h9.later HB6.out).keep (set6_touch w6 w.heap.size ⟨v1, v2, v3, v4, v5, v6, v7, v8⟩) (by omega) hB
        · exact absurd HS1.out h7⟩
    · rw [h2]
      have HS2 := Lib.hid h2
      have hrdx : RdOk w2 rb l cnt B := by
        rcases HC2.out with ⟨e, _⟩ | ⟨_, _, h⟩
        · rw [h2] at e; cases e
        · exact h
      obtain ⟨s2, c2, hc2, _⟩ := hrdx
      have hrd2 := heap_lt hc2
      clear h2
      go_upto_region 7 with (fail)
      have hb3 := below_new2 w2 (.cells #[.int .i64 v1, .int .i64 v2, .int .i64 v3, .bool v4, .slice v5 v6 v7, .pointer v8] 133)
      have n3 := one_new w2 (.cells #[.int .i64 v1, .int .i64 v2, .int .i64 v3, .bool v4, .slice v5 v6 v7, .pointer v8] 133)
      have r3 := (hb3.block _ hrd2).trans hc2
      have k3 := (hb3.block _ (heap_lt h62)).trans h62
      have k4 := (hb3.block _ (heap_lt h82)).trans h82
      have HT3 := Lib.hid (HTO2.out.trans (Touch.of (O := fun b => b = rb) hb3) (fun x hx => .inl hx))
      have h6l := heap_lt h62
      generalize hx3 : w2.heap.size = x3 at n3 h6l
      generalize w2.alloc (.cells #[.int .i64 v1, .int .i64 v2, .int .i64 v3, .bool v4, .slice v5 v6 v7, .pointer v8] 133) = w3 at n3 r3 k3 k4 HT3 ⊢
      have hx3l := heap_lt n3
      have hx3' : x3 ≠ rb := by omega
      clear hb3 hc2 h62 h82 hx3
      have p0 : w3.cell? ⟨w.heap.size + 1, 0, none⟩ = some (.slice s l.length c) := block_cell k4
      have p1 : w3.cell? ⟨w.heap.size + 1, 1, none⟩ = some (.int .i64 cnt) := block_cell k4
      have p2 : w3.cell? ⟨rb, 0, none⟩ = some (.slice s2 l.length c2) := block_cell r3
      have p3 : w3.cell? ⟨rb, 1, none⟩ = some (.int .i64 cnt) := block_cell r3
      have p4 : w3.frozen? ⟨rb, 0, none⟩ = false := block_free r3
      have p5 : w3.frozen? ⟨rb, 1, none⟩ = false := block_free r3
      go_upto_region 8 with (fail)
      have ht4 : Touch (fun b => b = rb) w3 ((w3.setCell ⟨rb, 0, none⟩ (.slice s l.length c)).setCell ⟨rb, 1, none⟩ (.int .i64 cnt)) := (Touch.setCell (fun b => b = rb) w3 (p := ⟨rb, 0, none⟩) rfl _).trans (Touch.setCell (fun b => b = rb) _ (p := ⟨rb, 1, none⟩) rfl _) (fun x hx => .inl hx)
      have r4 : ((w3.setCell ⟨rb, 0, none⟩ (.slice s l.length c)).setCell ⟨rb, 1, none⟩ (.int .i64 cnt)).heap[rb]? = some (.cells #[.slice s l.length c, .int .i64 cnt] 139 (0, 0)) := by
        rw [block_set _ (block_set _ r3)]; rfl
      generalize (w3.setCell ⟨rb, 0, none⟩ (.slice s l.length c)).setCell ⟨rb, 1, none⟩ (.int .i64 cnt) = w4 at ht4 r4 ⊢
      have ht04 := HT3.out.trans ht4 (fun x hx => .inl hx)
      have hrd4 : RdOk w4 rb l cnt B := ⟨s, c, r4, hcl, by
        rcases D3.out with e | ⟨b, o, rfl, hb, hc⟩
        · exact .inl e
        · have hne' : b ≠ rb := (D4.out ⟨b, o, none⟩ rfl).1
          exact .inr ⟨b, o, rfl, Nat.lt_of_lt_of_le hb ht04.size, fun i hi => (World.cell?_of_block (w := w) (ht04.block b hb hne')).trans (hc i hi)⟩, D4.out⟩
      have n4 := (ht4.block x3 hx3l hx3').trans n3
      have k6 := (ht4.block w.heap.size (heap_lt k3) (by omega)).trans k3
      have hx4 := heap_lt n4
      have HRD4 := Lib.hid hrd4
      have HT04 := Lib.hid ht04
      have K6 := Lib.hid k6
      have N4 := Lib.hid n4
      have HTB4 := Lib.hid ((HTB.out.touch ht04 HOW.out).list 2 (by omega))
      clear p0 p1 p2 p3 p4 p5 r3 k3 k4 HT3 ht4 r4 hrd4 ht04 n4 k6 n3
      go_wp2_with fail
      refine (look_t ow tb 2 behindT rb l cnt B w4 (Nat.le_trans hB HT04.out.size) good_behind.ok HTB4.out HRD4.out hl HKY.out).mono ?_
      rintro e w5 ⟨bw, rfl, ht5, hcase5⟩
      obtain ⟨u1, u2, u3, u4, u5, u6, u7, u8⟩ := bw
      rw [show (BV.cells ⟨u1, u2, u3, u4, u5, u6, u7, u8⟩) = #[.int .i64 u1, .int .i64 u2, .int .i64 u3, .bool u4, .slice u5 u6 u7, .pointer u8] from rfl]
      have k5 := (ht5.block w.heap.size (heap_lt K6.out) (by omega)).trans K6.out
      have n5 := (ht5.block x3 hx4 hx3').trans N4.out
      have HT5 := Lib.hid (HT04.out.trans ht5 (fun x hx => .inl hx))
      have HC5 := Lib.hid hcase5
      have hl5 := ht5.size
      clear ht5 hcase5
      rcases lookG_3 behindT l with h0 | h1 | h2
      · rw [h0]
        have HL := Lib.hid h0
        clear h0
        go_upto_region 11 with (fail)
        have hb6 := below_new2 w5 (.cells #[.int .i64 u1, .int .i64 u2, .int .i64 u3, .bool u4, .slice u5 u6 u7, .pointer u8] 133)
        have n6 := one_new w5 (.cells #[.int .i64 u1, .int .i64 u2, .int .i64 u3, .bool u4, .slice u5 u6 u7, .pointer u8] 133)
        have k6 := (hb6.block _ (heap_lt k5)).trans k5
        have m6 := (hb6.block _ (heap_lt n5)).trans n5
        have HTX := Lib.hid (HT5.out.trans (Touch.of (O := fun b => b = rb) hb6) (fun x hx => .inl hx))
        have HB6 := Lib.hid hb6
        generalize hx6 : w5.heap.size = x6 at n6
        have hx6l : w.heap.size < x6 := by rw [← hx6]; exact heap_lt k5
        generalize w5.alloc (.cells #[.int .i64 u1, .int .i64 u2, .int .i64 u3, .bool u4, .slice u5 u6 u7, .pointer u8] 133) = w6 at n6 k6 m6 HTX HB6 ⊢
        clear hb6 k5 n5 hx6
        clear m6
        have e0 : w6.cell? ⟨w.heap.size, 0, none⟩ = some (.int .i64 0) := block_cell k6
        have ef0 : w6.frozen? ⟨w.heap.size, 0, none⟩ = false := block_free k6
        have e1 : w6.cell? ⟨w.heap.size, 1, none⟩ = some (.int .i64 0) := block_cell k6
        have ef1 : w6.frozen? ⟨w.heap.size, 1, none⟩ = false := block_free k6
        have e2 : w6.cell? ⟨w.heap.size, 2, none⟩ = some (.int .i64 0) := block_cell k6
        have ef2 : w6.frozen? ⟨w.heap.size, 2, none⟩ = false := block_free k6
        have e3 : w6.cell? ⟨w.heap.size, 3, none⟩ = some (.bool false) := block_cell k6
        have ef3 : w6.frozen? ⟨w.heap.size, 3, none⟩ = false := block_free k6
        have e4 : w6.cell? ⟨w.heap.size, 4, none⟩ = some (.slice none 0 0) := block_cell k6
        have ef4 : w6.frozen? ⟨w.heap.size, 4, none⟩ = false := block_free k6
        have e5 : w6.cell? ⟨w.heap.size, 5, none⟩ = some (.pointer none) := block_cell k6
        have ef5 : w6.frozen? ⟨w.heap.size, 5, none⟩ = false := block_free k6
        have n0 : w6.cell? ⟨x6, 0, none⟩ = some (.int .i64 u1) := block_cell n6
        have n1 : w6.cell? ⟨x6, 1, none⟩ = some (.int .i64 u2) := block_cell n6
        have n2 : w6.cell? ⟨x6, 2, none⟩ = some (.int .i64 u3) := block_cell n6
        have n3 : w6.cell? ⟨x6, 3, none⟩ = some (.bool u4) := block_cell n6
        have n4 : w6.cell? ⟨x6, 4, none⟩ = some (.slice u5 u6 u7) := block_cell n6
        have n5 : w6.cell? ⟨x6, 5, none⟩ = some (.pointer u8) := block_cell n6
        clear k6 n6
        go_wp2
        exact bodyPost_ret (v := .tuple #[.agg #[.int .i64 u1, .int .i64 u2, .int .i64 u3, .bool u4, .slice u5 u6 u7, .pointer u8], .int .i64 0]) (by simp [results, Try.results86, go_sem, e0, e1, e2, e3, e4, e5]) rfl ⟨⟨u1, u2, u3, u4, u5, u6, u7, u8⟩, by rw [behP_c HNIL.out (by rw [HS2.out]; decide) HL.out (by decide)]; rfl, (HTX.out.trans (set6_touch w6 w.heap.size ⟨u1, u2, u3, u4, u5, u6, u7, u8⟩) (fun x hx => .inr (by omega))), fun h => by rw [behP_c HNIL.out (by rw [HS2.out]; decide) HL.out (by decide)] at h; cases h⟩
      · rw [h1]
        have HL := Lib.hid h1
        clear h1
        go_upto_region 11 with (fail)
        have hb6 := below_new2 w5 (.cells #[.int .i64 u1, .int .i64 u2, .int .i64 u3, .bool u4, .slice u5 u6 u7, .pointer u8] 133)
        have n6 := one_new w5 (.cells #[.int .i64 u1, .int .i64 u2, .int .i64 u3, .bool u4, .slice u5 u6 u7, .pointer u8] 133)
        have k6 := (hb6.block _ (heap_lt k5)).trans k5
        have m6 := (hb6.block _ (heap_lt n5)).trans n5
        have HTX := Lib.hid (HT5.out.trans (Touch.of (O := fun b => b = rb) hb6) (fun x hx => .inl hx))
        have HB6 := Lib.hid hb6
        generalize hx6 : w5.heap.size = x6 at n6
        have hx6l : w.heap.size < x6 := by rw [← hx6]; exact heap_lt k5
        generalize w5.alloc (.cells #[.int .i64 u1, .int .i64 u2, .int .i64 u3, .bool u4, .slice u5 u6 u7, .pointer u8] 133) = w6 at n6 k6 m6 HTX HB6 ⊢
        clear hb6 k5 n5 hx6
        clear m6
        have e0 : w6.cell? ⟨w.heap.size, 0, none⟩ = some (.int .i64 0) := block_cell k6
        have ef0 : w6.frozen? ⟨w.heap.size, 0, none⟩ = false := block_free k6
        have e1 : w6.cell? ⟨w.heap.size, 1, none⟩ = some (.int .i64 0) := block_cell k6
        have ef1 : w6.frozen? ⟨w.heap.size, 1, none⟩ = false := block_free k6
        have e2 : w6.cell? ⟨w.heap.size, 2, none⟩ = some (.int .i64 0) := block_cell k6
        have ef2 : w6.frozen? ⟨w.heap.size, 2, none⟩ = false := block_free k6
        have e3 : w6.cell? ⟨w.heap.size, 3, none⟩ = some (.bool false) := block_cell k6
        have ef3 : w6.frozen? ⟨w.heap.size, 3, none⟩ = false := block_free k6
        have e4 : w6.cell? ⟨w.heap.size, 4, none⟩ = some (.slice none 0 0) := block_cell k6
        have ef4 : w6.frozen? ⟨w.heap.size, 4, none⟩ = false := block_free k6
        have e5 : w6.cell? ⟨w.heap.size, 5, none⟩ = some (.pointer none) := block_cell k6
        have ef5 : w6.frozen? ⟨w.heap.size, 5, none⟩ = false := block_free k6
        have n0 : w6.cell? ⟨x6, 0, none⟩ = some (.int .i64 u1) := block_cell n6
        have n1 : w6.cell? ⟨x6, 1, none⟩ = some (.int .i64 u2) := block_cell n6
        have n2 : w6.cell? ⟨x6, 2, none⟩ = some (.int .i64 u3) := block_cell n6
        have n3 : w6.cell? ⟨x6, 3, none⟩ = some (.bool u4) := block_cell n6
        have n4 : w6.cell? ⟨x6, 4, none⟩ = some (.slice u5 u6 u7) := block_cell n6
        have n5 : w6.cell? ⟨x6, 5, none⟩ = some (.pointer u8) := block_cell n6
        clear k6 n6
        go_wp2
        exact bodyPost_ret (v := .tuple #[.agg #[.int .i64 u1, .int .i64 u2, .int .i64 u3, .bool u4, .slice u5 u6 u7, .pointer u8], .int .i64 1]) (by simp [results, Try.results86, go_sem, e0, e1, e2, e3, e4, e5]) rfl ⟨⟨u1, u2, u3, u4, u5, u6, u7, u8⟩, by rw [behP_c HNIL.out (by rw [HS2.out]; decide) HL.out (by decide)]; rfl, (HTX.out.trans (set6_touch w6 w.heap.size ⟨u1, u2, u3, u4, u5, u6, u7, u8⟩) (fun x hx => .inr (by omega))), fun _ => by
          rcases HC5.out with ⟨_, k, b, h7, h8, h9, h10⟩ | ⟨h7, _⟩
          · refine ⟨k, b, by rw [behP_eq HNIL.out (by rw [HS2.out]; decide) (by rw [HL.out]; decide), h7], h9.is, ?_⟩
            exact (h10.later HB6.out).keep (set6_touch w6 w.heap.size ⟨u1, u2, u3, u4, u5, u6, u7, u8⟩) (by omega) hB
          · exact absurd HL.out h7⟩
      · rw [h2]
        have HL := Lib.hid h2
        clear h2
        go_upto_region 10 with (fail)
        have hb6 := below_new2 w5 (.cells #[.int .i64 u1, .int .i64 u2, .int .i64 u3, .bool u4, .slice u5 u6 u7, .pointer u8] 133)
        have n6 := one_new w5 (.cells #[.int .i64 u1, .int .i64 u2, .int .i64 u3, .bool u4, .slice u5 u6 u7, .pointer u8] 133)
        have k6 := (hb6.block _ (heap_lt k5)).trans k5
        have m6 := (hb6.block _ (heap_lt n5)).trans n5
        have HTX := Lib.hid (HT5.out.trans (Touch.of (O := fun b => b = rb) hb6) (fun x hx => .inl hx))
        have HB6 := Lib.hid hb6
        generalize hx6 : w5.heap.size = x6 at n6
        have hx6l : w.heap.size < x6 := by rw [← hx6]; exact heap_lt k5
        generalize w5.alloc (.cells #[.int .i64 u1, .int .i64 u2, .int .i64 u3, .bool u4, .slice u5 u6 u7, .pointer u8] 133) = w6 at n6 k6 m6 HTX HB6 ⊢
        clear hb6 k5 n5 hx6
        clear n6
        have e0 : w6.cell? ⟨w.heap.size, 0, none⟩ = some (.int .i64 0) := block_cell k6
        have ef0 : w6.frozen? ⟨w.heap.size, 0, none⟩ = false := block_free k6
        have e1 : w6.cell? ⟨w.heap.size, 1, none⟩ = some (.int .i64 0) := block_cell k6
        have ef1 : w6.frozen? ⟨w.heap.size, 1, none⟩ = false := block_free k6
        have e2 : w6.cell? ⟨w.heap.size, 2, none⟩ = some (.int .i64 0) := block_cell k6
        have ef2 : w6.frozen? ⟨w.heap.size, 2, none⟩ = false := block_free k6
        have e3 : w6.cell? ⟨w.heap.size, 3, none⟩ = some (.bool false) := block_cell k6
        have ef3 : w6.frozen? ⟨w.heap.size, 3, none⟩ = false := block_free k6
        have e4 : w6.cell? ⟨w.heap.size, 4, none⟩ = some (.slice none 0 0) := block_cell k6
        have ef4 : w6.frozen? ⟨w.heap.size, 4, none⟩ = false := block_free k6
        have e5 : w6.cell? ⟨w.heap.size, 5, none⟩ = some (.pointer none) := block_cell k6
        have ef5 : w6.frozen? ⟨w.heap.size, 5, none⟩ = false := block_free k6
        have n0 : w6.cell? ⟨x3, 0, none⟩ = some (.int .i64 v1) := block_cell m6
        have n1 : w6.cell? ⟨x3, 1, none⟩ = some (.int .i64 v2) := block_cell m6
        have n2 : w6.cell? ⟨x3, 2, none⟩ = some (.int .i64 v3) := block_cell m6
        have n3 : w6.cell? ⟨x3, 3, none⟩ = some (.bool v4) := block_cell m6
        have n4 : w6.cell? ⟨x3, 4, none⟩ = some (.slice v5 v6 v7) := block_cell m6
        have n5 : w6.cell? ⟨x3, 5, none⟩ = some (.pointer v8) := block_cell m6
        clear k6 m6
        go_wp2
        exact bodyPost_ret (v := .tuple #[.agg #[.int .i64 v1, .int .i64 v2, .int .i64 v3, .bool v4, .slice v5 v6 v7, .pointer v8], .int .i64 2]) (by simp [results, Try.results86, go_sem, e0, e1, e2, e3, e4, e5]) rfl ⟨⟨v1, v2, v3, v4, v5, v6, v7, v8⟩, by rw [behP_b HNIL.out HS2.out (by decide) HL.out]; rfl, (HTX.out.trans (set6_touch w6 w.heap.size ⟨v1, v2, v3, v4, v5, v6, v7, v8⟩) (fun x hx => .inr (by omega))), fun h => by rw [behP_b HNIL.out HS2.out (by decide) HL.out] at h; cases h⟩
end Go.Proofs.Ytampjndfhpjheaa
