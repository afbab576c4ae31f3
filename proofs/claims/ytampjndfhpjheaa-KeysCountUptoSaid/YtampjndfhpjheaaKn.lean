/- Contracts: written, KeysCount. No condition. -/
import Derived.Test.YtampjndfhpjheaaKr
namespace Go.Proofs.Ytampjndfhpjheaa
open Go.RowKit
set_option linter.unusedVariables false
theorem mask_le (a : Int) (m : Nat) (hm : m < 4611686018427387904) : 0 ≤ bits .and .i64 a (m : Int) ∧ bits .and .i64 a (m : Int) ≤ m := by
  have h2 : (BitVec.ofInt 64 (m : Int)).toNat = m := by
    rw [BitVec.toNat_ofInt]
    omega
  have h1 : (BitVec.ofInt 64 a &&& BitVec.ofInt 64 (m : Int)).toNat ≤ m := by
    rw [BitVec.toNat_and]
    exact Nat.le_trans Nat.and_le_right (Nat.le_of_eq h2)
  show 0 ≤ IntKind.i64.wrap ((BitVec.ofInt 64 a &&& BitVec.ofInt 64 (m : Int)).toNat : Int) ∧ IntKind.i64.wrap ((BitVec.ofInt 64 a &&& BitVec.ofInt 64 (m : Int)).toNat : Int) ≤ m
  generalize (BitVec.ofInt 64 a &&& BitVec.ofInt 64 (m : Int)).toNat = k at *
  rw [IntKind.wrap_i64]
  omega
/-- the digits of a number above 0 -/
def writP : Nat → Int → List Int → List Int
  | 0, _, out => out
  | f + 1, n, out => if 0 < n then writP f (n / 10) ((48 + n % 10) :: out) else out
theorem writ_step {f : Nat} {m : Int} {out : List Int} (h0 : 0 < m) : writP (f + 1) m out = writP f (m / 10) ((48 + m % 10) :: out) := if_pos h0
theorem writ_end {f : Nat} {m : Int} {out : List Int} (h : ¬ 0 < m) : writP f m out = out := by
  cases f with
  | zero => rfl
  | succ f => exact if_neg h
theorem writ_ok : ∀ (f : Nat) (n : Int) (out : List Int), (∀ y ∈ out, digB y = true) → 0 < n → n < 10 ^ f → okNum (writP f n out) := by
  intro f
  induction f with
  | zero => intro n out _ h0 h2; simp at h2; omega
  | succ f ih =>
    intro n out ho h0 h2
    rw [writ_step h0]
    have hm : 0 ≤ n % 10 ∧ n % 10 ≤ 9 := by omega
    have ho2 : ∀ y ∈ (48 + n % 10) :: out, digB y = true := fun y hy => by
      rcases List.mem_cons.1 hy with rfl | hy
      · exact dgB hm.1 hm.2
      · exact ho y hy
    by_cases h9 : n / 10 = 0
    · rw [h9, writ_end (by omega)]
      exact ⟨_, _, rfl, dg1B (by omega) hm.2, ho⟩
    · have hp : (10 : Int) ^ (f + 1) = 10 * 10 ^ f := by rw [Int.pow_succ, Int.mul_comm]
      rw [hp] at h2
      exact ih (n / 10) _ ho2 (by omega) (by omega)
theorem writ_val : ∀ (f : Nat) (n : Int) (out : List Int), 0 ≤ n → n < 10 ^ f → (writP f n out).foldl stepN 0 = out.foldl stepN (min n 9999) := by
  intro f
  induction f with
  | zero =>
    intro n out h0 h2
    have e : n = 0 := by simp at h2; omega
    subst e; rfl
  | succ f ih =>
    intro n out h0 h2
    by_cases hn : 0 < n
    · rw [writ_step hn]
      have hp : (10 : Int) ^ (f + 1) = 10 * 10 ^ f := by rw [Int.pow_succ, Int.mul_comm]
      rw [hp] at h2
      rw [ih (n / 10) _ (by omega) (by omega), List.foldl_cons]
      have : stepN (min (n / 10) 9999) (48 + n % 10) = min n 9999 := by unfold stepN; omega
      rw [this]
    · have e : n = 0 := by omega
      subst e
      rw [writ_end (by omega)]
      rfl
theorem writ_len : ∀ (f : Nat) (n : Int) (out : List Int), (writP f n out).length ≤ out.length + f := by
  intro f
  induction f with
  | zero => intro n out; exact Nat.le_refl _
  | succ f ih =>
    intro n out
    unfold writP
    split
    · have := ih (n / 10) ((48 + n % 10) :: out); simp at this; omega
    · omega
theorem writ_key {f : Nat} {n : Int} {out : List Int} (h : ∀ x ∈ out, inKey x) : ∀ x ∈ writP f n out, inKey x := by
  induction f generalizing n out with
  | zero => exact h
  | succ f ih =>
    unfold writP
    split
    · refine ih (fun x hx => ?_)
      rcases List.mem_cons.1 hx with rfl | hx
      · exact inKey_small (by omega) (by omega)
      · exact h x hx
    · exact h
def wrF (f : Nat) (m : Int) : Prop := (f = 5 ∧ m ≤ 99999) ∨ (f = 4 ∧ m ≤ 9999) ∨ (f = 3 ∧ m ≤ 999) ∨ (f = 2 ∧ m ≤ 99) ∨ (f = 1 ∧ m ≤ 9) ∨ (f = 0 ∧ m ≤ 0)
theorem wrF_step {f : Nat} {m : Int} (h : wrF f m) (h0 : 0 < m) : ∃ g, f = g + 1 ∧ wrF g (m / 10) := by
  unfold wrF at *
  rcases h with h | h | h | h | h | h
  · exact ⟨4, h.1, by omega⟩
  · exact ⟨3, h.1, by omega⟩
  · exact ⟨2, h.1, by omega⟩
  · exact ⟨1, h.1, by omega⟩
  · exact ⟨0, h.1, by omega⟩
  · omega
set_option maxRecDepth 100000 in
set_option maxHeartbeats 4000000 in
theorem written_c (n : Int) (w : World) (h0 : 0 < n) (hn : n ≤ 16384) : Calls Try.prog 13 #[.int .i64 n] w fun e w' => ∃ s k, e = .returned (.slice s (writP 5 n []).length k) ∧ OwnInts w' w.heap.size (.slice s (writP 5 n []).length k) (writP 5 n []) ∧ Below w.heap.size w w' := by
  go_enter Try.func13, Try.ntmps13
  go_wp2_with fail
  go_loopg [0, 3] 5 (fun gg nv cv wr => ∃ (m : Int) (out : List Int) (s : Option Addr) (k : Nat), nv = .int .i64 m ∧ cv = .slice s out.length k ∧ wrF gg m ∧ writP gg m out = writP 5 n [] ∧ out.length + gg ≤ 5 ∧ OwnInts wr w.heap.size (.slice s out.length k) out ∧ Below w.heap.size w wr)
  case atStart => exact ⟨n, [], none, 0, rfl, rfl, .inl ⟨rfl, by omega⟩, rfl, by decide, OwnInts.nil _ _, Below.refl _ _⟩
  case round =>
    obtain ⟨m, out, s, k, rfl, rfl, hf, hd, hlen, ho, hb⟩ := hrel
    by_cases hm0 : 0 < m
    · obtain ⟨g, rfl, hg⟩ := wrF_step hf hm0
      rw [writ_step hm0] at hd
      have hm9 : m ≤ 99999 := by unfold wrF at hf; omega
      have HG := Lib.hid hg
      have HD := Lib.hid hd
      have HO := Lib.hid ho
      have HBB := Lib.hid hb
      have hne : OwnInts (wr.alloc (.cells #[.int .i64 (48 + m % 10)] 3)) w.heap.size (.slice (some ⟨wr.heap.size, 0, none⟩) 1 1) [48 + m % 10] := ⟨rfl, .inr ⟨wr.heap.size, 1, _, rfl, hb.size, one_new wr _, Nat.le_refl _, by decide, rfl, rfl⟩⟩
      have HNE := Lib.hid hne
      have HB2 := Lib.hid (below_new2 wr (.cells #[.int .i64 (48 + m % 10)] 3))
      clear hf hg hd ho hb hne
      have ht1 : m.tmod 10 = m % 10 := Int.tmod_eq_emod_of_nonneg (by omega)
      have ht2 : m.tdiv 10 = m / 10 := Int.tdiv_eq_ediv_of_nonneg (by omega)
      have hlen2 : ([48 + m % 10] : List Int).length + out.length < 4294967296 := by simp; omega
      go_wp2_with (first | (at_builtin; refine wpList_append_onto rfl _ _ rfl w.heap.size _ _ out rfl HNE.out s out.length k rfl rfl (HO.out.is.later HB2.out) (own_nil HO.out) hlen2 (HBB.out.trans (HB2.out.mono HBB.out.size)).size ?_; intro s' n' c' w' hn' ho' hg' hb'; have HN' := Lib.hid hn'; have HO' := Lib.hid ho'; have HG' := Lib.hid hg'; have HB' := Lib.hid hb'; clear hn' ho' hg' hb'))
      go_roundg g
      case measure => omega
      case rel =>
        have e : n' = ((48 + m % 10) :: out).length := by rw [HN'.out]; simp; omega
        exact ⟨m / 10, (48 + m % 10) :: out, s', c', rfl, by rw [e], HG.out, HD.out, by simp; omega, by rw [← e]; exact HO'.out, (HBB.out.trans (HB2.out.mono HBB.out.size)).trans HB'.out⟩
    · rw [writ_end hm0] at hd
      have HO := Lib.hid ho
      have HB := Lib.hid hb
      have HD := Lib.hid hd
      clear hd ho hb
      go_wp2
      go_ret
      rw [← HD.out]
      exact ⟨s, k, rfl, HO.out, HB.out⟩
def countL (a b c n : Int) : List Int := ((((writP 5 a [] ++ [34, n]) ++ writP 5 b []) ++ [100]) ++ writP 5 c []) ++ [106]
theorem d_mem : ([100], (⟨2, 0, 0, false, [[100]]⟩ : Bd)) ∈ normalT := by unfold normalT; simp
theorem j_mem : ([106], (⟨1, 11, 0, false, []⟩ : Bd)) ∈ UT [[100]] := by unfold UT behindT; simp
theorem count_law {a b c n : Int} (ha0 : 0 < a) (ha : a ≤ 16384) (hb0 : 0 < b) (hb : b ≤ 1024) (hc0 : 0 < c) (hc : c ≤ 16384) (hn : 97 ≤ n) (hn2 : n ≤ 112) :
    fedP 0 (countL a b c n) = (⟨n, min (min (min a 9999 * b) 9999 * min c 9999) 9999, 2, 11, 0⟩, 1) := by
  have h5 : (10 : Int) ^ 5 = 100000 := by decide
  have oA := writ_ok 5 a [] (fun y hy => by cases hy) ha0 (by omega)
  have oB := writ_ok 5 b [] (fun y hy => by cases hy) hb0 (by omega)
  have oC := writ_ok 5 c [] (fun y hy => by cases hy) hc0 (by omega)
  have vA : valN (writP 5 a []) = min a 9999 := writ_val 5 a [] (by omega) (by omega)
  have vB : valN (writP 5 b []) = min b 9999 := writ_val 5 b [] (by omega) (by omega)
  have vC : valN (writP 5 c []) = min c 9999 := writ_val 5 c [] (by omega) (by omega)
  unfold countL
  generalize writP 5 a [] = A at *
  generalize writP 5 b [] = B at *
  generalize writP 5 c [] = C at *
  have hform : Form false ((((((A ++ [34, n]) ++ B) ++ [100]) ++ C) ++ [106])) [.num A, .reg n, .num B] ([100] ++ (C ++ ([106] ++ []))) [100] C [106] [] ⟨2, 0, 0, false, [[100]]⟩ ⟨1, 11, 0, false, []⟩ := by
    refine ⟨⟨rfl, oA, by omega, rfl, oB, trivial⟩, ⟨100, C ++ ([106] ++ []), rfl, by decide, by decide, fun _ => by decide⟩, ⟨d_mem, .inr ⟨by decide, .inr oC, j_mem, fun _ x u e => by cases e; decide⟩, .inr ⟨rfl, rfl⟩, rfl⟩, by simp [flatT, Tok.keys]⟩
  generalize (((((A ++ [34, n]) ++ B) ++ [100]) ++ C) ++ [106]) = l at hform
  have hrd := hform.read []
  rw [List.append_nil] at hrd
  have hCne : C ≠ [] := fun e => by have := oC.pos; rw [e] at this; simp at this
  have hcmd : cmdOf (effs (0, 0) [.num A, .reg n, .num B]).1 (cntD (effs (0, 0) [.num A, .reg n, .num B]).2 C) 2 ⟨1, 11, 0, false, []⟩ [] = ⟨n, min (min (min a 9999 * b) 9999 * min c 9999) 9999, 2, 11, 0⟩ := by
    have e1 : (effs (0, 0) [.num A, .reg n, .num B]).1 = n := rfl
    have e2 : (effs (0, 0) [.num A, .reg n, .num B]).2 = min (max (min (max 0 1 * valN A) 9999) 1 * valN B) 9999 := rfl
    have e3 : min (max (min (max 0 1 * valN A) 9999) 1 * valN B) 9999 = min (min a 9999 * b) 9999 := by
      rw [vA, vB]
      have h1 : max (0 : Int) 1 = 1 := by decide
      have h2 : max (min (1 * min a 9999) 9999) 1 = min a 9999 := by omega
      have h3 : min b 9999 = b := by omega
      rw [h1, h2, h3]
    have hp : 1 ≤ min (min a 9999 * b) 9999 := by
      have h1 : 1 * 1 ≤ min a 9999 * b := Int.mul_le_mul (by omega) (by omega) (by decide) (by omega)
      omega
    unfold cntD cmdOf
    rw [if_neg hCne, e1, e2, e3, vC]
    have h4 : max (min (min a 9999 * b) 9999) 1 = min (min a 9999 * b) 9999 := by omega
    rw [h4]
    have h6 : ¬ ((11 : Int) = 33) := by decide
    simp only [h6, false_and, if_false]
    rfl
  rw [hcmd] at hrd
  have hne : l ≠ [] := by rw [hform.eq]; simp
  have h27 : 27 ∉ l := by
    have hdig : ∀ {D : List Int}, okNum D → 27 ∉ D := fun {D} h e => by have := h.digs 27 e; revert this; decide
    rw [hform.eq]
    intro e
    simp only [flatT, Tok.keys, List.append_nil, List.mem_append, List.mem_cons, List.not_mem_nil, or_false] at e
    rcases e with (e | (e | e) | e) | e | e | e
    · exact hdig oA e
    · cases e
    · omega
    · exact hdig oB e
    · cases e
    · exact hdig oC e
    · cases e
  refine (fed_whole (mode := 0) hne h27 (fun q h1 h2 _ => ?_)).trans ?_
  · show (readP false q).1 = 0
    rw [hform.more h1 h2]
  · show ((readP false l).2, ((readP false l).1 : Int)) = _
    rw [hrd]; rfl
theorem prod_le {x y A B : Int} (hx0 : 0 ≤ x) (hx : x ≤ A) (hy0 : 0 ≤ y) (hy : y ≤ B) : 0 ≤ x * y ∧ x * y ≤ A * B := ⟨Int.mul_nonneg hx0 hy0, Int.mul_le_mul hx hy hy0 (by omega)⟩
theorem count_e {a1 b1 c1 : Int} (ha0 : 1 ≤ a1) (hb0 : 1 ≤ b1) (hb1 : b1 ≤ 1024) (hc0 : 1 ≤ c1) : wrap64 ((if 9999 < wrap64 ((if 9999 < a1 then 9999 else a1) * b1) then 9999 else wrap64 ((if 9999 < a1 then 9999 else a1) * b1)) * (if 9999 < c1 then 9999 else c1)) = min (min a1 9999 * b1) 9999 * min c1 9999 := by
  have e : ∀ x : Int, (if 9999 < x then 9999 else x) = min x 9999 := fun x => by split <;> omega
  rw [e a1, e c1]
  have h1 := prod_le (x := min a1 9999) (y := b1) (A := 9999) (B := 1024) (by omega) (by omega) (by omega) (by omega)
  have w1 : wrap64 (min a1 9999 * b1) = min a1 9999 * b1 := by
    generalize min a1 9999 * b1 = X at *
    unfold wrap64; omega
  rw [w1, e]
  generalize min a1 9999 * b1 = X at *
  have h2 := prod_le (x := min X 9999) (y := min c1 9999) (A := 9999) (B := 9999) (by omega) (by omega) (by omega) (by omega)
  generalize min X 9999 * min c1 9999 = Y at *
  unfold wrap64; omega
theorem mask_var (a : Int) (k : Int) (m : Nat) (hk : 0 ≤ k) (hk2 : k < 1000) (hm : m < 100000) : ∃ a', wrap64 (k + bits .and .i64 a (m : Int)) = a' ∧ k ≤ a' ∧ a' ≤ k + m := by
  have h := mask_le a m (by omega)
  refine ⟨_, rfl, ?_, ?_⟩ <;> unfold wrap64 <;> omega
theorem ints_new2 (w : World) (x y : Int) : IsInts (w.alloc (.cells #[.int .i64 x, .int .i64 y] 3)) (some ⟨w.heap.size, 0, none⟩) 2 (gl [x, y]) := by
  have hn := one_new w (.cells #[.int .i64 x, .int .i64 y] 3)
  refine .inr ⟨w.heap.size, 0, rfl, by simp, fun i hi => ?_⟩
  rw [Nat.zero_add, block_cell hn]
  match i, hi with
  | 0, _ => rfl
  | 1, _ => rfl
theorem ints_new1 (w : World) (x : Int) : IsInts (w.alloc (.cells #[.int .i64 x] 3)) (some ⟨w.heap.size, 0, none⟩) 1 (gl [x]) := by
  have hn := one_new w (.cells #[.int .i64 x] 3)
  refine .inr ⟨w.heap.size, 0, rfl, by simp, fun i hi => ?_⟩
  rw [Nat.zero_add, block_cell hn]
  match i, hi with
  | 0, _ => rfl
/-- a list that grows: its memory, and the world since the beginning -/
def Gro (w0 w : World) (s : Option Addr) (n k : Nat) (l : List Int) : Prop := OwnInts w w0.heap.size (.slice s n k) l ∧ n = l.length ∧ Below w0.heap.size w0 w
theorem Gro.later {w0 w w' : World} {s : Option Addr} {n k : Nat} {l : List Int} (h : Gro w0 w s n k l) (hb : Below w.heap.size w w') : Gro w0 w' s n k l := ⟨h.1.later hb, h.2.1, h.2.2.trans (hb.mono h.2.2.size)⟩
theorem wpList_gro {w0 w : World} {ops : Array Oper} {rest : List Oper} {o : Oper} {a : Act} {Q : Exit → Act → World → Prop} (l m : List Int) (hgd : o.guard = none) (s x : Operand)
    (ho : o.op = .call { callee := .builtin .append, args := #[s, x], argTypes := #[33, 33] })
    (sl : Option Addr) (n k : Nat) (hs : a.eval s = .slice sl n k) (hown : Gro w0 w sl n k l) (sa : Option Addr) (len cap : Nat) (hx : a.eval x = .slice sa len cap) (hlen : len = m.length) (hr : IsInts w sa len (gl m)) (hnil : sa = none → len = 0 ∧ cap = 0) (hl : l.length + m.length < 100)
    (h : ∀ s' n' c' w', Gro w0 w' s' n' c' (l ++ m) → wpList Try.prog ops Q rest (a.put o.dst (.slice s' n' c')) w') : wpList Try.prog ops Q (o :: rest) a w := by
  refine wpList_append_onto hgd s x ho w0.heap.size _ l m hs hown.1 sa len cap hx hlen hr hnil (by omega) hown.2.2.size ?_
  intro s' n' c' w' hn ho' hg hb
  exact h s' n' c' w' ⟨ho', by rw [hn, hlen, List.length_append], hown.2.2.trans hb⟩
set_option maxRecDepth 100000 in
set_option maxHeartbeats 8000000 in
theorem count_c (a b c n : Int) (w : World) : Calls Try.prog 4 #[.int .i64 a, .int .i64 b, .int .i64 c, .int .i64 n] w fun e w' => e = .returned (.bool true) ∧ Below w.heap.size w w' := by
  obtain ⟨a1, ha, ha0, ha1⟩ := mask_var a 1 16383 (by decide) (by decide) (by decide)
  obtain ⟨b1, hb, hb0, hb1⟩ := mask_var b 1 1023 (by decide) (by decide) (by decide)
  obtain ⟨c1, hc, hc0, hc1⟩ := mask_var c 1 16383 (by decide) (by decide) (by decide)
  obtain ⟨n1, hn, hn0, hn1⟩ := mask_var n 97 15 (by decide) (by decide) (by decide)
  replace ha : wrap64 (1 + bits .and .i64 a 16383) = a1 := ha
  replace hb : wrap64 (1 + bits .and .i64 b 1023) = b1 := hb
  replace hc : wrap64 (1 + bits .and .i64 c 16383) = c1 := hc
  replace hn : wrap64 (97 + bits .and .i64 n 15) = n1 := hn
  have hlaw := count_law (a := a1) (b := b1) (c := c1) (n := n1) (by omega) (by omega) (by omega) (by omega) (by omega) (by omega) (by omega) (by omega)
  have LA : (writP 5 a1 []).length ≤ 5 := by simpa using writ_len 5 a1 []
  have LB : (writP 5 b1 []).length ≤ 5 := by simpa using writ_len 5 b1 []
  have LC : (writP 5 c1 []).length ≤ 5 := by simpa using writ_len 5 c1 []
  have KA : ∀ x ∈ writP 5 a1 [], inKey x := writ_key (fun x hx => by cases hx)
  have KB : ∀ x ∈ writP 5 b1 [], inKey x := writ_key (fun x hx => by cases hx)
  have KC : ∀ x ∈ writP 5 c1 [], inKey x := writ_key (fun x hx => by cases hx)
  have WA := fun w => written_c a1 w (by omega) (by omega)
  have WB := fun w => written_c b1 w (by omega) (by omega)
  have WC := fun w => written_c c1 w (by omega) (by omega)
  have hkeys : ∀ x ∈ countL a1 b1 c1 n1, inKey x := by
    intro x hx
    unfold countL at hx
    simp only [List.mem_append, List.mem_cons, List.not_mem_nil, or_false] at hx
    rcases hx with ((((hx | hx | hx) | hx) | hx) | hx) | hx
    · exact KA x hx
    · rw [hx]; exact inKey_small (by decide) (by decide)
    · rw [hx]; exact inKey_small (by omega) (by omega)
    · exact KB x hx
    · rw [hx]; exact inKey_small (by decide) (by decide)
    · exact KC x hx
    · rw [hx]; exact inKey_small (by decide) (by decide)
  have HKEYS := Lib.hid hkeys
  have HLAW := Lib.hid hlaw
  have WA := Lib.hid WA
  have WB := Lib.hid WB
  have WC := Lib.hid WC
  have hcl : countL a1 b1 c1 n1 = ((((writP 5 a1 [] ++ [34, n1]) ++ writP 5 b1 []) ++ [100]) ++ writP 5 c1 []) ++ [106] := rfl
  generalize writP 5 a1 [] = A at *
  generalize writP 5 b1 [] = B at *
  generalize writP 5 c1 [] = C at *
  have HCL := Lib.hid hcl
  clear hkeys hlaw KA KB KC hcl
  go_enter Try.func4, Try.ntmps4
  have G0 : Hid (Gro w w none 0 0 []) := Lib.hid ⟨OwnInts.nil _ _, rfl, Below.refl _ _⟩
  go_wp2_with fail
  refine (WA.out w).mono ?_
  rintro e w2 ⟨s2, k2, rfl, ho2, hb2⟩
  have G0' := Lib.hid (G0.out.later hb2)
  have I2 := Lib.hid ho2
  clear ho2 hb2 G0
  go_wp2_with (first
    | (at_builtin; refine wpList_gro [] A rfl _ _ rfl _ _ _ rfl G0'.out s2 A.length k2 rfl rfl I2.out.is (own_nil I2.out) (by simp; omega) ?_; intro s3 n3 c3 w3 hg3; have G3 := Lib.hid hg3; have G3' := Lib.hid (hg3.later (below_new2 w3 (.cells #[.int .i64 34, .int .i64 n1] 3))); have I3 := Lib.hid (ints_new2 w3 34 n1); clear hg3)
    | (at_builtin; refine wpList_gro ([] ++ A) [34, n1] rfl _ _ rfl _ _ _ rfl G3'.out _ 2 2 rfl rfl I3.out (fun e => by cases e) (by simp; omega) ?_; intro s4 n4 c4 w4 hg4; have G4 := Lib.hid hg4; clear hg4))
  refine (WB.out w4).mono ?_
  rintro e w5 ⟨s5, k5, rfl, ho5, hb5⟩
  have G5 := Lib.hid (G4.out.later hb5)
  have I5 := Lib.hid ho5
  clear ho5 hb5 G4 G3 G3' I3 G0' I2
  go_wp2_with (first
    | (at_builtin; refine wpList_gro (([] ++ A) ++ [34, n1]) B rfl _ _ rfl _ _ _ rfl G5.out s5 B.length k5 rfl rfl I5.out.is (own_nil I5.out) (by simp; omega) ?_; intro s6 n6 c6 w6 hg6; have G6 := Lib.hid hg6; have G6' := Lib.hid (hg6.later (below_new2 w6 (.cells #[.int .i64 100] 3))); have I6 := Lib.hid (ints_new1 w6 100); clear hg6)
    | (at_builtin; refine wpList_gro ((([] ++ A) ++ [34, n1]) ++ B) [100] rfl _ _ rfl _ _ _ rfl G6'.out _ 1 1 rfl rfl I6.out (fun e => by cases e) (by simp; omega) ?_; intro s7 n7 c7 w7 hg7; have G7 := Lib.hid hg7; clear hg7))
  refine (WC.out w7).mono ?_
  rintro e w8 ⟨s8, k8, rfl, ho8, hb8⟩
  have G8 := Lib.hid (G7.out.later hb8)
  have I8 := Lib.hid ho8
  clear ho8 hb8 G7 G6 G6' I6 G5 I5
  go_wp2_with (first
    | (at_builtin; refine wpList_gro (((([] ++ A) ++ [34, n1]) ++ B) ++ [100]) C rfl _ _ rfl _ _ _ rfl G8.out s8 C.length k8 rfl rfl I8.out.is (own_nil I8.out) (by simp; omega) ?_; intro s9 n9 c9 w9 hg9; have G9 := Lib.hid hg9; have G9' := Lib.hid (hg9.later (below_new2 w9 (.cells #[.int .i64 106] 3))); have I9 := Lib.hid (ints_new1 w9 106); clear hg9)
    | (at_builtin; refine wpList_gro ((((([] ++ A) ++ [34, n1]) ++ B) ++ [100]) ++ C) [106] rfl _ _ rfl _ _ _ rfl G9'.out _ 1 1 rfl rfl I9.out (fun e => by cases e) (by simp; omega) ?_; intro sa na ca wa hga; have GA := Lib.hid hga; clear hga))
  have hl : (((((([] ++ A) ++ [34, n1]) ++ B) ++ [100]) ++ C) ++ [106]) = countL a1 b1 c1 n1 := by rw [HCL.out]; rfl
  rw [hl] at GA
  have hll : (countL a1 b1 c1 n1).length < 100 := by rw [HCL.out]; simp; omega
  generalize countL a1 b1 c1 n1 = L at *
  have hnl : na = L.length := GA.out.2.1
  subst hnl
  have hfd := fed_c 0 sa L.length ca L wa rfl (by omega) GA.out.1.is (fun a e => (GA.out.1.lt a.block (by rw [e]; rfl)).2) HKEYS.out
  rw [HLAW.out] at hfd
  obtain ⟨M, hM⟩ : ∃ M, M = min (min (min a1 9999 * b1) 9999 * min c1 9999) 9999 := ⟨_, rfl⟩
  rw [← hM] at hfd
  have HM := Lib.hid hM
  have HFD : Hid (Calls Try.prog 14 #[.int .i64 0, .slice sa L.length ca] wa fun e w' => e = .returned (.tuple #[.agg #[.int .i64 n1, .int .i64 M, .int .i64 2, .int .i64 11, .int .i64 0], .int .i64 1]) ∧ Below wa.heap.size wa w') := Lib.hid hfd
  clear hl hfd hM G9 G9' I9 G8 I8
  refine HFD.out.mono ?_
  rintro e wb ⟨rfl, hbb⟩
  have HBB := Lib.hid (GA.out.2.2.trans (hbb.mono GA.out.2.2.size))
  clear hbb
  go_upto_region 14 with (fail)
  rw [count_e (by omega) (by omega) (by omega) (by omega)]
  have hM2 : (if 9999 < min (min a1 9999 * b1) 9999 * min c1 9999 then 9999 else min (min a1 9999 * b1) 9999 * min c1 9999) = M := by
    rw [HM.out]
    generalize min (min a1 9999 * b1) 9999 * min c1 9999 = X
    split <;> omega
  generalize min (min a1 9999 * b1) 9999 * min c1 9999 = P at hM2 ⊢
  have HB2 := Lib.hid (HBB.out.trans ((below_new2 wb (.cells #[.int .i64 n1, .int .i64 M, .int .i64 2, .int .i64 11, .int .i64 0] 44)).mono HBB.out.size))
  go_wp2
  all_goals (go_ret; exact ⟨rfl, HB2.out⟩)
end Go.Proofs.Ytampjndfhpjheaa

