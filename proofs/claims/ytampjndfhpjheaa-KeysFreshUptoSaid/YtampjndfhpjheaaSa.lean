/- Contracts: what Go's package slices does with lists of ints: Index, Contains, cmp.Compare, Compare, Grow of nil, Clone. Condition: fewer than 2^31 members. Contracts: Go's package slices, lists of ints: Grow of nil, Concat of two, Clone. Condition: fewer than 2^31 members. -/
import Derived.Test.YtampjndfhpjheaaBa
import Derived.Deep.RegionHeld3
import Derived.Lib.AppendZeros
namespace Go.Proofs.Ytampjndfhpjheaa
open Go.RowKit
set_option linter.unusedVariables false
theorem nan_c (x : Int) (w : World) : Calls Try.prog 102 #[.int .i64 x] w fun e w' => e = .returned (.bool false) ∧ w' = w := by
  have h : (x != x) = false := by simp
  go_enter Try.func102, Try.ntmps102
  go_wp2
  go_ret
  exact ⟨rfl, rfl⟩
def cmpP (x y : Int) : Int := if x < y then -1 else if y < x then 1 else 0
set_option maxHeartbeats 1000000 in
theorem cmp_c (x y : Int) (w : World) : Calls Try.prog 87 #[.int .i64 x, .int .i64 y] w fun e w' => e = .returned (.int .i64 (cmpP x y)) ∧ w' = w := by
  go_enter Try.func87, Try.ntmps87
  go_wp2_with fail
  refine (nan_c x w).mono ?_
  rintro e w2 ⟨rfl, rfl⟩
  go_wp2_with fail
  refine (nan_c y w2).mono ?_
  rintro e w3 ⟨rfl, rfl⟩
  go_wp2
  all_goals (go_ret; refine ⟨?_, rfl⟩; unfold cmpP; (repeat' split) <;> first | rfl | (exfalso; omega))
set_option maxHeartbeats 1000000 in
/-- the place of the first x -/
theorem index_c (s : Option Addr) (len cap : Nat) (l : List Int) (x : Int) (w : World) (hl : l.length = len) (hlm : len < 4611686018427387904) (hr : IsInts w s len (gl l)) :
    Calls Try.prog 83 #[.slice s len cap, .int .i64 x] w fun e w' => ∃ k : Int, e = .returned (.int .i64 k) ∧ decide (0 ≤ k) = l.contains x ∧ w' = w := by
  have HR := Lib.hid hr
  have HL := Lib.hid hl
  clear hr hl
  go_enter Try.func83, Try.ntmps83
  go_wp2_with fail
  go_loopg [8] len (fun gg i wr => ∃ k : Nat, k + gg = len ∧ i = .int .i64 k ∧ (∀ j, j < k → gl l j ≠ x) ∧ w = wr)
  case atStart => exact ⟨0, by omega, rfl, (fun j hj => absurd hj (Nat.not_lt_zero _)), rfl⟩
  case round =>
    obtain ⟨k, hk, rfl, he, rfl⟩ := hrel
    have HE := Lib.hid he
    clear he
    by_cases hlt : k < len
    · obtain ⟨b, off, rfl, hcell⟩ := HR.out.at (Below.refl _ _) hlt
      obtain ⟨y, hy⟩ : ∃ y, gl l k = y := ⟨_, rfl⟩
      rw [hy] at hcell
      have HY := Lib.hid hy
      clear hy
      have q1 : (k : Int) < (len : Int) := by omega
      cases hxy : (x == y)
      · go_wp2
        go_roundg (gk - 1)
        case measure => omega
        case rel =>
          refine ⟨k + 1, by omega, by go_num, fun j hj => ?_, rfl⟩
          by_cases e : j = k
          · rw [e, HY.out]; exact fun h => by rw [h, beq_self_eq_true] at hxy; cases hxy
          · exact HE.out j (by omega)
      · go_wp2
        go_ret
        refine ⟨_, rfl, ?_, rfl⟩
        rw [decide_eq_true (by omega : (0 : Int) ≤ (k : Int))]
        symm
        rw [List.contains_iff_mem]
        rw [eq_of_beq hxy, ← HY.out]
        unfold gl
        rw [List.getD_eq_getElem?_getD, List.getElem?_eq_getElem (by rw [HL.out]; exact hlt)]
        exact List.getElem_mem _
    · go_wp2
      go_ret
      refine ⟨_, rfl, ?_, rfl⟩
      rw [decide_eq_false (by omega)]
      symm
      rw [Bool.eq_false_iff]
      intro h
      rw [List.contains_iff_mem] at h
      obtain ⟨i, hi, e⟩ := List.mem_iff_getElem.1 h
      refine HE.out i (by rw [HL.out] at hi; omega) ?_
      unfold gl
      rw [List.getD_eq_getElem?_getD, List.getElem?_eq_getElem hi]
      exact e
theorem contains_c (s : Option Addr) (len cap : Nat) (l : List Int) (x : Int) (w : World) (hl : l.length = len) (hlm : len < 4611686018427387904) (hr : IsInts w s len (gl l)) :
    Calls Try.prog 42 #[.slice s len cap, .int .i64 x] w fun e w' => e = .returned (.bool (l.contains x)) ∧ w' = w := by
  have HR := Lib.hid hr
  have HL := Lib.hid hl
  clear hr hl
  go_enter Try.func42, Try.ntmps42
  go_wp2_with fail
  refine (index_c s len cap l x w HL.out hlm HR.out).mono ?_
  rintro e w2 ⟨k, rfl, hk, rfl⟩
  have HK := Lib.hid hk
  clear hk
  go_wp2
  go_ret
  refine ⟨?_, rfl⟩
  rw [← HK.out]; rfl
/-- which list is the less, key by key -/
def lexP : List Int → List Int → Int
  | [], [] => 0
  | [], _ => -1
  | _, [] => 1
  | x :: s, y :: t => if cmpP x y = 0 then lexP s t else cmpP x y
theorem lexP_skip : ∀ (k : Nat) (l m : List Int), k ≤ l.length → k ≤ m.length → (∀ j, j < k → gl l j = gl m j) → lexP l m = lexP (l.drop k) (m.drop k) := by
  intro k
  induction k with
  | zero => intro l m _ _ _; rfl
  | succ k ih =>
    intro l m h1 h2 h3
    cases l with
    | nil => simp at h1
    | cons x s =>
      cases m with
      | nil => simp at h2
      | cons y t =>
        have e : x = y := h3 0 (by omega)
        subst e
        simp only [lexP, List.drop_succ_cons]
        have : cmpP x x = 0 := by unfold cmpP; simp
        rw [if_pos this]
        exact ih s t (by simpa using h1) (by simpa using h2) (fun j hj => h3 (j + 1) (by omega))
theorem glS_drop {l : List Int} {k : Nat} (h : k < l.length) : l.drop k = gl l k :: l.drop (k + 1) := by
  rw [List.drop_eq_getElem_cons h]
  unfold gl
  rw [List.getD_eq_getElem?_getD, List.getElem?_eq_getElem h]
  rfl
set_option maxHeartbeats 1000000 in
theorem compare_c (sa sb : Option Addr) (n ca m cb : Nat) (l k : List Int) (w : World) (hl : l.length = n) (hk : k.length = m) (hn : n < 4611686018427387904) (hm : m < 4611686018427387904) (hr : IsInts w sa n (gl l)) (hs : IsInts w sb m (gl k)) :
    Calls Try.prog 45 #[.slice sa n ca, .slice sb m cb] w fun e w' => e = .returned (.int .i64 (lexP l k)) ∧ w' = w := by
  have HR := Lib.hid hr
  have HS := Lib.hid hs
  have HL := Lib.hid hl
  have HK := Lib.hid hk
  clear hr hl hs hk
  go_enter Try.func45, Try.ntmps45
  go_wp2_with fail
  go_loopg [11] n (fun gg iv wr => ∃ i : Nat, i + gg = n ∧ iv = .int .i64 i ∧ i ≤ m ∧ lexP l k = lexP (l.drop i) (k.drop i) ∧ w = wr)
  case atStart => exact ⟨0, by omega, rfl, by omega, rfl, rfl⟩
  case round =>
    obtain ⟨i, hi, rfl, him, he, rfl⟩ := hrel
    have HE := Lib.hid he
    clear he
    by_cases hlt : i < n
    · obtain ⟨b, off, rfl, hcell⟩ := HR.out.at (Below.refl _ _) hlt
      have e1 := glS_drop (l := l) (k := i) (by rw [HL.out]; exact hlt)
      obtain ⟨x, hx⟩ : ∃ x, gl l i = x := ⟨_, rfl⟩
      rw [hx] at hcell e1
      have q1 : (i : Int) < (n : Int) := by omega
      have E1 := Lib.hid e1
      clear hx e1
      by_cases hlm : i < m
      · obtain ⟨b', off', rfl, hcell'⟩ := HS.out.at (Below.refl _ _) hlm
        have e2 := glS_drop (l := k) (k := i) (by rw [HK.out]; exact hlm)
        obtain ⟨y, hy⟩ : ∃ y, gl k i = y := ⟨_, rfl⟩
        rw [hy] at hcell' e2
        have q2 : (i : Int) < (m : Int) := by omega
        have E2 := Lib.hid e2
        clear hy e2
        go_wp2_with fail
        refine (cmp_c x y w).mono ?_
        rintro e w2 ⟨rfl, rfl⟩
        by_cases hc : cmpP x y = 0
        · have HL2 : Hid (lexP l k = lexP (l.drop (i + 1)) (k.drop (i + 1))) := Lib.hid (by
            rw [HE.out, E1.out, E2.out]
            simp only [lexP]
            rw [if_pos hc])
          have hcb : (cmpP x y != 0) = false := by rw [hc]; rfl
          clear hc
          go_wp2
          go_roundg (gk - 1)
          case measure => omega
          case rel => exact ⟨i + 1, by omega, by go_num, by omega, HL2.out, rfl⟩
        · have HL2 : Hid (lexP l k = cmpP x y) := Lib.hid (by
            rw [HE.out, E1.out, E2.out]
            simp only [lexP]
            rw [if_neg hc])
          have hcb : (cmpP x y != 0) = true := by rw [bne_iff_ne]; exact hc
          clear hc
          go_wp2
          go_ret
          exact ⟨by rw [HL2.out]; rfl, rfl⟩
      · have hme : i = m := by omega
        have q2 : (m : Int) ≤ (i : Int) := by omega
        have HL2 : Hid (lexP l k = 1) := Lib.hid (by
            rw [HE.out, E1.out, (show k.drop i = [] from List.drop_eq_nil_of_le (by rw [HK.out]; omega))]
            rfl)
        clear hme
        go_wp2
        go_ret
        exact ⟨by rw [HL2.out]; rfl, rfl⟩
    · have HL1 := Lib.hid (List.drop_eq_nil_of_le (by rw [HL.out]; omega) : l.drop i = [])
      by_cases hlm : n < m
      · have HL2 : Hid (lexP l k = -1) := Lib.hid (by
            rw [HE.out, HL1.out, glS_drop (l := k) (k := i) (by rw [HK.out]; omega)]
            rfl)
        have q2 : (n : Int) < (m : Int) := by omega
        go_wp2
        go_ret
        exact ⟨by rw [HL2.out]; rfl, rfl⟩
      · have HL2 : Hid (lexP l k = 0) := Lib.hid (by
            rw [HE.out, HL1.out, (show k.drop i = [] from List.drop_eq_nil_of_le (by rw [HK.out]; omega))]
            rfl)
        have q2 : ¬ ((n : Int) < (m : Int)) := by omega
        go_wp2
        go_ret
        exact ⟨by rw [HL2.out]; rfl, rfl⟩
open Go.RowKit
/-- a whole list behind a list of the call's own -/
theorem wpList_append_onto {w : World} {ops : Array Oper} {rest : List Oper} {o : Oper} {a : Act} {Q : Exit → Act → World → Prop} (hgd : o.guard = none) (s x : Operand)
    (ho : o.op = .call { callee := .builtin .append, args := #[s, x], argTypes := #[33, 33] })
    (base : Nat) (v : Value) (l m : List Int) (hs : a.eval s = v) (hown : OwnInts w base v l) (sa : Option Addr) (len cap : Nat) (hx : a.eval x = .slice sa len cap) (hlen : len = m.length) (hr : IsInts w sa len (gl m)) (hnil : sa = none → len = 0 ∧ cap = 0) (hl : l.length + len < 4294967296) (hbase : base ≤ w.heap.size)
    (h : ∀ s' n' c' w', n' = l.length + len → OwnInts w' base (.slice s' n' c') (l ++ m) → w.grownBy w' v.ownBlock → Below base w w' → wpList Try.prog ops Q rest (a.put o.dst (.slice s' n' c')) w') : wpList Try.prog ops Q (o :: rest) a w := by
  obtain ⟨i0, hi, hz0, hz1, hz2⟩ := info_parts Try.infoInt
  subst hlen
  cases sa with
  | none =>
    obtain ⟨h0, h1⟩ := hnil rfl
    have hm : m = [] := List.length_eq_zero_iff.1 h0
    subst hm
    refine wpList_append_own_none hgd s x 33 ho base 3 i0 1 Try.underlying33 hi v _ _ hs hown (by rw [hx, h1]; rfl) ?_
    obtain ⟨s', n', c', hv, hn, hi⟩ := hown.shape
    rw [hv]
    rw [hv] at hown
    exact h s' n' c' w (by rw [hn]; rfl) (by rw [List.append_nil]; exact hown) (World.grownBy.refl _ _) (Below.refl _ _)
  | some ad =>
    have hown' := hown
    unfold OwnInts at hown'
    refine wpList_append_own w hgd s x 33 ho base 3 i0 (.int .i64 0) 1 8 Try.underlying33 hi hz0 hz1 hz2 rfl (by decide) v _ _ hs hown' ad m.length cap (m.map (Value.int .i64)) hx (by rw [List.length_map, Nat.mul_one]) ?_ (ints_one _) (by unfold maxLen; omega) (by omega) hbase ?_
    · intro j u hu
      rw [List.getElem?_map] at hu
      rcases hr with h0 | ⟨b, off, he, hb, hc⟩
      · rw [List.getElem?_eq_none (by omega)] at hu; cases hu
      · cases he
        by_cases hj : j < m.length
        · rw [List.getElem?_eq_getElem hj] at hu
          have h1 := hc j hj
          unfold gl at h1
          rw [List.getD_eq_getElem?_getD, List.getElem?_eq_getElem hj] at h1
          rw [Go.WideShapes.add_plain, ← hu]
          exact h1
        · rw [List.getElem?_eq_none (by omega)] at hu; cases hu
    · intro v' w' h2 hgrow _
      have hO : OwnInts w' base v' (l ++ m) := by
        unfold OwnInts
        rw [List.length_append, List.map_append]
        exact h2
      obtain ⟨s', n', c', rfl, hn, _⟩ := hO.shape
      exact h s' n' c' w' (by rw [hn, List.length_append]) hO hgrow (Below.grown (Below.refl _ _) hgrow hbase (fun k hk => (hown.lt k hk).1))
set_option maxHeartbeats 1000000 in
theorem grow_c (n : Nat) (w : World) (hn : n < 4294967296) :
    Calls Try.prog 89 #[.slice none 0 0, .int .i64 n] w fun e w' => ∃ s c, e = .returned (.slice s 0 c) ∧ OwnInts w' w.heap.size (.slice s 0 c) [] ∧ Below w.heap.size w w' := by
  by_cases h0 : n = 0
  · subst h0
    go_enter Try.func89, Try.ntmps89
    go_wp2
    go_ret
    exact ⟨none, 0, rfl, OwnInts.nil _ _, Below.refl _ _⟩
  · obtain ⟨i0, hi, hz0, hz1, hz2⟩ := info_parts Try.infoInt
    have hrun : ∀ ty, (Builtin.append_ #[33, 3] ty #[.slice none 0 0, .int .i64 (n : Int)]).run Try.prog w = _ := fun ty => Go.Lib.run_append_nil_zeros w 33 3 ty 3 i0 (.int .i64 0) .i64 .i64 Try.underlying33 Try.underlying3 hi hz0 n (by omega) (by rw [hz1]; decide) (by omega) (by rw [hz2]; omega)
    have hg := grownCap_ge w n 0 3
    have hg2 := grownCap_le_maxLen w n 0 3 (by unfold maxLen; omega)
    generalize grownCap w n 0 3 = G at hrun hg hg2
    have hp : (0 : Int) < (n : Int) := by omega
    have hb : Below w.heap.size w (w.drew.alloc (.cells (Builtin.zeroCells (Value.int IntKind.i64 0).cells n ++ Builtin.zeroCells (Value.int IntKind.i64 0).cells (G - n)) 3)) := ((Below.refl _ _).drew).alloc (Nat.le_refl _) _
    have hown : OwnInts (w.drew.alloc (.cells (Builtin.zeroCells (Value.int IntKind.i64 0).cells n ++ Builtin.zeroCells (Value.int IntKind.i64 0).cells (G - n)) 3)) w.heap.size (.slice (some ⟨w.heap.size, 0, none⟩) 0 G) [] := by
      refine ⟨rfl, .inr ⟨w.heap.size, G, _, rfl, Nat.le_refl _, one_new _ _, Nat.zero_le _, hg2, ?_, rfl⟩⟩
      have hz : ∀ k, (Builtin.zeroCells (Value.int IntKind.i64 0).cells k).size = k := fun k => by
        simp [Builtin.zeroCells, Value.cells]
      rw [Array.size_append, hz, hz]
      omega
    have HOWN := Lib.hid hown
    have HB := Lib.hid hb
    clear hown hb hz0 hz1 hz2 hi
    go_enter Try.func89, Try.ntmps89
    go_wp2_with (at_builtin; refine Lib.wpList_append_run _ rfl _ _ _ _ rfl _ _ rfl rfl _ _ (hrun _) ?_)
    go_ret
    exact ⟨_, _, rfl, HOWN.out, HB.out⟩
def szP (n m : Nat) : Nat → Nat
  | 0 => 0
  | 1 => n
  | _ => n + m
def catP (l k : List Int) : Nat → List Int
  | 0 => []
  | 1 => l
  | _ => l ++ k
set_option maxHeartbeats 2000000 in
theorem concat_c (b0 : Nat) (sa sb : Option Addr) (n ca m cb : Nat) (l k : List Int) (w : World) (hb0 : w.heap[b0]? = some (.cells #[.slice sa n ca, .slice sb m cb] 33 (0, 0))) (hl : l.length = n) (hk : k.length = m) (hn : n < 1073741824) (hm : m < 1073741824)
    (hr : IsInts w sa n (gl l)) (hs : IsInts w sb m (gl k)) (hna : sa = none → n = 0 ∧ ca = 0) (hnb : sb = none → m = 0 ∧ cb = 0) :
    Calls Try.prog 48 #[.slice (some ⟨b0, 0, none⟩) 2 2] w fun e w' => ∃ s c, e = .returned (.slice s (n + m) c) ∧ OwnInts w' w.heap.size (.slice s (n + m) c) (l ++ k) ∧ Below w.heap.size w w' := by
  have HR := Lib.hid hr
  have HS := Lib.hid hs
  have HL := Lib.hid hl
  have HK := Lib.hid hk
  have HA := Lib.hid hna
  have HB := Lib.hid hnb
  have c0 : w.cell? ⟨b0, 0, none⟩ = some (.slice sa n ca) := block_cell hb0
  have c1 : w.cell? ⟨b0, 1, none⟩ = some (.slice sb m cb) := block_cell hb0
  have C0 := Lib.hid c0
  have C1 := Lib.hid c1
  have hbl := heap_lt hb0
  clear hr hl hs hk hna hnb hb0 c0 c1
  go_enter Try.func48, Try.ntmps48
  go_wp2_with fail
  go_loopg [3, 11] 2 (fun gg sv iv wr => ∃ (i : Nat) (t : Int), i + gg = 2 ∧ iv = .int .i64 i ∧ sv = .int .i64 t ∧ Hid (t = (szP n m i : Nat)) ∧ w = wr)
  case atStart => exact ⟨0, 0, rfl, rfl, rfl, Lib.hid rfl, rfl⟩
  case round =>
    obtain ⟨i, t, hi, rfl, rfl, HT, rfl⟩ := hrel
    have hi3 : i = 0 ∨ i = 1 ∨ i = 2 := by omega
    rcases hi3 with rfl | rfl | rfl
    · have c0 := C0.out
      have ht : t = 0 := HT.out
      subst ht
      have hn0 : ¬ ((n : Int) < 0) := by omega
      go_wp2
      go_roundg 1
      case measure => omega
      case rel => exact ⟨1, n, rfl, rfl, by go_num, Lib.hid rfl, rfl⟩
    · have c1 := C1.out
      have ht : t = (n : Int) := HT.out
      have hw : wrap64 (t + (m : Int)) = t + (m : Int) := by unfold wrap64; omega
      have hn0 : ¬ (t + (m : Int) < 0) := by omega
      clear ht
      go_wp2
      go_roundg 0
      case measure => omega
      case rel => exact ⟨2, _, rfl, rfl, rfl, Lib.hid (by rw [HT.out]; simp [szP]), rfl⟩
    · go_wp2_with fail
      rw [show t = ((n + m : Nat) : Int) from HT.out]
      refine (grow_c (n + m) w (by omega)).mono ?_
      rintro e w2 ⟨s2, c2, rfl, ho2, hb2⟩
      have HO2 := Lib.hid ho2
      have HB2 := Lib.hid hb2
      clear ho2 hb2
      go_wp2_with fail
      have C02 := Lib.hid ((HB2.out.cell (p := ⟨b0, 0, none⟩) hbl).trans C0.out)
      have C12 := Lib.hid ((HB2.out.cell (p := ⟨b0, 1, none⟩) hbl).trans C1.out)
      have hsz2 := HB2.out.size
      go_loopg [6, 27] 2 (fun gg sv iv wr => ∃ (i : Nat) (s : Option Addr) (c : Nat), i + gg = 2 ∧ iv = .int .i64 i ∧ sv = .slice s (szP n m i) c ∧ OwnInts wr w.heap.size (.slice s (szP n m i) c) (catP l k i) ∧ Below w.heap.size w wr)
      case atStart => exact ⟨0, s2, c2, rfl, rfl, rfl, HO2.out, HB2.out⟩
      case round =>
        obtain ⟨i, s, c, hi, rfl, rfl, ho, hb⟩ := hrel
        have HO := Lib.hid ho
        have HBB := Lib.hid hb
        clear ho hb
        have hi3 : i = 0 ∨ i = 1 ∨ i = 2 := by omega
        rcases hi3 with rfl | rfl | rfl
        · have c0 := (HBB.out.cell (p := ⟨b0, 0, none⟩) hbl).trans C0.out
          go_wp2_with (first | (at_builtin; refine wpList_append_onto rfl _ _ rfl w.heap.size _ _ l rfl HO.out sa n ca rfl HL.out.symm (HR.out.later HBB.out) HA.out (by show 0 + n < 4294967296; omega) HBB.out.size ?_; intro s' n' c' w' hn' ho' hg' hb'; have HN' := Lib.hid hn'; have HO' := Lib.hid ho'; have HB' := Lib.hid hb'; clear hn' ho' hg' hb'))
          go_roundg 1
          case measure => omega
          case rel =>
            have hn' := HN'.out
            have e : n' = szP n m 1 := by rw [hn']; simp [catP, szP]
            exact ⟨1, s', c', rfl, rfl, by rw [e], by rw [← e]; exact HO'.out, HBB.out.trans HB'.out⟩
        · have c1 := (HBB.out.cell (p := ⟨b0, 1, none⟩) hbl).trans C1.out
          go_wp2_with (first | (at_builtin; refine wpList_append_onto rfl _ _ rfl w.heap.size _ _ k rfl HO.out sb m cb rfl HK.out.symm (HS.out.later HBB.out) HB.out (by show l.length + m < 4294967296; rw [HL.out]; omega) HBB.out.size ?_; intro s' n' c' w' hn' ho' hg' hb'; have HN' := Lib.hid hn'; have HO' := Lib.hid ho'; have HB' := Lib.hid hb'; clear hn' ho' hg' hb'))
          go_roundg 0
          case measure => omega
          case rel =>
            have hn' := HN'.out
            have e : n' = szP n m 2 := by rw [hn']; simp [catP, szP, HL.out]
            exact ⟨2, s', c', rfl, rfl, by rw [e], by rw [← e]; exact HO'.out, HBB.out.trans HB'.out⟩
        · go_wp2
          go_ret
          exact ⟨s, c, rfl, HO.out, HBB.out⟩
theorem eql_nil (w : World) : (binOp .eql 33 (.slice none 0 0) (.slice none 0 0)).run Try.prog w = .ok (.bool true) w := by kernel_rfl
theorem eql_some (a : Addr) (n c : Nat) (w : World) : (binOp .eql 33 (.slice (some a) n c) (.slice none 0 0)).run Try.prog w = .ok (.bool false) w := by kernel_rfl
set_option maxRecDepth 100000 in
/-- Clone of a list -/
theorem clone_c (s : Option Addr) (len cap : Nat) (l : List Int) (w : World) (hl : l.length = len) (hlm : len < 1073741824) (hr : IsInts w s len (gl l)) (hn : s = none → len = 0 ∧ cap = 0) :
    Calls Try.prog 62 #[.slice s len cap] w fun e w' => ∃ s' c, e = .returned (.slice s' len c) ∧ OwnInts w' w.heap.size (.slice s' len c) l ∧ Below w.heap.size w w' := by
  have HR := Lib.hid hr
  have HL := Lib.hid hl
  have HN := Lib.hid hn
  clear hr hl hn
  go_enter Try.func62, Try.ntmps62
  cases s with
  | none =>
    obtain ⟨h0, h1⟩ := HN.out rfl
    subst h0; subst h1
    have hq := eql_nil w
    go_wp2
    go_ret
    have : l = [] := List.length_eq_zero_iff.1 HL.out
    subst this
    exact ⟨none, 0, rfl, OwnInts.nil _ _, Below.refl _ _⟩
  | some a =>
    have hq := eql_some a len cap w
    have ho : OwnInts (w.alloc (.cells #[] 3)) w.heap.size (.slice (some ⟨w.heap.size, 0, none⟩) 0 0) [] := ⟨rfl, .inr ⟨w.heap.size, 0, #[], rfl, Nat.le_refl _, one_new w _, Nat.zero_le _, Nat.zero_le _, rfl, rfl⟩⟩
    have hb : Below w.heap.size w (w.alloc (.cells #[] 3)) := (Below.refl _ _).alloc (Nat.le_refl _) _
    have HO := Lib.hid ho
    have HB := Lib.hid hb
    clear ho hb
    go_wp2_with (first | (at_builtin; refine wpList_append_onto rfl _ _ rfl w.heap.size _ _ l rfl HO.out (some a) len cap rfl HL.out.symm (HR.out.later HB.out) HN.out (by show 0 + len < 4294967296; omega) HB.out.size ?_; intro s' n' c' w' hn' ho' hg' hb'; have HN' := Lib.hid hn'; have HO' := Lib.hid ho'; have HB' := Lib.hid hb'; clear hn' ho' hg' hb'))
    go_ret
    have e : n' = len := by rw [HN'.out]; simp
    rw [← e]
    exact ⟨s', c', rfl, HO'.out, HB.out.trans HB'.out⟩
end Go.Proofs.Ytampjndfhpjheaa
