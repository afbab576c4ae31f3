/- The program's Look of a trie of bounds. Condition: lists of at most maxLen keys. -/
import Derived.Test.YtampjndfhpjheaaYc
import Derived.Test.YtampjndfhpjheaaYa
import Derived.Deep.RegionHeld3
import Derived.Laws.BytesArg
namespace Go.Proofs.Ytampjndfhpjheaa
open Go.RowKit
/-- what a bound is in memory -/
structure BV where
  v : Int
  m : Int
  a : Int
  more : Bool
  os : Option Addr
  on : Nat
  oc : Nat
  dp : Option Addr
def BV.cells (b : BV) : Array Value := #[.int .i64 b.v, .int .i64 b.m, .int .i64 b.a, .bool b.more, .slice b.os b.on b.oc, .pointer b.dp]
def bv0 : BV := ⟨0, 0, 0, false, none, 0, 0, none⟩
def encB (E : Int → BV) (x : Int) : Array Value := (E x).cells
/-- what Look answers -/
def bvAt (E : Int → BV) (S : TrieS) (p : List Int) : BV := if (lookS S p).2 = 1 then E (lookS S p).1 else bv0
theorem zero_bound (w : World) : (zeroValue 131).run Try.prog w = .ok (.pointer none) w := by kernel_rfl
set_option maxRecDepth 100000 in
set_option maxHeartbeats 2000000 in
theorem look_b_c (O : Nat → Prop) (root ro : Nat) (E : Int → BV) (S : TrieS) (nb mb : List Int → Option Nat) (val : List Int → Option (Nat × Int)) (sk : Option Addr) (c : Nat) (p : List Int) (w : World) (hS : TrieOk S) (ht : TrieN 133 (encB E) w O root ro S nb mb val) (hl : p.length ≤ maxLen) (hk : IsInts w sk p.length (gl p)) (hkeys : ∀ x ∈ p, inKey x) :
    Calls Try.prog 101 #[.pointer (some ⟨root, ro, none⟩), .slice sk p.length c] w fun e w' => e = .returned (.tuple #[.agg (bvAt E S p).cells, .int .i64 ((lookS S p).2 : Nat)]) ∧ Below w.heap.size w w' := by
  unfold maxLen at hl
  have HT := Lib.hid ht
  have HK := Lib.hid hk
  have HKY := Lib.hid hkeys
  have HOK := Lib.hid hS
  clear ht hk hkeys hS
  go_enter Try.func101, Try.ntmps101
  go_wp2_with fail
  have hbw : Below w.heap.size w ((w.alloc (.cells #[.int .i64 0, .int .i64 0, .int .i64 0, .bool false, .slice none 0 0, .pointer none] 133)).alloc (.cells #[.int .i64 0, .int .i64 0, .int .i64 0, .bool false, .slice none 0 0, .pointer none] 133)) := ((Below.refl _ _).alloc (Nat.le_refl _) _).alloc (by simp) _
  have HB := Lib.hid hbw
  clear hbw
  go_loopg [0, 11] p.length (fun g tv iv wr => ∃ i b o : Nat, i + g = p.length ∧ tv = .pointer (some ⟨b, o, none⟩) ∧ iv = .int .i64 i ∧ nb (p.take i) = some b ∧ offR ro (p.take i) = o ∧ ((w.alloc (.cells #[.int .i64 0, .int .i64 0, .int .i64 0, .bool false, .slice none 0 0, .pointer none] 133)).alloc (.cells #[.int .i64 0, .int .i64 0, .int .i64 0, .bool false, .slice none 0 0, .pointer none] 133)) = wr)
  case atStart => exact ⟨0, root, ro, by omega, rfl, rfl, HT.out.gt.root, rfl, rfl⟩
  case round =>
    obtain ⟨i, b, o, hg, rfl, rfl, hb0, ho0, rfl⟩ := hrel
    have HN := Lib.hid hb0
    have HO := Lib.hid ho0
    clear hb0 ho0
    by_cases hlt : i < p.length
    · obtain ⟨bs, off, rfl, c0⟩ := HK.out.at HB.out hlt
      have hnd := HT.out.gt.node _ _ HN.out
      rw [HO.out] at hnd
      have c1 : ((w.alloc (.cells #[.int .i64 0, .int .i64 0, .int .i64 0, .bool false, .slice none 0 0, .pointer none] 133)).alloc (.cells #[.int .i64 0, .int .i64 0, .int .i64 0, .bool false, .slice none 0 0, .pointer none] 133)).cell? ⟨b, o + 1, none⟩ = some (.map (mb (p.take i))) := (HB.out.cell (p := ⟨b, o + 1, none⟩) hnd.lt).trans hnd.cells.2.1
      clear hnd
      have hkey : inKey (gl p i) := HKY.out _ (by unfold gl; rw [List.getD_eq_getElem?_getD, List.getElem?_eq_getElem hlt]; exact List.getElem_mem hlt)
      have hlook := HT.out.gt.lookup HB.out Try.underlying114 (zero_bound _) (p := p.take i) hkey
      rw [show p.take i ++ [gl p i] = p.take (i + 1) from by rw [take_next hlt]; unfold gl; rw [List.getD_eq_getElem?_getD, List.getElem?_eq_getElem hlt]; rfl] at hlook
      cases hnx : nb (p.take (i + 1)) with
      | none =>
        have hbad : lookS S p = (0, 2) := HT.out.look_bad (by
          obtain ⟨t, ht⟩ := List.take_prefix (i + 1) p
          rw [← ht]; exact HT.out.gt.up_any hnx t)
        rw [hnx] at hlook
        replace hlook : _ = Result.ok (Value.pointer none) _ := hlook
        have HE := Lib.hid hbad
        clear hnx hbad hkey
        go_wp2
        exact bodyPost_ret (v := .tuple #[.agg #[.int .i64 0, .int .i64 0, .int .i64 0, .bool false, .slice none 0 0, .pointer none], .int .i64 2]) (by simp [results, Try.results101, go_sem]) rfl ⟨by rw [bvAt, HE.out]; rfl, HB.out⟩
      | some b' =>
        rw [hnx] at hlook
        replace hlook : _ = Result.ok (Value.pointer (some ⟨b', 0, none⟩)) _ := hlook
        have HN2 := Lib.hid hnx
        have ho2 : offR ro (p.take (i + 1)) = 0 := by rw [take_next hlt, offR_snoc]
        have HO2 := Lib.hid ho2
        clear hnx hkey ho2
        go_wp2
        go_roundg (gk - 1)
        case measure => omega
        case rel => exact ⟨i + 1, b', 0, by omega, rfl, by go_num, HN2.out, HO2.out, rfl⟩
    · obtain rfl : i = p.length := by omega
      rw [List.take_length] at HN HO
      have hnd := HT.out.gt.node _ _ HN.out
      rw [HO.out] at hnd
      have c1 : ((w.alloc (.cells #[.int .i64 0, .int .i64 0, .int .i64 0, .bool false, .slice none 0 0, .pointer none] 133)).alloc (.cells #[.int .i64 0, .int .i64 0, .int .i64 0, .bool false, .slice none 0 0, .pointer none] 133)).cell? ⟨b, o + 1, none⟩ = some (.map (mb p)) := (HB.out.cell (p := ⟨b, o + 1, none⟩) hnd.lt).trans hnd.cells.2.1
      have c0 : ((w.alloc (.cells #[.int .i64 0, .int .i64 0, .int .i64 0, .bool false, .slice none 0 0, .pointer none] 133)).alloc (.cells #[.int .i64 0, .int .i64 0, .int .i64 0, .bool false, .slice none 0 0, .pointer none] 133)).cell? ⟨b, o, none⟩ = some (ptrO ((val p).map (·.1))) := (HB.out.cell (p := ⟨b, o, none⟩) hnd.lt).trans hnd.cells.1
      clear hnd
      cases hv : val p with
      | some x =>
        have hx := HT.out.gt.value p x hv
        have HE := Lib.hid (HT.out.look_done HOK.out hv)
        rw [hv] at c0
        replace c0 : ((w.alloc (.cells #[.int .i64 0, .int .i64 0, .int .i64 0, .bool false, .slice none 0 0, .pointer none] 133)).alloc (.cells #[.int .i64 0, .int .i64 0, .int .i64 0, .bool false, .slice none 0 0, .pointer none] 133)).cell? ⟨b, o, none⟩ = some (.pointer (some ⟨x.1, 0, none⟩)) := c0
        clear hv
        obtain ⟨xb, xv⟩ := x
        unfold encB at hx
        have hex : bvAt E S p = E xv := by rw [bvAt, HE.out]; rfl
        have HEX := Lib.hid hex
        clear hex
        generalize E xv = ev at hx HEX
        obtain ⟨v1, v2, v3, v4, v5, v6, v7, v8⟩ := ev
        have hxl := heap_lt hx
        have d0 := (HB.out.cell (p := ⟨xb, 0, none⟩) hxl).trans (block_cell hx)
        have d1 := (HB.out.cell (p := ⟨xb, 1, none⟩) hxl).trans (block_cell hx)
        have d2 := (HB.out.cell (p := ⟨xb, 2, none⟩) hxl).trans (block_cell hx)
        have d3 := (HB.out.cell (p := ⟨xb, 3, none⟩) hxl).trans (block_cell hx)
        have d4 := (HB.out.cell (p := ⟨xb, 4, none⟩) hxl).trans (block_cell hx)
        have d5 := (HB.out.cell (p := ⟨xb, 5, none⟩) hxl).trans (block_cell hx)
        replace d0 : ((w.alloc (.cells #[.int .i64 0, .int .i64 0, .int .i64 0, .bool false, .slice none 0 0, .pointer none] 133)).alloc (.cells #[.int .i64 0, .int .i64 0, .int .i64 0, .bool false, .slice none 0 0, .pointer none] 133)).cell? ⟨xb, 0, none⟩ = some (.int .i64 v1) := d0
        replace d1 : ((w.alloc (.cells #[.int .i64 0, .int .i64 0, .int .i64 0, .bool false, .slice none 0 0, .pointer none] 133)).alloc (.cells #[.int .i64 0, .int .i64 0, .int .i64 0, .bool false, .slice none 0 0, .pointer none] 133)).cell? ⟨xb, 1, none⟩ = some (.int .i64 v2) := d1
        replace d2 : ((w.alloc (.cells #[.int .i64 0, .int .i64 0, .int .i64 0, .bool false, .slice none 0 0, .pointer none] 133)).alloc (.cells #[.int .i64 0, .int .i64 0, .int .i64 0, .bool false, .slice none 0 0, .pointer none] 133)).cell? ⟨xb, 2, none⟩ = some (.int .i64 v3) := d2
        replace d3 : ((w.alloc (.cells #[.int .i64 0, .int .i64 0, .int .i64 0, .bool false, .slice none 0 0, .pointer none] 133)).alloc (.cells #[.int .i64 0, .int .i64 0, .int .i64 0, .bool false, .slice none 0 0, .pointer none] 133)).cell? ⟨xb, 3, none⟩ = some (.bool v4) := d3
        replace d4 : ((w.alloc (.cells #[.int .i64 0, .int .i64 0, .int .i64 0, .bool false, .slice none 0 0, .pointer none] 133)).alloc (.cells #[.int .i64 0, .int .i64 0, .int .i64 0, .bool false, .slice none 0 0, .pointer none] 133)).cell? ⟨xb, 4, none⟩ = some (.slice v5 v6 v7) := d4
        replace d5 : ((w.alloc (.cells #[.int .i64 0, .int .i64 0, .int .i64 0, .bool false, .slice none 0 0, .pointer none] 133)).alloc (.cells #[.int .i64 0, .int .i64 0, .int .i64 0, .bool false, .slice none 0 0, .pointer none] 133)).cell? ⟨xb, 5, none⟩ = some (.pointer v8) := d5
        clear hx
        go_wp2
        exact bodyPost_ret (v := .tuple #[.agg #[.int .i64 v1, .int .i64 v2, .int .i64 v3, .bool v4, .slice v5 v6 v7, .pointer v8], .int .i64 1]) (by simp [results, Try.results101, go_sem]) rfl ⟨by rw [HEX.out, HE.out]; rfl, ((Below.refl _ _).alloc (Nat.le_refl _) _).alloc (by simp) _⟩
      | none =>
        rw [hv] at c0
        replace c0 : ((w.alloc (.cells #[.int .i64 0, .int .i64 0, .int .i64 0, .bool false, .slice none 0 0, .pointer none] 133)).alloc (.cells #[.int .i64 0, .int .i64 0, .int .i64 0, .bool false, .slice none 0 0, .pointer none] 133)).cell? ⟨b, o, none⟩ = some (.pointer none) := c0
        obtain ⟨s, hlen, hs0, hs1⟩ := HT.out.gt.len HB.out Try.underlying114 p
        cases hm : mb p with
        | none =>
          obtain rfl := hs0 hm
          have HE := Lib.hid (HT.out.look_none hv hm)
          rw [hm] at hlen c1
          clear hv hm hs0 hs1
          go_wp2
          exact bodyPost_ret (v := .tuple #[.agg #[.int .i64 0, .int .i64 0, .int .i64 0, .bool false, .slice none 0 0, .pointer none], .int .i64 2]) (by simp [results, Try.results101, go_sem]) rfl ⟨by rw [bvAt, HE.out]; rfl, HB.out⟩
        | some m =>
          obtain ⟨he, k, b', hk, hb'⟩ := HT.out.look_more hv hm
          have hs := hs1 k b' hk (by rw [hm]; simp) hb'
          have HE := Lib.hid he
          rw [hm] at hlen c1
          clear hv hm hs0 hs1 he hb' hk
          have hs2 : (0 : Int) < (s : Int) := by omega
          go_wp2
          exact bodyPost_ret (v := .tuple #[.agg #[.int .i64 0, .int .i64 0, .int .i64 0, .bool false, .slice none 0 0, .pointer none], .int .i64 0]) (by simp [results, Try.results101, go_sem]) rfl ⟨by rw [bvAt, HE.out]; rfl, HB.out⟩
end Go.Proofs.Ytampjndfhpjheaa
