/- The program's Look of a trie of ints. Condition: lists of at most maxLen keys. -/
import Derived.Test.YtampjndfhpjheaaTf
import Derived.Deep.RegionHeld3
import Derived.Laws.BytesArg
namespace Go.Proofs.Ytampjndfhpjheaa
open Go.RowKit
def encI (v : Int) : Array Value := #[.int .i64 v]
/-- the name of a tag -/
def tagS (v : Int) : ByteArray := if v = 0 then ⟨#[]⟩ else strOfNums [v % 256, v / 256 % 256]
def encT (v : Int) : Array Value := #[.int .i64 v, .string (tagS v)]
theorem zero_int (w : World) : (zeroValue 37).run Try.prog w = .ok (.pointer none) w := by kernel_rfl
set_option maxRecDepth 100000 in
set_option maxHeartbeats 2000000 in
theorem look_int_c (O : Nat → Prop) (root : Nat) (S : TrieS) (nb mb : List Int → Option Nat) (val : List Int → Option (Nat × Int)) (sk : Option Addr) (c : Nat) (p : List Int) (w : World) (hS : TrieOk S) (ht : Trie 26 3 encI w O root S nb mb val) (hl : p.length ≤ maxLen) (hk : IsInts w sk p.length (gl p)) (hkeys : ∀ x ∈ p, inKey x) :
    Calls Try.prog 36 #[.pointer (some ⟨root, 0, none⟩), .slice sk p.length c] w fun e w' => e = .returned (.tuple #[.int .i64 (lookS S p).1, .int .i64 ((lookS S p).2 : Nat)]) ∧ Below w.heap.size w w' := by
  unfold maxLen at hl
  have HT := Lib.hid ht
  have HK := Lib.hid hk
  have HKY := Lib.hid hkeys
  have HOK := Lib.hid hS
  clear ht hk hkeys hS
  go_enter Try.func36, Try.ntmps36
  go_wp2_with fail
  go_loopg [0, 11] p.length (fun g tv iv wr => ∃ i b : Nat, i + g = p.length ∧ tv = .pointer (some ⟨b, 0, none⟩) ∧ iv = .int .i64 i ∧ nb (p.take i) = some b ∧ Below w.heap.size w wr)
  case atStart => exact ⟨0, root, by omega, rfl, rfl, HT.out.gt.root, Below.refl _ _⟩
  case round =>
    obtain ⟨i, b, hg, rfl, rfl, hb0, hb⟩ := hrel
    have HB := Lib.hid hb
    have HN := Lib.hid hb0
    clear hb hb0
    by_cases hlt : i < p.length
    · obtain ⟨bs, off, rfl, c0⟩ := HK.out.at HB.out hlt
      have hbl := HT.out.gt.node_lt HN.out
      have hnd := HT.out.gt.node _ _ HN.out
      have c1 : wr.cell? ⟨b, 1, none⟩ = some (.map (mb (p.take i))) := (HB.out.cell (p := ⟨b, 1, none⟩) hbl).trans (block_cell hnd)
      clear hnd
      have hkey : inKey (gl p i) := HKY.out _ (by unfold gl; rw [List.getD_eq_getElem?_getD, List.getElem?_eq_getElem hlt]; exact List.getElem_mem hlt)
      have hlook := HT.out.gt.lookup HB.out Try.underlying24 (zero_int _) (p := p.take i) hkey
      rw [show p.take i ++ [gl p i] = p.take (i + 1) from by rw [take_next hlt]; unfold gl; rw [List.getD_eq_getElem?_getD, List.getElem?_eq_getElem hlt]; rfl] at hlook
      cases hnx : nb (p.take (i + 1)) with
      | none =>
        have hbad : lookS S p = (0, 2) := HT.out.look_bad (by
          obtain ⟨t, ht⟩ := List.take_prefix (i + 1) p
          rw [← ht]; exact HT.out.gt.up_any hnx t)
        rw [hnx] at hlook
        replace hlook : _ = Result.ok (Value.pointer none) wr := hlook
        have HE := Lib.hid hbad
        clear hnx hbad hkey
        go_wp2
        go_ret2
        exact ⟨by rw [HE.out]; rfl, HB.out⟩
      | some b' =>
        rw [hnx] at hlook
        replace hlook : _ = Result.ok (Value.pointer (some ⟨b', 0, none⟩)) wr := hlook
        have HN2 := Lib.hid hnx
        clear hnx hkey
        go_wp2
        go_roundg (gk - 1)
        case measure => omega
        case rel => exact ⟨i + 1, b', by omega, rfl, by go_num, HN2.out, HB.out⟩
    · obtain rfl : i = p.length := by omega
      rw [List.take_length] at HN
      have hbl := HT.out.gt.node_lt HN.out
      have hnd := HT.out.gt.node _ _ HN.out
      have c1 : wr.cell? ⟨b, 1, none⟩ = some (.map (mb p)) := (HB.out.cell (p := ⟨b, 1, none⟩) hbl).trans (block_cell hnd)
      have c0 : wr.cell? ⟨b, 0, none⟩ = some (ptrO ((val p).map (·.1))) := (HB.out.cell (p := ⟨b, 0, none⟩) hbl).trans (block_cell hnd)
      clear hnd
      cases hv : val p with
      | some x =>
        have hx := HT.out.gt.value p x hv
        have c2 : wr.cell? ⟨x.1, 0, none⟩ = some (.int .i64 x.2) := (HB.out.cell (p := ⟨x.1, 0, none⟩) (heap_lt hx)).trans (block_cell hx)
        rw [hv] at c0
        replace c0 : wr.cell? ⟨b, 0, none⟩ = some (.pointer (some ⟨x.1, 0, none⟩)) := c0
        have HE := Lib.hid (HT.out.look_done HOK.out hv)
        clear hv hx
        obtain ⟨xb, xv⟩ := x
        go_wp2
        go_ret2
        exact ⟨by rw [HE.out]; rfl, HB.out⟩
      | none =>
        rw [hv] at c0
        replace c0 : wr.cell? ⟨b, 0, none⟩ = some (.pointer none) := c0
        obtain ⟨s, hlen, hs0, hs1⟩ := HT.out.gt.len HB.out Try.underlying24 p
        cases hm : mb p with
        | none =>
          obtain rfl := hs0 hm
          have HE := Lib.hid (HT.out.look_none hv hm)
          rw [hm] at hlen c1
          clear hv hm hs0 hs1
          go_wp2
          go_ret2
          exact ⟨by rw [HE.out]; rfl, HB.out⟩
        | some m =>
          obtain ⟨he, k, b', hk, hb'⟩ := HT.out.look_more hv hm
          have hs := hs1 k b' hk (by rw [hm]; simp) hb'
          have HE := Lib.hid he
          rw [hm] at hlen c1
          clear hv hm hs0 hs1 he hb' hk
          have hs2 : (0 : Int) < (s : Int) := by omega
          go_wp2
          go_ret2
          exact ⟨by rw [HE.out]; rfl, HB.out⟩
end Go.Proofs.Ytampjndfhpjheaa
