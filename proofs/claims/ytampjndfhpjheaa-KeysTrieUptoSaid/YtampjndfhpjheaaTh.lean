/- The program's Look of a trie of tags. Condition: lists of at most maxLen keys. -/
import Derived.Test.YtampjndfhpjheaaTg
namespace Go.Proofs.Ytampjndfhpjheaa
open Go.RowKit
theorem zero_tag (w : World) : (zeroValue 38).run Try.prog w = .ok (.pointer none) w := by kernel_rfl
set_option maxRecDepth 100000 in
set_option maxHeartbeats 2000000 in
theorem look_tag_c (O : Nat → Prop) (root : Nat) (S : TrieS) (nb mb : List Int → Option Nat) (val : List Int → Option (Nat × Int)) (sk : Option Addr) (c : Nat) (p : List Int) (w : World) (hS : TrieOk S) (ht : Trie 30 78 encT w O root S nb mb val) (hl : p.length ≤ maxLen) (hk : IsInts w sk p.length (gl p)) (hkeys : ∀ x ∈ p, inKey x) :
    Calls Try.prog 37 #[.pointer (some ⟨root, 0, none⟩), .slice sk p.length c] w fun e w' => e = .returned (.tuple #[.agg #[.int .i64 (lookS S p).1, .string (tagS (lookS S p).1)], .int .i64 ((lookS S p).2 : Nat)]) ∧ Below w.heap.size w w' := by
  unfold maxLen at hl
  have HT := Lib.hid ht
  have HK := Lib.hid hk
  have HKY := Lib.hid hkeys
  have HOK := Lib.hid hS
  clear ht hk hkeys hS
  go_enter Try.func37, Try.ntmps37
  go_wp2_with fail
  have hbw : Below w.heap.size w ((w.alloc (.cells #[.int .i64 0, .string ⟨#[]⟩] 78)).alloc (.cells #[.int .i64 0, .string ⟨#[]⟩] 78)) := ((Below.refl _ _).alloc (Nat.le_refl _) _).alloc (by simp) _
  have HB := Lib.hid hbw
  clear hbw
  go_loopg [0, 11] p.length (fun g tv iv wr => ∃ i b : Nat, i + g = p.length ∧ tv = .pointer (some ⟨b, 0, none⟩) ∧ iv = .int .i64 i ∧ nb (p.take i) = some b ∧ (w.alloc (.cells #[.int .i64 0, .string ⟨#[]⟩] 78)).alloc (.cells #[.int .i64 0, .string ⟨#[]⟩] 78) = wr)
  case atStart => exact ⟨0, root, by omega, rfl, rfl, HT.out.gt.root, rfl⟩
  case round =>
    obtain ⟨i, b, hg, rfl, rfl, hb0, rfl⟩ := hrel
    have HN := Lib.hid hb0
    clear hb0
    by_cases hlt : i < p.length
    · obtain ⟨bs, off, rfl, c0⟩ := HK.out.at HB.out hlt
      have hbl := HT.out.gt.node_lt HN.out
      have hnd := HT.out.gt.node _ _ HN.out
      have c1 : ((w.alloc (.cells #[.int .i64 0, .string ⟨#[]⟩] 78)).alloc (.cells #[.int .i64 0, .string ⟨#[]⟩] 78)).cell? ⟨b, 1, none⟩ = some (.map (mb (p.take i))) := (HB.out.cell (p := ⟨b, 1, none⟩) hbl).trans (block_cell hnd)
      clear hnd
      have hkey : inKey (gl p i) := HKY.out _ (by unfold gl; rw [List.getD_eq_getElem?_getD, List.getElem?_eq_getElem hlt]; exact List.getElem_mem hlt)
      have hlook := HT.out.gt.lookup HB.out Try.underlying28 (zero_tag _) (p := p.take i) hkey
      rw [show p.take i ++ [gl p i] = p.take (i + 1) from by rw [take_next hlt]; unfold gl; rw [List.getD_eq_getElem?_getD, List.getElem?_eq_getElem hlt]; rfl] at hlook
      cases hnx : nb (p.take (i + 1)) with
      | none =>
        have hbad : lookS S p = (0, 2) := HT.out.look_bad (by
          obtain ⟨t, ht⟩ := List.take_prefix (i + 1) p
          rw [← ht]; exact HT.out.gt.up_any hnx t)
        rw [hnx] at hlook
        replace hlook : _ = Result.ok (Value.pointer none) _ := hlook
        have HE := Lib.hid hbad
        clear hnx hbad hkey
        go_wp2
        exact bodyPost_ret (v := .tuple #[.agg (encT 0), .int .i64 2]) (by simp [results, Try.results37, go_sem, encT, tagS]) rfl ⟨by rw [HE.out]; rfl, HB.out⟩
      | some b' =>
        rw [hnx] at hlook
        replace hlook : _ = Result.ok (Value.pointer (some ⟨b', 0, none⟩)) _ := hlook
        have HN2 := Lib.hid hnx
        clear hnx hkey
        go_wp2
        go_roundg (gk - 1)
        case measure => omega
        case rel => exact ⟨i + 1, b', by omega, rfl, by go_num, HN2.out, rfl⟩
    · obtain rfl : i = p.length := by omega
      rw [List.take_length] at HN
      have hbl := HT.out.gt.node_lt HN.out
      have hnd := HT.out.gt.node _ _ HN.out
      have c1 : ((w.alloc (.cells #[.int .i64 0, .string ⟨#[]⟩] 78)).alloc (.cells #[.int .i64 0, .string ⟨#[]⟩] 78)).cell? ⟨b, 1, none⟩ = some (.map (mb p)) := (HB.out.cell (p := ⟨b, 1, none⟩) hbl).trans (block_cell hnd)
      have c0 : ((w.alloc (.cells #[.int .i64 0, .string ⟨#[]⟩] 78)).alloc (.cells #[.int .i64 0, .string ⟨#[]⟩] 78)).cell? ⟨b, 0, none⟩ = some (ptrO ((val p).map (·.1))) := (HB.out.cell (p := ⟨b, 0, none⟩) hbl).trans (block_cell hnd)
      clear hnd
      cases hv : val p with
      | some x =>
        have hx := HT.out.gt.value p x hv
        have c2 : ((w.alloc (.cells #[.int .i64 0, .string ⟨#[]⟩] 78)).alloc (.cells #[.int .i64 0, .string ⟨#[]⟩] 78)).cell? ⟨x.1, 0, none⟩ = some (.int .i64 x.2) := (HB.out.cell (p := ⟨x.1, 0, none⟩) (heap_lt hx)).trans (block_cell hx)
        have c3 : ((w.alloc (.cells #[.int .i64 0, .string ⟨#[]⟩] 78)).alloc (.cells #[.int .i64 0, .string ⟨#[]⟩] 78)).cell? ⟨x.1, 1, none⟩ = some (.string (tagS x.2)) := (HB.out.cell (p := ⟨x.1, 1, none⟩) (heap_lt hx)).trans (block_cell hx)
        rw [hv] at c0
        replace c0 : ((w.alloc (.cells #[.int .i64 0, .string ⟨#[]⟩] 78)).alloc (.cells #[.int .i64 0, .string ⟨#[]⟩] 78)).cell? ⟨b, 0, none⟩ = some (.pointer (some ⟨x.1, 0, none⟩)) := c0
        have HE := Lib.hid (HT.out.look_done HOK.out hv)
        clear hv hx
        obtain ⟨xb, xv⟩ := x
        go_wp2
        exact bodyPost_ret (v := .tuple #[.agg (encT xv), .int .i64 1]) (by simp [results, Try.results37, go_sem, encT, tagS]) rfl ⟨by rw [HE.out]; rfl, ((Below.refl _ _).alloc (Nat.le_refl _) _).alloc (by simp) _⟩
      | none =>
        rw [hv] at c0
        replace c0 : ((w.alloc (.cells #[.int .i64 0, .string ⟨#[]⟩] 78)).alloc (.cells #[.int .i64 0, .string ⟨#[]⟩] 78)).cell? ⟨b, 0, none⟩ = some (.pointer none) := c0
        obtain ⟨s, hlen, hs0, hs1⟩ := HT.out.gt.len HB.out Try.underlying28 p
        cases hm : mb p with
        | none =>
          obtain rfl := hs0 hm
          have HE := Lib.hid (HT.out.look_none hv hm)
          rw [hm] at hlen c1
          clear hv hm hs0 hs1
          go_wp2
          exact bodyPost_ret (v := .tuple #[.agg (encT 0), .int .i64 2]) (by simp [results, Try.results37, go_sem, encT, tagS]) rfl ⟨by rw [HE.out]; rfl, HB.out⟩
        | some m =>
          obtain ⟨he, k, b', hk, hb'⟩ := HT.out.look_more hv hm
          have hs := hs1 k b' hk (by rw [hm]; simp) hb'
          have HE := Lib.hid he
          rw [hm] at hlen c1
          clear hv hm hs0 hs1 he hb' hk
          have hs2 : (0 : Int) < (s : Int) := by omega
          go_wp2
          exact bodyPost_ret (v := .tuple #[.agg (encT 0), .int .i64 0]) (by simp [results, Try.results37, go_sem, encT, tagS]) rfl ⟨by rw [HE.out]; rfl, HB.out⟩
end Go.Proofs.Ytampjndfhpjheaa
