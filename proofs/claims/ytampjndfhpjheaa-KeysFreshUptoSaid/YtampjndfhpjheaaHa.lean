/- Appends onto a list of the call's own, and what they leave of other slices of the same room. Contract: grown. Condition: lists of fewer than 2^30. -/
import Derived.Test.YtampjndfhpjheaaTa
import Derived.Test.YtampjndfhpjheaaTe
namespace Go.Proofs.Ytampjndfhpjheaa
open Go.RowKit
set_option linter.unusedVariables false
set_option linter.unusedSimpArgs false
/-- slices stay slices of ints; those no longer than j stay as they were -/
def KeepS (w w' : World) (j : Nat) : Prop := ∀ (base : Nat) (u : Value) (lu : List Int), OwnInts w base u lu → ∃ lu', lu'.length = lu.length ∧ OwnInts w' base u lu' ∧ (lu.length ≤ j → lu' = lu)
theorem KeepS.of {w w' : World} (hb : Below w.heap.size w w') (j : Nat) : KeepS w w' j := fun base u lu h => ⟨lu, rfl, h.later hb, fun _ => rfl⟩
theorem KeepS.trans {a b c : World} {j k : Nat} (h : KeepS a b j) (g : KeepS b c k) : KeepS a c (min j k) := fun base u lu hu => by
  obtain ⟨l1, e1, h1, k1⟩ := h base u lu hu
  obtain ⟨l2, e2, h2, k2⟩ := g base u l1 h1
  exact ⟨l2, e2.trans e1, h2, fun hl => (k2 (by omega)).trans (k1 (by omega))⟩
theorem KeepS.less {a b : World} {j k : Nat} (h : KeepS a b j) (hk : k ≤ j) : KeepS a b k := fun base u lu hu => by
  obtain ⟨l1, e1, h1, k1⟩ := h base u lu hu
  exact ⟨l1, e1, h1, fun hl => k1 (by omega)⟩
theorem own_row_set {w w' : World} {base g m cap j : Nat} {k : Int} {cs cs' : Array Value} {lu : List Int} (h : OwnInts w base (.slice (some ⟨g, 0, none⟩) m cap) lu) (h1 : w.heap[g]? = some (.cells cs 3 (0, 0))) (h2 : w'.heap[g]? = some (.cells cs' 3 (0, 0))) (hz : cs'.size = cs.size)
    (hj : ∀ i, cs'[i]? = if i = j then some (.int .i64 k) else cs[i]?) : OwnInts w' base (.slice (some ⟨g, 0, none⟩) m cap) (lu.set j k) := by
  refine ⟨by rw [List.length_map, List.length_set, Nat.mul_one], ?_⟩
  rcases h.2 with ⟨h3, _⟩ | ⟨g', cap', cur, h3, hb, hg, hn, hc, hs, ht⟩
  · cases h3
  · injection h3 with h4 h5 h6
    injection h4 with h4
    injection h4 with h4
    subst h4 h6
    rw [h1] at hg
    injection hg with hg
    injection hg with hg
    subst hg
    refine .inr ⟨g, cap, cs', by rw [List.length_set, h5], hb, h2, by rw [List.length_set]; exact hn, hc, hz.trans hs, ?_⟩
    rw [List.length_set]
    apply List.ext_getElem?
    intro i
    rw [List.getElem?_take]
    have h7 : (lu.map (Value.int .i64))[i]? = (cs.toList.take (lu.length * 1))[i]? := by rw [ht]
    rw [List.getElem?_take] at h7
    rw [List.getElem?_map, List.getElem?_set]
    rw [List.getElem?_map] at h7
    by_cases hi : i < lu.length * 1
    · rw [if_pos hi] at h7 ⊢
      rw [Array.getElem?_toList, hj i]
      by_cases e : j = i
      · subst e
        rw [if_pos rfl, if_pos rfl, if_pos (by omega)]; rfl
      · rw [if_neg (fun h => e h.symm), if_neg e, h7, Array.getElem?_toList]
    · rw [if_neg hi] at h7 ⊢
      by_cases e : j = i
      · subst e
        rw [if_pos rfl, if_neg (by omega)]; rfl
      · rw [if_neg e, h7]
theorem wpList_push4 {w : World} {ops : Array Oper} {rest : List Oper} {o : Oper} {a : Act} {Q : Exit → Act → World → Prop} (k : Int) (hgd : o.guard = none) (s x : Operand)
    (ho : o.op = .call { callee := .builtin .append, args := #[s, x], argTypes := #[33, 33] })
    (sl : Option Addr) (j c : Nat) (l : List Int) (hs : a.eval s = .slice sl j c) (hx : a.eval x = .slice (some ⟨w.heap.size, 0, none⟩) 1 1) (hown : OwnInts w 0 (.slice sl j c) l) (hj : j < 4294967296)
    (h : ∀ s' c' w', OwnInts w' 0 (.slice s' (j + 1) c') (l ++ [k]) → w.grownBy w' (Value.slice sl j c).ownBlock → ((Value.slice s' (j + 1) c').ownBlock = (Value.slice sl j c).ownBlock ∨ ∃ b, (Value.slice s' (j + 1) c').ownBlock = some b ∧ w.heap.size ≤ b) → KeepS w w' j → wpList Try.prog ops Q rest (a.put o.dst (.slice s' (j + 1) c')) w') :
    wpList Try.prog ops Q (o :: rest) a (w.alloc (.cells #[.int .i64 k] 3)) := by
  obtain rfl := hown.len
  obtain ⟨i0, hi, hz0, hz1, hz2⟩ := info_parts Try.infoInt
  have hown1 := hown.alloc (.cells #[.int .i64 k] 3)
  refine wpList_plain hgd fun K hK => ?_
  obtain ⟨v', w', hr, h2, h3, h4, h5⟩ := run_append_own_at (P := Try.prog) (w.alloc (.cells #[.int .i64 k] 3)) 0 33 o.type 3 i0 (.int .i64 0) 1 8 Try.underlying33 hi hz0 hz1 hz2 rfl (by decide) _ l.length _ hown1 ⟨w.heap.size, 0, none⟩ 1 1 [.int .i64 k] rfl (cell_one_new _ _ _) (ints_oneCell _ [k]) (by unfold maxLen; omega) (by omega) (by first | (simp; done) | (simp; omega))
  have hO : OwnInts w' 0 v' (l ++ [k]) := by
    unfold OwnInts
    rw [List.map_append, List.length_append]
    exact h2
  have hg : w.grownBy w' (Value.slice sl l.length c).ownBlock := World.grownBy.trans (World.grownBy_alloc w _ _) h3
  have hk : KeepS w w' l.length := by
    intro base u lu hu
    by_cases hne : u.ownBlock = none ∨ u.ownBlock ≠ (Value.slice sl l.length c).ownBlock
    · exact ⟨lu, rfl, hu.kept (fun b hb he => hg.block b hb (fun e => by rcases hne with h | h; rw [h] at he; cases he; exact h (he.trans e))), fun _ => rfl⟩
    · have hub : u.ownBlock ≠ none := fun e => hne (.inl e)
      have hue : u.ownBlock = (Value.slice sl l.length c).ownBlock := Classical.byContradiction fun e => hne (.inr e)
      rcases hown.2 with ⟨h6, _⟩ | ⟨g, cap, cur, h6, _, hgg, hnc, hcm, hcs, htk⟩
      · rw [h6] at hue; exact absurd hue hub
      · injection h6 with h7 h8 h9
        subst h7 h9
        have hue' : u.ownBlock = some g := hue
        obtain ⟨m, capu, rfl⟩ : ∃ m capu, u = .slice (some ⟨g, 0, none⟩) m capu := by
          rcases hu.2 with ⟨e, _⟩ | ⟨g2, c2, _, e, _⟩
          · rw [e] at hue'; cases hue'
          · rw [e] at hue'
            injection hue' with e2
            have e2 : g2 = g := e2
            subst e2
            exact ⟨_, _, e⟩
        have hgg1 : (w.alloc (.cells #[.int .i64 k] 3)).heap[g]? = some (.cells cur 3 (0, 0)) := (Below.heap_alloc w _ g (heap_lt hgg)).trans hgg
        by_cases hroom : l.length + 1 ≤ c
        · have hr2 := run_append_room (P := Try.prog) (w.alloc (.cells #[.int .i64 k] 3)) 33 o.type 3 i0 Try.underlying33 hi g l.length c cur hgg1 ⟨w.heap.size, 0, none⟩ 1 1 [.int .i64 k] (by rw [hz1]; rfl) (cell_one_new _ _ _) (ints_oneCell _ [k]) hroom (by rw [hz1]; simp; omega)
          rw [hr] at hr2
          injection hr2 with e1 e2
          subst e1 e2
          refine ⟨lu.set l.length k, List.length_set, own_row_set (hu.alloc _) hgg1 (setRow_heap _ g cur _ 3 _ hgg1) ?_ (fun i => ?_), fun hl => List.set_eq_of_length_le hl⟩
          · rw [hz1]
            simp only [List.size_toArray, List.length_append, List.length_take, List.length_drop, Array.length_toList, List.length_cons, List.length_nil]
            omega
          · rw [hz1, List.getElem?_toArray, Nat.mul_one]
            by_cases h6 : i < l.length
            · rw [if_neg (by omega), List.append_assoc, List.getElem?_append_left (by simp; omega), List.getElem?_take, if_pos h6]
              simp
            · by_cases h7 : i = l.length
              · subst h7
                rw [if_pos rfl, List.append_assoc, List.getElem?_append_right (by simp; omega)]
                simp [Nat.min_eq_left (show l.length ≤ cur.size by omega)]
              · rw [if_neg h7, List.getElem?_append_right (by simp; omega), List.getElem?_drop]
                simp only [List.length_append, List.length_take, Array.length_toList, List.length_cons, List.length_nil]
                rw [show l.length + (0 + 1) + (i - (min l.length cur.size + (0 + 1))) = i from by omega]
                simp
        · have holds : ∀ j u, (l.map (Value.int .i64))[j]? = some u → (w.alloc (.cells #[.int .i64 k] 3)).cell? ((⟨g, 0, none⟩ : Addr).add j) = some u := World.ownsRow.cells (g := g) hown1 rfl
          have hr2 := run_append_grow (P := Try.prog) (w.alloc (.cells #[.int .i64 k] 3)) 33 o.type 3 i0 (.int .i64 0) Try.underlying33 hi hz0 ⟨g, 0, none⟩ l.length c (l.map (Value.int .i64)) (by rw [hz1]; exact hown1.1) holds ⟨w.heap.size, 0, none⟩ 1 1 [.int .i64 k] (by rw [hz1]; rfl) (cell_one_new _ _ _) (by omega) (by omega) (by rw [hz2]; exact growslice_fits (by omega) (by omega))
          rw [hr] at hr2
          injection hr2 with e1 e2
          subst e1 e2
          refine ⟨lu, rfl, OwnInts.kept (show OwnInts (w.alloc (.cells #[.int .i64 k] 3)) base (.slice (some ⟨g, 0, none⟩) m capu) lu from hu.alloc _) (fun b hb he => ?_), fun _ => rfl⟩
          exact Below.heap_alloc _ _ b hb
  obtain ⟨s', n2, c', rfl, hn2⟩ : ∃ s' n2 c', v' = .slice s' n2 c' ∧ n2 = l.length + 1 := by
    obtain ⟨s', n2, c', e, hn, _⟩ := hO.shape
    exact ⟨s', n2, c', e, by rw [hn]; simp⟩
  subst hn2
  unfold Oper.wp execOp
  simp only [ho, resolve, invoke, builtin, Sem.run_bind, Sem.run_pure, Result.andThen_ok, List.map_toArray, List.map_cons, List.map_nil, hs, hx, hr]
  refine hK _ _ (h s' c' w' hO hg ?_ hk)
  rcases h5 with e | e
  · exact .inl e
  · exact .inr ⟨_, e, by simp⟩
/-- 100 times one int more -/
def Grew (w w' : World) (v v' : Value) (n : Nat) : Prop := Touch (fun b => v.ownBlock = some b) w w' ∧ (∀ b, v'.ownBlock = some b → v.ownBlock = some b ∨ w.heap.size ≤ b) ∧ KeepS w w' n
set_option maxRecDepth 100000 in
set_option maxHeartbeats 4000000 in
theorem grown_c (s : Option Addr) (n c : Nat) (l : List Int) (m : Int) (w : World) (hown : OwnInts w 0 (.slice s n c) l) (hn : n < 1073741824) :
    Calls Try.prog 30 #[.slice s n c, .int .i64 m] w fun e w' => ∃ s' c', e = .returned (.slice s' (n + 100) c') ∧ OwnInts w' 0 (.slice s' (n + 100) c') (l ++ List.replicate 100 m) ∧ Grew w w' (.slice s n c) (.slice s' (n + 100) c') n := by
  have HW := Lib.hid hown
  have hln := hown.len
  have HLN := Lib.hid hln
  clear hown hln
  go_enter Try.func30, Try.ntmps30
  go_wp2_with fail
  go_loopg [0, 5] 100 (fun g v iv wr => ∃ (k : Nat) (sl : Option Addr) (cl : Nat), k + g = 100 ∧ v = .slice sl (n + k : Nat) cl ∧ iv = .int .i64 k ∧ OwnInts wr 0 (.slice sl (n + k) cl) (l ++ List.replicate k m) ∧ Grew w wr (.slice s n c) (.slice sl (n + k) cl) n)
  case atStart => exact ⟨0, s, c, by omega, rfl, rfl, by simpa using HW.out, Touch.refl _ _, fun b hb => .inl hb, KeepS.of (Below.refl _ _) n⟩
  case round =>
    obtain ⟨k, sl, cl, hk, rfl, rfl, ho1, hg⟩ := hrel
    have HO := Lib.hid ho1
    have HG := Lib.hid hg
    clear ho1 hg
    by_cases hlt : k < 100
    · have q1 : (k : Int) < 100 := by omega
      go_wp2_with (first | (at_builtin; refine wpList_push4 _ rfl _ _ rfl sl (n + k) cl _ rfl rfl HO.out (by omega) ?_; intro s2 c2 w2 ho2 hg2 ha2 hk2; have HO2 := Lib.hid ho2; have HG2 := Lib.hid hg2; have HA2 := Lib.hid ha2; have HK2 := Lib.hid hk2; clear ho2 hg2 ha2 hk2))
      go_roundg (gk - 1)
      case measure => omega
      case rel =>
        refine ⟨k + 1, s2, c2, by omega, rfl, by go_num, ?_, ?_, ?_, ?_⟩
        · have h := HO2.out
          rw [List.append_assoc, ← List.replicate_succ'] at h
          exact h
        · exact HG.out.1.trans (Touch.grown (O := fun b => (Value.slice sl (n + k) cl).ownBlock = some b) HG2.out (fun b hb => hb)) (fun b hb => HG.out.2.1 b hb)
        · intro b hb
          rcases HA2.out with e | ⟨b', e, he⟩
          · exact HG.out.2.1 b (e ▸ hb)
          · have h3 : some b' = some b := e.symm.trans hb
            injection h3 with h3
            have := HG.out.1.size
            exact .inr (by omega)
        · exact (HG.out.2.2.trans HK2.out).less (by omega)
    · obtain rfl : k = 100 := by omega
      go_wp2
      go_ret
      exact ⟨sl, cl, rfl, HO.out, HG.out⟩
end Go.Proofs.Ytampjndfhpjheaa
