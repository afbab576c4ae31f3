/- The walk of the law KeysTrie. Condition: a script of at most 2^20 steps, rows of fewer than 2^30 keys. -/
import Derived.Test.YtampjndfhpjheaaTp
namespace Go.Proofs.Ytampjndfhpjheaa
open Go.RowKit
/-- an element of a script: cells of a Look -/
def IsLook (W : World) (b o : Nat) (put : Bool) (who v : Int) (s : Option Addr) (n c : Nat) : Prop :=
  W.cell? ⟨b, o, none⟩ = some (.bool put) ∧ W.cell? ⟨b, o + 1, none⟩ = some (.int .i64 who) ∧ W.cell? ⟨b, o + 2, none⟩ = some (.int .i64 v) ∧ W.cell? ⟨b, o + 3, none⟩ = some (.slice s n c)
def IsLooks (W : World) (s : Option Addr) (len : Nat) (P : Nat → Bool) (A V : Nat → Int) (S : Nat → Option Addr) (N C : Nat → Nat) : Prop :=
  len = 0 ∨ ∃ b off, s = some ⟨b, off, none⟩ ∧ b < W.heap.size ∧ ∀ i, i < len → IsLook W b (off + i * 4) (P i) (A i) (V i) (S i) (N i) (C i)
def LooksOk (W : World) (len : Nat) (S : Nat → Option Addr) (N C : Nat → Nat) (K : Nat → List Int) : Prop :=
  ∀ i, i < len → (K i).length = N i ∧ N i < 1073741824 ∧ IsInts W (S i) (N i) (gl (K i)) ∧ (S i = none → N i = 0 ∧ C i = 0) ∧ (∀ x ∈ K i, inKey x) ∧ (0 < N i → ∀ a, S i = some a → a.block < W.heap.size)
theorem push6 {α : Type} (h : Array α) (a b c d e f : α) : ((((((h.push a).push b).push c).push d).push e).push f)[h.size]? = some a ∧ ((((((h.push a).push b).push c).push d).push e).push f)[h.size + 1]? = some b ∧ ((((((h.push a).push b).push c).push d).push e).push f)[h.size + 2]? = some c ∧ ((((((h.push a).push b).push c).push d).push e).push f)[h.size + 3]? = some d ∧ ((((((h.push a).push b).push c).push d).push e).push f)[h.size + 4]? = some e ∧ ((((((h.push a).push b).push c).push d).push e).push f)[h.size + 5]? = some f := by
  have z : ∀ i, i < 6 → ((((((h.push a).push b).push c).push d).push e).push f)[h.size + i]? = [a, b, c, d, e, f][i]? := by
    intro i hi
    have e1 : ((((((h.push a).push b).push c).push d).push e).push f) = h ++ #[a, b, c, d, e, f] := by apply Array.ext'; simp
    rw [e1, Array.getElem?_append_right (by omega)]
    simp
  exact ⟨z 0 (by omega), z 1 (by omega), z 2 (by omega), z 3 (by omega), z 4 (by omega), z 5 (by omega)⟩
theorem two_start (w : World) : Two w.heap.size w w.heap.size (w.heap.size + 2) (w.heap.size + 4) (w.heap.size + 1) (w.heap.size + 3) (w.heap.size + 5) 0
    ((((((w.alloc (.cells #[.pointer none, .map none] 26)).alloc (.cells #[.pointer none, .map none] 26)).alloc (.cells #[.pointer none, .map none] 30)).alloc (.cells #[.pointer none, .map none] 30)).alloc (.cells #[.slice none 0 0, .slice none 0 0] 35)).alloc (.cells #[.slice none 0 0, .slice none 0 0] 35)) ∧
    ((((((w.alloc (.cells #[.pointer none, .map none] 26)).alloc (.cells #[.pointer none, .map none] 26)).alloc (.cells #[.pointer none, .map none] 30)).alloc (.cells #[.pointer none, .map none] 30)).alloc (.cells #[.slice none 0 0, .slice none 0 0] 35)).alloc (.cells #[.slice none 0 0, .slice none 0 0] 35)).heap.size = w.heap.size + 6 := by
  have hb : ∀ (a b c d e f : Obj), Below w.heap.size w ((((((w.alloc a).alloc b).alloc c).alloc d).alloc e).alloc f) := fun a b c d e f =>
    ((((((Below.refl _ _).alloc (Nat.le_refl _) a).alloc (by simp) b).alloc (by simp; omega) c).alloc (by simp; omega) d).alloc (by simp; omega) e).alloc (by simp; omega) f
  have hz : ∀ (a b c d e f : Obj), ((((((w.alloc a).alloc b).alloc c).alloc d).alloc e).alloc f).heap.size = w.heap.size + 6 := fun a b c d e f => by simp
  have hg : ∀ (a b c d e f : Obj), (((((((w.alloc a).alloc b).alloc c).alloc d).alloc e).alloc f).heap[w.heap.size]? = some a) ∧ (((((((w.alloc a).alloc b).alloc c).alloc d).alloc e).alloc f).heap[w.heap.size + 1]? = some b) ∧ (((((((w.alloc a).alloc b).alloc c).alloc d).alloc e).alloc f).heap[w.heap.size + 2]? = some c) ∧ (((((((w.alloc a).alloc b).alloc c).alloc d).alloc e).alloc f).heap[w.heap.size + 3]? = some d) ∧ (((((((w.alloc a).alloc b).alloc c).alloc d).alloc e).alloc f).heap[w.heap.size + 4]? = some e) ∧ (((((((w.alloc a).alloc b).alloc c).alloc d).alloc e).alloc f).heap[w.heap.size + 5]? = some f) := fun a b c d e f => by
    exact push6 w.heap a b c d e f
  obtain ⟨g0, g1, g2, g3, g4, g5⟩ := hg (.cells #[.pointer none, .map none] 26) (.cells #[.pointer none, .map none] 26) (.cells #[.pointer none, .map none] 30) (.cells #[.pointer none, .map none] 30) (.cells #[.slice none 0 0, .slice none 0 0] 35) (.cells #[.slice none 0 0, .slice none 0 0] 35)
  refine ⟨⟨hb _ _ _ _ _ _, by rw [hz]; omega, _, _, [], [], Side.empty g0 g2 g4 (by omega) (by omega) (by omega), Side.empty g1 g3 g5 (by omega) (by omega) (by omega), ?_, ?_, ?_, Nat.le_refl _, Nat.le_refl _, (fun x hx => by cases hx), (fun x hx => by cases hx)⟩, hz _ _ _ _ _ _⟩
  · rintro b h k; omega
  · rintro b h; omega
  · rintro b h; omega
set_option maxRecDepth 100000 in
set_option maxHeartbeats 4000000 in
theorem keystrie_c (s : Option Addr) (len cap : Nat) (P : Nat → Bool) (A V : Nat → Int) (S : Nat → Option Addr) (N C : Nat → Nat) (K : Nat → List Int) (w : World) (hl : len ≤ 1048576) (hs : IsLooks w s len P A V S N C) (hok : LooksOk w len S N C K) :
    Calls Try.prog 3 #[.slice s len cap] w fun e w' => e = .returned (.bool true) ∧ Below w.heap.size w w' := by
  have HS := Lib.hid hs
  have HOK := Lib.hid hok
  clear hs hok
  go_enter Try.func3, Try.ntmps3
  go_wp2_with fail
  obtain ⟨hst, hz6⟩ := two_start w
  generalize ((((((w.alloc (.cells #[.pointer none, .map none] 26)).alloc (.cells #[.pointer none, .map none] 26)).alloc (.cells #[.pointer none, .map none] 30)).alloc (.cells #[.pointer none, .map none] 30)).alloc (.cells #[.slice none 0 0, .slice none 0 0] 35)).alloc (.cells #[.slice none 0 0, .slice none 0 0] 35)) = w6 at hst hz6 ⊢
  have hk6 : IsInts (w6.alloc (.cells #[.int .i64 103, .int .i64 103] 3)) (some ⟨w.heap.size + 1 + 1 + 1 + 1 + 1 + 1, 0, none⟩) 2 (gl [103, 103]) := by
    have h1 := one_new w6 (.cells #[.int .i64 103, .int .i64 103] 3)
    rw [hz6] at h1
    refine .inr ⟨_, 0, rfl, by simp; omega, fun i hi => ?_⟩
    rw [block_cell h1]
    have : i = 0 ∨ i = 1 := by omega
    rcases this with rfl | rfl <;> rfl
  have hkey : ∀ l : List Int, (∀ x ∈ l, x = 103) → ∀ x ∈ l, inKey x := fun l h x hx => by rw [h x hx]; unfold inKey; decide
  have HKEY := Lib.hid hkey
  have HZ6 := Lib.hid hz6
  clear hkey hz6
  refine (two_c hst (below_new2 w6 (.cells #[.int .i64 103, .int .i64 103] 3)) true 0 7 (some ⟨w.heap.size + 1 + 1 + 1 + 1 + 1 + 1, 0, none⟩) 2 2 [103, 103] rfl (by omega) (by omega) hk6 (fun h => by cases h) (HKEY.out _ (by simp)) (fun _ a ha => .inr (by injection ha with ha; subst ha; have := HZ6.out; show w6.heap.size ≤ w.heap.size + 1 + 1 + 1 + 1 + 1 + 1; omega))).mono ?_
  rintro e w7 ⟨rfl, ht⟩
  have HT := Lib.hid ht
  clear ht hk6 hst HZ6
  go_wp2_with fail
  have hk7 : IsInts (w7.alloc (.cells #[.int .i64 103, .int .i64 103] 3)) (some ⟨w7.heap.size, 0, none⟩) 2 (gl [103, 103]) := by
    refine .inr ⟨_, 0, rfl, by simp, fun i hi => ?_⟩
    rw [block_cell (one_new w7 (.cells #[.int .i64 103, .int .i64 103] 3))]
    have : i = 0 ∨ i = 1 := by omega
    rcases this with rfl | rfl <;> rfl
  refine (two_c HT.out (below_new2 w7 (.cells #[.int .i64 103, .int .i64 103] 3)) false 0 0 (some ⟨w7.heap.size, 0, none⟩) 2 2 [103, 103] rfl (by omega) (by omega) hk7 (fun h => by cases h) (HKEY.out _ (by simp)) (fun _ a ha => .inr (by injection ha with ha; subst ha; exact Nat.le_refl _))).mono ?_
  rintro e w8 ⟨rfl, ht⟩
  replace HT := Lib.hid ht.swap
  clear ht hk7
  go_wp2_with fail
  have hk8 : IsInts (w8.alloc (.cells #[.int .i64 103] 3)) (some ⟨w8.heap.size, 0, none⟩) 1 (gl [103]) := by
    refine .inr ⟨_, 0, rfl, by simp, fun i hi => ?_⟩
    rw [block_cell (one_new w8 (.cells #[.int .i64 103] 3))]
    have : i = 0 := by omega
    rcases this with rfl; rfl
  refine (two_c HT.out (below_new2 w8 (.cells #[.int .i64 103] 3)) false 0 0 (some ⟨w8.heap.size, 0, none⟩) 1 1 [103] rfl (by omega) (by omega) hk8 (fun h => by cases h) (HKEY.out _ (by simp)) (fun _ a ha => .inr (by injection ha with ha; subst ha; exact Nat.le_refl _))).mono ?_
  rintro e w9 ⟨rfl, ht⟩
  replace HT := Lib.hid ht.swap
  clear ht hk8 HKEY
  go_wp2_with fail
  go_loopg [9, 10] len (fun g ov iv wr => ∃ i : Nat, i + g = len ∧ ov = .bool true ∧ iv = .int .i64 i ∧ Two w.heap.size w w.heap.size (w.heap.size + 2) (w.heap.size + 4) (w.heap.size + 1) (w.heap.size + 3) (w.heap.size + 5) (3 + i) wr)
  case atStart => exact ⟨0, by omega, rfl, rfl, HT.out⟩
  case round =>
    clear HT
    obtain ⟨i, hg, rfl, rfl, ht⟩ := hrel
    have HT := Lib.hid ht
    clear ht
    by_cases hlt : i < len
    · rcases HS.out with h0 | ⟨b, off, rfl, hbl, hlk⟩
      · exfalso; omega
      · obtain ⟨d0, d1, d2, d3⟩ := hlk i hlt
        obtain ⟨k1, k2, k3, k4, k5, k6⟩ := HOK.out i hlt
        have hB := HT.out.1
        have c0 := (hB.cell (p := ⟨b, off + i * 4, none⟩) hbl).trans d0
        have c1 := (hB.cell (p := ⟨b, off + i * 4 + 1, none⟩) hbl).trans d1
        have c2 := (hB.cell (p := ⟨b, off + i * 4 + 2, none⟩) hbl).trans d2
        have c3 := (hB.cell (p := ⟨b, off + i * 4 + 3, none⟩) hbl).trans d3
        have HI := Lib.hid (k3.later hB)
        have K1 := Lib.hid k1
        have K4 := Lib.hid k4
        have K5 := Lib.hid k5
        have K6 := Lib.hid k6
        clear d0 d1 d2 d3 k1 k3 k4 k5 k6 hB hlk
        generalize P i = Pi at *
        generalize A i = Ai at *
        generalize V i = Vi at *
        generalize S i = Si at *
        generalize N i = Ni at *
        generalize C i = Ci at *
        generalize K i = Ki at *
        go_wp2_with fail
        · refine (two_c HT.out (Below.refl _ _) Pi Ai Vi Si Ci Ni Ki K1.out (by omega) k2 HI.out K4.out K5.out (fun h0 a ha => .inl (K6.out h0 a ha))).mono ?_
          rintro e w2 ⟨rfl, ht2⟩
          have HT2 := Lib.hid ht2
          clear ht2
          go_wp2
          go_roundg (gk - 1)
          case measure => omega
          case rel => exact ⟨i + 1, by omega, rfl, by go_num, HT2.out⟩
        · refine (two_c HT.out.swap (Below.refl _ _) Pi Ai Vi Si Ci Ni Ki K1.out (by omega) k2 HI.out K4.out K5.out (fun h0 a ha => .inl (K6.out h0 a ha))).mono ?_
          rintro e w2 ⟨rfl, ht2⟩
          have HT2 := Lib.hid ht2.swap
          clear ht2
          go_wp2
          go_roundg (gk - 1)
          case measure => omega
          case rel => exact ⟨i + 1, by omega, rfl, by go_num, HT2.out⟩
    · go_wp2
      go_ret
      exact ⟨rfl, HT.out.1⟩
end Go.Proofs.Ytampjndfhpjheaa
