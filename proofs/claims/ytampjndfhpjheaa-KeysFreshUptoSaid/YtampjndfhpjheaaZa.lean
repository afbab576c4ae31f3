/- Contract: New. No condition. Contracts: isSelection, Reset. Condition: none. -/
import Derived.Test.YtampjndfhpjheaaYv
import Derived.Test.YtampjndfhpjheaaYr
namespace Go.Proofs.Ytampjndfhpjheaa
open Go.RowKit
set_option maxRecDepth 100000 in
theorem new_c (w : World) : Calls Try.prog 23 #[] w fun e w' => ∃ pb tb ow, e = .returned (.pointer (some ⟨pb, 0, none⟩)) ∧ w.heap.size ≤ pb ∧ w'.heap[pb]? = some (.cells #[.pointer (some ⟨tb, 0, none⟩), .slice none 0 0, .bool false] 108 (0, 0)) ∧ Tabs w' ow tb tabT ∧ ow pb = 0 ∧ Below w.heap.size w w' ∧ (∀ b, b < w.heap.size → ow b = 0) ∧ (∀ b, w'.heap.size ≤ b → ow b = 0) := by
  go_enter Try.func23, Try.ntmps23
  go_wp2_with fail
  refine (tables_c w).mono ?_
  rintro e w1 ⟨tb, ow, rfl, ht, hb, ho⟩
  have HOL := Lib.hid ho
  have HT := Lib.hid ht
  have HB := Lib.hid hb
  clear ht hb ho
  go_wp2
  have hbn := below_new2 w1 (.cells #[.pointer (some ⟨tb, 0, none⟩), .slice none 0 0, .bool false] 108)
  exact bodyPost_ret (v := .pointer (some ⟨w1.heap.size, 0, none⟩)) (by simp [results, Try.results23, go_sem]) rfl ⟨w1.heap.size, tb, newC ow w1.heap.size 0, rfl, HB.out.size, one_new _ _, HT.out.kept (fun b hb _ => ⟨hbn.block b hb, newC_old ow hb⟩) hbn.size, newC_new ow (Nat.le_refl _), HB.out.trans (hbn.mono HB.out.size), fun b hb => (newC_old ow (Nat.lt_of_lt_of_le hb HB.out.size)).trans (HOL.out b hb), fun b hb => newC_new ow (Nat.le_trans hbn.size hb)⟩
open Go.RowKit
theorem sel_c (mode : Int) (w : World) : Calls Try.prog 44 #[.int .i64 mode] w fun e w' => e = .returned (.bool (selP mode)) ∧ w' = w := by
  go_enter Try.func44, Try.ntmps44
  by_cases h3 : mode = 3
  · subst h3
    go_wp2
    exact bodyPost_ret (v := .bool true) (by simp [results, Try.results44, go_sem]) rfl ⟨rfl, rfl⟩
  · have e3 : (mode == 3) = false := by rw [beq_eq_false_iff_ne]; exact h3
    by_cases h4 : mode = 4
    · subst h4
      go_wp2
      exact bodyPost_ret (v := .bool true) (by simp [results, Try.results44, go_sem]) rfl ⟨rfl, rfl⟩
    · have e4 : (mode == 4) = false := by rw [beq_eq_false_iff_ne]; exact h4
      have hs : selP mode = false := by unfold selP; rw [decide_eq_false h3, decide_eq_false h4]; rfl
      have HS := Lib.hid hs
      clear hs
      go_wp2
      exact bodyPost_ret (v := .bool false) (by simp [results, Try.results44, go_sem]) rfl ⟨by rw [HS.out], rfl⟩
theorem reset_c (pb tb : Nat) (s : Option Addr) (n c : Nat) (sl : Bool) (w : World) (h : w.heap[pb]? = some (.cells #[.pointer (some ⟨tb, 0, none⟩), .slice s n c, .bool sl] 108 (0, 0))) :
    Calls Try.prog 29 #[.pointer (some ⟨pb, 0, none⟩)] w fun e w' => e = .returned (.tuple #[]) ∧ w' = w.setCell ⟨pb, 1, none⟩ (.slice none 0 0) := by
  have c1 : w.cell? ⟨pb, 1, none⟩ = some (.slice s n c) := block_cell h
  have f1 : w.frozen? ⟨pb, 1, none⟩ = false := block_free h
  clear h
  go_enter Try.func29, Try.ntmps29
  go_wp2
  refine bodyPost_end (v := .tuple #[]) (results_none rfl _ _ _) rfl ?_
  exact ⟨rfl, rfl⟩
/-- a parser in memory -/
def ParN (w : World) (B : Nat) (ow : Nat → Nat) (pb tb : Nat) (p : Par) : Prop :=
  Tabs w ow tb tabT ∧ ow pb = 0 ∧ B ≤ pb ∧ ∃ s c, w.heap[pb]? = some (.cells #[.pointer (some ⟨tb, 0, none⟩), .slice s p.pend.length c, .bool p.sel] 108 (0, 0)) ∧ OwnInts w B (.slice s p.pend.length c) p.pend ∧ ∀ b, (Value.slice s p.pend.length c).ownBlock = some b → ow b = 0 ∧ b ≠ pb
theorem par_new (w : World) : Calls Try.prog 23 #[] w fun e w' => ∃ pb tb ow, e = .returned (.pointer (some ⟨pb, 0, none⟩)) ∧ ParN w' w.heap.size ow pb tb par0 ∧ Below w.heap.size w w' ∧ (∀ b, b < w.heap.size → ow b = 0) ∧ (∀ b, w'.heap.size ≤ b → ow b = 0) := by
  refine (new_c w).mono ?_
  rintro e w' ⟨pb, tb, ow, rfl, h1, h2, h3, h4, h5, h6, h7⟩
  exact ⟨pb, tb, ow, rfl, ⟨h3, h4, h1, none, 0, h2, OwnInts.nil _ _, fun b hb => by cases hb⟩, h5, h6, h7⟩
/-- what else changes leaves the parser alone -/
theorem ParN.kept {w w' : World} {B : Nat} {ow : Nat → Nat} {pb tb : Nat} {p : Par} (h : ParN w B ow pb tb p) (hb : Below w.heap.size w w') : ParN w' B ow pb tb p := by
  obtain ⟨h1, h2, h3, s, c, h4, h5, h6⟩ := h
  exact ⟨h1.later hb, h2, h3, s, c, (hb.block _ (heap_lt h4)).trans h4, h5.later hb, h6⟩
/-- the mode that the parser is in -/
theorem ParN.mode {w : World} {B : Nat} {ow : Nat → Nat} {pb tb : Nat} {p : Par} (h : ParN w B ow pb tb p) (sl : Bool) : ParN ((w.setCell ⟨pb, 1, none⟩ (.slice none 0 0)).setCell ⟨pb, 2, none⟩ (.bool sl)) B ow pb tb ⟨[], sl⟩ := by
  obtain ⟨h1, h2, h3, s, c, h4, h5, h6⟩ := h
  have t1 := Touch.setCell (fun b => b = pb) w (p := ⟨pb, 1, none⟩) rfl (.slice none 0 0)
  have t2 := Touch.setCell (fun b => b = pb) (w.setCell ⟨pb, 1, none⟩ (.slice none 0 0)) (p := ⟨pb, 2, none⟩) rfl (.bool sl)
  refine ⟨(h1.touch t1 h2).touch t2 h2, h2, h3, none, 0, ?_, OwnInts.nil _ _, fun b hb => by cases hb⟩
  rw [block_set _ (block_set _ h4)]; rfl
theorem ParN.fresh {w w1 : World} {B : Nat} {ow : Nat → Nat} {pb tb : Nat} {p : Par} (h : ParN w B ow pb tb p) (hb : Below w.heap.size w w1) : ParN w1 B (newC ow w.heap.size 0) pb tb p := by
  obtain ⟨h1, h2, h3, s, c, h4, h5, h6⟩ := h
  have hz : ∀ b, ow b = 0 → newC ow w.heap.size 0 b = 0 := fun b e => by
    unfold newC
    split
    · exact e
    · rfl
  exact ⟨h1.kept (fun b hb' _ => ⟨hb.block b hb', newC_old ow hb'⟩) hb.size, hz _ h2, h3, s, c, (hb.block _ (heap_lt h4)).trans h4, h5.later hb, fun b e => ⟨hz _ (h6 b e).1, (h6 b e).2⟩⟩
theorem par_nil {w : World} {B : Nat} {ow : Nat → Nat} {pb tb : Nat} {sl : Bool} (ht : Tabs w ow tb tabT) (h2 : ow pb = 0) (h3 : B ≤ pb) (h4 : w.heap[pb]? = some (.cells #[.pointer (some ⟨tb, 0, none⟩), .slice none 0 0, .bool sl] 108 (0, 0))) : ParN w B ow pb tb ⟨[], sl⟩ :=
  ⟨ht, h2, h3, none, 0, h4, OwnInts.nil _ _, fun b hb => by cases hb⟩
end Go.Proofs.Ytampjndfhpjheaa
