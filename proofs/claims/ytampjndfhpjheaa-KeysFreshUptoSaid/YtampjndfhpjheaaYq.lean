/- The making of the tables: its state and its plain law. No walk. -/
import Derived.Test.YtampjndfhpjheaaYn
import Derived.Test.YtampjndfhpjheaaYp
namespace Go.Proofs.Ytampjndfhpjheaa
open Go.RowKit
theorem Tabs.congr {w : World} {ow : Nat → Nat} {tb : Nat} {T T' : Nat → Rows} (h : Tabs w ow tb T) (e : ∀ i, i < 3 → T' i = T i) : Tabs w ow tb T' := ⟨h.blk, h.own, fun i hi => by rw [e i hi]; exact h.list i hi⟩
def pfB : Rows → Bool
  | [] => true
  | r :: l => l.all (fun s => !r.1.isPrefixOf s.1 && !s.1.isPrefixOf r.1) && pfB l
def keyB (x : Int) : Bool := decide (0 ≤ x) && decide (x < 128)
theorem keyB_in {x : Int} (h : keyB x = true) : inKey x := by
  unfold keyB at h
  rw [Bool.and_eq_true, decide_eq_true_eq, decide_eq_true_eq] at h
  obtain ⟨n, rfl⟩ : ∃ n : Nat, x = n := ⟨x.toNat, by omega⟩
  have hn : n < 128 := by omega
  have hd : ∀ n : Nat, n < 128 → (Lit.int .i64 (n : Int)).wf = true := by decide
  exact hd n hn
theorem pfB_pair {rows : Rows} (h : pfB rows = true) : rows.Pairwise (fun a b => ¬ a.1 <+: b.1 ∧ ¬ b.1 <+: a.1) := by
  induction rows with
  | nil => exact .nil
  | cons r l ih =>
    unfold pfB at h
    rw [Bool.and_eq_true, List.all_eq_true] at h
    refine List.pairwise_cons.2 ⟨fun s hs => ?_, ih h.2⟩
    have := h.1 s hs
    rw [Bool.and_eq_true] at this
    constructor
    · intro e; rw [List.isPrefixOf_iff_prefix.2 e] at this; exact absurd this.1 (by decide)
    · intro e; rw [List.isPrefixOf_iff_prefix.2 e] at this; exact absurd this.2 (by decide)
theorem trieOf_map (rows : Rows) : (trieOf rows).map (·.1) = rows.map (·.1) := by
  unfold trieOf
  rw [List.map_map]
  have : (fun r : (List Int × Bd) × Nat => r.1.1) = (fun r => r.1) ∘ Prod.fst := rfl
  show (rows.zipIdx).map (fun r => r.1.1) = _
  rw [this, ← List.map_map, List.zipIdx_map_fst]
theorem sizeS_map (S : TrieS) : sizeS S = ((S.map (·.1)).map List.length).sum := by unfold sizeS; rw [List.map_map]; rfl
theorem trieOk_of {rows : Rows} (h : pfB rows = true) (hn : ∀ r ∈ rows, r.1 ≠ []) : TrieOk (trieOf rows) := by
  have hm := trieOf_map rows
  refine ⟨fun r hr => ?_, ?_⟩
  · have : r.1 ∈ (trieOf rows).map (·.1) := List.mem_map.2 ⟨r, hr, rfl⟩
    rw [hm] at this
    obtain ⟨x, hx, he⟩ := List.mem_map.1 this
    rw [← he]; exact hn x hx
  · have h1 : ((trieOf rows).map (·.1)).Pairwise (fun a b => ¬ a <+: b ∧ ¬ b <+: a) := by
      rw [hm]; exact List.pairwise_map.2 (pfB_pair h)
    exact List.pairwise_map.1 h1
def goodB (rows : Rows) : Bool := pfB rows && decide (rows.length < 1000) && decide (((rows.map (·.1)).map List.length).sum < 100000) && rows.all (fun r => !r.1.isEmpty && decide (r.1.length < 1000) && r.1.all keyB)
theorem good_of {rows : Rows} (h : goodB rows = true) : Good rows := by
  unfold goodB at h
  simp only [Bool.and_eq_true, decide_eq_true_eq, List.all_eq_true] at h
  obtain ⟨⟨⟨h1, h2⟩, h3⟩, h4⟩ := h
  refine ⟨trieOk_of h1 (fun r hr e => ?_), h2, by rw [sizeS_map, trieOf_map]; exact h3, fun r hr => (h4 r hr).1.2, fun r hr x hx => keyB_in ((h4 r hr).2 x hx)⟩
  have := (h4 r hr).1.1
  rw [e] at this; cases this
theorem good_normal : Good normalT := good_of (by decide +kernel)
theorem good_selected : Good selectedT := good_of (by decide +kernel)
theorem good_behind : Good behindT := good_of (by decide +kernel)
/-- the state while the tables are made: what lies fixed is told by Fz -/
structure NT (w0 : World) (tb tv : Nat) (T : Nat → Rows) (Fz : List (Nat × Obj)) (w : World) (ow : Nat → Nat) : Prop where
  tabs : Tabs w ow tb T
  tvb : IsBox w tv 86 (.pointer (some ⟨tb, 0, none⟩))
  tvc : ow tv = 5
  fz : ∀ x ∈ Fz, w.heap[x.1]? = some x.2 ∧ ow x.1 = 5
  old : ∀ b, b < w0.heap.size → ow b = 0
  below : Below w0.heap.size w0 w
section
variable {w0 w w' : World} {tb tv : Nat} {T T' : Nat → Rows} {Fz : List (Nat × Obj)} {ow : Nat → Nat}
theorem NT.congr (h : NT w0 tb tv T Fz w ow) (e : ∀ i, i < 3 → T' i = T i) : NT w0 tb tv T' Fz w ow := { h with tabs := h.tabs.congr e }
theorem NT.later (h : NT w0 tb tv T Fz w ow) (hb : Below w.heap.size w w') : NT w0 tb tv T Fz w' ow :=
  ⟨h.tabs.later hb, h.tvb.below hb, h.tvc, fun x hx => ⟨(hb.block _ (heap_lt (h.fz x hx).1)).trans (h.fz x hx).1, (h.fz x hx).2⟩, h.old, h.below.trans (hb.mono h.below.size)⟩
theorem NT.alloc (h : NT w0 tb tv T Fz w ow) (cs : Array Value) (t : TypeId) : ∃ ow', NT w0 tb tv T ((w.heap.size, .cells cs t (0, 0)) :: Fz) (w.alloc (.cells cs t)) ow' := by
  have hb := below_new2 w (.cells cs t)
  have hs := h.below.size
  refine ⟨newC ow w.heap.size 5, h.tabs.kept (fun b hb2 _ => ⟨hb.block b hb2, newC_old ow hb2⟩) hb.size, h.tvb.below hb, (newC_old ow (heap_lt h.tvb)).trans h.tvc, fun x hx => ?_, fun b hb2 => (newC_old ow (by omega)).trans (h.old b hb2), h.below.trans (hb.mono hs)⟩
  rcases List.mem_cons.1 hx with rfl | hx
  · exact ⟨one_new _ _, newC_new ow (Nat.le_refl _)⟩
  · have hl := heap_lt (h.fz x hx).1
    exact ⟨(hb.block _ hl).trans (h.fz x hx).1, (newC_old ow hl).trans (h.fz x hx).2⟩
theorem NT.put (h : NT w0 tb tv T Fz w ow) (hp : PutPostT ow tb T' w w') : ∃ ow', NT w0 tb tv T' Fz w' ow' := by
  obtain ⟨ow', h1, h2, h3⟩ := hp
  have hs := h.below.size
  refine ⟨ow', h1, box_touch h.tvb h3 (fun e => e.2 h.tvc), (h2 tv (heap_lt h.tvb)).trans h.tvc, fun x hx => ?_, fun b hb => (h2 b (by omega)).trans (h.old b hb), ?_⟩
  · have hl := heap_lt (h.fz x hx).1
    exact ⟨(h3.block _ hl (fun e => e.2 (h.fz x hx).2)).trans (h.fz x hx).1, (h2 _ hl).trans (h.fz x hx).2⟩
  · refine h.below.trans ?_
    refine ⟨h3.os, h3.tape, h3.output, h3.size, fun b hb => h3.block b (by omega) (fun e => e.1 (h.old b hb))⟩
end
theorem live5 {ow : Nat → Nat} {g : Nat} (h : ow g = 5) : ¬ live (ow g) := fun e => e.2 h
/-- the parts of the tables -/
def partA : Rows := addP movesB motionsL ++ addP seeksB seeksL
def partW : Rows := addP id scrollsL ++ addP id bothL ++ addP asksB namedL
def tabT (k : Nat) : Rows := if k = 0 then normalT else if k = 1 then selectedT else behindT
theorem normal_parts : normalT = partA ++ partW ++ addP id ofNormalL ++ opsP operatorsL := by
  rw [← normal_is]; unfold partA partW; simp only [List.append_assoc]
theorem selected_parts : selectedT = partA ++ partW ++ addP id ofSelectionL ++ objP objectsL := by
  rw [← selected_is]; unfold partA partW; simp only [List.append_assoc]
theorem behind_parts : behindT = partA ++ objP objectsL := by
  rw [← behind_is]; unfold partA; simp only [List.append_assoc]
/-- the empty tables -/
theorem tabs_empty {w : World} {ow : Nat → Nat} {tb : Nat} (h : w.heap[tb]? = some (.cells #[.slice none 0 0, .slice none 0 0, .pointer none, .map none, .slice none 0 0, .slice none 0 0, .pointer none, .map none, .slice none 0 0, .slice none 0 0, .pointer none, .map none] 120 (0, 0))) (h4 : ow tb = 4) : Tabs w ow tb (fun _ => []) := by
  refine ⟨⟨_, h, rfl⟩, h4, fun i hi => ?_⟩
  have hcell : ∀ j, w.cell? ⟨tb, j, none⟩ = (#[.slice none 0 0, .slice none 0 0, .pointer none, .map none, .slice none 0 0, .slice none 0 0, .pointer none, .map none, .slice none 0 0, .slice none 0 0, .pointer none, .map none] : Array Value)[j]? := fun j => block_cell h
  refine ⟨[], [], none, 0, none, 0, ⟨?_, World.ownsRow_nil _ _ _ _, (fun b hb => by cases hb), rfl, fun j hj => by simp at hj⟩, ⟨?_, World.ownsRow_nil _ _ _ _, (fun b hb => by cases hb), rfl, fun j hj => by simp at hj⟩, ?_⟩
  · rw [hcell]
    obtain rfl | rfl | rfl : i = 0 ∨ i = 1 ∨ i = 2 := by omega
    all_goals rfl
  · rw [hcell]
    obtain rfl | rfl | rfl : i = 0 ∨ i = 1 ∨ i = 2 := by omega
    all_goals rfl
  · refine ⟨(fun q => if q = [] then some tb else none), (fun _ => none), (fun _ => none), ⟨⟨rfl, ?_, (fun p b h => by cases h), (fun p x h => by cases h), ?_, (fun p m h => by cases h), ?_, (fun p x h => by cases h), ?_, (fun p q b h => by cases h), fun p _ => ⟨rfl, rfl⟩, ?_⟩, ?_, ?_, (fun p m h => by cases h)⟩⟩
    · intro p b hb hp
      try simp only at hb
      rw [if_neg hp] at hb; cases hb
    · intro p b hb
      try simp only at hb
      split at hb
      · rename_i e
        cases hb
        rw [e]
        refine ⟨_, _, h, by decide, ?_, ?_⟩
        · obtain rfl | rfl | rfl : i = 0 ∨ i = 1 ∨ i = 2 := by omega
          all_goals rfl
        · obtain rfl | rfl | rfl : i = 0 ∨ i = 1 ∨ i = 2 := by omega
          all_goals rfl
      · cases hb
    · intro p _ k
      try simp only
      rw [if_neg (by simp)]
    · intro p q b hp hq
      try simp only at hp hq
      split at hp <;> split at hq
      · rename_i e1 e2; rw [e1, e2]
      · cases hq
      · cases hp
      · cases hp
    · intro p k b hb
      try simp only at hb
      rw [if_neg (by simp)] at hb; cases hb
    · intro p
      try simp only
      constructor
      · intro h
        split at h
        · rename_i e; exact .inl e
        · exact absurd rfl h
      · rintro (e | e)
        · rw [if_pos e]; simp
        · cases e
    · intro p; rfl
end Go.Proofs.Ytampjndfhpjheaa
