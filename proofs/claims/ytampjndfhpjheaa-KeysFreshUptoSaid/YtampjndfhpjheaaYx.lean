/- Contract: tables.read. Condition: fewer than 2^62 keys. -/
import Derived.Test.YtampjndfhpjheaaYv
import Derived.Test.YtampjndfhpjheaaYw
import Derived.WalkMore
namespace Go.Proofs.Ytampjndfhpjheaa
open Go.RowKit
theorem behP_3 (own : List (List Int)) (l : List Int) : (behP own l).1 = 0 ∨ (behP own l).1 = 1 ∨ (behP own l).1 = 2 := by
  by_cases hl : l = []
  · exact .inl (by rw [hl]; rfl)
  · rcases lookG_3 (own.map fun k => (k, mlB)) l with h | h | h
    · rcases lookG_3 behindT l with g | g | g
      · exact .inl (behP_c hl (by rw [h]; decide) g (by decide))
      · exact .inr (.inl (behP_c hl (by rw [h]; decide) g (by decide)))
      · exact .inl (by rw [behP_b hl h (by decide) g])
    · exact .inr (.inl (beh1 hl h))
    · rcases lookG_3 behindT l with g | g | g
      · exact .inl (behP_c hl (by rw [h]; decide) g (by decide))
      · exact .inr (.inl (behP_c hl (by rw [h]; decide) g (by decide)))
      · exact .inr (.inr (by rw [behP_b hl h (by decide) g]))
theorem row_not {T : Rows} {reg cnt : Int} {l : List Int} {s : Nat} (h : (lookG T l).1 = s) (hs : s ≠ 1) : rowP T reg cnt l = (s, cmd0) := by
  unfold rowP
  split
  · rename_i e; rw [e] at h; exact absurd h.symm hs
  · rename_i e; rw [e] at h; rw [← h]
theorem row_plain {T : Rows} {reg cnt : Int} {l k : List Int} {b : Bd} (h : lookG T l = (1, some (k, b))) (ho : b.own = []) : rowP T reg cnt l = finP reg cnt b.verb b (l.drop k.length) := by
  unfold rowP; rw [h]; exact if_pos ho
theorem row_own1 {T : Rows} {reg cnt : Int} {l k k' : List Int} {b b' : Bd} (h : lookG T l = (1, some (k, b))) (ho : b.own ≠ []) (h2 : behP b.own (numP cnt (l.drop k.length)).2 = (1, some (k', b'))) :
    rowP T reg cnt l = finP reg (numP cnt (l.drop k.length)).1 b.verb b' ((numP cnt (l.drop k.length)).2.drop k'.length) := by
  unfold rowP; rw [h]; refine (if_neg ho).trans ?_; rw [h2]; rfl
theorem row_own0 {T : Rows} {reg cnt : Int} {l k : List Int} {b : Bd} {s : Nat} (h : lookG T l = (1, some (k, b))) (ho : b.own ≠ []) (h2 : (behP b.own (numP cnt (l.drop k.length)).2).1 = s) (hs : s ≠ 1) : rowP T reg cnt l = (s, cmd0) := by
  unfold rowP; rw [h]; refine (if_neg ho).trans ?_
  split
  · rename_i e; rw [e] at h2; exact absurd h2.symm hs
  · rename_i e; rw [e] at h2; rw [← h2]
def ownB (T : Rows) : Bool := T.all fun r => pfB (r.2.own.map fun k => (k, mlB)) && r.2.own.all fun k => !k.isEmpty
theorem own_ok {T : Rows} (h : ownB T = true) {k : List Int} {b : Bd} (hm : (k, b) ∈ T) : TrieOk (ownS b.own) := by
  have h1 := List.all_eq_true.1 h _ hm
  rw [Bool.and_eq_true, List.all_eq_true] at h1
  constructor
  · intro r hr e
    obtain ⟨x, hx, rfl⟩ := List.mem_map.1 hr
    have h2 := h1.2 x hx
    have e' : x = [] := e
    rw [e'] at h2; cases h2
  · exact List.pairwise_map.2 (List.pairwise_map.1 (pfB_pair h1.1))
theorem own_normal : ownB normalT = true := by decide +kernel
theorem own_selected : ownB selectedT = true := by decide +kernel
def Cmd.cells (c : Cmd) : Array Value := #[.int .i64 c.reg, .int .i64 c.count, .int .i64 c.verb, .int .i64 c.move, .int .i64 c.arg]
/-- a command stored in a variable -/
def set5 (w : World) (b : Nat) (x : Cmd) : World := ((((w.setCell ⟨b, 0, none⟩ (.int .i64 x.reg)).setCell ⟨b, 1, none⟩ (.int .i64 x.count)).setCell ⟨b, 2, none⟩ (.int .i64 x.verb)).setCell ⟨b, 3, none⟩ (.int .i64 x.move)).setCell ⟨b, 4, none⟩ (.int .i64 x.arg)
theorem set5_touch (w : World) (b : Nat) (x : Cmd) : Touch (fun c => c = b) w (set5 w b x) := by
  have hs : ∀ (w : World) (j : Nat) (u : Value), Touch (fun c => c = b) w (w.setCell ⟨b, j, none⟩ u) := fun w j u => Touch.setCell (fun c => c = b) w (p := ⟨b, j, none⟩) rfl u
  unfold set5
  exact ((((hs _ _ _).trans (hs _ _ _) (fun x hx => .inl hx)).trans (hs _ _ _) (fun x hx => .inl hx)).trans (hs _ _ _) (fun x hx => .inl hx)).trans (hs _ _ _) (fun x hx => .inl hx)
theorem set5_below {w : World} {W : World} (h : Below w.heap.size w W) (x : Cmd) : Below w.heap.size w (set5 W w.heap.size x) :=
  h.trans ((set5_touch W w.heap.size x).below (fun b hb => by subst hb; exact Nat.le_refl _) h.size)
def set4 (W : World) (b : Nat) (n v m a : Int) : World := (((W.setCell ⟨b, 1, none⟩ (.int .i64 n)).setCell ⟨b, 2, none⟩ (.int .i64 v)).setCell ⟨b, 3, none⟩ (.int .i64 m)).setCell ⟨b, 4, none⟩ (.int .i64 a)
theorem set4_touch (W : World) (b : Nat) (n v m a : Int) : Touch (fun c => c = b) W (set4 W b n v m a) := by
  have hs : ∀ (w : World) (j : Nat) (u : Value), Touch (fun c => c = b) w (w.setCell ⟨b, j, none⟩ u) := fun w j u => Touch.setCell (fun c => c = b) w (p := ⟨b, j, none⟩) rfl u
  unfold set4
  exact (((hs _ _ _).trans (hs _ _ _) (fun x hx => .inl hx)).trans (hs _ _ _) (fun x hx => .inl hx)).trans (hs _ _ _) (fun x hx => .inl hx)
theorem set4_block (W : World) (b c : Nat) (n v m a : Int) (h : c ≠ b) : (set4 W b n v m a).heap[c]? = W.heap[c]? := by
  unfold set4
  rw [Below.heap_setCell _ _ _ _ h, Below.heap_setCell _ _ _ _ h, Below.heap_setCell _ _ _ _ h, Below.heap_setCell _ _ _ _ h]
/-- a prefix that was read: the keys behind it -/
theorem read_cut {w w2 : World} {ow : Nat → Nat} {tb bq oq c2 : Nat} {x y reg cnt : Int} {u : List Int}
    (d1 : w2.heap[w.heap.size + 1]? = some (.cells #[.slice (some ⟨bq, oq, none⟩) (x :: y :: u).length c2, .int .i64 cnt] 139 (0, 0))) (d2 : (x :: y :: u).length ≤ c2) (d3 : IsInts w2 (some ⟨bq, oq, none⟩) (x :: y :: u).length (gl (x :: y :: u))) (d4 : ∀ a : Addr, (some ⟨bq, oq, none⟩ : Option Addr) = some a → a.block ≠ w.heap.size + 1 ∧ a.block < w.heap.size)
    (h9 : w2.heap[w.heap.size + 2]? = some (.cells #[.int .i64 reg, .int .i64 0, .int .i64 0, .int .i64 0, .int .i64 0] 44 (0, 0))) (h6 : w2.heap[w.heap.size]? = some (.cells #[.int .i64 0, .int .i64 0, .int .i64 0, .int .i64 0, .int .i64 0] 44 (0, 0))) (hb : Below w.heap.size w w2) (ht : Tabs w2 ow tb tabT) (hz : ∀ b, w.heap.size ≤ b → ow b = 0) :
    ∀ (s3 : Option Addr) (c3 : Nat) (w5 : World), (u.length = 0 ∨ s3 = some ⟨bq, oq + 2, none⟩) → (s3 = some ⟨bq, oq, none⟩ ∨ s3 = some ⟨bq, oq + 2, none⟩) → u.length ≤ c3 → w5 = (w2.setCell ⟨w.heap.size + 2, 0, none⟩ (.int .i64 y)).setCell ⟨w.heap.size + 1, 0, none⟩ (.slice s3 u.length c3) →
      RdOk w5 (w.heap.size + 1) u cnt w.heap.size ∧ w5.heap[w.heap.size + 2]? = some (.cells #[.int .i64 y, .int .i64 0, .int .i64 0, .int .i64 0, .int .i64 0] 44 (0, 0)) ∧ w5.heap[w.heap.size]? = some (.cells #[.int .i64 0, .int .i64 0, .int .i64 0, .int .i64 0, .int .i64 0] 44 (0, 0)) ∧ Below w.heap.size w w5 ∧ Tabs w5 ow tb tabT := by
  intro s3 c3 w5 k1 k2 k3 k4
  subst k4
  have t1 := Touch.setCell (fun b => b = w.heap.size + 2) w2 (p := ⟨w.heap.size + 2, 0, none⟩) rfl (.int .i64 y)
  have e9 : (w2.setCell ⟨w.heap.size + 2, 0, none⟩ (.int .i64 y)).heap[w.heap.size + 2]? = some (.cells #[.int .i64 y, .int .i64 0, .int .i64 0, .int .i64 0, .int .i64 0] 44 (0, 0)) := by rw [block_set _ h9]; rfl
  have e6 := (t1.block w.heap.size (heap_lt h6) (by omega)).trans h6
  have e1 := (t1.block (w.heap.size + 1) (heap_lt d1) (by omega)).trans d1
  have b1 : Below w.heap.size w (w2.setCell ⟨w.heap.size + 2, 0, none⟩ (.int .i64 y)) := hb.trans (t1.below (fun b hb => by subst hb; omega) hb.size)
  have a1 := ht.touch t1 (hz _ (by omega))
  have i1 : IsInts (w2.setCell ⟨w.heap.size + 2, 0, none⟩ (.int .i64 y)) (some ⟨bq, oq, none⟩) (x :: y :: u).length (gl (x :: y :: u)) := by
    rcases d3 with d3 | ⟨b, o, he, hb3, hc⟩
    · exact .inl d3
    · cases he
      have hne := (d4 ⟨bq, oq, none⟩ rfl).2
      exact .inr ⟨bq, oq, rfl, Nat.lt_of_lt_of_le hb3 t1.size, fun i hi => (World.cell?_of_block (w := w2) (t1.block bq hb3 (fun e => by have e' : bq = w.heap.size + 2 := e; have hne' : bq < w.heap.size := hne; omega))).trans (hc i hi)⟩
  generalize w2.setCell ⟨w.heap.size + 2, 0, none⟩ (.int .i64 y) = w4 at *
  have t2 := Touch.setCell (fun b => b = w.heap.size + 1) w4 (p := ⟨w.heap.size + 1, 0, none⟩) rfl (.slice s3 u.length c3)
  have hl : (x :: y :: u).length - 2 = u.length := rfl
  have r1 := RdOk.cut (k := 2) e1 d2 i1 d4 (by simp) (s' := s3) (c2 := c3) (by
    rcases k1 with k1 | k1
    · left; simp only [List.length_cons]; omega
    · exact .inr ⟨bq, oq, rfl, k1⟩) (fun a ha => by
    have h0 := d4 ⟨bq, oq, none⟩ rfl
    rcases k2 with k2 | k2 <;> · rw [k2] at ha; cases ha; exact h0) (by rw [hl]; exact k3)
  exact ⟨r1, (t2.block _ (heap_lt e9) (by omega)).trans e9, (t2.block _ (heap_lt e6) (by omega)).trans e6, b1.trans (t2.below (fun b hb => by subst hb; omega) b1.size), a1.touch t2 (hz _ (by omega))⟩
/-- the command of a bound -/
def finV (reg cnt v1 v2 v3 : Int) (v4 : Bool) (l : List Int) : Nat × Cmd :=
  let mv := if v2 = 33 ∧ 0 < cnt then 18 else v2
  if v4 then (match l with | [] => (0, cmd0) | a :: _ => (1, ⟨reg, cnt, v1, mv, a⟩)) else (1, ⟨reg, cnt, v1, mv, v3⟩)
theorem finV_eq {reg cnt verb : Int} {b : Bd} {x : BV} (h : BvIs b x) (l : List Int) : finP reg cnt verb b l = finV reg cnt verb x.m x.a x.more l := by
  obtain ⟨_, h2, h3, h4⟩ := h
  unfold finP finV
  rw [h2, h3, h4]
  cases b.more <;> rfl
theorem neq_nil (w : World) : (binOp .neq 32 (.slice none 0 0) (.slice none 0 0)).run Try.prog w = .ok (.bool false) w := by kernel_rfl
theorem neq_some (a : Addr) (n c : Nat) (w : World) : (binOp .neq 32 (.slice (some a) n c) (.slice none 0 0)).run Try.prog w = .ok (.bool true) w := by kernel_rfl
theorem read_start (w : World) (ow0 : Nat → Nat) (tb : Nat) (sl : Option Addr) (cl : Nat) (l : List Int) (ht : Tabs w ow0 tb tabT) (hr : IsInts w sl l.length (gl l)) (hs : ∀ a, sl = some a → a.block < w.heap.size) (hcl : l.length ≤ cl) :
    ∃ ow w1, w1 = (((w.alloc (.cells #[.int .i64 0, .int .i64 0, .int .i64 0, .int .i64 0, .int .i64 0] 44)).alloc (.cells #[.slice sl l.length cl, .int .i64 0] 139)).alloc (.cells #[.int .i64 0, .int .i64 0, .int .i64 0, .int .i64 0, .int .i64 0] 44)) ∧ Tabs w1 ow tb tabT ∧ (∀ b, w.heap.size ≤ b → ow b = 0) ∧ RdOk w1 (w.heap.size + 1) l 0 w.heap.size ∧ w1.heap[(w.heap.size + 2)]? = some (.cells #[.int .i64 0, .int .i64 0, .int .i64 0, .int .i64 0, .int .i64 0] 44 (0, 0)) ∧ w1.heap[w.heap.size]? = some (.cells #[.int .i64 0, .int .i64 0, .int .i64 0, .int .i64 0, .int .i64 0] 44 (0, 0)) ∧ Below w.heap.size w w1 := by
  have h1 := one_new w (.cells #[.int .i64 0, .int .i64 0, .int .i64 0, .int .i64 0, .int .i64 0] 44)
  have b1 := below_new2 w (.cells #[.int .i64 0, .int .i64 0, .int .i64 0, .int .i64 0, .int .i64 0] 44)
  have s1 : (w.alloc (.cells #[.int .i64 0, .int .i64 0, .int .i64 0, .int .i64 0, .int .i64 0] 44)).heap.size = w.heap.size + 1 := by simp
  generalize w.alloc (.cells #[.int .i64 0, .int .i64 0, .int .i64 0, .int .i64 0, .int .i64 0] 44) = w1 at *
  have h2 := one_new w1 (.cells #[.slice sl l.length cl, .int .i64 0] 139)
  have b2 := below_new2 w1 (.cells #[.slice sl l.length cl, .int .i64 0] 139)
  have s2 : (w1.alloc (.cells #[.slice sl l.length cl, .int .i64 0] 139)).heap.size = w.heap.size + 2 := by simp [s1]
  generalize w1.alloc (.cells #[.slice sl l.length cl, .int .i64 0] 139) = w2 at *
  have h3 := one_new w2 (.cells #[.int .i64 0, .int .i64 0, .int .i64 0, .int .i64 0, .int .i64 0] 44)
  have b3 := below_new2 w2 (.cells #[.int .i64 0, .int .i64 0, .int .i64 0, .int .i64 0, .int .i64 0] 44)
  rw [s1] at h2
  rw [s2] at h3
  have bb := bt (bt b1 b2) b3
  refine ⟨newC ow0 w.heap.size 0, _, rfl, ht.kept (fun b hb _ => ⟨bb.block b hb, newC_old ow0 hb⟩) bb.size, fun b hb => newC_new ow0 hb, ⟨sl, cl, (b3.block _ (by omega)).trans h2, hcl, hr.later bb, fun a ha => ?_⟩, h3, ((b3.block _ (by omega)).trans (b2.block _ (by omega))).trans h1, bb⟩
  have h4 := hs a ha
  exact ⟨fun e => by have e' : a.block = w.heap.size + 1 := e; omega, h4⟩
theorem read_more {sel : Bool} {l : List Int} (h : prefP (l.length + 1) 0 0 l = (0, 0, 0, [])) : readP sel l = (0, cmd0) := by unfold readP; rw [h]; rfl
theorem read_zero {sel : Bool} {l : List Int} (h : prefP (l.length + 1) 0 0 l = (2, 0, 0, [])) : readP sel l = (2, cmd0) := by unfold readP; rw [h]; rfl
theorem read_row {sel : Bool} {l rest : List Int} {reg cnt : Int} (h : prefP (l.length + 1) 0 0 l = (1, reg, cnt, rest)) : readP sel l = rowP (topT sel) reg cnt rest := by unfold readP; rw [h]; rfl
/-- which of its ways the reader goes: 0: no command, 1 2: a row (2: one key more is wanted), 3 4: an operator and a row -/
def clsR (T : Rows) (cnt : Int) (l : List Int) : Nat :=
  match lookG T l with
  | (1, some (k, b)) =>
    if b.own = [] then (if b.more then 2 else 1)
    else
      match behP b.own (numP cnt (l.drop k.length)).2 with
      | (1, some (_, b')) => if b'.more then 4 else 3
      | _ => 0
  | _ => 0
def clsP (sel : Bool) (l : List Int) : Nat :=
  match prefP (l.length + 1) 0 0 l with
  | (1, _, cnt, rest) => clsR (topT sel) cnt rest
  | _ => 0
theorem cls_stop {sel : Bool} {l rest : List Int} {s : Nat} {r c : Int} (h : prefP (l.length + 1) 0 0 l = (s, r, c, rest)) (hs : s ≠ 1) : clsP sel l = 0 := by
  unfold clsP
  split
  · rename_i e; rw [e] at h; cases h; exact absurd rfl hs
  · rfl
theorem cls_row {sel : Bool} {l rest : List Int} {reg cnt : Int} (h : prefP (l.length + 1) 0 0 l = (1, reg, cnt, rest)) : clsP sel l = clsR (topT sel) cnt rest := by unfold clsP; rw [h]; rfl
theorem cls_not {T : Rows} {cnt : Int} {l : List Int} {s : Nat} (h : (lookG T l).1 = s) (hs : s ≠ 1) : clsR T cnt l = 0 := by
  unfold clsR
  split
  · rename_i e; rw [e] at h; exact absurd h.symm hs
  · rfl
theorem cls_plain {T : Rows} {cnt : Int} {l k : List Int} {b : Bd} (h : lookG T l = (1, some (k, b))) (ho : b.own = []) : clsR T cnt l = if b.more then 2 else 1 := by
  unfold clsR; rw [h]; exact if_pos ho
theorem cls_plain' {T : Rows} {cnt : Int} {l k : List Int} {b : Bd} {m : Nat} (h : lookG T l = (1, some (k, b))) (ho : b.own = []) (hm : clsR T cnt l = m) : m = 1 ∨ m = 2 := by
  rw [cls_plain h ho] at hm
  cases e : b.more <;> rw [e] at hm
  · exact .inl hm.symm
  · exact .inr hm.symm
theorem cls_own1 {T : Rows} {cnt : Int} {l k k' : List Int} {b b' : Bd} (h : lookG T l = (1, some (k, b))) (ho : b.own ≠ []) (h2 : behP b.own (numP cnt (l.drop k.length)).2 = (1, some (k', b'))) :
    clsR T cnt l = if b'.more then 4 else 3 := by
  unfold clsR; rw [h]; refine (if_neg ho).trans ?_; rw [h2]; rfl
theorem cls_own0 {T : Rows} {cnt : Int} {l k : List Int} {b : Bd} {s : Nat} (h : lookG T l = (1, some (k, b))) (ho : b.own ≠ []) (h2 : (behP b.own (numP cnt (l.drop k.length)).2).1 = s) (hs : s ≠ 1) : clsR T cnt l = 0 := by
  unfold clsR; rw [h]; refine (if_neg ho).trans ?_
  split
  · rename_i e; rw [e] at h2; exact absurd h2.symm hs
  · rfl
theorem cls_own {T : Rows} {cnt : Int} {l k : List Int} {b : Bd} {m : Nat} (h : lookG T l = (1, some (k, b))) (ho : b.own ≠ []) (hm : clsR T cnt l = m) : m = 0 ∨ m = 3 ∨ m = 4 := by
  unfold clsR at hm
  rw [h] at hm
  replace hm := (if_neg ho).symm.trans hm
  split at hm
  · split at hm
    · exact .inr (.inr hm.symm)
    · exact .inr (.inl hm.symm)
  · exact .inl hm.symm
theorem cls_5 (sel : Bool) (l : List Int) : clsP sel l = 0 ∨ clsP sel l = 1 ∨ clsP sel l = 2 ∨ clsP sel l = 3 ∨ clsP sel l = 4 := by
  unfold clsP clsR
  split
  · split
    · split
      · split
        · exact .inr (.inr (.inl rfl))
        · exact .inr (.inl rfl)
      · split
        · split
          · exact .inr (.inr (.inr (.inr rfl)))
          · exact .inr (.inr (.inr (.inl rfl)))
        · exact .inl rfl
    · exact .inl rfl
  · exact .inl rfl
def ownless (T : Rows) : Bool := T.all fun r => r.2.own.isEmpty
theorem sel_ownless : ownless selectedT = true := by decide +kernel
theorem lookG_mem {T : Rows} {l k : List Int} {b : Bd} (h : lookG T l = (1, some (k, b))) : (k, b) ∈ T := by
  unfold lookG at h
  split at h
  · rename_i r e; cases h; exact List.mem_of_find?_eq_some e
  · split at h <;> cases h
theorem cls_sel (l : List Int) : clsP true l = 0 ∨ clsP true l = 1 ∨ clsP true l = 2 := by
  unfold clsP clsR
  split
  · split
    · rename_i k b e
      have h1 := List.all_eq_true.1 sel_ownless _ (lookG_mem e)
      have h2 : b.own = [] := List.isEmpty_iff.1 h1
      rw [if_pos h2]
      split
      · exact .inr (.inr rfl)
      · exact .inr (.inl rfl)
    · exact .inl rfl
  · exact .inl rfl
end Go.Proofs.Ytampjndfhpjheaa
