/- Appends onto a list of slices; what apart holds, and the steps on it. No walk. -/
import Derived.Test.YtampjndfhpjheaaHb
namespace Go.Proofs.Ytampjndfhpjheaa
open Go.RowKit
set_option linter.unusedVariables false
set_option linter.unusedSimpArgs false
theorem Try.infoIntsH : (Try.prog.info? 33).map (fun i => (i.zero, i.size, i.bytes)) = some (some (.slice none 0 0), 1, 24) := by kernel_rfl
theorem cellsH_new (w : World) (xs : List Value) (t : TypeId) : ∀ j u, xs[j]? = some u → (w.alloc (.cells xs.toArray t)).cell? ((⟨w.heap.size, 0, none⟩ : Addr).add j) = some u := by
  intro j u hu
  rw [Go.WideShapes.add_plain, Nat.zero_add, block_cell (one_new w _), ← hu]; simp
theorem wpList_push_rows {w : World} {ops : Array Oper} {rest : List Oper} {o : Oper} {a : Act} {Q : Exit → Act → World → Prop} (xs : List Value) (hgd : o.guard = none) (s y : Operand)
    (ho : o.op = .call { callee := .builtin .append, args := #[s, y], argTypes := #[32, 32] })
    (sl : Option Addr) (j c : Nat) (vs : List Value) (hs : a.eval s = .slice sl j c) (hy : a.eval y = .slice (some ⟨w.heap.size, 0, none⟩) xs.length xs.length) (hown : OwnL w (.slice sl j c) vs) (h1 : ∀ u ∈ xs, u.oneCell' = true) (hx0 : 0 < xs.length) (hx : xs.length < 100) (hj : vs.length < 1000000)
    (h : ∀ s' c' w', OwnL w' (.slice s' (j + xs.length) c') (vs ++ xs) → w.grownBy w' (Value.slice sl j c).ownBlock → ((Value.slice s' (j + xs.length) c').ownBlock = (Value.slice sl j c).ownBlock ∨ ∃ b, (Value.slice s' (j + xs.length) c').ownBlock = some b ∧ w.heap.size ≤ b) → wpList Try.prog ops Q rest (a.put o.dst (.slice s' (j + xs.length) c')) w') :
    wpList Try.prog ops Q (o :: rest) a (w.alloc (.cells xs.toArray 33)) := by
  obtain ⟨i0, hi, hz0, hz1, hz2⟩ := info_parts Try.infoIntsH
  have hjl : j = vs.length := by
    rcases hown.2 with ⟨e, hn⟩ | ⟨g, cap, cur, e, _⟩
    · exact ((Value.slice.inj e).2.1).trans hn.symm
    · exact (Value.slice.inj e).2.1
  have hown1 : OwnL (w.alloc (.cells xs.toArray 33)) (.slice sl j c) vs := own_keptL hown (fun b hb _ => Below.heap_alloc w _ b hb)
  unfold OwnL at hown1
  refine wpList_append_own_at _ hgd s y 32 ho 0 33 i0 (.slice none 0 0) 1 24 Try.underlying32 hi hz0 hz1 hz2 rfl (by decide) _ _ _ hs hown1 ⟨w.heap.size, 0, none⟩ xs.length xs.length xs hy (by omega) (cellsH_new w xs _) h1 (by unfold maxLen; omega) (by omega) (by first | (simp; done) | (simp; omega)) ?_
  intro v' w1 hown' hgrow _ hat
  obtain ⟨s', c', rfl⟩ : ∃ s' c', v' = .slice s' (j + xs.length) c' := by
    rcases hown'.2 with ⟨e, hn⟩ | ⟨g, cap, cur, e, _⟩
    · omega
    · exact ⟨some ⟨g, 0, none⟩, cap, by rw [e, hjl]⟩
  refine h s' c' w1 ?_ (World.grownBy.trans (World.grownBy_alloc w _ _) hgrow) ?_
  · unfold OwnL
    rw [List.length_append]
    exact hown'
  · rcases hat with e | e
    · exact .inl e
    · exact .inr ⟨_, e, by simp⟩
theorem OwnL.shape {w : World} {V : Value} {vs : List Value} (h : OwnL w V vs) : ∃ s c, V = .slice s vs.length c := by
  rcases h.2 with ⟨e, hn⟩ | ⟨g, cap, cur, e, _⟩
  · exact ⟨none, 0, by rw [e, hn]⟩
  · exact ⟨_, _, e⟩
theorem OwnL.cell {w : World} {s : Option Addr} {n c : Nat} {vs : List Value} (h : OwnL w (.slice s n c) vs) {i : Nat} (hi : i < vs.length) : ∃ g, s = some ⟨g, 0, none⟩ ∧ g < w.heap.size ∧ w.cell? ⟨g, i, none⟩ = some vs[i] := by
  rcases h.2 with ⟨e, hn⟩ | ⟨g, cap, cur, e, hg, hgg, _⟩
  · omega
  · injection e with e
    refine ⟨g, e, heap_lt hgg, ?_⟩
    have hc := World.ownsRow.cells (g := g) (by subst e; exact h) rfl i vs[i] (List.getElem?_eq_getElem hi)
    rw [Go.WideShapes.add_plain, Nat.zero_add] at hc
    exact hc
/-- a slice of a list of the call's own as it lies: nil, or at the begin of its block -/
theorem OwnInts.form {w : World} {base : Nat} {v : Value} {l : List Int} (h : OwnInts w base v l) : ∃ s c, v = .slice s l.length c := by
  obtain ⟨s, n, c, e, hn, _⟩ := h.shape
  exact ⟨s, c, by rw [e, hn]⟩
def reQ (x : Nat → Nat) (vs : List Value) (b : Nat) : Nat := if (vs.any fun v => decide (v.ownBlock = some b)) = true then 20 else x b
theorem reQ_in {x : Nat → Nat} {vs : List Value} {b i : Nat} (hi : i < vs.length) (h : vs[i].ownBlock = some b) : reQ x vs b = 20 := if_pos (List.any_eq_true.2 ⟨vs[i], List.getElem_mem hi, decide_eq_true h⟩)
theorem reQ_cases {x : Nat → Nat} {vs : List Value} {b : Nat} : (reQ x vs b = 20 ∧ ∃ i, ∃ h : i < vs.length, vs[i].ownBlock = some b) ∨ reQ x vs b = x b := by
  unfold reQ
  split
  · rename_i h
    obtain ⟨v, hv, hd⟩ := List.any_eq_true.1 h
    obtain ⟨i, hi, rfl⟩ := List.mem_iff_getElem.1 hv
    exact .inl ⟨rfl, i, hi, of_decide_eq_true hd⟩
  · exact .inr rfl
/-- what apart holds: the slices, the copies of the first of them, the grown ones -/
structure AP (w wr : World) (x : Nat → Nat) (n0 : Nat) (V : Value) (vs : List Value) (ls : List (List Int)) (Vh : Value) (hvs : List Value) (hl : List (List Int)) (Vf : Value) (fvs : List Value) (fl : List (List Int)) : Prop where
  m : MB w wr x n0
  o : OwnL wr V vs ∧ ∀ b, V.ownBlock = some b → x b = 13
  len : vs.length = ls.length
  each : ∀ i (h : i < vs.length) (h' : i < ls.length), HC wr x n0 20 vs[i] ls[i]
  lone : Lone vs
  rh : RW wr x n0 21 ⟨Vh, hvs, hl⟩
  f : OwnL wr Vf fvs ∧ ∀ b, Vf.ownBlock = some b → x b = 22
  flen : fvs.length = fl.length ∧ fvs.length ≤ vs.length
  feach : ∀ i (h : i < fvs.length) (h' : i < fl.length), HC wr x n0 20 fvs[i] fl[i]
  fsep : ∀ i j (hi : i < fvs.length) (hj : j < vs.length), i ≠ j → ∀ b, fvs[i].ownBlock = some b → vs[j].ownBlock ≠ some b
theorem MB.re {w a : World} {x : Nat → Nat} {n0 : Nat} {vs : List Value} {ls : List (List Int)} (h : MB w a x n0) (hw : w.heap.size ≤ n0) (he : ∀ i (h : i < vs.length) (h' : i < ls.length), HC a x n0 0 vs[i] ls[i]) (hl : vs.length = ls.length) : MB w a (reQ x vs) n0 := by
  refine ⟨fun b hb => ?_, fun b hb => ?_, h.below, h.n⟩
  · rcases reQ_cases (x := x) (vs := vs) (b := b) with ⟨_, i, hi, e⟩ | e
    · exact (he i hi (by omega)).lt e
    · rw [e] at hb; exact h.lt b hb
  · rcases reQ_cases (x := x) (vs := vs) (b := b) with ⟨_, i, hi, e⟩ | e
    · exact Nat.le_trans hw ((he i hi (by omega)).2 b e).2
    · rw [e] at hb; exact h.low b hb
theorem AP.start {w a : World} {x : Nat → Nat} {n0 : Nat} {r : RD} (h : MB w a x n0) (hw : w.heap.size ≤ n0) (hr : RW a x n0 13 r) (hl : Lone r.vs) : AP w a (reQ x r.vs) n0 r.V r.vs r.ls (.slice none 0 0) [] [] (.slice none 0 0) [] [] where
  m := h.re hw hr.each hr.len
  o := ⟨hr.own, fun b hb => by
    rcases reQ_cases (x := x) (vs := r.vs) (b := b) with ⟨_, i, hi, e⟩ | e
    · have h1 := ((hr.each i hi (by rw [← hr.len]; exact hi)).2 b e).1
      have h2 := (hr.cl b hb).1
      omega
    · rw [e]; exact (hr.cl b hb).1⟩
  len := hr.len
  each := fun i hi hi' => ⟨(hr.each i hi hi').1, fun b hb => ⟨reQ_in hi hb, ((hr.each i hi hi').2 b hb).2⟩⟩
  lone := hl
  rh := RW.nil _ _ _ _
  f := ⟨World.ownsRow_nil a 0 _ 1, fun b hb => by cases hb⟩
  flen := ⟨rfl, Nat.zero_le _⟩
  feach := fun i h => by cases h
  fsep := fun i j hi => by cases hi
theorem OwnL.sp {a b : World} {x y : Nat → Nat} {c i : Nat} {V : Value} {vs : List Value} (h : OwnL a V vs ∧ ∀ g, V.ownBlock = some g → x g = c) (st : Sp a b x y i) (hc : c ≠ i) : OwnL b V vs ∧ ∀ g, V.ownBlock = some g → y g = c :=
  ⟨own_keptL h.1 (fun g hg he => st.touch.block g hg (fun e => by have := h.2 g he; have e : x g = i := e; omega)), fun g hg => by rw [st.same g (World.ownsRow.lt h.1 g hg).2]; exact h.2 g hg⟩
theorem AP.sp {w a b : World} {x y : Nat → Nat} {n0 i : Nat} {V Vh Vf : Value} {vs hvs fvs : List Value} {ls hl fl : List (List Int)} (h : AP w a x n0 V vs ls Vh hvs hl Vf fvs fl) (st : Sp a b x y i) (hi : i = 9) : AP w b y n0 V vs ls Vh hvs hl Vf fvs fl := by
  subst hi
  exact ⟨h.m.sp st (by decide), OwnL.sp h.o st (by decide), h.len, fun i hi hi' => (h.each i hi hi').sp st (by decide), h.lone, h.rh.sp st (by decide) (by decide), OwnL.sp h.f st (by decide), h.flen, fun i hi hi' => (h.feach i hi hi').sp st (by decide), h.fsep⟩
theorem AP.later {w a b : World} {x : Nat → Nat} {n0 : Nat} {V Vh Vf : Value} {vs hvs fvs : List Value} {ls hl fl : List (List Int)} (h : AP w a x n0 V vs ls Vh hvs hl Vf fvs fl) (hb : Below a.heap.size a b) : AP w b x n0 V vs ls Vh hvs hl Vf fvs fl := h.sp (Sp.of h.m hb 9) rfl
/-- a copy more -/
theorem AP.hold {w a b : World} {x : Nat → Nat} {n0 : Nat} {V Vh Vh' Vf v : Value} {vs hvs fvs : List Value} {ls hl fl : List (List Int)} {l : List Int} (h : AP w a x n0 V vs ls Vh hvs hl Vf fvs fl) (hv : HC a x n0 0 v l) (ho : OwnL b Vh' (hvs ++ [v])) (hg : a.grownBy b Vh.ownBlock)
    (hat : Vh'.ownBlock = Vh.ownBlock ∨ ∃ g, Vh'.ownBlock = some g ∧ a.heap.size ≤ g) : ∃ y, AP w b y n0 V vs ls Vh' (hvs ++ [v]) (hl ++ [l]) Vf fvs fl := by
  obtain ⟨y, st, hr⟩ := RW.push (V' := Vh') (xs := [v]) (lx := [l]) h.m h.rh (by decide) ho hg hat rfl (fun i hi hi' => by
    have e : i = 0 := by simp at hi; exact hi
    subst e; exact hv)
  exact ⟨y, h.m.sp st (by decide), OwnL.sp h.o st (by decide), h.len, fun i hi hi' => (h.each i hi hi').sp st (by decide), h.lone, hr, OwnL.sp h.f st (by decide), h.flen, fun i hi hi' => (h.feach i hi hi').sp st (by decide), h.fsep⟩
/-- a cell of a slice is written (none has grown yet) -/
theorem AP.put {w a : World} {x : Nat → Nat} {n0 g i j c n : Nat} {V Vh Vf : Value} {vs hvs : List Value} {ls hl : List (List Int)} (h : AP w a x n0 V vs ls Vh hvs hl Vf [] []) (hi : i < vs.length) (hi' : i < ls.length) (hv : vs[i] = .slice (some ⟨g, 0, none⟩) n c) (hj : j < ls[i].length) (k : Int) :
    AP w (a.setCell ⟨g, j, none⟩ (.int .i64 k)) x n0 V vs (ls.set i (ls[i].set j k)) Vh hvs hl Vf [] [] := by
  have hgb : vs[i].ownBlock = some g := by rw [hv]; rfl
  have hc := h.each i hi hi'
  have hx := (hc.2 g hgb).1
  have ht : Touch (fun b => x b = 20) a (a.setCell ⟨g, j, none⟩ (.int .i64 k)) := Touch.setCell (fun b => x b = 20) a (p := ⟨g, j, none⟩) hx _
  have hz : (a.setCell ⟨g, j, none⟩ (.int .i64 k)).heap.size = a.heap.size := by simp
  have st : Sp a (a.setCell ⟨g, j, none⟩ (.int .i64 k)) x x 20 := ⟨ht, fun _ _ => rfl, fun b hb => .inl (h.m.zero hb), fun b hb => h.m.zero (by omega)⟩
  have hother : ∀ b, b ≠ g → (a.setCell ⟨g, j, none⟩ (.int .i64 k)).heap[b]? = a.heap[b]? := fun b hb => Below.heap_setCell a ⟨g, j, none⟩ _ b hb
  refine ⟨h.m.sp st (by decide), OwnL.sp h.o st (by decide), by rw [List.length_set]; exact h.len, fun q hq hq' => ?_, h.lone, h.rh.sp st (by decide) (by decide), OwnL.sp h.f st (by decide), ⟨rfl, Nat.zero_le _⟩, (fun q hq => by cases hq), (fun q r hq => by cases hq)⟩
  rw [List.length_set] at hq'
  have hcq := h.each q hq hq'
  rw [List.getElem_set]
  by_cases e : i = q
  · subst e
    rw [if_pos rfl]
    refine ⟨?_, hcq.2⟩
    have ho := hcq.1
    rcases ho.2 with ⟨e1, e2⟩ | ⟨g2, cap, cur, e1, _, hgg, _⟩
    · rw [hv] at e1; cases e1
    · have e3 : g2 = g := by rw [hv] at e1; injection e1 with e1; injection e1 with e1; injection e1 with e1; exact e1.symm
      subst e3
      have ho2 := ho
      rw [e1] at ho2 ⊢
      refine own_row_set ho2 hgg (block_set _ hgg) (by simp) (fun q => ?_)
      rw [Array.getElem?_setIfInBounds]
      by_cases e4 : j = q
      · subst e4
        rw [if_pos rfl, if_pos rfl]
        have : j < cur.size := by
          have h5 := World.ownsRow.cells (g := g2) (by rw [e1] at ho; exact ho) rfl j (.int .i64 (ls[i][j]'hj)) (by rw [List.getElem?_map, List.getElem?_eq_getElem hj]; rfl)
          rw [Go.WideShapes.add_plain, Nat.zero_add, block_cell hgg] at h5
          exact Classical.byContradiction fun hn => by rw [Array.getElem?_eq_none (by omega)] at h5; cases h5
        rw [if_pos this]
      · rw [if_neg e4, if_neg (fun h => e4 h.symm)]
  · rw [if_neg e]
    refine ⟨OwnInts.kept hcq.1 (fun b hb he => hother b (fun e2 => ?_)), hcq.2⟩
    subst e2
    exact h.lone q i hq hi (fun e3 => e e3.symm) b he hgb
/-- a slice grows -/
theorem AP.grow {w a b : World} {x : Nat → Nat} {n0 i n c c' : Nat} {s s' : Option Addr} {V Vh Vf : Value} {vs hvs fvs : List Value} {ls hl fl : List (List Int)} {l' : List Int} (h : AP w a x n0 V vs ls Vh hvs hl Vf fvs fl) (hi : i < vs.length) (hif : i = fvs.length) (hv : vs[i] = .slice s n c) (ho : OwnInts b 0 (.slice s' (n + 100) c') l') (hg : Grew a b (.slice s n c) (.slice s' (n + 100) c') n) :
    ∃ y, AP w b y n0 V vs ls Vh hvs hl Vf fvs fl ∧ HC b y n0 20 (.slice s' (n + 100) c') l' ∧ ∀ j (hj : j < vs.length), i ≠ j → ∀ q, (Value.slice s' (n + 100) c').ownBlock = some q → vs[j].ownBlock ≠ some q := by
  have hi' : i < ls.length := by rw [← h.len]; exact hi
  have hc := h.each i hi hi'
  have hn : n = ls[i].length := by
    have h1 := hc.1
    rw [hv] at h1
    exact h1.len
  have ht : Touch (fun q => x q = 20) a b := hg.1.wide (fun q _ hq => (hc.2 q (by rw [hv]; exact hq)).1)
  have st := newQ_sp h.m ht
  have hkeep : ∀ (v : Value) (l : List Int), HC a x n0 20 v l → (∀ q, v.ownBlock = some q → vs[i].ownBlock ≠ some q) → HC b (newQ x a.heap.size b.heap.size 20) n0 20 v l := fun v l hvl hne =>
    ⟨OwnInts.kept hvl.1 (fun q hq he => hg.1.block q hq (fun e => hne q he (by rw [hv]; exact e))), fun q hq => ⟨by rw [newQ_old (hvl.lt hq)]; exact (hvl.2 q hq).1, (hvl.2 q hq).2⟩⟩
  refine ⟨_, ⟨h.m.sp st (by decide), OwnL.sp h.o st (by decide), h.len, fun j hj hj' => ?_, h.lone, h.rh.sp st (by decide) (by decide), OwnL.sp h.f st (by decide), h.flen, fun j hj hj' => ?_, h.fsep⟩, ⟨ho, fun q hq => ?_⟩, fun j hj hne q hq hq2 => ?_⟩
  · by_cases e : i = j
    · subst e
      obtain ⟨l2, _, h2, h3⟩ := hg.2.2 0 _ _ hc.1
      rw [h3 (by omega)] at h2
      exact ⟨h2, fun q hq => ⟨by rw [newQ_old (hc.lt hq)]; exact (hc.2 q hq).1, (hc.2 q hq).2⟩⟩
    · exact hkeep _ _ (h.each j hj hj') (fun q h1 h2 => h.lone j i hj hi (fun e2 => e e2.symm) q h1 h2)
  · exact hkeep _ _ (h.feach j hj hj') (fun q h1 h2 => h.fsep j i hj hi (by omega) q h1 h2)
  · rcases hg.2.1 q hq with e | e
    · have e : vs[i].ownBlock = some q := by rw [hv]; exact e
      exact ⟨by rw [newQ_old (hc.lt e)]; exact (hc.2 q e).1, (hc.2 q e).2⟩
    · exact ⟨newQ_new e (World.ownsRow.lt ho q hq).2, Nat.le_trans h.m.n e⟩
  · rcases hg.2.1 q hq with e | e
    · exact h.lone j i hj hi (fun e2 => hne e2.symm) q hq2 (by rw [hv]; exact e)
    · have := (h.each j hj (by rw [← h.len]; exact hj)).lt hq2
      omega
/-- a grown slice more -/
theorem AP.far {w a b : World} {x : Nat → Nat} {n0 : Nat} {V Vh Vf Vf' v : Value} {vs hvs fvs : List Value} {ls hl fl : List (List Int)} {l : List Int} (h : AP w a x n0 V vs ls Vh hvs hl Vf fvs fl) (hi : fvs.length < vs.length) (hv : HC a x n0 20 v l) (hs : ∀ j (hj : j < vs.length), fvs.length ≠ j → ∀ q, v.ownBlock = some q → vs[j].ownBlock ≠ some q) (ho : OwnL b Vf' (fvs ++ [v])) (hg : a.grownBy b Vf.ownBlock)
    (hat : Vf'.ownBlock = Vf.ownBlock ∨ ∃ g, Vf'.ownBlock = some g ∧ a.heap.size ≤ g) : ∃ y, AP w b y n0 V vs ls Vh hvs hl Vf' (fvs ++ [v]) (fl ++ [l]) := by
  have ht : Touch (fun g => x g = 22) a b := Touch.grown hg (fun g hg' => h.f.2 g hg')
  have st := newQ_sp h.m ht
  have hvn := hv.sp st (by decide)
  refine ⟨_, h.m.sp st (by decide), OwnL.sp h.o st (by decide), h.len, fun i hi hi' => (h.each i hi hi').sp st (by decide), h.lone, h.rh.sp st (by decide) (by decide), ⟨ho, fun g hg' => ?_⟩, ⟨by simp [h.flen.1], by simp; omega⟩, fun i hi hi' => ?_, fun i j hi1 hj hne q h1 => ?_⟩
  · rcases hat with e | ⟨g', e, he⟩
    · have h1 := e ▸ hg'
      rw [newQ_old (World.ownsRow.lt h.f.1 g h1).2]; exact h.f.2 g h1
    · have h3 : some g' = some g := e.symm.trans hg'
      injection h3 with h3
      subst h3
      exact newQ_new he (World.ownsRow.lt ho g' hg').2
  · by_cases h1 : i < fvs.length
    · rw [List.getElem_append_left h1, List.getElem_append_left (by rw [← h.flen.1]; exact h1)]
      exact (h.feach i h1 (by rw [← h.flen.1]; exact h1)).sp st (by decide)
    · have e : i = fvs.length := by rw [List.length_append] at hi; simp at hi; omega
      subst e
      rw [List.getElem_append_right (Nat.le_refl _), List.getElem_append_right (by rw [h.flen.1]; exact Nat.le_refl _)]
      simpa [h.flen.1] using hvn
  · by_cases h2 : i < fvs.length
    · rw [List.getElem_append_left h2] at h1
      exact h.fsep i j h2 hj hne q h1
    · have e : i = fvs.length := by rw [List.length_append] at hi1; simp at hi1; omega
      subst e
      rw [List.getElem_append_right (Nat.le_refl _)] at h1
      exact hs j hj hne q (by simpa using h1)
theorem AP.put' {w a : World} {x : Nat → Nat} {n0 g i j c n : Nat} {V Vh Vf : Value} {vs hvs : List Value} {ls : List (List Int)} (h : AP w a x n0 V vs ls Vh hvs (ls.take i) Vf [] []) (hi : i < vs.length) (hi' : i < ls.length) (hv : vs[i] = .slice (some ⟨g, 0, none⟩) n c) (hj : j < ls[i].length) (k : Int) :
    AP w (a.setCell ⟨g, j, none⟩ (.int .i64 k)) x n0 V vs (ls.set i (ls[i].set j k)) Vh hvs ((ls.set i (ls[i].set j k)).take i) Vf [] [] := by
  rw [List.take_set_of_le (Nat.le_refl i)]
  exact h.put hi hi' hv hj k
end Go.Proofs.Ytampjndfhpjheaa
