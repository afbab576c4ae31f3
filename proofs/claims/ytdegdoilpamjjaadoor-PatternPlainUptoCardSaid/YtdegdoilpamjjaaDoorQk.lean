/- Contract: run, of a pattern of plain ints. Condition: fewer than 2^30 ints of a line, no more than 4000 of the word. -/
import Derived.Test.YtdegdoilpamjjaaDoorQi
import Derived.Test.YtdegdoilpamjjaaDoorQj
import Derived.Laws.Rows
namespace Go.Proofs.YtdegdoilpamjjaaDoor
open Go.RowKit
set_option linter.unusedVariables false
set_option linter.unusedSimpArgs false
theorem acts_get : ∀ (vs : List Value), (∀ v ∈ vs, ∃ p, v = .iface 78 (.pointer p)) → (vs.flatMap actC).length = vs.length * 4 ∧ ∀ (j : Nat) (hj : j < vs.length) (p : Option Addr), vs[j] = .iface 78 (.pointer p) → ∀ i, i < 4 → (vs.flatMap actC)[j * 4 + i]? = ([.int .i64 0, .int .i64 0, .int .i64 0, .pointer p] : List Value)[i]?
  | [], _ => ⟨rfl, fun j hj => absurd hj (by simp)⟩
  | v :: vs, hv => by
    obtain ⟨p0, rfl⟩ := hv v (List.mem_cons_self ..)
    obtain ⟨h1, h2⟩ := acts_get vs (fun x hx => hv x (List.mem_cons_of_mem _ hx))
    have e : ((.iface 78 (.pointer p0)) :: vs).flatMap actC = [.int .i64 0, .int .i64 0, .int .i64 0, .pointer p0] ++ vs.flatMap actC := rfl
    refine ⟨by rw [e, List.length_append, h1, List.length_cons]; show 4 + vs.length * 4 = (vs.length + 1) * 4; omega, fun j hj p hp i hi => ?_⟩
    rw [e]
    cases j with
    | zero =>
      simp only [List.getElem_cons_zero] at hp
      injection hp with _ hp
      injection hp with hp
      subst hp
      rw [Nat.zero_mul, Nat.zero_add, List.getElem?_append_left (by show i < 4; exact hi)]
    | succ j =>
      rw [List.getElem?_append_right (by show 4 ≤ _; omega)]
      have e2 : (j + 1) * 4 + i - ([.int .i64 0, .int .i64 0, .int .i64 0, .pointer p0] : List Value).length = j * 4 + i := by show _ - 4 = _; omega
      rw [e2]
      exact h2 j (by simpa using hj) p (by simpa using hp) i hi
/-- what the acts of a word are -/
structure ActAt (w0 : World) (xs : List Value) (l : List Int) (j : Nat) (kd : Int) (sv : Option Addr) : Prop where
  kind : kd = 0 ∨ kd = 6
  a0 : xs[j * 4]? = some (.int .i64 kd)
  a1 : xs[j * 4 + 1]? = some (.int .i64 0)
  a2 : xs[j * 4 + 2]? = some (.int .i64 0)
  a3 : xs[j * 4 + 3]? = some (.pointer sv)
  last : j = l.length → kd = 6
  set : ∀ (hj : j < l.length), kd = 0 ∧ SetN w0 false (.iface 78 (.pointer sv)) l[j]
theorem PlainP.act {w : World} {base pb : Nat} {l : List Int} {sA : Option Addr} {cA : Nat} {vs : List Value} (h : PlainP w base pb l sA cA vs) (j : Nat) (hj : j ≤ l.length) :
    ∃ kd sv, ActAt w (vs.flatMap actC ++ [.int .i64 6, .int .i64 0, .int .i64 0, .pointer none]) l j kd sv := by
  have hv : ∀ v ∈ vs, ∃ p, v = .iface 78 (.pointer p) := by
    intro v hv
    obtain ⟨i, hi, rfl⟩ := List.getElem_of_mem hv
    obtain ⟨b, g, e, _⟩ := h.sets i hi (by rw [← h.len]; exact hi)
    exact ⟨_, e⟩
  obtain ⟨h1, h2⟩ := acts_get vs hv
  by_cases hlt : j < l.length
  · have hjv : j < vs.length := by rw [h.len]; exact hlt
    obtain ⟨p, hp⟩ := hv _ (List.getElem_mem hjv)
    have hg : ∀ i, i < 4 → (vs.flatMap actC ++ [.int .i64 6, .int .i64 0, .int .i64 0, .pointer none])[j * 4 + i]? = ([.int .i64 0, .int .i64 0, .int .i64 0, .pointer p] : List Value)[i]? := fun i hi => by
      rw [List.getElem?_append_left (by rw [h1]; omega)]
      exact h2 j hjv p hp i hi
    have hs := h.sets j hjv hlt
    rw [hp] at hs
    exact ⟨0, p, .inl rfl, hg 0 (by decide), hg 1 (by decide), hg 2 (by decide), hg 3 (by decide), fun e => by omega, fun _ => ⟨rfl, hs⟩⟩
  · obtain rfl : j = l.length := by omega
    have hg : ∀ i, i < 4 → (vs.flatMap actC ++ [.int .i64 6, .int .i64 0, .int .i64 0, .pointer none])[l.length * 4 + i]? = ([.int .i64 6, .int .i64 0, .int .i64 0, .pointer none] : List Value)[i]? := fun i hi => by
      rw [List.getElem?_append_right (by rw [h1, h.len]; omega), h1, h.len, Nat.add_sub_cancel_left]
    exact ⟨6, none, .inr rfl, hg 0 (by decide), hg 1 (by decide), hg 2 (by decide), hg 3 (by decide), fun _ => rfl, fun h => by omega⟩
/-- the marks while the ways at a are looked at -/
def SOk (S : Nat → Int) (k1 a : Nat) (N : List Nat) (b : Nat) : Prop := ∀ j, j < k1 → S j ≤ ((a + 1 : Nat) : Int) ∧ (S j = ((a + 1 : Nat) : Int) → ∃ f ∈ N, b - f = j)
/-- no way has come to its end yet; a + gg = n + 2 -/
def RelA (w0 wr : World) (rn sb pb k1 : Nat) (line : Value) (l L : List Int) (start n gg : Nat) (bv tv : Value) : Prop :=
  ∃ (a : Nat) (F : List Nat) (S : Nat → Int) (sT : Option Addr) (nT cT : Nat) (G : Option (Nat × Array Value)), a + gg = n + 2 ∧ start ≤ a ∧ a ≤ n + 1 ∧ bv = .pointer none ∧ tv = .int .i64 0 ∧
    RunS w0 wr rn sb pb line k1 a S sT nT cT (F.map fun f => (a - f, f)) G ∧ FOk L l start a F ∧ (∀ t, start ≤ t → t + l.length < a → ¬ preM L l t l.length) ∧ SOk S k1 a F a
/-- one has -/
def RelB (w0 wr : World) (rn sb pb k1 : Nat) (line : Value) (l L : List Int) (start n gg : Nat) (bv tv : Value) : Prop :=
  ∃ (a s bx : Nat) (S : Nat → Int) (sT : Option Addr) (cT : Nat) (G : Option (Nat × Array Value)), a + gg = n + 2 ∧ a ≤ n + 1 ∧ bv = .pointer (some ⟨bx, 0, none⟩) ∧ tv = .int .i64 ((s + l.length : Nat) : Int) ∧
    RunS w0 wr rn sb pb line k1 a S sT 0 cT [] G ∧ FirstAt L l start s ∧ s + l.length ≤ n ∧ wr.heap[bx]? = some (.cells #[.int .i64 l.length, .int .i64 s, .pointer none] 107 (0, 0)) ∧ w0.heap.size ≤ bx
abbrev mM (a b : Int) : Array Value := #[.int .i64 a, .int .i64 b, .int .i64 (-1), .int .i64 (-1), .int .i64 (-1), .int .i64 (-1), .int .i64 (-1), .int .i64 (-1), .int .i64 (-1), .int .i64 (-1), .int .i64 (-1), .int .i64 (-1), .int .i64 (-1), .int .i64 (-1), .int .i64 (-1), .int .i64 (-1), .int .i64 (-1), .int .i64 (-1), .int .i64 (-1), .int .i64 (-1)]
abbrev mZ : Array Value := #[.int .i64 0, .int .i64 0, .int .i64 0, .int .i64 0, .int .i64 0, .int .i64 0, .int .i64 0, .int .i64 0, .int .i64 0, .int .i64 0, .int .i64 0, .int .i64 0, .int .i64 0, .int .i64 0, .int .i64 0, .int .i64 0, .int .i64 0, .int .i64 0, .int .i64 0, .int .i64 0]
/-- what run answers -/
def RunP (w : World) (l L : List Int) (start : Nat) (e : Ending) (w' : World) : Prop :=
  Below w.heap.size w w' ∧ ((∃ s, FirstAt L l start s ∧ e = .returned (.tuple #[.agg (mM s ((s + l.length : Nat) : Int)), .bool true])) ∨ NoAt L l start ∧ e = .returned (.tuple #[.agg mZ, .bool false]))
theorem PlainP.later {w w' : World} {base pb : Nat} {l : List Int} {sA : Option Addr} {cA : Nat} {vs : List Value} (h : PlainP w base pb l sA cA vs) (hb : Below w.heap.size w w') : PlainP w' base pb l sA cA vs :=
  ⟨h.pas.later hb, h.len, fun i hi hj => (h.sets i hi hj).keep (KeepS.below hb)⟩
theorem run_begin (w1 : World) (pb k1 : Nat) (line : Value) :
    RunS w1 ((w1.alloc (.cells (madeCells #[.int .i64 0] k1) 3)).alloc (.cells #[.pointer (some ⟨pb, 0, none⟩), line, .int .i64 0, .slice (some ⟨w1.heap.size, 0, none⟩) k1 k1, .slice none 0 0] 102)).drew (w1.heap.size + 1) w1.heap.size pb line k1 0 (fun _ => 0) none 0 0 [] none := by
  have hr := row_made w1 k1
  have hb := below_newJ w1 (.cells (madeCells #[.int .i64 0] k1) 3)
  have hz := size_new w1 (.cells (madeCells #[.int .i64 0] k1) 3)
  generalize w1.alloc (.cells (madeCells #[.int .i64 0] k1) 3) = w2 at hr hb hz ⊢
  have h2 := one_new w2 (.cells #[.pointer (some ⟨pb, 0, none⟩), line, .int .i64 0, .slice (some ⟨w1.heap.size, 0, none⟩) k1 k1, .slice none 0 0] 102)
  have hb2 := below_newJ w2 (.cells #[.pointer (some ⟨pb, 0, none⟩), line, .int .i64 0, .slice (some ⟨w1.heap.size, 0, none⟩) k1 k1, .slice none 0 0] 102)
  rw [hz] at h2
  exact ⟨(hb.trans (hb2.mono hb.size)).drew, h2, (hr.later hb2).block rfl, World.ownsRow_nil _ _ _ _, by omega, Nat.le_refl _, fun go oc e => (by cases e)⟩
theorem SOk.zero (k1 a : Nat) (N : List Nat) (b : Nat) : SOk (fun _ => 0) k1 a N b := fun j hj => ⟨by show (0 : Int) ≤ _; omega, fun h => by have : (0 : Int) = ((a + 1 : Nat) : Int) := h; omega⟩
theorem mZ_info : (Tryd.prog.info? 23).map (·.size) = some mZ.size := by
  have h2 : (Tryd.prog.info? 23).map (·.size) = some 20 := by kernel_rfl
  exact h2
theorem mZ_all : mZ.all (·.oneCell') = true := by simp [mZ, Value.oneCell']
theorem mM_all (a b : Int) : (mM a b).all (·.oneCell') = true := by simp [mM, Value.oneCell']
theorem mM_info (a b : Int) : (Tryd.prog.info? 23).map (·.size) = some (mM a b).size := mZ_info
theorem row_set {w : World} {g : Nat} {old : Array Value} {t : TypeId} (cs : Array Value) (h : w.heap[g]? = some (.cells old t (0, 0))) : (w.setRow g cs).heap[g]? = some (.cells cs t (0, 0)) := by
  show (w.heap.modify g _)[g]? = _
  rw [Array.getElem?_modify, if_pos rfl, h]; rfl
theorem row_below {w : World} {B g : Nat} (cs : Array Value) (h : B ≤ g) : Below B w (w.setRow g cs) :=
  ⟨rfl, rfl, rfl, by simp [World.setRow], fun k hk => by
    show (w.heap.modify g _)[k]? = _
    rw [Array.getElem?_modify, if_neg (by omega)]⟩
theorem run_results (tmps : Array Value) (g : Nat) (cs : Array Value) (b : Bool) (w : World) (h6 : tmps.getD 6 undef = .pointer (some ⟨g, 0, none⟩)) (h7 : tmps.getD 7 undef = .bool b) (hg : w.heap[g]? = some (.cells cs 23 (0, 0))) (hi : (Tryd.prog.info? 23).map (·.size) = some cs.size) :
    (results Tryd.f32 tmps).run Tryd.prog w = .ok (.tuple #[.agg cs, .bool b]) w := by
  have hl := run_loadVar_row (P := Tryd.prog) w g 23 23 cs (0, 0) _ hg Tryd.underlying23 rfl hi
  simp only [Array.getD_eq_getD_getElem?] at h6 h7
  simp [results, Tryd.results32, h6, h7, asAddr, hl]
/-- twenty ints -/
def mL (f : Nat → Int) : Array Value := ((List.range 20).map fun i => Value.int .i64 (f i)).toArray
theorem mL_at (f : Nat → Int) (i : Nat) (h : i < 20) : (mL f)[i]? = some (.int .i64 (f i)) := by
  unfold mL
  simp [h]
theorem mL_set (f : Nat → Int) (k : Nat) (x : Int) : (mL f).setIfInBounds k (.int .i64 x) = mL (fun i => if i = k then x else f i) := by
  apply Array.ext_getElem?
  intro i
  rw [Array.getElem?_setIfInBounds]
  by_cases h : i < 20
  · rw [mL_at _ i h]
    by_cases e : k = i
    · subst e
      rw [if_pos rfl, if_pos (by unfold mL; simp [h]), mL_at _ k h, if_pos rfl]
    · rw [if_neg e, mL_at _ i h, if_neg (fun h => e h.symm)]
  · have e1 : (mL f)[i]? = none := by unfold mL; simp; omega
    have e2 : (mL (fun i => if i = k then x else f i))[i]? = none := by unfold mL; simp; omega
    rw [e1, e2]
    by_cases e : k = i
    · rw [if_pos e, if_neg (by unfold mL; simp; omega)]
    · rw [if_neg e]
def mK (s t : Int) (k : Nat) : Nat → Int := fun i => if i = 0 then s else if i = 1 then t else if i < k then -1 else 0
theorem mK_2 (s t : Int) : mL (mK s t 2) = #[.int .i64 s, .int .i64 t, .int .i64 0, .int .i64 0, .int .i64 0, .int .i64 0, .int .i64 0, .int .i64 0, .int .i64 0, .int .i64 0, .int .i64 0, .int .i64 0, .int .i64 0, .int .i64 0, .int .i64 0, .int .i64 0, .int .i64 0, .int .i64 0, .int .i64 0, .int .i64 0] := rfl
theorem mK_20 (s t : Int) : mL (mK s t 20) = mM s t := rfl
theorem mK_step (s t : Int) (k : Nat) (h : 2 ≤ k) : (mL (mK s t k)).setIfInBounds k (.int .i64 (-1)) = mL (mK s t (k + 1)) := by
  rw [mL_set]
  congr 1
  funext i
  unfold mK
  by_cases e : i = k
  · subst e
    rw [if_pos rfl, if_neg (by omega), if_neg (by omega), if_pos (by omega)]
  · rw [if_neg e]
    by_cases e0 : i = 0
    · rw [if_pos e0, if_pos e0]
    · rw [if_neg e0, if_neg e0]
      by_cases e1 : i = 1
      · rw [if_pos e1, if_pos e1]
      · rw [if_neg e1, if_neg e1]
        by_cases e2 : i < k
        · rw [if_pos e2, if_pos (by omega)]
        · rw [if_neg e2, if_neg (by omega)]
theorem srt_len : ∀ (F : List Nat) (lo hi : Nat), F.Pairwise (· < ·) → (∀ f ∈ F, lo ≤ f ∧ f < hi) → F.length ≤ hi - lo
  | [], _, _, _, _ => Nat.zero_le _
  | x :: F, lo, hi, hs, hb => by
    rw [List.pairwise_cons] at hs
    have h1 := srt_len F (x + 1) hi hs.2 (fun f hf => ⟨hs.1 f hf, (hb f (List.mem_cons_of_mem _ hf)).2⟩)
    have h2 := hb x (List.mem_cons_self ..)
    rw [List.length_cons]
    omega
/-- one of the ways that have come to a, the first i of which have been looked at -/
def RelI (w0 wr : World) (rn sb pb k1 : Nat) (line : Value) (l L : List Int) (a : Nat) (F1 : List Nat) (go : Nat) (oc : Array Value) (nO gg : Nat) (bv tv iv : Value) : Prop :=
  ∃ (i : Nat) (S : Nat → Int) (sT : Option Addr) (nT cT : Nat), i + gg = nO ∧ bv = .pointer none ∧ tv = .int .i64 0 ∧ iv = .int .i64 i ∧
    RunS w0 wr rn sb pb line k1 a S sT nT cT (((F1.take i).filter (goesF L l a)).map fun f => (a + 1 - f, f)) (some (go, oc)) ∧ SOk S k1 (a + 1) ((F1.take i).filter (goesF L l a)) (a + 1) ∧ ∀ f ∈ F1.take i, a - f ≠ l.length
theorem SOk.first {S : Nat → Int} {k1 a : Nat} {F : List Nat} (h : SOk S k1 a F a) : SOk (fun i => if i = 0 then ((a + 1 : Nat) : Int) else S i) k1 (a + 1) [] (a + 1) := by
  intro j hj
  have := (h j hj).1
  show (if j = 0 then ((a + 1 : Nat) : Int) else S j) ≤ _ ∧ ((if j = 0 then ((a + 1 : Nat) : Int) else S j) = _ → _)
  split
  · exact ⟨by omega, fun h => by omega⟩
  · exact ⟨by omega, fun h => by omega⟩
theorem take_one {F : List Nat} {i f : Nat} (hi : i < F.length) (hf : F[i] = f) : F.take (i + 1) = F.take i ++ [f] := by
  rw [List.take_succ_eq_append_getElem hi, hf]
theorem take_lt {F : List Nat} {i f g : Nat} (hs : F.Pairwise (· < ·)) (hi : i < F.length) (hf : F[i] = f) (hg : g ∈ F.take i) : g < f := by
  obtain ⟨k, hk, rfl⟩ := List.getElem_of_mem hg
  rw [List.length_take] at hk
  rw [List.getElem_take, ← hf]
  exact List.pairwise_iff_getElem.1 hs k i (by omega) hi (by omega)
theorem SOk.go {S : Nat → Int} {k1 a b j f : Nat} {N : List Nat} (h : SOk S k1 a N b) (hf : b - f = j) : SOk (fun i => if i = j then ((a + 1 : Nat) : Int) else S i) k1 a (N ++ [f]) b := by
  intro j' hj
  have h' := h j' hj
  show (if j' = j then ((a + 1 : Nat) : Int) else S j') ≤ _ ∧ ((if j' = j then ((a + 1 : Nat) : Int) else S j') = _ → _)
  by_cases e : j' = j
  · rw [if_pos e]
    exact ⟨Int.le_refl _, fun _ => ⟨f, by simp, by rw [hf, e]⟩⟩
  · rw [if_neg e]
    exact ⟨h'.1, fun h => by
      obtain ⟨g, h1, h2⟩ := h'.2 h
      exact ⟨g, List.mem_append_left _ h1, h2⟩⟩
set_option maxRecDepth 100000 in
set_option maxHeartbeats 16000000 in
theorem run_q (w : World) (base pb : Nat) (l : List Int) (ga cA : Nat) (vs : List Value) (hp : PlainP w base pb l (some ⟨ga, 0, none⟩) cA vs) (hl : 0 < l.length) (hll : l.length ≤ 4000) (sl : Option Addr) (n c : Nat) (L : List Int) (hL : L.length = n) (hn : n < 536870912) (hs : IsInts w sl n (gl L)) (start : Nat) (hst : start ≤ n) :
    Calls Tryd.prog 32 #[.pointer (some ⟨pb, 0, none⟩), .slice sl n c, .int .i64 start] w (RunP w l L start) := by
  obtain ⟨k1, hk1⟩ : ∃ k1, l.length + 1 = k1 := ⟨_, rfl⟩
  have hP0 : w.cell? ⟨pb, 0, none⟩ = some (.slice (some ⟨ga, 0, none⟩) k1 cA) := by rw [← hk1]; exact block_cell hp.pas.blk
  have hP2 : w.cell? ⟨pb, 2, none⟩ = some (.int .i64 0) := block_cell hp.pas.blk
  have hmk : ∀ (w : World), (Instr.makeSlice 22 (.int .i64 (k1 : Int)) (.int .i64 (k1 : Int))).run Tryd.prog w = .ok (.slice (some ⟨w.heap.size, 0, none⟩) k1 k1) (w.alloc (.cells (madeCells #[.int .i64 0] k1) 3)) :=
    fun w => run_make_row' (P := Tryd.prog) 22 3 (.int .i64 0) 8 Tryd.underlying22 Tryd.infoInt rfl .i64 .i64 k1 (by omega) (by omega) w
  have i1 : IntKind.i64.wrap 1 = 1 := by decide
  have i2 : IntKind.i64.wrap ((k1 : Int) * 1) = (k1 : Int) := by rw [IntKind.wrap_i64]; omega
  have i3 : IntKind.i64.wrap (k1 : Int) = (k1 : Int) := by rw [IntKind.wrap_i64]; omega
  have HK1 := Lib.hid hk1
  clear hk1
  have HP := Lib.hid hp
  have HS := Lib.hid hs
  have HL := Lib.hid hL
  clear hp hs hL
  go_enter Tryd.func32, Tryd.ntmps32
  go_wp2_with fail
  have hr6 := one_new w (.cells mZ 23)
  have hb1 := below_newJ w (.cells mZ 23)
  have hz1 := size_new w (.cells mZ 23)
  change Code.wp _ _ _ _ (w.alloc (.cells mZ 23))
  have k0 : (w.alloc (.cells mZ 23)).cell? ⟨pb, 0, none⟩ = some (.slice (some ⟨ga, 0, none⟩) k1 cA) := (hb1.cell (p := ⟨pb, 0, none⟩) (heap_lt HP.out.pas.blk)).trans hP0
  have k2 : (w.alloc (.cells mZ 23)).cell? ⟨pb, 2, none⟩ = some (.int .i64 0) := (hb1.cell (p := ⟨pb, 2, none⟩) (heap_lt HP.out.pas.blk)).trans hP2
  generalize w.alloc (.cells mZ 23) = w1 at hr6 hb1 hz1 k0 k2 ⊢
  have HR6 := Lib.hid hr6
  have HB1 := Lib.hid hb1
  have HZ1 := Lib.hid hz1
  clear hr6 hb1 hz1 hP0 hP2
  go_region
  have hrb := run_begin w1 pb k1 (.slice sl n c)
  have HRB := Lib.hid hrb
  have HPW := Lib.hid (HP.out.later HB1.out)
  have HSW := Lib.hid (HS.out.later HB1.out)
  clear hrb k0 k2 hmk HP HS
  generalize ((w1.alloc (.cells (madeCells #[.int .i64 0] k1) 3)).alloc (.cells #[.pointer (some ⟨pb, 0, none⟩), .slice sl n c, .int .i64 0, .slice (some ⟨w1.heap.size, 0, none⟩) k1 k1, .slice none 0 0] 102)).drew = w3 at HRB ⊢
  have hsb : w1.heap.size < w1.heap.size + 1 := by omega
  generalize hrn : w1.heap.size + 1 = rn at HRB ⊢
  generalize hsbb : w1.heap.size = sb at HRB ⊢
  have r2 : w3.cell? ⟨rn, 2, none⟩ = some (.int .i64 0) := block_cell HRB.out.blk
  have f2 : w3.frozen? ⟨rn, 2, none⟩ = false := block_free HRB.out.blk
  go_upto_region 5 with (fail)
  have H0 := Lib.hid (HRB.out.setAt start)
  clear r2 f2 HRB
  generalize w3.setCell ⟨rn, 2, none⟩ (.int .i64 start) = w4 at H0 ⊢
  go_loopg [9, 10] (n + 2 - start) (fun gg bv tv wr => RelA w1 wr rn sb pb k1 (.slice sl n c) l L start n gg bv tv ∨ RelB w1 wr rn sb pb k1 (.slice sl n c) l L start n gg bv tv)
  case atStart => exact .inl ⟨start, [], fun _ => 0, none, 0, 0, none, by omega, Nat.le_refl _, by omega, rfl, rfl, H0.out, FOk.nil _ _ _, fun t h1 h2 => by omega, SOk.zero _ _ _ _⟩
  case round =>
    clear H0
    rcases hrel with ⟨a, F, S, sT, nT, cT, G, hga, hsa, han, rfl, rfl, hr, hF, hpast, hS⟩ | ⟨a, s, bx, S, sT, cT, G, hga, han, rfl, rfl, hr, hfi, hsn, hbx, hbxl⟩
    · have HR := Lib.hid hr
      have HF := Lib.hid hF
      have HPA := Lib.hid hpast
      have HSO := Lib.hid hS
      have r2 : wr.cell? ⟨rn, 2, none⟩ = some (.int .i64 a) := block_cell hr.blk
      clear hr hF hpast hS
      by_cases hlt : a ≤ n
      · have q1 : (a : Int) ≤ (n : Int) := by omega
        have hpas := HPW.out.pas
        rw [HK1.out] at hpas
        obtain ⟨kd, sv, hact⟩ := HPW.out.act 0 (Nat.zero_le _)
        have hnT : nT ≤ l.length := by
          have h1 := HR.out.len
          rw [List.length_map] at h1
          rw [← h1]
          have h2 := srt_len F (a - l.length) a HF.out.srt (fun f hf => by obtain ⟨p1, p2, p3, p4⟩ := (HF.out.mem f).1 hf; omega)
          omega
        have hadd := add_c w1 wr rn sb pb (.slice sl n c) k1 a S sT nT cT _ G HR.out base _ ga cA hpas 0 a (by have := HK1.out; omega) kd sv hact.kind (by simpa using hact.a0) (by simpa using hact.a1) (by simpa using hact.a2) (by simpa using hact.a3) (fun h0 => by
          obtain ⟨f, hf, hff⟩ := (HSO.out 0 (by have := HK1.out; omega)).2 (by rw [h0]; omega)
          have := (HF.out.mem f).1 hf
          omega) (by have := HK1.out; omega) (by omega) (by omega) (by omega)
        have HADD := Lib.hid hadd
        have HPAS := Lib.hid hpas
        clear hadd hpas hact
        go_wp2_with fail
        go_step3
        go_wp2_with fail
        refine HADD.out.mono ?_
        rintro e w5 ⟨rfl, s5, c5, h5⟩
        have hT5 : (F.map fun f => (a - f, f)) ++ [(0, a)] = (F ++ [a]).map fun f => (a - f, f) := by rw [List.map_append]; simp
        rw [hT5] at h5
        obtain ⟨GO, hcl, hgo⟩ := h5.clear
        obtain ⟨go, oc, hs5, hGO, hoc⟩ := hgo (by omega)
        subst hs5 hGO
        have r4 : w5.cell? ⟨rn, 4, none⟩ = some (.slice (some ⟨go, 0, none⟩) (nT + 1) c5) := block_cell h5.blk
        have f4 : w5.frozen? ⟨rn, 4, none⟩ = false := block_free h5.blk
        have r2' : w5.cell? ⟨rn, 2, none⟩ = some (.int .i64 a) := block_cell h5.blk
        have hl5 := h5.len
        have HL5 := Lib.hid (show (F ++ [a]).length = nT + 1 from by rw [List.length_map] at hl5; exact hl5)
        have HCL := Lib.hid hcl
        have HOC := Lib.hid hoc
        clear h5 hcl hgo hoc hT5 hl5 r2 HADD HR
        have e0 : ((((nT + 1 : Nat) : Int)) == 0) = false := by rw [beq_eq_false_iff_ne]; omega
        have e00 : (((nT : Int) + 1) == 0) = false := by rw [beq_eq_false_iff_ne]; omega
        go_upto_region 12 with (fail)
        generalize w5.setCell ⟨rn, 4, none⟩ (.slice none 0 0) = w6 at HCL ⊢
        have r2 : w6.cell? ⟨rn, 2, none⟩ = some (.int .i64 a) := block_cell HCL.out.blk
        go_wp2_with fail
        go_step3
        go_wp2_with fail
        go_loopg [9, 10, 80] (nT + 1) (fun gg bv tv iv wq => RelI w1 wq rn sb pb k1 (.slice sl n c) l L a (F ++ [a]) go oc (nT + 1) gg bv tv iv)
        case atStart => exact ⟨0, _, _, _, _, by omega, rfl, rfl, rfl, HCL.out, HSO.out.first, fun f hf => by simp at hf⟩
        case round =>
          clear r2 r4 f4 r2' e0 e00 HCL
          obtain ⟨i, S', sT', nT', cT', hgi, rfl, rfl, rfl, hr', hS', hno⟩ := hrel
          have HR := Lib.hid hr'
          have HS2 := Lib.hid hS'
          have HNO := Lib.hid hno
          have r2 : wr.cell? ⟨rn, 2, none⟩ = some (.int .i64 a) := block_cell hr'.blk
          have f2 : wr.frozen? ⟨rn, 2, none⟩ = false := block_free hr'.blk
          clear hr' hS' hno
          have q9 : IntKind.i64.wrap ((a : Int) + 1) = ((a + 1 : Nat) : Int) := by rw [IntKind.wrap_i64]; omega
          by_cases hit : i < nT + 1
          · have hif : i < (F ++ [a]).length := by rw [HL5.out]; exact hit
            obtain ⟨f, hff⟩ : ∃ f, (F ++ [a])[i] = f := ⟨_, rfl⟩
            have hfm := (HF.out.mem1 hsa f).1 (by rw [← hff]; exact List.getElem_mem hif)
            obtain ⟨p1, p2, p3, p4⟩ := hfm
            have hfnd : i = 0 ∧ FirstAt L l start (a - l.length) ∧ f = a - l.length ∧ l.length ≤ a ∨ a - f ≠ l.length := by
              by_cases e : a - f = l.length
              · have h := HF.out.found hsa HPA.out hif (by rw [hff]; exact e)
                rw [hff] at h
                exact .inl h
              · exact .inr e
            obtain ⟨ho, hone⟩ := HR.out.hold go oc rfl
            have hth : ∀ x, x < 3 → oc[i * 3 + x]? = ([.int .i64 ((a - f : Nat) : Int), .int .i64 (f : Int), .pointer none] : List Value)[x]? := fun x hx => by
              have h := HOC.out i (by rw [List.length_map]; exact hif) x hx
              rw [List.getElem_map, hff] at h
              exact h
            have t0 : wr.cell? ⟨go, i * 3, none⟩ = some (.int .i64 ((a - f : Nat) : Int)) := (block_cell ho).trans (hth 0 (by decide))
            have t1 : wr.cell? ⟨go, i * 3 + 1, none⟩ = some (.int .i64 (f : Int)) := (block_cell ho).trans (hth 1 (by decide))
            have t2 : wr.cell? ⟨go, i * 3 + 2, none⟩ = some (.pointer none) := (block_cell ho).trans (hth 2 (by decide))
            have HFF := Lib.hid hff
            have HP4 := Lib.hid p4
            have HFND := Lib.hid hfnd
            obtain ⟨j, hj⟩ : ∃ j, a - f = j := ⟨_, rfl⟩
            rw [hj] at t0
            have hjl : j ≤ l.length := by omega
            have HJ := Lib.hid hj
            clear hth ho hone hff hfnd p4
            have q10 : (i : Int) < ((nT + 1 : Nat) : Int) := by omega
            have q11 : (0 : Int) ≤ (i : Int) := by omega
            have q12 : IntKind.i64.wrap ((i : Int) + 1) = ((i + 1 : Nat) : Int) := by rw [IntKind.wrap_i64]; omega
            have hb2 := below_newJ wr (.cells #[.int .i64 j, .int .i64 f, .pointer none] 107)
            have HR2 := Lib.hid (HR.out.later hb2)
            have HTB := Lib.hid (one_new wr (.cells #[.int .i64 j, .int .i64 f, .pointer none] 107))
            have HTBL := Lib.hid (show w1.heap.size ≤ wr.heap.size from HR.out.below.size)
            clear hb2
            go_upto_region 16 with (fail)
            obtain ⟨tb, htb⟩ : ∃ tb, wr.heap.size = tb := ⟨_, rfl⟩
            rw [htb] at HTB HTBL ⊢
            clear htb
            generalize wr.alloc (.cells #[.int .i64 j, .int .i64 f, .pointer none] 107) = w8 at HR2 HTB ⊢
            clear t0 t1 t2 r2 f2
            obtain ⟨kd, sv, hact⟩ := HPW.out.act j hjl
            have HACT := Lib.hid hact
            have HPB := Lib.hid (fun (W : World) (hW : Below w1.heap.size w1 W) => (show W.heap[pb]? = some (.cells #[.slice (some ⟨ga, 0, none⟩) k1 cA, .int .i64 0, .int .i64 0] 62 (0, 0)) from (hW.block pb (heap_lt HPAS.out.blk)).trans HPAS.out.blk))
            have hga : ∃ cs, w1.heap[ga]? = some (.cells cs 80 (0, 0)) := own_type HPAS.out.own rfl
            have HGA := Lib.hid hga
            have HAC := Lib.hid (fun (W : World) (hW : Below w1.heap.size w1 W) (i : Nat) (v : Value) (hi : (vs.flatMap actC ++ [.int .i64 6, .int .i64 0, .int .i64 0, .pointer none])[j * 4 + i]? = some v) (h4 : i < 4) => (show W.cell? ⟨ga, j * 4 + i, none⟩ = some v from by
              obtain ⟨cs, hcs⟩ := HGA.out
              rw [World.cell?_of_block (w := w1) (hW.block ga (heap_lt hcs)), World.ownsRow.cellAt HPAS.out.own (j * 4 + i) (by have := HK1.out; omega), hi]))
            clear hact hga
            have hjk : (j : Int) < (k1 : Int) := by have := HK1.out; omega
            have hj0 : (0 : Int) ≤ (j : Int) := by omega
            have HRN := Lib.hid (HR2.out.later (below_newJ w8 (.cells #[.int .i64 0, .int .i64 0, .int .i64 0, .pointer none] 80)))
            have x0 : w8.cell? ⟨tb, 0, none⟩ = some (.int .i64 j) := block_cell HTB.out
            have xn0 : (w8.alloc (.cells #[.int .i64 0, .int .i64 0, .int .i64 0, .pointer none] 80)).cell? ⟨tb, 0, none⟩ = some (.int .i64 j) := block_cell (at_new _ HTB.out)
            have cp : w8.cell? ⟨pb, 0, none⟩ = some (.slice (some ⟨ga, 0, none⟩) k1 cA) := block_cell (HPB.out _ HR2.out.below)
            have c0 : w8.cell? ⟨ga, j * 4, none⟩ = some (.int .i64 kd) := HAC.out _ HR2.out.below 0 _ HACT.out.a0 (by decide)
            have c1 : w8.cell? ⟨ga, j * 4 + 1, none⟩ = some (.int .i64 0) := HAC.out _ HR2.out.below 1 _ HACT.out.a1 (by decide)
            have c2 : w8.cell? ⟨ga, j * 4 + 2, none⟩ = some (.int .i64 0) := HAC.out _ HR2.out.below 2 _ HACT.out.a2 (by decide)
            have c3 : w8.cell? ⟨ga, j * 4 + 3, none⟩ = some (.pointer sv) := HAC.out _ HR2.out.below 3 _ HACT.out.a3 (by decide)
            have dp : (w8.alloc (.cells #[.int .i64 0, .int .i64 0, .int .i64 0, .pointer none] 80)).cell? ⟨pb, 0, none⟩ = some (.slice (some ⟨ga, 0, none⟩) k1 cA) := block_cell (HPB.out _ HRN.out.below)
            have d0 : (w8.alloc (.cells #[.int .i64 0, .int .i64 0, .int .i64 0, .pointer none] 80)).cell? ⟨ga, j * 4, none⟩ = some (.int .i64 kd) := HAC.out _ HRN.out.below 0 _ HACT.out.a0 (by decide)
            have d1 : (w8.alloc (.cells #[.int .i64 0, .int .i64 0, .int .i64 0, .pointer none] 80)).cell? ⟨ga, j * 4 + 1, none⟩ = some (.int .i64 0) := HAC.out _ HRN.out.below 1 _ HACT.out.a1 (by decide)
            have d2 : (w8.alloc (.cells #[.int .i64 0, .int .i64 0, .int .i64 0, .pointer none] 80)).cell? ⟨ga, j * 4 + 2, none⟩ = some (.int .i64 0) := HAC.out _ HRN.out.below 2 _ HACT.out.a2 (by decide)
            have d3 : (w8.alloc (.cells #[.int .i64 0, .int .i64 0, .int .i64 0, .pointer none] 80)).cell? ⟨ga, j * 4 + 3, none⟩ = some (.pointer sv) := HAC.out _ HRN.out.below 3 _ HACT.out.a3 (by decide)
            have hlt1 : ga < w8.heap.size := by obtain ⟨cs, hcs⟩ := HGA.out; exact Nat.lt_of_lt_of_le (heap_lt hcs) HR2.out.below.size
            have hlt2 : tb < w8.heap.size := heap_lt HTB.out
            have hlt4 : pb < w8.heap.size := heap_lt (HPB.out _ HR2.out.below)
            go_region
            have hb6 : Below w8.heap.size w8 (w8.alloc (.cells #[.int .i64 kd, .int .i64 0, .int .i64 0, .pointer sv] 80)).drew := (below_newJ w8 _).drew
            have HR8 := Lib.hid (HR2.out.later hb6)
            have HT8 := Lib.hid ((hb6.block _ (heap_lt HTB.out)).trans HTB.out)
            have HA8 := Lib.hid (show (w8.alloc (.cells #[.int .i64 kd, .int .i64 0, .int .i64 0, .pointer sv] 80)).drew.heap[w8.heap.size]? = some (.cells #[.int .i64 kd, .int .i64 0, .int .i64 0, .pointer sv] 80 (0, 0)) from one_new w8 _)
            clear x0 xn0 cp c0 c1 c2 c3 dp d0 d1 d2 d3 hlt1 hlt2 hlt4 hb6 HR2 HTB HRN HAC HPB HGA
            obtain ⟨ab, hab⟩ : ∃ ab, w8.heap.size = ab := ⟨_, rfl⟩
            rw [hab] at HA8 ⊢
            clear hab
            generalize (w8.alloc (.cells #[.int .i64 kd, .int .i64 0, .int .i64 0, .pointer sv] 80)).drew = w9 at HR8 HT8 HA8 ⊢
            have y0 : w9.cell? ⟨ab, 0, none⟩ = some (.int .i64 kd) := block_cell HA8.out
            have r2 : w9.cell? ⟨rn, 2, none⟩ = some (.int .i64 a) := block_cell HR8.out.blk
            have f2 : w9.frozen? ⟨rn, 2, none⟩ = false := block_free HR8.out.blk
            by_cases hlast : j = l.length
            · have hk6 := HACT.out.last hlast
              subst hk6
              rcases HFND.out with ⟨hi0, hfa, hfal, hla⟩ | hne
              case inr => exact absurd (by rw [HJ.out]; exact hlast) hne
              case inl =>
                subst hi0
                have hnT0 := HR8.out.len
                have hN0 : (((F ++ [a]).take 0).filter (goesF L l a)).map (fun f => (a + 1 - f, f)) = [] := rfl
                rw [hN0] at hnT0
                have HR9 := HR8.out
                rw [hN0] at HR9
                have hnT1 : nT' = 0 := hnT0.symm
                subst hnT1
                have HRA := Lib.hid (HR9.setAt (a + 1))
                have HTA := Lib.hid ((Below.heap_setCell w9 ⟨rn, 2, none⟩ (.int .i64 ((a + 1 : Nat) : Int)) _ (type_ne HT8.out HR8.out.blk (by decide))).trans HT8.out)
                have HFA := Lib.hid hfa
                clear hN0 HR9 hfa
                go_wp2
                rw [show ((a : Int) + 1) = ((a + 1 : Nat) : Int) from by omega]
                generalize w9.setCell ⟨rn, 2, none⟩ (.int .i64 ((a + 1 : Nat) : Int)) = w10 at HRA HTA ⊢
                go_roundg (n + 1 - a)
                case measure => omega
                case rel => exact .inr ⟨a + 1, a - l.length, tb, _, _, _, _, by omega, by omega, rfl, by rw [show a - l.length + l.length = a from by omega], HRA.out, HFA.out, by omega, by have := HTA.out; rw [hlast, hfal] at this; exact this, HTBL.out⟩
            · have hjlt : j < l.length := by omega
              obtain ⟨hk0, hset⟩ := HACT.out.set hjlt
              subst hk0
              obtain ⟨x, hx⟩ : ∃ x, l[j] = x := ⟨_, rfl⟩
              rw [hx] at hset
              have HX := Lib.hid (show l.getD j 0 = x from by rw [List.getD_eq_getElem?_getD, List.getElem?_eq_getElem hjlt]; exact hx)
              have HTK := Lib.hid (take_one hif HFF.out)
              have HNO2 := Lib.hid (show ∀ g ∈ (F ++ [a]).take (i + 1), a - g ≠ l.length from fun g hg => by
                rw [HTK.out] at hg
                rcases List.mem_append.1 hg with h | h
                · exact HNO.out g h
                · rw [List.mem_singleton] at h
                  subst h
                  rw [HJ.out]
                  exact hlast)
              have HJL := Lib.hid hjlt
              have HIF := Lib.hid hif
              by_cases hlt2 : a < n
              · obtain ⟨lb, lo, hsl, lc0⟩ := HSW.out.at HR8.out.below hlt2
                obtain ⟨y, hy⟩ : ∃ y, gl L a = y := ⟨_, rfl⟩
                rw [hy] at lc0
                have HY := Lib.hid (show L.getD a 0 = y from hy)
                have z3 : w9.cell? ⟨ab, 3, none⟩ = some (.pointer sv) := block_cell HA8.out
                have HS9 := Lib.hid (hset.keep (KeepS.below (show Below w1.heap.size w1 w9.drew from HR8.out.below.drew)))
                have HGO := Lib.hid (show goesF L l a f = decide (y = x) from by
                  unfold goesF
                  rw [HY.out, HJ.out, HX.out, decide_eq_true (show a < L.length from by rw [HL.out]; exact hlt2), Bool.true_and])
                subst hsl
                have u1 : (a : Int) < (n : Int) := by omega
                have u2 : (0 : Int) ≤ (a : Int) := by omega
                clear hx hy hset hlast HACT
                go_wp2_with fail
                have hSd : w9.drew.cell? ⟨ab, 3, none⟩ = some (.pointer sv) ∧ w9.drew.cell? ⟨lb, lo + a, none⟩ = some (.int .i64 y) ∧ Below w9.heap.size w9 w9.drew := ⟨z3, lc0, (Below.refl w9.heap.size w9).drew⟩
                have HSD := Lib.hid hSd
                have hab9 : ab < w9.heap.size := heap_lt HA8.out
                have hlb9 : lb < w9.heap.size := block_lt_of_cell lc0
                clear hSd
                go_region_held3 (fun w' => w'.cell? ⟨ab, 3, none⟩ = some (.pointer sv) ∧ w'.cell? ⟨lb, lo + a, none⟩ = some (.int .i64 y) ∧ Below w9.heap.size w9 w')
                  (first | with_reducible exact HSD.out | with_reducible exact hs10.out | go_keep)
                  (first | (go_at_call 48; refine (takes_q _ _ sv x y HS9.out rfl).mono ?_; rintro e w10 ⟨rfl, hb10⟩; have HB10 := Lib.hid hb10; have hs10 := Lib.hid (show w10.cell? ⟨ab, 3, none⟩ = some (.pointer sv) ∧ w10.cell? ⟨lb, lo + a, none⟩ = some (.int .i64 y) ∧ Below w9.heap.size w9 w10 from ⟨(hb10.cell (p := ⟨ab, 3, none⟩) hab9).trans z3, (hb10.cell (p := ⟨lb, lo + a, none⟩) hlb9).trans lc0, ((Below.refl w9.heap.size w9).drew).trans hb10⟩); clear hb10))
                all_goals
                  have hbd : Below w9.heap.size w9 w10 := ((Below.refl w9.heap.size w9).drew).trans (HB10.out.mono (Nat.le_refl _))
                  have HR10 := Lib.hid (HR8.out.later hbd)
                  have HT10 := Lib.hid ((hbd.block _ (heap_lt HT8.out)).trans HT8.out)
                  clear hbd HB10 z3 lc0 y0 r2 f2 HR8 HT8 HA8 HS9
                  by_cases hyx : y = x
                  · rw [decide_eq_true hyx]
                    have HGT := Lib.hid (HGO.out.trans (decide_eq_true hyx))
                    have r2 : w10.cell? ⟨rn, 2, none⟩ = some (.int .i64 a) := block_cell HR10.out.blk
                    have f2 : w10.frozen? ⟨rn, 2, none⟩ = false := block_free HR10.out.blk
                    have HRA := Lib.hid (HR10.out.setAt (a + 1))
                    have HTA := Lib.hid ((Below.heap_setCell w10 ⟨rn, 2, none⟩ (.int .i64 ((a + 1 : Nat) : Int)) _ (type_ne HT10.out HR10.out.blk (by decide))).trans HT10.out)
                    clear hyx
                    go_upto_region 23 with (fail)
                    rw [show ((a : Int) + 1) = ((a + 1 : Nat) : Int) from by omega]
                    clear r2 f2 HR10 HT10
                    generalize w10.setCell ⟨rn, 2, none⟩ (.int .i64 ((a + 1 : Nat) : Int)) = w11 at HRA HTA ⊢
                    obtain ⟨kd2, sv2, hact2⟩ := HPW.out.act (j + 1) (by have := HJL.out; omega)
                    have hadd := add_c w1 w11 rn sb pb (.slice (some ⟨lb, lo, none⟩) n c) k1 (a + 1) S' sT' nT' cT' _ (some (go, oc)) HRA.out base _ ga cA HPAS.out (j + 1) f (by have := HJL.out; have := HK1.out; omega) kd2 sv2 hact2.kind hact2.a0 hact2.a1 hact2.a2 hact2.a3 (fun h0 => by
                      obtain ⟨g, hg, hgj⟩ := (HS2.out (j + 1) (by have := HJL.out; have := HK1.out; omega)).2 h0
                      have h1 := (List.mem_filter.1 hg).1
                      have h2 := take_lt HF.out.add HIF.out HFF.out h1
                      have := HJ.out
                      omega) (by have := HK1.out; omega) (by omega) (by omega) (by
                        have h1 := HRA.out.len
                        rw [List.length_map] at h1
                        have h2 := List.length_filter_le (goesF L l a) ((F ++ [a]).take i)
                        have h3 : ((F ++ [a]).take i).length ≤ i := List.length_take_le _ _
                        omega)
                    have HADD := Lib.hid hadd
                    have x0 : w11.cell? ⟨tb, 0, none⟩ = some (.int .i64 j) := block_cell HTA.out
                    have x1 : w11.cell? ⟨tb, 1, none⟩ = some (.int .i64 f) := block_cell HTA.out
                    have x2 : w11.cell? ⟨tb, 2, none⟩ = some (.pointer none) := block_cell HTA.out
                    have x3 : IntKind.i64.wrap ((j : Int) + 1) = ((j + 1 : Nat) : Int) := by rw [IntKind.wrap_i64]; omega
                    clear hadd hact2
                    go_wp2_with fail
                    refine HADD.out.mono ?_
                    rintro e w12 ⟨rfl, s12, c12, h12⟩
                    have r2 : w12.cell? ⟨rn, 2, none⟩ = some (.int .i64 ((a + 1 : Nat) : Int)) := block_cell h12.blk
                    have f2 : w12.frozen? ⟨rn, 2, none⟩ = false := block_free h12.blk
                    have HRZ := Lib.hid (h12.setAt a)
                    clear h12 HADD x0 x1 x2 HRA HTA
                    have HTL := Lib.hid (show (((F ++ [a]).take i).filter (goesF L l a)).map (fun f => (a + 1 - f, f)) ++ [(j + 1, f)] = (((F ++ [a]).take (i + 1)).filter (goesF L l a)).map (fun f => (a + 1 - f, f)) from by
                      rw [HTK.out, List.filter_append, List.map_append]
                      congr 1
                      rw [List.filter_cons_of_pos HGT.out, List.filter_nil, List.map_cons, List.map_nil]
                      have := HJ.out
                      rw [show a + 1 - f = j + 1 from by omega])
                    have HSL := Lib.hid (show SOk (fun i => if i = j + 1 then ((a + 1 + 1 : Nat) : Int) else S' i) k1 (a + 1) (((F ++ [a]).take (i + 1)).filter (goesF L l a)) (a + 1) from by
                      rw [HTK.out, List.filter_append, List.filter_cons_of_pos HGT.out, List.filter_nil]
                      exact HS2.out.go (by have := HJ.out; omega))
                    go_wp2
                    generalize w12.setCell ⟨rn, 2, none⟩ (.int .i64 a) = w13 at HRZ ⊢
                    go_roundg (gk - 1)
                    case measure => omega
                    case rel => exact ⟨i + 1, _, _, _, _, by omega, rfl, rfl, by go_num, by rw [← HTL.out]; exact HRZ.out, HSL.out, HNO2.out⟩
                  · rw [decide_eq_false hyx]
                    have HGF := Lib.hid (HGO.out.trans (decide_eq_false hyx))
                    have HFL := Lib.hid (show ((F ++ [a]).take (i + 1)).filter (goesF L l a) = ((F ++ [a]).take i).filter (goesF L l a) from by
                      rw [HTK.out, List.filter_append, List.filter_cons_of_neg (by rw [HGF.out]; exact Bool.false_ne_true), List.filter_nil, List.append_nil])
                    clear hyx
                    go_wp2
                    go_roundg (gk - 1)
                    case measure => omega
                    case rel => exact ⟨i + 1, _, _, _, _, by omega, rfl, rfl, by go_num, by rw [HFL.out]; exact HR10.out, by rw [HFL.out]; exact HS2.out, HNO2.out⟩
              · have HGF := Lib.hid (show goesF L l a f = false from by
                  unfold goesF
                  rw [decide_eq_false (show ¬ a < L.length from by rw [HL.out]; exact hlt2), Bool.false_and])
                have HFL := Lib.hid (show ((F ++ [a]).take (i + 1)).filter (goesF L l a) = ((F ++ [a]).take i).filter (goesF L l a) from by
                  rw [HTK.out, List.filter_append, List.filter_cons_of_neg (by rw [HGF.out]; exact Bool.false_ne_true), List.filter_nil, List.append_nil])
                have u1 : decide ((a : Int) < (n : Int)) = false := decide_eq_false (by omega)
                have u1b : decide (a < n) = false := decide_eq_false hlt2
                clear hx hset hlast HACT
                go_wp2_with fail
                go_quiet (fail)
                have HRQ := Lib.hid (HR8.out.later (below_drewN (n := nq) (Below.refl _ _)))
                clear HR8 HT8 HA8 y0 r2 f2
                generalize World.drewN w9 nq = w10 at HRQ ⊢
                go_wp2
                go_roundg (gk - 1)
                case measure => omega
                case rel => exact ⟨i + 1, _, _, _, _, by omega, rfl, rfl, by go_num, by rw [HFL.out]; exact HRQ.out, by rw [HFL.out]; exact HS2.out, HNO2.out⟩
          · obtain rfl : i = nT + 1 := by omega
            have HRA := Lib.hid (HR.out.setAt (a + 1))
            have HT := Lib.hid (show (F ++ [a]).take (nT + 1) = F ++ [a] from List.take_of_length_le (by rw [HL5.out]; exact Nat.le_refl _))
            have HF2 := Lib.hid (HF.out.step hsa (fun f hf => HNO.out f (by rw [HT.out]; exact hf)))
            have HPA2 := Lib.hid (HF.out.past hsa HPA.out (fun f hf => HNO.out f (by rw [HT.out]; exact hf)))
            rw [HT.out] at HRA HS2
            have q10 : ¬ (((nT + 1 : Nat) : Int) < ((nT + 1 : Nat) : Int)) := by omega
            go_wp2
            rw [show ((a : Int) + 1) = ((a + 1 : Nat) : Int) from by omega]
            generalize wr.setCell ⟨rn, 2, none⟩ (.int .i64 ((a + 1 : Nat) : Int)) = w7 at HRA ⊢
            go_roundg (n + 1 - a)
            case measure => omega
            case rel => exact .inl ⟨a + 1, _, _, _, _, _, _, by omega, by omega, by omega, rfl, rfl, HRA.out, HF2.out, HPA2.out, HS2.out⟩
      · have HNO := Lib.hid (none_at (W := l) hl (fun t h1 h2 => HPA.out t h1 (by have := HL.out; omega)))
        have q1 : ¬ ((a : Int) ≤ (n : Int)) := by omega
        have hr6 := (HR.out.below.block _ (heap_lt HR6.out)).trans HR6.out
        go_wp2_with (refine wpList_store_row rfl 23 _ _ rfl w.heap.size mZ rfl rfl _ _ hr6 mZ_info rfl mZ_all ?_)
        refine bodyPost_ret (run_results _ w.heap.size mZ false _ rfl rfl (row_set mZ hr6) mZ_info) rfl ⟨?_, .inr ⟨HNO.out, rfl⟩⟩
        exact (HB1.out.trans (HR.out.below.mono HB1.out.size)).trans (row_below mZ (Nat.le_refl _))
    · have HR := Lib.hid hr
      have HFI := Lib.hid hfi
      have HBX := Lib.hid hbx
      have r2 : wr.cell? ⟨rn, 2, none⟩ = some (.int .i64 a) := block_cell hr.blk
      have r4 : wr.cell? ⟨rn, 4, none⟩ = some (.slice sT 0 cT) := block_cell hr.blk
      have f4 : wr.frozen? ⟨rn, 4, none⟩ = false := block_free hr.blk
      obtain ⟨GG, hcl, _⟩ := hr.clear
      have HCL := Lib.hid hcl
      have hbx2 := (Below.heap_setCell wr ⟨rn, 4, none⟩ (.slice none 0 0) _ (type_ne hbx hr.blk (by decide))).trans hbx
      have HBX2 := Lib.hid hbx2
      clear hr hfi hbx hcl hbx2
      generalize ht0 : ((s + l.length : Nat) : Int) = tt
      have HTT := Lib.hid ht0
      clear ht0
      by_cases hlt : a ≤ n
      · have q1 : (a : Int) ≤ (n : Int) := by omega
        go_wp2_with fail
        go_step3
        go_wp2_with fail
        generalize wr.setCell ⟨rn, 4, none⟩ (.slice none 0 0) = w5 at HCL HBX2 ⊢
        have HB5 := Lib.hid HCL.out.below
        rw [Exit.noGoto_exit]
        clear r2 r4 f4 HCL HBX HR
        try simp only [Exit.inBlock_exit_self]
        go_upto_region 29 with (fail)
        have xb1 : w5.cell? ⟨bx, 1, none⟩ = some (.int .i64 s) := block_cell HBX2.out
        have hbm := below_newJ w5 (.cells mZ 23)
        have x1 : (w5.alloc (.cells mZ 23)).cell? ⟨bx, 1, none⟩ = some (.int .i64 s) := (hbm.cell (p := ⟨bx, 1, none⟩) (heap_lt HBX2.out)).trans xb1
        clear hbm xb1
        go_upto_region 30 with (fail)
        have hmb := one_new w5 (.cells (mL (mK s tt 2)) 23)
        have hbb := below_newJ w5 (.cells (mL (mK s tt 2)) 23)
        have HMB := Lib.hid hmb
        have HBB := Lib.hid hbb
        clear hmb hbb x1
        change Code.wp _ _ _ _ (w5.alloc (.cells (mL (mK s tt 2)) 23))
        generalize w5.alloc (.cells (mL (mK s tt 2)) 23) = w6 at HMB HBB ⊢
        obtain ⟨mb, hmbe⟩ : ∃ mb, w5.heap.size = mb := ⟨_, rfl⟩
        rw [hmbe] at HMB HBB ⊢
        have HBXL := Lib.hid (show bx < mb from by rw [← hmbe]; exact heap_lt HBX2.out)
        have HR6L := Lib.hid (show w.heap.size < mb from by rw [← hmbe]; exact Nat.lt_of_lt_of_le (heap_lt HR6.out) HB5.out.size)
        have HX6 := Lib.hid ((HBB.out.block bx HBXL.out).trans HBX2.out)
        have HR66 := Lib.hid (show w6.heap[w.heap.size]? = some (.cells mZ 23 (0, 0)) from ((HBB.out.block w.heap.size HR6L.out)).trans ((HB5.out.block w.heap.size (heap_lt HR6.out)).trans HR6.out))
        have HT6 := Lib.hid (show Below w.heap.size w w6 from (HB1.out.trans (HB5.out.mono HB1.out.size)).trans (HBB.out.mono (by have := HR6L.out; omega)))
        clear hmbe
        go_wp2_with fail
        go_loopg [17] 18 (fun gg kv wq => ∃ k : Nat, k + gg = 20 ∧ 2 ≤ k ∧ kv = .int .i64 k ∧ wq.heap[mb]? = some (.cells (mL (mK s tt k)) 23 (0, 0)) ∧ Below mb w6 wq)
        case atStart => exact ⟨2, rfl, by omega, rfl, HMB.out, Below.refl _ _⟩
        case round =>
          obtain ⟨k, hk, hk2, rfl, hm, hbq⟩ := hrel
          have HM := Lib.hid hm
          have HBQ := Lib.hid hbq
          have xb2 : wr.cell? ⟨bx, 2, none⟩ = some (.pointer none) := block_cell ((hbq.block bx HBXL.out).trans HX6.out)
          clear hm hbq
          by_cases hlt20 : k < 20
          · have e1 : (k : Int) < 20 := by omega
            have e2 : (0 : Int) ≤ (k : Int) := by omega
            have e3 : IntKind.i64.wrap ((k : Int) + 1) = ((k + 1 : Nat) : Int) := by rw [IntKind.wrap_i64]; omega
            have e4 : IntKind.i64.wrap (k : Int) = (k : Int) := by rw [IntKind.wrap_i64]; omega
            have m0 : wr.cell? ⟨mb, k, none⟩ = some (.int .i64 (mK s tt k k)) := (block_cell HM.out).trans (mL_at _ k hlt20)
            have m1 : wr.frozen? ⟨mb, k, none⟩ = false := block_free HM.out
            have hms : (wr.setCell ⟨mb, k, none⟩ (.int .i64 (-1))).heap[mb]? = some (.cells (mL (mK s tt (k + 1))) 23 (0, 0)) := by
              rw [block_set _ HM.out, mK_step s tt k hk2]
            have HMS := Lib.hid hms
            have HBS := Lib.hid (HBQ.out.setCell (p := ⟨mb, k, none⟩) (Nat.le_refl _) (.int .i64 (-1)))
            clear hms
            go_wp2_with fail
            refine (in_nil k _).mono ?_
            rintro e w9 ⟨rfl, rfl⟩
            go_wp2
            go_roundg (gk - 1)
            case measure => omega
            case rel => exact ⟨k + 1, by omega, by omega, by go_num, HMS.out, HBS.out⟩
          · obtain rfl : k = 20 := by omega
            have hr9 : wr.heap[w.heap.size]? = some (.cells mZ 23 (0, 0)) := (HBQ.out.block w.heap.size HR6L.out).trans HR66.out
            have hm20 : wr.heap[mb]? = some (.cells (mM s tt) 23 (0, 0)) := by rw [← mK_20]; exact HM.out
            go_wp2_with (first
              | (refine wpList_load_row rfl 23 _ rfl mb rfl _ _ _ _ hm20 Tryd.underlying23 rfl (mM_info s tt) ?_)
              | (refine wpList_store_row rfl 23 _ _ rfl w.heap.size (mM s tt) rfl rfl _ _ hr9 (mM_info s tt) rfl (mM_all s tt) ?_))
            refine bodyPost_ret (run_results _ w.heap.size (mM s tt) true _ rfl rfl (row_set (mM s tt) hr9) (mM_info s tt)) rfl ⟨?_, .inl ⟨s, HFI.out, by rw [HTT.out]⟩⟩
            exact (HT6.out.trans (HBQ.out.mono (by have := HR6L.out; omega))).trans (row_below (mM s tt) (Nat.le_refl _))
      · have q1 : ¬ (a : Int) ≤ (n : Int) := by omega
        have HB5 := Lib.hid HR.out.below
        clear r4 f4 HCL HBX2 HR
        go_upto_region 29 with (fail)
        have xb1 : wr.cell? ⟨bx, 1, none⟩ = some (.int .i64 s) := block_cell HBX.out
        have hbm := below_newJ wr (.cells mZ 23)
        have x1 : (wr.alloc (.cells mZ 23)).cell? ⟨bx, 1, none⟩ = some (.int .i64 s) := (hbm.cell (p := ⟨bx, 1, none⟩) (heap_lt HBX.out)).trans xb1
        clear hbm xb1
        go_upto_region 30 with (fail)
        have hmb := one_new wr (.cells (mL (mK s tt 2)) 23)
        have hbb := below_newJ wr (.cells (mL (mK s tt 2)) 23)
        have HMB := Lib.hid hmb
        have HBB := Lib.hid hbb
        clear hmb hbb x1
        change Code.wp _ _ _ _ (wr.alloc (.cells (mL (mK s tt 2)) 23))
        generalize wr.alloc (.cells (mL (mK s tt 2)) 23) = w6 at HMB HBB ⊢
        obtain ⟨mb, hmbe⟩ : ∃ mb, wr.heap.size = mb := ⟨_, rfl⟩
        rw [hmbe] at HMB HBB ⊢
        have HBXL := Lib.hid (show bx < mb from by rw [← hmbe]; exact heap_lt HBX.out)
        have HR6L := Lib.hid (show w.heap.size < mb from by rw [← hmbe]; exact Nat.lt_of_lt_of_le (heap_lt HR6.out) HB5.out.size)
        have HX6 := Lib.hid ((HBB.out.block bx HBXL.out).trans HBX.out)
        have HR66 := Lib.hid (show w6.heap[w.heap.size]? = some (.cells mZ 23 (0, 0)) from ((HBB.out.block w.heap.size HR6L.out)).trans ((HB5.out.block w.heap.size (heap_lt HR6.out)).trans HR6.out))
        have HT6 := Lib.hid (show Below w.heap.size w w6 from (HB1.out.trans (HB5.out.mono HB1.out.size)).trans (HBB.out.mono (by have := HR6L.out; omega)))
        clear hmbe
        go_wp2_with fail
        go_loopg [17] 18 (fun gg kv wq => ∃ k : Nat, k + gg = 20 ∧ 2 ≤ k ∧ kv = .int .i64 k ∧ wq.heap[mb]? = some (.cells (mL (mK s tt k)) 23 (0, 0)) ∧ Below mb w6 wq)
        case atStart => exact ⟨2, rfl, by omega, rfl, HMB.out, Below.refl _ _⟩
        case round =>
          obtain ⟨k, hk, hk2, rfl, hm, hbq⟩ := hrel
          have HM := Lib.hid hm
          have HBQ := Lib.hid hbq
          have xb2 : wr.cell? ⟨bx, 2, none⟩ = some (.pointer none) := block_cell ((hbq.block bx HBXL.out).trans HX6.out)
          clear hm hbq
          by_cases hlt20 : k < 20
          · have e1 : (k : Int) < 20 := by omega
            have e2 : (0 : Int) ≤ (k : Int) := by omega
            have e3 : IntKind.i64.wrap ((k : Int) + 1) = ((k + 1 : Nat) : Int) := by rw [IntKind.wrap_i64]; omega
            have e4 : IntKind.i64.wrap (k : Int) = (k : Int) := by rw [IntKind.wrap_i64]; omega
            have m0 : wr.cell? ⟨mb, k, none⟩ = some (.int .i64 (mK s tt k k)) := (block_cell HM.out).trans (mL_at _ k hlt20)
            have m1 : wr.frozen? ⟨mb, k, none⟩ = false := block_free HM.out
            have hms : (wr.setCell ⟨mb, k, none⟩ (.int .i64 (-1))).heap[mb]? = some (.cells (mL (mK s tt (k + 1))) 23 (0, 0)) := by
              rw [block_set _ HM.out, mK_step s tt k hk2]
            have HMS := Lib.hid hms
            have HBS := Lib.hid (HBQ.out.setCell (p := ⟨mb, k, none⟩) (Nat.le_refl _) (.int .i64 (-1)))
            clear hms
            go_wp2_with fail
            refine (in_nil k _).mono ?_
            rintro e w9 ⟨rfl, rfl⟩
            go_wp2
            go_roundg (gk - 1)
            case measure => omega
            case rel => exact ⟨k + 1, by omega, by omega, by go_num, HMS.out, HBS.out⟩
          · obtain rfl : k = 20 := by omega
            have hr9 : wr.heap[w.heap.size]? = some (.cells mZ 23 (0, 0)) := (HBQ.out.block w.heap.size HR6L.out).trans HR66.out
            have hm20 : wr.heap[mb]? = some (.cells (mM s tt) 23 (0, 0)) := by rw [← mK_20]; exact HM.out
            go_wp2_with (first
              | (refine wpList_load_row rfl 23 _ rfl mb rfl _ _ _ _ hm20 Tryd.underlying23 rfl (mM_info s tt) ?_)
              | (refine wpList_store_row rfl 23 _ _ rfl w.heap.size (mM s tt) rfl rfl _ _ hr9 (mM_info s tt) rfl (mM_all s tt) ?_))
            refine bodyPost_ret (run_results _ w.heap.size (mM s tt) true _ rfl rfl (row_set (mM s tt) hr9) (mM_info s tt)) rfl ⟨?_, .inl ⟨s, HFI.out, by rw [HTT.out]⟩⟩
            exact (HT6.out.trans (HBQ.out.mono (by have := HR6L.out; omega))).trans (row_below (mM s tt) (Nat.le_refl _))
end Go.Proofs.YtdegdoilpamjjaaDoor
