/- The runner's run, in general: what it holds. No walk. -/
import Derived.Laws.Rows
import Derived.Test.YtdegdoilpamjjaaDoorZAo
import Derived.Test.YtdegdoilpamjjaaDoorZAg
namespace Go.Proofs.YtdegdoilpamjjaaDoor
open Go.RowKit
set_option linter.unusedVariables false
abbrev mZg : Array Value := #[.int .i64 0, .int .i64 0, .int .i64 0, .int .i64 0, .int .i64 0, .int .i64 0, .int .i64 0, .int .i64 0, .int .i64 0, .int .i64 0, .int .i64 0, .int .i64 0, .int .i64 0, .int .i64 0, .int .i64 0, .int .i64 0, .int .i64 0, .int .i64 0, .int .i64 0, .int .i64 0]
theorem mZg_info : (Tryd.prog.info? 23).map (·.size) = some mZg.size := by
 have h2 : (Tryd.prog.info? 23).map (·.size) = some 20 := by kernel_rfl
 exact h2
theorem mZg_all : mZg.all (·.oneCell') = true := by simp [mZg, Value.oneCell']
def mLg (f : Nat → Int) : Array Value := ((List.range 20).map fun i => Value.int .i64 (f i)).toArray
theorem mLg_at (f : Nat → Int) (i : Nat) (h : i < 20) : (mLg f)[i]? = some (.int .i64 (f i)) := by
 unfold mLg
 simp [h]
theorem mLg_set (f : Nat → Int) (k : Nat) (x : Int) : (mLg f).setIfInBounds k (.int .i64 x) = mLg (fun i => if i = k then x else f i) := by
 apply Array.ext_getElem?
 intro i
 rw [Array.getElem?_setIfInBounds]
 by_cases h : i < 20
 ·
  rw [mLg_at _ i h]
  by_cases e : k = i
  ·
   subst e
   rw [if_pos rfl, if_pos (by unfold mLg; simp [h]), mLg_at _ k h, if_pos rfl]
  · rw [if_neg e, mLg_at _ i h, if_neg (fun h => e h.symm)]
 ·
  have e1 : (mLg f)[i]? = none := by unfold mLg; simp; omega
  have e2 : (mLg (fun i => if i = k then x else f i))[i]? = none := by unfold mLg; simp; omega
  rw [e1, e2]
  by_cases e : k = i
  · rw [if_pos e, if_neg (by unfold mLg; simp; omega)]
  · rw [if_neg e]
theorem mLg_all (f : Nat → Int) : (mLg f).all (·.oneCell') = true := by
 rw [Array.all_eq_true]
 intro i hi
 have h : i < 20 := by unfold mLg at hi; simpa using hi
 have := mLg_at f i h
 rw [Array.getElem?_eq_getElem hi] at this
 injection this with this
 rw [this]
 rfl
theorem mLg_info (f : Nat → Int) : (Tryd.prog.info? 23).map (·.size) = some (mLg f).size := by
 rw [mZg_info]
 unfold mLg
 simp
def mKg (b : BestD) (k : Nat) : Nat → Int := fun i => if i = 0 then b.from' else if i = 1 then (b.to' : Int) else if i < k then noteIn b.notes (i : Int) else 0
theorem mKg_2 (b : BestD) : mLg (mKg b 2) = #[.int .i64 b.from', .int .i64 b.to', .int .i64 0, .int .i64 0, .int .i64 0, .int .i64 0, .int .i64 0, .int .i64 0, .int .i64 0, .int .i64 0, .int .i64 0, .int .i64 0, .int .i64 0, .int .i64 0, .int .i64 0, .int .i64 0, .int .i64 0, .int .i64 0, .int .i64 0, .int .i64 0] := rfl
theorem mKg_step (b : BestD) (k : Nat) (h : 2 ≤ k) : (mLg (mKg b k)).setIfInBounds k (.int .i64 (noteIn b.notes (k : Int))) = mLg (mKg b (k + 1)) := by
 rw [mLg_set]
 congr 1
 funext i
 unfold mKg
 by_cases e : i = k
 ·
  subst e
  rw [if_pos rfl, if_neg (by omega), if_neg (by omega), if_pos (by omega)]
 ·
  rw [if_neg e]
  by_cases e0 : i = 0
  · rw [if_pos e0, if_pos e0]
  ·
   rw [if_neg e0, if_neg e0]
   by_cases e1 : i = 1
   · rw [if_pos e1, if_pos e1]
   ·
    rw [if_neg e1, if_neg e1]
    by_cases e2 : i < k
    · rw [if_pos e2, if_pos (by omega)]
    · rw [if_neg e2, if_neg (by omega)]
theorem row_setg {w : World} {g : Nat} {old : Array Value} {t : TypeId} (cs : Array Value) (h : w.heap[g]? = some (.cells old t (0, 0))) : (w.setRow g cs).heap[g]? = some (.cells cs t (0, 0)) := by
 show (w.heap.modify g _)[g]? = _
 rw [Array.getElem?_modify, if_pos rfl, h]; rfl
theorem row_belowg {w : World} {B g : Nat} (cs : Array Value) (h : B ≤ g) : Below B w (w.setRow g cs) :=
 ⟨rfl, rfl, rfl, by simp [World.setRow], fun k hk => by
  show (w.heap.modify g _)[k]? = _
  rw [Array.getElem?_modify, if_neg (by omega)]⟩
theorem run_resultsg (tmps : Array Value) (g : Nat) (cs : Array Value) (b : Bool) (w : World) (h6 : tmps.getD 6 undef = .pointer (some ⟨g, 0, none⟩)) (h7 : tmps.getD 7 undef = .bool b) (hg : w.heap[g]? = some (.cells cs 23 (0, 0))) (hi : (Tryd.prog.info? 23).map (·.size) = some cs.size) :
  (results Tryd.f32 tmps).run Tryd.prog w = .ok (.tuple #[.agg cs, .bool b]) w := by
 have hl := run_loadVar_row (P := Tryd.prog) w g 23 23 cs (0, 0) _ hg Tryd.underlying23 rfl hi
 simp only [Array.getD_eq_getD_getElem?] at h6 h7
 simp [results, Tryd.results32, h6, h7, asAddr, hl]
section
variable {w0 w w' : World} {rn sb pb : Nat} {line : Value} {N at' : Nat} {seen : Nat → Nat} {th : List ThD} {sT : Option Addr} {cT : Nat}
theorem RunG.begin (w1 : World) (pb N : Nat) (line : Value) :
  RunG w1 ((w1.alloc (.cells (madeCells #[.int .i64 0] N) 3)).alloc (.cells #[.pointer (some ⟨pb, 0, none⟩), line, .int .i64 0, .slice (some ⟨w1.heap.size, 0, none⟩) N N, .slice none 0 0] 102)).drew (w1.heap.size + 1) w1.heap.size pb line N 0 (fun _ => 0) [] none 0 := by
 have hr := row_made w1 N
 have hb := below_newJ w1 (.cells (madeCells #[.int .i64 0] N) 3)
 have hz := size_new w1 (.cells (madeCells #[.int .i64 0] N) 3)
 generalize w1.alloc (.cells (madeCells #[.int .i64 0] N) 3) = w2 at hr hb hz ⊢
 have h2 := one_new w2 (.cells #[.pointer (some ⟨pb, 0, none⟩), line, .int .i64 0, .slice (some ⟨w1.heap.size, 0, none⟩) N N, .slice none 0 0] 102)
 have hb2 := below_newJ w2 (.cells #[.pointer (some ⟨pb, 0, none⟩), line, .int .i64 0, .slice (some ⟨w1.heap.size, 0, none⟩) N N, .slice none 0 0] 102)
 rw [hz] at h2
 exact ⟨(hb.trans (hb2.mono hb.size)).drew, h2, (hr.later hb2).block rfl, ⟨[], World.ownsRow_nil _ _ _ _, rfl⟩, by omega, Nat.le_refl _⟩
theorem RunG.oth (h : RunG w0 w rn sb pb line N at' seen th sT cT) (i : Nat) (v : Value) : Below w0.heap.size w0 (w.setCell ⟨rn, i, none⟩ v) ∧ IRow (w.setCell ⟨rn, i, none⟩ v) sb N (fun i => (seen i : Int)) ∧ KeepSl w (w.setCell ⟨rn, i, none⟩ v) ∧ (∀ {b : Nat} {cs : Array Value} {T : TypeId}, w.heap[b]? = some (.cells cs T (0, 0)) → T ≠ 102 → (w.setCell ⟨rn, i, none⟩ v).heap[b]? = w.heap[b]?) := by
 obtain ⟨cs, hs, _⟩ := id h.seen
 have hoff : ∀ {b : Nat} {c2 : Array Value} {T : TypeId}, w.heap[b]? = some (.cells c2 T (0, 0)) → T ≠ 102 → (w.setCell ⟨rn, i, none⟩ v).heap[b]? = w.heap[b]? := fun hb hT => Below.heap_setCell _ ⟨rn, i, none⟩ _ _ (type_ne hb h.blk hT)
 exact ⟨h.below.setCell (p := ⟨rn, i, none⟩) h.rge _, h.seen.block (hoff hs (by decide)), KeepSl.set (p := ⟨rn, i, none⟩) _ h.blk (by decide), hoff⟩
theorem RunG.setAt (h : RunG w0 w rn sb pb line N at' seen th sT cT) (a : Nat) : RunG w0 (w.setCell ⟨rn, 2, none⟩ (.int .i64 a)) rn sb pb line N a seen th sT cT := by
 obtain ⟨p1, p2, p3, p4⟩ := h.oth 2 (.int .i64 a)
 obtain ⟨xs, h1, h2⟩ := h.own
 refine ⟨p1, by rw [block_set _ h.blk]; rfl, p2, ⟨xs, own_kept h1 fun b hb => ?_, h2.keep p3⟩, h.rge, h.sge⟩
 obtain ⟨c2, h5⟩ := own_type h1 hb
 exact p4 h5 (by decide)
theorem RunG.clear (h : RunG w0 w rn sb pb line N at' seen th sT cT) : RunG w0 (w.setCell ⟨rn, 4, none⟩ (.slice none 0 0)) rn sb pb line N at' seen [] none 0 := by
 obtain ⟨p1, p2, p3, p4⟩ := h.oth 4 (.slice none 0 0)
 exact ⟨p1, by rw [block_set _ h.blk]; rfl, p2, ⟨[], World.ownsRow_nil _ _ _ _, rfl⟩, h.rge, h.sge⟩
theorem ThsR.nth {w : World} {lo : Nat} : ∀ {l : List ThD} {xs : List Value} (h : ThsR w lo l xs) (i : Nat) (hi : i < l.length), ∃ q, xs[i * 3]? = some (.int .i64 l[i].act) ∧ xs[i * 3 + 1]? = some (.int .i64 l[i].from') ∧ xs[i * 3 + 2]? = some (.pointer q) ∧ NoteR w lo q l[i].notes
 | t :: l, xs, ⟨p, ys, e, h1, h2⟩, 0, hi => by subst e; exact ⟨p, rfl, rfl, rfl, h1⟩
 | t :: l, xs, ⟨p, ys, e, h1, h2⟩, i + 1, hi => by
  subst e
  obtain ⟨q, a1, a2, a3, a4⟩ := ThsR.nth h2 i (by simpa using hi)
  have e3 : (thV t.act t.from' p).length = 3 := rfl
  refine ⟨q, ?_, ?_, ?_, a4⟩
  · rw [List.getElem?_append_right (by omega), e3, show (i + 1) * 3 - 3 = i * 3 from by omega]; exact a1
  · rw [List.getElem?_append_right (by omega), e3, show (i + 1) * 3 + 1 - 3 = i * 3 + 1 from by omega]; exact a2
  · rw [List.getElem?_append_right (by omega), e3, show (i + 1) * 3 + 2 - 3 = i * 3 + 2 from by omega]; exact a3
theorem RunG.old (h : RunG w0 w rn sb pb line N at' seen th sT cT) (h0 : 0 < th.length) : ∃ go, sT = some ⟨go, 0, none⟩ ∧ ∀ W, Touch (fun b => b = rn ∨ b = sb) (w.setCell ⟨rn, 4, none⟩ (.slice none 0 0)) W → ∀ i (hi : i < th.length), ∃ q, W.cell? ⟨go, i * 3, none⟩ = some (.int .i64 th[i].act) ∧ W.cell? ⟨go, i * 3 + 1, none⟩ = some (.int .i64 th[i].from') ∧ W.cell? ⟨go, i * 3 + 2, none⟩ = some (.pointer q) ∧ NoteR W w0.heap.size q th[i].notes := by
 obtain ⟨xs, h1, h2⟩ := h.own
 obtain ⟨p1, p2, p3, p4⟩ := h.oth 4 (.slice none 0 0)
 obtain ⟨ics, hs, _⟩ := id h.seen
 have hg : ∃ g, sT = some ⟨g, 0, none⟩ := by
  rcases h1.2 with ⟨_, e⟩ | ⟨g, cap, cur, e, _⟩
  · omega
  · exact ⟨g, (Value.slice.inj e).1⟩
 obtain ⟨go, rfl⟩ := hg
 refine ⟨go, rfl, fun W hW i hi => ?_⟩
 obtain ⟨q, a1, a2, a3, a4⟩ := h2.nth i hi
 obtain ⟨cs, hcs⟩ := own_type h1 (b := go) rfl
 have hsz : (w.setCell ⟨rn, 4, none⟩ (.slice none 0 0)).heap.size = w.heap.size := by simp [World.setCell]
 have hkeep : ∀ {b : Nat} {c2 : Array Value} {T : TypeId}, w.heap[b]? = some (.cells c2 T (0, 0)) → T ≠ 102 → T ≠ 3 → W.heap[b]? = w.heap[b]? := fun {b c2 T} hb hT hT2 => (hW.block b (by rw [hsz]; exact heap_lt hb) (fun e => by
  rcases e with e | e
  · exact type_ne hb h.blk hT e
  · exact type_ne hb hs hT2 e)).trans (p4 hb hT)
 have hc : ∀ j u, j < 3 → xs[i * 3 + j]? = some u → W.cell? ⟨go, i * 3 + j, none⟩ = some u := fun j u hj hu => by
  rw [World.cell?_of_block (w := w) (hkeep hcs (by decide) (by decide)), World.ownsRow.cellAt h1 (i * 3 + j) (by omega)]
  exact hu
 exact ⟨q, hc 0 _ (by decide) a1, hc 1 _ (by decide) a2, hc 2 _ (by decide) a3, a4.keep fun b cs hb => (hkeep hb (by decide) (by decide)).trans hb⟩
end
def BestR (w : World) (lo : Nat) (own : Option Nat) : Option BestD → Value → Value → Prop
 | none, bv, tv => bv = .pointer none ∧ tv = .int .i64 0
 | some b, bv, tv => ∃ bb a q, bv = .pointer (some ⟨bb, 0, none⟩) ∧ tv = .int .i64 (b.to' : Int) ∧ w.heap[bb]? = some (.cells #[.int .i64 a, .int .i64 b.from', .pointer q] 107 (0, 0)) ∧ lo ≤ bb ∧ NoteR w lo q b.notes ∧ own ≠ some bb
theorem BestR.keep {w w' : World} {lo : Nat} {own own' : Option Nat} {b : Option BestD} {bv tv : Value} (h : BestR w lo own b bv tv) (hk : ∀ (x : Nat) (cs : Array Value) (T : TypeId), w.heap[x]? = some (.cells cs T (0, 0)) → (T = 131 ∨ (T = 107 ∧ own ≠ some x)) → w'.heap[x]? = some (.cells cs T (0, 0))) (ho : own' = own ∨ own' = none ∨ ∃ x, own' = some x ∧ w.heap.size ≤ x) : BestR w' lo own' b bv tv := by
 cases b with
 | none => exact h
 | some b =>
  obtain ⟨bb, a, q, h1, h2, h3, h4, h5, h6⟩ := h
  refine ⟨bb, a, q, h1, h2, hk _ _ _ h3 (.inr ⟨rfl, h6⟩), h4, h5.keep fun x cs hx => hk _ _ _ hx (.inl rfl), ?_⟩
  rcases ho with rfl | rfl | ⟨x, rfl, hx⟩
  · exact h6
  · exact fun e => by cases e
  ·
   intro e
   injection e with e
   have := heap_lt h3
   omega
theorem stepP_cons (G : GlyD) (acts : List ActD) (deep : Nat) (line : List Int) (here : Nat) (t : ThD) (old : List ThD) (seen : Nat → Nat) (th : List ThD) (best : Option BestD) (hj : t.act < acts.length) :
  stepP' G acts deep line here (t :: old) seen th best = if acts[t.act].kind = 6 then (seen, th, some ⟨t.from', here, t.notes⟩) else
   if acts[t.act].kind = 0 ∧ here < line.length ∧ takesP G (acts[t.act].s.getD ⟨[], [], false, false⟩) (line.getD here 0) = true then stepP' G acts deep line here old (addAll G acts deep line (here + 1) (t.act + 1 : Nat) t.from' t.notes seen th).1 (addAll G acts deep line (here + 1) (t.act + 1 : Nat) t.from' t.notes seen th).2 best
   else stepP' G acts deep line here old seen th best := by
 rw [stepP']
 have e : acts.getD t.act ⟨6, 0, 0, none⟩ = acts[t.act] := by simp [hj]
 simp only [e]
end Go.Proofs.YtdegdoilpamjjaaDoor
