/- What KeysFresh holds in memory: two parsers, four lists of slices; steps on it. No walk but Pending and Spell. -/
import Derived.Test.YtampjndfhpjheaaHa
import Derived.Test.YtampjndfhpjheaaSj
namespace Go.Proofs.Ytampjndfhpjheaa
open Go.RowKit
set_option linter.unusedVariables false
set_option linter.unusedSimpArgs false
def newQ (cls : Nat → Nat) (n m i : Nat) (b : Nat) : Nat := if n ≤ b ∧ b < m then i else cls b
theorem newQ_new {cls : Nat → Nat} {n m i b : Nat} (h1 : n ≤ b) (h2 : b < m) : newQ cls n m i b = i := if_pos ⟨h1, h2⟩
theorem newQ_old {cls : Nat → Nat} {n m i b : Nat} (h : b < n) : newQ cls n m i b = cls b := if_neg (fun e => by omega)
/-- what holds of all marked blocks -/
structure MB (w wr : World) (cls : Nat → Nat) (n0 : Nat) : Prop where
  lt : ∀ b, cls b ≠ 0 → b < wr.heap.size
  low : ∀ b, cls b ≠ 0 → w.heap.size ≤ b
  below : Below w.heap.size w wr
  n : n0 ≤ wr.heap.size
theorem MB.zero {w wr : World} {cls : Nat → Nat} {n0 b : Nat} (h : MB w wr cls n0) (hb : wr.heap.size ≤ b) : cls b = 0 := Classical.byContradiction fun e => by have := h.lt b e; omega
/-- a step that writes into blocks of class i, and marks new blocks i or not at all -/
structure Sp (a b : World) (x y : Nat → Nat) (i : Nat) : Prop where
  touch : Touch (fun c => x c = i) a b
  same : ∀ c, c < a.heap.size → y c = x c
  new : ∀ c, a.heap.size ≤ c → y c = 0 ∨ y c = i
  end' : ∀ c, b.heap.size ≤ c → y c = 0
theorem Sp.of {w a b : World} {x : Nat → Nat} {n0 : Nat} (h : MB w a x n0) (hb : Below a.heap.size a b) (i : Nat) : Sp a b x x i :=
  ⟨Touch.of hb, fun _ _ => rfl, fun c hc => .inl (h.zero hc), fun c hc => h.zero (Nat.le_trans hb.size hc)⟩
theorem MB.sp {w a b : World} {x y : Nat → Nat} {n0 i : Nat} (h : MB w a x n0) (k : Sp a b x y i) (hi : i ≠ 0) : MB w b y n0 where
  lt := fun c hc => Classical.byContradiction fun e => hc (k.end' c (by omega))
  low := fun c hc => by
    by_cases hlt : c < a.heap.size
    · rw [k.same c hlt] at hc; exact h.low c hc
    · have := h.below.size; omega
  below := h.below.trans (k.touch.below (fun c hc => h.low c (by omega)) h.below.size)
  n := Nat.le_trans h.n k.touch.size
theorem newQ_sp {w a b : World} {x : Nat → Nat} {n0 i : Nat} (h : MB w a x n0) (ht : Touch (fun c => x c = i) a b) : Sp a b x (newQ x a.heap.size b.heap.size i) i where
  touch := ht
  same := fun c hc => newQ_old hc
  new := fun c hc => by
    by_cases h1 : c < b.heap.size
    · rw [newQ_new hc h1]; exact .inr rfl
    · left; unfold newQ; rw [if_neg (fun e => by omega)]; exact h.zero hc
  end' := fun c hc => by
    unfold newQ; rw [if_neg (fun e => by omega)]; exact h.zero (Nat.le_trans ht.size hc)
/-- a parser -/
def PQ (wr : World) (cls : Nat → Nat) (n0 i pb : Nat) (p : Par) : Prop := ∃ R : Nat → Prop, ParF wr (fun b => cls b = i) R pb p ∧ ∀ b, R b → cls b = 0 ∧ b < n0
theorem PQ.sp {w a b : World} {x y : Nat → Nat} {n0 i k pb : Nat} {p : Par} (h : PQ a x n0 k pb p) (hm : MB w a x n0) (st : Sp a b x y i) (hi : i ≠ 0) (hk : k ≠ 0) (hki : k ≠ i) : PQ b y n0 k pb p := by
  obtain ⟨R, h1, h2⟩ := h
  have e : (fun c => x c = k) = (fun c => y c = k) := by
    funext c
    by_cases hlt : c < a.heap.size
    · rw [st.same c hlt]
    · have h0 := hm.zero (b := c) (by omega)
      have h3 := st.new c (by omega)
      rw [h0]
      exact propext ⟨fun e => by omega, fun e => by omega⟩
  have h3 := h1.kept st.touch (fun c hc hO => by have hc : x c = k := hc; have hO : x c = i := hO; omega) (fun c hc hO => by have := h2 c hc; have hO : x c = i := hO; omega)
  rw [e] at h3
  exact ⟨R, h3, fun c hc => ⟨by rw [st.same c (Nat.lt_of_lt_of_le (h2 c hc).2 hm.n)]; exact (h2 c hc).1, (h2 c hc).2⟩⟩
theorem PQ.feed {w a : World} {x : Nat → Nat} {n0 i pb : Nat} {p : Par} (h : PQ a x n0 i pb p) (hm : MB w a x n0) (hi : i ≠ 0) (mode key : Int) (hk : ∀ z ∈ p.pend, inKey z) (hkey : inKey key) (hl : p.pend.length < 4294967295) :
    Calls Try.prog 26 #[.pointer (some ⟨pb, 0, none⟩), .int .i64 mode, .int .i64 key] a fun e b => e = .returned (.tuple #[.agg (feedP p mode key).2.1.cells, .int .i64 ((feedP p mode key).2.2 : Nat)]) ∧
      ∃ y, Sp a b x y i ∧ PQ b y n0 i pb (feedP p mode key).1 := by
  obtain ⟨R, h1, h2⟩ := h
  refine (feed_f (fun b => x b = i) R pb p mode key a h1 hk hkey hl).mono ?_
  rintro e b ⟨rfl, hp, ht⟩
  refine ⟨rfl, newQ x a.heap.size b.heap.size i, newQ_sp hm ht, R, ?_, fun c hc => ⟨by rw [newQ_old (Nat.lt_of_lt_of_le (h2 c hc).2 hm.n)]; exact (h2 c hc).1, (h2 c hc).2⟩⟩
  have e : FG (fun b => x b = i) a b = (fun c => newQ x a.heap.size b.heap.size i c = i) := by
    funext c
    unfold FG newQ
    by_cases h1 : a.heap.size ≤ c ∧ c < b.heap.size
    · rw [if_pos h1]; simp [h1]
    · rw [if_neg h1]; simp [h1]
  rw [e] at hp
  exact hp
/-- a slice of ints whose block is of class c -/
def HC (wr : World) (cls : Nat → Nat) (n0 c : Nat) (v : Value) (l : List Int) : Prop := OwnInts wr 0 v l ∧ ∀ b, v.ownBlock = some b → cls b = c ∧ n0 ≤ b
theorem HC.lt {wr : World} {cls : Nat → Nat} {n0 c : Nat} {v : Value} {l : List Int} (h : HC wr cls n0 c v l) {b : Nat} (hb : v.ownBlock = some b) : b < wr.heap.size := (World.ownsRow.lt h.1 b hb).2
theorem HC.sp {a b : World} {x y : Nat → Nat} {n0 c i : Nat} {v : Value} {l : List Int} (h : HC a x n0 c v l) (st : Sp a b x y i) (hc : c ≠ i) : HC b y n0 c v l :=
  ⟨OwnInts.kept h.1 (fun g hg he => st.touch.block g hg (fun e => by have := (h.2 g he).1; have e : x g = i := e; omega)), fun g hg => ⟨by rw [st.same g (h.lt hg)]; exact (h.2 g hg).1, (h.2 g hg).2⟩⟩
/-- what a call has made -/
structure Made (w w' : World) (s : Option Addr) (c : Nat) (l : List Int) : Prop where
  own : OwnInts w' 0 (.slice s l.length c) l
  new : ∀ b, (Value.slice s l.length c).ownBlock = some b → w.heap.size ≤ b
  below : Below w.heap.size w w'
  len : l.length < 1000
theorem Made.hc {w0 w w' : World} {s : Option Addr} {c n0 : Nat} {l : List Int} {x : Nat → Nat} (h : Made w w' s c l) (hm : MB w0 w x n0) : HC w' x n0 0 (.slice s l.length c) l :=
  ⟨h.own, fun b hb => ⟨hm.zero (h.new b hb), Nat.le_trans hm.n (h.new b hb)⟩⟩
theorem Made.live {w0 w w' : World} {s : Option Addr} {c n0 : Nat} {l : List Int} {x : Nat → Nat} (h : Made w w' s c l) (hm : MB w0 w x n0) : Sp w w' x (newQ x w.heap.size w'.heap.size 20) 20 ∧ HC w' (newQ x w.heap.size w'.heap.size 20) n0 20 (.slice s l.length c) l :=
  ⟨newQ_sp hm (Touch.of h.below), h.own, fun b hb => ⟨newQ_new (h.new b hb) (World.ownsRow.lt h.own b hb).2, Nat.le_trans hm.n (h.new b hb)⟩⟩
theorem PQ.pend {w a : World} {x : Nat → Nat} {n0 i pb : Nat} {p : Par} (h : PQ a x n0 i pb p) (hl : p.pend.length < 1000) :
    Calls Try.prog 28 #[.pointer (some ⟨pb, 0, none⟩)] a fun e b => ∃ s c, e = .returned (.slice s p.pend.length c) ∧ Made a b s c p.pend := by
  obtain ⟨R, ⟨ow, tb, h1, _⟩, _⟩ := h
  refine (pending_c 0 ow pb tb p a h1 (by omega)).mono ?_
  rintro e b ⟨s, c, rfl, ho, hb⟩
  exact ⟨s, c, rfl, ⟨ho.mono (Nat.zero_le _), fun g hg => (World.ownsRow.lt ho g hg).1, hb, hl⟩⟩
theorem spell_m (mode : Int) (c : Cmd) (a : World) (hreg : inKey c.reg) (harg : inKey c.arg) :
    Calls Try.prog 16 #[.int .i64 mode, .agg c.cells] a fun e b => ∃ s k, e = .returned (.slice s ((spellP (selP mode) c).getD []).length k) ∧ Made a b s k ((spellP (selP mode) c).getD []) := by
  refine (spell_c mode c a hreg harg).mono ?_
  rintro e b ⟨v, rfl, hv, hb⟩
  cases hs : spellP (selP mode) c with
  | none =>
    rw [hs] at hv
    have hv : v = .slice none 0 0 := hv
    subst hv
    exact ⟨none, 0, rfl, ⟨OwnInts.nil _ _, (fun g hg => by cases hg), hb, by decide⟩⟩
  | some l =>
    rw [hs] at hv
    obtain ⟨g, k, rfl, hq, hg, hl⟩ := hv
    exact ⟨some ⟨g, 0, none⟩, k, rfl, hq, fun g' hg' => by cases hg'; exact hg, hb, hl⟩
/-- a list of slices -/
structure RD where
  V : Value
  vs : List Value
  ls : List (List Int)
def OwnL (w : World) (V : Value) (vs : List Value) : Prop := w.ownsRow 0 33 1 V vs.length vs
structure RW (wr : World) (cls : Nat → Nat) (n0 c : Nat) (r : RD) : Prop where
  own : OwnL wr r.V r.vs
  cl : ∀ b, r.V.ownBlock = some b → cls b = c ∧ n0 ≤ b
  len : r.vs.length = r.ls.length
  each : ∀ i (h : i < r.vs.length) (h' : i < r.ls.length), HC wr cls n0 0 r.vs[i] r.ls[i]
theorem RW.nil (wr : World) (cls : Nat → Nat) (n0 c : Nat) : RW wr cls n0 c ⟨.slice none 0 0, [], []⟩ :=
  ⟨World.ownsRow_nil wr 0 _ 1, (fun b hb => by cases hb), rfl, (fun i h => by cases h)⟩
theorem own_keptL {w w' : World} {V : Value} {vs : List Value} (h : OwnL w V vs) (k : ∀ b, b < w.heap.size → V.ownBlock = some b → w'.heap[b]? = w.heap[b]?) : OwnL w' V vs := by
  refine ⟨h.1, ?_⟩
  rcases h.2 with hn | ⟨g, cap, cur, e, hg, hgg, rest⟩
  · exact .inl hn
  · exact .inr ⟨g, cap, cur, e, hg, (k g (heap_lt hgg) (by rw [e]; rfl)).trans hgg, rest⟩
theorem RW.sp {a b : World} {x y : Nat → Nat} {n0 c i : Nat} {r : RD} (h : RW a x n0 c r) (st : Sp a b x y i) (hc : c ≠ i) (hi : i ≠ 0) : RW b y n0 c r where
  own := own_keptL h.own (fun g hg he => st.touch.block g hg (fun e => by have := (h.cl g he).1; have e : x g = i := e; omega))
  cl := fun g hg => ⟨by rw [st.same g (World.ownsRow.lt h.own g hg).2]; exact (h.cl g hg).1, (h.cl g hg).2⟩
  len := h.len
  each := fun j hj hj' => (h.each j hj hj').sp st (fun e => hi e.symm)
theorem RW.push {w a b : World} {x : Nat → Nat} {n0 c : Nat} {r : RD} {V' : Value} {xs : List Value} {lx : List (List Int)} (hm : MB w a x n0) (h : RW a x n0 c r) (hc : c ≠ 0) (ho : OwnL b V' (r.vs ++ xs)) (hg : a.grownBy b r.V.ownBlock)
    (hat : V'.ownBlock = r.V.ownBlock ∨ ∃ g, V'.ownBlock = some g ∧ a.heap.size ≤ g) (hl : xs.length = lx.length) (hx : ∀ i (h : i < xs.length) (h' : i < lx.length), HC a x n0 0 xs[i] lx[i]) :
    ∃ y, Sp a b x y c ∧ RW b y n0 c ⟨V', r.vs ++ xs, r.ls ++ lx⟩ := by
  have ht : Touch (fun g => x g = c) a b := Touch.grown hg (fun g hg' => (h.cl g hg').1)
  have st := newQ_sp hm ht
  refine ⟨_, st, ho, fun g hg' => ?_, by simp [h.len, hl], fun i hi hi' => ?_⟩
  · rcases hat with e | ⟨g', e, he⟩
    · have h1 := e ▸ hg'
      rw [newQ_old (World.ownsRow.lt h.own g h1).2]; exact h.cl g h1
    · have h3 : some g' = some g := e.symm.trans hg'
      injection h3 with h3
      subst h3
      exact ⟨newQ_new he (World.ownsRow.lt ho g' hg').2, Nat.le_trans hm.n he⟩
  · simp only at hi hi' ⊢
    by_cases h1 : i < r.vs.length
    · rw [List.getElem_append_left h1, List.getElem_append_left (by rw [← h.len]; exact h1)]
      exact (h.each i h1 (by rw [← h.len]; exact h1)).sp st (fun e => hc e.symm)
    · rw [List.getElem_append_right (by omega), List.getElem_append_right (by rw [← h.len]; omega)]
      have h2 : i - r.vs.length < xs.length := by rw [List.length_append] at hi; omega
      have h3 := hx (i - r.vs.length) h2 (by omega)
      have e : r.ls[i - r.ls.length]? = r.ls[i - r.ls.length]? := rfl
      simp only [← h.len]
      exact h3.sp st (fun e => hc e.symm)
/-- no two slices share a block -/
def Lone (vs : List Value) : Prop := ∀ i j (hi : i < vs.length) (hj : j < vs.length), i ≠ j → ∀ b, vs[i].ownBlock = some b → vs[j].ownBlock ≠ some b
/-- all that KeysFresh holds -/
structure KF (w wr : World) (cls : Nat → Nat) (n0 pb qb bx : Nat) (C : Array Value) (vw : Value) (lw : List Int) (P Q : Par) (r1 r2 r3 r4 : RD) : Prop where
  m : MB w wr cls n0
  p : PQ wr cls n0 1 pb P
  q : PQ wr cls n0 2 qb Q
  w1 : RW wr cls n0 11 r1
  w2 : RW wr cls n0 12 r2
  w3 : RW wr cls n0 13 r3
  w4 : RW wr cls n0 14 r4
  lone : Lone r3.vs
  box : wr.heap[bx]? = some (.cells C 44 (0, 0)) ∧ cls bx = 0
  want : HC wr cls n0 0 vw lw
theorem box_sp {a b : World} {x y : Nat → Nat} {i bx : Nat} {C : Array Value} {t : TypeId} (h : a.heap[bx]? = some (.cells C t (0, 0)) ∧ x bx = 0) (st : Sp a b x y i) (hi : i ≠ 0) : b.heap[bx]? = some (.cells C t (0, 0)) ∧ y bx = 0 :=
  ⟨(st.touch.block bx (heap_lt h.1) (fun e => by have e : x bx = i := e; omega)).trans h.1, by rw [st.same bx (heap_lt h.1)]; exact h.2⟩
theorem KF.sp {w a b : World} {x y : Nat → Nat} {n0 pb qb bx i : Nat} {C : Array Value} {vw : Value} {lw : List Int} {P Q : Par} {r1 r2 r3 r4 : RD} (h : KF w a x n0 pb qb bx C vw lw P Q r1 r2 r3 r4) (st : Sp a b x y i) (hi : i = 20) : KF w b y n0 pb qb bx C vw lw P Q r1 r2 r3 r4 := by
  subst hi
  exact ⟨h.m.sp st (by decide), h.p.sp h.m st (by decide) (by decide) (by decide), h.q.sp h.m st (by decide) (by decide) (by decide), h.w1.sp st (by decide) (by decide), h.w2.sp st (by decide) (by decide), h.w3.sp st (by decide) (by decide), h.w4.sp st (by decide) (by decide), h.lone, box_sp h.box st (by decide), h.want.sp st (by decide)⟩
theorem KF.later {w a b : World} {x : Nat → Nat} {n0 pb qb bx : Nat} {C : Array Value} {vw : Value} {lw : List Int} {P Q : Par} {r1 r2 r3 r4 : RD} (h : KF w a x n0 pb qb bx C vw lw P Q r1 r2 r3 r4) (hb : Below a.heap.size a b) : KF w b x n0 pb qb bx C vw lw P Q r1 r2 r3 r4 := h.sp (Sp.of h.m hb 20) rfl
theorem KF.row1 {w a b : World} {x y : Nat → Nat} {n0 pb qb bx : Nat} {C : Array Value} {vw : Value} {lw : List Int} {P Q : Par} {r1 r1' r2 r3 r4 : RD} (h : KF w a x n0 pb qb bx C vw lw P Q r1 r2 r3 r4) (st : Sp a b x y 11) (h' : RW b y n0 11 r1') : KF w b y n0 pb qb bx C vw lw P Q r1' r2 r3 r4 :=
  ⟨h.m.sp st (by decide), h.p.sp h.m st (by decide) (by decide) (by decide), h.q.sp h.m st (by decide) (by decide) (by decide), h', h.w2.sp st (by decide) (by decide), h.w3.sp st (by decide) (by decide), h.w4.sp st (by decide) (by decide), h.lone, box_sp h.box st (by decide), h.want.sp st (by decide)⟩
theorem KF.row2 {w a b : World} {x y : Nat → Nat} {n0 pb qb bx : Nat} {C : Array Value} {vw : Value} {lw : List Int} {P Q : Par} {r1 r2 r2' r3 r4 : RD} (h : KF w a x n0 pb qb bx C vw lw P Q r1 r2 r3 r4) (st : Sp a b x y 12) (h' : RW b y n0 12 r2') : KF w b y n0 pb qb bx C vw lw P Q r1 r2' r3 r4 :=
  ⟨h.m.sp st (by decide), h.p.sp h.m st (by decide) (by decide) (by decide), h.q.sp h.m st (by decide) (by decide) (by decide), h.w1.sp st (by decide) (by decide), h', h.w3.sp st (by decide) (by decide), h.w4.sp st (by decide) (by decide), h.lone, box_sp h.box st (by decide), h.want.sp st (by decide)⟩
theorem KF.row3 {w a b : World} {x y : Nat → Nat} {n0 pb qb bx : Nat} {C : Array Value} {vw : Value} {lw : List Int} {P Q : Par} {r1 r2 r3 r3' r4 : RD} (h : KF w a x n0 pb qb bx C vw lw P Q r1 r2 r3 r4) (st : Sp a b x y 13) (h' : RW b y n0 13 r3') (hl : Lone r3'.vs) : KF w b y n0 pb qb bx C vw lw P Q r1 r2 r3' r4 :=
  ⟨h.m.sp st (by decide), h.p.sp h.m st (by decide) (by decide) (by decide), h.q.sp h.m st (by decide) (by decide) (by decide), h.w1.sp st (by decide) (by decide), h.w2.sp st (by decide) (by decide), h', h.w4.sp st (by decide) (by decide), hl, box_sp h.box st (by decide), h.want.sp st (by decide)⟩
theorem KF.row4 {w a b : World} {x y : Nat → Nat} {n0 pb qb bx : Nat} {C : Array Value} {vw : Value} {lw : List Int} {P Q : Par} {r1 r2 r3 r4 r4' : RD} (h : KF w a x n0 pb qb bx C vw lw P Q r1 r2 r3 r4) (st : Sp a b x y 14) (h' : RW b y n0 14 r4') : KF w b y n0 pb qb bx C vw lw P Q r1 r2 r3 r4' :=
  ⟨h.m.sp st (by decide), h.p.sp h.m st (by decide) (by decide) (by decide), h.q.sp h.m st (by decide) (by decide) (by decide), h.w1.sp st (by decide) (by decide), h.w2.sp st (by decide) (by decide), h.w3.sp st (by decide) (by decide), h', h.lone, box_sp h.box st (by decide), h.want.sp st (by decide)⟩
theorem KF.feedp {w a b : World} {x y : Nat → Nat} {n0 pb qb bx : Nat} {C : Array Value} {vw : Value} {lw : List Int} {P Q P' : Par} {r1 r2 r3 r4 : RD} (h : KF w a x n0 pb qb bx C vw lw P Q r1 r2 r3 r4) (st : Sp a b x y 1) (h' : PQ b y n0 1 pb P') : KF w b y n0 pb qb bx C vw lw P' Q r1 r2 r3 r4 :=
  ⟨h.m.sp st (by decide), h', h.q.sp h.m st (by decide) (by decide) (by decide), h.w1.sp st (by decide) (by decide), h.w2.sp st (by decide) (by decide), h.w3.sp st (by decide) (by decide), h.w4.sp st (by decide) (by decide), h.lone, box_sp h.box st (by decide), h.want.sp st (by decide)⟩
theorem KF.feedq {w a b : World} {x y : Nat → Nat} {n0 pb qb bx : Nat} {C : Array Value} {vw : Value} {lw : List Int} {P Q Q' : Par} {r1 r2 r3 r4 : RD} (h : KF w a x n0 pb qb bx C vw lw P Q r1 r2 r3 r4) (st : Sp a b x y 2) (h' : PQ b y n0 2 qb Q') : KF w b y n0 pb qb bx C vw lw P Q' r1 r2 r3 r4 :=
  ⟨h.m.sp st (by decide), h.p.sp h.m st (by decide) (by decide) (by decide), h', h.w1.sp st (by decide) (by decide), h.w2.sp st (by decide) (by decide), h.w3.sp st (by decide) (by decide), h.w4.sp st (by decide) (by decide), h.lone, box_sp h.box st (by decide), h.want.sp st (by decide)⟩
/-- the marks 20 taken away -/
def unQ (x : Nat → Nat) (b : Nat) : Nat := if x b = 20 then 0 else x b
theorem unQ_ne {x : Nat → Nat} {b k : Nat} (hk : k ≠ 0) (h20 : k ≠ 20) : unQ x b = k ↔ x b = k := by
  unfold unQ
  split <;> omega
theorem unQ_of {x : Nat → Nat} {b k : Nat} (h : x b = k) (h20 : k ≠ 20) : unQ x b = k := by unfold unQ; rw [if_neg (by omega), h]
theorem HC.un {wr : World} {x : Nat → Nat} {n0 : Nat} {v : Value} {l : List Int} (h : HC wr x n0 0 v l) : HC wr (unQ x) n0 0 v l := ⟨h.1, fun b hb => ⟨unQ_of (h.2 b hb).1 (by decide), (h.2 b hb).2⟩⟩
theorem HC.dead {wr : World} {x : Nat → Nat} {n0 : Nat} {v : Value} {l : List Int} (h : HC wr x n0 20 v l) : HC wr (unQ x) n0 0 v l := ⟨h.1, fun b hb => ⟨if_pos (h.2 b hb).1, (h.2 b hb).2⟩⟩
theorem RW.un {wr : World} {x : Nat → Nat} {n0 c : Nat} {r : RD} (h : RW wr x n0 c r) (hc : c ≠ 20) : RW wr (unQ x) n0 c r :=
  ⟨h.own, fun b hb => ⟨unQ_of (h.cl b hb).1 hc, (h.cl b hb).2⟩, h.len, fun i hi hi' => (h.each i hi hi').un⟩
theorem PQ.un {wr : World} {x : Nat → Nat} {n0 i pb : Nat} {p : Par} (h : PQ wr x n0 i pb p) (hi : i ≠ 0) (h20 : i ≠ 20) : PQ wr (unQ x) n0 i pb p := by
  obtain ⟨R, h1, h2⟩ := h
  have e : (fun b => x b = i) = (fun b => unQ x b = i) := by funext b; exact propext (unQ_ne hi h20).symm
  rw [e] at h1
  exact ⟨R, h1, fun b hb => ⟨unQ_of (h2 b hb).1 (by decide), (h2 b hb).2⟩⟩
theorem KF.un {w a : World} {x : Nat → Nat} {n0 pb qb bx : Nat} {C : Array Value} {vw : Value} {lw : List Int} {P Q : Par} {r1 r2 r3 r4 : RD} (h : KF w a x n0 pb qb bx C vw lw P Q r1 r2 r3 r4) : KF w a (unQ x) n0 pb qb bx C vw lw P Q r1 r2 r3 r4 :=
  ⟨⟨fun b hb => h.m.lt b (fun e => hb (by unfold unQ; rw [if_neg (by omega), e])), fun b hb => h.m.low b (fun e => hb (by unfold unQ; rw [if_neg (by omega), e])), h.m.below, h.m.n⟩, h.p.un (by decide) (by decide), h.q.un (by decide) (by decide), h.w1.un (by decide), h.w2.un (by decide), h.w3.un (by decide), h.w4.un (by decide), h.lone, ⟨h.box.1, unQ_of h.box.2 (by decide)⟩, h.want.un⟩
end Go.Proofs.Ytampjndfhpjheaa
