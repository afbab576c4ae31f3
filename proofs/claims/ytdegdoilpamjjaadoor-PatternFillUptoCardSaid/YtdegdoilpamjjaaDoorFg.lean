/- Contracts: pattern.part, (*filler).give. Condition: fewer than 2^30 members. -/
import Derived.Test.YtdegdoilpamjjaaDoorFc
import Derived.Test.YtdegdoilpamjjaaDoorFb
import Derived.Shelf.Abstract
import Derived.Deep.CutBlock
import Derived.Deep.Light
import Derived.Laws.Rows
import Derived.Laws.EntriesVeiled
import Derived.Deep.DeepCutAuto
namespace Go.Proofs.YtdegdoilpamjjaaDoor
open Go.RowKit
theorem partL_lst (f : Nat → Int) (n : Nat) (x y : Int) : partL (lst f n) x y = lst (fun i => f (x.toNat + i)) (min n y.toNat - x.toNat) := by
  unfold partL
  apply List.ext_getElem
  · simp [lst, Nat.min_comm]
  · intro i h1 h2
    simp [lst]
set_option maxRecDepth 100000 in
set_option maxHeartbeats 2000000 in
theorem part_c (sl : Option Addr) (n cap : Nat) (f : Nat → Int) (x y : Int) (w : World) (hn : n < 1073741824) (hnc : n ≤ cap) (hr : IsInts w sl n f) :
    Calls Tryd.prog 40 #[.slice sl n cap, .int .i64 x, .int .i64 y] w fun e w' => w = w' ∧ ∃ s m c', e = .returned (.slice s m c') ∧ m ≤ n ∧ (∀ a, s = some a → ∃ a', sl = some a' ∧ a.block = a'.block) ∧ ∃ h, IsInts w s m h ∧ lst h m = partL (lst f n) x y := by
  have HR := Lib.hid hr
  clear hr
  rw [partL_lst]
  obtain ⟨p, hp⟩ : ∃ p : Nat, x.toNat = p := ⟨_, rfl⟩
  obtain ⟨Q, hQ⟩ : ∃ Q : Int, (if (n : Int) < y then (n : Int) else y) = Q := ⟨_, rfl⟩
  have hP : (if x < 0 then (0 : Int) else x) = (p : Int) := by split <;> omega
  have hQn : Q ≤ (n : Int) ∧ min n y.toNat = Q.toNat := by
    rw [← hQ]
    split <;> omega
  obtain ⟨hq1, hq2⟩ := hQn
  rw [hp, hq2]
  have HP := Lib.hid hp
  clear hp hq2
  by_cases hpq : (p : Int) < Q
  · obtain ⟨q, rfl⟩ : ∃ q : Nat, Q = (q : Int) := ⟨Q.toNat, by omega⟩
    rw [Int.toNat_natCast]
    obtain ⟨b, off, rfl, hlt, hc⟩ : ∃ b off, sl = some ⟨b, off, none⟩ ∧ b < w.heap.size ∧ ∀ i, i < n → w.cell? ⟨b, off + i, none⟩ = some (.int .i64 (f i)) := by
      rcases HR.out with h | h
      · omega
      · exact h
    have q1 : (p : Int) ≤ (q : Int) := by omega
    have q2 : (q : Int) ≤ (cap : Int) := by omega
    have HC := Lib.hid hc
    clear hc
    go_enter Tryd.func40, Tryd.ntmps40
    go_wp2
    go_ret
    refine ⟨rfl, _, _, _, rfl, by omega, ?_, _, ?_, rfl⟩
    · intro a ha; cases ha; exact ⟨_, rfl, rfl⟩
    · refine .inr ⟨b, off + p, rfl, hlt, fun i hi => ?_⟩
      rw [Nat.add_assoc]
      exact HC.out _ (by omega)
  · have q1 : Q ≤ (p : Int) := by omega
    go_enter Tryd.func40, Tryd.ntmps40
    go_wp2
    go_ret
    refine ⟨rfl, none, 0, ⟨_, rfl⟩, Nat.zero_le _, ?_, f, Or.inl rfl, rfl⟩
    intro a h; cases h

/-- the function of a way: 1 great, 2 small -/
def fnG (k : Nat) : FuncId := if k = 1 then 56 else 57
/-- a function value of the filler: 0 none -/
def fnV (k : Nat) : Value := if k = 0 then .nilFunc else .func (.func (fnG k)) #[] #[]
theorem fnV_0 : fnV 0 = .nilFunc := rfl
theorem fnV_s {k : Nat} (h : k ≠ 0) : fnV k = .func (.func (fnG k)) #[] #[] := if_neg h
theorem fnG_any (k : Nat) (h0 : k ≠ 0) (h2 : k ≤ 2) (a : Int) (w : World) (ht : Tabs w) : Calls Tryd.prog (fnG k) #[.int .i64 a] w fun e w' => e = .returned (.int .i64 (caseF k a)) ∧ Below w.heap.size w w' := by
  obtain rfl | rfl : k = 1 ∨ k = 2 := by omega
  · exact upper_any a w ht
  · exact lower_any a w ht
theorem fnG_enters (k : Nat) (args : Array Value) (w : World) : (callFunc (fnG k) args).run Tryd.prog w = .ok (.enter (fnG k) args) w := by
  unfold fnG
  split
  · exact enters_of Tryd.func56 (by kernel_rfl) rfl args w
  · exact enters_of Tryd.func57 (by kernel_rfl) rfl args w
theorem OwnInts.take {w : World} {base : Nat} {s : Option Addr} {n c m : Nat} {l : List Int} (h : OwnInts w base (.slice s n c) l) (hm : m ≤ n) : OwnInts w base (.slice s m c) (l.take m) := by
  obtain rfl := h.len
  rcases h.2 with ⟨h1, h2⟩ | ⟨g, cap, cur, h1, hg, hgg, hnc, hcm, hcs, htake⟩
  · obtain ⟨rfl, h3, rfl⟩ := Value.slice.inj h1
    obtain rfl : l = [] := List.eq_nil_of_length_eq_zero h2
    obtain rfl : m = 0 := by simpa using hm
    exact OwnInts.nil w base
  · obtain ⟨rfl, _, rfl⟩ := Value.slice.inj h1
    have e : (l.take m).length = m := by rw [List.length_take]; omega
    unfold OwnInts
    rw [e]
    refine ⟨by rw [List.length_map, e, Nat.mul_one], .inr ⟨g, c, cur, rfl, hg, hgg, by omega, hcm, hcs, ?_⟩⟩
    rw [Nat.mul_one] at htake ⊢
    rw [List.map_take, ← htake, List.take_take, Nat.min_eq_left hm]
/-- the filler in block b: what is given so far lies in blocks from base on, but not in block x -/
structure FillM (w : World) (base x b : Nat) (s : FS) (sl : Option Addr) (n c : Nat) : Prop where
  ge : base ≤ b
  ne : b ≠ x
  blk : w.heap[b]? = some (.cells #[.slice sl n c, fnV s.once, fnV s.stay] 87 (0, 0))
  own : OwnInts w base (.slice sl n c) s.out
  nex : (Value.slice sl n c).ownBlock ≠ some x
  once : s.once ≤ 2
  stay : s.stay ≤ 2
  len : s.out.length ≤ 140001
theorem FillM.later {w w' : World} {base x b : Nat} {s : FS} {sl : Option Addr} {n c : Nat} (h : FillM w base x b s sl n c) (hb : Below w.heap.size w w') : FillM w' base x b s sl n c :=
  { h with blk := (hb.block b (heap_lt h.blk)).trans h.blk, own := h.own.kept (fun q hq _ => hb.block q hq) }
theorem FillM.ownb {w : World} {base x b : Nat} {s : FS} {sl : Option Addr} {n c : Nat} (h : FillM w base x b s sl n c) : (Value.slice sl n c).ownBlock ≠ some b := by
  intro hv
  rcases h.own.2 with ⟨h1, _⟩ | ⟨g, cap, cur, h1, _, hgg, _⟩
  · rw [h1] at hv; simp [Value.ownBlock] at hv
  · rw [h1] at hv
    simp [Value.ownBlock] at hv
    subst hv
    rw [h.blk] at hgg
    simp at hgg
theorem FillM.n_eq {w : World} {base x b : Nat} {s : FS} {sl : Option Addr} {n c : Nat} (h : FillM w base x b s sl n c) : n = s.out.length := h.own.len
theorem FillM.notonce {w : World} {base x b : Nat} {s : FS} {sl : Option Addr} {n c : Nat} (h : FillM w base x b s sl n c) : FillM (w.setCell ⟨b, 1, none⟩ .nilFunc) base x b ⟨s.out, 0, s.stay⟩ sl n c :=
  { h with
    blk := block_set _ h.blk
    own := h.own.kept (fun q hq he => Below.heap_setCell _ _ _ _ (fun e => h.ownb (by rw [he]; exact congrArg some e)))
    once := Nat.zero_le _ }
theorem own_cap {w : World} {base n c : Nat} {s : Option Addr} {l : List Int} (h : OwnInts w base (.slice s n c) l) (hn : 0 < n) : n ≤ c ∧ (∃ g, s = some ⟨g, 0, none⟩) := by
  have hl := h.len
  rcases h.2 with ⟨h1, h2⟩ | ⟨g, cap, cur, h1, hg, hgg, hnc, hcm, hcs, htake⟩
  · omega
  · obtain ⟨rfl, h3, rfl⟩ := Value.slice.inj h1
    exact ⟨by omega, g, rfl⟩
theorem IsInts.block {w w' : World} {sl : Option Addr} {n x : Nat} {f : Nat → Int} (h : IsInts w sl n f) (hx : ∀ a, sl = some a → a.block = x) (hs : w.heap.size ≤ w'.heap.size) (e : w'.heap[x]? = w.heap[x]?) : IsInts w' sl n f := by
  rcases h with h | ⟨b, off, rfl, hlt, hc⟩
  · exact .inl h
  · obtain rfl : b = x := hx _ rfl
    exact .inr ⟨b, off, rfl, by omega, fun i hi => (World.cell?_of_block e).trans (hc i hi)⟩
theorem grown_set {w : World} (b i : Nat) (v : Value) : w.grownBy (w.setCell ⟨b, i, none⟩ v) (some b) := ⟨rfl, rfl, rfl, by simp [World.setCell], fun q _ hq => Below.heap_setCell _ ⟨b, i, none⟩ _ q (fun e => hq (congrArg some e))⟩
theorem FillM.tail {w0 w w' w2 : World} {x b : Nat} {s : FS} {sl s' : Option Addr} {n c c' : Nat} {a : Int} (h : FillM w w0.heap.size x b s sl n c) (hxw : x < w.heap.size) (hb : Below w0.heap.size w0 w) (ho : OwnInts w' w0.heap.size (.slice s' (n + 1) c') (s.out ++ [a])) (hg : w.grownBy w' (Value.slice sl n c).ownBlock)
    (hat : (Value.slice s' (n + 1) c').ownBlock = (Value.slice sl n c).ownBlock ∨ ∃ b, (Value.slice s' (n + 1) c').ownBlock = some b ∧ w.heap.size ≤ b) (m : Nat) (hm : m = n + 1 ∧ n + 1 ≤ 140001 ∨ m = 140001 ∧ 140001 ≤ n + 1) (hw2 : w'.grownBy w2 (some b)) (hb2 : w2.heap[b]? = some (.cells #[.slice s' m c', fnV s.once, fnV s.stay] 87 (0, 0)))
    {sv : Option Addr} {nv : Nat} {f : Nat → Int} (hv : IsInts w sv nv f) (hx : ∀ a, sv = some a → a.block = x) :
    FillM w2 w0.heap.size x b ⟨(s.out ++ [a]).take 140001, s.once, s.stay⟩ s' m c' ∧ IsInts w2 sv nv f ∧ Below w0.heap.size w0 w2 ∧ w.heap.size ≤ w2.heap.size := by
  have hs := hg.size
  have hs2 := hw2.size
  have hbl := heap_lt h.blk
  have hk : ∀ q, q < w'.heap.size → q ≠ b → w2.heap[q]? = w'.heap[q]? := fun q hq hne => hw2.block q hq (fun e => hne (by injection e))
  have hn := h.n_eq
  have e : (s.out ++ [a]).take 140001 = (s.out ++ [a]).take m := by
    rcases hm with ⟨rfl, hm⟩ | ⟨rfl, _⟩
    · rw [List.take_of_length_le (by simp; omega), List.take_of_length_le (by simp; omega)]
    · rfl
  refine ⟨?_, hv.block hx (by omega) ((hk x (by omega) h.ne.symm).trans (hg.block x hxw (fun e => h.nex e.symm))), ?_, by omega⟩
  · rw [e]
    refine { ge := h.ge, ne := h.ne, blk := hb2, own := ?_, nex := ?_, once := h.once, stay := h.stay, len := by rw [List.length_take]; omega }
    · refine (ho.take (by omega)).kept (fun q hq he => hk q hq ?_)
      have hob : (Value.slice s' m c').ownBlock = (Value.slice s' (n + 1) c').ownBlock := by cases s' <;> rfl
      rw [hob] at he
      rcases hat with e | ⟨z, e, hz⟩
      · rw [e] at he; exact fun hh => h.ownb (by rw [he, hh])
      · rw [e] at he; cases he; omega
    · intro he
      have hob : (Value.slice s' m c').ownBlock = (Value.slice s' (n + 1) c').ownBlock := by cases s' <;> rfl
      rw [hob] at he
      rcases hat with e | ⟨z, e, hz⟩
      · rw [e] at he; exact h.nex he
      · rw [e] at he; cases he; omega
  · exact Below.grown (Below.grown hb hg hb.size (fun q hq => (h.own.lt q hq).1)) hw2 (by have := hb.size; omega) (fun q hq => by cases hq; exact h.ge)
theorem grown_size (w : World) (b i : Nat) (v : Value) : w.heap.size = (w.setCell ⟨b, i, none⟩ v).heap.size := by simp [World.setCell]
theorem FillM.as {w : World} {base x b : Nat} {s : FS} {sl : Option Addr} {n c : Nat} (h : FillM w base x b s sl n c) (ho : s.once = 0) : FillM w base x b ⟨s.out, 0, s.stay⟩ sl n c := by
  obtain ⟨out, once, stay⟩ := s
  simp only at ho
  subst ho
  exact h
theorem eqIn_nil (d : Nat) (w : World) : (Op.equalIn (d + 1) 85 .nilFunc .nilFunc).run Tryd.prog w = .ok true w := by
  simp [Op.equalIn, run_underlying Tryd.underlying85]
theorem eqIn_fn (d : Nat) (g : FuncId) (w : World) : (Op.equalIn (d + 1) 85 (.func (.func g) #[] #[]) .nilFunc).run Tryd.prog w = .ok false w := by
  simp [Op.equalIn, run_underlying Tryd.underlying85]
theorem eq_nil (w : World) : (Op.equal 85 .nilFunc .nilFunc).run Tryd.prog w = .ok true w := eqIn_nil 9999 w
theorem eq_fn (g : FuncId) (w : World) : (Op.equal 85 (.func (.func g) #[] #[]) .nilFunc).run Tryd.prog w = .ok false w := eqIn_fn 9999 g w
theorem neq_nil (w : World) : (binOp .neq 85 .nilFunc .nilFunc).run Tryd.prog w = .ok (.bool false) w := by
  simp only [binOp]
  simp [eq_nil]
theorem neq_fn (g : FuncId) (w : World) : (binOp .neq 85 (.func (.func g) #[] #[]) .nilFunc).run Tryd.prog w = .ok (.bool true) w := by
  simp only [binOp]
  simp [eq_fn]
set_option maxRecDepth 100000 in
set_option maxHeartbeats 4000000 in
theorem give_c (w0 : World) (x b : Nat) (s : FS) (so : Option Addr) (no co : Nat) (sl : Option Addr) (n cap : Nat) (f : Nat → Int) (w : World) (hn : n < 1073741824) (ht : Tabs w0) (hb : Below w0.heap.size w0 w) (hm : FillM w w0.heap.size x b s so no co) (hxw : x < w.heap.size) (hr : IsInts w sl n f) (hx : ∀ a, sl = some a → a.block = x) :
    Calls Tryd.prog 39 #[.pointer (some ⟨b, 0, none⟩), .slice sl n cap] w fun e w' => e = .returned (.tuple #[]) ∧ (∃ so no co, FillM w' w0.heap.size x b (manyP s (lst f n)) so no co) ∧ Below w0.heap.size w0 w' ∧ w.heap.size ≤ w'.heap.size := by
  have HR := Lib.hid hr
  have HB := Lib.hid hb
  have HT := Lib.hid ht
  have HM := Lib.hid hm
  have HX := Lib.hid hx
  clear hr hb ht hm hx
  go_enter Tryd.func39, Tryd.ntmps39
  go_wp2_with fail
  go_loopg [8] n (fun g iv wr => ∃ k : Nat, k + g = n ∧ iv = .int .i64 k ∧ (∃ so no co, FillM wr w0.heap.size x b (manyP s (lst f k)) so no co) ∧ IsInts wr sl n f ∧ Below w0.heap.size w0 wr ∧ w.heap.size ≤ wr.heap.size)
  case atStart => exact ⟨0, by omega, rfl, ⟨_, _, _, HM.out⟩, HR.out, HB.out, Nat.le_refl _⟩
  case round =>
    clear HM HR HB
    obtain ⟨k, hg, rfl, ⟨so, no, co, hm⟩, hr, hb, hsz⟩ := hrel
    by_cases hlt : k < n
    · obtain ⟨bs, off, rfl, c0⟩ := hr.at (Below.refl _ _) hlt
      obtain ⟨a, ha⟩ : ∃ a, f k = a := ⟨_, rfl⟩
      rw [ha] at c0
      have hms : manyP s (lst f (k + 1)) = giveP (manyP s (lst f k)) a := by
        unfold manyP
        rw [lst_succ, List.foldl_append, ha]; rfl
      obtain rfl : bs = x := HX.out _ rfl
      have HMS := Lib.hid hms
      clear hms ha
      obtain ⟨S, hS⟩ : ∃ S, manyP s (lst f k) = S := ⟨_, rfl⟩
      rw [hS] at hm HMS
      have hbl := heap_lt hm.blk
      have hbx : bs < wr.heap.size := by omega
      have hso : so.isSome = true ∨ so.isSome = false := by cases so <;> simp
      have HM := Lib.hid hm
      have HR := Lib.hid hr
      have HB := Lib.hid hb
      have HSZ := Lib.hid hsz
      have HS := Lib.hid hS
      have d1 : wr.cell? ⟨b, 1, none⟩ = some (fnV S.once) := block_cell HM.out.blk
      have d2 : wr.cell? ⟨b, 2, none⟩ = some (fnV S.stay) := block_cell HM.out.blk
      have f0 : ∀ i, wr.frozen? ⟨b, i, none⟩ = false := fun i => block_free HM.out.blk
      clear hm hr hb hsz hS hso
      have hlt' : (k : Int) < (n : Int) := by omega
      go_upto_block 2 with (fail)
      go_cut [5] (fun av wx => av = .int .i64 (caseF (howS S) a) ∧ FillM wx w0.heap.size bs b ⟨S.out, 0, S.stay⟩ so no co ∧ IsInts wx (some ⟨bs, off, none⟩) n f ∧ Below w0.heap.size w0 wx ∧ wr.heap.size ≤ wx.heap.size)
      case first =>
        have hnn := neq_nil
        have hnf := neq_fn
        by_cases ho : S.once = 0
        · rw [ho, fnV_0] at d1
          by_cases hs : S.stay = 0
          · rw [hs, fnV_0] at d2
            have HO := Lib.hid ho
            have HSS := Lib.hid hs
            clear ho hs
            go_wp2
            go_meet
            refine ⟨?_, HM.out.as HO.out, HR.out, HB.out, Nat.le_refl _⟩
            unfold howS caseF
            rw [HO.out, HSS.out]
            rfl
          · rw [fnV_s hs] at d2
            have hcall := fun w ht => fnG_any S.stay hs HM.out.stay a w ht
            have hent := fnG_enters S.stay
            obtain ⟨G, hG⟩ : ∃ G, fnG S.stay = G := ⟨_, rfl⟩
            rw [hG] at hcall hent d2
            have HC := Lib.hid hcall
            have HO := Lib.hid ho
            clear hcall hG ho hs
            go_wp2_with fail
            refine (HC.out _ (HT.out.later HB.out)).mono ?_
            rintro e w1 ⟨rfl, hb1⟩
            have HB1 := Lib.hid hb1
            clear hb1
            go_wp2
            go_meet
            refine ⟨?_, (HM.out.later HB1.out).as HO.out, HR.out.later HB1.out, HB.out.trans (HB1.out.mono HB.out.size), HB1.out.size⟩
            unfold howS
            rw [if_pos HO.out]
        · rw [fnV_s ho] at d1
          have hcall := fun w ht => fnG_any S.once ho HM.out.once a w ht
          have hent := fnG_enters S.once
          obtain ⟨G, hG⟩ : ∃ G, fnG S.once = G := ⟨_, rfl⟩
          rw [hG] at hcall hent d1
          have HC := Lib.hid hcall
          have HO := Lib.hid ho
          clear hcall hG ho
          go_wp2_with fail
          refine (HC.out _ (HT.out.later HB.out)).mono ?_
          rintro e w1 ⟨rfl, hb1⟩
          have HB1 := Lib.hid hb1
          have HM1 := Lib.hid (HM.out.later hb1)
          have f1 : ∀ i, w1.frozen? ⟨b, i, none⟩ = false := fun i => block_free HM1.out.blk
          have d1' : w1.cell? ⟨b, 1, none⟩ = some (fnV S.once) := block_cell HM1.out.blk
          clear hb1 f0 d1 d2
          go_wp2
          go_meet
          refine ⟨?_, HM1.out.notonce, ?_, ?_, Nat.le_trans HB1.out.size (Nat.le_of_eq (grown_size _ _ _ _))⟩
          · unfold howS
            rw [if_neg HO.out]
          · exact (HR.out.later HB1.out).block HX.out (Nat.le_of_eq (grown_size _ _ _ _)) (Below.heap_setCell _ ⟨b, 1, none⟩ _ _ HM1.out.ne.symm)
          · exact (HB.out.trans (HB1.out.mono HB.out.size)).setCell HM1.out.ge _
      case rest =>
        obtain ⟨rfl, hm1, hr1, hb1, hs1⟩ := hcut
        obtain ⟨ca, hca⟩ : ∃ ca, caseF (howS S) a = ca := ⟨_, rfl⟩
        rw [hca]
        have hbl1 := heap_lt hm1.blk
        have hbx1 : bs < wc.heap.size := by omega
        have e0 : wc.cell? ⟨b, 0, none⟩ = some (.slice so no co) := block_cell hm1.blk
        have HCA := Lib.hid hca
        have HM1 := Lib.hid hm1
        have HR1 := Lib.hid hr1
        have HB1 := Lib.hid hb1
        have HSZ1 := Lib.hid (Nat.le_trans HSZ.out hs1)
        clear hca HR d1 d2 f0 hm1 hr1 hb1 hs1 HM HB HSZ HS
        by_cases hfull : no + 1 ≤ 140001
        · have q1 : ¬ (140001 : Int) < (no : Int) + 1 := by omega
          go_wp2_with (first | (at_builtin; refine wpList_push3 _ rfl _ _ rfl w0.heap.size so no co S.out rfl rfl HM1.out.own (by have := HM1.out.len; have := HM1.out.n_eq; omega) HB1.out.size ?_; intro s' c' w2 ho2 hg2 hat2; have hb2 := (hg2.block b hbl1 (fun e => HM1.out.ownb e.symm)).trans HM1.out.blk; have k0 := block_cell (i := 0) hb2; have kf := block_free (i := 0) hb2; have HO2 := Lib.hid ho2; have HG2 := Lib.hid hg2; have HAT2 := Lib.hid hat2; have HB2 := Lib.hid hb2; clear ho2 hg2 hat2 hb2))
          go_roundg (gk - 1)
          case measure => omega
          case rel =>
            obtain ⟨t1, t2, t3, t4⟩ := HM1.out.tail hbx1 HB1.out HO2.out HG2.out HAT2.out (no + 1) (.inl ⟨rfl, hfull⟩) (grown_set b 0 _) (block_set _ HB2.out) HR1.out HX.out
            exact ⟨k + 1, by omega, by go_num, ⟨_, _, _, by rw [HMS.out]; unfold giveP; rw [HCA.out]; exact t1⟩, t2, t3, by have := HSZ1.out; omega⟩
        · obtain rfl : no = 140001 := by have := HM1.out.len; have := HM1.out.n_eq; simp only at *; omega
          go_wp2_with (first | (at_builtin; refine wpList_push3 _ rfl _ _ rfl w0.heap.size so _ co S.out rfl rfl HM1.out.own (by omega) HB1.out.size ?_; intro s' c' w2 ho2 hg2 hat2; have hb2 := (hg2.block b hbl1 (fun e => HM1.out.ownb e.symm)).trans HM1.out.blk; have k0 := block_cell (i := 0) hb2; have kf := block_free (i := 0) hb2; obtain ⟨hcc, gg, rfl⟩ := own_cap ho2 (by omega); have HO2 := Lib.hid ho2; have HG2 := Lib.hid hg2; have HAT2 := Lib.hid hat2; have HB2 := Lib.hid hb2; clear ho2 hg2 hat2 hb2))
          go_roundg (gk - 1)
          case measure => omega
          case rel =>
            obtain ⟨t1, t2, t3, t4⟩ := HM1.out.tail hbx1 HB1.out HO2.out HG2.out HAT2.out 140001 (.inr ⟨rfl, by omega⟩) (World.grownBy.trans (grown_set b 0 _) (grown_set b 0 _)) (block_set _ (block_set _ HB2.out)) HR1.out HX.out
            exact ⟨k + 1, by omega, by go_num, ⟨_, _, _, by rw [HMS.out]; unfold giveP; rw [HCA.out]; exact t1⟩, t2, t3, by have := HSZ1.out; omega⟩
    · obtain rfl : n = k := by omega
      go_wp2
      go_end0
      exact ⟨rfl, ⟨so, no, co, hm⟩, hb, hsz⟩
end Go.Proofs.YtdegdoilpamjjaaDoor
