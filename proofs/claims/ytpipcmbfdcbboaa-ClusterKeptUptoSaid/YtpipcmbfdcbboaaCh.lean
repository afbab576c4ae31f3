/- Contracts: lists of ints that a call makes by append; cluster.Breaks. Condition: fewer than 2^32 members. -/
import Derived.Test.YtpipcmbfdcbboaaCg
import Derived.Laws.AppendOwn
import Derived.Laws.OwnMore
import Derived.OwnWalk
import Derived.OneCell
namespace Go.Proofs.Ytpipcmbfdcbboaa
open Go.RowKit
/-- v is a slice of ints, made by the call, with the members l -/
def OwnInts (w : World) (base : Nat) (v : Value) (l : List Int) : Prop := w.ownsRow base 3 1 v l.length (l.map (Value.int .i64))
theorem Try.infoInt : (Try.prog.info? 3).map (fun i => (i.zero, i.size, i.bytes)) = some (some (.int .i64 0), 1, 8) := by kernel_rfl
theorem OwnInts.later {w w1 : World} {base : Nat} {v : Value} {l : List Int} (h : OwnInts w base v l) (hb : Below w.heap.size w w1) : OwnInts w1 base v l := by
  refine ⟨h.1, ?_⟩
  rcases h.2 with hn | ⟨g, cap, cur, rfl, hg, hgg, rest⟩
  · exact .inl hn
  · exact .inr ⟨g, cap, cur, rfl, hg, (hb.block g (heap_lt hgg)).trans hgg, rest⟩
theorem OwnInts.mono {w : World} {base base' : Nat} {v : Value} {l : List Int} (h : OwnInts w base v l) (hb : base' ≤ base) : OwnInts w base' v l := by
  refine ⟨h.1, ?_⟩
  rcases h.2 with hn | ⟨g, cap, cur, rfl, hg, rest⟩
  · exact .inl hn
  · exact .inr ⟨g, cap, cur, rfl, Nat.le_trans hb hg, rest⟩
theorem OwnInts.isInts {w : World} {base : Nat} {v : Value} {l : List Int} (h : OwnInts w base v l) : ∃ sa cap, v = .slice sa l.length cap ∧ IsInts w sa l.length (fun i => l.getD i 0) ∧ l.length ≤ maxLen := by
  have h' := h
  rcases h.2 with ⟨rfl, hn⟩ | ⟨g, cap, cur, rfl, hg, hgg, hnc, hcm, hcs, htake⟩
  · exact ⟨none, 0, by rw [hn], .inl hn, by rw [hn]; exact Nat.zero_le _⟩
  · refine ⟨some ⟨g, 0, none⟩, cap, rfl, .inr ⟨g, 0, rfl, heap_lt hgg, fun i hi => ?_⟩, Nat.le_trans hnc hcm⟩
    have := World.ownsRow.cellAt h' i (by omega)
    rw [Nat.zero_add, this]
    show _ = some (Value.int .i64 (l.getD i 0))
    rw [List.getElem?_map, List.getD_eq_getElem?_getD, List.getElem?_eq_getElem hi]; rfl
theorem OwnInts.shape {w : World} {base : Nat} {v : Value} {l : List Int} (h : OwnInts w base v l) : ∃ sa n cap, v = .slice sa n cap ∧ n = l.length ∧ IsInts w sa n (fun i => l.getD i 0) := by
  obtain ⟨sa, cap, hv, h1, _⟩ := h.isInts
  exact ⟨sa, _, cap, hv, rfl, h1⟩
theorem OwnInts.nil (w : World) (base : Nat) : OwnInts w base (.slice none 0 0) [] := World.ownsRow_nil w base _ 1
theorem OwnInts.as {w : World} {base : Nat} {v : Value} {l l' : List Int} (h : OwnInts w base v l) (e : l = l') : OwnInts w base v l' := e ▸ h
/-- what an owned row leaves alone: a box of another type -/
theorem own_box_ne {w : World} {base : Nat} {v : Value} {l : List Int} {b : Nat} {t : TypeId} {u : Value} (h : OwnInts w base v l) (hx : IsBox w b t u) (ht : t ≠ 3) : v.ownBlock ≠ some b := by
  intro hv
  rcases h.2 with ⟨rfl, _⟩ | ⟨g, cap, cur, rfl, _, hgg, _⟩
  · simp [Value.ownBlock] at hv
  · simp [Value.ownBlock] at hv
    subst hv
    unfold IsBox at hx
    rw [hx] at hgg
    simp at hgg
    exact ht hgg.2
theorem IsBox.grown {w w1 : World} {b : Nat} {t : TypeId} {u : Value} {row : Option Nat} (h : IsBox w b t u) (hg : w.grownBy w1 row) (hne : row ≠ some b) : IsBox w1 b t u :=
  (hg.block b (heap_lt h) (fun e => hne e.symm)).trans h
/-- behind an append of one int -/
theorem own_push {w w1 : World} {base : Nat} {v v' : Value} {l : List Int} {k : Int} (ho : OwnInts w base v l)
    (hown : w1.ownsRow base 3 1 v' (l.length + 1) (l.map (Value.int .i64) ++ [.int .i64 k])) (hgrow : (w.alloc (.cells #[.int .i64 k] 3)).grownBy w1 v.ownBlock) (hbase : base ≤ w.heap.size) :
    OwnInts w1 base v' (l ++ [k]) ∧ Below base w w1 ∧ (∀ b t u, IsBox w b t u → t ≠ 3 → IsBox w1 b t u) ∧ ∃ s c, v' = .slice s (l.length + 1) c := by
  have h1 : OwnInts w1 base v' (l ++ [k]) := by
    unfold OwnInts
    rw [List.length_append, List.map_append]; exact hown
  refine ⟨h1, ?_, ?_, ?_⟩
  · refine Below.grown ((Below.refl _ _).alloc hbase _) hgrow (by simp; omega) ?_
    intro k' hk'
    exact (ho.lt k' hk').1
  · intro b t u hx ht
    exact (hx.alloc _).grown hgrow (own_box_ne ho hx ht)
  · rcases hown.2 with ⟨rfl, hn⟩ | ⟨g, cap, cur, rfl, _⟩
    · exact absurd hn (by omega)
    · exact ⟨_, _, rfl⟩
set_option maxHeartbeats 1000000 in
theorem breaks1_any (k : Int) (b base : Nat) (v : Value) (l : List Int) (w : World) (h : IsBox w b 22 v) (ho : OwnInts w base v l) (hb : base ≤ b) (hlen : l.length < 4294967296) :
    Calls Try.prog 35 #[.int .i64 k, .pointer (some ⟨b, 0, none⟩)] w fun e w' =>
      e = .returned (.bool true) ∧ (∃ v', IsBox w' b 22 v' ∧ OwnInts w' base v' (l ++ [k])) ∧ Below base w w' := by
  obtain ⟨i0, hi, hz0, hz1, hz2⟩ := info_parts Try.infoInt
  have HX := Lib.hid h
  have HO := Lib.hid ho
  obtain ⟨hc, hf⟩ := h.cell
  have hbw : base ≤ w.heap.size := by have := heap_lt h; omega
  clear h ho
  go_enter Try.func35, Try.ntmps35
  go_wp2_with (first | (at_builtin; refine wpList_append_own _ rfl _ _ 22 rfl base 3 i0 (.int .i64 0) 1 8 Try.underlying22 hi hz0 hz1 hz2 rfl (by decide) _ _ _ rfl (HO.out.alloc _) ⟨w.heap.size, 0, none⟩ 1 1 [.int .i64 k] rfl rfl (cell_one_new _ _ _) (ints_oneCell _ [k]) (by unfold maxLen; omega) (by omega) (by simp; omega) ?_; intro v' w1 hown' hgrow _; obtain ⟨hp1, hp2, hp3, s', c', rfl⟩ := own_push HO.out hown' hgrow hbw; have hx1 := hp3 _ _ _ HX.out (by decide); obtain ⟨hc1, hf1⟩ := hx1.cell; have HP := Lib.hid hp1; have HB := Lib.hid hp2; have HX1 := Lib.hid hx1; clear hp1 hp2 hp3 hx1 hown' hgrow))
  go_ret
  refine ⟨rfl, ⟨_, HX1.out.set _, ?_⟩, below_boxset HB.out hb _⟩
  exact ownsRow_setCell_other HP.out (own_box_ne HP.out HX1.out (by decide)) _
set_option maxHeartbeats 1000000 in
theorem breaks_any (sa : Option Addr) (len scap : Nat) (f : Nat → Int) (w : World) (hl : len < 4294967295) (hr : IsInts w sa len f) :
    Calls Try.prog 12 #[.slice sa len scap] w fun e w' => (∃ v, e = .returned v ∧ OwnInts w' w.heap.size v ((allB f len).map Int.ofNat)) ∧ Below w.heap.size w w' := by
  have hmf : ∀ (fn : Fn) (first cap : Array Value) (w : World), (Instr.makeFunc fn first cap).run Try.prog w = .ok (.func fn first cap) w := fun _ _ _ _ => rfl
  have HR := Lib.hid hr
  clear hr
  go_enter Try.func12, Try.ntmps12
  go_wp2_with fail
  refine (walk_at (fun i (l : List Int) wr => ∃ v, IsBox wr (w.heap.size + 1) 22 v ∧ OwnInts wr w.heap.size v l ∧ l.length ≤ i + 1) (fun l k => (l ++ [(k : Int)], true)) w 35 #[.pointer (some ⟨w.heap.size + 1, 0, none⟩)] len scap f sa ?hY ?hI (enters_of Try.func35 (by kernel_rfl) rfl) HR.out (by unfold maxLen; omega) 0 (by omega) [0] _ ?h0 ?hB).mono ?_
  case hY =>
    rintro i s k w1 hik hk ⟨v, h1, h2, h3⟩ hb1
    refine (breaks1_any k _ w.heap.size v s w1 h1 h2 (by omega) (by omega)).mono ?_
    rintro e w2 ⟨rfl, ⟨v', h4, h5⟩, hb2⟩
    exact ⟨rfl, ⟨v', h4, h5, by simp; omega⟩, hb1.trans hb2⟩
  case hI =>
    rintro i s w1 w2 ⟨v, h1, h2, h3⟩ hb
    exact ⟨v, h1.below hb, h2.later hb, h3⟩
  case h0 =>
    have := IsBox.new (w.alloc (.cells #[.int .i64 0] 3)) 22 (.slice (some ⟨w.heap.size, 0, none⟩) 1 1)
    rw [show (w.alloc (.cells #[.int .i64 0] 3)).heap.size = w.heap.size + 1 from by simp] at this
    exact ⟨_, this, (World.ownsRow_lit w #[.int .i64 0] 1 (Nat.le_refl _) (by unfold maxLen; omega) rfl).alloc _, by simp⟩
  case hB => exact ((Below.refl _ _).alloc (Nat.le_refl _) _).alloc (by simp) _
  rintro e w1 ⟨rfl, ⟨i, hi, v, h1, h2, h3⟩, hb1⟩
  have hrun : ∀ (bs : List Nat) (l : List Int), runY (fun (l : List Int) (k : Nat) => (l ++ [(k : Int)], true)) l bs = l ++ bs.map Int.ofNat := by
    intro bs
    induction bs with
    | nil => intro l; simp [runY]
    | cons k r ih => intro l; rw [runY_cons, if_pos rfl, ih]; simp
  rw [hrun] at h2
  have HB := Lib.hid hb1
  have HO := Lib.hid (OwnInts.as h2 (show _ = (allB f len).map Int.ofNat by rw [allB_bounds]; rfl))
  obtain ⟨sa', n', c', rfl, hn', _⟩ := h2.shape
  obtain ⟨hc, hf⟩ := h1.cell
  clear h1 h2 h3 hb1 hrun hn'
  go_wp2
  go_ret
  exact ⟨⟨_, rfl, HO.out⟩, HB.out⟩
end Go.Proofs.Ytpipcmbfdcbboaa
