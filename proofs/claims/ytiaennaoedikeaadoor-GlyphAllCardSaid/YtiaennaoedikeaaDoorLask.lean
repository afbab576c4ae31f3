/- Slices of asks that came in. No condition. -/
import Derived.Test.YtiaennaoedikeaaDoorRe
import Derived.Deep.Slices
import Derived.Deep.Fields
namespace Go.Proofs.YtiaennaoedikeaaDoor
open Go.ChangeShapes Go.WideShapes Go.ChangeAt Go.RowKit Go.Deep
theorem open_asks_arg {H : Type} {enc : TypeId × Value → H} {W : World} {hd : Bool} {a : Option Addr} {len cap : Nat} {d : DataW H} {p : List MemPlace}
    (h : DataW.Trod enc Tryd.prog W 0 (fun _ => true) hd 27 (.slice a len cap) d p) : ∃ KA : (Nat → Int) × (Nat → Int), len ≤ maxLen ∧ IsAsks W a len KA.1 KA.2 := by
  obtain ⟨fuel, hf⟩ := h
  rcases open_slice Tryd.underlying27 hf with ⟨hcs, _⟩ | ⟨x, l, c, m, n, D, Pl, hcs, _, hl, hm, hmm, _, hi⟩
  · simp [Value.cells] at hcs
    obtain ⟨rfl, rfl, rfl⟩ := hcs
    exact ⟨(fun _ => 0, fun _ => 0), Nat.zero_le _, .inl rfl⟩
  · simp [Value.cells] at hcs
    obtain ⟨rfl, rfl, rfl⟩ := hcs
    have hC : Tryd.prog.cellsOf 30 = 2 := by kernel_rfl
    rw [hC] at hi
    have hlm : len ≤ m := by simp at hmm; omega
    obtain ⟨V, hV⟩ := choose_lt (n := m) (α := Int × Int) (p := fun i v => W.cell? ((x.add (i * 2)).add 0) = some (.int .i64 v.1) ∧ W.cell? ((x.add (i * 2)).add 1) = some (.int .i64 v.2)) (fun i him => by
      obtain ⟨cs', h1, h2⟩ := hi i him
      obtain ⟨y0, y1, k, _, hlen, e0, e1⟩ := trod_struct2 Tryd.underlying30 h2
      obtain ⟨u, q0, _, _⟩ := DataW.trod_int Tryd.underlying3 e0
      obtain ⟨v, q1, _, _⟩ := DataW.trod_int Tryd.underlying3 e1
      obtain ⟨_, hcl, hat⟩ := World.cells?_some h1
      have c1 : Tryd.prog.cellsOf 3 = 1 := by kernel_rfl
      simp only [c1] at q0 q1
      match cs', hcl with
      | [c0, c1], _ =>
        simp at q0 q1
        exact ⟨(u, v), (hat 0 (by omega)).trans (by simp [q0]), (hat 1 (by omega)).trans (by simp [q1])⟩)
    refine ⟨(fun i => (V i).1, fun i => (V i).2), Nat.le_trans hl hm, ?_⟩
    by_cases h0 : len = 0
    · exact .inl h0
    · obtain ⟨b, off, spot⟩ := x
      have hs : spot = none := by
        have := (hV 0 (by omega)).1
        simpa [Addr.add] using World.cell?_spot this
      subst hs
      refine .inr ⟨b, off, rfl, ?_, fun i hi => ?_⟩
      · have := (hV 0 (by omega)).1
        rw [Go.WideShapes.add_plain, Go.WideShapes.add_plain] at this
        exact World.block_lt_of_cell? W _ this
      · have := hV i (by omega)
        rw [Go.WideShapes.add_plain, Go.WideShapes.add_plain, Go.WideShapes.add_plain] at this
        exact this
end Go.Proofs.YtiaennaoedikeaaDoor
