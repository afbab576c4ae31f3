/- The law ClusterKept holds for every input of bulk at most 1048576: the second form of the statement as given. No other condition. -/
import Derived.Test.YtpipcmbfdcbboaaRows
import Derived.Test.YtpipcmbfdcbboaaKh
import Derived.Test.YtpipcmbfdcbboaaBulk
import Derived.JoinedCond
import Derived.WalkKit
import Derived.ProofKit
import Derived.OpenShut
import Derived.ShutString
import Derived.ChangeOld
import Derived.Below
import Derived.Deep.Matrix
namespace Go.Proofs.Ytpipcmbfdcbboaa.clusterKept
open Go.ChangeShapes Go.WideShapes Go.ChangeAt Go.RowKit
open Go.ChangeMaps (open_string shut_string)
set_option linter.unusedVariables false
theorem own : ownKnob Try.prog.godebug = none := by kernel_rfl
theorem laidOut : laidOutB Try.prog = true := by kernel_rfl
theorem isInts_of {W : World} {x : Addr} {zs : List Int} {len : Nat} (h : ∀ i, i < zs.length → W.cell? (x.add i) = some (.int .i64 (zs.getD i 0))) (hl : len ≤ zs.length) : IsInts W (some x) len (fun i => zs.getD i 0) := by
  by_cases h0 : len = 0
  · exact .inl h0
  · obtain ⟨b, off, rfl, hc⟩ := ints_at h (by omega)
    refine .inr ⟨b, off, rfl, ?_, fun i hi => hc i (by omega)⟩
    have h1 := hc 0 (by omega)
    refine Classical.byContradiction fun hn => ?_
    rw [World.cell?] at h1
    rw [Array.getElem?_eq_none (by show W.heap.size ≤ b; omega)] at h1
    cases h1
theorem rows_of {H : Type} {enc : TypeId × Value → H} {W : World} {fuel : Nat} {s : Option Addr} {len cap : Nat} {d : DataW H} {p : List MemPlace}
    (hf : DataW.trod enc Try.prog W 0 (fun _ => true) true fuel 30 [.slice s len cap] = some (d, p)) (hb : Rows.uptoBulk d ≤ 1048576) :
    ∃ (A : Nat → Option Addr) (L C : Nat → Nat) (Z : Nat → Nat → Int), IsRows W s len A L C Z ∧ len < 1073741824 ∧ ∀ i, i < len → L i < 100000000 := by
  rcases Go.Deep.open_int_rows Try.underlying30 Try.underlying22 Try.underlying3 (by kernel_rfl) (by kernel_rfl) hf with ⟨hcs, _⟩ | ⟨a, l, c, A, L, C, Z, hcs, _, hl, hm, hx, hrow⟩
  · simp at hcs
    obtain ⟨_, rfl, _⟩ := hcs
    exact ⟨fun _ => none, fun _ => 0, fun _ => 0, fun _ _ => 0, .inl rfl, by omega, fun i hi => by omega⟩
  · simp at hcs
    obtain ⟨rfl, rfl, rfl⟩ := hcs
    have hd := (Prod.mk.inj hx).1
    have hsum := bulks.slice_elems ((List.range len).map fun r => Go.Deep.intRow (H := H) IntKind.i64 (A r) (L r) (Z r)) ((List.range (cap - len)).map fun j => Go.Deep.intRow IntKind.i64 (A (len + j)) (L (len + j)) (Z (len + j)))
    have hlen := bulks.length_le ((List.range len).map fun r => Go.Deep.intRow (H := H) IntKind.i64 (A r) (L r) (Z r))
    rw [← hd] at hsum
    simp only [List.length_map, List.length_range] at hlen
    have hL : ∀ i, i < len → L i < 100000000 := by
      intro i hi
      obtain ⟨_, h1, _, h2, _, h3, _⟩ := hrow i (by omega)
      have hbi : Rows.uptoBulk (Go.Deep.intRow (H := H) IntKind.i64 (A i) (L i) (Z i)) ≤ Rows.uptoBulkAll ((List.range len).map fun r => Go.Deep.intRow (H := H) IntKind.i64 (A r) (L r) (Z r)) := bulks.part_le (List.mem_map.2 ⟨i, List.mem_range.2 hi, rfl⟩)
      cases hA : A i with
      | none => have := h3 hA; omega
      | some a' =>
        rw [hA] at hbi
        have b1 := bulks.slice_le (lits (H := H) IntKind.i64 ((Z i).take (L i))) (lits IntKind.i64 ((Z i).drop (L i)))
        have b2 : (lits (H := H) IntKind.i64 ((Z i).take (L i))).length = min (L i) (Z i).length := by simp [lits]
        have b3 : Rows.uptoBulk (Go.Deep.intRow (H := H) IntKind.i64 (some a') (L i) (Z i)) = Rows.uptoBulk (.slice (lits (H := H) IntKind.i64 ((Z i).take (L i))) (lits IntKind.i64 ((Z i).drop (L i)))) := rfl
        rw [b3] at hbi
        omega
    refine ⟨A, L, C, fun i j => (Z i).getD j 0, ?_, by omega, hL⟩
    by_cases h0 : len = 0
    · exact .inl h0
    · obtain ⟨e0, _⟩ := hrow 0 (by omega)
      obtain ⟨b, off, sp⟩ := a
      have hsp : sp = none := by simpa [Addr.add] using World.cell?_spot e0
      subst hsp
      rw [Go.WideShapes.add_plain] at e0
      refine .inr ⟨b, off, rfl, World.block_lt_of_cell? W _ e0, fun i hi => ?_⟩
      obtain ⟨e1, h1, _, h2, _, h3, h4⟩ := hrow i (by omega)
      rw [Go.WideShapes.add_plain] at e1
      refine ⟨e1, ?_⟩
      cases hA : A i with
      | none => have := h3 hA; exact .inl (by omega)
      | some a' => exact isInts_of (fun x hx => (h4 a' hA).2 x (by omega)) (by omega)
set_option maxRecDepth 100000 in
set_option maxHeartbeats 2000000 in
theorem lifted (os : Os) (started : os.Started) (H : Type) (enc : TypeId × Value → H) (F : Stop.Interp) :
    ReturnsInHanded {} Try.checked os 11 .any ((Rows.OpenSpec.upto Rows.clusterKeptSpec).pre6 enc Try.prog Try.f11 Rows.clusterKeptUptoRow.domain false) (((Rows.OpenSpec.upto Rows.clusterKeptSpec).at F).post enc Try.prog Try.f11 false true false false) := by
  refine returnsInHanded_of_cond (C := Try.checked) (s := Rows.OpenSpec.upto Rows.clusterKeptSpec) (k := Rows.uptoSmall) rfl own started (by kernel_rfl) Try.func11
    (OpenSpec.witness (enc := enc) (C := Try.checked) (s := Rows.OpenSpec.upto Rows.clusterKeptSpec) (k := Rows.uptoSmall) rfl false ⟨#[], #[.slice none 0 0, .int .i64 0], []⟩ 8 (by kernel_rfl) (by kernel_rfl) (by kernel_rfl)
      (x := ([.nil, .lit (.int .i64 0)], [], [])) (by kernel_rfl) rfl (by kernel_rfl)) ?_
  intro W base args ds gs before hval0 hW _ hbulk _
  have hbd := bulks.bound hbulk
  have hval : ∀ (j : Nat) t v, Try.f11.params[j]? = some t → args[j]? = some v → Value.okWide Try.prog W .any base t v := hval0
  have hW' := hW
  obtain ⟨p, q, hA0, hV, rfl, hfz, hnd⟩ := hW
  have hA : DataW.TrodAll enc Try.prog W 0 (fun _ => true) true Try.f11.params.toList args.toList ds p := hA0
  rw [Try.params11] at hA hval
  obtain ⟨v0, vs0, d0, ds0, p0, q0, hargs, rfl, rfl, h0, r0⟩ := trodAll_cons hA
  obtain ⟨v1, vs1, d1, ds1, p1, q1, rfl, rfl, rfl, h1, r1⟩ := trodAll_cons r0
  obtain ⟨rfl, rfl, rfl⟩ := trodAll_nil r1
  obtain rfl : args = #[v0, v1] := by cases args; simp_all
  obtain ⟨rfl, rfl⟩ := trodVars_none hV
  obtain ⟨a0, len0, cap0, rfl⟩ := okWide_slice Try.underlying30 (hval 0 30 v0 rfl rfl)
  have k0 := h0
  have lt0 : ∀ x ∈ p0, x.block < W.heap.size := by obtain ⟨m, hm⟩ := k0; exact DataW.trod_lt m _ _ _ hm
  simp only [Rows.uptoBulkAll, List.cons_append, List.nil_append] at hbd
  obtain ⟨fuel, hf⟩ := h0
  obtain ⟨A, L, C, Z, hr0, hl0, hL0⟩ := rows_of (s := a0) (len := len0) (cap := cap0) hf (by omega)
  obtain ⟨a1, rfl, rfl, rfl, w1⟩ := open_int Try.underlying3 (hval 1 3 v1 rfl rfl) h1
  clear hA0 hval0
  refine (lawkept_any _ _ _ A L C Z a1 W hl0 hL0 hr0).mono fun e W' ⟨he, bel⟩ => ?_
  subst he
  exact ⟨_, rfl, _, _, _, [], _, [], hW', trodAll_mk1 (shut_bool Try.underlying4 _), (trodAll_cons_mk (Below.trod laidOut (by kernel_rfl) (of_decide_eq_true (by kernel_rfl)) k0 bel lt0) (trodAll_cons_mk (shut_int Try.underlying3 w1) trodAll_mk0)), rfl, bel.frame _, fun h => by cases h⟩
theorem proved : Rows.ClusterKeptUptoSaid :=
  OpenClaim.holds_of_cond 11 Try.f11 rfl rfl rfl rfl rfl rfl rfl ⟨rfl, rfl, rfl, rfl, rfl⟩ rfl rfl rfl rfl rfl (by kernel_rfl) Try.func11 (by kernel_rfl)
    (of_decide_eq_true (by kernel_rfl)) (by unfold Func.isWrapper; rw [if_neg (of_decide_eq_false (by kernel_rfl))]; exact ⟨rfl, rfl⟩)
    (fun os started H enc _ F => lifted os started H enc F)
end Go.Proofs.Ytpipcmbfdcbboaa.clusterKept
