/- The law ClusterAll holds for every input of bulk at most 1048576: the second form of the statement as given. No other condition. -/
import Derived.Test.YtpipcmbfdcbboaaRows
import Derived.Test.YtpipcmbfdcbboaaCC
import Derived.Test.YtpipcmbfdcbboaaBulk
import Derived.JoinedCond
import Derived.WalkKit
import Derived.ProofKit
import Derived.OpenShut
import Derived.ShutString
import Derived.ChangeOld
import Derived.Below
import Derived.Deep.Slices
namespace Go.Proofs.Ytpipcmbfdcbboaa.clusterAll
open Go.ChangeShapes Go.WideShapes Go.ChangeAt Go.RowKit
open Go.ChangeMaps (open_string shut_string)
set_option linter.unusedVariables false
theorem own : ownKnob Try.prog.godebug = none := by kernel_rfl
theorem laidOut : laidOutB Try.prog = true := by kernel_rfl
theorem isInts_of {W : World} {x : Addr} {zs : List Int} {len : Nat} (h : ∀ i, i < zs.length → W.cell? (x.add i) = some (.int .i64 (zs.getD i 0))) (hl : len ≤ zs.length) : IsInts W (some x) len (fun i => zs.getD i 0) := by
  by_cases h0 : len = 0
  · exact .inl h0
  · obtain ⟨b, off, rfl, hc⟩ := ints_at h (by omega)
    refine .inr ⟨b, off, rfl, ?_, fun i hi => hc i (by omega)⟩
    have h1 := hc 0 (by omega)
    refine Classical.byContradiction fun hn => ?_
    rw [World.cell?] at h1
    rw [Array.getElem?_eq_none (by show W.heap.size ≤ b; omega)] at h1
    cases h1
theorem ops_of {H : Type} {enc : TypeId × Value → H} {W : World} {fuel : Nat} {s : Option Addr} {len cap : Nat} {d : DataW H} {p : List MemPlace}
    (hf : DataW.trod enc Try.prog W 0 (fun _ => true) true fuel 37 [.slice s len cap] = some (d, p)) (hb : Rows.uptoBulk d ≤ 1048576) :
    ∃ (K A : Nat → Int) (S : Nat → Option Addr) (N C : Nat → Nat) (F : Nat → Nat → Int), IsOps W s len K A S N C F ∧ len < 1048577 := by
  rcases Go.Deep.open_slice Try.underlying37 hf with ⟨hcs, hx⟩ | ⟨a, l, c, m, n, D, Pl, hcs, _, hl, hm, hmm, hx, hel⟩
  · simp at hcs
    obtain ⟨_, rfl, _⟩ := hcs
    exact ⟨fun _ => 0, fun _ => 0, fun _ => none, fun _ => 0, fun _ => 0, fun _ _ => 0, .inl rfl, by omega⟩
  · simp at hcs
    obtain ⟨rfl, rfl, rfl⟩ := hcs
    simp only [if_true] at hmm
    have hd := (Prod.mk.inj hx).1
    have hsum := bulks.slice_elems ((List.range len).map D) ((List.range (m - len)).map fun j => D (len + j))
    have hlen := bulks.length_le ((List.range len).map D)
    rw [← hd] at hsum
    simp only [List.length_map, List.length_range] at hlen
    have each : ∀ i, i < len → ∃ y : Int × Int × Option Addr × Nat × Nat × (Nat → Int), (∀ b off, a = ⟨b, off, none⟩ → OpAt W b (off + i * 3) y.1 y.2.1 y.2.2.1 y.2.2.2.1 y.2.2.2.2.1 y.2.2.2.2.2) := by
      intro i hi
      obtain ⟨cs', h1, h2⟩ := hel i (by omega)
      have hbi : Rows.uptoBulk (D i) ≤ Rows.uptoBulkAll ((List.range len).map D) := bulks.part_le (List.mem_map.2 ⟨i, List.mem_range.2 hi, rfl⟩)
      rw [show Try.prog.cellsOf 40 = 3 from by kernel_rfl] at h1
      obtain ⟨_, hcl, hcell⟩ := World.cells?_some h1
      obtain ⟨xs, n', _, hxx, _, hxl, hfld⟩ := DataW.trod_struct Try.underlying40 h2
      match cs', hcl with
      | [v0, v1, v2], _ =>
        match xs, hxl with
        | [y0, y1, y2], _ =>
          have q1 : Try.prog.cellsOf 3 = 1 := by kernel_rfl
          have q2 : Try.prog.cellsOf 22 = 1 := by kernel_rfl
          have g0 : DataW.trod enc Try.prog W 0 (fun _ => true) true n' 3 (([v0, v1, v2].drop 0).take (Try.prog.cellsOf 3)) = some y0 := hfld 0 _ rfl
          have g1 : DataW.trod enc Try.prog W 0 (fun _ => true) true n' 3 (([v0, v1, v2].drop 1).take (Try.prog.cellsOf 3)) = some y1 := hfld 1 _ rfl
          have g2 : DataW.trod enc Try.prog W 0 (fun _ => true) true n' 22 (([v0, v1, v2].drop 2).take (Try.prog.cellsOf 22)) = some y2 := hfld 2 _ rfl
          rw [q1] at g0 g1
          rw [q2] at g2
          obtain ⟨k, hk, _⟩ := DataW.trod_int Try.underlying3 g0
          obtain ⟨k2, hk2, _⟩ := DataW.trod_int Try.underlying3 g1
          have hk' : v0 = .int .i64 k := by simpa using hk
          have hk2' : v1 = .int .i64 k2 := by simpa using hk2
          subst hk' hk2'
          have e0 := hcell 0 (by omega)
          have e1 := hcell 1 (by omega)
          have e2 := hcell 2 (by omega)
          have hDi := (Prod.mk.inj hxx).1
          rcases open_ints Try.underlying22 Try.underlying3 q1 g2 with ⟨hcs2, hx2⟩ | ⟨x, l2, c2, zs, hcs2, _, hl2, hm2, hz2, hx2, hcell2, hwz2⟩
          · have hv : v2 = .slice none 0 0 := by simpa using hcs2
            subst hv
            refine ⟨(k, k2, none, 0, 0, fun _ => 0), ?_⟩
            rintro b off rfl
            rw [Go.WideShapes.add_plain, Go.WideShapes.add_plain] at e0 e1 e2
            exact ⟨e0, e1, e2, .inl rfl, by show 0 < 1048577; omega⟩
          · have hv : v2 = .slice (some x) l2 c2 := by simpa using hcs2
            subst hv
            refine ⟨(k, k2, some x, l2, c2, fun i => zs.getD i 0), ?_⟩
            rintro b off rfl
            rw [Go.WideShapes.add_plain, Go.WideShapes.add_plain] at e0 e1 e2
            simp at hz2
            show OpAt W b (off + i * 3) k k2 (some x) l2 c2 (fun i => zs.getD i 0)
            refine ⟨e0, e1, e2, isInts_of hcell2 (by omega), ?_⟩
            have hy2 : y2.1 = .slice (lits .i64 (zs.take l2)) (lits .i64 (zs.drop l2)) := by rw [hx2]
            have b1 := bulks.slice_le (lits (H := H) IntKind.i64 (zs.take l2)) (lits IntKind.i64 (zs.drop l2))
            have b2 : (lits (H := H) IntKind.i64 (zs.take l2)).length = min l2 zs.length := by simp [lits]
            have b3 : Rows.uptoBulk y2.1 ≤ Rows.uptoBulk (D i) := by
              rw [hDi]
              simp only [List.map_cons, List.map_nil, Rows.uptoBulk, Rows.uptoBulkAll]
              omega
            rw [hy2] at b3
            omega
    by_cases h0 : len = 0
    · exact ⟨fun _ => 0, fun _ => 0, fun _ => none, fun _ => 0, fun _ => 0, fun _ _ => 0, .inl h0, by omega⟩
    · obtain ⟨cs', h1, _⟩ := hel 0 (by omega)
      rw [show Try.prog.cellsOf 40 = 3 from by kernel_rfl] at h1
      obtain ⟨_, hcl, hcell⟩ := World.cells?_some h1
      have e0 := hcell 0 (by omega)
      rw [List.getElem?_eq_getElem (by omega)] at e0
      obtain ⟨b, off, sp⟩ := a
      have hsp : sp = none := by simpa [Addr.add] using World.cell?_spot e0
      subst hsp
      rw [Go.WideShapes.add_plain, Go.WideShapes.add_plain] at e0
      have hblk : b < W.heap.size := World.block_lt_of_cell? W _ e0
      obtain ⟨Y, hY⟩ := Go.Deep.choose_lt (α := Int × Int × Option Addr × Nat × Nat × (Nat → Int)) (p := fun i y => OpAt W b (off + i * 3) y.1 y.2.1 y.2.2.1 y.2.2.2.1 y.2.2.2.2.1 y.2.2.2.2.2) (fun i hi => by
        obtain ⟨y, hy⟩ := each i hi
        exact ⟨y, hy b off rfl⟩)
      exact ⟨fun i => (Y i).1, fun i => (Y i).2.1, fun i => (Y i).2.2.1, fun i => (Y i).2.2.2.1, fun i => (Y i).2.2.2.2.1, fun i => (Y i).2.2.2.2.2, .inr ⟨b, off, rfl, hblk, hY⟩, by omega⟩
set_option maxRecDepth 100000 in
set_option maxHeartbeats 2000000 in
theorem lifted (os : Os) (started : os.Started) (H : Type) (enc : TypeId × Value → H) (F : Stop.Interp) :
    ReturnsInHanded {} Try.checked os 10 .any ((Rows.OpenSpec.upto Rows.clusterAllSpec).pre6 enc Try.prog Try.f10 Rows.clusterAllUptoRow.domain false) (((Rows.OpenSpec.upto Rows.clusterAllSpec).at F).post enc Try.prog Try.f10 false true false false) := by
  refine returnsInHanded_of_cond (C := Try.checked) (s := Rows.OpenSpec.upto Rows.clusterAllSpec) (k := Rows.uptoSmall) rfl own started (by kernel_rfl) Try.func10
    (OpenSpec.witness (enc := enc) (C := Try.checked) (s := Rows.OpenSpec.upto Rows.clusterAllSpec) (k := Rows.uptoSmall) rfl false ⟨#[], #[.slice none 0 0], []⟩ 8 (by kernel_rfl) (by kernel_rfl) (by kernel_rfl)
      (x := ([.nil], [], [])) (by kernel_rfl) rfl (by kernel_rfl)) ?_
  intro W base args ds gs before hval0 hW _ hbulk _
  have hbd := bulks.bound hbulk
  have hval : ∀ (j : Nat) t v, Try.f10.params[j]? = some t → args[j]? = some v → Value.okWide Try.prog W .any base t v := hval0
  have hW' := hW
  obtain ⟨p, q, hA0, hV, rfl, hfz, hnd⟩ := hW
  have hA : DataW.TrodAll enc Try.prog W 0 (fun _ => true) true Try.f10.params.toList args.toList ds p := hA0
  rw [Try.params10] at hA hval
  obtain ⟨v0, vs0, d0, ds0, p0, q0, hargs, rfl, rfl, h0, r0⟩ := trodAll_cons hA
  obtain ⟨rfl, rfl, rfl⟩ := trodAll_nil r0
  obtain rfl : args = #[v0] := by cases args; simp_all
  obtain ⟨rfl, rfl⟩ := trodVars_none hV
  obtain ⟨a0, len0, cap0, rfl⟩ := okWide_slice Try.underlying37 (hval 0 37 v0 rfl rfl)
  have k0 := h0
  have lt0 : ∀ x ∈ p0, x.block < W.heap.size := by obtain ⟨m, hm⟩ := k0; exact DataW.trod_lt m _ _ _ hm
  simp only [Rows.uptoBulkAll, List.cons_append, List.nil_append] at hbd
  obtain ⟨fuel, hf⟩ := h0
  obtain ⟨K, A, S, N, C, F, hr0, hl0⟩ := ops_of (s := a0) (len := len0) (cap := cap0) hf (by omega)
  clear hA0 hval0
  refine (lawall_any _ _ _ K A S N C F W hl0 hr0).mono fun e W' ⟨he, bel⟩ => ?_
  subst he
  exact ⟨_, rfl, _, _, _, [], _, [], hW', trodAll_mk1 (shut_bool Try.underlying4 _), (trodAll_cons_mk (Below.trod laidOut (by kernel_rfl) (of_decide_eq_true (by kernel_rfl)) k0 bel lt0) trodAll_mk0), rfl, bel.frame _, fun h => by cases h⟩
theorem proved : Rows.ClusterAllUptoSaid :=
  OpenClaim.holds_of_cond 10 Try.f10 rfl rfl rfl rfl rfl rfl rfl ⟨rfl, rfl, rfl, rfl, rfl⟩ rfl rfl rfl rfl rfl (by kernel_rfl) Try.func10 (by kernel_rfl)
    (of_decide_eq_true (by kernel_rfl)) (by unfold Func.isWrapper; rw [if_neg (of_decide_eq_false (by kernel_rfl))]; exact ⟨rfl, rfl⟩)
    (fun os started H enc _ F => lifted os started H enc F)
end Go.Proofs.Ytpipcmbfdcbboaa.clusterAll
