/- The law KeysFeed holds for every input of bulk at most 1048576: the second form of the statement as given. No other condition. -/
import Derived.Test.YtampjndfhpjheaaRows
import Derived.JoinedCond
import Derived.WalkKit
import Derived.ProofKit
import Derived.OpenShut
import Derived.ShutString
import Derived.ChangeOld
import Derived.Below
import Derived.Deep.Slices
import Derived.Test.YtampjndfhpjheaaQBt
import Derived.Test.YtampjndfhpjheaaQAa
namespace Go.Proofs.Ytampjndfhpjheaa.keysFeed
open Go.ChangeShapes Go.WideShapes Go.ChangeAt Go.RowKit
open Go.ChangeMaps (open_string shut_string)
set_option linter.unusedVariables false
theorem own : ownKnob Try.prog.godebug = none := by kernel_rfl
theorem laidOut : laidOutB Try.prog = true := by kernel_rfl
theorem isInts_of {W : World} {x : Addr} {zs : List Int} {len : Nat} (h : ∀ i, i < zs.length → W.cell? (x.add i) = some (.int .i64 (zs.getD i 0))) (hl : len ≤ zs.length) : IsInts W (some x) len (fun i => zs.getD i 0) := by
 by_cases h0 : len = 0
 · exact .inl h0
 ·
  obtain ⟨b, off, rfl, hc⟩ := ints_at h (by omega)
  refine .inr ⟨b, off, rfl, ?_, fun i hi => hc i (by omega)⟩
  have h1 := hc 0 (by omega)
  refine Classical.byContradiction fun hn => ?_
  rw [World.cell?] at h1
  rw [Array.getElem?_eq_none (by show W.heap.size ≤ b; omega)] at h1
  cases h1
set_option maxRecDepth 100000 in
theorem ops_of {H : Type} {enc : TypeId × Value → H} {W : World} {fuel : Nat} {s : Option Addr} {len cap : Nat} {d : DataW H} {p : List MemPlace}
  (hf : DataW.trod enc Try.prog W 0 (fun _ => true) true fuel 57 [.slice s len cap] = some (d, p)) (hb : Rows.uptoBulk d ≤ 1048576) :
  ∃ O : Nat → Int × Int × Int × Int, IsOps W s len O ∧ len < 1048577 := by
 rcases Go.Deep.open_slice Try.underlying57 hf with ⟨hcs, hx⟩ | ⟨a, l, c, m, n, D, Pl, hcs, _, hl, hm, hmm, hx, hel⟩
 ·
  simp at hcs
  obtain ⟨_, rfl, _⟩ := hcs
  exact ⟨fun _ => (0, 0, 0, 0), .inl rfl, by omega⟩
 ·
  simp at hcs
  obtain ⟨rfl, rfl, rfl⟩ := hcs
  simp only [if_true] at hmm
  have hd := (Prod.mk.inj hx).1
  have hsum := bulks.slice_elems ((List.range len).map D) ((List.range (m - len)).map fun j => D (len + j))
  have hlen := bulks.length_le ((List.range len).map D)
  rw [← hd] at hsum
  simp only [List.length_map, List.length_range] at hlen
  have each : ∀ i, i < len → ∃ y : Int × Int × Int × Int, inKey y.2.2.2 ∧ (∀ b off, a = ⟨b, off, none⟩ → W.cell? ⟨b, off + i * 4, none⟩ = some (.int .i64 y.1) ∧ W.cell? ⟨b, off + i * 4 + 1, none⟩ = some (.int .i64 y.2.1) ∧ W.cell? ⟨b, off + i * 4 + 2, none⟩ = some (.int .i64 y.2.2.1) ∧ W.cell? ⟨b, off + i * 4 + 3, none⟩ = some (.int .i64 y.2.2.2)) := by
   intro i hi
   obtain ⟨cs', h1, h2⟩ := hel i (by omega)
   rw [show Try.prog.cellsOf 64 = 4 from by kernel_rfl] at h1
   obtain ⟨_, hcl, hcell⟩ := World.cells?_some h1
   obtain ⟨xs, n', _, hxx, _, hxl, hfld⟩ := DataW.trod_struct Try.underlying64 h2
   match cs', hcl with
   | [v0, v1, v2, v3], _ =>
    match xs, hxl with
    | [y0, y1, y2, y3], _ =>
     have q1 : Try.prog.cellsOf 3 = 1 := by kernel_rfl
     have g0 : DataW.trod enc Try.prog W 0 (fun _ => true) true n' 3 (([v0, v1, v2, v3].drop 0).take (Try.prog.cellsOf 3)) = some y0 := hfld 0 _ rfl
     have g1 : DataW.trod enc Try.prog W 0 (fun _ => true) true n' 3 (([v0, v1, v2, v3].drop 1).take (Try.prog.cellsOf 3)) = some y1 := hfld 1 _ rfl
     have g2 : DataW.trod enc Try.prog W 0 (fun _ => true) true n' 3 (([v0, v1, v2, v3].drop 2).take (Try.prog.cellsOf 3)) = some y2 := hfld 2 _ rfl
     have g3 : DataW.trod enc Try.prog W 0 (fun _ => true) true n' 3 (([v0, v1, v2, v3].drop 3).take (Try.prog.cellsOf 3)) = some y3 := hfld 3 _ rfl
     rw [q1] at g0 g1 g2 g3
     obtain ⟨k0, e0, _, _⟩ := DataW.trod_int Try.underlying3 g0
     obtain ⟨k1, e1, _, _⟩ := DataW.trod_int Try.underlying3 g1
     obtain ⟨k2, e2, _, _⟩ := DataW.trod_int Try.underlying3 g2
     obtain ⟨k3, e3, _, w3⟩ := DataW.trod_int Try.underlying3 g3
     have f0 : v0 = .int .i64 k0 := by simpa using e0
     have f1 : v1 = .int .i64 k1 := by simpa using e1
     have f2 : v2 = .int .i64 k2 := by simpa using e2
     have f3 : v3 = .int .i64 k3 := by simpa using e3
     subst f0 f1 f2 f3
     have c0 := hcell 0 (by omega)
     have c1 := hcell 1 (by omega)
     have c2 := hcell 2 (by omega)
     have c3 := hcell 3 (by omega)
     refine ⟨(k0, k1, k2, k3), w3, ?_⟩
     rintro b off rfl
     rw [Go.WideShapes.add_plain, Go.WideShapes.add_plain] at c0 c1 c2 c3
     exact ⟨c0, c1, c2, c3⟩
  by_cases h0 : len = 0
  · exact ⟨fun _ => (0, 0, 0, 0), .inl h0, by omega⟩
  ·
   obtain ⟨cs', h1, _⟩ := hel 0 (by omega)
   rw [show Try.prog.cellsOf 64 = 4 from by kernel_rfl] at h1
   obtain ⟨_, hcl, hcell⟩ := World.cells?_some h1
   have e0 := hcell 0 (by omega)
   rw [List.getElem?_eq_getElem (by omega)] at e0
   obtain ⟨b, off, sp⟩ := a
   have hsp : sp = none := by simpa [Addr.add] using World.cell?_spot e0
   subst hsp
   rw [Go.WideShapes.add_plain, Go.WideShapes.add_plain] at e0
   have hblk : b < W.heap.size := World.block_lt_of_cell? W _ e0
   obtain ⟨Y, hY⟩ := Go.Deep.choose_lt (α := Int × Int × Int × Int) (p := fun i y => W.cell? ⟨b, off + i * 4, none⟩ = some (.int .i64 y.1) ∧ W.cell? ⟨b, off + i * 4 + 1, none⟩ = some (.int .i64 y.2.1) ∧ W.cell? ⟨b, off + i * 4 + 2, none⟩ = some (.int .i64 y.2.2.1) ∧ W.cell? ⟨b, off + i * 4 + 3, none⟩ = some (.int .i64 y.2.2.2) ∧ inKey y.2.2.2) (fun i hi => by
    obtain ⟨y, hk, hy⟩ := each i hi
    obtain ⟨y1, y2, y3, y4⟩ := hy b off rfl
    exact ⟨y, y1, y2, y3, y4, hk⟩)
   exact ⟨Y, .inr ⟨b, off, rfl, hblk, hY⟩, by omega⟩
set_option maxRecDepth 100000 in
set_option maxHeartbeats 2000000 in
theorem lifted (os : Os) (started : os.Started) (H : Type) (enc : TypeId × Value → H) (F : Stop.Interp) :
  ReturnsInHanded {} Try.checked os 8 .any ((Rows.OpenSpec.upto Rows.keysFeedSpec).pre6 enc Try.prog Try.f8 Rows.keysFeedUptoRow.domain false) (((Rows.OpenSpec.upto Rows.keysFeedSpec).at F).post enc Try.prog Try.f8 false true false false) := by
 refine returnsInHanded_of_cond (C := Try.checked) (s := Rows.OpenSpec.upto Rows.keysFeedSpec) (k := Rows.uptoSmall) rfl own started (by kernel_rfl) Try.func8
  (OpenSpec.witness (enc := enc) (C := Try.checked) (s := Rows.OpenSpec.upto Rows.keysFeedSpec) (k := Rows.uptoSmall) rfl false ⟨#[], #[.slice none 0 0], []⟩ 8 (by kernel_rfl) (by kernel_rfl) (by kernel_rfl)
   (x := ([.nil], [], [])) (by kernel_rfl) rfl (by kernel_rfl)) ?_
 intro W base args ds gs before hval0 hW _ hbulk _
 have hbd := bulks.bound hbulk
 have hval : ∀ (j : Nat) t v, Try.f8.params[j]? = some t → args[j]? = some v → Value.okWide Try.prog W .any base t v := hval0
 have hW' := hW
 obtain ⟨p, q, hA0, hV, rfl, hfz, hnd⟩ := hW
 have hA : DataW.TrodAll enc Try.prog W 0 (fun _ => true) true Try.f8.params.toList args.toList ds p := hA0
 rw [Try.params8] at hA hval
 obtain ⟨v0, vs0, d0, ds0, p0, q0, hargs, rfl, rfl, h0, r0⟩ := trodAll_cons hA
 obtain ⟨rfl, rfl, rfl⟩ := trodAll_nil r0
 obtain rfl : args = #[v0] := by cases args; simp_all
 obtain ⟨rfl, rfl⟩ := trodVars_none hV
 obtain ⟨a0, len0, cap0, rfl⟩ := okWide_slice Try.underlying57 (hval 0 57 v0 rfl rfl)
 have k0 := h0
 have lt0 : ∀ x ∈ p0, x.block < W.heap.size := by obtain ⟨m, hm⟩ := k0; exact DataW.trod_lt m _ _ _ hm
 simp only [Rows.uptoBulkAll, List.cons_append, List.nil_append] at hbd
 obtain ⟨fuel, hf⟩ := h0
 obtain ⟨O, hr0, hl0⟩ := ops_of (s := a0) (len := len0) (cap := cap0) hf (by omega)
 clear hA0 hval0
 refine (keysfeed_c a0 len0 cap0 O W hl0 hr0).mono fun e W' ⟨he, bel⟩ => ?_
 subst he
 exact ⟨_, rfl, _, _, _, [], _, [], hW', trodAll_mk1 (shut_bool Try.underlying4 _), (trodAll_cons_mk (Below.trod laidOut (by kernel_rfl) (of_decide_eq_true (by kernel_rfl)) k0 bel lt0) trodAll_mk0), rfl, bel.frame _, fun h => by cases h⟩
theorem proved : Rows.KeysFeedUptoSaid :=
 OpenClaim.holds_of_cond 8 Try.f8 rfl rfl rfl rfl rfl rfl rfl ⟨rfl, rfl, rfl, rfl, rfl⟩ rfl rfl rfl rfl rfl (by kernel_rfl) Try.func8 (by kernel_rfl)
  (of_decide_eq_true (by kernel_rfl)) (by unfold Func.isWrapper; rw [if_neg (of_decide_eq_false (by kernel_rfl))]; exact ⟨rfl, rfl⟩)
  (fun os started H enc _ F => lifted os started H enc F)
end Go.Proofs.Ytampjndfhpjheaa.keysFeed
