/- The law PatternCompile holds for every input of bulk at most 1048576: its card. What it leans on: the tables of package glyph hold what the program text lays in them (tied by the given tie). -/
import Derived.Test.YtdegdoilpamjjaaDoorCards
import Derived.Test.YtdegdoilpamjjaaDoorTie
import Derived.WalkKit
import Derived.ProofKit
import Derived.OpenShut
import Derived.ShutString
import Derived.ChangeOld
import Derived.Below
import Derived.Deep.DeepHandedRow
import Derived.Lib.LaidTab
import Derived.Test.YtdegdoilpamjjaaDoorCBc
import Derived.Test.YtdegdoilpamjjaaDoorCAb
import Derived.Test.YtdegdoilpamjjaaDoorCAa
namespace Go.Proofs.YtdegdoilpamjjaaDoor.patternCompile
open Go.ChangeShapes Go.WideShapes Go.ChangeAt Go.RowKit
open Go.ChangeMaps (open_string shut_string)
set_option linter.unusedVariables false
theorem own : ownKnob Tryd.prog.godebug = none := by kernel_rfl
theorem laidOut : laidOutB Tryd.prog = true := by kernel_rfl
set_option maxRecDepth 100000 in
theorem slice_lt {W : World} {base : Nat} {a : Addr} {len cap : Nat} (h : Value.okWide Tryd.prog W .any base 22 (.slice (some a) len cap)) : a.block < W.heap.size := by
 simp only [Value.okWide, Tryd.underlying22, Cell.okWide, Cell.ok] at h
 obtain ⟨-, -, -, -, row, cells, hs, -⟩ := h
 refine Classical.byContradiction fun hn => ?_
 simp [World.shape?, Array.getElem?_eq_none (xs := W.heap) (show W.heap.size ≤ a.block by omega)] at hs
theorem isInts_of {W : World} {x : Addr} {zs : List Int} {len : Nat} (h : ∀ i, i < zs.length → W.cell? (x.add i) = some (.int .i64 (zs.getD i 0))) (hl : len ≤ zs.length) : IsInts W (some x) len (fun i => zs.getD i 0) := by
 by_cases h0 : len = 0
 · exact .inl h0
 ·
  obtain ⟨b, off, rfl, hc⟩ := ints_at h (by omega)
  refine .inr ⟨b, off, rfl, ?_, fun i hi => hc i (by omega)⟩
  have h1 := hc 0 (by omega)
  refine Classical.byContradiction fun hn => ?_
  rw [World.cell?] at h1
  rw [Array.getElem?_eq_none (by show W.heap.size ≤ b; omega)] at h1
  cases h1
theorem open_bulk {H : Type} {enc : TypeId × Value → H} {W : World} {hd : Bool} {a : Option Addr} {len cap : Nat} {d : DataW H} {p : List MemPlace}
  (h : DataW.Trod enc Tryd.prog W 0 (fun _ => true) hd 22 (.slice a len cap) d p) : ∃ f : Nat → Int, len + 1 ≤ Rows.uptoBulk d ∧ IsInts W a len f ∧ (a = none → len = 0 ∧ cap = 0) := by
 obtain ⟨fuel, hf⟩ := h
 rcases open_ints Tryd.underlying22 Tryd.underlying3 (by kernel_rfl) hf with ⟨hcs, hx⟩ | ⟨x, l, c, zs, hcs, _, hl, hm, hz, hx, hcell, hwz⟩
 ·
  simp [Value.cells] at hcs
  obtain ⟨rfl, rfl, rfl⟩ := hcs
  exact ⟨fun _ => 0, bulks.one_le _, .inl rfl, fun _ => ⟨rfl, rfl⟩⟩
 ·
  simp [Value.cells] at hcs
  obtain ⟨rfl, rfl, rfl⟩ := hcs
  refine ⟨fun i => zs.getD i 0, ?_, isInts_of hcell (by simp at hz; omega), fun h => by cases h⟩
  rw [(Prod.mk.inj hx).1]
  have h1 := bulks.slice_le (lits (H := H) IntKind.i64 (zs.take len)) (lits IntKind.i64 (zs.drop len))
  have h2 : (lits (H := H) IntKind.i64 (zs.take len)).length = min len zs.length := (by simp [lits])
  simp at hz
  omega
set_option maxRecDepth 100000 in
theorem contract (H : Type) (enc : TypeId × Value → H) (W : World) (base : Nat) (args : Array Value) (ds gs : List (DataW H)) (before : List MemPlace) (hbd : Rows.uptoBulkAll (ds ++ gs) ≤ 1048576)
  (hval : ∀ (j : Nat) t v, Tryd.f6.params[j]? = some t → args[j]? = some v → Value.okWide Tryd.prog W .any base t v)
  (hW : DataW.Whole enc Tryd.prog Tryd.f6.params.toList Rows.patternCompileSpec.vars false W args.toList ds gs before) (hL : laidMetH Tryd.prog Rows.patternCompileUptoRow.laid W) :
  Calls Tryd.prog 6 args W fun e W' => ∃ v, e = .returned v ∧ Rows.patternCompileSpec.post enc Tryd.prog Tryd.f6 false true false false W args v W' := by
 have hW' := hW
 obtain ⟨p, q, hA0, hV, rfl, hfz, hnd⟩ := hW
 have hA : DataW.TrodAll enc Tryd.prog W 0 (fun _ => true) true Tryd.f6.params.toList args.toList ds p := hA0
 rw [Tryd.params6] at hA hval
 obtain ⟨v0, vs0, d0, ds0, p0, q0, hargs, rfl, rfl, h0, r0⟩ := trodAll_cons hA
 obtain ⟨v1, vs1, d1, ds1, p1, q1, rfl, rfl, rfl, h1, r1⟩ := trodAll_cons r0
 obtain ⟨rfl, rfl, rfl⟩ := trodAll_nil r1
 obtain rfl : args = #[v0, v1] := by cases args; simp_all
 obtain ⟨rfl, rfl⟩ := trodVars_none hV
 have k0 := h0
 have lt0 : ∀ x ∈ p0, x.block < W.heap.size := by obtain ⟨m, hm⟩ := k0; exact DataW.trod_lt m _ _ _ hm
 obtain ⟨a1, rfl, rfl, rfl⟩ := open_bool Tryd.underlying4 (hval 1 4 v1 rfl rfl) h1
 obtain ⟨a0, len0, cap0, rfl⟩ := okWide_slice Tryd.underlying22 (hval 0 22 v0 rfl rfl)
 have hs0 : ∀ a, a0 = some a → a.block < W.heap.size := fun a ha => by subst ha; exact slice_lt (hval 0 22 _ rfl rfl)
 obtain ⟨f0, hl0, hr0, hn0⟩ := open_bulk h0
 have hb0 : Rows.uptoBulk d0 ≤ 1048576 := Nat.le_trans (bulks.part_le (by simp)) hbd
 clear hA0
 refine (law_compile a0 len0 cap0 f0 a1 W (by omega) hr0 hn0 hs0 (tabs_of_laid hL)).mono fun e W' ⟨he, bel⟩ => ?_
 subst he
 exact ⟨_, rfl, _, _, _, [], _, [], hW', trodAll_mk1 (shut_bool Tryd.underlying4 _), (trodAll_cons_mk (Below.trod laidOut (by kernel_rfl) (of_decide_eq_true (by kernel_rfl)) k0 bel lt0) (trodAll_cons_mk (shut_bool Tryd.underlying4 _) trodAll_mk0)), rfl, bel.frame _, fun h => by cases h⟩
theorem laid_met (os : Os) : laidMet Tryd.prog Rows.patternCompileUptoRow.laid ((laidWorld os).forCall (fun _ _ => 0) ⟨#[], #[.slice none 0 0, .bool false], []⟩).memory :=
 laidMet_of_run' 8 (by kernel_rfl) (by kernel_rfl)
theorem reads (os : Os) {H : Type} (enc : TypeId × Value → H) : ∃ places, DataW.whole enc Tryd.prog ((laidWorld os).forCall (fun _ _ => 0) ⟨#[], #[.slice none 0 0, .bool false], []⟩).memory Tryd.f6.params.toList Rows.patternCompileSpec.vars false (#[.slice none 0 0, .bool false] : Array Value).toList 8 = some ([.nil, .lit (.bool false)], [], places) :=
 ⟨[], by kernel_rfl⟩
set_option maxRecDepth 100000 in
theorem lifted (os : Os) (started : os.Started) (H : Type) (enc : TypeId × Value → H) (F : Stop.Interp) :
  ReturnsInHanded {} Tryd.checked os 6 .any ((Rows.OpenSpec.upto Rows.patternCompileSpec).preRow enc Tryd.prog Tryd.f6 Rows.patternCompileUptoRow.domain false Rows.patternCompileUptoRow.laid) (((Rows.OpenSpec.upto Rows.patternCompileSpec).at F).post enc Tryd.prog Tryd.f6 false true false false) := by
 obtain ⟨places, hx⟩ := reads os enc
 refine returnsInHanded_of_row (C := Tryd.checked) (s := Rows.OpenSpec.upto Rows.patternCompileSpec) own started (by kernel_rfl) Tryd.func6
  (witness_row_at (enc := enc) (C := Tryd.checked) false (laidWorld os) #[.slice none 0 0, .bool false] rfl (by kernel_rfl) (by kernel_rfl) (by kernel_rfl)
   (OpenSpec.preRow_of_cond 8 hx (by kernel_rfl) (fun k hk => by cases hk; kernel_rfl) (by kernel_rfl) (laid_met os))) ?_
 intro W base args ds gs before hval hW hx1 hcond hx3 hL hx4 hx5
 exact contract H enc W base args ds gs before (bulks.bound (hcond _ rfl)) hval hW hL
theorem said : Rows.PatternCompileUptoSaid :=
 OpenClaim.holds_of_cond 6 Tryd.f6 rfl rfl rfl rfl rfl rfl rfl ⟨rfl, rfl, rfl, rfl, rfl⟩ rfl rfl rfl rfl rfl (by kernel_rfl) Tryd.func6 (by kernel_rfl)
  (of_decide_eq_true (by kernel_rfl)) (by unfold Func.isWrapper; rw [if_neg (of_decide_eq_false (by kernel_rfl))]; exact ⟨rfl, rfl⟩)
  (fun os started H enc _ F => by rw [OpenClaim.pre_eq_preRow]; exact lifted os started H enc F)
theorem plain (f : FuncId) (fn : Func) (hf : Tryd.pinned.checked.prog.funcNamed Rows.patternCompileUptoRow.func = some f) (hfn : Tryd.pinned.checked.prog.funcs[f]? = some fn) :
  true = Tryd.pinned.checked.prog.looks [] ∧ ∀ (j : Nat) t, fn.params[j]? = some t → Tryd.pinned.checked.prog.wantsStandIn t = false := by
 obtain rfl : f = 6 := Option.some.inj ((show Tryd.prog.funcNamed Rows.patternCompileUptoRow.func = some 6 by kernel_rfl).symm.trans hf) |>.symm
 obtain rfl : fn = Tryd.f6 := (Option.some.inj (Tryd.func6.symm.trans hfn)).symm
 refine ⟨by kernel_rfl, fun j t ht => ?_⟩
 rw [Tryd.params6] at ht
 have hm := Array.mem_of_getElem? ht
 simp only [List.mem_toArray, List.mem_cons, List.not_mem_nil, or_false] at hm
 rcases hm with rfl | rfl
 · exact (show Tryd.prog.wantsStandIn 22 = false by kernel_rfl)
 · exact (show Tryd.prog.wantsStandIn 4 = false by kernel_rfl)
theorem card : Rows.PatternCompileUptoCardSaid :=
 Claim7.holds_tied_plain_at .later [] _ _ _ _ said (fun _ h => by cases h) (by kernel_rfl) (fun _ h => by cases h) patternCompileUpto_row_tie rfl ⟨rfl, rfl⟩ (by kernel_rfl) rfl plain (by kernel_rfl)
end Go.Proofs.YtdegdoilpamjjaaDoor.patternCompile
