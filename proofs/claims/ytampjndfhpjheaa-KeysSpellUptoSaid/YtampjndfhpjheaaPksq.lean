/- The law KeysSpell holds for every input of bulk at most 1048576: the second form of the statement as given. No other condition. -/
import Derived.Test.YtampjndfhpjheaaRows
import Derived.JoinedCond
import Derived.WalkKit
import Derived.ProofKit
import Derived.OpenShut
import Derived.ShutString
import Derived.ChangeOld
import Derived.Below
import Derived.Test.YtampjndfhpjheaaQBr
import Derived.Test.YtampjndfhpjheaaQAa
namespace Go.Proofs.Ytampjndfhpjheaa.keysSpell
open Go.ChangeShapes Go.WideShapes Go.ChangeAt Go.RowKit
open Go.ChangeMaps (open_string shut_string)
set_option linter.unusedVariables false
theorem own : ownKnob Try.prog.godebug = none := by kernel_rfl
theorem laidOut : laidOutB Try.prog = true := by kernel_rfl
theorem isInts_of {W : World} {x : Addr} {zs : List Int} {len : Nat} (h : ∀ i, i < zs.length → W.cell? (x.add i) = some (.int .i64 (zs.getD i 0))) (hl : len ≤ zs.length) : IsInts W (some x) len (fun i => zs.getD i 0) := by
 by_cases h0 : len = 0
 · exact .inl h0
 ·
  obtain ⟨b, off, rfl, hc⟩ := ints_at h (by omega)
  refine .inr ⟨b, off, rfl, ?_, fun i hi => hc i (by omega)⟩
  have h1 := hc 0 (by omega)
  refine Classical.byContradiction fun hn => ?_
  rw [World.cell?] at h1
  rw [Array.getElem?_eq_none (by show W.heap.size ≤ b; omega)] at h1
  cases h1
set_option maxRecDepth 100000 in
theorem open_cmd {H : Type} {enc : TypeId × Value → H} {W : World} {hd : Bool} {base : Nat} {v : Value} {d : DataW H} {p : List MemPlace} (hv : Value.okWide Try.prog W .any base 44 v)
  (h : DataW.Trod enc Try.prog W 0 (fun _ => true) hd 44 v d p) : ∃ c : Cmd, v = .agg c.cells ∧ inKey c.reg ∧ inKey c.arg := by
 obtain ⟨cs, rfl, hsz⟩ := okWide_struct Try.underlying44 hv
 have hs5 : Try.prog.cellsOf 44 = 5 := by kernel_rfl
 rw [hs5] at hsz
 obtain ⟨fuel, hf⟩ := h
 obtain ⟨xs, n', _, _, _, hxl, hfld⟩ := DataW.trod_struct Try.underlying44 hf
 obtain ⟨l⟩ := cs
 have hsz' : l.length = 5 := hsz
 match l, hsz' with
 | [v0, v1, v2, v3, v4], _ =>
  match xs, hxl with
  | [y0, y1, y2, y3, y4], _ =>
   have q1 : Try.prog.cellsOf 3 = 1 := by kernel_rfl
   have g0 : DataW.trod enc Try.prog W 0 (fun _ => true) hd n' 3 (([v0, v1, v2, v3, v4].drop 0).take (Try.prog.cellsOf 3)) = some y0 := hfld 0 _ rfl
   have g1 : DataW.trod enc Try.prog W 0 (fun _ => true) hd n' 3 (([v0, v1, v2, v3, v4].drop 1).take (Try.prog.cellsOf 3)) = some y1 := hfld 1 _ rfl
   have g2 : DataW.trod enc Try.prog W 0 (fun _ => true) hd n' 3 (([v0, v1, v2, v3, v4].drop 2).take (Try.prog.cellsOf 3)) = some y2 := hfld 2 _ rfl
   have g3 : DataW.trod enc Try.prog W 0 (fun _ => true) hd n' 3 (([v0, v1, v2, v3, v4].drop 3).take (Try.prog.cellsOf 3)) = some y3 := hfld 3 _ rfl
   have g4 : DataW.trod enc Try.prog W 0 (fun _ => true) hd n' 3 (([v0, v1, v2, v3, v4].drop 4).take (Try.prog.cellsOf 3)) = some y4 := hfld 4 _ rfl
   rw [q1] at g0 g1 g2 g3 g4
   obtain ⟨k0, e0, _, w0⟩ := DataW.trod_int Try.underlying3 g0
   obtain ⟨k1, e1, _, w1⟩ := DataW.trod_int Try.underlying3 g1
   obtain ⟨k2, e2, _, w2⟩ := DataW.trod_int Try.underlying3 g2
   obtain ⟨k3, e3, _, w3⟩ := DataW.trod_int Try.underlying3 g3
   obtain ⟨k4, e4, _, w4⟩ := DataW.trod_int Try.underlying3 g4
   simp only [List.drop, List.take] at e0 e1 e2 e3 e4
   have f0 : v0 = .int .i64 k0 := by simpa using e0
   have f1 : v1 = .int .i64 k1 := by simpa using e1
   have f2 : v2 = .int .i64 k2 := by simpa using e2
   have f3 : v3 = .int .i64 k3 := by simpa using e3
   have f4 : v4 = .int .i64 k4 := by simpa using e4
   subst f0 f1 f2 f3 f4
   exact ⟨⟨k0, k1, k2, k3, k4⟩, rfl, w0, w4⟩
set_option maxRecDepth 100000 in
set_option maxHeartbeats 2000000 in
theorem lifted (os : Os) (started : os.Started) (H : Type) (enc : TypeId × Value → H) (F : Stop.Interp) :
  ReturnsInHanded {} Try.checked os 5 .any ((Rows.OpenSpec.upto Rows.keysSpellSpec).pre6 enc Try.prog Try.f5 Rows.keysSpellUptoRow.domain false) (((Rows.OpenSpec.upto Rows.keysSpellSpec).at F).post enc Try.prog Try.f5 false true false false) := by
 refine returnsInHanded_of_cond (C := Try.checked) (s := Rows.OpenSpec.upto Rows.keysSpellSpec) (k := Rows.uptoSmall) rfl own started (by kernel_rfl) Try.func5
  (OpenSpec.witness (enc := enc) (C := Try.checked) (s := Rows.OpenSpec.upto Rows.keysSpellSpec) (k := Rows.uptoSmall) rfl false ⟨#[], #[.int .i64 0, .agg #[.int .i64 0, .int .i64 0, .int .i64 0, .int .i64 0, .int .i64 0]], []⟩ 8 (by kernel_rfl) (by kernel_rfl) (by kernel_rfl)
   (x := ([.lit (.int .i64 0), .agg [.lit (.int .i64 0), .lit (.int .i64 0), .lit (.int .i64 0), .lit (.int .i64 0), .lit (.int .i64 0)]], [], [])) (by kernel_rfl) rfl (by kernel_rfl)) ?_
 intro W base args ds gs before hval0 hW _ hbulk _
 have hbd := bulks.bound hbulk
 have hval : ∀ (j : Nat) t v, Try.f5.params[j]? = some t → args[j]? = some v → Value.okWide Try.prog W .any base t v := hval0
 have hW' := hW
 obtain ⟨p, q, hA0, hV, rfl, hfz, hnd⟩ := hW
 have hA : DataW.TrodAll enc Try.prog W 0 (fun _ => true) true Try.f5.params.toList args.toList ds p := hA0
 rw [Try.params5] at hA hval
 obtain ⟨v0, vs0, d0, ds0, p0, q0, hargs, rfl, rfl, h0, r0⟩ := trodAll_cons hA
 obtain ⟨v1, vs1, d1, ds1, p1, q1, rfl, rfl, rfl, h1, r1⟩ := trodAll_cons r0
 obtain ⟨rfl, rfl, rfl⟩ := trodAll_nil r1
 obtain rfl : args = #[v0, v1] := by cases args; simp_all
 obtain ⟨rfl, rfl⟩ := trodVars_none hV
 obtain ⟨a0, rfl, rfl, rfl, w0⟩ := open_int Try.underlying3 (hval 0 3 v0 rfl rfl) h0
 have hv1 := hval 1 44 v1 rfl rfl
 have k1 := h1
 have lt1 : ∀ x ∈ p1, x.block < W.heap.size := by obtain ⟨m, hm⟩ := k1; exact DataW.trod_lt m _ _ _ hm
 obtain ⟨c1, rfl, hcr1, hca1⟩ := open_cmd hv1 h1
 simp only [Rows.uptoBulkAll, List.cons_append, List.nil_append] at hbd
 clear hA0 hval0
 refine (kspell_c a0 c1 W hcr1 hca1).mono fun e W' ⟨he, bel⟩ => ?_
 subst he
 exact ⟨_, rfl, _, _, _, [], _, [], hW', trodAll_mk1 (shut_bool Try.underlying4 _), (trodAll_cons_mk (shut_int Try.underlying3 w0) (trodAll_cons_mk (Below.trod laidOut (by kernel_rfl) (of_decide_eq_true (by kernel_rfl)) k1 bel lt1) trodAll_mk0)), rfl, bel.frame _, fun h => by cases h⟩
theorem proved : Rows.KeysSpellUptoSaid :=
 OpenClaim.holds_of_cond 5 Try.f5 rfl rfl rfl rfl rfl rfl rfl ⟨rfl, rfl, rfl, rfl, rfl⟩ rfl rfl rfl rfl rfl (by kernel_rfl) Try.func5 (by kernel_rfl)
  (of_decide_eq_true (by kernel_rfl)) (by unfold Func.isWrapper; rw [if_neg (of_decide_eq_false (by kernel_rfl))]; exact ⟨rfl, rfl⟩)
  (fun os started H enc _ F => lifted os started H enc F)
end Go.Proofs.Ytampjndfhpjheaa.keysSpell
