/- The law ViewAll holds for every input of bulk at most 1048576: the second form of the statement as given. No other condition. -/
import Derived.Test.YtplgpnmahblhbaaRows
import Derived.Test.YtplgpnmahblhbaaOh
import Derived.Test.YtplgpnmahblhbaaBulk
import Derived.JoinedCond
import Derived.WalkKit
import Derived.ProofKit
import Derived.OpenShut
import Derived.ShutString
import Derived.ChangeOld
import Derived.Below
import Derived.Deep.Slices
namespace Go.Proofs.Ytplgpnmahblhbaa.viewAll
open Go.ChangeShapes Go.WideShapes Go.ChangeAt Go.RowKit
open Go.ChangeMaps (open_string shut_string)
set_option linter.unusedVariables false
theorem own : ownKnob Try.prog.godebug = none := by kernel_rfl
theorem laidOut : laidOutB Try.prog = true := by kernel_rfl
theorem isInts_of {W : World} {x : Addr} {zs : List Int} {len : Nat} (h : ∀ i, i < zs.length → W.cell? (x.add i) = some (.int .i64 (zs.getD i 0))) (hl : len ≤ zs.length) : IsInts W (some x) len (fun i => zs.getD i 0) := by
  by_cases h0 : len = 0
  · exact .inl h0
  · obtain ⟨b, off, rfl, hc⟩ := ints_at h (by omega)
    refine .inr ⟨b, off, rfl, ?_, fun i hi => hc i (by omega)⟩
    have h1 := hc 0 (by omega)
    refine Classical.byContradiction fun hn => ?_
    rw [World.cell?] at h1
    rw [Array.getElem?_eq_none (by show W.heap.size ≤ b; omega)] at h1
    cases h1
theorem trod_float {H : Type} {enc : TypeId × Value → H} {P : Program} {w : World} {base : Nat} {spare : Nat → Bool} {held : Bool} {fuel : Nat} {t : TypeId} {cs : List Value} {x : DataW H × List MemPlace} {k : FloatKind}
    (ht : P.underlying t = some (.float k)) (h : DataW.trod enc P w base spare held fuel t cs = some x) : ∃ b, cs = [.float k b] ∧ (Lit.float k b).wf = true := by
  cases fuel with
  | zero => simp [DataW.trod] at h
  | succ n =>
    unfold DataW.trod at h
    rw [ht] at h
    split at h <;> simp_all
theorem float_lt {n : Nat} (h : (Lit.float .f64 n).wf = true) : n < 2 ^ 64 := by
  simp [Lit.wf] at h
  omega
theorem asks_of {H : Type} {enc : TypeId × Value → H} {W : World} {fuel : Nat} {s : Option Addr} {len cap : Nat} {d : DataW H} {p : List MemPlace}
    (hf : DataW.trod enc Try.prog W 0 (fun _ => true) true fuel 39 [.slice s len cap] = some (d, p)) (hb : Rows.uptoBulk d ≤ 1048576) :
    ∃ (K A B C D : Nat → Int) (X : Nat → Nat) (S : Nat → Option Addr) (N M : Nat → Nat) (F : Nat → Nat → Int), IsAsks W s len K A B C D X S N M ∧ len ≤ maxLen ∧ AsksOk W len X S N M F := by
  rcases Go.Deep.open_slice Try.underlying39 hf with ⟨hcs, hx⟩ | ⟨a, l, c, m, n, Da, Pl, hcs, _, hl, hm, hmm, hx, hel⟩
  · simp at hcs
    obtain ⟨_, rfl, _⟩ := hcs
    exact ⟨fun _ => 0, fun _ => 0, fun _ => 0, fun _ => 0, fun _ => 0, fun _ => 0, fun _ => none, fun _ => 0, fun _ => 0, fun _ _ => 0, .inl rfl, Nat.zero_le _, fun i hi => absurd hi (Nat.not_lt_zero _)⟩
  · simp at hcs
    obtain ⟨rfl, rfl, rfl⟩ := hcs
    simp only [if_true] at hmm
    have hd := (Prod.mk.inj hx).1
    have hsum := bulks.slice_elems ((List.range len).map Da) ((List.range (m - len)).map fun j => Da (len + j))
    rw [← hd] at hsum
    have hsz : Try.prog.cellsOf 44 = 7 := by kernel_rfl
    have each : ∀ i, i < len → ∃ y : Int × Int × Int × Int × Int × Nat × Option Addr × Nat × Nat × (Nat → Int), (∀ b off, a = ⟨b, off, none⟩ → IsAsk W b (off + i * 7) y.1 y.2.1 y.2.2.1 y.2.2.2.1 y.2.2.2.2.1 (.float .f64 y.2.2.2.2.2.1) (.slice y.2.2.2.2.2.2.1 y.2.2.2.2.2.2.2.1 y.2.2.2.2.2.2.2.2.1)) ∧ y.2.2.2.2.2.1 < 2 ^ 64 ∧ y.2.2.2.2.2.2.2.1 < 1073741824 ∧ IsInts W y.2.2.2.2.2.2.1 y.2.2.2.2.2.2.2.1 y.2.2.2.2.2.2.2.2.2 ∧ (y.2.2.2.2.2.2.1 = none → y.2.2.2.2.2.2.2.1 = 0 ∧ y.2.2.2.2.2.2.2.2.1 = 0) := by
      intro i hi
      obtain ⟨cs', h1, h2⟩ := hel i (by omega)
      have hbi : Rows.uptoBulk (Da i) ≤ Rows.uptoBulkAll ((List.range len).map Da) := bulks.part_le (List.mem_map.2 ⟨i, List.mem_range.2 hi, rfl⟩)
      rw [hsz] at h1
      obtain ⟨_, hcl, hcell⟩ := World.cells?_some h1
      obtain ⟨xs, n', _, hxx, _, hxl, hfld⟩ := DataW.trod_struct Try.underlying44 h2
      match cs', hcl with
      | [v0, v1, v2, v3, v4, v5, v6], _ =>
        match xs, hxl with
        | [y0, y1, y2, y3, y4, y5, y6], _ =>
          have q1 : Try.prog.cellsOf 3 = 1 := by kernel_rfl
          have q2 : Try.prog.cellsOf 32 = 1 := by kernel_rfl
          have q3 : Try.prog.cellsOf 29 = 1 := by kernel_rfl
          have g0 : DataW.trod enc Try.prog W 0 (fun _ => true) true n' 3 (([v0, v1, v2, v3, v4, v5, v6].drop 0).take (Try.prog.cellsOf 3)) = some y0 := hfld 0 _ rfl
          have g1 : DataW.trod enc Try.prog W 0 (fun _ => true) true n' 3 (([v0, v1, v2, v3, v4, v5, v6].drop 1).take (Try.prog.cellsOf 3)) = some y1 := hfld 1 _ rfl
          have g2 : DataW.trod enc Try.prog W 0 (fun _ => true) true n' 3 (([v0, v1, v2, v3, v4, v5, v6].drop 2).take (Try.prog.cellsOf 3)) = some y2 := hfld 2 _ rfl
          have g3 : DataW.trod enc Try.prog W 0 (fun _ => true) true n' 3 (([v0, v1, v2, v3, v4, v5, v6].drop 3).take (Try.prog.cellsOf 3)) = some y3 := hfld 3 _ rfl
          have g4 : DataW.trod enc Try.prog W 0 (fun _ => true) true n' 3 (([v0, v1, v2, v3, v4, v5, v6].drop 4).take (Try.prog.cellsOf 3)) = some y4 := hfld 4 _ rfl
          have g5 : DataW.trod enc Try.prog W 0 (fun _ => true) true n' 29 (([v0, v1, v2, v3, v4, v5, v6].drop 5).take (Try.prog.cellsOf 29)) = some y5 := hfld 5 _ rfl
          have g6 : DataW.trod enc Try.prog W 0 (fun _ => true) true n' 32 (([v0, v1, v2, v3, v4, v5, v6].drop 6).take (Try.prog.cellsOf 32)) = some y6 := hfld 6 _ rfl
          rw [q1] at g0 g1 g2 g3 g4
          rw [q3] at g5
          rw [q2] at g6
          obtain ⟨k0, e0, _⟩ := DataW.trod_int Try.underlying3 g0
          obtain ⟨k1, e1, _⟩ := DataW.trod_int Try.underlying3 g1
          obtain ⟨k2, e2, _⟩ := DataW.trod_int Try.underlying3 g2
          obtain ⟨k3, e3, _⟩ := DataW.trod_int Try.underlying3 g3
          obtain ⟨k4, e4, _⟩ := DataW.trod_int Try.underlying3 g4
          obtain ⟨k5, e5, w5⟩ := trod_float Try.underlying29 g5
          have hDi := (Prod.mk.inj hxx).1
          have hs6 : ∃ s' n'' c' f', v6 = .slice s' n'' c' ∧ n'' < 1073741824 ∧ IsInts W s' n'' f' ∧ (s' = none → n'' = 0 ∧ c' = 0) := by
            have b3 : Rows.uptoBulk y6.1 ≤ Rows.uptoBulk (Da i) := by
              rw [hDi]
              simp only [List.map_cons, List.map_nil, Rows.uptoBulk, Rows.uptoBulkAll]
              omega
            obtain ⟨d6, p6⟩ := y6
            rcases open_ints Try.underlying32 Try.underlying3 (by kernel_rfl) g6 with ⟨hcs, _⟩ | ⟨x, l, c, zs, hcs, _, hl, hm, hz, hx6, hcell, hwz⟩
            · exact ⟨none, 0, 0, fun _ => 0, by simpa using hcs, by omega, .inl rfl, fun _ => ⟨rfl, rfl⟩⟩
            · have hy6 := (Prod.mk.inj hx6).1
              simp only at b3
              rw [hy6] at b3
              have b1 := bulks.slice_le (lits (H := H) IntKind.i64 (zs.take l)) (lits IntKind.i64 (zs.drop l))
              have b2 : (lits (H := H) IntKind.i64 (zs.take l)).length = min l zs.length := by simp [lits]
              simp at hz
              exact ⟨some x, l, c, fun i => zs.getD i 0, by simpa using hcs, by omega, isInts_of hcell (by omega), fun h => by cases h⟩
          obtain ⟨s', n'', c', f', rfl, hn6, hi6, hl6⟩ := hs6
          have e0' : v0 = .int .i64 k0 := by simpa using e0
          have e1' : v1 = .int .i64 k1 := by simpa using e1
          have e2' : v2 = .int .i64 k2 := by simpa using e2
          have e3' : v3 = .int .i64 k3 := by simpa using e3
          have e4' : v4 = .int .i64 k4 := by simpa using e4
          have e5' : v5 = .float .f64 k5 := by simpa using e5
          subst e0' e1' e2' e3' e4' e5'
          have c0 := hcell 0 (by omega)
          have c1 := hcell 1 (by omega)
          have c2 := hcell 2 (by omega)
          have c3 := hcell 3 (by omega)
          have c4 := hcell 4 (by omega)
          have c5 := hcell 5 (by omega)
          have c6 := hcell 6 (by omega)
          refine ⟨(k0, k1, k2, k3, k4, k5, s', n'', c', f'), ?_, float_lt w5, hn6, hi6, hl6⟩
          rintro b off rfl
          rw [Go.WideShapes.add_plain, Go.WideShapes.add_plain] at c0 c1 c2 c3 c4 c5 c6
          exact ⟨c0, c1, c2, c3, c4, c5, c6⟩
    by_cases h0 : len = 0
    · exact ⟨fun _ => 0, fun _ => 0, fun _ => 0, fun _ => 0, fun _ => 0, fun _ => 0, fun _ => none, fun _ => 0, fun _ => 0, fun _ _ => 0, .inl h0, by omega, fun i hi => by omega⟩
    · obtain ⟨cs', h1, _⟩ := hel 0 (by omega)
      rw [hsz] at h1
      obtain ⟨_, hcl, hcell⟩ := World.cells?_some h1
      have e0 := hcell 0 (by omega)
      rw [List.getElem?_eq_getElem (by omega)] at e0
      obtain ⟨b, off, sp⟩ := a
      have hsp : sp = none := by simpa [Addr.add] using World.cell?_spot e0
      subst hsp
      rw [Go.WideShapes.add_plain, Go.WideShapes.add_plain] at e0
      have hblk : b < W.heap.size := World.block_lt_of_cell? W _ e0
      obtain ⟨Y, hY⟩ := Go.Deep.choose_lt (α := Int × Int × Int × Int × Int × Nat × Option Addr × Nat × Nat × (Nat → Int)) (p := fun i y => IsAsk W b (off + i * 7) y.1 y.2.1 y.2.2.1 y.2.2.2.1 y.2.2.2.2.1 (.float .f64 y.2.2.2.2.2.1) (.slice y.2.2.2.2.2.2.1 y.2.2.2.2.2.2.2.1 y.2.2.2.2.2.2.2.2.1) ∧
          y.2.2.2.2.2.1 < 2 ^ 64 ∧ y.2.2.2.2.2.2.2.1 < 1073741824 ∧ IsInts W y.2.2.2.2.2.2.1 y.2.2.2.2.2.2.2.1 y.2.2.2.2.2.2.2.2.2 ∧ (y.2.2.2.2.2.2.1 = none → y.2.2.2.2.2.2.2.1 = 0 ∧ y.2.2.2.2.2.2.2.2.1 = 0)) (fun i hi => by
        obtain ⟨y, hy, h⟩ := each i hi
        exact ⟨y, hy b off rfl, h⟩)
      exact ⟨fun i => (Y i).1, fun i => (Y i).2.1, fun i => (Y i).2.2.1, fun i => (Y i).2.2.2.1, fun i => (Y i).2.2.2.2.1, fun i => (Y i).2.2.2.2.2.1, fun i => (Y i).2.2.2.2.2.2.1, fun i => (Y i).2.2.2.2.2.2.2.1, fun i => (Y i).2.2.2.2.2.2.2.2.1, fun i => (Y i).2.2.2.2.2.2.2.2.2,
        .inr ⟨b, off, rfl, hblk, fun i hi => (hY i hi).1⟩, Nat.le_trans hl hm, fun i hi => (hY i hi).2⟩
set_option maxRecDepth 100000 in
set_option maxHeartbeats 2000000 in
theorem lifted (os : Os) (started : os.Started) (H : Type) (enc : TypeId × Value → H) (F : Stop.Interp) :
    ReturnsInHanded {} Try.checked os 12 .any ((Rows.OpenSpec.upto Rows.viewAllSpec).pre6 enc Try.prog Try.f12 Rows.viewAllUptoRow.domain false) (((Rows.OpenSpec.upto Rows.viewAllSpec).at F).post enc Try.prog Try.f12 false true false false) := by
  refine returnsInHanded_of_cond (C := Try.checked) (s := Rows.OpenSpec.upto Rows.viewAllSpec) (k := Rows.uptoSmall) rfl own started (by kernel_rfl) Try.func12
    (OpenSpec.witness (enc := enc) (C := Try.checked) (s := Rows.OpenSpec.upto Rows.viewAllSpec) (k := Rows.uptoSmall) rfl false ⟨#[], #[.slice none 0 0], []⟩ 8 (by kernel_rfl) (by kernel_rfl) (by kernel_rfl)
      (x := ([.nil], [], [])) (by kernel_rfl) rfl (by kernel_rfl)) ?_
  intro W base args ds gs before hval0 hW _ hbulk _
  have hbd := bulks.bound hbulk
  have hval : ∀ (j : Nat) t v, Try.f12.params[j]? = some t → args[j]? = some v → Value.okWide Try.prog W .any base t v := hval0
  have hW' := hW
  obtain ⟨p, q, hA0, hV, rfl, hfz, hnd⟩ := hW
  have hA : DataW.TrodAll enc Try.prog W 0 (fun _ => true) true Try.f12.params.toList args.toList ds p := hA0
  rw [Try.params12] at hA hval
  obtain ⟨v0, vs0, d0, ds0, p0, q0, hargs, rfl, rfl, h0, r0⟩ := trodAll_cons hA
  obtain ⟨rfl, rfl, rfl⟩ := trodAll_nil r0
  obtain rfl : args = #[v0] := by cases args; simp_all
  obtain ⟨rfl, rfl⟩ := trodVars_none hV
  obtain ⟨a0, len0, cap0, rfl⟩ := okWide_slice Try.underlying39 (hval 0 39 v0 rfl rfl)
  have k0 := h0
  have lt0 : ∀ x ∈ p0, x.block < W.heap.size := by obtain ⟨m, hm⟩ := k0; exact DataW.trod_lt m _ _ _ hm
  simp only [Rows.uptoBulkAll, List.cons_append, List.nil_append] at hbd
  obtain ⟨fuel, hf⟩ := h0
  obtain ⟨K, A, B, C, D, X, S, N, M, F, hr0, hl0, hx0⟩ := asks_of (s := a0) (len := len0) (cap := cap0) hf (by omega)
  clear hA0 hval0
  refine (lawviews_any _ _ _ K A B C D X S N M W hl0 F hr0 hx0).mono fun e W' ⟨he, bel⟩ => ?_
  subst he
  exact ⟨_, rfl, _, _, _, [], _, [], hW', trodAll_mk1 (shut_bool Try.underlying4 _), (trodAll_cons_mk (Below.trod laidOut (by kernel_rfl) (of_decide_eq_true (by kernel_rfl)) k0 bel lt0) trodAll_mk0), rfl, bel.frame _, fun h => by cases h⟩
theorem proved : Rows.ViewAllUptoSaid :=
  OpenClaim.holds_of_cond 12 Try.f12 rfl rfl rfl rfl rfl rfl rfl ⟨rfl, rfl, rfl, rfl, rfl⟩ rfl rfl rfl rfl rfl (by kernel_rfl) Try.func12 (by kernel_rfl)
    (of_decide_eq_true (by kernel_rfl)) (by unfold Func.isWrapper; rw [if_neg (of_decide_eq_false (by kernel_rfl))]; exact ⟨rfl, rfl⟩)
    (fun os started H enc _ F => lifted os started H enc F)
end Go.Proofs.Ytplgpnmahblhbaa.viewAll
