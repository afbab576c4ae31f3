/- The law KeysTrie holds for every input of bulk at most 1048576: the second form of the statement as given. No other condition. -/
import Derived.Test.YtampjndfhpjheaaRows
import Derived.Test.YtampjndfhpjheaaTq
import Derived.Test.YtampjndfhpjheaaBulk
import Derived.JoinedCond
import Derived.WalkKit
import Derived.ProofKit
import Derived.OpenShut
import Derived.ShutString
import Derived.ChangeOld
import Derived.Below
import Derived.Deep.Slices
namespace Go.Proofs.Ytampjndfhpjheaa.keysTrie
open Go.ChangeShapes Go.WideShapes Go.ChangeAt Go.RowKit
open Go.ChangeMaps (open_string shut_string)
set_option linter.unusedVariables false
theorem own : ownKnob Try.prog.godebug = none := by kernel_rfl
theorem laidOut : laidOutB Try.prog = true := by kernel_rfl
theorem isInts_of {W : World} {x : Addr} {zs : List Int} {len : Nat} (h : ∀ i, i < zs.length → W.cell? (x.add i) = some (.int .i64 (zs.getD i 0))) (hl : len ≤ zs.length) : IsInts W (some x) len (fun i => zs.getD i 0) := by
  by_cases h0 : len = 0
  · exact .inl h0
  · obtain ⟨b, off, rfl, hc⟩ := ints_at h (by omega)
    refine .inr ⟨b, off, rfl, ?_, fun i hi => hc i (by omega)⟩
    have h1 := hc 0 (by omega)
    refine Classical.byContradiction fun hn => ?_
    rw [World.cell?] at h1
    rw [Array.getElem?_eq_none (by show W.heap.size ≤ b; omega)] at h1
    cases h1
set_option maxRecDepth 100000 in
theorem looks_of {H : Type} {enc : TypeId × Value → H} {W : World} {fuel : Nat} {s : Option Addr} {len cap : Nat} {d : DataW H} {p : List MemPlace}
    (hf : DataW.trod enc Try.prog W 0 (fun _ => true) true fuel 22 [.slice s len cap] = some (d, p)) (hb : Rows.uptoBulk d ≤ 1048576) :
    ∃ (P : Nat → Bool) (A V : Nat → Int) (S : Nat → Option Addr) (N C : Nat → Nat) (K : Nat → List Int), IsLooks W s len P A V S N C ∧ len ≤ 1048576 ∧ LooksOk W len S N C K := by
  rcases Go.Deep.open_slice Try.underlying22 hf with ⟨hcs, hx⟩ | ⟨a, l, c, m, n, D, Pl, hcs, _, hl, hm, hmm, hx, hel⟩
  · simp at hcs
    obtain ⟨_, rfl, _⟩ := hcs
    exact ⟨fun _ => false, fun _ => 0, fun _ => 0, fun _ => none, fun _ => 0, fun _ => 0, fun _ => [], .inl rfl, by omega, fun i hi => absurd hi (Nat.not_lt_zero _)⟩
  · simp at hcs
    obtain ⟨rfl, rfl, rfl⟩ := hcs
    simp only [if_true] at hmm
    have hd := (Prod.mk.inj hx).1
    have hsum := bulks.slice_elems ((List.range len).map D) ((List.range (m - len)).map fun j => D (len + j))
    have hlen := bulks.length_le ((List.range len).map D)
    rw [← hd] at hsum
    simp only [List.length_map, List.length_range] at hlen
    have hsz : Try.prog.cellsOf 40 = 4 := by kernel_rfl
    have each : ∀ i, i < len → ∃ y : Bool × Int × Int × Option Addr × Nat × Nat × List Int, (∀ b off, a = ⟨b, off, none⟩ → IsLook W b (off + i * 4) y.1 y.2.1 y.2.2.1 y.2.2.2.1 y.2.2.2.2.1 y.2.2.2.2.2.1) ∧
        y.2.2.2.2.2.2.length = y.2.2.2.2.1 ∧ y.2.2.2.2.1 < 1073741824 ∧ IsInts W y.2.2.2.1 y.2.2.2.2.1 (gl y.2.2.2.2.2.2) ∧ (y.2.2.2.1 = none → y.2.2.2.2.1 = 0 ∧ y.2.2.2.2.2.1 = 0) ∧ (∀ x ∈ y.2.2.2.2.2.2, inKey x) ∧ (0 < y.2.2.2.2.1 → ∀ a', y.2.2.2.1 = some a' → a'.block < W.heap.size) := by
      intro i hi
      obtain ⟨cs', h1, h2⟩ := hel i (by omega)
      have hbi : Rows.uptoBulk (D i) ≤ Rows.uptoBulkAll ((List.range len).map D) := bulks.part_le (List.mem_map.2 ⟨i, List.mem_range.2 hi, rfl⟩)
      rw [hsz] at h1
      obtain ⟨_, hcl, hcell⟩ := World.cells?_some h1
      obtain ⟨xs, n', _, hxx, _, hxl, hfld⟩ := DataW.trod_struct Try.underlying40 h2
      match cs', hcl with
      | [v0, v1, v2, v3], _ =>
        match xs, hxl with
        | [y0, y1, y2, y3], _ =>
          have q0 : Try.prog.cellsOf 4 = 1 := by kernel_rfl
          have q1 : Try.prog.cellsOf 3 = 1 := by kernel_rfl
          have q2 : Try.prog.cellsOf 33 = 1 := by kernel_rfl
          have g0 : DataW.trod enc Try.prog W 0 (fun _ => true) true n' 4 (([v0, v1, v2, v3].drop 0).take (Try.prog.cellsOf 4)) = some y0 := hfld 0 _ rfl
          have g1 : DataW.trod enc Try.prog W 0 (fun _ => true) true n' 3 (([v0, v1, v2, v3].drop 1).take (Try.prog.cellsOf 3)) = some y1 := hfld 1 _ rfl
          have g2 : DataW.trod enc Try.prog W 0 (fun _ => true) true n' 3 (([v0, v1, v2, v3].drop 2).take (Try.prog.cellsOf 3)) = some y2 := hfld 2 _ rfl
          have g3 : DataW.trod enc Try.prog W 0 (fun _ => true) true n' 33 (([v0, v1, v2, v3].drop 3).take (Try.prog.cellsOf 33)) = some y3 := hfld 3 _ rfl
          rw [q0] at g0
          rw [q1] at g1 g2
          rw [q2] at g3
          obtain ⟨k0, e0, _⟩ := DataW.trod_bool Try.underlying4 g0
          obtain ⟨k1, e1, _⟩ := DataW.trod_int Try.underlying3 g1
          obtain ⟨k2, e2, _⟩ := DataW.trod_int Try.underlying3 g2
          have hDi := (Prod.mk.inj hxx).1
          have hs3 : ∃ s' n'' c' K', v3 = .slice s' n'' c' ∧ K'.length = n'' ∧ n'' < 1073741824 ∧ IsInts W s' n'' (gl K') ∧ (s' = none → n'' = 0 ∧ c' = 0) ∧ (∀ x ∈ K', inKey x) ∧ (0 < n'' → ∀ a', s' = some a' → a'.block < W.heap.size) := by
            have b3 : Rows.uptoBulk y3.1 ≤ Rows.uptoBulk (D i) := by
              rw [hDi]
              simp only [List.map_cons, List.map_nil, Rows.uptoBulk, Rows.uptoBulkAll]
              omega
            obtain ⟨d3, p3⟩ := y3
            rcases open_ints Try.underlying33 Try.underlying3 (by kernel_rfl) g3 with ⟨hcs, _⟩ | ⟨x, l, c, zs, hcs, _, hl, hm, hz, hx3, hcell, hwz⟩
            · exact ⟨none, 0, 0, [], by simpa using hcs, rfl, by omega, .inl rfl, fun _ => ⟨rfl, rfl⟩, (fun x hx => by cases hx), fun h => absurd h (by omega)⟩
            · have hy3 := (Prod.mk.inj hx3).1
              simp only at b3
              rw [hy3] at b3
              have b1 := bulks.slice_le (lits (H := H) IntKind.i64 (zs.take l)) (lits IntKind.i64 (zs.drop l))
              have b2 : (lits (H := H) IntKind.i64 (zs.take l)).length = min l zs.length := by simp [lits]
              simp at hz
              have hii : IsInts W (some x) l (fun i => zs.getD i 0) := isInts_of hcell (by omega)
              refine ⟨some x, l, c, zs.take l, by simpa using hcs, by rw [List.length_take]; omega, by omega, hii.same (fun i hi => by unfold gl; rw [List.getD_eq_getElem?_getD, List.getD_eq_getElem?_getD, List.getElem?_take, if_pos hi]), (fun h => by cases h), fun y hy => hwz y (List.mem_of_mem_take hy), fun h0 a' ha => ?_⟩
              injection ha with ha
              subst ha
              rcases hii with h | ⟨b, off, e, hb2, _⟩
              · omega
              · injection e with e
                subst e
                exact hb2
          obtain ⟨s', n'', c', K', rfl, hk1, hk2, hk3, hk4, hk5, hk6⟩ := hs3
          have e0' : v0 = .bool k0 := by simpa using e0
          have e1' : v1 = .int .i64 k1 := by simpa using e1
          have e2' : v2 = .int .i64 k2 := by simpa using e2
          subst e0' e1' e2'
          have c0 := hcell 0 (by omega)
          have c1 := hcell 1 (by omega)
          have c2 := hcell 2 (by omega)
          have c3 := hcell 3 (by omega)
          refine ⟨(k0, k1, k2, s', n'', c', K'), ?_, hk1, hk2, hk3, hk4, hk5, hk6⟩
          rintro b off rfl
          rw [Go.WideShapes.add_plain, Go.WideShapes.add_plain] at c0 c1 c2 c3
          exact ⟨c0, c1, c2, c3⟩
    by_cases h0 : len = 0
    · exact ⟨fun _ => false, fun _ => 0, fun _ => 0, fun _ => none, fun _ => 0, fun _ => 0, fun _ => [], .inl h0, by omega, fun i hi => by omega⟩
    · obtain ⟨cs', h1, _⟩ := hel 0 (by omega)
      rw [hsz] at h1
      obtain ⟨_, hcl, hcell⟩ := World.cells?_some h1
      have e0 := hcell 0 (by omega)
      rw [List.getElem?_eq_getElem (by omega)] at e0
      obtain ⟨b, off, sp⟩ := a
      have hsp : sp = none := by simpa [Addr.add] using World.cell?_spot e0
      subst hsp
      rw [Go.WideShapes.add_plain, Go.WideShapes.add_plain] at e0
      have hblk : b < W.heap.size := World.block_lt_of_cell? W _ e0
      obtain ⟨Y, hY⟩ := Go.Deep.choose_lt (α := Bool × Int × Int × Option Addr × Nat × Nat × List Int) (p := fun i y => IsLook W b (off + i * 4) y.1 y.2.1 y.2.2.1 y.2.2.2.1 y.2.2.2.2.1 y.2.2.2.2.2.1 ∧
          y.2.2.2.2.2.2.length = y.2.2.2.2.1 ∧ y.2.2.2.2.1 < 1073741824 ∧ IsInts W y.2.2.2.1 y.2.2.2.2.1 (gl y.2.2.2.2.2.2) ∧ (y.2.2.2.1 = none → y.2.2.2.2.1 = 0 ∧ y.2.2.2.2.2.1 = 0) ∧ (∀ x ∈ y.2.2.2.2.2.2, inKey x) ∧ (0 < y.2.2.2.2.1 → ∀ a', y.2.2.2.1 = some a' → a'.block < W.heap.size)) (fun i hi => by
        obtain ⟨y, hy, h⟩ := each i hi
        exact ⟨y, hy b off rfl, h⟩)
      exact ⟨fun i => (Y i).1, fun i => (Y i).2.1, fun i => (Y i).2.2.1, fun i => (Y i).2.2.2.1, fun i => (Y i).2.2.2.2.1, fun i => (Y i).2.2.2.2.2.1, fun i => (Y i).2.2.2.2.2.2,
        .inr ⟨b, off, rfl, hblk, fun i hi => (hY i hi).1⟩, by omega, fun i hi => (hY i hi).2⟩
set_option maxRecDepth 100000 in
set_option maxHeartbeats 2000000 in
theorem lifted (os : Os) (started : os.Started) (H : Type) (enc : TypeId × Value → H) (F : Stop.Interp) :
    ReturnsInHanded {} Try.checked os 3 .any ((Rows.OpenSpec.upto Rows.keysTrieSpec).pre6 enc Try.prog Try.f3 Rows.keysTrieUptoRow.domain false) (((Rows.OpenSpec.upto Rows.keysTrieSpec).at F).post enc Try.prog Try.f3 false true false false) := by
  refine returnsInHanded_of_cond (C := Try.checked) (s := Rows.OpenSpec.upto Rows.keysTrieSpec) (k := Rows.uptoSmall) rfl own started (by kernel_rfl) Try.func3
    (OpenSpec.witness (enc := enc) (C := Try.checked) (s := Rows.OpenSpec.upto Rows.keysTrieSpec) (k := Rows.uptoSmall) rfl false ⟨#[], #[.slice none 0 0], []⟩ 8 (by kernel_rfl) (by kernel_rfl) (by kernel_rfl)
      (x := ([.nil], [], [])) (by kernel_rfl) rfl (by kernel_rfl)) ?_
  intro W base args ds gs before hval0 hW _ hbulk _
  have hbd := bulks.bound hbulk
  have hval : ∀ (j : Nat) t v, Try.f3.params[j]? = some t → args[j]? = some v → Value.okWide Try.prog W .any base t v := hval0
  have hW' := hW
  obtain ⟨p, q, hA0, hV, rfl, hfz, hnd⟩ := hW
  have hA : DataW.TrodAll enc Try.prog W 0 (fun _ => true) true Try.f3.params.toList args.toList ds p := hA0
  rw [Try.params3] at hA hval
  obtain ⟨v0, vs0, d0, ds0, p0, q0, hargs, rfl, rfl, h0, r0⟩ := trodAll_cons hA
  obtain ⟨rfl, rfl, rfl⟩ := trodAll_nil r0
  obtain rfl : args = #[v0] := by cases args; simp_all
  obtain ⟨rfl, rfl⟩ := trodVars_none hV
  obtain ⟨a0, len0, cap0, rfl⟩ := okWide_slice Try.underlying22 (hval 0 22 v0 rfl rfl)
  have k0 := h0
  have lt0 : ∀ x ∈ p0, x.block < W.heap.size := by obtain ⟨m, hm⟩ := k0; exact DataW.trod_lt m _ _ _ hm
  simp only [Rows.uptoBulkAll, List.cons_append, List.nil_append] at hbd
  obtain ⟨fuel, hf⟩ := h0
  obtain ⟨P, A, V, S, N, C, K, hr0, hl0, hx0⟩ := looks_of (s := a0) (len := len0) (cap := cap0) hf (by omega)
  clear hA0 hval0
  refine (keystrie_c _ _ _ P A V S N C K W hl0 hr0 hx0).mono fun e W' ⟨he, bel⟩ => ?_
  subst he
  exact ⟨_, rfl, _, _, _, [], _, [], hW', trodAll_mk1 (shut_bool Try.underlying4 _), (trodAll_cons_mk (Below.trod laidOut (by kernel_rfl) (of_decide_eq_true (by kernel_rfl)) k0 bel lt0) trodAll_mk0), rfl, bel.frame _, fun h => by cases h⟩
theorem proved : Rows.KeysTrieUptoSaid :=
  OpenClaim.holds_of_cond 3 Try.f3 rfl rfl rfl rfl rfl rfl rfl ⟨rfl, rfl, rfl, rfl, rfl⟩ rfl rfl rfl rfl rfl (by kernel_rfl) Try.func3 (by kernel_rfl)
    (of_decide_eq_true (by kernel_rfl)) (by unfold Func.isWrapper; rw [if_neg (of_decide_eq_false (by kernel_rfl))]; exact ⟨rfl, rfl⟩)
    (fun os started H enc _ F => lifted os started H enc F)
end Go.Proofs.Ytampjndfhpjheaa.keysTrie
