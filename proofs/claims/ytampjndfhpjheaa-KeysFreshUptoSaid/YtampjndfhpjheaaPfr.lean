/- The law KeysFresh holds for every input of bulk at most 1048576: the second form of the statement as given. No other condition. -/
import Derived.Test.YtampjndfhpjheaaRows
import Derived.Test.YtampjndfhpjheaaHe
import Derived.JoinedCond
import Derived.WalkKit
import Derived.ProofKit
import Derived.OpenShut
import Derived.ShutString
import Derived.ChangeOld
import Derived.Below
namespace Go.Proofs.Ytampjndfhpjheaa.bulks
theorem one_le {H : Type} (d : DataW H) : 1 ≤ Rows.uptoBulk d := by
  cases d with
  | lit l => cases l <;> simp [Rows.uptoBulk]
  | nil => simp [Rows.uptoBulk]
  | ptr d => simp [Rows.uptoBulk]
  | slice elems spare => simp [Rows.uptoBulk]
  | agg parts => simp [Rows.uptoBulk]
  | iface t d => simp [Rows.uptoBulk]
  | map entries => simp [Rows.uptoBulk]
  | held h => simp [Rows.uptoBulk]
theorem part_le {H : Type} {d : DataW H} {l : List (DataW H)} (h : d ∈ l) : Rows.uptoBulk d ≤ Rows.uptoBulkAll l := by
  induction l with
  | nil => cases h
  | cons x r ih =>
    simp only [Rows.uptoBulkAll]
    cases List.mem_cons.1 h with
    | inl e => subst e; omega
    | inr e => have := ih e; omega
theorem append {H : Type} (l r : List (DataW H)) : Rows.uptoBulkAll (l ++ r) = Rows.uptoBulkAll l + Rows.uptoBulkAll r := by
  induction l with
  | nil => simp [Rows.uptoBulkAll]
  | cons x l ih => simp only [List.cons_append, Rows.uptoBulkAll, ih]; omega
theorem length_le {H : Type} (l : List (DataW H)) : l.length ≤ Rows.uptoBulkAll l := by
  induction l with
  | nil => simp [Rows.uptoBulkAll]
  | cons x r ih => have := one_le x; simp only [Rows.uptoBulkAll, List.length_cons]; omega
theorem slice_le {H : Type} (elems spare : List (DataW H)) : elems.length + spare.length + 1 ≤ Rows.uptoBulk (.slice elems spare) := by
  have h1 := length_le elems
  have h2 := length_le spare
  simp only [Rows.uptoBulk]
  omega
theorem slice_elems {H : Type} (elems spare : List (DataW H)) : Rows.uptoBulkAll elems + 1 ≤ Rows.uptoBulk (.slice elems spare) := by
  simp only [Rows.uptoBulk]
  omega
theorem bound {H : Type} {l : List (DataW H)} (hk : Rows.uptoSmall H l = true) : Rows.uptoBulkAll l ≤ 1048576 := of_decide_eq_true hk
end Go.Proofs.Ytampjndfhpjheaa.bulks
namespace Go.Proofs.Ytampjndfhpjheaa.keysFresh
open Go.ChangeShapes Go.WideShapes Go.ChangeAt Go.RowKit
open Go.ChangeMaps (open_string shut_string)
set_option linter.unusedVariables false
theorem own : ownKnob Try.prog.godebug = none := by kernel_rfl
theorem laidOut : laidOutB Try.prog = true := by kernel_rfl
theorem isInts_of {W : World} {x : Addr} {zs : List Int} {len : Nat} (h : ∀ i, i < zs.length → W.cell? (x.add i) = some (.int .i64 (zs.getD i 0))) (hl : len ≤ zs.length) : IsInts W (some x) len (fun i => zs.getD i 0) := by
  by_cases h0 : len = 0
  · exact .inl h0
  · obtain ⟨b, off, rfl, hc⟩ := ints_at h (by omega)
    refine .inr ⟨b, off, rfl, ?_, fun i hi => hc i (by omega)⟩
    have h1 := hc 0 (by omega)
    refine Classical.byContradiction fun hn => ?_
    rw [World.cell?] at h1
    rw [Array.getElem?_eq_none (by show W.heap.size ≤ b; omega)] at h1
    cases h1
theorem lst_keys {f : Nat → Int} {n : Nat} (h : ∀ i, i < n → (Lit.int .i64 (f i)).wf = true) : ∀ x ∈ lst f n, inKey x := by
  intro x hx
  unfold lst at hx
  obtain ⟨i, hi, rfl⟩ := List.mem_map.1 hx
  exact h i (List.mem_range.1 hi)
theorem ints_lst {w : World} {s : Option Addr} {n : Nat} {f : Nat → Int} (h : IsInts w s n f) : IsInts w s n (gl (lst f n)) := h.same (fun i hi => by unfold gl; exact (lst_getD f n i hi).symm)
set_option maxRecDepth 100000 in
theorem open_cmd {H : Type} {enc : TypeId × Value → H} {W : World} {hd : Bool} {base : Nat} {v : Value} {d : DataW H} {p : List MemPlace} (hv : Value.okWide Try.prog W .any base 44 v)
    (h : DataW.Trod enc Try.prog W 0 (fun _ => true) hd 44 v d p) : ∃ c : Cmd, v = .agg c.cells ∧ inKey c.reg ∧ inKey c.arg := by
  obtain ⟨cs, rfl, hsz⟩ := okWide_struct Try.underlying44 hv
  have hs5 : Try.prog.cellsOf 44 = 5 := by kernel_rfl
  rw [hs5] at hsz
  obtain ⟨fuel, hf⟩ := h
  obtain ⟨xs, n', _, _, _, hxl, hfld⟩ := DataW.trod_struct Try.underlying44 hf
  obtain ⟨l⟩ := cs
  have hsz' : l.length = 5 := hsz
  match l, hsz' with
  | [v0, v1, v2, v3, v4], _ =>
    match xs, hxl with
    | [y0, y1, y2, y3, y4], _ =>
      have q1 : Try.prog.cellsOf 3 = 1 := by kernel_rfl
      have g0 : DataW.trod enc Try.prog W 0 (fun _ => true) hd n' 3 (([v0, v1, v2, v3, v4].drop 0).take (Try.prog.cellsOf 3)) = some y0 := hfld 0 _ rfl
      have g1 : DataW.trod enc Try.prog W 0 (fun _ => true) hd n' 3 (([v0, v1, v2, v3, v4].drop 1).take (Try.prog.cellsOf 3)) = some y1 := hfld 1 _ rfl
      have g2 : DataW.trod enc Try.prog W 0 (fun _ => true) hd n' 3 (([v0, v1, v2, v3, v4].drop 2).take (Try.prog.cellsOf 3)) = some y2 := hfld 2 _ rfl
      have g3 : DataW.trod enc Try.prog W 0 (fun _ => true) hd n' 3 (([v0, v1, v2, v3, v4].drop 3).take (Try.prog.cellsOf 3)) = some y3 := hfld 3 _ rfl
      have g4 : DataW.trod enc Try.prog W 0 (fun _ => true) hd n' 3 (([v0, v1, v2, v3, v4].drop 4).take (Try.prog.cellsOf 3)) = some y4 := hfld 4 _ rfl
      rw [q1] at g0 g1 g2 g3 g4
      obtain ⟨k0, e0, _, w0⟩ := DataW.trod_int Try.underlying3 g0
      obtain ⟨k1, e1, _, w1⟩ := DataW.trod_int Try.underlying3 g1
      obtain ⟨k2, e2, _, w2⟩ := DataW.trod_int Try.underlying3 g2
      obtain ⟨k3, e3, _, w3⟩ := DataW.trod_int Try.underlying3 g3
      obtain ⟨k4, e4, _, w4⟩ := DataW.trod_int Try.underlying3 g4
      simp only [List.drop, List.take] at e0 e1 e2 e3 e4
      have f0 : v0 = .int .i64 k0 := by simpa using e0
      have f1 : v1 = .int .i64 k1 := by simpa using e1
      have f2 : v2 = .int .i64 k2 := by simpa using e2
      have f3 : v3 = .int .i64 k3 := by simpa using e3
      have f4 : v4 = .int .i64 k4 := by simpa using e4
      subst f0 f1 f2 f3 f4
      exact ⟨⟨k0, k1, k2, k3, k4⟩, rfl, w0, w4⟩
set_option maxRecDepth 100000 in
set_option maxHeartbeats 2000000 in
theorem lifted (os : Os) (started : os.Started) (H : Type) (enc : TypeId × Value → H) (F : Stop.Interp) :
    ReturnsInHanded {} Try.checked os 11 .any ((Rows.OpenSpec.upto Rows.keysFreshSpec).pre6 enc Try.prog Try.f11 Rows.keysFreshUptoRow.domain false) (((Rows.OpenSpec.upto Rows.keysFreshSpec).at F).post enc Try.prog Try.f11 false true false false) := by
  refine returnsInHanded_of_cond (C := Try.checked) (s := Rows.OpenSpec.upto Rows.keysFreshSpec) (k := Rows.uptoSmall) rfl own started (by kernel_rfl) Try.func11
    (OpenSpec.witness (enc := enc) (C := Try.checked) (s := Rows.OpenSpec.upto Rows.keysFreshSpec) (k := Rows.uptoSmall) rfl false ⟨#[], #[.int .i64 0, .slice none 0 0, .agg #[.int .i64 0, .int .i64 0, .int .i64 0, .int .i64 0, .int .i64 0]], []⟩ 8 (by kernel_rfl) (by kernel_rfl) (by kernel_rfl)
      (x := ([.lit (.int .i64 0), .nil, .agg [.lit (.int .i64 0), .lit (.int .i64 0), .lit (.int .i64 0), .lit (.int .i64 0), .lit (.int .i64 0)]], [], [])) (by kernel_rfl) rfl (by kernel_rfl)) ?_
  intro W base args ds gs before hval0 hW _ hbulk _
  have hbd := bulks.bound hbulk
  have hval : ∀ (j : Nat) t v, Try.f11.params[j]? = some t → args[j]? = some v → Value.okWide Try.prog W .any base t v := hval0
  have hW' := hW
  obtain ⟨p, q, hA0, hV, rfl, hfz, hnd⟩ := hW
  have hA : DataW.TrodAll enc Try.prog W 0 (fun _ => true) true Try.f11.params.toList args.toList ds p := hA0
  rw [Try.params11] at hA hval
  obtain ⟨v0, vs0, d0, ds0, p0, q0, hargs, rfl, rfl, h0, r0⟩ := trodAll_cons hA
  obtain ⟨v1, vs1, d1, ds1, p1, q1, rfl, rfl, rfl, h1, r1⟩ := trodAll_cons r0
  obtain ⟨v2, vs2, d2, ds2, p2, q2, rfl, rfl, rfl, h2, r2⟩ := trodAll_cons r1
  obtain ⟨rfl, rfl, rfl⟩ := trodAll_nil r2
  obtain rfl : args = #[v0, v1, v2] := by cases args; simp_all
  obtain ⟨rfl, rfl⟩ := trodVars_none hV
  obtain ⟨a0, rfl, rfl, rfl, w0⟩ := open_int Try.underlying3 (hval 0 3 v0 rfl rfl) h0
  obtain ⟨a1, len1, cap1, rfl⟩ := okWide_slice Try.underlying33 (hval 1 33 v1 rfl rfl)
  have k1 := h1
  have lt1 : ∀ x ∈ p1, x.block < W.heap.size := by obtain ⟨m, hm⟩ := k1; exact DataW.trod_lt m _ _ _ hm
  obtain ⟨z1, hl1, hr1, wf1⟩ : ∃ f : Nat → Int, len1 + 1 ≤ Rows.uptoBulk d1 ∧ IsInts W a1 len1 f ∧ ∀ i, i < len1 → (Lit.int .i64 (f i)).wf = true := by
    obtain ⟨fuel, hf⟩ := h1
    rcases open_ints Try.underlying33 Try.underlying3 (by kernel_rfl) hf with ⟨hcs, hx⟩ | ⟨x, l, c, zs, hcs, _, hl, hm, hz, hx, hcell, hwz⟩
    · simp [Value.cells] at hcs
      obtain ⟨rfl, rfl, rfl⟩ := hcs
      exact ⟨fun _ => 0, bulks.one_le _, .inl rfl, fun i hi => absurd hi (Nat.not_lt_zero _)⟩
    · simp [Value.cells] at hcs
      obtain ⟨rfl, rfl, rfl⟩ := hcs
      exact ⟨fun i => zs.getD i 0, by rw [(Prod.mk.inj hx).1]; have h1 := bulks.slice_le (lits (H := H) IntKind.i64 (zs.take len1)) (lits IntKind.i64 (zs.drop len1)); have h2 : (lits (H := H) IntKind.i64 (zs.take len1)).length = min len1 zs.length := (by simp [lits]); simp at hz; omega, isInts_of hcell (by simp at hz; omega), fun i hi => hwz _ (by simp at hz; show zs.getD i 0 ∈ zs; rw [List.getD_eq_getElem?_getD, List.getElem?_eq_getElem (by omega)]; exact List.getElem_mem _)⟩
  have hv2 := hval 2 44 v2 rfl rfl
  have k2 := h2
  have lt2 : ∀ x ∈ p2, x.block < W.heap.size := by obtain ⟨m, hm⟩ := k2; exact DataW.trod_lt m _ _ _ hm
  obtain ⟨c2, rfl, hcr2, hca2⟩ := open_cmd hv2 h2
  simp only [Rows.uptoBulkAll, List.cons_append, List.nil_append] at hbd
  clear hA0 hval0
  refine (fresh_c a0 a1 len1 cap1 (lst z1 len1) c2 W (lst_len _ _) (ints_lst hr1) (lst_keys wf1) hcr2 hca2).mono fun e W' ⟨he, bel⟩ => ?_
  subst he
  exact ⟨_, rfl, _, _, _, [], _, [], hW', trodAll_mk1 (shut_bool Try.underlying4 _), (trodAll_cons_mk (shut_int Try.underlying3 w0) (trodAll_cons_mk (Below.trod laidOut (by kernel_rfl) (of_decide_eq_true (by kernel_rfl)) k1 bel lt1) (trodAll_cons_mk (Below.trod laidOut (by kernel_rfl) (of_decide_eq_true (by kernel_rfl)) k2 bel lt2) trodAll_mk0))), rfl, bel.frame _, fun h => by cases h⟩
theorem proved : Rows.KeysFreshUptoSaid :=
  OpenClaim.holds_of_cond 11 Try.f11 rfl rfl rfl rfl rfl rfl rfl ⟨rfl, rfl, rfl, rfl, rfl⟩ rfl rfl rfl rfl rfl (by kernel_rfl) Try.func11 (by kernel_rfl)
    (of_decide_eq_true (by kernel_rfl)) (by unfold Func.isWrapper; rw [if_neg (of_decide_eq_false (by kernel_rfl))]; exact ⟨rfl, rfl⟩)
    (fun os started H enc _ F => lifted os started H enc F)
end Go.Proofs.Ytampjndfhpjheaa.keysFresh
