/- parts of what a quoted list is read to: as many as it has ints. -/
import Derived.Test.YtdegdoilpamjjaaDoorQd
namespace Go.Proofs.YtdegdoilpamjjaaDoor
open Go.RowKit
set_option linter.unusedVariables false
set_option linter.unusedSimpArgs false
theorem PM.drewN {W : World} {nv : Value} {k : Int} (h : PM W nv k) (m : Nat) : PM (W.drewN m) nv k := by
  obtain ⟨t, p, f, q, h1, h2, h3, h4, h5⟩ := h
  refine ⟨t, p, f, q, h1, h2, h3, fun m' => ?_, h5⟩
  have := h4 (m + m')
  rw [← World.drewN_drewN] at this
  exact this
theorem sumP_bound (ks : List Int) (t : Int) (ht : 0 ≤ t ∧ t ≤ 4097) (h : ∀ k ∈ ks, 0 ≤ k) : 0 ≤ sumP ks t ∧ sumP ks t ≤ 4097 := by
  induction ks generalizing t with
  | nil => exact ht
  | cons k ks ih =>
    refine ih (lidP (t + k)) ?_ (fun x hx => h x (List.mem_cons_of_mem _ hx))
    have := h k (List.mem_cons_self ..)
    unfold lidP
    omega
set_option maxRecDepth 100000 in
set_option maxHeartbeats 4000000 in
theorem parts_choice (b g off c : Nat) (vs : List Value) (ks : List Int) (w : World) (h : w.heap[b]? = some (.cells #[.slice (some ⟨g, off, none⟩) vs.length c] 114 (0, 0))) (hl : ks.length = vs.length) (hn : vs.length < 1073741824)
    (hc : ∀ i (hi : i < vs.length), w.cell? ⟨g, off + i, none⟩ = some vs[i]) (hP : ∀ i (hi : i < vs.length) (hj : i < ks.length), PM w vs[i] ks[i]) (hS : 0 ≤ sumP ks 0 ∧ sumP ks 0 ≤ 4097) :
    Calls Tryd.prog 127 #[.pointer (some ⟨b, 0, none⟩)] w fun e w' => e = .returned (.int .i64 (lidP (sumP ks 0 + vs.length - 1))) ∧ ∃ m, w' = w.drewN m := by
  have hT : ∀ m, Calls Tryd.prog 129 #[.slice (some ⟨g, off, none⟩) vs.length c] (w.drewN m) fun e w' => e = .returned (.int .i64 (sumP ks 0)) ∧ ∃ m', w' = (w.drewN m).drewN m' :=
    fun m => total_c g off c vs ks (w.drewN m) hl hn (fun i hi => hc i hi) (fun i hi hj => (hP i hi hj).drewN m)
  have HT := Lib.hid hT
  have b0 : w.cell? ⟨b, 0, none⟩ = some (.slice (some ⟨g, off, none⟩) vs.length c) := block_cell h
  clear h hl hc hP hT
  generalize sumP ks 0 = S at HT hS ⊢
  generalize vs.length = n at HT b0 hn ⊢
  obtain ⟨h1, h2⟩ := hS
  have q1 : IntKind.i64.wrap (S + (n : Int)) = S + (n : Int) := by rw [IntKind.wrap_i64]; omega
  have q2 : IntKind.i64.wrap (S + (n : Int) - 1) = S + (n : Int) - 1 := by rw [IntKind.wrap_i64]; omega
  have HLD : Hid (∀ m, Calls Tryd.prog 128 #[.int .i64 (S + (n : Int) - 1)] (w.drewN m) fun e w' => e = .returned (.int .i64 (lidP (S + (n : Int) - 1))) ∧ ∃ m', w' = (w.drewN m).drewN m') := Lib.hid (fun m => (lid_c _ _).mono (fun e w' ⟨h1, h2⟩ => ⟨h1, 0, h2.trans rfl⟩))
  go_enter Tryd.func127, Tryd.ntmps127
  go_wp2_with fail
  go_quiet (first | (go_at_call 129; with_reducible exact Calls.quiet_of (HT.out _)) | (go_at_call 128; with_reducible exact Calls.quiet_of (HLD.out _)))
  go_wp2
  go_ret
  exact ⟨rfl, _, rfl⟩
theorem sumP_ones (n : Nat) (t : Int) (ht : 0 ≤ t) (h : t + n ≤ 4097) : sumP (List.replicate n 1) t = t + n := by
  induction n generalizing t with
  | zero => show t = _; omega
  | succ n ih =>
    show sumP (List.replicate n 1) (lidP (t + 1)) = _
    have e : lidP (t + 1) = t + 1 := by unfold lidP; omega
    rw [e, ih (t + 1) (by omega) (by omega)]
    omega
theorem SetN.pm {w : World} {fold : Bool} {v : Value} {x : Int} (h : SetN w fold v x) : PM w v 1 := by
  obtain ⟨b, g, rfl, _, _⟩ := h
  exact ⟨_, _, _, _, rfl, fun w => parts_m_set _ w, fun w => parts_f_set _ w, fun m => (parts_set _ _).mono (fun e w' ⟨h1, h2⟩ => ⟨h1, 0, h2.trans rfl⟩), by decide, by decide⟩
/-- a list that the call owns, by its block -/
theorem own_block {w : World} {base : Nat} {e : TypeId} {n : Nat} {v : Value} {vs : List Value} (h : w.ownsRow base e 1 v n vs) (hn : 0 < n) : ∃ g c, v = .slice (some ⟨g, 0, none⟩) n c ∧ vs.length = n ∧ ∀ i (hi : i < vs.length), w.cell? ⟨g, 0 + i, none⟩ = some vs[i] := by
  have h' := h
  rcases h.2 with ⟨h1, h2⟩ | ⟨g, cap, cur, h1, _, _, h2, _⟩
  · omega
  · subst h1
    have hl : vs.length = n := by rw [h.1, Nat.mul_one]
    refine ⟨g, cap, rfl, hl, fun i hi => ?_⟩
    rw [Nat.zero_add, World.ownsRow.cellAt h' i (by omega), List.getElem?_eq_getElem hi]
set_option maxRecDepth 100000 in
theorem PatE.parts {w0 w : World} {rb : Nat} {sl : Option Addr} {n c : Nat} {fold : Bool} {l : List Int} {cb mb : Nat} {sR : Option Addr} {cR : Nat} {sM : Option Addr} {cM : Nat} {vs : List Value} (h : PatE w0 w rb sl n c fold l cb mb sR cR sM cM vs) (hl : 0 < l.length) (hl2 : l.length ≤ 4000) :
    Calls Tryd.prog 127 #[.pointer (some ⟨cb, 0, none⟩)] w fun e w' => e = .returned (.int .i64 l.length) ∧ ∃ m, w' = w.drewN m := by
  obtain ⟨g, c1, e1, hlen, hcell⟩ := own_block h.own hl
  obtain ⟨rfl, -, rfl⟩ := Value.slice.inj e1
  have hrow : PM w (.iface 115 (.pointer (some ⟨mb, 0, none⟩))) l.length := by
    refine ⟨_, _, _, _, rfl, fun w => parts_m_row _ w, fun w => parts_f_row _ w, fun m => ?_, by omega, by omega⟩
    have hm := h.mblk
    rw [← hlen] at hm
    have := parts_row mb g 0 _ vs (List.replicate vs.length 1) (w.drewN m) hm (by simp) (by omega) (fun i hi => hcell i hi) (fun i hi hj => by
      rw [List.getElem_replicate]
      exact ((h.sets i hi (by omega)).pm).drewN m)
    rw [sumP_ones _ 0 (by decide) (by omega), hlen, Int.zero_add] at this
    exact this
  obtain ⟨g2, c2, e2, hlen2, hcell2⟩ := own_block h.ownR (by decide)
  obtain ⟨rfl, -, rfl⟩ := Value.slice.inj e2
  have := parts_choice cb g2 0 _ [.iface 115 (.pointer (some ⟨mb, 0, none⟩))] [(l.length : Int)] w h.cblk rfl (by show 1 < _; omega) hcell2 (fun i hi hj => by
    have : i = 0 := by simpa using hi
    subst this
    exact hrow) (sumP_bound _ _ (by decide) (by intro k hk; rw [List.mem_singleton] at hk; omega))
  have e : lidP (sumP [(l.length : Int)] 0 + ([Value.iface 115 (.pointer (some ⟨mb, 0, none⟩))] : List Value).length - 1) = l.length := by
    show lidP (lidP (0 + (l.length : Int)) + ((1 : Nat) : Int) - 1) = _
    unfold lidP
    omega
  rw [e] at this
  exact this
end Go.Proofs.YtdegdoilpamjjaaDoor
