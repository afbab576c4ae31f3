/- parts: total (the sum over a list of nodes). -/
import Derived.Test.YtdegdoilpamjjaaDoorJr
namespace Go.Proofs.YtdegdoilpamjjaaDoor
open Go.RowKit
set_option linter.unusedVariables false
set_option linter.unusedSimpArgs false
/-- called for its parts, the value answers k -/
def PM (W : World) (nv : Value) (k : Int) : Prop := ∃ t p f q, nv = .iface t p ∧ (∀ w, Sem.run Tryd.prog (method 279 t p "copyist/pattern.parts") w = .ok (f, q) w) ∧ (∀ w, Sem.run Tryd.prog (callFunc f #[q]) w = .ok (.enter f #[q]) w) ∧
  (∀ m, Calls Tryd.prog f #[q] (W.drewN m) fun e w' => e = .returned (.int .i64 k) ∧ ∃ m', w' = (W.drewN m).drewN m') ∧ 0 ≤ k ∧ k ≤ 4097
def sumP (l : List Int) (t : Int) : Int := l.foldl (fun t k => lidP (t + k)) t
set_option maxRecDepth 100000 in
set_option maxHeartbeats 4000000 in
theorem total_c (g off c : Nat) (vs : List Value) (ks : List Int) (w : World) (hl : ks.length = vs.length) (hn : vs.length < 1073741824)
    (hc : ∀ i (hi : i < vs.length), w.cell? ⟨g, off + i, none⟩ = some vs[i]) (hP : ∀ i (hi : i < vs.length) (hj : i < ks.length), PM w vs[i] ks[i]) :
    Calls Tryd.prog 129 #[.slice (some ⟨g, off, none⟩) vs.length c] w fun e w' => e = .returned (.int .i64 (sumP ks 0)) ∧ ∃ m, w' = w.drewN m := by
  obtain ⟨n, hlen⟩ : ∃ n, vs.length = n := ⟨_, rfl⟩
  have HC := Lib.hid hc
  have HP := Lib.hid hP
  have HL := Lib.hid hl
  have HLEN := Lib.hid hlen
  rw [hlen] at hn ⊢
  clear hc hP hl hlen
  go_enter Tryd.func129, Tryd.ntmps129
  go_wp2_with fail
  go_loopg [3, 8] n (fun gg mv iv wr => ∃ (k : Nat) (m : Int), k + gg = n ∧ iv = .int .i64 k ∧ mv = .int .i64 m ∧ 0 ≤ m ∧ m ≤ 4097 ∧ sumP (ks.drop k) m = sumP ks 0 ∧ ∃ d, wr = w.drewN d)
  case atStart => exact ⟨0, 0, by omega, rfl, rfl, by omega, by omega, rfl, 0, rfl⟩
  case round =>
    obtain ⟨k, m, hk, rfl, rfl, hm0, hm1, hs, d, rfl⟩ := hrel
    have HS := Lib.hid hs
    clear hs
    by_cases hlt : k < n
    · have c0 := HC.out k (by rw [HLEN.out]; exact hlt)
      obtain ⟨t, p, f, q, hv, hm, hf, hcall, hk0, hk1⟩ := HP.out k (by rw [HLEN.out]; exact hlt) (by rw [HL.out, HLEN.out]; exact hlt)
      rw [hv] at c0
      obtain ⟨kk, hkk⟩ : ∃ kk, ks[k]'(by rw [HL.out, HLEN.out]; exact hlt) = kk := ⟨_, rfl⟩
      rw [hkk] at hk0 hk1 hcall
      have HK := Lib.hid hkk
      clear hkk hv
      have HSN := Lib.hid (show sumP (ks.drop (k + 1)) (lidP (m + kk)) = sumP ks 0 from by
        rw [← HS.out, List.drop_eq_getElem_cons (l := ks) (i := k) (by rw [HL.out, HLEN.out]; exact hlt), HK.out]; rfl)
      have q1 : IntKind.i64.wrap (m + kk) = m + kk := by rw [IntKind.wrap_i64]; omega
      have q2 : IntKind.i64.wrap ((k : Int) + 1) = ((k + 1 : Nat) : Int) := by rw [IntKind.wrap_i64]; omega
      go_wp2_with fail
      try rw [hf, Oper.upon_enter]
      refine (hcall d).mono ?_
      rintro e w2 ⟨rfl, m2, rfl⟩
      go_wp2_with fail
      refine (lid_c _ _).mono ?_
      rintro e w2 ⟨rfl, rfl⟩
      go_wp2
      go_roundg (gk - 1)
      case measure => omega
      case rel => exact ⟨k + 1, lidP (m + kk), by omega, by go_num, rfl, by unfold lidP; omega, by unfold lidP; omega, HSN.out, d + m2, by first | rw [World.drewN_drewN] | rfl⟩
    · obtain rfl : n = k := by omega
      go_wp2
      go_ret
      refine ⟨ret_int ?_, _, rfl⟩
      rw [← HS.out, List.drop_of_length_le (by rw [HL.out, HLEN.out]; exact Nat.le_refl _)]
      rfl
set_option maxRecDepth 100000 in
theorem parts_row (b g off c : Nat) (vs : List Value) (ks : List Int) (w : World) (h : w.heap[b]? = some (.cells #[.slice (some ⟨g, off, none⟩) vs.length c] 117 (0, 0))) (hl : ks.length = vs.length) (hn : vs.length < 1073741824)
    (hc : ∀ i (hi : i < vs.length), w.cell? ⟨g, off + i, none⟩ = some vs[i]) (hP : ∀ i (hi : i < vs.length) (hj : i < ks.length), PM w vs[i] ks[i]) :
    Calls Tryd.prog 130 #[.pointer (some ⟨b, 0, none⟩)] w fun e w' => e = .returned (.int .i64 (sumP ks 0)) ∧ ∃ m, w' = w.drewN m := by
  have hT := Lib.hid (total_c g off c vs ks w hl hn hc hP)
  have b0 : w.cell? ⟨b, 0, none⟩ = some (.slice (some ⟨g, off, none⟩) vs.length c) := block_cell h
  clear h hl hn hc hP
  go_enter Tryd.func130, Tryd.ntmps130
  go_wp2_with fail
  refine hT.out.mono ?_
  rintro e w2 ⟨rfl, m, rfl⟩
  go_wp2
  go_ret
  exact ⟨rfl, _, rfl⟩
end Go.Proofs.YtdegdoilpamjjaaDoor
