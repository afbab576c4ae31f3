/- Contract: the reader's number. Condition: fewer than 2^62 keys. -/
import Derived.Test.YtampjndfhpjheaaYf
import Derived.Test.YtampjndfhpjheaaYb
import Derived.Deep.RegionHeld3
import Derived.IntWalk
namespace Go.Proofs.Ytampjndfhpjheaa
open Go.RowKit
/-- block rb: a reader with the keys l and the count cnt -/
def RdOk (w : World) (rb : Nat) (l : List Int) (cnt : Int) (B : Nat) : Prop :=
  ∃ s c, w.heap[rb]? = some (.cells #[.slice s l.length c, .int .i64 cnt] 139 (0, 0)) ∧ l.length ≤ c ∧ IsInts w s l.length (gl l) ∧ ∀ a, s = some a → a.block ≠ rb ∧ a.block < B
theorem RdOk.lt {w : World} {rb : Nat} {l : List Int} {cnt : Int} {B : Nat} (h : RdOk w rb l cnt B) : rb < w.heap.size := by obtain ⟨s, c, h1, _⟩ := h; exact heap_lt h1
theorem RdOk.later {w w' : World} {rb : Nat} {l : List Int} {cnt : Int} {B : Nat} (h : RdOk w rb l cnt B) (hb : Below w.heap.size w w') : RdOk w' rb l cnt B := by
  obtain ⟨s, c, h1, h2, h3, h4⟩ := h
  exact ⟨s, c, (hb.block _ (heap_lt h1)).trans h1, h2, h3.later hb, h4⟩
theorem gl_cons (x : Int) (t : List Int) (i : Nat) : gl (x :: t) (i + 1) = gl t i := by unfold gl; simp
theorem gl_drop (l : List Int) (k i : Nat) : gl (l.drop k) i = gl l (k + i) := by
  unfold gl; rw [List.getD_eq_getElem?_getD, List.getD_eq_getElem?_getD, List.getElem?_drop]
/-- the keys, some of them gone: the slice that is stored -/
theorem RdOk.cut {w : World} {rb : Nat} {l : List Int} {cnt : Int} {B : Nat} {s : Option Addr} {c k : Nat} (h1 : w.heap[rb]? = some (.cells #[.slice s l.length c, .int .i64 cnt] 139 (0, 0))) (_h2 : l.length ≤ c) (h3 : IsInts w s l.length (gl l)) (h4 : ∀ a, s = some a → a.block ≠ rb ∧ a.block < B) (hk : k ≤ l.length)
    {s' : Option Addr} (hs : l.length = k ∨ ∃ b o, s = some ⟨b, o, none⟩ ∧ s' = some ⟨b, o + k, none⟩) (hs2 : ∀ a, s' = some a → a.block ≠ rb ∧ a.block < B) {c2 : Nat} (hc2 : l.length - k ≤ c2) : RdOk (w.setCell ⟨rb, 0, none⟩ (.slice s' (l.length - k) c2)) rb (l.drop k) cnt B := by
  have hl : (l.drop k).length = l.length - k := List.length_drop ..
  refine ⟨s', c2, ?_, by rw [hl]; exact hc2, ?_, hs2⟩
  · rw [block_set _ h1, hl]; rfl
  · rw [hl]
    rcases hs with e | ⟨b, o, rfl, rfl⟩
    · exact .inl (by omega)
    · by_cases h0 : l.length - k = 0
      · exact .inl h0
      rcases h3 with h3 | ⟨b', o', he, hb, hc⟩
      · omega
      · cases he
        refine .inr ⟨b, o + k, rfl, by simpa [World.setCell] using hb, fun i hi => ?_⟩
        have hne := (h4 ⟨b, o, none⟩ rfl).1
        rw [World.cell?_of_block (w := w) (Below.heap_setCell w ⟨rb, 0, none⟩ _ b (show b ≠ rb from hne)), gl_drop, show o + k + i = o + (k + i) from by omega]
        exact hc (k + i) (by omega)
theorem RdOk.count {w : World} {rb : Nat} {l : List Int} {cnt : Int} {B : Nat} (h : RdOk w rb l cnt B) (n : Int) : RdOk (w.setCell ⟨rb, 1, none⟩ (.int .i64 n)) rb l n B := by
  obtain ⟨s, c, h1, h2, h3, h4⟩ := h
  refine ⟨s, c, by rw [block_set _ h1]; rfl, h2, ?_, h4⟩
  rcases h3 with h3 | ⟨b, o, rfl, hb, hc⟩
  · exact .inl h3
  · have hne := (h4 ⟨b, o, none⟩ rfl).1
    exact .inr ⟨b, o, rfl, by simpa [World.setCell] using hb, fun i hi => by
      rw [World.cell?_of_block (w := w) (Below.heap_setCell w ⟨rb, 1, none⟩ _ b (show b ≠ rb from hne))]; exact hc i hi⟩
theorem numP_cons {x cnt : Int} {t : List Int} (h : 49 ≤ x ∧ x ≤ 57) : numP cnt (x :: t) = (min (max cnt 1 * (runN 0 (x :: t)).1) 9999, (runN 0 (x :: t)).2) := by
  have : dig1B x = true := by unfold dig1B; rw [Bool.and_eq_true, decide_eq_true_eq, decide_eq_true_eq]; exact h
  simp only [numP, this, if_true]
theorem runN_nil (n : Int) : runN n [] = (n, []) := rfl
theorem runN_dig {n y : Int} {u : List Int} (h : 48 ≤ y ∧ y ≤ 57) : runN n (y :: u) = runN (min (10 * n + y - 48) 9999) u := by
  have : digB y = true := by unfold digB; rw [Bool.and_eq_true, decide_eq_true_eq, decide_eq_true_eq]; exact h
  simp only [runN, this, if_true]
theorem runN_stop {n y : Int} {u : List Int} (h : ¬ (48 ≤ y ∧ y ≤ 57)) : runN n (y :: u) = (n, y :: u) := by
  have : digB y = false := by unfold digB; rw [Bool.and_eq_false_iff, decide_eq_false_iff_not, decide_eq_false_iff_not]; omega
  simp [runN, this]
set_option maxRecDepth 100000 in
set_option maxHeartbeats 4000000 in
theorem number_c (rb : Nat) (l : List Int) (cnt : Int) (B : Nat) (w : World) (h : RdOk w rb l cnt B) (hl : l.length < 4611686018427387904) (h0 : 0 ≤ cnt) (h1 : cnt ≤ 9999) :
    Calls Try.prog 84 #[.pointer (some ⟨rb, 0, none⟩)] w fun e w' => e = .returned (.tuple #[]) ∧ RdOk w' rb (numP cnt l).2 (numP cnt l).1 B ∧ Touch (fun b => b = rb) w w' := by
  have h' := h
  obtain ⟨s, c, hb, hc, hi, hne⟩ := h'
  cases l with
  | nil =>
    have c0 : w.cell? ⟨rb, 0, none⟩ = some (.slice s 0 c) := block_cell hb
    have H := Lib.hid h
    clear h hb hi hne
    go_enter Try.func84, Try.ntmps84
    go_wp2
    refine bodyPost_ret (results_none rfl _ _ _) rfl ?_
    exact ⟨rfl, H.out, Touch.refl _ _⟩
  | cons x t =>
    have c0 : w.cell? ⟨rb, 0, none⟩ = some (.slice s (x :: t).length c) := block_cell hb
    obtain ⟨b, o, rfl, hx⟩ := hi.at (Below.refl _ _) (show 0 < (x :: t).length by simp)
    rw [Nat.add_zero] at hx
    have hx' : w.cell? ⟨b, o, none⟩ = some (.int .i64 x) := hx
    have z0 : (((x :: t).length : Int) == 0) = false := by rw [beq_eq_false_iff_ne]; simp only [List.length_cons]; omega
    have q0 : (0 : Int) < ((x :: t).length : Int) := by simp only [List.length_cons]; omega
    have H := Lib.hid h
    have hlen : (x :: t).length = t.length + 1 := rfl
    clear h hb hi hne hx
    by_cases hd : 49 ≤ x ∧ x ≤ 57
    · have hn := numP_cons (cnt := cnt) (t := t) hd
      have HN := Lib.hid hn
      generalize hL : x :: t = L at *
      have hlt49 : ¬ x < 49 := by omega
      have hgt57 : ¬ 57 < x := by omega
      clear hlen hn hd
      go_enter Try.func84, Try.ntmps84
      go_wp2_with fail
      clear c0 hx' z0 q0
      go_loopg [2] L.length (fun gg nv wr => ∃ q n, q.length ≤ gg ∧ nv = .int .i64 n ∧ 0 ≤ n ∧ n ≤ 9999 ∧ runN n q = runN 0 L ∧ RdOk wr rb q cnt B ∧ Touch (fun b => b = rb) w wr)
      case atStart => exact ⟨L, 0, Nat.le_refl _, rfl, by omega, by omega, rfl, H.out, Touch.refl _ _⟩
      case round =>
        obtain ⟨q, n, hq, rfl, hn0, hn1, hrun, hrd, hto⟩ := hrel
        clear H hL
        have HRUN := Lib.hid hrun
        have HTO := Lib.hid hto
        have HRD := Lib.hid hrd
        obtain ⟨s', c', d1, d2, d3, d4⟩ := hrd
        cases q with
        | nil =>
          have c0 : wr.cell? ⟨rb, 0, none⟩ = some (.slice s' 0 c') := block_cell d1
          have c1 : wr.cell? ⟨rb, 1, none⟩ = some (.int .i64 cnt) := block_cell d1
          have f1 : wr.frozen? ⟨rb, 1, none⟩ = false := block_free d1
          have hr : runN 0 L = (n, []) := HRUN.out.symm
          have HR := Lib.hid hr
          clear hr
          have HFN : Hid (∀ w5, w5 = wr.setCell ⟨rb, 1, none⟩ (.int .i64 (min (max cnt 1 * n) 9999)) → RdOk w5 rb [] (min (max cnt 1 * n) 9999) B ∧ Touch (fun b => b = rb) w w5) := Lib.hid (fun w5 h5 => by
            subst h5
            exact ⟨HRD.out.count _, HTO.out.trans (Touch.setCell (fun b => b = rb) wr (p := ⟨rb, 1, none⟩) rfl _) (fun x hx => .inl hx)⟩)
          obtain ⟨M, hM⟩ : ∃ M, max cnt 1 * n = M := ⟨_, rfl⟩
          have hM0 : 0 ≤ M ∧ M ≤ 99980001 := by
            rw [← hM]
            have hmx : 1 ≤ max cnt 1 ∧ max cnt 1 ≤ 9999 := by omega
            exact ⟨Int.mul_nonneg (by omega) hn0, Int.le_trans (Int.mul_le_mul hmx.2 hn1 hn0 (by omega)) (by decide)⟩
          have HM := Lib.hid hM
          have hm0 := hM0.1
          have hm1 := hM0.2
          clear hM0 d1 d3 d4 hrun hto
          by_cases hc0 : cnt < 1
          · have hmc : max cnt 1 * n = n := by rw [show max cnt 1 = 1 from by omega, Int.one_mul]
            have hMn : n = M := hmc.symm.trans hM
            rw [hM] at HFN
            subst hMn
            have hcz : ¬ 1 < cnt := by omega
            have hmin : min n 9999 = n := by omega
            rw [hmin] at HFN
            have HMI := Lib.hid hmin
            clear hM hmc hmin
            go_wp2
            go_end0
            have := HFN.out _ rfl
            exact ⟨rfl, by rw [HN.out, HR.out, HM.out, HMI.out]; exact this.1, this.2⟩
          · have hmc : max cnt 1 = cnt := by omega
            rw [hmc] at hM
            rw [hmc, hM] at HFN
            have hw1 : IntKind.i64.wrap (cnt * n) = M := by rw [hM]; exact IntWalk.i64_in _ (by omega)
            have hw2 : wrap64 (cnt * n) = M := by rw [← IntWalk.i64_left]; exact hw1
            clear hM hmc
            by_cases hb : M ≤ 9999
            · have hmin : min M 9999 = M := by omega
              rw [hmin] at HFN
              have HMI := Lib.hid hmin
              clear hmin
              go_wp2
              go_end0
              have := HFN.out _ rfl
              exact ⟨rfl, by rw [HN.out, HR.out, HM.out, HMI.out]; exact this.1, this.2⟩
            · have hmin : min M 9999 = 9999 := by omega
              rw [hmin] at HFN
              have HMI := Lib.hid hmin
              have hb2 : 9999 < M := by omega
              clear hmin
              go_wp2
              go_end0
              have := HFN.out _ rfl
              exact ⟨rfl, by rw [HN.out, HR.out, HM.out, HMI.out]; exact this.1, this.2⟩
        | cons y u =>
          have c0 : wr.cell? ⟨rb, 0, none⟩ = some (.slice s' (y :: u).length c') := block_cell d1
          have f0 : wr.frozen? ⟨rb, 0, none⟩ = false := block_free d1
          obtain ⟨b2, o2, rfl, hy⟩ := d3.at (Below.refl _ _) (show 0 < (y :: u).length by simp)
          rw [Nat.add_zero] at hy
          have hy' : wr.cell? ⟨b2, o2, none⟩ = some (.int .i64 y) := hy
          have p0 : (0 : Int) < ((y :: u).length : Int) := by simp only [List.length_cons]; omega
          have p1 : (1 : Int) ≤ ((y :: u).length : Int) := by simp only [List.length_cons]; omega
          have p2 : ((y :: u).length : Int) ≤ (c' : Int) := by omega
          by_cases hdg : 48 ≤ y ∧ y ≤ 57
          · have hr2 := runN_dig (u := u) (n := n) hdg
            rw [hr2] at HRUN
            obtain ⟨y0, y1⟩ := hdg
            have hmm : ∃ m, min (10 * n + y - 48) 9999 = m ∧ 0 ≤ m ∧ m ≤ 9999 := ⟨_, rfl, by omega, by omega⟩
            obtain ⟨m, hm, hm0, hm1⟩ := hmm
            rw [hm] at HRUN
            have hcut : ∀ s2 c2 w5, (u.length = 0 ∨ s2 = some ⟨b2, o2 + 1, none⟩) → (∀ a, s2 = some a → a.block ≠ rb ∧ a.block < B) → u.length ≤ c2 → w5 = wr.setCell ⟨rb, 0, none⟩ (.slice s2 u.length c2) → RdOk w5 rb u cnt B := fun s2 c2 w5 h5 h6 h8 h7 => by
              subst h7
              exact RdOk.cut (k := 1) d1 d2 d3 d4 (by simp) (h5.imp (fun e => by simp [e]) (fun e => ⟨b2, o2, rfl, e⟩)) h6 (by simpa using h8)
            have hne := d4 ⟨b2, o2, none⟩ rfl
            have HCUT := Lib.hid hcut
            have hqu : u.length + 1 ≤ gk := hq
            clear d1 d3 d4 hcut hr2 hrun hto hy
            have hlen2 : (y :: u).length = u.length + 1 := rfl
            generalize (y :: u).length = n2 at *
            by_cases hb : 10 * n + y - 48 ≤ 9999
            · have hme : m = 10 * n + y - 48 := by omega
              have HME := Lib.hid hme
              clear hme hm
              go_wp2
              all_goals
                go_roundg u.length
                case measure => omega
                case rel => exact ⟨u, _, Nat.le_refl _, by rw [HME.out], hm0, hm1, HRUN.out, HCUT.out _ _ _ (by first | exact .inl (by omega) | exact .inr rfl) (by intro a ha; injection ha with ha; subst ha; exact hne) (by omega) rfl, HTO.out.trans (Touch.setCell (fun b => b = rb) wr (p := ⟨rb, 0, none⟩) rfl _) (fun x hx => .inl hx)⟩
            · have hme : m = 9999 := by omega
              have HME := Lib.hid hme
              have hb2 : 9999 < 10 * n + y - 48 := by omega
              clear hme hm
              go_wp2
              all_goals
                go_roundg u.length
                case measure => omega
                case rel => exact ⟨u, _, Nat.le_refl _, by rw [HME.out], hm0, hm1, HRUN.out, HCUT.out _ _ _ (by first | exact .inl (by omega) | exact .inr rfl) (by intro a ha; injection ha with ha; subst ha; exact hne) (by omega) rfl, HTO.out.trans (Touch.setCell (fun b => b = rb) wr (p := ⟨rb, 0, none⟩) rfl _) (fun x hx => .inl hx)⟩
          · have hr : runN 0 L = (n, y :: u) := by rw [← HRUN.out, runN_stop hdg]
            have HR := Lib.hid hr
            have c1 : wr.cell? ⟨rb, 1, none⟩ = some (.int .i64 cnt) := block_cell d1
            have f1 : wr.frozen? ⟨rb, 1, none⟩ = false := block_free d1
            clear hr hy
            by_cases h48 : y < 48
            · have h48' : ¬ 48 ≤ y := by omega
              clear hdg
              have HFN : Hid (∀ w5, w5 = wr.setCell ⟨rb, 1, none⟩ (.int .i64 (min (max cnt 1 * n) 9999)) → RdOk w5 rb (y :: u) (min (max cnt 1 * n) 9999) B ∧ Touch (fun b => b = rb) w w5) := Lib.hid (fun w5 h5 => by
                subst h5
                exact ⟨HRD.out.count _, HTO.out.trans (Touch.setCell (fun b => b = rb) wr (p := ⟨rb, 1, none⟩) rfl _) (fun x hx => .inl hx)⟩)
              obtain ⟨M, hM⟩ : ∃ M, max cnt 1 * n = M := ⟨_, rfl⟩
              have hM0 : 0 ≤ M ∧ M ≤ 99980001 := by
                rw [← hM]
                have hmx : 1 ≤ max cnt 1 ∧ max cnt 1 ≤ 9999 := by omega
                exact ⟨Int.mul_nonneg (by omega) hn0, Int.le_trans (Int.mul_le_mul hmx.2 hn1 hn0 (by omega)) (by decide)⟩
              have HM := Lib.hid hM
              have hm0 := hM0.1
              have hm1 := hM0.2
              clear hM0 d1 d3 d4 hrun hto
              by_cases hc0 : cnt < 1
              · have hmc : max cnt 1 * n = n := by rw [show max cnt 1 = 1 from by omega, Int.one_mul]
                have hMn : n = M := hmc.symm.trans hM
                rw [hM] at HFN
                subst hMn
                have hcz : ¬ 1 < cnt := by omega
                have hmin : min n 9999 = n := by omega
                rw [hmin] at HFN
                have HMI := Lib.hid hmin
                clear hM hmc hmin
                go_wp2
                go_end0
                have := HFN.out _ rfl
                exact ⟨rfl, by rw [HN.out, HR.out, HM.out, HMI.out]; exact this.1, this.2⟩
              · have hmc : max cnt 1 = cnt := by omega
                rw [hmc] at hM
                rw [hmc, hM] at HFN
                have hw1 : IntKind.i64.wrap (cnt * n) = M := by rw [hM]; exact IntWalk.i64_in _ (by omega)
                have hw2 : wrap64 (cnt * n) = M := by rw [← IntWalk.i64_left]; exact hw1
                clear hM hmc
                by_cases hb : M ≤ 9999
                · have hmin : min M 9999 = M := by omega
                  rw [hmin] at HFN
                  have HMI := Lib.hid hmin
                  clear hmin
                  go_wp2
                  go_end0
                  have := HFN.out _ rfl
                  exact ⟨rfl, by rw [HN.out, HR.out, HM.out, HMI.out]; exact this.1, this.2⟩
                · have hmin : min M 9999 = 9999 := by omega
                  rw [hmin] at HFN
                  have HMI := Lib.hid hmin
                  have hb2 : 9999 < M := by omega
                  clear hmin
                  go_wp2
                  go_end0
                  have := HFN.out _ rfl
                  exact ⟨rfl, by rw [HN.out, HR.out, HM.out, HMI.out]; exact this.1, this.2⟩
            · have h48' : 48 ≤ y := by omega
              have h57' : 57 < y := by omega
              clear hdg
              have HFN : Hid (∀ w5, w5 = wr.setCell ⟨rb, 1, none⟩ (.int .i64 (min (max cnt 1 * n) 9999)) → RdOk w5 rb (y :: u) (min (max cnt 1 * n) 9999) B ∧ Touch (fun b => b = rb) w w5) := Lib.hid (fun w5 h5 => by
                subst h5
                exact ⟨HRD.out.count _, HTO.out.trans (Touch.setCell (fun b => b = rb) wr (p := ⟨rb, 1, none⟩) rfl _) (fun x hx => .inl hx)⟩)
              obtain ⟨M, hM⟩ : ∃ M, max cnt 1 * n = M := ⟨_, rfl⟩
              have hM0 : 0 ≤ M ∧ M ≤ 99980001 := by
                rw [← hM]
                have hmx : 1 ≤ max cnt 1 ∧ max cnt 1 ≤ 9999 := by omega
                exact ⟨Int.mul_nonneg (by omega) hn0, Int.le_trans (Int.mul_le_mul hmx.2 hn1 hn0 (by omega)) (by decide)⟩
              have HM := Lib.hid hM
              have hm0 := hM0.1
              have hm1 := hM0.2
              clear hM0 d1 d3 d4 hrun hto
              by_cases hc0 : cnt < 1
              · have hmc : max cnt 1 * n = n := by rw [show max cnt 1 = 1 from by omega, Int.one_mul]
                have hMn : n = M := hmc.symm.trans hM
                rw [hM] at HFN
                subst hMn
                have hcz : ¬ 1 < cnt := by omega
                have hmin : min n 9999 = n := by omega
                rw [hmin] at HFN
                have HMI := Lib.hid hmin
                clear hM hmc hmin
                go_wp2
                go_end0
                have := HFN.out _ rfl
                exact ⟨rfl, by rw [HN.out, HR.out, HM.out, HMI.out]; exact this.1, this.2⟩
              · have hmc : max cnt 1 = cnt := by omega
                rw [hmc] at hM
                rw [hmc, hM] at HFN
                have hw1 : IntKind.i64.wrap (cnt * n) = M := by rw [hM]; exact IntWalk.i64_in _ (by omega)
                have hw2 : wrap64 (cnt * n) = M := by rw [← IntWalk.i64_left]; exact hw1
                clear hM hmc
                by_cases hb : M ≤ 9999
                · have hmin : min M 9999 = M := by omega
                  rw [hmin] at HFN
                  have HMI := Lib.hid hmin
                  clear hmin
                  go_wp2
                  go_end0
                  have := HFN.out _ rfl
                  exact ⟨rfl, by rw [HN.out, HR.out, HM.out, HMI.out]; exact this.1, this.2⟩
                · have hmin : min M 9999 = 9999 := by omega
                  rw [hmin] at HFN
                  have HMI := Lib.hid hmin
                  have hb2 : 9999 < M := by omega
                  clear hmin
                  go_wp2
                  go_end0
                  have := HFN.out _ rfl
                  exact ⟨rfl, by rw [HN.out, HR.out, HM.out, HMI.out]; exact this.1, this.2⟩
    · have hn : numP cnt (x :: t) = (cnt, x :: t) := by
        have : dig1B x = false := by
          unfold dig1B
          rw [Bool.and_eq_false_iff, decide_eq_false_iff_not, decide_eq_false_iff_not]; omega
        simp [numP, this]
      have HN := Lib.hid hn
      generalize (x :: t).length = n at *
      clear hlen hn
      by_cases h49 : x < 49
      · go_enter Try.func84, Try.ntmps84
        go_wp2
        refine bodyPost_ret (results_none rfl _ _ _) rfl ?_
        exact ⟨rfl, by rw [HN.out]; exact H.out, Touch.refl _ _⟩
      · have h57 : 57 < x := by omega
        go_enter Try.func84, Try.ntmps84
        go_wp2
        refine bodyPost_ret (results_none rfl _ _ _) rfl ?_
        exact ⟨rfl, by rw [HN.out]; exact H.out, Touch.refl _ _⟩
end Go.Proofs.Ytampjndfhpjheaa
