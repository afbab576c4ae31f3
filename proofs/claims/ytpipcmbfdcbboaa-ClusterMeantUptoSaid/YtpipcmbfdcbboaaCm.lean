/- The rows of atoms that belong together: plain laws, and the contract of meant. Condition: n at most 64. -/
import Derived.Test.YtpipcmbfdcbboaaCz
namespace Go.Proofs.Ytpipcmbfdcbboaa
open Go.RowKit
def mflag (i : Nat) : Int := 127462 + (i : Int) % 26
def mrow (k n : Int) : List Int :=
  if k = 0 then [13, 10]
  else if k = 1 then [101, 769, 776, 8205]
  else if k = 2 then [128104, 8205, 128105, 65039, 8205, 128102]
  else if k = 3 then [4352, 4449, 4520]
  else if k = 4 then [2325, 2364, 2381, 2359, 2381, 8205, 2352, 2366]
  else if k = 6 then [1536, 49, 769]
  else if k = 7 then [44032, 4449, 4520, 4520]
  else lst mflag n.toNat
theorem mflag_class (i : Nat) : classF (mflag i) = 6 ∧ conjF (mflag i) = 0 := by
  have h : 127462 ≤ mflag i ∧ mflag i < 127462 + 26 := by unfold mflag; omega
  have := all_range 127462 26 (fun a => decide (classF a = 6 ∧ conjF a = 0)) (by decide +kernel) (mflag i) h.1 h.2
  exact of_decide_eq_true this
theorem flag_run {f : Nat → Int} : ∀ j, (∀ i, i ≤ j → classF (f i) = 6 ∧ conjF (f i) = 0) → brkB f j = decide (j % 2 = 0) ∧ (stG f j).flags = 1 + ((j % 2 : Nat) : Int) ∧ (stG f j).last = 6 ∧ (stG f j).conj = 0 := by
  intro j
  induction j with
  | zero =>
    intro h
    have := h 0 (Nat.le_refl _)
    refine ⟨rfl, ?_, ?_, ?_⟩ <;> (show _ = _; unfold stG beginF noteF; simp [this.1, this.2])
  | succ j ih =>
    intro h
    obtain ⟨h1, h2, h3, h4⟩ := ih (fun i hi => h i (by omega))
    have hc := h (j + 1) (Nat.le_refl _)
    have hj : joinsB (stG f j) (classF (f (j + 1))) (conjF (f (j + 1))) = decide (j % 2 = 0) := by
      unfold joinsB apartB hangulB
      rw [hc.1, hc.2, h3, h4, h2]
      simp
      rw [Bool.eq_iff_iff]; simp; omega
    have hb : brkB f (j + 1) = decide ((j + 1) % 2 = 0) := by
      rw [brk_succ, hj, Bool.eq_iff_iff]; simp; omega
    refine ⟨hb, ?_, ?_, ?_⟩
    all_goals
      rw [stG_succ, hj]
      by_cases e : j % 2 = 0
      · rw [decide_eq_true e, if_pos rfl]
        unfold noteF
        simp only [hc.1, hc.2, h2, h4]
        all_goals (first | rfl | omega | (simp; omega) | simp)
      · rw [decide_eq_false e, if_neg (by decide)]
        unfold beginF noteF
        simp only [hc.1, hc.2]
        all_goals (first | rfl | omega | (simp; omega) | simp)
/-- a row is one cluster, flags go two by two -/
theorem mrow_brk {k n : Int} {f : Nat → Int} (hf : ∀ i, i < (mrow k n).length → f i = gl (mrow k n) i) (hk : k = 0 ∨ k = 1 ∨ k = 2 ∨ k = 3 ∨ k = 4 ∨ k = 5 ∨ k = 6 ∨ k = 7) (i : Nat) (h0 : 0 < i) (hi : i < (mrow k n).length) :
    brkB f i = (decide (k = 5) && decide (i % 2 = 0)) := by
  rw [brkB_congr (g := gl (mrow k n)) i (fun j hj => hf j (by omega))]
  by_cases h5 : k = 5
  · subst h5
    have hm : mrow 5 n = lst mflag n.toNat := by unfold mrow; simp
    rw [hm] at hi ⊢
    rw [lst_len] at hi
    rw [brkB_congr (f := gl (lst mflag n.toNat)) (g := mflag) i (fun j hj => lst_getD mflag n.toNat j (by omega)), (flag_run i (fun j _ => mflag_class j)).1]
    simp
  · rw [decide_eq_false h5, Bool.false_and]
    have key : ∀ l : List Int, ((List.range l.length).all fun i => i == 0 || !brkB (gl l) i) = true → i < l.length → brkB (gl l) i = false := by
      intro l h hi
      rw [List.all_eq_true] at h
      have := h i (List.mem_range.2 hi)
      simp at this
      rcases this with h | h
      · omega
      · exact h
    rcases hk with rfl | rfl | rfl | rfl | rfl | rfl | rfl | rfl
    · have hm : mrow 0 n = [13, 10] := by unfold mrow; simp
      rw [hm] at hi ⊢
      exact key _ (by decide +kernel) hi
    · have hm : mrow 1 n = [101, 769, 776, 8205] := by unfold mrow; simp
      rw [hm] at hi ⊢
      exact key _ (by decide +kernel) hi
    · have hm : mrow 2 n = [128104, 8205, 128105, 65039, 8205, 128102] := by unfold mrow; simp
      rw [hm] at hi ⊢
      exact key _ (by decide +kernel) hi
    · have hm : mrow 3 n = [4352, 4449, 4520] := by unfold mrow; simp
      rw [hm] at hi ⊢
      exact key _ (by decide +kernel) hi
    · have hm : mrow 4 n = [2325, 2364, 2381, 2359, 2381, 8205, 2352, 2366] := by unfold mrow; simp
      rw [hm] at hi ⊢
      exact key _ (by decide +kernel) hi
    · exact absurd rfl h5
    · have hm : mrow 6 n = [1536, 49, 769] := by unfold mrow; simp
      rw [hm] at hi ⊢
      exact key _ (by decide +kernel) hi
    · have hm : mrow 7 n = [44032, 4449, 4520, 4520] := by unfold mrow; simp
      rw [hm] at hi ⊢
      exact key _ (by decide +kernel) hi
theorem mrow_len (k n : Int) (hn : n ≤ 64) : (mrow k n).length ≤ 64 := by
  unfold mrow
  repeat' split
  all_goals (first | decide | (rw [lst_len]; omega))
theorem own_lit (w : World) (cs : Array Value) (l : List Int) (n : Nat) (hn : n = l.length) (hc : cs.toList = l.map (Value.int .i64)) (hm : n ≤ maxLen) : OwnInts (w.alloc (.cells cs 3)) w.heap.size (.slice (some ⟨w.heap.size, 0, none⟩) n n) l := by
  subst hn
  have := World.ownsRow_lit (e := 3) (size := 1) w cs l.length (Nat.le_refl _) hm (by rw [← Array.length_toList, hc]; simp)
  unfold OwnInts
  rw [← hc]; exact this
set_option maxHeartbeats 2000000 in
theorem meant_any (k n : Int) (w : World) (hn : 0 ≤ n) (hn' : n ≤ 64) (hk : k = 0 ∨ k = 1 ∨ k = 2 ∨ k = 3 ∨ k = 4 ∨ k = 5 ∨ k = 6 ∨ k = 7) :
    Calls Try.prog 23 #[.int .i64 k, .int .i64 n] w fun e w' => ∃ s c m, m = (mrow k n).length ∧ e = .returned (.slice s m c) ∧ IsInts w' s m (gl (mrow k n)) ∧ Below w.heap.size w w' := by
  have fin : ∀ (w' : World) (v : Value) (l : List Int), mrow k n = l → OwnInts w' w.heap.size v l → Below w.heap.size w w' → ∃ s c m, m = (mrow k n).length ∧ Ending.returned v = .returned (.slice s m c) ∧ IsInts w' s m (gl (mrow k n)) ∧ Below w.heap.size w w' := by
    intro w' v l he ho hb
    rw [he]
    obtain ⟨s, c, rfl, _, hi⟩ := (own_gl ho).ints
    exact ⟨s, c, _, rfl, rfl, hi, hb⟩
  rcases hk with rfl | rfl | rfl | rfl | rfl | rfl | rfl | rfl
  · go_enter Try.func23, Try.ntmps23
    go_wp2
    go_ret
    exact fin _ _ _ (by unfold mrow; simp) (own_lit w _ [13, 10] 2 rfl rfl (by unfold maxLen; omega)) ((Below.refl _ _).alloc (Nat.le_refl _) _)
  · go_enter Try.func23, Try.ntmps23
    go_wp2
    go_ret
    exact fin _ _ _ (by unfold mrow; simp) (own_lit w _ [101, 769, 776, 8205] 4 rfl rfl (by unfold maxLen; omega)) ((Below.refl _ _).alloc (Nat.le_refl _) _)
  · go_enter Try.func23, Try.ntmps23
    go_wp2
    go_ret
    exact fin _ _ _ (by unfold mrow; simp) (own_lit w _ [128104, 8205, 128105, 65039, 8205, 128102] 6 rfl rfl (by unfold maxLen; omega)) ((Below.refl _ _).alloc (Nat.le_refl _) _)
  · go_enter Try.func23, Try.ntmps23
    go_wp2
    go_ret
    exact fin _ _ _ (by unfold mrow; simp) (own_lit w _ [4352, 4449, 4520] 3 rfl rfl (by unfold maxLen; omega)) ((Below.refl _ _).alloc (Nat.le_refl _) _)
  · go_enter Try.func23, Try.ntmps23
    go_wp2
    go_ret
    exact fin _ _ _ (by unfold mrow; simp) (own_lit w _ [2325, 2364, 2381, 2359, 2381, 8205, 2352, 2366] 8 rfl rfl (by unfold maxLen; omega)) ((Below.refl _ _).alloc (Nat.le_refl _) _)
  · have hm : mrow 5 n = lst mflag n.toNat := by unfold mrow; simp
    obtain ⟨N, rfl⟩ : ∃ N : Nat, n = N := ⟨n.toNat, by omega⟩
    rw [Int.toNat_natCast] at hm
    have HMM := Lib.hid hm
    have FIN := Lib.hid fin
    clear hm fin
    obtain ⟨i0, hi, hz0, hz1, hz2⟩ := info_parts Try.infoInt
    go_enter Try.func23, Try.ntmps23
    go_wp2_with fail
    go_loopg [5, 6] N (fun gg v i wr => ∃ k : Nat, ∃ sl : Option Addr, ∃ n' c : Nat, k + gg = N ∧ n' = k ∧ v = .slice sl n' c ∧ i = .int .i64 k ∧ OwnInts wr w.heap.size (.slice sl n' c) (lst mflag k) ∧ Below w.heap.size w wr)
    case atStart => exact ⟨0, none, 0, 0, by omega, rfl, rfl, rfl, OwnInts.nil _ _, Below.refl _ _⟩
    case round =>
      obtain ⟨k, sl, n', c, hk, hn, rfl, rfl, ho, hb⟩ := hrel
      have HO := Lib.hid ho
      have HB := Lib.hid hb
      have hbw : w.heap.size ≤ wr.heap.size := hb.size
      have HN := Lib.hid hn
      clear ho hb hn
      by_cases hlt : k < N
      · have hF : lst mflag k ++ [127462 + (k : Int) % 26] = lst mflag (k + 1) := by rw [lst_succ]; rfl
        have HF := Lib.hid hF
        clear hF
        go_wp2_with (first | (at_builtin; refine wpList_append_own _ rfl _ _ 22 rfl w.heap.size 3 i0 (.int .i64 0) 1 8 Try.underlying22 hi hz0 hz1 hz2 rfl (by decide) _ _ _ rfl (HO.out.alloc _) ⟨wr.heap.size, 0, none⟩ 1 1 [.int .i64 (127462 + (k : Int) % 26)] rfl rfl (cell_one_new _ _ _) (ints_oneCell _ [(127462 + (k : Int) % 26)]) (by rw [lst_len]; unfold maxLen; omega) (by rw [lst_len]; omega) (by simp; omega) ?_; intro v' w1 hown' hgrow _; obtain ⟨hp1, hp2, hp3, s', n2, c', rfl, hn2⟩ := own_push2 HO.out hown' hgrow hbw; have HM := Lib.hid hn2; have HP := Lib.hid (OwnInts.as hp1 HF.out); have HB2 := Lib.hid (HB.out.trans hp2); clear hp1 hp2 hp3 hn2 hown' hgrow))
        go_wp2
        go_roundg (gk - 1)
        case measure => omega
        case rel => exact ⟨k + 1, _, _, _, by omega, by have h := HM.out; rw [lst_len] at h; exact h, rfl, by go_num, HP.out, HB2.out⟩
      · have hkl : k = N := by omega
        subst hkl
        go_wp2
        go_ret
        exact FIN.out _ _ _ HMM.out HO.out HB.out
  · go_enter Try.func23, Try.ntmps23
    go_wp2
    go_ret
    exact fin _ _ _ (by unfold mrow; simp) (own_lit w _ [1536, 49, 769] 3 rfl rfl (by unfold maxLen; omega)) ((Below.refl _ _).alloc (Nat.le_refl _) _)
  · go_enter Try.func23, Try.ntmps23
    go_wp2
    go_ret
    exact fin _ _ _ (by unfold mrow; simp) (own_lit w _ [44032, 4449, 4520, 4520] 4 rfl rfl (by unfold maxLen; omega)) ((Below.refl _ _).alloc (Nat.le_refl _) _)
end Go.Proofs.Ytpipcmbfdcbboaa
