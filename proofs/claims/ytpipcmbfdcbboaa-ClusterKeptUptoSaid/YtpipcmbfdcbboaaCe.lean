/- Contract: cluster.walk, whatever it calls. What it leans on: what is said of the function that it is handed (hY), that what that one keeps stays while new memory is made (hI). -/
import Derived.Test.YtpipcmbfdcbboaaCc
import Derived.Test.YtpipcmbfdcbboaaCd
namespace Go.Proofs.Ytpipcmbfdcbboaa
open Go.RowKit
theorem one_new (w : World) (o : Obj) : (w.alloc o).heap[w.heap.size]? = some o := by
  show (w.heap.push o)[w.heap.size]? = _
  simp
theorem begin_flags (a : Int) : 0 ≤ (beginF a).flags ∧ (beginF a).flags ≤ 1 := by
  unfold beginF noteF
  dsimp only
  split <;> simp
theorem take_flags (s : Sc) (a : Int) (h : 0 ≤ s.flags) : 0 ≤ (takeF s a).flags ∧ (takeF s a).flags ≤ s.flags + 1 := by
  unfold takeF noteF
  split
  · dsimp only
    split <;> omega
  · omega
theorem ext_step {f : Nat → Int} {n j : Nat} (s : Sc) (h : j < n) : extK f (n - j) s j = if joinsB s (classF (f j)) (conjF (f j)) then extK f (n - (j + 1)) (takeF s (f j)) (j + 1) else j := by
  rw [show n - j = n - (j + 1) + 1 from by omega]; rfl
theorem ext_end {f : Nat → Int} {n j : Nat} (s : Sc) (h : j = n) : extK f (n - j) s j = n := by
  subst h; rw [Nat.sub_self]; rfl
theorem run_next {σ : Type} (Y : σ → Nat → σ × Bool) (s : σ) (f : Nat → Int) (n k j : Nat) (h : k < n) (hj : nextB f n k = j) :
    runY Y s (bounds f n k) = if (Y s j).2 then runY Y (Y s j).1 (bounds f n j) else (Y s j).1 := by
  rw [bounds_step f n k h, hj]; rfl
theorem run_last {σ : Type} (Y : σ → Nat → σ × Bool) (s : σ) (f : Nat → Int) (n k : Nat) (h : k < n) (hj : nextB f n k = n) :
    runY Y s (bounds f n k) = (Y s n).1 := by
  rw [run_next Y s f n k n h hj, bounds_end f n n (Nat.le_refl _)]
  split <;> rfl
set_option maxRecDepth 100000 in
set_option maxHeartbeats 8000000 in
theorem walk_at {σ : Type} (Inv : Nat → σ → World → Prop) (Y : σ → Nat → σ × Bool) (w00 : World) (fid : FuncId) (caps : Array Value) (len scap : Nat) (f : Nat → Int) (sa : Option Addr)
    (hY : ∀ i s k w, i < k → k ≤ len → Inv i s w → Below w00.heap.size w00 w → Calls Try.prog fid (#[.int .i64 k] ++ caps) w fun e w' => e = .returned (.bool (Y s k).2) ∧ Inv k (Y s k).1 w' ∧ Below w00.heap.size w00 w')
    (hI : ∀ i s w w', Inv i s w → Below w.heap.size w w' → Inv i s w')
    (eg : ∀ (args : Array Value) (w : World), (callFunc fid args).run Try.prog w = .ok (.enter fid args) w) (hr : IsInts w00 sa len f) (hl : len ≤ maxLen) (i0 : Nat) (hi0 : i0 ≤ len) (s0 : σ) (w : World) (h0 : Inv i0 s0 w) (hb0 : Below w00.heap.size w00 w) :
    Calls Try.prog 34 #[.slice sa len scap, .int .i64 i0, .func (.func fid) #[] caps] w fun e w' => e = .returned (.tuple #[]) ∧ (∃ i, i ≤ len ∧ Inv i (runY Y s0 (bounds f len i0)) w') ∧ Below w00.heap.size w00 w' := by
  unfold maxLen at hl
  have HY := Lib.hid hY
  have HI := Lib.hid hI
  have HR := Lib.hid hr
  have H0 := Lib.hid h0
  have HB0 := Lib.hid hb0
  clear hY hI hr h0 hb0
  go_enter Try.func34, Try.ntmps34
  go_wp2
  go_step3
  go_wp2
  go_step3
  go_wp2_with fail
  go_loopg [6] (len - i0) (fun g at0 wr => ∃ k : Nat, ∃ s : σ, k ≤ len ∧ k + g = len ∧ at0 = .int .i64 k ∧ Inv k s wr ∧ Below w00.heap.size w00 wr ∧ runY Y s (bounds f len k) = runY Y s0 (bounds f len i0))
  case atStart => exact ⟨i0, s0, hi0, (by omega), (by first | rfl | go_num), H0.out, HB0.out, rfl⟩
  case round =>
    obtain ⟨k, s, hk, hkg, rfl, hi, hb, he⟩ := hrel
    have HI0 := Lib.hid hi
    have HB := Lib.hid hb
    have HE := Lib.hid he
    clear hi hb he H0 HB0
    by_cases hlt : k < len
    · obtain ⟨b, off, rfl, hcell⟩ := HR.out.at HB.out hlt
      obtain ⟨a, ha⟩ : ∃ a, f k = a := ⟨_, rfl⟩
      rw [ha] at hcell
      have HA := Lib.hid ha
      clear ha
      go_wp2_with fail
      refine (begin_any _ _).mono ?_
      rintro e w1 ⟨rfl, hb1⟩
      go_wp2_with fail
      have hg1 := begin_flags a
      have HS0 := Lib.hid (show IsScan (w1.alloc (.cells #[.int .i64 (beginF a).last, .int .i64 (beginF a).flags, .int .i64 (beginF a).pict, .int .i64 (beginF a).conj] 52)) w1.heap.size (beginF a) from one_new w1 _)
      have HN := Lib.hid (HI0.out)
      have HB1 := Lib.hid (bt HB.out hb1)
      have HI1 := Lib.hid (HI.out k s wr w1 HI0.out hb1)
      have HW := Lib.hid (show Below w1.heap.size w1 (w1.alloc (.cells #[.int .i64 (beginF a).last, .int .i64 (beginF a).flags, .int .i64 (beginF a).pict, .int .i64 (beginF a).conj] 52)) from (Below.refl _ _).alloc (Nat.le_refl _) _)
      have HX := Lib.hid (show extK f (len - (k + 1)) (beginF a) (k + 1) = nextB f len k by rw [← HA.out]; rfl)
      clear hb1 HB HI0 HN hcell
      generalize (beginF a) = sc0 at *
      generalize hwa : (w1.alloc _) = wa at *
      clear hwa
      go_loopg [6, 8] (len - (k + 1)) (fun g2 a0 kk wr2 => ∃ j : Nat, ∃ sc : Sc, k < j ∧ j ≤ len ∧ j + g2 = len ∧ a0 = .int .i64 k ∧ kk = .int .i64 j ∧ IsScan wr2 w1.heap.size sc ∧ 0 ≤ sc.flags ∧ sc.flags ≤ j ∧ Below w1.heap.size w1 wr2 ∧ extK f (len - j) sc j = nextB f len k)
      case atStart => exact ⟨k + 1, sc0, by omega, by omega, by omega, by first | rfl | go_num, by first | rfl | go_num, HS0.out, hg1.1, by omega, HW.out, HX.out⟩
      case round =>
        obtain ⟨j, sc, hkj, hj, hjg, rfl, rfl, hs, hf, hf', hb, hx⟩ := hrel
        have HS := Lib.hid hs
        have HF := Lib.hid (And.intro hf hf')
        have HB2 := Lib.hid hb
        have HX2 := Lib.hid hx
        clear hs hf hf' hb hx HS0 HW HX hg1
        by_cases hlj : j < len
        · obtain ⟨b', off', hab', hcell⟩ := HR.out.at (HB1.out.trans (HB2.out.mono HB1.out.size)) hlj
          cases hab'
          obtain ⟨a', ha'⟩ : ∃ a', f j = a' := ⟨_, rfl⟩
          rw [ha'] at hcell
          have HA' := Lib.hid ha'
          clear ha'
          go_wp2_with fail
          refine (takes_any _ _ _ _ HS.out HF.out.1 (by have := HF.out.2; omega)).mono ?_
          rintro e w2 ⟨rfl, hs2, hb2⟩
          have HS2 := Lib.hid hs2
          have HB3 := Lib.hid (HB2.out.trans hb2)
          have HF2 := Lib.hid (take_flags sc a' HF.out.1)
          have HX3 := HX2.out
          rw [ext_step sc hlj, HA'.out] at HX3
          clear hs2 hb2 HS hcell
          cases hjo : joinsB sc (classF a') (conjF a')
          · rw [hjo, if_neg (by decide)] at HX3
            have HX4 := run_next Y s f len k j hlt HX3.symm
            clear HX3 hjo
            have HI2 := Lib.hid (HI.out k s w1 w2 HI1.out HB3.out)
            have HB4 := Lib.hid (HB1.out.trans (HB3.out.mono HB1.out.size))
            go_wp2_with fail
            refine (HY.out k s j w2 (by omega) (by omega) HI2.out HB4.out).mono ?_
            rintro e w3 ⟨rfl, hi3, hb3⟩
            have HI3 := Lib.hid hi3
            have HB5 := Lib.hid hb3
            clear hi3 hb3
            cases hyy : (Y s j).2
            · rw [hyy, if_neg (by decide)] at HX4
              go_wp2
              rw [Exit.noGoto_normal]
              go_end0
              exact ⟨rfl, ⟨j, by omega, by rw [← HE.out, HX4]; exact HI3.out⟩, HB5.out⟩
            · rw [hyy, if_pos rfl] at HX4
              go_wp2
              go_roundg gk
              case measure => omega
              case rel => exact ⟨j, (Y s j).1, by omega, by omega, rfl, HI3.out, HB5.out, by rw [← HE.out]; exact HX4.symm⟩
          · rw [hjo, if_pos rfl] at HX3
            have HX4 := Lib.hid HX3
            clear HX3 hjo
            go_wp2
            go_roundg (gk - 1)
            case measure => omega
            case rel => exact ⟨j + 1, takeF sc a', by omega, by omega, by omega, rfl, by go_num, HS2.out, HF2.out.1, by have := HF2.out.2; have := HF.out.2; omega, HB3.out, HX4.out⟩
        · have hjn : j = len := by omega
          subst hjn
          have HX3 := HX2.out
          rw [ext_end sc rfl] at HX3
          have HX4 := Lib.hid (run_last Y s f j k hlt HX3.symm)
          clear HX3
          have HI2 := Lib.hid (HI.out k s w1 wr HI1.out HB2.out)
          have HB4 := Lib.hid (HB1.out.trans (HB2.out.mono HB1.out.size))
          go_wp2_with fail
          refine (HY.out k s j wr (by omega) (by omega) HI2.out HB4.out).mono ?_
          rintro e w3 ⟨rfl, hi3, hb3⟩
          have HI3 := Lib.hid hi3
          have HB5 := Lib.hid hb3
          clear hi3 hb3
          go_wp2
          rw [Exit.noGoto_normal]
          go_end0
          exact ⟨rfl, ⟨j, by omega, by rw [← HE.out, HX4.out]; exact HI3.out⟩, HB5.out⟩
    · go_wp2
      rw [Exit.noGoto_normal]
      go_end0
      refine ⟨rfl, ⟨k, hk, ?_⟩, HB.out⟩
      rw [← HE.out, bounds_end f len k (by omega)]
      exact HI0.out
theorem walk_any {σ : Type} (Inv : σ → World → Prop) (Y : σ → Nat → σ × Bool) (w00 : World) (fid : FuncId) (caps : Array Value) (len scap : Nat) (f : Nat → Int) (sa : Option Addr)
    (hY : ∀ s k w, k ≤ len → Inv s w → Below w00.heap.size w00 w → Calls Try.prog fid (#[.int .i64 k] ++ caps) w fun e w' => e = .returned (.bool (Y s k).2) ∧ Inv (Y s k).1 w' ∧ Below w00.heap.size w00 w')
    (hI : ∀ s w w', Inv s w → Below w.heap.size w w' → Inv s w')
    (eg : ∀ (args : Array Value) (w : World), (callFunc fid args).run Try.prog w = .ok (.enter fid args) w) (hr : IsInts w00 sa len f) (hl : len ≤ maxLen) (i0 : Nat) (hi0 : i0 ≤ len) (s0 : σ) (w : World) (h0 : Inv s0 w) (hb0 : Below w00.heap.size w00 w) :
    Calls Try.prog 34 #[.slice sa len scap, .int .i64 i0, .func (.func fid) #[] caps] w fun e w' => e = .returned (.tuple #[]) ∧ Inv (runY Y s0 (bounds f len i0)) w' ∧ Below w00.heap.size w00 w' := by
  refine (walk_at (fun _ => Inv) Y w00 fid caps len scap f sa (fun _ s k w _ => hY s k w) (fun _ => hI) eg hr hl i0 hi0 s0 w h0 hb0).mono ?_
  rintro e w' ⟨h1, ⟨_, _, h2⟩, h3⟩
  exact ⟨h1, h2, h3⟩
end Go.Proofs.Ytpipcmbfdcbboaa
