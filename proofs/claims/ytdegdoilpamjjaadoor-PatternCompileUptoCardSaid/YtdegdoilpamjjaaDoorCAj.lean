/- Contract of the pattern's reader: thing, above inside. Condition: no more than 2^30 ints. -/
import Derived.Test.YtdegdoilpamjjaaDoorCAi
namespace Go.Proofs.YtdegdoilpamjjaaDoor
open Go.RowKit
set_option linter.unusedVariables false
set_option linter.unusedSimpArgs false
theorem letP_B (c : Int) : letB c = letP c := by
 unfold letB letP
 by_cases h1 : 48 ≤ c ∧ c ≤ 57
 · simp [h1]
 ·
  by_cases h2 : 97 ≤ c ∧ c ≤ 122
  · simp [h1, h2]
  · simp [h1, h2]
theorem NdR.drew {w : World} {B E : Nat} {v : Value} {n : Nd} (h : NdR w B E v n) : NdR w.drew B E v n := h.keep (w' := w.drew) (fun _ _ _ => rfl)
theorem RdM.group {w : World} {rb : Nat} {sl : Option Addr} {n c : Nat} {src : List Int} {s : RS} {fold : Bool} (h : RdM w rb sl n c src s fold) (g : Nat) :
  RdM (w.setCell ⟨rb, 2, none⟩ (.int .i64 (g : Int))) rb sl n c src { s with groups := g } fold :=
 h.touch (Touch.setCell (fun b => b = rb) w (p := ⟨rb, 2, none⟩) rfl _) (by unfold RdB; rw [block_set _ h.blk]; rfl) h.at'
set_option maxRecDepth 100000 in
set_option maxHeartbeats 16000000 in
theorem thing_c (rb : Nat) (sl : Option Addr) (n c : Nat) (src : List Int) (s : RS) (fold : Bool) (w : World) (f : Nat) (h : RdM w rb sl n c src s fold) (hn : n < 900000) (hg9 : s.groups ≤ 9)
  (hI : ∀ (k : Nat) (s' : RS) (w' : World), RdM w' rb sl n c src s' fold → s.at' + 2 ≤ s'.at' → s'.groups ≤ 9 → Calls Tryd.prog 83 #[.pointer (some ⟨rb, 0, none⟩), .int .i64 k] w' (RdP w' rb sl n c src fold (insP src fold f k s') (fun x w'' v => NdR w'' w'.heap.size w''.heap.size v x))) :
  Calls Tryd.prog 70 #[.pointer (some ⟨rb, 0, none⟩)] w (RdP w rb sl n c src fold (thingP src fold (f + 1) s) (fun x w' v => NdR w' w.heap.size w'.heap.size v x)) := by
 obtain ⟨RR, hRR⟩ : ∃ RR, thingP src fold (f + 1) s = RR := ⟨_, rfl⟩
 rw [hRR]
 have HRR := Lib.hid hRR
 have HI := Lib.hid hI
 have HR := Lib.hid h
 clear hRR hI h
 go_enter Tryd.func70, Tryd.ntmps70
 go_wp2_with fail
 refine (next_c rb sl n c src s fold w HR.out).mono ?_
 generalize hnx : nx src s = N1
 rintro e w2 ⟨ht2, h2⟩
 have HT2 := Lib.hid ht2
 clear ht2
 cases N1 with
 | error kk =>
  simp only at h2
  subst h2
  have HRES := Lib.hid (show RR = .error kk from by rw [← HRR.out, thingP]; simp [hnx])
  go_wp2
  refine ⟨rfl, HT2.out, ?_⟩
  rw [HRES.out]
  try rfl
 | ok q =>
  obtain ⟨c1, s1⟩ := q
  obtain ⟨⟨v1, rfl, rfl⟩, hr2⟩ := h2
  have Hs1 := Lib.hid (show 1 ≤ s1.at' from by have := (nx_more hnx).1; omega)
  have HS1 := Lib.hid (show s.at' + 1 = s1.at' from (nx_more hnx).1.symm)
  have HR2 := Lib.hid hr2
  have HNX := Lib.hid hnx
  clear hr2 hnx
  by_cases h42 : c1 = 42
  ·
   subst h42
   have HRES := Lib.hid (show RR = .error (s1.at' - 1) from by rw [← HRR.out, thingP]; simp [HNX.out])
   have b1 : w2.cell? ⟨rb, 1, none⟩ = some (.int .i64 s1.at') := block_cell HR2.out.blk
   have q7 : IntKind.i64.wrap ((s1.at' : Int) - 1) = ((s1.at' - 1 : Nat) : Int) := by have := HR2.out.n30; have := HR2.out.at'; have := Hs1.out; rw [IntKind.wrap_i64]; omega
   go_wp2
   refine ⟨rfl, HT2.out, ?_⟩
   rw [HRES.out]
   try rfl
  ·
   have n42 : (c1 == 42) = false := by rw [beq_eq_false_iff_ne]; exact h42
   by_cases h46 : c1 = 46
   ·
    subst h46
    have HRES := Lib.hid (show RR = .ok (.set [] [] true false, s1) from by rw [← HRR.out, thingP]; simp [HNX.out])
    have HB := Lib.hid (below_newJ w2 (.cells #[.slice none 0 0, .slice none 0 0, .bool true, .bool false] 135))
    have HN := Lib.hid (setR w2 (w2.alloc (.cells #[.slice none 0 0, .slice none 0 0, .bool true, .bool false] 135)) true false _ _ [] [] w2.heap.size (Nat.le_refl _) (one_new w2 _) (SlR.nil _ _ _ _) (SlR.nil _ _ _ _))
    go_wp2
    go_ret
    rw [HRES.out]
    exact ⟨HT2.out.trans (Touch.of (O := fun b => b = rb) HB.out) (fun x hx => .inl hx), ⟨_, rfl, HN.out.wide HT2.out.size (Nat.le_refl _)⟩, HR2.out.later HB.out⟩
   ·
    have n46 : (c1 == 46) = false := by rw [beq_eq_false_iff_ne]; exact h46
    by_cases h91 : c1 = 91
    ·
     subst h91
     have HRES := Lib.hid (show RR = classP src fold s1 from by rw [← HRR.out, thingP]; simp [HNX.out])
     go_wp2_with fail
     refine (class_c rb sl n c src s1 fold w2 HR2.out hn).mono ?_
     rw [← HRES.out]
     rintro e w3 ⟨ht3, h3⟩
     have HT3 := Lib.hid (HT2.out.trans ht3 (fun x hx => .inl hx))
     clear ht3
     rcases hRR : RR with kk | ⟨x, s3⟩
     ·
      rw [hRR] at h3
      simp only at h3
      subst h3
      go_wp2
      exact ⟨rfl, HT3.out, by rw [hRR]⟩
     ·
      rw [hRR] at h3
      obtain ⟨⟨v3, rfl, hn3⟩, hr3⟩ := h3
      have HN3 := Lib.hid (hn3.wide HT2.out.size (Nat.le_refl _))
      have HR3 := Lib.hid hr3
      clear hn3 hr3
      go_wp2
      go_ret
      refine ⟨HT3.out, ?_⟩
      rw [hRR]
      exact ⟨⟨_, rfl, HN3.out⟩, HR3.out⟩
    ·
     have n91 : (c1 == 91) = false := by rw [beq_eq_false_iff_ne]; exact h91
     by_cases h92 : c1 = 92
     case neg =>
      have n92 : (c1 == 92) = false := by rw [beq_eq_false_iff_ne]; exact h92
      have HRES := Lib.hid (show RR = .ok (oneN fold (c1), s1) from by rw [← HRR.out, thingP]; simp [HNX.out, h42, h46, h91, h92])
      go_wp2_with fail
      refine (oneR_c rb sl n c src s1 fold (c1) _ HR2.out).mono ?_
      rintro e wz ⟨v, rfl, hnz, hbz⟩
      have HPZ := Lib.hid (RdP.one HT2.out HR2.out hnz hbz)
      clear hnz hbz
      go_wp2
      go_ret
      rw [HRES.out]
      exact HPZ.out
     case pos =>
      subst h92
      clear h42 h46 h91 n42 n46 n91
      go_wp2_with fail
      refine (next_c rb sl n c src s1 fold w2 HR2.out).mono ?_
      generalize hnx2 : nx src s1 = N2
      rintro e w3 ⟨ht3, h3⟩
      have HT3 := Lib.hid (HT2.out.trans ht3 (fun x hx => .inl hx))
      clear ht3
      cases N2 with
      | error kk =>
       simp only at h3
       subst h3
       have HRES := Lib.hid (show RR = .error kk from by rw [← HRR.out, thingP]; simp [HNX.out, hnx2])
       go_wp2
       refine ⟨rfl, HT3.out, ?_⟩
       rw [HRES.out]
       try rfl
      | ok q =>
       obtain ⟨c2, s2⟩ := q
       obtain ⟨⟨v2, rfl, rfl⟩, hr3⟩ := h3
       have Hs2 := Lib.hid (show 1 ≤ s2.at' from by have := (nx_more hnx2).1; omega)
       have HS2 := Lib.hid (show s1.at' + 1 = s2.at' from (nx_more hnx2).1.symm)
       have HR3 := Lib.hid hr3
       have HNX2 := Lib.hid hnx2
       have HG2 := Lib.hid (show s2.groups ≤ 9 from by rw [(nx_more hnx2).2, (nx_more HNX.out).2]; exact hg9)
       clear hr3 hnx2
       by_cases k40 : c2 = 40
       case pos =>
        subst k40
        have r2 : w3.cell? ⟨rb, 2, none⟩ = some (.int .i64 s2.groups) := block_cell HR3.out.blk
        have f2 : w3.frozen? ⟨rb, 2, none⟩ = false := block_free HR3.out.blk
        by_cases hg : s2.groups = 9
        ·
         have e9 : ((s2.groups : Int) == 9) = true := by rw [hg]; rfl
         have HRES := Lib.hid (show RR = .error (s2.at' - 1) from by rw [← HRR.out, thingP]; simp [HNX.out, HNX2.out, hg])
         have b1 : w3.cell? ⟨rb, 1, none⟩ = some (.int .i64 s2.at') := block_cell HR3.out.blk
         have q7 : IntKind.i64.wrap ((s2.at' : Int) - 1) = ((s2.at' - 1 : Nat) : Int) := by have := HR3.out.n30; have := HR3.out.at'; have := Hs2.out; rw [IntKind.wrap_i64]; omega
         go_wp2
         refine ⟨rfl, HT3.out, ?_⟩
         rw [HRES.out]
         try rfl
        ·
         have e9 : ((s2.groups : Int) == 9) = false := by rw [beq_eq_false_iff_ne]; omega
         have q9 : IntKind.i64.wrap ((s2.groups : Int) + 1) = ((s2.groups + 1 : Nat) : Int) := by have := HG2.out; rw [IntKind.wrap_i64]; omega
         have HRG := Lib.hid (HR3.out.group (s2.groups + 1))
         have HTG := Lib.hid (HT3.out.trans (Touch.setCell (fun b => b = rb) w3 (p := ⟨rb, 2, none⟩) rfl (.int .i64 ((s2.groups + 1 : Nat) : Int))) (fun x hx => .inl hx))
         go_upto_region 17 with (fail)
         rw [show ((s2.groups : Int) + 1) = ((s2.groups + 1 : Nat) : Int) from by omega]
         generalize w3.setCell ⟨rb, 2, none⟩ (.int .i64 ((s2.groups + 1 : Nat) : Int)) = w4 at HRG HTG ⊢
         clear r2 f2 q9
         have r2 : w4.cell? ⟨rb, 2, none⟩ = some (.int .i64 ((s2.groups + 1 : Nat) : Int)) := block_cell HRG.out.blk
         have HRES := Lib.hid (show RR = insP src fold f ((s2.groups + 1 : Nat) : Int) { s2 with groups := s2.groups + 1 } from by rw [← HRR.out, thingP]; simp [HNX.out, HNX2.out, hg])
         go_wp2_with fail
         refine (HI.out (s2.groups + 1) { s2 with groups := s2.groups + 1 } w4 HRG.out (by have := HS1.out; have := HS2.out; show s.at' + 2 ≤ s2.at'; omega) (by have := HG2.out; show s2.groups + 1 ≤ 9; omega)).mono ?_
         rw [← HRES.out]
         rintro e wz ⟨htz, hz⟩
         have HTZ := Lib.hid (HTG.out.trans htz (fun x hx => .inl hx))
         clear htz
         rcases hRR : RR with kk | ⟨x, sz⟩
         ·
          rw [hRR] at hz
          simp only at hz
          subst hz
          go_wp2
          exact ⟨rfl, HTZ.out, by rw [hRR]⟩
         ·
          rw [hRR] at hz
          obtain ⟨⟨vz, rfl, hnz⟩, hrz⟩ := hz
          have HNZ := Lib.hid (hnz.wide HTG.out.size (Nat.le_refl _))
          have HRZ := Lib.hid hrz
          clear hnz hrz
          go_wp2
          go_ret
          refine ⟨HTZ.out, ?_⟩
          rw [hRR]
          exact ⟨⟨_, rfl, HNZ.out⟩, HRZ.out⟩
       case neg =>
        have n40 : (c2 == 40) = false := by rw [beq_eq_false_iff_ne]; exact k40
        by_cases k100 : c2 = 100
        case pos =>
         subst k100
         obtain ⟨fn, hkv⟩ : ∃ fn, kindV 100 = .func (.func fn) #[] #[] := ⟨_, rfl⟩
         have HKC : Hid (∀ w, Calls Tryd.prog 84 #[.int .i64 100] w fun e w' => e = .returned (.func (.func fn) #[] #[]) ∧ w' = w) := Lib.hid (fun w => by rw [← hkv]; exact kind_c 100 w)
         have b3 : w3.cell? ⟨rb, 3, none⟩ = some (.bool fold) := block_cell HR3.out.blk
         have b3n : (w3.alloc (.cells #[.func (.func fn) #[] #[]] 97)).cell? ⟨rb, 3, none⟩ = some (.bool fold) := block_cell (HR3.out.later (below_newJ _ _)).blk
         have HRES := Lib.hid (show RR = .ok (.set [] [100] false fold, s2) from by rw [← HRR.out, thingP]; simp [HNX.out, HNX2.out])
         have hnew := kindR_new w3 _ 100 false fold rfl _ rfl
         rw [hkv] at hnew
         have HNEW := Lib.hid hnew
         clear hnew hkv
         go_wp2_with fail
         go_region_law (first
          | (go_simp; go_at_call 84; refine (HKC.out _).mono ?_; rintro e wq ⟨rfl, hq⟩; subst hq))
         all_goals
          go_wp2
          go_ret
          rw [HRES.out]
          exact ⟨HT3.out.trans (Touch.of (O := fun b => b = rb) HNEW.out.2.drew) (fun x hx => .inl hx), ⟨_, rfl, HNEW.out.1.drew.wide HT3.out.size (Nat.le_refl _)⟩, HR3.out.later HNEW.out.2.drew⟩
        case neg =>
         have n100 : (c2 == 100) = false := by rw [beq_eq_false_iff_ne]; exact k100
         by_cases k115 : c2 = 115
         case pos =>
          subst k115
          obtain ⟨fn, hkv⟩ : ∃ fn, kindV 115 = .func (.func fn) #[] #[] := ⟨_, rfl⟩
          have HKC : Hid (∀ w, Calls Tryd.prog 84 #[.int .i64 115] w fun e w' => e = .returned (.func (.func fn) #[] #[]) ∧ w' = w) := Lib.hid (fun w => by rw [← hkv]; exact kind_c 115 w)
          have b3 : w3.cell? ⟨rb, 3, none⟩ = some (.bool fold) := block_cell HR3.out.blk
          have b3n : (w3.alloc (.cells #[.func (.func fn) #[] #[]] 97)).cell? ⟨rb, 3, none⟩ = some (.bool fold) := block_cell (HR3.out.later (below_newJ _ _)).blk
          have HRES := Lib.hid (show RR = .ok (.set [] [115] false fold, s2) from by rw [← HRR.out, thingP]; simp [HNX.out, HNX2.out])
          have hnew := kindR_new w3 _ 115 false fold rfl _ rfl
          rw [hkv] at hnew
          have HNEW := Lib.hid hnew
          clear hnew hkv
          go_wp2_with fail
          go_region_law (first
           | (go_simp; go_at_call 84; refine (HKC.out _).mono ?_; rintro e wq ⟨rfl, hq⟩; subst hq))
          all_goals
           go_wp2
           go_ret
           rw [HRES.out]
           exact ⟨HT3.out.trans (Touch.of (O := fun b => b = rb) HNEW.out.2.drew) (fun x hx => .inl hx), ⟨_, rfl, HNEW.out.1.drew.wide HT3.out.size (Nat.le_refl _)⟩, HR3.out.later HNEW.out.2.drew⟩
         case neg =>
          have n115 : (c2 == 115) = false := by rw [beq_eq_false_iff_ne]; exact k115
          by_cases k119 : c2 = 119
          case pos =>
           subst k119
           obtain ⟨fn, hkv⟩ : ∃ fn, kindV 119 = .func (.func fn) #[] #[] := ⟨_, rfl⟩
           have HKC : Hid (∀ w, Calls Tryd.prog 84 #[.int .i64 119] w fun e w' => e = .returned (.func (.func fn) #[] #[]) ∧ w' = w) := Lib.hid (fun w => by rw [← hkv]; exact kind_c 119 w)
           have b3 : w3.cell? ⟨rb, 3, none⟩ = some (.bool fold) := block_cell HR3.out.blk
           have b3n : (w3.alloc (.cells #[.func (.func fn) #[] #[]] 97)).cell? ⟨rb, 3, none⟩ = some (.bool fold) := block_cell (HR3.out.later (below_newJ _ _)).blk
           have HRES := Lib.hid (show RR = .ok (.set [] [119] false fold, s2) from by rw [← HRR.out, thingP]; simp [HNX.out, HNX2.out])
           have hnew := kindR_new w3 _ 119 false fold rfl _ rfl
           rw [hkv] at hnew
           have HNEW := Lib.hid hnew
           clear hnew hkv
           go_wp2_with fail
           go_region_law (first
            | (go_simp; go_at_call 84; refine (HKC.out _).mono ?_; rintro e wq ⟨rfl, hq⟩; subst hq))
           all_goals
            go_wp2
            go_ret
            rw [HRES.out]
            exact ⟨HT3.out.trans (Touch.of (O := fun b => b = rb) HNEW.out.2.drew) (fun x hx => .inl hx), ⟨_, rfl, HNEW.out.1.drew.wide HT3.out.size (Nat.le_refl _)⟩, HR3.out.later HNEW.out.2.drew⟩
          case neg =>
           have n119 : (c2 == 119) = false := by rw [beq_eq_false_iff_ne]; exact k119
           by_cases k108 : c2 = 108
           case pos =>
            subst k108
            obtain ⟨fn, hkv⟩ : ∃ fn, kindV 108 = .func (.func fn) #[] #[] := ⟨_, rfl⟩
            have HKC : Hid (∀ w, Calls Tryd.prog 84 #[.int .i64 108] w fun e w' => e = .returned (.func (.func fn) #[] #[]) ∧ w' = w) := Lib.hid (fun w => by rw [← hkv]; exact kind_c 108 w)
            have b3 : w3.cell? ⟨rb, 3, none⟩ = some (.bool fold) := block_cell HR3.out.blk
            have b3n : (w3.alloc (.cells #[.func (.func fn) #[] #[]] 97)).cell? ⟨rb, 3, none⟩ = some (.bool fold) := block_cell (HR3.out.later (below_newJ _ _)).blk
            have HRES := Lib.hid (show RR = .ok (.set [] [108] false fold, s2) from by rw [← HRR.out, thingP]; simp [HNX.out, HNX2.out])
            have hnew := kindR_new w3 _ 108 false fold rfl _ rfl
            rw [hkv] at hnew
            have HNEW := Lib.hid hnew
            clear hnew hkv
            go_wp2_with fail
            go_region_law (first
             | (go_simp; go_at_call 84; refine (HKC.out _).mono ?_; rintro e wq ⟨rfl, hq⟩; subst hq))
            all_goals
             go_wp2
             go_ret
             rw [HRES.out]
             exact ⟨HT3.out.trans (Touch.of (O := fun b => b = rb) HNEW.out.2.drew) (fun x hx => .inl hx), ⟨_, rfl, HNEW.out.1.drew.wide HT3.out.size (Nat.le_refl _)⟩, HR3.out.later HNEW.out.2.drew⟩
           case neg =>
            have n108 : (c2 == 108) = false := by rw [beq_eq_false_iff_ne]; exact k108
            by_cases k117 : c2 = 117
            case pos =>
             subst k117
             obtain ⟨fn, hkv⟩ : ∃ fn, kindV 117 = .func (.func fn) #[] #[] := ⟨_, rfl⟩
             have HKC : Hid (∀ w, Calls Tryd.prog 84 #[.int .i64 117] w fun e w' => e = .returned (.func (.func fn) #[] #[]) ∧ w' = w) := Lib.hid (fun w => by rw [← hkv]; exact kind_c 117 w)
             have b3 : w3.cell? ⟨rb, 3, none⟩ = some (.bool fold) := block_cell HR3.out.blk
             have b3n : (w3.alloc (.cells #[.func (.func fn) #[] #[]] 97)).cell? ⟨rb, 3, none⟩ = some (.bool fold) := block_cell (HR3.out.later (below_newJ _ _)).blk
             have HRES := Lib.hid (show RR = .ok (.set [] [117] false fold, s2) from by rw [← HRR.out, thingP]; simp [HNX.out, HNX2.out])
             have hnew := kindR_new w3 _ 117 false fold rfl _ rfl
             rw [hkv] at hnew
             have HNEW := Lib.hid hnew
             clear hnew hkv
             go_wp2_with fail
             go_region_law (first
              | (go_simp; go_at_call 84; refine (HKC.out _).mono ?_; rintro e wq ⟨rfl, hq⟩; subst hq))
             all_goals
              go_wp2
              go_ret
              rw [HRES.out]
              exact ⟨HT3.out.trans (Touch.of (O := fun b => b = rb) HNEW.out.2.drew) (fun x hx => .inl hx), ⟨_, rfl, HNEW.out.1.drew.wide HT3.out.size (Nat.le_refl _)⟩, HR3.out.later HNEW.out.2.drew⟩
            case neg =>
             have n117 : (c2 == 117) = false := by rw [beq_eq_false_iff_ne]; exact k117
             by_cases k68 : c2 = 68
             case pos =>
              subst k68
              have z1 : IntKind.i64.wrap 165 = 165 := by decide
              have z2 : IntKind.i64.wrap 100 = 100 := by decide
              obtain ⟨fn, hkv⟩ : ∃ fn, kindV 100 = .func (.func fn) #[] #[] := ⟨_, rfl⟩
              have HKC : Hid (∀ w, Calls Tryd.prog 84 #[.int .i64 100] w fun e w' => e = .returned (.func (.func fn) #[] #[]) ∧ w' = w) := Lib.hid (fun w => by rw [← hkv]; exact kind_c 100 w)
              have b3 : w3.cell? ⟨rb, 3, none⟩ = some (.bool fold) := block_cell HR3.out.blk
              have b3n : (w3.alloc (.cells #[.func (.func fn) #[] #[]] 97)).cell? ⟨rb, 3, none⟩ = some (.bool fold) := block_cell (HR3.out.later (below_newJ _ _)).blk
              have HRES := Lib.hid (show RR = .ok (.set [] [100] true fold, s2) from by rw [← HRR.out, thingP]; simp [HNX.out, HNX2.out])
              have hnew := kindR_new w3 _ 100 true fold rfl _ rfl
              rw [hkv] at hnew
              have HNEW := Lib.hid hnew
              clear hnew hkv
              go_wp2_with fail
              go_region_law (first
               | (go_simp; go_at_call 84; refine (HKC.out _).mono ?_; rintro e wq ⟨rfl, hq⟩; subst hq))
              all_goals
               go_wp2
               go_ret
               rw [HRES.out]
               exact ⟨HT3.out.trans (Touch.of (O := fun b => b = rb) HNEW.out.2.drew) (fun x hx => .inl hx), ⟨_, rfl, HNEW.out.1.drew.wide HT3.out.size (Nat.le_refl _)⟩, HR3.out.later HNEW.out.2.drew⟩
             case neg =>
              have n68 : (c2 == 68) = false := by rw [beq_eq_false_iff_ne]; exact k68
              by_cases k83 : c2 = 83
              case pos =>
               subst k83
               have z1 : IntKind.i64.wrap 180 = 180 := by decide
               have z2 : IntKind.i64.wrap 115 = 115 := by decide
               obtain ⟨fn, hkv⟩ : ∃ fn, kindV 115 = .func (.func fn) #[] #[] := ⟨_, rfl⟩
               have HKC : Hid (∀ w, Calls Tryd.prog 84 #[.int .i64 115] w fun e w' => e = .returned (.func (.func fn) #[] #[]) ∧ w' = w) := Lib.hid (fun w => by rw [← hkv]; exact kind_c 115 w)
               have b3 : w3.cell? ⟨rb, 3, none⟩ = some (.bool fold) := block_cell HR3.out.blk
               have b3n : (w3.alloc (.cells #[.func (.func fn) #[] #[]] 97)).cell? ⟨rb, 3, none⟩ = some (.bool fold) := block_cell (HR3.out.later (below_newJ _ _)).blk
               have HRES := Lib.hid (show RR = .ok (.set [] [115] true fold, s2) from by rw [← HRR.out, thingP]; simp [HNX.out, HNX2.out])
               have hnew := kindR_new w3 _ 115 true fold rfl _ rfl
               rw [hkv] at hnew
               have HNEW := Lib.hid hnew
               clear hnew hkv
               go_wp2_with fail
               go_region_law (first
                | (go_simp; go_at_call 84; refine (HKC.out _).mono ?_; rintro e wq ⟨rfl, hq⟩; subst hq))
               all_goals
                go_wp2
                go_ret
                rw [HRES.out]
                exact ⟨HT3.out.trans (Touch.of (O := fun b => b = rb) HNEW.out.2.drew) (fun x hx => .inl hx), ⟨_, rfl, HNEW.out.1.drew.wide HT3.out.size (Nat.le_refl _)⟩, HR3.out.later HNEW.out.2.drew⟩
              case neg =>
               have n83 : (c2 == 83) = false := by rw [beq_eq_false_iff_ne]; exact k83
               by_cases k87 : c2 = 87
               case pos =>
                subst k87
                have z1 : IntKind.i64.wrap 184 = 184 := by decide
                have z2 : IntKind.i64.wrap 119 = 119 := by decide
                obtain ⟨fn, hkv⟩ : ∃ fn, kindV 119 = .func (.func fn) #[] #[] := ⟨_, rfl⟩
                have HKC : Hid (∀ w, Calls Tryd.prog 84 #[.int .i64 119] w fun e w' => e = .returned (.func (.func fn) #[] #[]) ∧ w' = w) := Lib.hid (fun w => by rw [← hkv]; exact kind_c 119 w)
                have b3 : w3.cell? ⟨rb, 3, none⟩ = some (.bool fold) := block_cell HR3.out.blk
                have b3n : (w3.alloc (.cells #[.func (.func fn) #[] #[]] 97)).cell? ⟨rb, 3, none⟩ = some (.bool fold) := block_cell (HR3.out.later (below_newJ _ _)).blk
                have HRES := Lib.hid (show RR = .ok (.set [] [119] true fold, s2) from by rw [← HRR.out, thingP]; simp [HNX.out, HNX2.out])
                have hnew := kindR_new w3 _ 119 true fold rfl _ rfl
                rw [hkv] at hnew
                have HNEW := Lib.hid hnew
                clear hnew hkv
                go_wp2_with fail
                go_region_law (first
                 | (go_simp; go_at_call 84; refine (HKC.out _).mono ?_; rintro e wq ⟨rfl, hq⟩; subst hq))
                all_goals
                 go_wp2
                 go_ret
                 rw [HRES.out]
                 exact ⟨HT3.out.trans (Touch.of (O := fun b => b = rb) HNEW.out.2.drew) (fun x hx => .inl hx), ⟨_, rfl, HNEW.out.1.drew.wide HT3.out.size (Nat.le_refl _)⟩, HR3.out.later HNEW.out.2.drew⟩
               case neg =>
                have n87 : (c2 == 87) = false := by rw [beq_eq_false_iff_ne]; exact k87
                by_cases k116 : c2 = 116
                case pos =>
                 subst k116
                 have HRES := Lib.hid (show RR = .ok (oneN fold (9), s2) from by rw [← HRR.out, thingP]; simp [HNX.out, HNX2.out])
                 go_wp2_with fail
                 refine (oneR_c rb sl n c src s2 fold (9) _ HR3.out).mono ?_
                 rintro e wz ⟨v, rfl, hnz, hbz⟩
                 have HPZ := Lib.hid (RdP.one HT3.out HR3.out hnz hbz)
                 clear hnz hbz
                 go_wp2
                 go_ret
                 rw [HRES.out]
                 exact HPZ.out
                case neg =>
                 have n116 : (c2 == 116) = false := by rw [beq_eq_false_iff_ne]; exact k116
                 by_cases k101 : c2 = 101
                 case pos =>
                  subst k101
                  have HRES := Lib.hid (show RR = .ok (oneN fold (27), s2) from by rw [← HRR.out, thingP]; simp [HNX.out, HNX2.out])
                  go_wp2_with fail
                  refine (oneR_c rb sl n c src s2 fold (27) _ HR3.out).mono ?_
                  rintro e wz ⟨v, rfl, hnz, hbz⟩
                  have HPZ := Lib.hid (RdP.one HT3.out HR3.out hnz hbz)
                  clear hnz hbz
                  go_wp2
                  go_ret
                  rw [HRES.out]
                  exact HPZ.out
                 case neg =>
                  have n101 : (c2 == 101) = false := by rw [beq_eq_false_iff_ne]; exact k101
                  by_cases k120 : c2 = 120
                  case pos =>
                   subst k120
                   go_wp2_with fail
                   refine (hex_c 2 (by decide) 255 (by decide) (by decide) rb sl n c src s2 fold w3 HR3.out).mono ?_
                   generalize hhx : hexP src 255 2 0 s2 = HXR
                   rintro e w8 ⟨ht8, h8⟩
                   have HT8 := Lib.hid (HT3.out.trans ht8 (fun x hx => .inl hx))
                   clear ht8
                   cases HXR with
                   | error kk =>
                    simp only at h8
                    subst h8
                    have HRES := Lib.hid (show RR = .error kk from by rw [← HRR.out, thingP]; simp [HNX.out, HNX2.out, hhx])
                    go_wp2
                    refine ⟨rfl, HT8.out, ?_⟩
                    rw [HRES.out]
                    try rfl
                   | ok q =>
                    obtain ⟨x, s8⟩ := q
                    obtain ⟨⟨v8, rfl, rfl, hx0, hx1⟩, hr8⟩ := h8
                    have HR8 := Lib.hid hr8
                    have qx : IntKind.i64.wrap (-1 - x) = -1 - x := by rw [IntKind.wrap_i64]; omega
                    clear hr8
                    have HRES := Lib.hid (show RR = .ok (oneN fold (-1 - x), s8) from by rw [← HRR.out, thingP]; simp [HNX.out, HNX2.out, hhx])
                    go_wp2_with fail
                    refine (oneR_c rb sl n c src s8 fold (-1 - x) _ HR8.out).mono ?_
                    rintro e wz ⟨v, rfl, hnz, hbz⟩
                    have HPZ := Lib.hid (RdP.one HT8.out HR8.out hnz hbz)
                    clear hnz hbz
                    go_wp2
                    go_ret
                    rw [HRES.out]
                    exact HPZ.out
                  case neg =>
                   have n120 : (c2 == 120) = false := by rw [beq_eq_false_iff_ne]; exact k120
                   by_cases k37 : c2 = 37
                   case pos =>
                    subst k37
                    go_wp2_with fail
                    refine (next_c rb sl n c src s2 fold w3 HR3.out).mono ?_
                    generalize hnx3 : nx src s2 = N3
                    rintro e w4 ⟨ht4, h4⟩
                    have HT4 := Lib.hid (HT3.out.trans ht4 (fun x hx => .inl hx))
                    clear ht4
                    cases N3 with
                    | error kk =>
                     simp only at h4
                     subst h4
                     have HRES := Lib.hid (show RR = .error kk from by rw [← HRR.out, thingP]; simp [HNX.out, HNX2.out, hnx3])
                     go_wp2
                     refine ⟨rfl, HT4.out, ?_⟩
                     rw [HRES.out]
                     try rfl
                    | ok q =>
                     obtain ⟨c3, s3⟩ := q
                     obtain ⟨⟨v3, rfl, rfl⟩, hr4⟩ := h4
                     have Hs3 := Lib.hid (show 1 ≤ s3.at' from by have := (nx_more hnx3).1; omega)
                     have HG3 := Lib.hid (show s3.groups ≤ 9 from by rw [(nx_more hnx3).2]; exact HG2.out)
                     have HS3 := Lib.hid (show s2.at' + 1 = s3.at' from (nx_more hnx3).1.symm)
                     have HR4 := Lib.hid hr4
                     have HNX3 := Lib.hid hnx3
                     clear hr4 hnx3
                     by_cases j40 : c3 = 40
                     case pos =>
                      subst j40
                      have HRES := Lib.hid (show RR = insP src fold f ((0 : Nat) : Int) s3 from by rw [← HRR.out, thingP]; simp [HNX.out, HNX2.out, HNX3.out])
                      go_wp2_with fail
                      refine (HI.out 0 s3 w4 HR4.out (by have := HS1.out; have := HS2.out; have := HS3.out; omega) HG3.out).mono ?_
                      rw [← HRES.out]
                      rintro e wz ⟨htz, hz⟩
                      have HTZ := Lib.hid (HT4.out.trans htz (fun x hx => .inl hx))
                      clear htz
                      rcases hRR : RR with kk | ⟨x, sz⟩
                      ·
                       rw [hRR] at hz
                       simp only at hz
                       subst hz
                       go_wp2
                       exact ⟨rfl, HTZ.out, by rw [hRR]⟩
                      ·
                       rw [hRR] at hz
                       obtain ⟨⟨vz, rfl, hnz⟩, hrz⟩ := hz
                       have HNZ := Lib.hid (hnz.wide HT4.out.size (Nat.le_refl _))
                       have HRZ := Lib.hid hrz
                       clear hnz hrz
                       go_wp2
                       go_ret
                       refine ⟨HTZ.out, ?_⟩
                       rw [hRR]
                       exact ⟨⟨_, rfl, HNZ.out⟩, HRZ.out⟩
                     case neg =>
                      have m40 : (c3 == 40) = false := by rw [beq_eq_false_iff_ne]; exact j40
                      by_cases j117 : c3 = 117
                      case pos =>
                       subst j117
                       go_wp2_with fail
                       refine (hex_c 4 (by decide) 65535 (by decide) (by decide) rb sl n c src s3 fold w4 HR4.out).mono ?_
                       generalize hhx : hexP src 65535 4 0 s3 = HXR
                       rintro e w8 ⟨ht8, h8⟩
                       have HT8 := Lib.hid (HT4.out.trans ht8 (fun x hx => .inl hx))
                       clear ht8
                       cases HXR with
                       | error kk =>
                        simp only at h8
                        subst h8
                        have HRES := Lib.hid (show RR = .error kk from by rw [← HRR.out, thingP]; simp [HNX.out, HNX2.out, HNX3.out, hhx])
                        go_wp2
                        refine ⟨rfl, HT8.out, ?_⟩
                        rw [HRES.out]
                        try rfl
                       | ok q =>
                        obtain ⟨x, s8⟩ := q
                        obtain ⟨⟨v8, rfl, rfl, hx0, hx1⟩, hr8⟩ := h8
                        have HR8 := Lib.hid hr8
                        have qx : IntKind.i64.wrap (-1 - x) = -1 - x := by rw [IntKind.wrap_i64]; omega
                        clear hr8
                        have HRES := Lib.hid (show RR = .ok (oneN fold (x), s8) from by rw [← HRR.out, thingP]; simp [HNX.out, HNX2.out, HNX3.out, hhx])
                        go_wp2_with fail
                        refine (oneR_c rb sl n c src s8 fold (x) _ HR8.out).mono ?_
                        rintro e wz ⟨v, rfl, hnz, hbz⟩
                        have HPZ := Lib.hid (RdP.one HT8.out HR8.out hnz hbz)
                        clear hnz hbz
                        go_wp2
                        go_ret
                        rw [HRES.out]
                        exact HPZ.out
                      case neg =>
                       have m117 : (c3 == 117) = false := by rw [beq_eq_false_iff_ne]; exact j117
                       by_cases j85 : c3 = 85
                       case pos =>
                        subst j85
                        go_wp2_with fail
                        refine (hex_c 6 (by decide) 1114111 (by decide) (by decide) rb sl n c src s3 fold w4 HR4.out).mono ?_
                        generalize hhx : hexP src 1114111 6 0 s3 = HXR
                        rintro e w8 ⟨ht8, h8⟩
                        have HT8 := Lib.hid (HT4.out.trans ht8 (fun x hx => .inl hx))
                        clear ht8
                        cases HXR with
                        | error kk =>
                         simp only at h8
                         subst h8
                         have HRES := Lib.hid (show RR = .error kk from by rw [← HRR.out, thingP]; simp [HNX.out, HNX2.out, HNX3.out, hhx])
                         go_wp2
                         refine ⟨rfl, HT8.out, ?_⟩
                         rw [HRES.out]
                         try rfl
                        | ok q =>
                         obtain ⟨x, s8⟩ := q
                         obtain ⟨⟨v8, rfl, rfl, hx0, hx1⟩, hr8⟩ := h8
                         have HR8 := Lib.hid hr8
                         have qx : IntKind.i64.wrap (-1 - x) = -1 - x := by rw [IntKind.wrap_i64]; omega
                         clear hr8
                         have HRES := Lib.hid (show RR = .ok (oneN fold (x), s8) from by rw [← HRR.out, thingP]; simp [HNX.out, HNX2.out, HNX3.out, hhx])
                         go_wp2_with fail
                         refine (oneR_c rb sl n c src s8 fold (x) _ HR8.out).mono ?_
                         rintro e wz ⟨v, rfl, hnz, hbz⟩
                         have HPZ := Lib.hid (RdP.one HT8.out HR8.out hnz hbz)
                         clear hnz hbz
                         go_wp2
                         go_ret
                         rw [HRES.out]
                         exact HPZ.out
                       case neg =>
                        have m85 : (c3 == 85) = false := by rw [beq_eq_false_iff_ne]; exact j85
                        have HRES := Lib.hid (show RR = .error (s3.at' - 1) from by rw [← HRR.out, thingP]; simp [HNX.out, HNX2.out, HNX3.out, j40, j117, j85])
                        have b1 : w4.cell? ⟨rb, 1, none⟩ = some (.int .i64 s3.at') := block_cell HR4.out.blk
                        have q7 : IntKind.i64.wrap ((s3.at' : Int) - 1) = ((s3.at' - 1 : Nat) : Int) := by have := HR4.out.n30; have := HR4.out.at'; have := Hs3.out; rw [IntKind.wrap_i64]; omega
                        go_wp2
                        refine ⟨rfl, HT4.out, ?_⟩
                        rw [HRES.out]
                        try rfl
                   case neg =>
                    have n37 : (c2 == 37) = false := by rw [beq_eq_false_iff_ne]; exact k37
                    by_cases k41 : c2 = 41
                    case pos =>
                     subst k41
                     have HRES := Lib.hid (show RR = .error (s2.at' - 1) from by rw [← HRR.out, thingP]; simp [HNX.out, HNX2.out])
                     have b1 : w3.cell? ⟨rb, 1, none⟩ = some (.int .i64 s2.at') := block_cell HR3.out.blk
                     have q7 : IntKind.i64.wrap ((s2.at' : Int) - 1) = ((s2.at' - 1 : Nat) : Int) := by have := HR3.out.n30; have := HR3.out.at'; have := Hs2.out; rw [IntKind.wrap_i64]; omega
                     go_wp2
                     refine ⟨rfl, HT3.out, ?_⟩
                     rw [HRES.out]
                     try rfl
                    case neg =>
                     have n41 : (c2 == 41) = false := by rw [beq_eq_false_iff_ne]; exact k41
                     by_cases k124 : c2 = 124
                     case pos =>
                      subst k124
                      have HRES := Lib.hid (show RR = .error (s2.at' - 1) from by rw [← HRR.out, thingP]; simp [HNX.out, HNX2.out])
                      have b1 : w3.cell? ⟨rb, 1, none⟩ = some (.int .i64 s2.at') := block_cell HR3.out.blk
                      have q7 : IntKind.i64.wrap ((s2.at' : Int) - 1) = ((s2.at' - 1 : Nat) : Int) := by have := HR3.out.n30; have := HR3.out.at'; have := Hs2.out; rw [IntKind.wrap_i64]; omega
                      go_wp2
                      refine ⟨rfl, HT3.out, ?_⟩
                      rw [HRES.out]
                      try rfl
                     case neg =>
                      have n124 : (c2 == 124) = false := by rw [beq_eq_false_iff_ne]; exact k124
                      by_cases k43 : c2 = 43
                      case pos =>
                       subst k43
                       have HRES := Lib.hid (show RR = .error (s2.at' - 1) from by rw [← HRR.out, thingP]; simp [HNX.out, HNX2.out])
                       have b1 : w3.cell? ⟨rb, 1, none⟩ = some (.int .i64 s2.at') := block_cell HR3.out.blk
                       have q7 : IntKind.i64.wrap ((s2.at' : Int) - 1) = ((s2.at' - 1 : Nat) : Int) := by have := HR3.out.n30; have := HR3.out.at'; have := Hs2.out; rw [IntKind.wrap_i64]; omega
                       go_wp2
                       refine ⟨rfl, HT3.out, ?_⟩
                       rw [HRES.out]
                       try rfl
                      case neg =>
                       have n43 : (c2 == 43) = false := by rw [beq_eq_false_iff_ne]; exact k43
                       by_cases k63 : c2 = 63
                       case pos =>
                        subst k63
                        have HRES := Lib.hid (show RR = .error (s2.at' - 1) from by rw [← HRR.out, thingP]; simp [HNX.out, HNX2.out])
                        have b1 : w3.cell? ⟨rb, 1, none⟩ = some (.int .i64 s2.at') := block_cell HR3.out.blk
                        have q7 : IntKind.i64.wrap ((s2.at' : Int) - 1) = ((s2.at' - 1 : Nat) : Int) := by have := HR3.out.n30; have := HR3.out.at'; have := Hs2.out; rw [IntKind.wrap_i64]; omega
                        go_wp2
                        refine ⟨rfl, HT3.out, ?_⟩
                        rw [HRES.out]
                        try rfl
                       case neg =>
                        have n63 : (c2 == 63) = false := by rw [beq_eq_false_iff_ne]; exact k63
                        by_cases k123 : c2 = 123
                        case pos =>
                         subst k123
                         have HRES := Lib.hid (show RR = .error (s2.at' - 1) from by rw [← HRR.out, thingP]; simp [HNX.out, HNX2.out])
                         have b1 : w3.cell? ⟨rb, 1, none⟩ = some (.int .i64 s2.at') := block_cell HR3.out.blk
                         have q7 : IntKind.i64.wrap ((s2.at' : Int) - 1) = ((s2.at' - 1 : Nat) : Int) := by have := HR3.out.n30; have := HR3.out.at'; have := Hs2.out; rw [IntKind.wrap_i64]; omega
                         go_wp2
                         refine ⟨rfl, HT3.out, ?_⟩
                         rw [HRES.out]
                         try rfl
                        case neg =>
                         have n123 : (c2 == 123) = false := by rw [beq_eq_false_iff_ne]; exact k123
                         by_cases k60 : c2 = 60
                         case pos =>
                          subst k60
                          have HRES := Lib.hid (show RR = .error (s2.at' - 1) from by rw [← HRR.out, thingP]; simp [HNX.out, HNX2.out])
                          have b1 : w3.cell? ⟨rb, 1, none⟩ = some (.int .i64 s2.at') := block_cell HR3.out.blk
                          have q7 : IntKind.i64.wrap ((s2.at' : Int) - 1) = ((s2.at' - 1 : Nat) : Int) := by have := HR3.out.n30; have := HR3.out.at'; have := Hs2.out; rw [IntKind.wrap_i64]; omega
                          go_wp2
                          refine ⟨rfl, HT3.out, ?_⟩
                          rw [HRES.out]
                          try rfl
                         case neg =>
                          have n60 : (c2 == 60) = false := by rw [beq_eq_false_iff_ne]; exact k60
                          by_cases k62 : c2 = 62
                          case pos =>
                           subst k62
                           have HRES := Lib.hid (show RR = .error (s2.at' - 1) from by rw [← HRR.out, thingP]; simp [HNX.out, HNX2.out])
                           have b1 : w3.cell? ⟨rb, 1, none⟩ = some (.int .i64 s2.at') := block_cell HR3.out.blk
                           have q7 : IntKind.i64.wrap ((s2.at' : Int) - 1) = ((s2.at' - 1 : Nat) : Int) := by have := HR3.out.n30; have := HR3.out.at'; have := Hs2.out; rw [IntKind.wrap_i64]; omega
                           go_wp2
                           refine ⟨rfl, HT3.out, ?_⟩
                           rw [HRES.out]
                           try rfl
                          case neg =>
                           have n62 : (c2 == 62) = false := by rw [beq_eq_false_iff_ne]; exact k62
                           go_wp2_with fail
                           refine (isletter_any c2 w3).mono ?_
                           rintro e wq ⟨rfl, hq⟩
                           subst hq
                           rw [letP_B]
                           cases hlt : letP c2 with
                           | true =>
                            have HRES := Lib.hid (show RR = .error (s2.at' - 1) from by rw [← HRR.out, thingP]; simp [HNX.out, HNX2.out, k40, k100, k115, k119, k108, k117, k68, k83, k87, k116, k101, k120, k37, k41, k124, k43, k63, k123, k60, k62, hlt])
                            have b1 : w3.cell? ⟨rb, 1, none⟩ = some (.int .i64 s2.at') := block_cell HR3.out.blk
                            have q7 : IntKind.i64.wrap ((s2.at' : Int) - 1) = ((s2.at' - 1 : Nat) : Int) := by have := HR3.out.n30; have := HR3.out.at'; have := Hs2.out; rw [IntKind.wrap_i64]; omega
                            go_wp2
                            refine ⟨rfl, HT3.out, ?_⟩
                            rw [HRES.out]
                            try rfl
                           | false =>
                            have HRES := Lib.hid (show RR = .ok (oneN fold (c2), s2) from by rw [← HRR.out, thingP]; simp [HNX.out, HNX2.out, k40, k100, k115, k119, k108, k117, k68, k83, k87, k116, k101, k120, k37, k41, k124, k43, k63, k123, k60, k62, hlt])
                            go_wp2_with fail
                            refine (oneR_c rb sl n c src s2 fold (c2) _ HR3.out).mono ?_
                            rintro e wz ⟨v, rfl, hnz, hbz⟩
                            have HPZ := Lib.hid (RdP.one HT3.out HR3.out hnz hbz)
                            clear hnz hbz
                            go_wp2
                            go_ret
                            rw [HRES.out]
                            exact HPZ.out
end Go.Proofs.YtdegdoilpamjjaaDoor
