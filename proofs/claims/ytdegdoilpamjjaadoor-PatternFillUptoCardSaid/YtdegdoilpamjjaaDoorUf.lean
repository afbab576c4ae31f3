/- Plain law: letters: no int has both another great and another small letter; the two calls come back to one another. No condition. -/
import Derived.Test.YtdegdoilpamjjaaDoorUa
namespace Go.Proofs.YtdegdoilpamjjaaDoor
theorem find_seek {α : Type} (r : Nat → α) (q : α → Bool) : ∀ n k, ((List.range' k n).map r).find? q = (seek (fun j => q (r j)) n k).map r := by
  intro n
  induction n with
  | zero => intro k; rfl
  | succ n ih =>
    intro k
    rw [List.range'_succ, List.map_cons, List.find?_cons, seek]
    cases h : q (r k)
    · simp [ih]
    · simp
def oneT : List (Int × Int × Int) := [(181, 924, 181), (305, 73, 305), (383, 83, 383), (962, 931, 962), (304, 304, 105), (7838, 7838, 223), (8486, 8486, 969), (8490, 8490, 107), (8491, 8491, 229)]
def distT : List (Int × Int × Int) := [(65, 90, 32), (192, 214, 32), (216, 222, 32), (904, 906, 37), (913, 929, 32), (931, 939, 32), (1024, 1039, 80), (1040, 1071, 32), (1329, 1366, 48), (8544, 8559, 16), (9398, 9423, 26), (65313, 65338, 32), (66560, 66599, 40), (376, 376, -121), (902, 902, 38), (908, 908, 64), (910, 911, 63), (975, 975, 8), (1216, 1216, 15)]
def pairT : List (Int × Int) := [(256, 303), (306, 311), (313, 328), (330, 375), (377, 382), (461, 476), (478, 495), (504, 543), (546, 563), (582, 591), (880, 883), (886, 887), (984, 1007), (1120, 1153), (1162, 1215), (1217, 1230), (1232, 1327), (7680, 7829), (7840, 7935)]
theorem oneT_eq : (List.range' 0 9).map (fun k => (L0 (k * 3), L0 (k * 3 + 1), L0 (k * 3 + 2))) = oneT := by decide +kernel
theorem distT_eq : (List.range' 0 19).map (fun k => (L1 (k * 3), L1 (k * 3 + 1), L1 (k * 3 + 2))) = distT := by decide +kernel
theorem pairT_eq : (List.range' 0 19).map (fun k => (L2 (k * 2), L2 (k * 2 + 1))) = pairT := by decide +kernel
def greatT (a : Int) : Int :=
  match oneT.find? (fun r => r.1 == a) with
  | some r => r.2.1
  | none => match distT.find? (fun r => decide (r.1 ≤ a - r.2.2) && decide (a - r.2.2 ≤ r.2.1)) with
    | some r => a - r.2.2
    | none => match pairT.find? (fun r => decide (r.1 ≤ a) && decide (a ≤ r.2) && ((a - r.1) % 2 == 1)) with
      | some _ => a - 1
      | none => a
def smallT (a : Int) : Int :=
  match oneT.find? (fun r => r.1 == a) with
  | some r => r.2.2
  | none => match distT.find? (fun r => decide (r.1 ≤ a) && decide (a ≤ r.2.1)) with
    | some r => a + r.2.2
    | none => match pairT.find? (fun r => decide (r.1 ≤ a) && decide (a ≤ r.2) && ((a - r.1) % 2 == 0)) with
      | some _ => a + 1
      | none => a
theorem greatF_T (a : Int) : greatF a = greatT a := by
  have s0 : oneT.find? (fun r => r.1 == a) = (seek (one0 a) 9 0).map (fun k => (L0 (k * 3), L0 (k * 3 + 1), L0 (k * 3 + 2))) := by rw [← oneT_eq, find_seek]; rfl
  have s1 : distT.find? (fun r => decide (r.1 ≤ a - r.2.2) && decide (a - r.2.2 ≤ r.2.1)) = (seek (dist1 a) 19 0).map (fun k => (L1 (k * 3), L1 (k * 3 + 1), L1 (k * 3 + 2))) := by rw [← distT_eq, find_seek]; rfl
  have s2 : pairT.find? (fun r => decide (r.1 ≤ a) && decide (a ≤ r.2) && ((a - r.1) % 2 == 1)) = (seek (pair1 a) 19 0).map (fun k => (L2 (k * 2), L2 (k * 2 + 1))) := by rw [← pairT_eq, find_seek]; rfl
  unfold greatF greatT
  rw [s0, s1, s2]
  cases seek (one0 a) 9 0 with
  | some k => rfl
  | none =>
    cases seek (dist1 a) 19 0 with
    | some k => rfl
    | none => cases seek (pair1 a) 19 0 <;> rfl
theorem smallF_T (a : Int) : smallF a = smallT a := by
  have s0 : oneT.find? (fun r => r.1 == a) = (seek (one0 a) 9 0).map (fun k => (L0 (k * 3), L0 (k * 3 + 1), L0 (k * 3 + 2))) := by rw [← oneT_eq, find_seek]; rfl
  have s1 : distT.find? (fun r => decide (r.1 ≤ a) && decide (a ≤ r.2.1)) = (seek (dist2 a) 19 0).map (fun k => (L1 (k * 3), L1 (k * 3 + 1), L1 (k * 3 + 2))) := by rw [← distT_eq, find_seek]; rfl
  have s2 : pairT.find? (fun r => decide (r.1 ≤ a) && decide (a ≤ r.2) && ((a - r.1) % 2 == 0)) = (seek (pair2 a) 19 0).map (fun k => (L2 (k * 2), L2 (k * 2 + 1))) := by rw [← pairT_eq, find_seek]; rfl
  unfold smallF smallT
  rw [s0, s1, s2]
  cases seek (one0 a) 9 0 with
  | some k => rfl
  | none =>
    cases seek (dist2 a) 19 0 with
    | some k => rfl
    | none => cases seek (pair2 a) 19 0 <;> rfl
/-- an int that stands in a row of a table -/
def touched (a : Int) : Bool := oneT.any (fun r => r.1 == a) || distT.any (fun r => decide (r.1 + r.2.2 ≤ a) && decide (a ≤ r.2.1 + r.2.2)) || distT.any (fun r => decide (r.1 ≤ a) && decide (a ≤ r.2.1)) || pairT.any (fun r => decide (r.1 ≤ a) && decide (a ≤ r.2))
theorem untouched (a : Int) (h : touched a = false) : greatT a = a ∧ smallT a = a := by
  simp only [touched, Bool.or_eq_false_iff, List.any_eq_false] at h
  obtain ⟨⟨⟨h1, h2⟩, h3⟩, h4⟩ := h
  have e1 : oneT.find? (fun r => r.1 == a) = none := List.find?_eq_none.2 h1
  have e2 : distT.find? (fun r => decide (r.1 ≤ a - r.2.2) && decide (a - r.2.2 ≤ r.2.1)) = none := List.find?_eq_none.2 fun r hr => by have := h2 r hr; simp at this ⊢; omega
  have e3 : distT.find? (fun r => decide (r.1 ≤ a) && decide (a ≤ r.2.1)) = none := List.find?_eq_none.2 h3
  have e4 : pairT.find? (fun r => decide (r.1 ≤ a) && decide (a ≤ r.2) && ((a - r.1) % 2 == 1)) = none := List.find?_eq_none.2 fun r hr => by have := h4 r hr; simp at this ⊢; omega
  have e5 : pairT.find? (fun r => decide (r.1 ≤ a) && decide (a ≤ r.2) && ((a - r.1) % 2 == 0)) = none := List.find?_eq_none.2 fun r hr => by have := h4 r hr; simp at this ⊢; omega
  unfold greatT smallT
  rw [e1, e2, e3, e4, e5]
  exact ⟨rfl, rfl⟩
/-- what holds of every touched int, by the kernel -/
theorem touched_all (p : Int → Bool) (h1 : oneT.all (fun r => p r.1) = true) (h2 : distT.all (fun r => (List.range (r.2.1 - r.1 + 1).toNat).all fun (i : Nat) => p (r.1 + r.2.2 + (i : Int)) && p (r.1 + (i : Int))) = true)
    (h3 : pairT.all (fun r => (List.range (r.2 - r.1 + 1).toNat).all fun (i : Nat) => p (r.1 + (i : Int))) = true) (a : Int) (h : touched a = true) : p a = true := by
  simp only [touched, Bool.or_eq_true, List.any_eq_true] at h
  rw [List.all_eq_true] at h1 h2 h3
  rcases h with ((⟨r, hr, h⟩ | ⟨r, hr, h⟩) | ⟨r, hr, h⟩) | ⟨r, hr, h⟩
  · have := h1 r hr; rw [beq_iff_eq.1 h] at this; exact this
  · have := h2 r hr
    rw [List.all_eq_true] at this
    simp at h
    have := this (a - (r.1 + r.2.2)).toNat (List.mem_range.2 (by omega))
    rw [Bool.and_eq_true, show r.1 + r.2.2 + ((a - (r.1 + r.2.2)).toNat : Int) = a from by omega] at this
    exact this.1
  · have := h2 r hr
    rw [List.all_eq_true] at this
    simp at h
    have := this (a - r.1).toNat (List.mem_range.2 (by omega))
    rw [Bool.and_eq_true, show r.1 + ((a - r.1).toNat : Int) = a from by omega] at this
    exact this.2
  · have := h3 r hr
    rw [List.all_eq_true] at this
    simp at h
    have := this (a - r.1).toNat (List.mem_range.2 (by omega))
    rw [show r.1 + ((a - r.1).toNat : Int) = a from by omega] at this
    exact this
def turnT (a : Int) : Int := if greatT a = a then smallT a else greatT a
def foldB (a : Int) : Bool :=
  scalarB a && scalarB (greatT a) && scalarB (smallT a) &&
  (greatT a == a || (smallT a == a && greatT (greatT a) == greatT a && scalarB (smallT (greatT a)) && greatT (smallT (greatT a)) == greatT a)) &&
  (smallT a == a || (greatT a == a && smallT (smallT a) == smallT a && scalarB (greatT (smallT a)) && smallT (greatT (smallT a)) == smallT a))
theorem fold_touched (a : Int) (h : touched a = true) : foldB a = true :=
  touched_all foldB (by decide +kernel) (by decide +kernel) (by decide +kernel) a h
/-- all that GlyphFold asks of one scalar -/
theorem fold_law (a : Int) (h : scalarB a = true) :
    (0 ≤ upperF a ∧ upperF a ≤ 1114111 ∧ 0 ≤ lowerF a ∧ lowerF a ≤ 1114111) ∧
    (upperF a ≠ a → lowerF a = a ∧ upperF (upperF a) = upperF a ∧ upperF (lowerF (upperF a)) = upperF a ∧ turnF a = upperF a) ∧
    (lowerF a ≠ a → upperF a = a ∧ lowerF (lowerF a) = lowerF a ∧ lowerF (upperF (lowerF a)) = lowerF a ∧ turnF a = lowerF a) ∧
    (upperF a = a → lowerF a = a → turnF a = a) := by
  have hu : ∀ b, scalarB b = true → upperF b = greatT b := fun b hb => by unfold upperF; rw [if_pos hb, greatF_T]
  have hl : ∀ b, scalarB b = true → lowerF b = smallT b := fun b hb => by unfold lowerF; rw [if_pos hb, smallF_T]
  cases ht : touched a
  · obtain ⟨e1, e2⟩ := untouched a ht
    have hb := scalar_bd h
    rw [hu a h, hl a h, e1, e2]
    refine ⟨⟨hb.1, hb.2, hb.1, hb.2⟩, fun h => absurd rfl h, fun h => absurd rfl h, fun _ _ => ?_⟩
    unfold turnF
    rw [hu a h, e1, if_pos rfl, hl a h, e2]
  · have := fold_touched a ht
    unfold foldB at this
    simp only [Bool.and_eq_true, Bool.or_eq_true, beq_iff_eq] at this
    obtain ⟨⟨⟨⟨_, s1⟩, s2⟩, f1⟩, f2⟩ := this
    have b1 := scalar_bd s1
    have b2 := scalar_bd s2
    have hT : turnF a = if greatT a = a then smallT a else greatT a := by unfold turnF; rw [hu a h, hl a h]
    rw [hT, hu a h, hl a h, hu _ s1, hl _ s1, hu _ s2, hl _ s2]
    refine ⟨⟨b1.1, b1.2, b2.1, b2.2⟩, fun hn => ?_, fun hn => ?_, fun e1 e2 => by rw [if_pos e1, e2]⟩
    · rcases f1 with f1 | ⟨⟨⟨g1, g2⟩, g3⟩, g4⟩
      · exact absurd f1 hn
      · exact ⟨g1, g2, by rw [hu _ g3]; exact g4, by rw [if_neg hn]⟩
    · rcases f2 with f2 | ⟨⟨⟨g1, g2⟩, g3⟩, g4⟩
      · exact absurd f2 hn
      · exact ⟨g1, g2, by rw [hl _ g3]; exact g4, by rw [if_pos g1]⟩
theorem fold_out (a : Int) (h : scalarB a = false) : upperF a = a ∧ lowerF a = a ∧ turnF a = a := by
  have h1 : upperF a = a := by unfold upperF; rw [h]; rfl
  have h2 : lowerF a = a := by unfold lowerF; rw [h]; rfl
  exact ⟨h1, h2, by unfold turnF; rw [if_pos h1, h2]⟩
theorem ascii_up (i : Int) (h0 : 0 ≤ i) (h1 : i < 26) : upperF (97 + i) = 65 + i ∧ lowerF (65 + i) = 97 + i ∧ turnF (97 + i) = 65 + i ∧ turnF (65 + i) = 97 + i := by
  have := all_range 0 26 (fun i => decide (upperF (97 + i) = 65 + i) && decide (lowerF (65 + i) = 97 + i) && decide (turnF (97 + i) = 65 + i) && decide (turnF (65 + i) = 97 + i)) (by decide +kernel) i h0 h1
  simpa [and_assoc] using this
end Go.Proofs.YtdegdoilpamjjaaDoor
