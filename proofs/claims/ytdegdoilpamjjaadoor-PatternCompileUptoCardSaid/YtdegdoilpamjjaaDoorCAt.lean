/- Plain: a thing of a pattern, parted as the document's reader parts it. No program in sight. -/
import Derived.Test.YtdegdoilpamjjaaDoorCAs
import Derived.Test.YtdegdoilpamjjaaDoorCAb
namespace Go.Proofs.YtdegdoilpamjjaaDoor
set_option linter.unusedVariables false
def escP (src : List Int) (fold : Bool) (s1 : RS) : RR Nd := match nx src s1 with
 | .error e => .error e
 | .ok (c, s2) =>
  if c = 100 ∨ c = 115 ∨ c = 119 ∨ c = 108 ∨ c = 117 then .ok (.set [] [c] false fold, s2)
  else if c = 68 ∨ c = 83 ∨ c = 87 then .ok (.set [] [c + 32] true fold, s2)
  else if c = 116 then .ok (oneN fold 9, s2)
  else if c = 101 then .ok (oneN fold 27, s2)
  else if c = 120 then (match hexP src 255 2 0 s2 with
   | .error e => .error e
   | .ok (v, s3) => .ok (oneN fold (-1 - v), s3))
  else if c = 37 then (match codP src s2 with
   | .error e => .error e
   | .ok (v, s3) => .ok (oneN fold v, s3))
  else if letP c = true ∨ c = 40 ∨ c = 41 ∨ c = 124 ∨ c = 43 ∨ c = 63 ∨ c = 123 ∨ c = 60 ∨ c = 62 then .error (s2.at' - 1)
  else .ok (oneN fold c, s2)
def sngP (src : List Int) (fold : Bool) (s : RS) : RR Nd := match nx src s with
 | .error e => .error e
 | .ok (c, s1) =>
  if c = 42 then .error (s1.at' - 1)
  else if c = 91 then classP src fold s1
  else if c = 46 then .ok (.set [] [] true false, s1)
  else if c = 92 then escP src fold s1
  else .ok (oneN fold c, s1)
theorem nx_at {src : List Int} {s : RS} (h : s.at' < src.length) : nx src s = .ok (srcAt src s.at', { s with at' := s.at' + 1 }) := if_neg (by omega)
theorem nx_end {src : List Int} {s : RS} (h : ¬ s.at' < src.length) : nx src s = .error src.length := if_pos (by omega)
theorem escB_is {src : List Int} {a : Nat} {c : Int} : escB src a c = true ↔ a + 1 < src.length ∧ srcAt src a = 92 ∧ srcAt src (a + 1) = c := by
 unfold escB pk
 by_cases h : a + 1 < src.length
 ·
  have h0 : a < src.length := by omega
  simp [h, h0]
 · simp [h]
theorem thing_parts (src : List Int) (fold : Bool) (f : Nat) (s : RS) (hat : s.at' < src.length) :
  thingP src fold (f + 1) s = if escB src s.at' 40 = true then (if s.groups = 9 then .error (s.at' + 1) else insP src fold f (s.groups + 1 : Nat) { at' := s.at' + 2, groups := s.groups + 1 })
   else if escB src s.at' 37 = true ∧ s.at' + 2 < src.length ∧ srcAt src (s.at' + 2) = 40 then insP src fold f 0 { s with at' := s.at' + 3 }
   else sngP src fold s := by
 rw [thingP, nx_at hat]
 unfold sngP
 rw [nx_at hat]
 dsimp only
 by_cases h92 : srcAt src s.at' = 92
 ·
  rw [h92]
  simp only [Int.reduceEq, ne_eq, not_true_eq_false, reduceIte]
  unfold escP
  by_cases h1 : s.at' + 1 < src.length
  ·
   rw [nx_at (s := { s with at' := s.at' + 1 }) h1]
   dsimp only
   obtain ⟨x, hx⟩ : ∃ x, srcAt src (s.at' + 1) = x := ⟨_, rfl⟩
   rw [hx]
   by_cases h40 : x = 40
   ·
    rw [if_pos h40, if_pos (escB_is.mpr ⟨h1, h92, hx.trans h40⟩)]
    rfl
   rw [if_neg h40, if_neg (fun e => h40 (hx.symm.trans (escB_is.mp e).2.2))]
   by_cases h37 : x = 37
   ·
    subst h37
    simp only [Int.reduceEq, or_self, reduceIte]
    by_cases h2 : s.at' + 2 < src.length
    ·
     rw [nx_at (s := { s with at' := s.at' + 1 + 1 }) h2]
     dsimp only
     obtain ⟨y, hy⟩ : ∃ y, srcAt src (s.at' + 2) = y := ⟨_, rfl⟩
     rw [show s.at' + 1 + 1 = s.at' + 2 from rfl, hy]
     have hb : escB src s.at' 37 = true := escB_is.mpr ⟨h1, h92, hx⟩
     by_cases hy40 : y = 40
     · rw [if_pos hy40, if_pos ⟨hb, h2, hy40⟩]
     ·
      rw [if_neg hy40, if_neg (show ¬ (escB src s.at' 37 = true ∧ s.at' + 2 < src.length ∧ y = 40) from fun e => hy40 e.2.2)]
      unfold codP
      rw [nx_at (s := { s with at' := s.at' + 2 }) h2]
      dsimp only
      rw [hy]
      by_cases e1 : y = 117
      ·
       rw [if_pos e1, if_pos e1]
       cases hexP src 65535 4 0 { at' := s.at' + 2 + 1, groups := s.groups } <;> rfl
      rw [if_neg e1, if_neg e1]
      by_cases e2 : y = 85
      ·
       rw [if_pos e2, if_pos e2]
       cases hexP src 1114111 6 0 { at' := s.at' + 2 + 1, groups := s.groups } <;> rfl
      · rw [if_neg e2, if_neg e2]
    ·
     rw [nx_end (s := { s with at' := s.at' + 1 + 1 }) h2, if_neg (fun e => h2 e.2.1)]
     unfold codP
     rw [nx_end (s := { s with at' := s.at' + 1 + 1 }) h2]
   ·
    rw [if_neg (show ¬ (escB src s.at' 37 = true ∧ s.at' + 2 < src.length ∧ srcAt src (s.at' + 2) = 40) from fun e => h37 (hx.symm.trans (escB_is.mp e.1).2.2))]
    by_cases c1 : x = 100 ∨ x = 115 ∨ x = 119 ∨ x = 108 ∨ x = 117
    · rw [if_pos c1, if_pos c1]
    rw [if_neg c1, if_neg c1]
    by_cases c2 : x = 68 ∨ x = 83 ∨ x = 87
    · rw [if_pos c2, if_pos c2]
    rw [if_neg c2, if_neg c2]
    by_cases c3 : x = 116
    · rw [if_pos c3, if_pos c3]
    rw [if_neg c3, if_neg c3]
    by_cases c4 : x = 101
    · rw [if_pos c4, if_pos c4]
    rw [if_neg c4, if_neg c4]
    by_cases c5 : x = 120
    ·
     rw [if_pos c5, if_pos c5]
     cases hexP src 255 2 0 { at' := s.at' + 1 + 1, groups := s.groups } <;> rfl
    rw [if_neg c5, if_neg c5, if_neg h37, if_neg h37]
    by_cases c6 : x = 41 ∨ x = 124 ∨ x = 43 ∨ x = 63 ∨ x = 123 ∨ x = 60 ∨ x = 62
    · rw [if_pos c6, if_pos (.inr (.inr c6))]
    rw [if_neg c6]
    by_cases c7 : letP x = true
    · rw [if_pos c7, if_pos (.inl c7)]
    ·
     rw [if_neg c7, if_neg (fun e => by
      rcases e with e | e | e
      · exact c7 e
      · exact h40 e
      · exact c6 e)]
  ·
   rw [nx_end (s := { s with at' := s.at' + 1 }) h1]
   dsimp only
   rw [if_neg (fun e => h1 (escB_is.mp e).1), if_neg (fun e => h1 (escB_is.mp e.1).1)]
 ·
  rw [if_neg (show ¬ escB src s.at' 40 = true from fun e => h92 (escB_is.mp e).2.1), if_neg (show ¬ (escB src s.at' 37 = true ∧ s.at' + 2 < src.length ∧ srcAt src (s.at' + 2) = 40) from fun e => h92 (escB_is.mp e.1).2.1)]
  generalize srcAt src s.at' = x at h92 ⊢
  by_cases c1 : x = 42
  · rw [if_pos c1, if_pos c1]
  rw [if_neg c1, if_neg c1]
  by_cases c2 : x = 46
  · rw [if_pos c2, if_neg (by omega), if_pos c2]
  rw [if_neg c2]
  by_cases c3 : x = 91
  · rw [if_pos c3, if_pos c3]
  · rw [if_neg c3, if_pos h92, if_neg c3, if_neg c2, if_neg h92]
theorem letB_is (c : Int) : letB c = letP c := by
 unfold letB letP
 by_cases h1 : 48 ≤ c ∧ c ≤ 57 <;> by_cases h2 : 97 ≤ c ∧ c ≤ 122 <;> by_cases h3 : 65 ≤ c ∧ c ≤ 90 <;> simp [h1, h2, h3]
end Go.Proofs.YtdegdoilpamjjaaDoor
