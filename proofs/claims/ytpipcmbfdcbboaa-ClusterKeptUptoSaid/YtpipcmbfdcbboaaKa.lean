/- Plain law: the boundaries of two lists laid end to end where the seam is one. No condition. -/
import Derived.Test.YtpipcmbfdcbboaaGe
import Derived.Test.YtpipcmbfdcbboaaCz
namespace Go.Proofs.Ytpipcmbfdcbboaa
open Go.RowKit
/-- where a table says K: just between p and q -/
def iffChk (K p q : Int) (l h v : Int) : Bool := if v == K then decide (p ≤ l) && decide (h ≤ q) else decide (h < p) || decide (q < l)
theorem iff_of_chk {K p q l h v a : Int} (hl : l ≤ a) (hh : a ≤ h) (hc : iffChk K p q l h v = true) : v = K ↔ p ≤ a ∧ a ≤ q := by
  unfold iffChk at hc
  split at hc
  · rename_i e; simp at e hc; exact ⟨fun _ => by omega, fun _ => e⟩
  · rename_i e; simp at e hc; exact ⟨fun h => absurd h e, fun h => by omega⟩
theorem sot_class_iff (a : Int) (h0 : 0 ≤ a) (h1 : a ≤ 1114111) :
    (sot classT a = 1 ↔ 13 ≤ a ∧ a ≤ 13) ∧ (sot classT a = 2 ↔ 10 ≤ a ∧ a ≤ 10) ∧ (sot classT a = 5 ↔ 8205 ≤ a ∧ a ≤ 8205) ∧ (sot classT a = 6 ↔ 127462 ≤ a ∧ a ≤ 127487) := by
  obtain ⟨l, h, hl, hh, hc⟩ := (sotD classT).each_ok 0 1114111
    (fun l h v => iffChk 1 13 13 l h v && iffChk 2 10 10 l h v && iffChk 5 8205 8205 l h v && iffChk 6 127462 127487 l h v) (by decide +kernel) a h0 h1
  rw [sotD_int] at hc
  simp only [Bool.and_eq_true] at hc
  exact ⟨iff_of_chk hl hh hc.1.1.1, iff_of_chk hl hh hc.1.1.2, iff_of_chk hl hh hc.1.2, iff_of_chk hl hh hc.2⟩
theorem class_iff (a : Int) : (classF a = 1 ↔ a = 13) ∧ (classF a = 2 ↔ a = 10) ∧ (classF a = 5 ↔ a = 8205) ∧ (classF a = 6 ↔ 127462 ≤ a ∧ a ≤ 127487) := by
  cases h : scalarB a
  · have hn : ¬ (0 ≤ a ∧ a < 55296 ∨ 57343 < a ∧ a ≤ 1114111) := by unfold scalarB at h; exact of_decide_eq_false h
    have hc : classF a = 3 := by unfold classF; rw [if_pos h]
    rw [hc]
    omega
  · have hb := scalar_bd h
    by_cases hh : 44032 ≤ a ∧ a < 55204
    · have hc : classF a = 12 ∨ classF a = 13 := by
        unfold classF; rw [if_neg (by rw [h]; decide), if_pos hh]; split
        · exact .inl rfl
        · exact .inr rfl
      omega
    · have hc : classF a = sot classT a := by unfold classF; rw [if_neg (by rw [h]; decide), if_neg hh]
      rw [hc]
      have := sot_class_iff a hb.1 hb.2
      omega
/-- the boundaries of a list -/
def bl (l : List Int) : List Int := (allB (gl l) l.length).map Int.ofNat
theorem bl_nil : bl [] = [0] := by decide
theorem bl_of (f : Nat → Int) (n : Nat) : bl (lst f n) = (allB f n).map Int.ofNat := by
  unfold bl
  rw [lst_len, allB_congr (f := gl (lst f n)) (g := f) n (fun i hi => lst_getD f n i hi)]
theorem bl_lst (f : Nat → Int) (n : Nat) : lst (bf f n) (bn f n) = bl (lst f n) := by rw [lst_bf, bl_of]
theorem gl_left {a b : List Int} {i : Nat} (h : i < a.length) : gl (a ++ b) i = gl a i := by
  unfold gl; rw [List.getD_eq_getElem?_getD, List.getD_eq_getElem?_getD, List.getElem?_append_left h]
theorem gl_right {a b : List Int} (i : Nat) : gl (a ++ b) (i + a.length) = gl b i := by
  unfold gl; rw [List.getD_eq_getElem?_getD, List.getD_eq_getElem?_getD, List.getElem?_append_right (by omega), Nat.add_sub_cancel]
theorem bl_cut {a b : List Int} (h : isB (gl (a ++ b)) (a.length + b.length) a.length = true) : bl (a ++ b) = bl a ++ ((bl b).drop 1).map (· + (a.length : Int)) := by
  generalize hf : gl (a ++ b) = f at *
  generalize hp : a.length = p at *
  have hb0 : ∀ n (g : Nat → Int), allB g n = 0 :: ((List.range n).map (· + 1)).filter (isB g n) := by
    intro n g
    unfold allB
    rw [List.range_succ_eq_map, List.filter_cons, if_pos (isB_zero g n)]
  have e1 : (allB (gl b) b.length).drop 1 = ((List.range b.length).map (· + 1)).filter (isB (gl b) b.length) := by rw [hb0]; rfl
  unfold bl
  rw [List.length_append, hf, hp, ← List.map_drop, e1, List.map_map]
  have e2 : allB f (p + b.length) = allB (gl a) p ++ (((List.range b.length).map (· + 1)).filter (isB (gl b) b.length)).map (· + p) := by
    unfold allB
    rw [show p + b.length + 1 = (p + 1) + b.length from by omega, List.range_add, List.filter_append]
    congr 1
    · apply List.filter_congr
      intro k hk
      rw [List.mem_range] at hk
      by_cases hkp : k = p
      · subst hkp; rw [h, isB_end]
      · rw [isB_brk (by omega), isB_brk (by omega)]
        refine brkB_congr k (fun i hi => ?_)
        rw [← hf]; exact gl_left (by omega)
    · rw [List.filter_map, List.filter_map, List.map_map]
      have e3 : (List.range b.length).filter (isB f (p + b.length) ∘ fun x => p + 1 + x) = (List.range b.length).filter (isB (gl b) b.length ∘ fun x => x + 1) := by
        apply List.filter_congr
        intro j hj
        rw [List.mem_range] at hj
        have h1 := isB_cut (show p ≤ p + b.length by omega) h (j + 1) (by omega)
        rw [show p + b.length - p = b.length from by omega] at h1
        show isB f (p + b.length) (p + 1 + j) = isB (gl b) b.length (j + 1)
        rw [show p + 1 + j = j + 1 + p from by omega, ← h1]
        exact isB_congr _ _ (fun i hi => by rw [← hf, ← hp]; exact gl_right i)
      rw [e3]
      apply List.map_congr_left
      intro x _
      show p + 1 + x = x + 1 + p
      omega
  rw [e2, List.map_append, List.map_map]
  rfl
theorem bl_empty (a : List Int) : bl (a ++ []) = bl a ++ ((bl []).drop 1).map (· + (a.length : Int)) := by rw [List.append_nil, bl_nil]; simp
/-- a seam behind a line's end, or ahead of one -/
theorem bl_seam {a b : List Int} (x y : Int) (a' b' : List Int) (ha : a = a' ++ [x]) (hb : b = y :: b') (h1 : apartB (classF x) = true ∨ apartB (classF y) = true) (h2 : x ≠ 13) : bl (a ++ b) = bl a ++ ((bl b).drop 1).map (· + (a.length : Int)) := by
  apply bl_cut
  have hal : a.length = a'.length + 1 := by rw [ha]; simp
  have hbl : b.length = b'.length + 1 := by rw [hb]; rfl
  have hx : gl (a ++ b) (a.length - 1) = x := by
    rw [gl_left (by omega), ha]
    unfold gl
    rw [List.getD_eq_getElem?_getD, show (a' ++ [x]).length - 1 = a'.length from by simp, List.getElem?_append_right (by omega)]
    simp
  have hy : gl (a ++ b) a.length = y := by
    have := gl_right (a := a) (b := b) 0
    rw [Nat.zero_add] at this
    rw [this, hb]; rfl
  refine sure_brk (by omega) (by omega) ?_ ?_
  · rw [hx, hy]; exact h1
  · rw [hx]
    rintro ⟨h3, _⟩
    exact h2 ((class_iff x).1.1 h3)
/-- a line's content, its end; the text of the first lines -/
def fixI (x : Int) : Int := if x = 10 ∨ x = 13 then 32 else x
def termL (k : Int) : List Int := if k = 1 then [10] else if k = 2 then [13, 10] else [13, 133]
def rowL (L : Nat → Nat) (Z : Nat → Nat → Int) (i : Nat) : List Int := lst (fun j => fixI (Z i j)) (L i)
def textL (L : Nat → Nat) (Z : Nat → Nat → Int) (K : Nat → Int) : Nat → List Int
  | 0 => []
  | i + 1 => textL L Z K i ++ rowL L Z i ++ termL (K i)
theorem termL_end (k : Int) : ∃ l x, termL k = l ++ [x] ∧ (x = 10 ∨ x = 133) := by
  unfold termL
  split
  · exact ⟨[], 10, rfl, .inl rfl⟩
  · split
    · exact ⟨[13], 10, rfl, .inl rfl⟩
    · exact ⟨[13], 133, rfl, .inr rfl⟩
theorem termL_begin (k : Int) : ∃ y l, termL k = y :: l ∧ apartB (classF y) = true := by
  unfold termL
  split
  · exact ⟨10, [], rfl, by decide +kernel⟩
  · split
    · exact ⟨13, _, rfl, by decide +kernel⟩
    · exact ⟨13, _, rfl, by decide +kernel⟩
theorem textL_end (L : Nat → Nat) (Z : Nat → Nat → Int) (K : Nat → Int) (i : Nat) : textL L Z K i = [] ∨ ∃ l x, textL L Z K i = l ++ [x] ∧ (x = 10 ∨ x = 133) := by
  cases i with
  | zero => exact .inl rfl
  | succ i =>
    obtain ⟨l, x, h1, h2⟩ := termL_end (K i)
    refine .inr ⟨textL L Z K i ++ rowL L Z i ++ l, x, ?_, h2⟩
    show textL L Z K i ++ rowL L Z i ++ termL (K i) = _
    rw [h1]; simp
theorem fixI_ne (x : Int) : fixI x ≠ 13 := by
  unfold fixI
  split
  · decide
  · omega
/-- the boundaries of the text with one line more -/
theorem bl_line (L : Nat → Nat) (Z : Nat → Nat → Int) (K : Nat → Int) (i : Nat) :
    bl (textL L Z K (i + 1)) = bl (textL L Z K i) ++ (((bl (rowL L Z i)).drop 1).map (· + ((textL L Z K i).length : Int)) ++ ((bl (termL (K i))).drop 1).map (· + (((textL L Z K i).length : Int) + (L i : Int)))) := by
  have hrl : (rowL L Z i).length = L i := lst_len _ _
  have h1 : bl (rowL L Z i ++ termL (K i)) = bl (rowL L Z i) ++ ((bl (termL (K i))).drop 1).map (· + (L i : Int)) := by
    obtain ⟨y, t, hy, hap⟩ := termL_begin (K i)
    by_cases h0 : L i = 0
    · have hr : rowL L Z i = [] := List.eq_nil_of_length_eq_zero (by rw [hrl]; exact h0)
      rw [hr, h0, List.nil_append]
      have : bl (termL (K i)) = 0 :: (bl (termL (K i))).drop 1 := by
        unfold bl
        rw [allB_bounds]; rfl
      rw [bl_nil, this]
      simp
    · have hx : rowL L Z i = lst (fun j => fixI (Z i j)) (L i - 1) ++ [fixI (Z i (L i - 1))] := by
        unfold rowL
        rw [show L i = (L i - 1) + 1 from by omega, lst_succ]
        rfl
      have := bl_seam (a := rowL L Z i) (b := termL (K i)) (fixI (Z i (L i - 1))) y _ t hx hy (.inr hap) (fixI_ne _)
      rw [this, hrl]
  have h2 : bl (textL L Z K i ++ (rowL L Z i ++ termL (K i))) = bl (textL L Z K i) ++ ((bl (rowL L Z i ++ termL (K i))).drop 1).map (· + ((textL L Z K i).length : Int)) := by
    obtain ⟨y, t, hy, hap⟩ := termL_begin (K i)
    rcases textL_end L Z K i with h | ⟨l, x, h, hx⟩
    · rw [h, List.nil_append]
      have : bl (rowL L Z i ++ termL (K i)) = 0 :: (bl (rowL L Z i ++ termL (K i))).drop 1 := by
        unfold bl
        rw [allB_bounds]; rfl
      rw [bl_nil]
      conv => lhs; rw [this]
      simp
    · have hb : ∃ y' t', rowL L Z i ++ termL (K i) = y' :: t' := by
        rcases hr : rowL L Z i with _ | ⟨z, zs⟩
        · exact ⟨y, t, by rw [hy]; rfl⟩
        · exact ⟨z, zs ++ termL (K i), rfl⟩
      obtain ⟨y', t', hb⟩ := hb
      refine bl_seam x y' l t' h hb (.inl ?_) ?_
      · rcases hx with rfl | rfl <;> decide +kernel
      · rcases hx with rfl | rfl <;> decide
  show bl (textL L Z K i ++ rowL L Z i ++ termL (K i)) = _
  rw [List.append_assoc, h2, h1, List.drop_append_of_le_length ?_, List.map_append, List.map_map]
  · congr 2
    apply List.map_congr_left
    intro x _
    show x + (L i : Int) + ((textL L Z K i).length : Int) = x + (((textL L Z K i).length : Int) + (L i : Int))
    omega
  · unfold bl
    rw [allB_bounds]; simp
theorem bl_term (k : Int) : (bl (termL k)).drop 1 = if k = 1 then [1] else if k = 2 then [2] else [1, 2] := by
  unfold termL
  split
  · decide +kernel
  · split
    · decide +kernel
    · decide +kernel
theorem termL_len (k : Int) : (termL k).length ≤ 2 := by
  unfold termL
  split
  · decide
  · split <;> decide
/-- how many ints the first lines are at most -/
def sizeL (L : Nat → Nat) : Nat → Nat
  | 0 => 0
  | i + 1 => sizeL L i + L i + 2
theorem sizeL_mono (L : Nat → Nat) : ∀ i j, i ≤ j → sizeL L i ≤ sizeL L j := by
  intro i j h
  induction j with
  | zero => obtain rfl : i = 0 := by omega
            exact Nat.le_refl _
  | succ j ih =>
    rcases Nat.lt_or_eq_of_le h with h1 | rfl
    · have := ih (by omega)
      show _ ≤ sizeL L j + L j + 2
      omega
    · exact Nat.le_refl _
theorem textL_len (L : Nat → Nat) (Z : Nat → Nat → Int) (K : Nat → Int) : ∀ i, (textL L Z K i).length ≤ sizeL L i := by
  intro i
  induction i with
  | zero => exact Nat.le_refl _
  | succ i ih =>
    have h1 := termL_len (K i)
    have h2 : (rowL L Z i).length = L i := lst_len _ _
    show (textL L Z K i ++ rowL L Z i ++ termL (K i)).length ≤ sizeL L i + L i + 2
    rw [List.length_append, List.length_append]
    omega
theorem bl_len (l : List Int) : (bl l).length ≤ l.length + 1 := by
  have := (bn_bd (gl l) l.length).2
  unfold bl; rw [List.length_map]; exact this
end Go.Proofs.Ytpipcmbfdcbboaa
