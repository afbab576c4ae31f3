/- Contracts in the form in which the statements' walks use them; plain laws on the list of boundaries. Condition: fewer than 2^32 members. -/
import Derived.Test.YtpipcmbfdcbboaaCu
namespace Go.Proofs.Ytpipcmbfdcbboaa
open Go.RowKit
theorem IsInts.congr {w : World} {s : Option Addr} {n : Nat} {f g : Nat → Int} (h : IsInts w s n f) (he : ∀ i, i < n → f i = g i) : IsInts w s n g := by
  rcases h with h | ⟨b, off, hs, hb, hc⟩
  · exact .inl h
  · exact .inr ⟨b, off, hs, hb, fun i hi => by rw [← he i hi]; exact hc i hi⟩
theorem OwnInts.ints {w : World} {base : Nat} {v : Value} {f : Nat → Int} {n : Nat} (h : OwnInts w base v (lst f n)) : ∃ s c, v = .slice s n c ∧ n ≤ c ∧ IsInts w s n f := by
  obtain ⟨s, c, hv, hi, _⟩ := h.isInts
  have hc : (lst f n).length ≤ c := by
    rcases h.2 with ⟨h1, h2⟩ | ⟨g, cap, cur, h1, _, _, h2, _⟩
    · rw [hv] at h1; have := (Value.slice.inj h1).2.1; omega
    · rw [hv] at h1; have := (Value.slice.inj h1).2.2; omega
  rw [lst_len] at hc
  refine ⟨s, c, by rw [hv, lst_len], hc, ?_⟩
  rw [lst_len] at hi
  exact hi.congr (fun i hi => lst_getD f n i hi)
def gl (l : List Int) (i : Nat) : Int := l.getD i 0
theorem lst_gl (l : List Int) : lst (gl l) l.length = l := lst_get l
theorem lst_gl' {l : List Int} {n : Nat} (h : l.length = n) : lst (gl l) n = l := by subst h; exact lst_get l
/-- how many boundaries, and which -/
def bn (f : Nat → Int) (n : Nat) : Nat := (allB f n).length
def bf (f : Nat → Int) (n : Nat) : Nat → Int := gl ((allB f n).map Int.ofNat)
theorem bn_bd (f : Nat → Int) (n : Nat) : 0 < bn f n ∧ bn f n ≤ n + 1 := by
  unfold bn
  rw [allB_bounds, List.length_cons]
  have := bounds_length f n 0 (by omega) rfl
  omega
theorem lst_bf (f : Nat → Int) (n : Nat) : lst (bf f n) (bn f n) = (allB f n).map Int.ofNat := lst_gl' (by rw [List.length_map]; rfl)
def cat (f : Nat → Int) (n : Nat) (g : Nat → Int) (i : Nat) : Int := if i < n then f i else g (i - n)
theorem lst_cat (f g : Nat → Int) (n m : Nat) : lst (cat f n g) (n + m) = lst f n ++ lst g m := by
  apply List.ext_getElem
  · simp [lst_len]
  · intro i h1 h2
    rw [lst_len] at h1
    by_cases hi : i < n
    · rw [List.getElem_append_left (by rw [lst_len]; exact hi)]; simp [lst, cat, hi]
    · rw [List.getElem_append_right (by rw [lst_len]; omega)]; simp [lst, cat, hi]
theorem copied_c (sa : Option Addr) (len cap : Nat) (f : Nat → Int) (w : World) (hl : len < 4294967296) (hr : IsInts w sa len f) :
    Calls Try.prog 13 #[.slice sa len cap] w fun e w' => ∃ s c, e = .returned (.slice s len c) ∧ IsInts w' s len f ∧ len ≤ c ∧ OwnInts w' w.heap.size (.slice s len c) (lst f len) ∧ Below w.heap.size w w' := by
  refine (copied_any sa len cap f w hl hr).mono ?_
  rintro e w' ⟨⟨v, rfl, ho⟩, hb⟩
  obtain ⟨s, c, rfl, hc, hi⟩ := ho.ints
  exact ⟨s, c, rfl, hi, hc, ho, hb⟩
theorem joined_c (sa sb : Option Addr) (len cap m capb : Nat) (f g : Nat → Int) (w : World) (hl : len + m < 4294967296) (hr : IsInts w sa len f) (hs : IsInts w sb m g) :
    Calls Try.prog 16 #[.slice sa len cap, .slice sb m capb] w fun e w' => ∃ s c, e = .returned (.slice s (len + m) c) ∧ IsInts w' s (len + m) (cat f len g) ∧ len + m ≤ c ∧ OwnInts w' w.heap.size (.slice s (len + m) c) (lst (cat f len g) (len + m)) ∧ Below w.heap.size w w' := by
  refine (joined_any sa sb len cap m capb f g w hl hr hs).mono ?_
  rintro e w' ⟨⟨v, rfl, ho⟩, hb⟩
  rw [← lst_cat] at ho
  obtain ⟨s, c, rfl, hc, hi⟩ := ho.ints
  exact ⟨s, c, rfl, hi, hc, ho, hb⟩
theorem breaks_c (sa : Option Addr) (len cap : Nat) (f : Nat → Int) (w : World) (hl : len < 4294967295) (hr : IsInts w sa len f) :
    Calls Try.prog 12 #[.slice sa len cap] w fun e w' => ∃ s c, e = .returned (.slice s (bn f len) c) ∧ IsInts w' s (bn f len) (bf f len) ∧ OwnInts w' w.heap.size (.slice s (bn f len) c) (lst (bf f len) (bn f len)) ∧ Below w.heap.size w w' := by
  refine (breaks_any sa len cap f w hl hr).mono ?_
  rintro e w' ⟨⟨v, rfl, ho⟩, hb⟩
  rw [← lst_bf] at ho
  obtain ⟨s, c, rfl, _, hi⟩ := ho.ints
  exact ⟨s, c, rfl, hi, ho, hb⟩
def upL (f : Nat → Int) (n : Nat) (k : Int) : List Int := (lst f n).filter (fun x => decide (x < k))
def fromL (f : Nat → Int) (n : Nat) (k : Int) : List Int := ((lst f n).filter (fun x => decide (k ≤ x))).map (· - k)
def shiftL (f : Nat → Int) (n : Nat) (k : Int) : List Int := ((lst f n).drop 1).map (· + k)
theorem upL_len (f : Nat → Int) (n : Nat) (k : Int) : (upL f n k).length ≤ n := upto_any_len k f n
theorem fromL_len (f : Nat → Int) (n : Nat) (k : Int) : (fromL f n k).length ≤ n := from_any_len k f n
theorem shiftL_len (f : Nat → Int) (n : Nat) (k : Int) : (shiftL f n k).length ≤ n := shifted_any_len k f n
theorem own_gl {w : World} {base : Nat} {v : Value} {l : List Int} (h : OwnInts w base v l) : OwnInts w base v (lst (gl l) l.length) := OwnInts.as h (lst_gl l).symm
theorem upto_c (sa : Option Addr) (len cap : Nat) (f : Nat → Int) (n : Int) (w : World) (hl : len < 4294967296) (hr : IsInts w sa len f) :
    Calls Try.prog 18 #[.slice sa len cap, .int .i64 n] w fun e w' => ∃ s c m, m = (upL f len n).length ∧ e = .returned (.slice s m c) ∧ IsInts w' s m (gl (upL f len n)) ∧ Below w.heap.size w w' := by
  refine (upto_any sa len cap f n w hl hr).mono ?_
  rintro e w' ⟨⟨v, rfl, ho⟩, hb⟩
  obtain ⟨s, c, rfl, _, hi⟩ := (own_gl ho).ints
  exact ⟨s, c, _, rfl, rfl, hi, hb⟩
theorem from_c (sa : Option Addr) (len cap : Nat) (f : Nat → Int) (n : Int) (w : World) (hl : len < 4294967296) (hr : IsInts w sa len f) (hn0 : 0 ≤ n) (hw : ∀ i, i < len → f i < 9223372036854775808) :
    Calls Try.prog 22 #[.slice sa len cap, .int .i64 n] w fun e w' => ∃ s c m, m = (fromL f len n).length ∧ e = .returned (.slice s m c) ∧ IsInts w' s m (gl (fromL f len n)) ∧ Below w.heap.size w w' := by
  refine (from_any sa len cap f n w hl hr hn0 hw).mono ?_
  rintro e w' ⟨⟨v, rfl, ho⟩, hb⟩
  obtain ⟨s, c, rfl, _, hi⟩ := (own_gl ho).ints
  exact ⟨s, c, _, rfl, rfl, hi, hb⟩
theorem shifted_c (sa : Option Addr) (len cap : Nat) (f : Nat → Int) (n : Int) (w : World) (hl : len < 4294967296) (hr : IsInts w sa len f) (hn1 : 0 ≤ n) (hw : ∀ i, i < len → 0 ≤ f i ∧ f i + n < 9223372036854775808) :
    Calls Try.prog 19 #[.slice sa len cap, .int .i64 n] w fun e w' => ∃ s c m, m = (shiftL f len n).length ∧ e = .returned (.slice s m c) ∧ IsInts w' s m (gl (shiftL f len n)) ∧ Below w.heap.size w w' := by
  refine (shifted_any sa len cap f n w hl hr hn1 hw).mono ?_
  rintro e w' ⟨⟨v, rfl, ho⟩, hb⟩
  obtain ⟨s, c, rfl, _, hi⟩ := (own_gl ho).ints
  exact ⟨s, c, _, rfl, rfl, hi, hb⟩
theorem allB_mem {f : Nat → Int} {n k : Nat} : k ∈ allB f n ↔ k ≤ n ∧ isB f n k = true := by
  unfold allB; rw [List.mem_filter, List.mem_range]
  constructor
  · rintro ⟨h1, h2⟩; exact ⟨by omega, h2⟩
  · rintro ⟨h1, h2⟩; exact ⟨by omega, h2⟩
theorem allB_get_bd (f : Nat → Int) (n i : Nat) (h : i < bn f n) : ∃ k, bf f n i = (k : Nat) ∧ k ≤ n ∧ isB f n k = true ∧ (allB f n)[i]? = some k := by
  unfold bn at h
  refine ⟨(allB f n)[i], ?_, ?_, ?_, List.getElem?_eq_getElem h⟩
  · unfold bf gl
    rw [List.getD_eq_getElem?_getD, List.getElem?_map, List.getElem?_eq_getElem h]; rfl
  · exact (allB_mem.1 (List.getElem_mem h)).1
  · exact (allB_mem.1 (List.getElem_mem h)).2
theorem bf_bd (f : Nat → Int) (n i : Nat) (h : i < bn f n) : 0 ≤ bf f n i ∧ bf f n i ≤ n := by
  obtain ⟨k, h1, h2, _⟩ := allB_get_bd f n i h; omega
theorem allB_sorted (f : Nat → Int) (n : Nat) : (allB f n).Pairwise (· < ·) := by
  unfold allB; rw [List.range_eq_range']; exact List.Pairwise.filter _ List.pairwise_lt_range'
theorem bf_up (f : Nat → Int) (n i j : Nat) (hij : i < j) (h : j < bn f n) : bf f n i < bf f n j := by
  obtain ⟨a, h1, _, _, h2⟩ := allB_get_bd f n i (by omega)
  obtain ⟨b, h3, _, _, h4⟩ := allB_get_bd f n j h
  rw [h1, h3]
  have h5 := List.getElem?_eq_some_iff.1 h2
  have h6 := List.getElem?_eq_some_iff.1 h4
  obtain ⟨p, h5⟩ := h5
  obtain ⟨q, h6⟩ := h6
  have := List.pairwise_iff_getElem.1 (allB_sorted f n) i j p q hij
  omega
theorem bf_zero (f : Nat → Int) (n : Nat) : bf f n 0 = 0 := by
  unfold bf gl; rw [allB_bounds]; rfl
theorem bf_last (f : Nat → Int) (n : Nat) : bf f n (bn f n - 1) = n := by
  have hb := bn_bd f n
  have hm : n ∈ allB f n := by unfold allB; rw [List.mem_filter, List.mem_range]; exact ⟨by omega, isB_end f n⟩
  obtain ⟨i, hi, he⟩ := List.getElem_of_mem hm
  have hi' : i < bn f n := hi
  have hv : bf f n i = n := by
    unfold bf gl; rw [List.getD_eq_getElem?_getD, List.getElem?_map, List.getElem?_eq_getElem hi, he]; rfl
  by_cases e : i = bn f n - 1
  · rw [← e]; exact hv
  · have h1 := bf_up f n i (bn f n - 1) (by omega) (by omega)
    have h2 := bf_bd f n (bn f n - 1) (by omega)
    omega
theorem ends_c (sa : Option Addr) (cap len : Nat) (f : Nat → Int) (w : World) (hl : len < 4294967295) (hr : IsInts w sa (bn f len) (bf f len)) :
    Calls Try.prog 17 #[.slice sa (bn f len) cap, .int .i64 len] w fun e w' => e = .returned (.bool true) ∧ Below w.heap.size w w' := by
  have hb := bn_bd f len
  exact ends_any sa (bn f len) cap (bf f len) len w (by omega) hr hb.1 (bf_zero f len) (bf_last f len) (fun i hi => bf_up f len i (i + 1) (by omega) hi)
/-- two lists that begin alike -/
theorem up_alike {f g : Nat → Int} {n m h : Nat} (hn : h ≤ n) (hm : h ≤ m) (he : ∀ i, i < h → f i = g i) : upL (bf f n) (bn f n) h = upL (bf g m) (bn g m) h := by
  have key : ∀ (f : Nat → Int) (n : Nat), h ≤ n → upL (bf f n) (bn f n) h = ((List.range h).filter (brkB f)).map Int.ofNat := by
    intro f n hn
    unfold upL
    rw [lst_bf, List.filter_map]
    congr 1
    unfold allB
    rw [List.filter_filter]
    rw [show n + 1 = h + (n + 1 - h) from by omega, List.range_add, List.filter_append]
    rw [show List.filter _ (List.map _ (List.range (n + 1 - h))) = [] from ?_, List.append_nil]
    · apply List.filter_congr
      intro k hk
      rw [List.mem_range] at hk
      rw [isB_brk (by omega)]
      simp; omega
    · rw [List.filter_eq_nil_iff]
      intro k hk
      rw [List.mem_map] at hk
      obtain ⟨j, _, rfl⟩ := hk
      simp
      intro h1
      omega
  rw [key f n hn, key g m hm]
  congr 1
  apply List.filter_congr
  intro k hk
  rw [List.mem_range] at hk
  exact brkB_congr k (fun i hi => he i (by omega))
end Go.Proofs.Ytpipcmbfdcbboaa
