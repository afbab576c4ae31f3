/- What is lent to a call (a copy with marks in all the room behind it), copies, equal lists: contracts. Condition: fewer than 2^30 members. -/
import Derived.Test.YtdegdoilpamjjaaDoorBa
import Derived.Deep.RegionHeld3
namespace Go.Proofs.YtdegdoilpamjjaaDoor
open Go.RowKit
/-- block g: c ints' cells, the first k of them f 0, f 1, .. -/
def Rm (w : World) (g c k : Nat) (f : Nat → Int) : Prop := ∃ cs : Array Value, w.heap[g]? = some (.cells cs 3 (0, 0)) ∧ cs.size = c ∧ ∀ i, i < k → cs[i]? = some (.int .i64 (f i))
theorem Rm.lt {w : World} {g c k : Nat} {f : Nat → Int} (h : Rm w g c k f) : g < w.heap.size := by obtain ⟨cs, h1, _⟩ := h; exact heap_lt h1
theorem Rm.block {w w' : World} {g c k : Nat} {f : Nat → Int} (h : Rm w g c k f) (e : w'.heap[g]? = w.heap[g]?) : Rm w' g c k f := by obtain ⟨cs, h1, h2⟩ := h; exact ⟨cs, e.trans h1, h2⟩
theorem Rm.later {w w' : World} {g c k : Nat} {f : Nat → Int} (h : Rm w g c k f) (hb : Below w.heap.size w w') : Rm w' g c k f := h.block (hb.block g h.lt)
theorem Rm.same {w : World} {g c k : Nat} {f f' : Nat → Int} (h : Rm w g c k f) (e : ∀ i, i < k → f i = f' i) : Rm w g c k f' := by obtain ⟨cs, h1, h2, h3⟩ := h; exact ⟨cs, h1, h2, fun i hi => by rw [h3 i hi, e i hi]⟩
theorem Rm.fewer {w : World} {g c k n : Nat} {f : Nat → Int} (h : Rm w g c k f) (hn : n ≤ k) : Rm w g c n f := by obtain ⟨cs, h1, h2, h3⟩ := h; exact ⟨cs, h1, h2, fun i hi => h3 i (by omega)⟩
theorem Rm.set {w : World} {g c k : Nat} {f f' : Nat → Int} {x : Int} (h : Rm w g c k f) (hk : k < c) (hx : f' k = x) (hf : ∀ i, i < k → f' i = f i) : Rm (w.setCell ⟨g, k, none⟩ (.int .i64 x)) g c (k + 1) f' := by
  obtain ⟨cs, h1, h2, h3⟩ := h
  refine ⟨cs.setIfInBounds k (.int .i64 x), block_set _ h1, by simpa using h2, fun i hi => ?_⟩
  rw [Array.getElem?_setIfInBounds]
  by_cases hik : k = i
  · subst hik; rw [if_pos rfl, if_pos (by omega), hx]
  · rw [if_neg hik, hf i (by omega)]; exact h3 i (by omega)
theorem Rm.put {w : World} {g c k : Nat} {f f' : Nat → Int} {x : Int} {j : Nat} (h : Rm w g c k f) (hx : f' j = x) (hf : ∀ i, i ≠ j → f' i = f i) : Rm (w.setCell ⟨g, j, none⟩ (.int .i64 x)) g c k f' := by
  obtain ⟨cs, h1, h2, h3⟩ := h
  refine ⟨cs.setIfInBounds j (.int .i64 x), block_set _ h1, by simpa using h2, fun i hi => ?_⟩
  have h4 := h3 i hi
  have h5 : i < cs.size := by
    refine Classical.byContradiction fun hn => ?_
    rw [Array.getElem?_eq_none (by omega)] at h4; cases h4
  rw [Array.getElem?_setIfInBounds]
  by_cases hik : j = i
  · subst hik; rw [if_pos rfl, if_pos h5, hx]
  · rw [if_neg hik, hf i (fun e => hik e.symm)]; exact h4
theorem Rm.cell {w : World} {g c k : Nat} {f : Nat → Int} (h : Rm w g c k f) {i : Nat} (hi : i < k) : w.cell? ⟨g, i, none⟩ = some (.int .i64 (f i)) := by
  obtain ⟨cs, h1, h2, h3⟩ := h
  rw [block_cell h1]; exact h3 i hi
theorem Rm.has {w : World} {g c k : Nat} {f : Nat → Int} (h : Rm w g c k f) {i : Nat} (hi : i < c) : (∃ v, w.cell? ⟨g, i, none⟩ = some v) ∧ w.frozen? ⟨g, i, none⟩ = false := by
  obtain ⟨cs, h1, h2, h3⟩ := h
  exact ⟨⟨cs[i]'(by omega), by rw [block_cell h1]; simp⟩, block_free h1⟩
theorem Rm.ints {w : World} {g c k : Nat} {f : Nat → Int} (h : Rm w g c k f) {n : Nat} (hn : n ≤ k) : IsInts w (some ⟨g, 0, none⟩) n f := by
  refine .inr ⟨g, 0, rfl, h.lt, fun i hi => ?_⟩
  rw [Nat.zero_add]
  exact h.cell (by omega)
theorem OwnInts.rm {w : World} {base n c : Nat} {s : Option Addr} {f : Nat → Int} (h : OwnInts w base (.slice s n c) (lst f n)) (h0 : 0 < n) : ∃ g, s = some ⟨g, 0, none⟩ ∧ base ≤ g ∧ n ≤ c ∧ c ≤ maxLen ∧ Rm w g c n f := by
  rcases h.2 with ⟨h1, h2⟩ | ⟨g, cap, cur, h1, hg, hgg, hnc, hcm, hcs, htake⟩
  · rw [lst_len] at h2; omega
  · have h' := h
    rw [lst_len] at h1 hnc
    obtain ⟨rfl, _, rfl⟩ := Value.slice.inj h1
    refine ⟨g, rfl, hg, hnc, hcm, cur, hgg, by omega, fun i hi => ?_⟩
    unfold OwnInts at h'
    rw [lst_len] at h'
    have hc := World.ownsRow.cellAt h' i (by omega)
    have hc2 : w.cell? ⟨g, i, none⟩ = cur[i]? := by simp [World.cell?, hgg]
    rw [← hc2, hc, List.getElem?_map, List.getElem?_eq_getElem (by rw [lst_len]; exact hi)]
    simp [lst]
/-- the mark at place i -/
def mkF (i : Nat) : Int := IntKind.i64.wrap (-71 - (i : Int))
theorem mkF_a (i : Nat) : IntKind.i64.wrap (-71 - (i : Int)) = mkF i := rfl
theorem mkF_b (i : Nat) : wrap64 (-71 - (i : Int)) = mkF i := by unfold mkF; rw [← IntWalk.i64_left]
/-- are two lists equal? -/
def sameB (f : Nat → Int) (n : Nat) (g : Nat → Int) (m : Nat) : Bool := decide (lst f n = lst g m)
theorem sameB_refl (f : Nat → Int) (n : Nat) : sameB f n f n = true := decide_eq_true rfl
theorem sameB_of {f g : Nat → Int} {n m : Nat} (h : lst f n = lst g m) : sameB f n g m = true := decide_eq_true h
theorem sameB_not {f g : Nat → Int} {n m : Nat} (h : ¬ lst f n = lst g m) : sameB f n g m = false := decide_eq_false h
set_option maxHeartbeats 1000000 in
theorem same_any (sa sb : Option Addr) (len cap m capb : Nat) (f g : Nat → Int) (w : World) (hl : len ≤ maxLen) (hm : m ≤ maxLen) (hr : IsInts w sa len f) (hs : IsInts w sb m g) :
    Calls Tryd.prog 15 #[.slice sa len cap, .slice sb m capb] w fun e w' => e = .returned (.bool (sameB f len g m)) ∧ Below w.heap.size w w' := by
  unfold maxLen at hl hm
  by_cases hlm : len = m
  · subst hlm
    have HR := Lib.hid hr
    have HS := Lib.hid hs
    clear hr hs
    go_enter Tryd.func15, Tryd.ntmps15
    go_wp2_with fail
    go_loopg [5] len (fun gg i wr => ∃ k : Nat, k + gg = len ∧ i = .int .i64 k ∧ (∀ j, j < k → f j = g j) ∧ Below w.heap.size w wr)
    case atStart => exact ⟨0, by omega, rfl, (fun j hj => absurd hj (Nat.not_lt_zero _)), Below.refl _ _⟩
    case round =>
      obtain ⟨k, hk, rfl, he, hb⟩ := hrel
      have HE := Lib.hid he
      have HB := Lib.hid hb
      clear he hb
      by_cases hlt : k < len
      · obtain ⟨b, off, rfl, hcell⟩ := HR.out.at HB.out hlt
        obtain ⟨b', off', rfl, hcell'⟩ := HS.out.at HB.out hlt
        obtain ⟨x, hx⟩ : ∃ x, f k = x := ⟨_, rfl⟩
        obtain ⟨y, hy⟩ : ∃ y, g k = y := ⟨_, rfl⟩
        rw [hx] at hcell
        rw [hy] at hcell'
        have HX := Lib.hid hx
        have HY := Lib.hid hy
        clear hx hy
        have HB0 := HB.out
        go_wp2_with fail
        go_region_held3 (fun w' => w'.cell? ⟨b, off + k, none⟩ = some (.int .i64 x) ∧ w'.cell? ⟨b', off' + k, none⟩ = some (.int .i64 y) ∧ Below w.heap.size w w')
          (first | exact ⟨hcell, hcell', HB0.drew⟩ | go_keep) (fail)
        rename_i hheld
        have HH := Lib.hid hheld.2.2
        clear hheld HB0 hcell hcell'
        cases hxy : (x != y)
        · go_wp2
          go_roundg (gk - 1)
          case measure => omega
          case rel =>
            refine ⟨k + 1, by omega, by go_num, fun j hj => ?_, HH.out⟩
            by_cases e : j = k
            · rw [e, HX.out, HY.out]; simpa using hxy
            · exact HE.out j (by omega)
        · go_wp2
          go_ret
          refine ⟨ret_bool (sameB_not ?_).symm, HH.out⟩
          intro h
          have := lst_ext h k hlt
          rw [HX.out, HY.out] at this
          simp [this] at hxy
      · go_wp2
        go_ret
        exact ⟨ret_bool (sameB_of (lst_congr (fun j hj => HE.out j (by omega)))).symm, HB.out⟩
  · have hne : ¬ lst f len = lst g m := by
      intro h; have := congrArg List.length h; rw [lst_len, lst_len] at this; exact hlm this
    rw [sameB_not hne]
    clear hr hs hne
    go_enter Tryd.func15, Tryd.ntmps15
    go_wp2
    go_ret
    exact ⟨rfl, Below.refl _ _⟩
set_option maxRecDepth 100000 in
set_option maxHeartbeats 2000000 in
theorem copied_c (sa : Option Addr) (n c : Nat) (f : Nat → Int) (w : World) (hn : n < 4294967296) (hr : IsInts w sa n f) (hnil : sa = none → n = 0 ∧ c = 0) :
    Calls Tryd.prog 31 #[.slice sa n c] w fun e w' => ∃ s c', e = .returned (.slice s n c') ∧ OwnInts w' w.heap.size (.slice s n c') (lst f n) ∧ Below w.heap.size w w' := by
  have HR := Lib.hid hr
  clear hr
  go_enter Tryd.func31, Tryd.ntmps31
  go_wp2_with (first | (at_builtin; refine wpList_append_all rfl _ _ rfl rfl sa n c f rfl HR.out hnil hn w.heap.size (Nat.le_refl _) ?_; intro so co w2 ho hb2 _ _ _; have HO := Lib.hid ho; have HB := Lib.hid hb2; clear ho hb2))
  go_ret
  exact ⟨_, _, rfl, HO.out, HB.out⟩
set_option maxRecDepth 100000 in
set_option maxHeartbeats 2000000 in
theorem lend_c (sa : Option Addr) (n cap : Nat) (f : Nat → Int) (w : World) (hn : n < 1073741824) (hr : IsInts w sa n f) (hnil : sa = none → n = 0 ∧ cap = 0) :
    Calls Tryd.prog 28 #[.slice sa n cap] w fun e w' => ∃ g c, e = .returned (.slice (some ⟨g, 0, none⟩) c c) ∧ w.heap.size ≤ g ∧ n + 40 ≤ c ∧ c ≤ maxLen ∧ Rm w' g c c (fun j => if j < n then f j else mkF j) ∧ Below w.heap.size w w' := by
  have HR := Lib.hid hr
  have HNIL := Lib.hid hnil
  clear hr hnil
  go_enter Tryd.func28, Tryd.ntmps28
  go_wp2_with (first | (at_builtin; refine wpList_append_all rfl _ _ rfl rfl sa n cap f rfl HR.out HNIL.out (by omega) w.heap.size (Nat.le_refl _) ?_; intro so co w2 ho hb2 _ _ _; have HO := Lib.hid ho; have HB := Lib.hid hb2; clear ho hb2))
  go_loopg [3, 4] 40 (fun g cv iv wr => ∃ k : Nat, ∃ sl : Option Addr, ∃ c : Nat, k + g = 40 ∧ cv = .slice sl (n + k) c ∧ iv = .int .i64 k ∧ OwnInts wr w.heap.size (.slice sl (n + k) c) (lst (fun i => if i < n then f i else -71) (n + k)) ∧ Below w.heap.size w wr)
  case atStart => exact ⟨0, so, co, by omega, rfl, rfl, OwnInts.as HO.out (lst_congr (fun i hi => by rw [if_pos (by omega)])), HB.out⟩
  case round =>
    clear HO HB
    obtain ⟨k, sl, c, hk, rfl, rfl, ho, hb⟩ := hrel
    have HO := Lib.hid ho
    have HB := Lib.hid hb
    clear ho hb
    by_cases hlt : k < 40
    · have e1 : (k : Int) < 40 := by omega
      have hpush : lst (fun i => if i < n then f i else -71) (n + k) ++ [-71] = lst (fun i => if i < n then f i else -71) (n + (k + 1)) := by
        rw [show n + (k + 1) = (n + k) + 1 from by omega, lst_succ]
        congr 2
        rw [if_neg (by omega)]
      have HPU := Lib.hid hpush
      clear hpush
      go_wp2_with (first | (at_builtin; refine wpList_push3 _ rfl _ _ rfl w.heap.size _ _ _ _ rfl rfl HO.out (by omega) HB.out.size ?_; intro s' c' w2 ho2 hg2 _; have HB2 := Lib.hid (Below.grown HB.out hg2 HB.out.size (fun q hq => (HO.out.lt q hq).1)); have HO2 := Lib.hid ho2; clear ho2 hg2))
      go_roundg (gk - 1)
      case measure => omega
      case rel => exact ⟨k + 1, _, _, by omega, rfl, by go_num, OwnInts.as HO2.out HPU.out, HB2.out⟩
    · obtain rfl : k = 40 := by omega
      obtain ⟨g, rfl, hg0, hnc, hcm, hrm⟩ := HO.out.rm (by omega)
      have hcb : c ≤ 9223372036854775807 := by unfold maxLen at hcm; omega
      have q0 : (0 : Int) ≤ (c : Int) := by omega
      clear hk hlt
      have HRM := Lib.hid hrm
      clear hrm
      go_wp2_with fail
      go_loopg [5] (c - n) (fun gg iv wz => ∃ i : Nat, i + gg = c ∧ n ≤ i ∧ iv = .int .i64 i ∧ Rm wz g c i (fun j => if j < n then f j else mkF j) ∧ Below w.heap.size w wz)
      case atStart =>
        refine ⟨n, by omega, Nat.le_refl _, rfl, ?_, HB.out⟩
        obtain ⟨cs, h1, h2, h3⟩ := HRM.out
        exact ⟨cs, h1, h2, fun j hj => by
          rw [h3 j (by omega)]
          show some (Value.int .i64 (if j < n then f j else -71)) = some (.int .i64 (if j < n then f j else mkF j))
          rw [if_pos hj, if_pos hj]⟩
      case round =>
        clear HB HRM HO
        obtain ⟨i, hgi, hni, rfl, hrm, hb⟩ := hrel
        have HRM := Lib.hid hrm
        have HB := Lib.hid hb
        clear hrm hb
        by_cases hic : i < c
        · obtain ⟨⟨v0, c0⟩, f0⟩ := HRM.out.has hic
          have m1 := mkF_a i
          have m2 := mkF_b i
          have q1 : (i : Int) < (c : Int) := by omega
          go_wp2
          go_roundg (gk - 1)
          case measure => omega
          case rel => exact ⟨i + 1, by omega, by omega, by go_num, HRM.out.set hic (by rw [if_neg (by omega)]) (fun j hj => rfl), HB.out.setCell hg0 _⟩
        · obtain rfl : c = i := by omega
          clear hic hgi
          go_wp2
          go_ret
          exact ⟨g, c, rfl, hg0, by omega, hcm, HRM.out, HB.out⟩
/-- what kept leaves at place i -/
def abF (i : Nat) : Int := 97 + (i : Int) % 2
set_option maxRecDepth 100000 in
set_option maxHeartbeats 2000000 in
theorem kept_c (g c n cap : Nat) (sl : Option Addr) (f F : Nat → Int) (w : World) (hnc : n + 40 ≤ c) (hcm : c ≤ maxLen) (hrm : Rm w g c c F) (hr : IsInts w sl n f) (hF : ∀ j, j < c → F j = if j < n then f j else mkF j) :
    Calls Tryd.prog 30 #[.slice (some ⟨g, 0, none⟩) c c, .slice sl n cap] w fun e w' => e = .returned (.bool true) ∧ Rm w' g c c abF ∧ (∀ B, B ≤ g → B ≤ w.heap.size → Below B w w') ∧ (∀ b, b < w.heap.size → b ≠ g → w'.heap[b]? = w.heap[b]?) := by
  have hcb : c ≤ 9223372036854775807 := by unfold maxLen at hcm; omega
  have hnm : n ≤ maxLen := by omega
  have HRM := Lib.hid hrm
  have HR := Lib.hid hr
  have HF := Lib.hid hF
  clear hrm hr hF
  have e0 : ¬ (c : Int) < (n : Int) + 40 := by omega
  have e1 : (n : Int) ≤ (c : Int) := by omega
  go_enter Tryd.func30, Tryd.ntmps30
  go_wp2_with (go_at_call 15; refine (same_any (some ⟨g, 0, none⟩) sl n c n cap (fun j => F j) f _ hnm hnm (HRM.out.ints (by omega)) HR.out).mono ?_; rintro e w1 ⟨rfl, hb1⟩; rw [sameB_of (lst_congr (fun j hj => by rw [HF.out j (by omega), if_pos hj]))])
  have HB1 := Lib.hid hb1
  have HRM1 := Lib.hid (HRM.out.later hb1)
  clear hb1
  go_loopg [6, 7] (c - n) (fun gg ov iv wz => ∃ i : Nat, i + gg = c ∧ n ≤ i ∧ ov = .bool true ∧ iv = .int .i64 i ∧ w1 = wz)
  case atStart => exact ⟨n, by omega, Nat.le_refl _, rfl, rfl, rfl⟩
  case round =>
    obtain ⟨i, hgi, hni, rfl, rfl, rfl⟩ := hrel
    by_cases hic : i < c
    · have c0 := HRM1.out.cell hic
      rw [HF.out i hic, if_neg (by omega)] at c0
      have m1 := mkF_a i
      have m2 := mkF_b i
      have q1 : (i : Int) < (c : Int) := by omega
      go_wp2
      go_roundg (gk - 1)
      case measure => omega
      case rel => exact ⟨i + 1, by omega, by omega, rfl, by go_num, rfl⟩
    · obtain rfl : c = i := by omega
      clear hic hgi
      go_wp2_with fail
      go_loopg [8] c (fun gg iv wz => ∃ i : Nat, i + gg = c ∧ iv = .int .i64 i ∧ Rm wz g c c (fun j => if j < i then abF j else F j) ∧ (∀ B, B ≤ g → B ≤ w.heap.size → Below B w wz) ∧ (∀ b, b < w.heap.size → b ≠ g → wz.heap[b]? = w.heap[b]?))
      case atStart => exact ⟨0, by omega, rfl, HRM1.out.same (fun j hj => by rw [if_neg (by omega)]), fun B hB hs => HB1.out.mono hs, fun b hb hne => HB1.out.block b hb⟩
      case round =>
        clear HB1 HRM1
        obtain ⟨i, hgi, rfl, hrm, hb, hk⟩ := hrel
        have HRM := Lib.hid hrm
        have HB := Lib.hid hb
        have HK := Lib.hid hk
        clear hrm hb hk
        by_cases hic : i < c
        · obtain ⟨⟨v0, c0⟩, f0⟩ := HRM.out.has hic
          have q1 : (i : Int) < (c : Int) := by omega
          go_wp2
          go_roundg (gk - 1)
          case measure => omega
          case rel =>
            refine ⟨i + 1, by omega, by go_num, HRM.out.put (by rw [if_pos (by omega)]; rfl) (fun j hj => ?_), fun B h1 h2 => (HB.out B h1 h2).setCell h1 _, fun b h1 h2 => (Below.heap_setCell _ ⟨g, i, none⟩ _ b h2).trans (HK.out b h1 h2)⟩
            by_cases hji : j < i
            · rw [if_pos (by omega), if_pos hji]
            · rw [if_neg (by omega), if_neg hji]
        · obtain rfl : c = i := by omega
          clear hic hgi
          go_wp2
          go_ret
          exact ⟨rfl, HRM.out.same (fun j hj => by rw [if_pos hj]), HB.out, HK.out⟩
end Go.Proofs.YtdegdoilpamjjaaDoor
