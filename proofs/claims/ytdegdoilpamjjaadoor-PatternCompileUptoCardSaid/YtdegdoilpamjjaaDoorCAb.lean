/- What is lent to a call (a copy with marks in all the room behind it), copies, equal lists: contracts. Condition: fewer than 2^30 members. Plain law: what stands in a match's place: the program's way (what is given is cut) and the document's (it is not given) answer alike. No program. Contracts: glyph.Class, Conjunct, Word, Width. No condition. Contracts: glyph.Upper, Lower, Turn, in a world in which the three table variables hold what the text lays.  Contracts: pattern.digit, isLetter. No condition. What the row tells of the tables: the table variables hold what the text lays. Contracts of the pattern's reader: peek, next, escaped, kind's letters. Condition: no more than 2^30 ints. Contracts of the pattern's reader: number, hex. Condition: no more than 2^30 ints. -/
import Derived.Deep.RegionHeld3
import Derived.KernelRfl
import Derived.Laws.Rows
import Derived.Lib.LaidTab
import Derived.BigQuiet
import Derived.Deep.DeepCutAuto
import Derived.Deep.CutBlock
import Derived.Deep.CutRange
import Derived.Test.YtdegdoilpamjjaaDoorCAa
namespace Go.Proofs.YtdegdoilpamjjaaDoor
open Go.RowKit
def Rm (w : World) (g c k : Nat) (f : Nat → Int) : Prop := ∃ cs : Array Value, w.heap[g]? = some (.cells cs 3 (0, 0)) ∧ cs.size = c ∧ ∀ i, i < k → cs[i]? = some (.int .i64 (f i))
theorem Rm.lt {w : World} {g c k : Nat} {f : Nat → Int} (h : Rm w g c k f) : g < w.heap.size := by obtain ⟨cs, h1, _⟩ := h; exact heap_lt h1
theorem Rm.block {w w' : World} {g c k : Nat} {f : Nat → Int} (h : Rm w g c k f) (e : w'.heap[g]? = w.heap[g]?) : Rm w' g c k f := by obtain ⟨cs, h1, h2⟩ := h; exact ⟨cs, e.trans h1, h2⟩
theorem Rm.later {w w' : World} {g c k : Nat} {f : Nat → Int} (h : Rm w g c k f) (hb : Below w.heap.size w w') : Rm w' g c k f := h.block (hb.block g h.lt)
theorem Rm.same {w : World} {g c k : Nat} {f f' : Nat → Int} (h : Rm w g c k f) (e : ∀ i, i < k → f i = f' i) : Rm w g c k f' := by obtain ⟨cs, h1, h2, h3⟩ := h; exact ⟨cs, h1, h2, fun i hi => by rw [h3 i hi, e i hi]⟩
theorem Rm.set {w : World} {g c k : Nat} {f f' : Nat → Int} {x : Int} (h : Rm w g c k f) (hk : k < c) (hx : f' k = x) (hf : ∀ i, i < k → f' i = f i) : Rm (w.setCell ⟨g, k, none⟩ (.int .i64 x)) g c (k + 1) f' := by
 obtain ⟨cs, h1, h2, h3⟩ := h
 refine ⟨cs.setIfInBounds k (.int .i64 x), block_set _ h1, by simpa using h2, fun i hi => ?_⟩
 rw [Array.getElem?_setIfInBounds]
 by_cases hik : k = i
 · subst hik; rw [if_pos rfl, if_pos (by omega), hx]
 · rw [if_neg hik, hf i (by omega)]; exact h3 i (by omega)
theorem Rm.put {w : World} {g c k : Nat} {f f' : Nat → Int} {x : Int} {j : Nat} (h : Rm w g c k f) (hx : f' j = x) (hf : ∀ i, i ≠ j → f' i = f i) : Rm (w.setCell ⟨g, j, none⟩ (.int .i64 x)) g c k f' := by
 obtain ⟨cs, h1, h2, h3⟩ := h
 refine ⟨cs.setIfInBounds j (.int .i64 x), block_set _ h1, by simpa using h2, fun i hi => ?_⟩
 have h4 := h3 i hi
 have h5 : i < cs.size := by
  refine Classical.byContradiction fun hn => ?_
  rw [Array.getElem?_eq_none (by omega)] at h4; cases h4
 rw [Array.getElem?_setIfInBounds]
 by_cases hik : j = i
 · subst hik; rw [if_pos rfl, if_pos h5, hx]
 · rw [if_neg hik, hf i (fun e => hik e.symm)]; exact h4
theorem Rm.cell {w : World} {g c k : Nat} {f : Nat → Int} (h : Rm w g c k f) {i : Nat} (hi : i < k) : w.cell? ⟨g, i, none⟩ = some (.int .i64 (f i)) := by
 obtain ⟨cs, h1, h2, h3⟩ := h
 rw [block_cell h1]; exact h3 i hi
theorem Rm.has {w : World} {g c k : Nat} {f : Nat → Int} (h : Rm w g c k f) {i : Nat} (hi : i < c) : (∃ v, w.cell? ⟨g, i, none⟩ = some v) ∧ w.frozen? ⟨g, i, none⟩ = false := by
 obtain ⟨cs, h1, h2, h3⟩ := h
 exact ⟨⟨cs[i]'(by omega), by rw [block_cell h1]; simp⟩, block_free h1⟩
theorem Rm.ints {w : World} {g c k : Nat} {f : Nat → Int} (h : Rm w g c k f) {n : Nat} (hn : n ≤ k) : IsInts w (some ⟨g, 0, none⟩) n f := by
 refine .inr ⟨g, 0, rfl, h.lt, fun i hi => ?_⟩
 rw [Nat.zero_add]
 exact h.cell (by omega)
theorem OwnInts.rm {w : World} {base n c : Nat} {s : Option Addr} {f : Nat → Int} (h : OwnInts w base (.slice s n c) (lst f n)) (h0 : 0 < n) : ∃ g, s = some ⟨g, 0, none⟩ ∧ base ≤ g ∧ n ≤ c ∧ c ≤ maxLen ∧ Rm w g c n f := by
 rcases h.2 with ⟨h1, h2⟩ | ⟨g, cap, cur, h1, hg, hgg, hnc, hcm, hcs, htake⟩
 · rw [lst_len] at h2; omega
 ·
  have h' := h
  rw [lst_len] at h1 hnc
  obtain ⟨rfl, _, rfl⟩ := Value.slice.inj h1
  refine ⟨g, rfl, hg, hnc, hcm, cur, hgg, by omega, fun i hi => ?_⟩
  unfold OwnInts at h'
  rw [lst_len] at h'
  have hc := World.ownsRow.cellAt h' i (by omega)
  have hc2 : w.cell? ⟨g, i, none⟩ = cur[i]? := by simp [World.cell?, hgg]
  rw [← hc2, hc, List.getElem?_map, List.getElem?_eq_getElem (by rw [lst_len]; exact hi)]
  simp [lst]
def mkF (i : Nat) : Int := IntKind.i64.wrap (-71 - (i : Int))
theorem mkF_a (i : Nat) : IntKind.i64.wrap (-71 - (i : Int)) = mkF i := rfl
theorem mkF_b (i : Nat) : wrap64 (-71 - (i : Int)) = mkF i := by unfold mkF; rw [← IntWalk.i64_left]
def sameB (f : Nat → Int) (n : Nat) (g : Nat → Int) (m : Nat) : Bool := decide (lst f n = lst g m)
theorem sameB_of {f g : Nat → Int} {n m : Nat} (h : lst f n = lst g m) : sameB f n g m = true := decide_eq_true h
theorem sameB_not {f g : Nat → Int} {n m : Nat} (h : ¬ lst f n = lst g m) : sameB f n g m = false := decide_eq_false h
set_option maxHeartbeats 1000000 in
theorem same_any (sa sb : Option Addr) (len cap m capb : Nat) (f g : Nat → Int) (w : World) (hl : len ≤ maxLen) (hm : m ≤ maxLen) (hr : IsInts w sa len f) (hs : IsInts w sb m g) :
  Calls Tryd.prog 15 #[.slice sa len cap, .slice sb m capb] w fun e w' => e = .returned (.bool (sameB f len g m)) ∧ Below w.heap.size w w' := by
 unfold maxLen at hl hm
 by_cases hlm : len = m
 ·
  subst hlm
  have HR := Lib.hid hr
  have HS := Lib.hid hs
  clear hr hs
  go_enter Tryd.func15, Tryd.ntmps15
  go_wp2_with fail
  go_loopg [5] len (fun gg i wr => ∃ k : Nat, k + gg = len ∧ i = .int .i64 k ∧ (∀ j, j < k → f j = g j) ∧ Below w.heap.size w wr)
  case atStart => exact ⟨0, by omega, rfl, (fun j hj => absurd hj (Nat.not_lt_zero _)), Below.refl _ _⟩
  case round =>
   obtain ⟨k, hk, rfl, he, hb⟩ := hrel
   have HE := Lib.hid he
   have HB := Lib.hid hb
   clear he hb
   by_cases hlt : k < len
   ·
    obtain ⟨b, off, rfl, hcell⟩ := HR.out.at HB.out hlt
    obtain ⟨b', off', rfl, hcell'⟩ := HS.out.at HB.out hlt
    obtain ⟨x, hx⟩ : ∃ x, f k = x := ⟨_, rfl⟩
    obtain ⟨y, hy⟩ : ∃ y, g k = y := ⟨_, rfl⟩
    rw [hx] at hcell
    rw [hy] at hcell'
    have HX := Lib.hid hx
    have HY := Lib.hid hy
    clear hx hy
    have HB0 := HB.out
    go_wp2_with fail
    go_region_held3 (fun w' => w'.cell? ⟨b, off + k, none⟩ = some (.int .i64 x) ∧ w'.cell? ⟨b', off' + k, none⟩ = some (.int .i64 y) ∧ Below w.heap.size w w')
     (first | exact ⟨hcell, hcell', HB0.drew⟩ | go_keep) (fail)
    rename_i hheld
    have HH := Lib.hid hheld.2.2
    clear hheld HB0 hcell hcell'
    cases hxy : (x != y)
    ·
     go_wp2
     go_roundg (gk - 1)
     case measure => omega
     case rel =>
      refine ⟨k + 1, by omega, by go_num, fun j hj => ?_, HH.out⟩
      by_cases e : j = k
      · rw [e, HX.out, HY.out]; simpa using hxy
      · exact HE.out j (by omega)
    ·
     go_wp2
     go_ret
     refine ⟨ret_bool (sameB_not ?_).symm, HH.out⟩
     intro h
     have := lst_ext h k hlt
     rw [HX.out, HY.out] at this
     simp [this] at hxy
   ·
    go_wp2
    go_ret
    exact ⟨ret_bool (sameB_of (lst_congr (fun j hj => HE.out j (by omega)))).symm, HB.out⟩
 ·
  have hne : ¬ lst f len = lst g m := by
   intro h; have := congrArg List.length h; rw [lst_len, lst_len] at this; exact hlm this
  rw [sameB_not hne]
  clear hr hs hne
  go_enter Tryd.func15, Tryd.ntmps15
  go_wp2
  go_ret
  exact ⟨rfl, Below.refl _ _⟩
set_option maxRecDepth 100000 in
set_option maxHeartbeats 2000000 in
theorem copied_c (sa : Option Addr) (n c : Nat) (f : Nat → Int) (w : World) (hn : n < 4294967296) (hr : IsInts w sa n f) (hnil : sa = none → n = 0 ∧ c = 0) :
  Calls Tryd.prog 31 #[.slice sa n c] w fun e w' => ∃ s c', e = .returned (.slice s n c') ∧ OwnInts w' w.heap.size (.slice s n c') (lst f n) ∧ Below w.heap.size w w' := by
 have HR := Lib.hid hr
 clear hr
 go_enter Tryd.func31, Tryd.ntmps31
 go_wp2_with (first | (at_builtin; refine wpList_append_all rfl _ _ rfl rfl sa n c f rfl HR.out hnil hn w.heap.size (Nat.le_refl _) ?_; intro so co w2 ho hb2 _ _ _; have HO := Lib.hid ho; have HB := Lib.hid hb2; clear ho hb2))
 go_ret
 exact ⟨_, _, rfl, HO.out, HB.out⟩
set_option maxRecDepth 100000 in
set_option maxHeartbeats 2000000 in
theorem lend_c (sa : Option Addr) (n cap : Nat) (f : Nat → Int) (w : World) (hn : n < 1073741824) (hr : IsInts w sa n f) (hnil : sa = none → n = 0 ∧ cap = 0) :
  Calls Tryd.prog 28 #[.slice sa n cap] w fun e w' => ∃ g c, e = .returned (.slice (some ⟨g, 0, none⟩) c c) ∧ w.heap.size ≤ g ∧ n + 40 ≤ c ∧ c ≤ maxLen ∧ Rm w' g c c (fun j => if j < n then f j else mkF j) ∧ Below w.heap.size w w' := by
 have HR := Lib.hid hr
 have HNIL := Lib.hid hnil
 clear hr hnil
 go_enter Tryd.func28, Tryd.ntmps28
 go_wp2_with (first | (at_builtin; refine wpList_append_all rfl _ _ rfl rfl sa n cap f rfl HR.out HNIL.out (by omega) w.heap.size (Nat.le_refl _) ?_; intro so co w2 ho hb2 _ _ _; have HO := Lib.hid ho; have HB := Lib.hid hb2; clear ho hb2))
 go_loopg [3, 4] 40 (fun g cv iv wr => ∃ k : Nat, ∃ sl : Option Addr, ∃ c : Nat, k + g = 40 ∧ cv = .slice sl (n + k) c ∧ iv = .int .i64 k ∧ OwnInts wr w.heap.size (.slice sl (n + k) c) (lst (fun i => if i < n then f i else -71) (n + k)) ∧ Below w.heap.size w wr)
 case atStart => exact ⟨0, so, co, by omega, rfl, rfl, OwnInts.as HO.out (lst_congr (fun i hi => by rw [if_pos (by omega)])), HB.out⟩
 case round =>
  clear HO HB
  obtain ⟨k, sl, c, hk, rfl, rfl, ho, hb⟩ := hrel
  have HO := Lib.hid ho
  have HB := Lib.hid hb
  clear ho hb
  by_cases hlt : k < 40
  ·
   have e1 : (k : Int) < 40 := by omega
   have hpush : lst (fun i => if i < n then f i else -71) (n + k) ++ [-71] = lst (fun i => if i < n then f i else -71) (n + (k + 1)) := by
    rw [show n + (k + 1) = (n + k) + 1 from by omega, lst_succ]
    congr 2
    rw [if_neg (by omega)]
   have HPU := Lib.hid hpush
   clear hpush
   go_wp2_with (first | (at_builtin; refine wpList_push3 _ rfl _ _ rfl w.heap.size _ _ _ _ rfl rfl HO.out (by omega) HB.out.size ?_; intro s' c' w2 ho2 hg2 _; have HB2 := Lib.hid (Below.grown HB.out hg2 HB.out.size (fun q hq => (HO.out.lt q hq).1)); have HO2 := Lib.hid ho2; clear ho2 hg2))
   go_roundg (gk - 1)
   case measure => omega
   case rel => exact ⟨k + 1, _, _, by omega, rfl, by go_num, OwnInts.as HO2.out HPU.out, HB2.out⟩
  ·
   obtain rfl : k = 40 := by omega
   obtain ⟨g, rfl, hg0, hnc, hcm, hrm⟩ := HO.out.rm (by omega)
   have hcb : c ≤ 9223372036854775807 := by unfold maxLen at hcm; omega
   have q0 : (0 : Int) ≤ (c : Int) := by omega
   clear hk hlt
   have HRM := Lib.hid hrm
   clear hrm
   go_wp2_with fail
   go_loopg [5] (c - n) (fun gg iv wz => ∃ i : Nat, i + gg = c ∧ n ≤ i ∧ iv = .int .i64 i ∧ Rm wz g c i (fun j => if j < n then f j else mkF j) ∧ Below w.heap.size w wz)
   case atStart =>
    refine ⟨n, by omega, Nat.le_refl _, rfl, ?_, HB.out⟩
    obtain ⟨cs, h1, h2, h3⟩ := HRM.out
    exact ⟨cs, h1, h2, fun j hj => by
     rw [h3 j (by omega)]
     show some (Value.int .i64 (if j < n then f j else -71)) = some (.int .i64 (if j < n then f j else mkF j))
     rw [if_pos hj, if_pos hj]⟩
   case round =>
    clear HB HRM HO
    obtain ⟨i, hgi, hni, rfl, hrm, hb⟩ := hrel
    have HRM := Lib.hid hrm
    have HB := Lib.hid hb
    clear hrm hb
    by_cases hic : i < c
    ·
     obtain ⟨⟨v0, c0⟩, f0⟩ := HRM.out.has hic
     have m1 := mkF_a i
     have m2 := mkF_b i
     have q1 : (i : Int) < (c : Int) := by omega
     go_wp2
     go_roundg (gk - 1)
     case measure => omega
     case rel => exact ⟨i + 1, by omega, by omega, by go_num, HRM.out.set hic (by rw [if_neg (by omega)]) (fun j hj => rfl), HB.out.setCell hg0 _⟩
    ·
     obtain rfl : c = i := by omega
     clear hic hgi
     go_wp2
     go_ret
     exact ⟨g, c, rfl, hg0, by omega, hcm, HRM.out, HB.out⟩
def abF (i : Nat) : Int := 97 + (i : Int) % 2
set_option maxRecDepth 100000 in
set_option maxHeartbeats 2000000 in
theorem kept_c (g c n cap : Nat) (sl : Option Addr) (f F : Nat → Int) (w : World) (hnc : n + 40 ≤ c) (hcm : c ≤ maxLen) (hrm : Rm w g c c F) (hr : IsInts w sl n f) (hF : ∀ j, j < c → F j = if j < n then f j else mkF j) :
  Calls Tryd.prog 30 #[.slice (some ⟨g, 0, none⟩) c c, .slice sl n cap] w fun e w' => e = .returned (.bool true) ∧ Rm w' g c c abF ∧ (∀ B, B ≤ g → B ≤ w.heap.size → Below B w w') ∧ (∀ b, b < w.heap.size → b ≠ g → w'.heap[b]? = w.heap[b]?) := by
 have hcb : c ≤ 9223372036854775807 := by unfold maxLen at hcm; omega
 have hnm : n ≤ maxLen := by omega
 have HRM := Lib.hid hrm
 have HR := Lib.hid hr
 have HF := Lib.hid hF
 clear hrm hr hF
 have e0 : ¬ (c : Int) < (n : Int) + 40 := by omega
 have e1 : (n : Int) ≤ (c : Int) := by omega
 go_enter Tryd.func30, Tryd.ntmps30
 go_wp2_with (go_at_call 15; refine (same_any (some ⟨g, 0, none⟩) sl n c n cap (fun j => F j) f _ hnm hnm (HRM.out.ints (by omega)) HR.out).mono ?_; rintro e w1 ⟨rfl, hb1⟩; rw [sameB_of (lst_congr (fun j hj => by rw [HF.out j (by omega), if_pos hj]))])
 have HB1 := Lib.hid hb1
 have HRM1 := Lib.hid (HRM.out.later hb1)
 clear hb1
 go_loopg [6, 7] (c - n) (fun gg ov iv wz => ∃ i : Nat, i + gg = c ∧ n ≤ i ∧ ov = .bool true ∧ iv = .int .i64 i ∧ w1 = wz)
 case atStart => exact ⟨n, by omega, Nat.le_refl _, rfl, rfl, rfl⟩
 case round =>
  obtain ⟨i, hgi, hni, rfl, rfl, rfl⟩ := hrel
  by_cases hic : i < c
  ·
   have c0 := HRM1.out.cell hic
   rw [HF.out i hic, if_neg (by omega)] at c0
   have m1 := mkF_a i
   have m2 := mkF_b i
   have q1 : (i : Int) < (c : Int) := by omega
   go_wp2
   go_roundg (gk - 1)
   case measure => omega
   case rel => exact ⟨i + 1, by omega, by omega, rfl, by go_num, rfl⟩
  ·
   obtain rfl : c = i := by omega
   clear hic hgi
   go_wp2_with fail
   go_loopg [8] c (fun gg iv wz => ∃ i : Nat, i + gg = c ∧ iv = .int .i64 i ∧ Rm wz g c c (fun j => if j < i then abF j else F j) ∧ (∀ B, B ≤ g → B ≤ w.heap.size → Below B w wz) ∧ (∀ b, b < w.heap.size → b ≠ g → wz.heap[b]? = w.heap[b]?))
   case atStart => exact ⟨0, by omega, rfl, HRM1.out.same (fun j hj => by rw [if_neg (by omega)]), fun B hB hs => HB1.out.mono hs, fun b hb hne => HB1.out.block b hb⟩
   case round =>
    clear HB1 HRM1
    obtain ⟨i, hgi, rfl, hrm, hb, hk⟩ := hrel
    have HRM := Lib.hid hrm
    have HB := Lib.hid hb
    have HK := Lib.hid hk
    clear hrm hb hk
    by_cases hic : i < c
    ·
     obtain ⟨⟨v0, c0⟩, f0⟩ := HRM.out.has hic
     have q1 : (i : Int) < (c : Int) := by omega
     go_wp2
     go_roundg (gk - 1)
     case measure => omega
     case rel =>
      refine ⟨i + 1, by omega, by go_num, HRM.out.put (by rw [if_pos (by omega)]; rfl) (fun j hj => ?_), fun B h1 h2 => (HB.out B h1 h2).setCell h1 _, fun b h1 h2 => (Below.heap_setCell _ ⟨g, i, none⟩ _ b h2).trans (HK.out b h1 h2)⟩
      by_cases hji : j < i
      · rw [if_pos (by omega), if_pos hji]
      · rw [if_neg (by omega), if_neg hji]
    ·
     obtain rfl : c = i := by omega
     clear hic hgi
     go_wp2
     go_ret
     exact ⟨rfl, HRM.out.same (fun j hj => by rw [if_pos hj]), HB.out, HK.out⟩
end Go.Proofs.YtdegdoilpamjjaaDoor
namespace Go.Proofs.YtdegdoilpamjjaaDoor
structure FS where
 out : List Int
 once : Nat
 stay : Nat
def caseF (how : Nat) (a : Int) : Int := if how = 1 then upperF a else if how = 2 then lowerF a else a
def howS (s : FS) : Nat := if s.once = 0 then s.stay else s.once
def giveP (s : FS) (a : Int) : FS := ⟨(s.out ++ [caseF (howS s) a]).take 140001, 0, s.stay⟩
def giveD (s : FS) (a : Int) : FS := ⟨s.out ++ [caseF (howS s) a], 0, s.stay⟩
def hexV (c : Int) : Int := if 48 ≤ c ∧ c ≤ 57 then c - 48 else if 97 ≤ c ∧ c ≤ 102 then c - 87 else if 65 ≤ c ∧ c ≤ 70 then c - 55 else -1
theorem hexV_le (c : Int) : -1 ≤ hexV c ∧ hexV c ≤ 15 := by unfold hexV; repeat' split <;> omega
def letB (c : Int) : Bool := decide (48 ≤ c ∧ c ≤ 57 ∨ 97 ≤ c ∧ c ≤ 122 ∨ 65 ≤ c ∧ c ≤ 90)
inductive Tok where
 | give (c : Int)
 | group (g : Nat)
 | once (k : Nat)
 | stay (k : Nat)
def Sim (p d : FS) : Prop := p.stay = d.stay ∧ (p.out = d.out ∧ p.once = d.once ∧ d.out.length ≤ 140000 ∨ 140000 < p.out.length ∧ 140000 < d.out.length)
theorem Sim.give {p d : FS} (h : Sim p d) (a : Int) : Sim (giveP p a) (giveD d a) := by
 obtain ⟨h1, h2⟩ := h
 refine ⟨h1, ?_⟩
 rcases h2 with ⟨e1, e2, e3⟩ | ⟨e1, e2⟩
 ·
  have hh : howS p = howS d := by unfold howS; rw [e2, h1]
  have ht : (p.out ++ [caseF (howS p) a]).take 140001 = d.out ++ [caseF (howS d) a] := by
   rw [hh, e1, List.take_of_length_le (by simp; omega)]
  by_cases hl : d.out.length + 1 ≤ 140000
  · exact .inl ⟨ht, rfl, by simp [giveD]; omega⟩
  ·
   refine .inr ⟨?_, by simp [giveD]; omega⟩
   show 140000 < ((p.out ++ [caseF (howS p) a]).take 140001).length
   rw [ht]; simp; omega
 ·
  refine .inr ⟨?_, by simp [giveD]; omega⟩
  show 140000 < ((p.out ++ [caseF (howS p) a]).take 140001).length
  rw [List.length_take]; simp; omega
end Go.Proofs.YtdegdoilpamjjaaDoor
namespace Go.Proofs.YtdegdoilpamjjaaDoor
open Go.RowKit
theorem sought_table (s : ByteArray) (t : List Row) (n : Nat) (a : Int) (w : World) (hs : s.size = 11 * n) (hn : n ≤ 1000) (hk : hexOk s.data.toList = true) (ht : rowsC n s.data.toList = t) (hl : t.length = n) :
  Calls Tryd.prog 100 #[.string s, .int .i64 a] w fun e w' => e = .returned (.int .i64 (sot t a)) ∧ Below w.heap.size w w' :=
 (sought_any s a n w hs hn hk).mono fun e w' ⟨he, hb⟩ => ⟨by rw [he, soughtF_sot ht hl], hb⟩
end Go.Proofs.YtdegdoilpamjjaaDoor
namespace Go.Proofs.YtdegdoilpamjjaaDoor
open Go.RowKit
def Tabs (w : World) : Prop :=
 (∃ t f, w.heap[0]? = some (.cells (i64s oneWayL) t f)) ∧ (∃ t f, w.heap[1]? = some (.cells (i64s distancesL) t f)) ∧ (∃ t f, w.heap[2]? = some (.cells (i64s pairsL) t f))
theorem Tabs.later {w w1 : World} (h : Tabs w) (hb : Below w.heap.size w w1) : Tabs w1 := by
 obtain ⟨⟨t0, f0, h0⟩, ⟨t1, f1, h1⟩, ⟨t2, f2, h2⟩⟩ := h
 exact ⟨⟨t0, f0, (hb.block _ (heap_lt h0)).trans h0⟩, ⟨t1, f1, (hb.block _ (heap_lt h1)).trans h1⟩, ⟨t2, f2, (hb.block _ (heap_lt h2)).trans h2⟩⟩
theorem ext3 (l : List Int) (k : Nat) (h : k * 3 + 2 < l.length) : (i64s l).extract (k * 3) (k * 3 + 3) = #[.int .i64 (l.getD (k * 3) 0), .int .i64 (l.getD (k * 3 + 1) 0), .int .i64 (l.getD (k * 3 + 2) 0)] := by
 apply Array.ext
 · simp [i64s]; omega
 ·
  intro i h1 h2
  have h3 : i = 0 ∨ i = 1 ∨ i = 2 := by simp at h2; omega
  rcases h3 with rfl | rfl | rfl <;> simp [i64s, List.getD_eq_getElem?_getD, List.getElem?_eq_getElem (show k * 3 < l.length by omega), List.getElem?_eq_getElem (show k * 3 + 1 < l.length by omega), List.getElem?_eq_getElem h]
theorem ext2 (l : List Int) (k : Nat) (h : k * 2 + 1 < l.length) : (i64s l).extract (k * 2) (k * 2 + 2) = #[.int .i64 (l.getD (k * 2) 0), .int .i64 (l.getD (k * 2 + 1) 0)] := by
 apply Array.ext
 · simp [i64s]; omega
 ·
  intro i h1 h2
  have h3 : i = 0 ∨ i = 1 := by simp at h2; omega
  rcases h3 with rfl | rfl <;> simp [i64s, List.getD_eq_getElem?_getD, List.getElem?_eq_getElem (show k * 2 < l.length by omega), List.getElem?_eq_getElem h]
theorem run_index_row {t e : TypeId} {n m : Nat} (ht : Tryd.prog.underlying t = some (.array n e)) (he : ∃ q c, Tryd.prog.underlying e = some (.array q c)) (hs : (Tryd.prog.info? e).map (·.size) = some m)
  (cs : Array Value) (k : Nat) (hk : k < n) (w : World) : (Instr.index t (.agg cs) (.int .i64 k)).run Tryd.prog w = .ok (.agg (cs.extract (k * m) (k * m + m))) w := by
 obtain ⟨q, c, he⟩ := he
 cases hq : Tryd.prog.info? e with
 | none => simp [hq] at hs
 | some i =>
  have hi : i.size = m := by simpa [hq] using hs
  have hagg : (isAgg e).run Tryd.prog w = .ok true w := by
   unfold isAgg
   rw [Sem.run_bind, run_underlying he w]
   simp
  have hsz : (sizeOf e).run Tryd.prog w = .ok m w := by simp [sizeOf, typeInfo, hq, hi]
  simp [Instr.index, asIntOf, run_underlying ht, hk, part, hagg, hsz]
theorem ix_one (k : Nat) (hk : k < 9) (w : World) : (Instr.index 148 (.agg (i64s oneWayL)) (.int .i64 k)).run Tryd.prog w = .ok (.agg #[.int .i64 (L0 (k * 3)), .int .i64 (L0 (k * 3 + 1)), .int .i64 (L0 (k * 3 + 2))]) w := by
 rw [run_index_row Tryd.underlying148 ⟨_, _, Tryd.underlying147⟩ (m := 3) (by kernel_rfl) _ k hk w, ext3 _ k (by have : oneWayL.length = 27 := rfl; omega)]; rfl
theorem ix_dist (k : Nat) (hk : k < 19) (w : World) : (Instr.index 149 (.agg (i64s distancesL)) (.int .i64 k)).run Tryd.prog w = .ok (.agg #[.int .i64 (L1 (k * 3)), .int .i64 (L1 (k * 3 + 1)), .int .i64 (L1 (k * 3 + 2))]) w := by
 rw [run_index_row Tryd.underlying149 ⟨_, _, Tryd.underlying147⟩ (m := 3) (by kernel_rfl) _ k hk w, ext3 _ k (by have : distancesL.length = 57 := rfl; omega)]; rfl
theorem ix_pair (k : Nat) (hk : k < 19) (w : World) : (Instr.index 151 (.agg (i64s pairsL)) (.int .i64 k)).run Tryd.prog w = .ok (.agg #[.int .i64 (L2 (k * 2)), .int .i64 (L2 (k * 2 + 1))]) w := by
 rw [run_index_row Tryd.underlying151 ⟨_, _, Tryd.underlying150⟩ (m := 2) (by kernel_rfl) _ k hk w, ext2 _ k (by have : pairsL.length = 38 := rfl; omega)]; rfl
set_option maxRecDepth 100000 in
set_option maxHeartbeats 8000000 in
theorem great_any (a : Int) (h0 : 0 ≤ a) (h1 : a ≤ 1114111) (w : World) (ht : Tabs w) :
  Calls Tryd.prog 73 #[.int .i64 a] w fun e w' => e = .returned (.int .i64 (greatF a)) ∧ Below w.heap.size w w' := by
 have HT := Lib.hid ht
 obtain ⟨t0, f0, e0⟩ := ht.1
 clear ht
 have E0 := Lib.hid e0
 clear e0
 go_enter Tryd.func73, Tryd.ntmps73
 go_wp2_with (refine wpList_load_row rfl 148 _ rfl 0 rfl _ _ _ _ E0.out Tryd.underlying148 rfl (by kernel_rfl) ?_)
 go_loopg [11] 9 (fun g i wr => ∃ k : Nat, k ≤ 9 ∧ g = 9 - k ∧ i = .int .i64 k ∧ Below w.heap.size w wr ∧ seek (one0 a) (9 - k) k = seek (one0 a) 9 0)
 case atStart => exact ⟨0, by omega, by omega, rfl, Below.refl _ _, rfl⟩
 case round =>
  obtain ⟨k, hk, rfl, rfl, hb, hs⟩ := hrel
  have HB := Lib.hid hb
  have HS := Lib.hid hs
  clear hb hs
  by_cases hlt : k < 9
  ·
   have hix := ix_one k hlt
   obtain ⟨x, hx⟩ : ∃ x, L0 (k * 3) = x := ⟨_, rfl⟩
   obtain ⟨y, hy⟩ : ∃ y, L0 (k * 3 + 1) = y := ⟨_, rfl⟩
   obtain ⟨z, hz⟩ : ∃ z, L0 (k * 3 + 2) = z := ⟨_, rfl⟩
   rw [hx, hy, hz] at hix
   have HX := Lib.hid hx
   have HY := Lib.hid hy
   have HZ := Lib.hid hz
   clear hx hy hz
   cases hq : (x == a)
   ·
    have HQ := Lib.hid hq
    go_wp2
    go_roundg (9 - (k + 1))
    case measure => omega
    case rel =>
     refine ⟨k + 1, by omega, rfl, by go_num, HB.out.alloc HB.out.size _, ?_⟩
     rw [← HS.out, seek_miss hlt (by unfold one0; rw [HX.out]; exact HQ.out)]
   ·
    have HQ := Lib.hid hq
    go_wp2
    go_ret
    exact ⟨ret_int (by rw [greatF_one (k := k) (by rw [← HS.out]; exact seek_hit hlt (by unfold one0; rw [HX.out]; exact HQ.out)), HY.out]), HB.out.alloc HB.out.size _⟩
  ·
   obtain rfl : k = 9 := by omega
   have HN0 := Lib.hid (show seek (one0 a) 9 0 = none from HS.out.symm.trans seek_end)
   have HB0 := HB
   clear HS hlt hk HB
   obtain ⟨t1, f1, e1⟩ := (HT.out.later HB0.out).2.1
   have E1 := Lib.hid e1
   clear e1
   go_wp2_with (refine wpList_load_row rfl 149 _ rfl 1 rfl _ _ _ _ E1.out Tryd.underlying149 rfl (by kernel_rfl) ?_)
   go_loopg [22] 19 (fun g i wr => ∃ k : Nat, k ≤ 19 ∧ g = 19 - k ∧ i = .int .i64 k ∧ Below w.heap.size w wr ∧ seek (dist1 a) (19 - k) k = seek (dist1 a) 19 0)
   case atStart => exact ⟨0, by omega, by omega, rfl, HB0.out, rfl⟩
   case round =>
    obtain ⟨k, hk, rfl, rfl, hb, hs⟩ := hrel
    have HB := Lib.hid hb
    have HS := Lib.hid hs
    clear hb hs
    by_cases hlt : k < 19
    ·
     have hix := ix_dist k hlt
     have hzb := L1_bd (k * 3 + 2)
     obtain ⟨x, hx⟩ : ∃ x, L1 (k * 3) = x := ⟨_, rfl⟩
     obtain ⟨y, hy⟩ : ∃ y, L1 (k * 3 + 1) = y := ⟨_, rfl⟩
     obtain ⟨z, hz⟩ : ∃ z, L1 (k * 3 + 2) = z := ⟨_, rfl⟩
     rw [hx, hy, hz] at hix
     rw [hz] at hzb
     have HX := Lib.hid hx
     have HY := Lib.hid hy
     have HZ := Lib.hid hz
     clear hx hy hz
     by_cases h3 : x ≤ a - z
     ·
      by_cases h4 : a - z ≤ y
      ·
       have H3 := Lib.hid h3
       have H4 := Lib.hid h4
       go_wp2
       go_ret
       exact ⟨ret_int (by rw [greatF_dist (k := k) HN0.out (by rw [← HS.out]; exact seek_hit hlt (by unfold dist1; rw [HX.out, HY.out, HZ.out]; simp [H3.out, H4.out])), HZ.out]), HB.out.alloc HB.out.size _⟩
      ·
       have H4 := Lib.hid h4
       go_wp2
       go_roundg (19 - (k + 1))
       case measure => omega
       case rel =>
        refine ⟨k + 1, by omega, rfl, by go_num, HB.out.alloc HB.out.size _, ?_⟩
        rw [← HS.out, seek_miss hlt (by unfold dist1; rw [HX.out, HY.out, HZ.out]; simp only [decide_eq_false (Int.not_le.2 H4.out), Bool.and_false])]
     ·
      have H3 := Lib.hid h3
      go_wp2
      go_roundg (19 - (k + 1))
      case measure => omega
      case rel =>
       refine ⟨k + 1, by omega, rfl, by go_num, HB.out.alloc HB.out.size _, ?_⟩
       rw [← HS.out, seek_miss hlt (by unfold dist1; rw [HX.out, HY.out, HZ.out]; simp only [decide_eq_false (Int.not_le.2 H3.out), Bool.false_and])]
    ·
     obtain rfl : k = 19 := by omega
     have HN1 := Lib.hid (show seek (dist1 a) 19 0 = none from HS.out.symm.trans seek_end)
     have HB1 := HB
     clear HS hlt hk HB
     obtain ⟨t2, f2, e2⟩ := (HT.out.later HB1.out).2.2
     have E2 := Lib.hid e2
     clear e2
     go_wp2_with (refine wpList_load_row rfl 151 _ rfl 2 rfl _ _ _ _ E2.out Tryd.underlying151 rfl (by kernel_rfl) ?_)
     go_loopg [42] 19 (fun g i wr => ∃ k : Nat, k ≤ 19 ∧ g = 19 - k ∧ i = .int .i64 k ∧ Below w.heap.size w wr ∧ seek (pair1 a) (19 - k) k = seek (pair1 a) 19 0)
     case atStart => exact ⟨0, by omega, by omega, rfl, HB1.out, rfl⟩
     case round =>
      obtain ⟨k, hk, rfl, rfl, hb, hs⟩ := hrel
      have HB := Lib.hid hb
      have HS := Lib.hid hs
      clear hb hs
      by_cases hlt : k < 19
      ·
       have hix := ix_pair k hlt
       have hxb := L2_bd (k * 2)
       obtain ⟨x, hx⟩ : ∃ x, L2 (k * 2) = x := ⟨_, rfl⟩
       obtain ⟨y, hy⟩ : ∃ y, L2 (k * 2 + 1) = y := ⟨_, rfl⟩
       rw [hx, hy] at hix
       rw [hx] at hxb
       have HX := Lib.hid hx
       have HY := Lib.hid hy
       clear hx hy
       by_cases h3 : x ≤ a
       ·
        by_cases h4 : a ≤ y
        ·
         cases h5 : ((a - x) % 2 == 1)
         ·
          have H5 := Lib.hid h5
          go_wp2
          go_roundg (19 - (k + 1))
          case measure => omega
          case rel =>
           refine ⟨k + 1, by omega, rfl, by go_num, HB.out.alloc HB.out.size _, ?_⟩
           rw [← HS.out, seek_miss hlt (by unfold pair1; rw [HX.out, HY.out, H5.out, Bool.and_false])]
         ·
          have H5 := Lib.hid h5
          have H3 := Lib.hid h3
          have H4 := Lib.hid h4
          go_wp2
          go_ret
          exact ⟨ret_int (by rw [greatF_pair (k := k) HN0.out HN1.out (by rw [← HS.out]; exact seek_hit hlt (by unfold pair1; rw [HX.out, HY.out, H5.out]; simp [H3.out, H4.out]))]), HB.out.alloc HB.out.size _⟩
        ·
         have H4 := Lib.hid h4
         go_wp2
         go_roundg (19 - (k + 1))
         case measure => omega
         case rel =>
          refine ⟨k + 1, by omega, rfl, by go_num, HB.out.alloc HB.out.size _, ?_⟩
          rw [← HS.out, seek_miss hlt (by unfold pair1; rw [HX.out, HY.out]; simp only [decide_eq_false (Int.not_le.2 H4.out), Bool.and_false, Bool.false_and])]
       ·
        have H3 := Lib.hid h3
        go_wp2
        go_roundg (19 - (k + 1))
        case measure => omega
        case rel =>
         refine ⟨k + 1, by omega, rfl, by go_num, HB.out.alloc HB.out.size _, ?_⟩
         rw [← HS.out, seek_miss hlt (by unfold pair1; rw [HX.out, HY.out]; simp only [decide_eq_false (Int.not_le.2 H3.out), Bool.false_and])]
      ·
       obtain rfl : k = 19 := by omega
       have HN2 := Lib.hid (show seek (pair1 a) 19 0 = none from HS.out.symm.trans seek_end)
       go_wp2
       go_ret
       exact ⟨ret_int (by rw [greatF_none HN0.out HN1.out HN2.out]), HB.out⟩
set_option maxRecDepth 100000 in
set_option maxHeartbeats 8000000 in
theorem small_any (a : Int) (h0 : 0 ≤ a) (h1 : a ≤ 1114111) (w : World) (ht : Tabs w) :
  Calls Tryd.prog 74 #[.int .i64 a] w fun e w' => e = .returned (.int .i64 (smallF a)) ∧ Below w.heap.size w w' := by
 have HT := Lib.hid ht
 obtain ⟨t0, f0, e0⟩ := ht.1
 clear ht
 have E0 := Lib.hid e0
 clear e0
 go_enter Tryd.func74, Tryd.ntmps74
 go_wp2_with (refine wpList_load_row rfl 148 _ rfl 0 rfl _ _ _ _ E0.out Tryd.underlying148 rfl (by kernel_rfl) ?_)
 go_loopg [10] 9 (fun g i wr => ∃ k : Nat, k ≤ 9 ∧ g = 9 - k ∧ i = .int .i64 k ∧ Below w.heap.size w wr ∧ seek (one0 a) (9 - k) k = seek (one0 a) 9 0)
 case atStart => exact ⟨0, by omega, by omega, rfl, Below.refl _ _, rfl⟩
 case round =>
  obtain ⟨k, hk, rfl, rfl, hb, hs⟩ := hrel
  have HB := Lib.hid hb
  have HS := Lib.hid hs
  clear hb hs
  by_cases hlt : k < 9
  ·
   have hix := ix_one k hlt
   obtain ⟨x, hx⟩ : ∃ x, L0 (k * 3) = x := ⟨_, rfl⟩
   obtain ⟨y, hy⟩ : ∃ y, L0 (k * 3 + 1) = y := ⟨_, rfl⟩
   obtain ⟨z, hz⟩ : ∃ z, L0 (k * 3 + 2) = z := ⟨_, rfl⟩
   rw [hx, hy, hz] at hix
   have HX := Lib.hid hx
   have HY := Lib.hid hy
   have HZ := Lib.hid hz
   clear hx hy hz
   cases hq : (x == a)
   ·
    have HQ := Lib.hid hq
    go_wp2
    go_roundg (9 - (k + 1))
    case measure => omega
    case rel =>
     refine ⟨k + 1, by omega, rfl, by go_num, HB.out.alloc HB.out.size _, ?_⟩
     rw [← HS.out, seek_miss hlt (by unfold one0; rw [HX.out]; exact HQ.out)]
   ·
    have HQ := Lib.hid hq
    go_wp2
    go_ret
    exact ⟨ret_int (by rw [smallF_one (k := k) (by rw [← HS.out]; exact seek_hit hlt (by unfold one0; rw [HX.out]; exact HQ.out)), HZ.out]), HB.out.alloc HB.out.size _⟩
  ·
   obtain rfl : k = 9 := by omega
   have HN0 := Lib.hid (show seek (one0 a) 9 0 = none from HS.out.symm.trans seek_end)
   have HB0 := HB
   clear HS hlt hk HB
   obtain ⟨t1, f1, e1⟩ := (HT.out.later HB0.out).2.1
   have E1 := Lib.hid e1
   clear e1
   go_wp2_with (refine wpList_load_row rfl 149 _ rfl 1 rfl _ _ _ _ E1.out Tryd.underlying149 rfl (by kernel_rfl) ?_)
   go_loopg [21] 19 (fun g i wr => ∃ k : Nat, k ≤ 19 ∧ g = 19 - k ∧ i = .int .i64 k ∧ Below w.heap.size w wr ∧ seek (dist2 a) (19 - k) k = seek (dist2 a) 19 0)
   case atStart => exact ⟨0, by omega, by omega, rfl, HB0.out, rfl⟩
   case round =>
    obtain ⟨k, hk, rfl, rfl, hb, hs⟩ := hrel
    have HB := Lib.hid hb
    have HS := Lib.hid hs
    clear hb hs
    by_cases hlt : k < 19
    ·
     have hix := ix_dist k hlt
     have hzb := L1_bd (k * 3 + 2)
     obtain ⟨x, hx⟩ : ∃ x, L1 (k * 3) = x := ⟨_, rfl⟩
     obtain ⟨y, hy⟩ : ∃ y, L1 (k * 3 + 1) = y := ⟨_, rfl⟩
     obtain ⟨z, hz⟩ : ∃ z, L1 (k * 3 + 2) = z := ⟨_, rfl⟩
     rw [hx, hy, hz] at hix
     rw [hz] at hzb
     have HX := Lib.hid hx
     have HY := Lib.hid hy
     have HZ := Lib.hid hz
     clear hx hy hz
     by_cases h3 : x ≤ a
     ·
      by_cases h4 : a ≤ y
      ·
       have H3 := Lib.hid h3
       have H4 := Lib.hid h4
       go_wp2
       go_ret
       exact ⟨ret_int (by rw [smallF_dist (k := k) HN0.out (by rw [← HS.out]; exact seek_hit hlt (by unfold dist2; rw [HX.out, HY.out]; simp [H3.out, H4.out])), HZ.out]), HB.out.alloc HB.out.size _⟩
      ·
       have H4 := Lib.hid h4
       go_wp2
       go_roundg (19 - (k + 1))
       case measure => omega
       case rel =>
        refine ⟨k + 1, by omega, rfl, by go_num, HB.out.alloc HB.out.size _, ?_⟩
        rw [← HS.out, seek_miss hlt (by unfold dist2; rw [HX.out, HY.out]; simp only [decide_eq_false (Int.not_le.2 H4.out), Bool.and_false])]
     ·
      have H3 := Lib.hid h3
      go_wp2
      go_roundg (19 - (k + 1))
      case measure => omega
      case rel =>
       refine ⟨k + 1, by omega, rfl, by go_num, HB.out.alloc HB.out.size _, ?_⟩
       rw [← HS.out, seek_miss hlt (by unfold dist2; rw [HX.out, HY.out]; simp only [decide_eq_false (Int.not_le.2 H3.out), Bool.false_and])]
    ·
     obtain rfl : k = 19 := by omega
     have HN1 := Lib.hid (show seek (dist2 a) 19 0 = none from HS.out.symm.trans seek_end)
     have HB1 := HB
     clear HS hlt hk HB
     obtain ⟨t2, f2, e2⟩ := (HT.out.later HB1.out).2.2
     have E2 := Lib.hid e2
     clear e2
     go_wp2_with (refine wpList_load_row rfl 151 _ rfl 2 rfl _ _ _ _ E2.out Tryd.underlying151 rfl (by kernel_rfl) ?_)
     go_loopg [40] 19 (fun g i wr => ∃ k : Nat, k ≤ 19 ∧ g = 19 - k ∧ i = .int .i64 k ∧ Below w.heap.size w wr ∧ seek (pair2 a) (19 - k) k = seek (pair2 a) 19 0)
     case atStart => exact ⟨0, by omega, by omega, rfl, HB1.out, rfl⟩
     case round =>
      obtain ⟨k, hk, rfl, rfl, hb, hs⟩ := hrel
      have HB := Lib.hid hb
      have HS := Lib.hid hs
      clear hb hs
      by_cases hlt : k < 19
      ·
       have hix := ix_pair k hlt
       have hxb := L2_bd (k * 2)
       obtain ⟨x, hx⟩ : ∃ x, L2 (k * 2) = x := ⟨_, rfl⟩
       obtain ⟨y, hy⟩ : ∃ y, L2 (k * 2 + 1) = y := ⟨_, rfl⟩
       rw [hx, hy] at hix
       rw [hx] at hxb
       have HX := Lib.hid hx
       have HY := Lib.hid hy
       clear hx hy
       by_cases h3 : x ≤ a
       ·
        by_cases h4 : a ≤ y
        ·
         cases h5 : ((a - x) % 2 == 0)
         ·
          have H5 := Lib.hid h5
          go_wp2
          go_roundg (19 - (k + 1))
          case measure => omega
          case rel =>
           refine ⟨k + 1, by omega, rfl, by go_num, HB.out.alloc HB.out.size _, ?_⟩
           rw [← HS.out, seek_miss hlt (by unfold pair2; rw [HX.out, HY.out, H5.out, Bool.and_false])]
         ·
          have H5 := Lib.hid h5
          have H3 := Lib.hid h3
          have H4 := Lib.hid h4
          go_wp2
          go_ret
          exact ⟨ret_int (by rw [smallF_pair (k := k) HN0.out HN1.out (by rw [← HS.out]; exact seek_hit hlt (by unfold pair2; rw [HX.out, HY.out, H5.out]; simp [H3.out, H4.out]))]), HB.out.alloc HB.out.size _⟩
        ·
         have H4 := Lib.hid h4
         go_wp2
         go_roundg (19 - (k + 1))
         case measure => omega
         case rel =>
          refine ⟨k + 1, by omega, rfl, by go_num, HB.out.alloc HB.out.size _, ?_⟩
          rw [← HS.out, seek_miss hlt (by unfold pair2; rw [HX.out, HY.out]; simp only [decide_eq_false (Int.not_le.2 H4.out), Bool.and_false, Bool.false_and])]
       ·
        have H3 := Lib.hid h3
        go_wp2
        go_roundg (19 - (k + 1))
        case measure => omega
        case rel =>
         refine ⟨k + 1, by omega, rfl, by go_num, HB.out.alloc HB.out.size _, ?_⟩
         rw [← HS.out, seek_miss hlt (by unfold pair2; rw [HX.out, HY.out]; simp only [decide_eq_false (Int.not_le.2 H3.out), Bool.false_and])]
      ·
       obtain rfl : k = 19 := by omega
       have HN2 := Lib.hid (show seek (pair2 a) 19 0 = none from HS.out.symm.trans seek_end)
       go_wp2
       go_ret
       exact ⟨ret_int (by rw [smallF_none HN0.out HN1.out HN2.out]), HB.out⟩
set_option maxHeartbeats 1000000 in
theorem upper_any (a : Int) (w : World) (ht : Tabs w) :
  Calls Tryd.prog 56 #[.int .i64 a] w fun e w' => e = .returned (.int .i64 (upperF a)) ∧ Below w.heap.size w w' := by
 have HT := Lib.hid ht
 clear ht
 cases h : scalarB a
 ·
  have H := Lib.hid h
  go_enter Tryd.func56, Tryd.ntmps56
  go_wp2_with fail
  refine (scalar_any _ _).mono ?_
  rintro e w' ⟨rfl, rfl⟩
  go_wp2
  go_ret
  exact ⟨ret_int (by unfold upperF; rw [H.out]; rfl), Below.refl _ _⟩
 ·
  have H := Lib.hid h
  have hb0 := scalar_bd h
  go_enter Tryd.func56, Tryd.ntmps56
  go_wp2_with fail
  refine (scalar_any _ _).mono ?_
  rintro e w' ⟨rfl, rfl⟩
  go_wp2_with fail
  refine (great_any _ hb0.1 hb0.2 _ HT.out).mono ?_
  rintro e w1 ⟨rfl, hb1⟩
  have HB1 := Lib.hid (hb1)
  clear hb1
  go_wp2
  go_ret
  exact ⟨ret_int (by unfold upperF; rw [H.out]; rfl), HB1.out⟩
set_option maxHeartbeats 1000000 in
theorem lower_any (a : Int) (w : World) (ht : Tabs w) :
  Calls Tryd.prog 57 #[.int .i64 a] w fun e w' => e = .returned (.int .i64 (lowerF a)) ∧ Below w.heap.size w w' := by
 have HT := Lib.hid ht
 clear ht
 cases h : scalarB a
 ·
  have H := Lib.hid h
  go_enter Tryd.func57, Tryd.ntmps57
  go_wp2_with fail
  refine (scalar_any _ _).mono ?_
  rintro e w' ⟨rfl, rfl⟩
  go_wp2
  go_ret
  exact ⟨ret_int (by unfold lowerF; rw [H.out]; rfl), Below.refl _ _⟩
 ·
  have H := Lib.hid h
  have hb0 := scalar_bd h
  go_enter Tryd.func57, Tryd.ntmps57
  go_wp2_with fail
  refine (scalar_any _ _).mono ?_
  rintro e w' ⟨rfl, rfl⟩
  go_wp2_with fail
  refine (small_any _ hb0.1 hb0.2 _ HT.out).mono ?_
  rintro e w1 ⟨rfl, hb1⟩
  have HB1 := Lib.hid (hb1)
  clear hb1
  go_wp2
  go_ret
  exact ⟨ret_int (by unfold lowerF; rw [H.out]; rfl), HB1.out⟩
end Go.Proofs.YtdegdoilpamjjaaDoor
namespace Go.Proofs.YtdegdoilpamjjaaDoor
open Go.RowKit
set_option linter.unusedVariables false
set_option maxRecDepth 100000 in
set_option maxHeartbeats 2000000 in
theorem letters_c (s : ByteArray) (n : Nat) (f : Nat → Int) (w : World) (hn : s.size = n) (hn2 : n < 1000) (hf : ∀ (i : Nat) (h : i < n), wrap64 ((s[i]'(by omega)).toNat : Int) = f i) :
  Calls Tryd.prog 11 #[.string s] w fun e w' => ∃ sl c, e = .returned (.slice sl n c) ∧ OwnInts w' w.heap.size (.slice sl n c) (lst f n) ∧ Below w.heap.size w w' := by
 have HF := Lib.hid hf
 clear hf
 go_enter Tryd.func11, Tryd.ntmps11
 go_wp2_with fail
 go_loopg [3, 4] n (fun g cv iv wr => ∃ k : Nat, ∃ sl : Option Addr, ∃ c : Nat, k + g = n ∧ cv = .slice sl k c ∧ iv = .int .i64 k ∧ OwnInts wr w.heap.size (.slice sl k c) (lst f k) ∧ Below w.heap.size w wr)
 case atStart => exact ⟨0, none, 0, by omega, rfl, rfl, OwnInts.nil _ _, Below.refl _ _⟩
 case round =>
  obtain ⟨k, sl, c, hk, rfl, rfl, ho, hb⟩ := hrel
  have HO := Lib.hid ho
  have HB := Lib.hid hb
  clear ho hb
  by_cases hlt : k < n
  ·
   have e1 : (k : Int) < n := by omega
   have hz := HF.out k hlt
   obtain ⟨z, hfz⟩ : ∃ z, f k = z := ⟨_, rfl⟩
   rw [hfz] at hz
   have HZ := Lib.hid hfz
   clear hfz
   go_wp2_with (first | (at_builtin; refine wpList_push3 _ rfl _ _ rfl w.heap.size _ _ _ _ rfl rfl HO.out (by omega) HB.out.size ?_; intro s' c' w2 ho2 hg2 _; have HB2 := Lib.hid (Below.grown HB.out hg2 HB.out.size (fun q hq => (HO.out.lt q hq).1)); have HO2 := Lib.hid ho2; clear ho2 hg2))
   go_roundg (gk - 1)
   case measure => omega
   case rel => exact ⟨k + 1, _, _, by omega, rfl, by go_num, OwnInts.as HO2.out (by rw [lst_succ, HZ.out]), HB2.out⟩
  ·
   obtain rfl : n = k := by omega
   have e1 : ¬ (n : Int) < n := by omega
   go_wp2
   go_ret
   exact ⟨_, _, rfl, HO.out, HB.out⟩
theorem lw64 (x : Int) (h : -9223372036854775808 ≤ x ∧ x ≤ 9223372036854775807) : wrap64 x = x := by
 rw [← IntWalk.i64_left]
 exact IntWalk.i64_in _ (by omega)
end Go.Proofs.YtdegdoilpamjjaaDoor
namespace Go.Proofs.YtdegdoilpamjjaaDoor
open Go.RowKit
set_option maxHeartbeats 1000000 in
theorem digit_any (c : Int) (w : World) : Calls Tryd.prog 58 #[.int .i64 c] w fun e w' => e = .returned (.int .i64 (hexV c)) ∧ w = w' := by
 by_cases h1 : 48 ≤ c ∧ c ≤ 57
 ·
  have hv : hexV c = c - 48 := by unfold hexV; rw [if_pos h1]
  rw [hv]
  obtain ⟨a1, a2⟩ := h1
  go_enter Tryd.func58, Tryd.ntmps58
  go_wp2
  go_ret
  exact ⟨rfl, rfl⟩
 ·
  by_cases h2 : 97 ≤ c ∧ c ≤ 102
  ·
   have hv : hexV c = c - 97 + 10 := by unfold hexV; rw [if_neg h1, if_pos h2]; omega
   rw [hv]
   obtain ⟨a1, a2⟩ := h2
   have b1 : ¬ c ≤ 57 := by omega
   have b2 : 48 ≤ c := by omega
   clear h1 hv
   go_enter Tryd.func58, Tryd.ntmps58
   go_wp2
   go_ret
   exact ⟨rfl, rfl⟩
  ·
   by_cases h3 : 65 ≤ c ∧ c ≤ 70
   ·
    have hv : hexV c = c - 65 + 10 := by unfold hexV; rw [if_neg h1, if_neg h2, if_pos h3]; omega
    rw [hv]
    obtain ⟨a1, a2⟩ := h3
    have b1 : ¬ c ≤ 57 := by omega
    have b2 : 48 ≤ c := by omega
    have b3 : ¬ 97 ≤ c := by omega
    clear h1 h2 hv
    go_enter Tryd.func58, Tryd.ntmps58
    go_wp2
    go_ret
    exact ⟨rfl, rfl⟩
   ·
    have hv : hexV c = -1 := by unfold hexV; rw [if_neg h1, if_neg h2, if_neg h3]
    rw [hv]
    have H1 := Lib.hid h1
    have H2 := Lib.hid h2
    have H3 := Lib.hid h3
    clear h1 h2 h3 hv
    go_enter Tryd.func58, Tryd.ntmps58
    go_wp2
    all_goals
     first
      | (go_ret; exact ⟨rfl, rfl⟩)
      | (exfalso; have := H1.out; have := H2.out; have := H3.out; omega)
set_option maxHeartbeats 1000000 in
theorem isletter_any (c : Int) (w : World) : Calls Tryd.prog 59 #[.int .i64 c] w fun e w' => e = .returned (.bool (letB c)) ∧ w = w' := by
 go_enter Tryd.func59, Tryd.ntmps59
 go_wp2
 all_goals
  go_ret
  exact ⟨ret_bool (by unfold letB; rw [Bool.eq_iff_iff]; simp; omega), rfl⟩
end Go.Proofs.YtdegdoilpamjjaaDoor
namespace Go.Proofs.YtdegdoilpamjjaaDoor
open Go.RowKit Go.ChangeShapes
def distR : List (List Int) := [[65, 90, 32], [192, 214, 32], [216, 222, 32], [904, 906, 37], [913, 929, 32], [931, 939, 32], [1024, 1039, 80], [1040, 1071, 32], [1329, 1366, 48], [8544, 8559, 16], [9398, 9423, 26], [65313, 65338, 32], [66560, 66599, 40], [376, 376, -121], [902, 902, 38], [908, 908, 64], [910, 911, 63], [975, 975, 8], [1216, 1216, 15]]
def pairR : List (List Int) := [[256, 303], [306, 311], [313, 328], [330, 375], [377, 382], [461, 476], [478, 495], [504, 543], [546, 563], [582, 591], [880, 883], [886, 887], [984, 1007], [1120, 1153], [1162, 1215], [1217, 1230], [1232, 1327], [7680, 7829], [7840, 7935]]
def oneR : List (List Int) := [[181, 924, 181], [305, 73, 305], [383, 83, 383], [962, 931, 962], [304, 304, 105], [7838, 7838, 223], [8486, 8486, 969], [8490, 8490, 107], [8491, 8491, 229]]
theorem rows_cells (c : Nat) : ∀ (rows : List (List Int)) (cs : List Value), cs.length = rows.length * c → (∀ i (h : i < rows.length), (cs.drop (i * c)).take c = (rows[i]).map fun z => Value.int .i64 z) → cs = rows.flatten.map fun z => Value.int .i64 z := by
 intro rows
 induction rows with
 | nil => intro cs h _; simp at h; simp [h]
 | cons r rows ih =>
  intro cs h hi
  have h0 := hi 0 (by simp)
  have hr := ih (cs.drop c) (by simp only [List.length_drop, h, List.length_cons, Nat.add_mul]; omega) (fun i hlt => by
   have := hi (i + 1) (by simpa using hlt)
   rw [List.drop_drop]
   simpa [Nat.add_mul, Nat.add_comm] using this)
  have e := (List.take_append_drop c cs).symm
  rw [e, hr]
  simp only [Nat.zero_mul, List.drop_zero] at h0
  rw [h0]
  simp
theorem cells_of_rows {H : Type} {enc : TypeId × Value → H} {w : World} {base : Nat} {sp : Nat → Bool} {held : Bool} {fuel : Nat} {t e : TypeId} {n m : Nat} {cs : List Value} {rows : List (List Int)} {p : List MemPlace}
  (ht : Tryd.prog.underlying t = some (.array n e)) (he : Tryd.prog.underlying e = some (.array m 3)) (hce : Tryd.prog.cellsOf e = m) (hct : Tryd.prog.cellsOf t = n * m)
  (h : DataW.trod enc Tryd.prog w base sp held fuel t cs = some (.agg (rows.map (Lib.tabData .i64)), p)) : cs = rows.flatten.map fun z => Value.int .i64 z := by
 obtain ⟨xs, k, _, hx, hl, hxl, hi⟩ := DataW.trod_array ht h
 have hx1 : xs.map (·.1) = rows.map (Lib.tabData .i64) := by
  have := congrArg Prod.fst hx
  simpa using this.symm
 have hrl : rows.length = n := by have := congrArg List.length hx1; simp at this; omega
 refine rows_cells m rows cs (by rw [hl, hct, hrl]) fun i hlt => ?_
 have h1 := hi i (by omega)
 rw [hce] at h1
 have h2 : xs[i]? = some (Lib.tabData .i64 rows[i], (xs[i]'(by omega)).2) := by
  have h3 : (xs.map (·.1))[i]? = (rows.map (Lib.tabData .i64))[i]? := by rw [hx1]
  rw [List.getElem?_map, List.getElem?_map, List.getElem?_eq_getElem hlt, List.getElem?_eq_getElem (show i < xs.length by omega)] at h3
  rw [List.getElem?_eq_getElem (show i < xs.length by omega)]
  simp at h3
  rw [← h3]
 rw [h2] at h1
 exact Lib.cells_of_tab he Tryd.underlying3 (by kernel_rfl) hce h1
theorem var_heap {W : World} {n : String} {g : Nat} {cs : Array Value} (hg : Tryd.prog.globalNamed n = some g) (h : W.var? Tryd.prog n = some cs) : ∃ t f, W.heap[g]? = some (.cells cs t f) := by
 simp only [World.var?, hg, Option.bind_some] at h
 split at h
 · rename_i c t f he; simp at h; subst h; exact ⟨_, _, he⟩
 · cases h
theorem tabs_of_laid {W : World} (h : laidMetH Tryd.prog Rows.patternFillUptoRow.laid W) : Tabs W := by
 obtain ⟨ps, ⟨g1, t1, c1, u1, p1, q1, hg1, ht1, hv1, hd1, ⟨g2, t2, c2, u2, p2, q2, hg2, ht2, hv2, hd2, ⟨g3, t3, c3, u3, p3, q3, hg3, ht3, hv3, hd3, _, _⟩, _⟩, _⟩, _⟩ := h
 obtain rfl : 1 = g1 := Option.some.inj ((show Tryd.prog.globalNamed _ = some 1 by kernel_rfl).symm.trans hg1)
 obtain rfl : 2 = g2 := Option.some.inj ((show Tryd.prog.globalNamed _ = some 2 by kernel_rfl).symm.trans hg2)
 obtain rfl : 0 = g3 := Option.some.inj ((show Tryd.prog.globalNamed _ = some 0 by kernel_rfl).symm.trans hg3)
 obtain rfl : 149 = t1 := Option.some.inj ((show (Tryd.prog.globals[1]?).map (·.type) = some 149 by kernel_rfl).symm.trans ht1)
 obtain rfl : 151 = t2 := Option.some.inj ((show (Tryd.prog.globals[2]?).map (·.type) = some 151 by kernel_rfl).symm.trans ht2)
 obtain rfl : 148 = t3 := Option.some.inj ((show (Tryd.prog.globals[0]?).map (·.type) = some 148 by kernel_rfl).symm.trans ht3)
 have e1 := cells_of_rows (rows := distR) Tryd.underlying149 Tryd.underlying147 (by kernel_rfl) (by kernel_rfl) hd1
 have e2 := cells_of_rows (rows := pairR) Tryd.underlying151 Tryd.underlying150 (by kernel_rfl) (by kernel_rfl) hd2
 have e3 := cells_of_rows (rows := oneR) Tryd.underlying148 Tryd.underlying147 (by kernel_rfl) (by kernel_rfl) hd3
 have f1 : c1 = i64s distancesL := by rw [← Array.toList_inj, e1]; rfl
 have f2 : c2 = i64s pairsL := by rw [← Array.toList_inj, e2]; rfl
 have f3 : c3 = i64s oneWayL := by rw [← Array.toList_inj, e3]; rfl
 subst f1 f2 f3
 exact ⟨var_heap hg3 hv3, var_heap hg1 hv1, var_heap hg2 hv2⟩
end Go.Proofs.YtdegdoilpamjjaaDoor
namespace Go.Proofs.YtdegdoilpamjjaaDoor
open Go.RowKit
set_option linter.unusedVariables false
set_option linter.unusedSimpArgs false
def RdB (w : World) (rb : Nat) (sl : Option Addr) (n c : Nat) (s : RS) (fold : Bool) : Prop :=
 w.heap[rb]? = some (.cells #[.slice sl n c, .int .i64 s.at', .int .i64 s.groups, .bool fold] 72 (0, 0))
structure RdM (w : World) (rb : Nat) (sl : Option Addr) (n c : Nat) (src : List Int) (s : RS) (fold : Bool) : Prop where
 blk : RdB w rb sl n c s fold
 len : src.length = n
 src : IsInts w sl n (gl src)
 ne : ∀ a, sl = some a → a.block ≠ rb
 at' : s.at' ≤ n
 n30 : n < 1073741824
def wrongP (k : Nat) : PanicEntry := { v := .iface 68 (.int .i64 k), recovered := false }
theorem gl_srcAt (src : List Int) (i : Nat) : gl src i = srcAt src i := rfl
set_option maxRecDepth 100000 in
theorem peek_c (rb : Nat) (sl : Option Addr) (n c : Nat) (src : List Int) (s : RS) (fold : Bool) (k : Nat) (w : World) (h : RdM w rb sl n c src s fold) (hk : k < 1000) :
  Calls Tryd.prog 68 #[.pointer (some ⟨rb, 0, none⟩), .int .i64 k] w fun e w' => e = .returned (.int .i64 (pk src s.at' k)) ∧ ∃ m, w' = w.drewN m := by
 have b0 : w.cell? ⟨rb, 0, none⟩ = some (.slice sl n c) := block_cell h.blk
 have b1 : w.cell? ⟨rb, 1, none⟩ = some (.int .i64 s.at') := block_cell h.blk
 have hat := h.at'
 have hn := h.n30
 by_cases hlt : s.at' + k < n
 ·
  obtain ⟨g, off, hg, c0⟩ := h.src.at (Below.refl _ _) hlt
  subst hg
  have hp : pk src s.at' k = gl src (s.at' + k) := if_pos (by rw [h.len]; exact hlt)
  rw [hp]
  generalize gl src (s.at' + k) = x at c0 ⊢
  obtain ⟨a, ha⟩ : ∃ a, s.at' = a := ⟨_, rfl⟩
  rw [ha] at b1 hlt c0 hat
  have q1 : ((a : Int) + (k : Int)) < (n : Int) := by omega
  have q2 : (0 : Int) ≤ (a : Int) + (k : Int) := by omega
  have q3 : IntKind.i64.wrap ((a : Int) + (k : Int)) = (a : Int) + (k : Int) := by rw [IntKind.wrap_i64]; omega
  clear h hp ha
  go_enter Tryd.func68, Tryd.ntmps68
  go_wp2_with fail
  go_quiet (fail)
  go_wp2_with fail
  go_quiet (fail)
  go_wp2
  go_ret
  first | exact ⟨rfl, _, rfl⟩ | exact ⟨rfl, _, World.drewN_drewN _ _ _⟩
 ·
  have hp : pk src s.at' k = -4611686018427387904 := if_neg (by rw [h.len]; exact hlt)
  rw [hp]
  obtain ⟨a, ha⟩ : ∃ a, s.at' = a := ⟨_, rfl⟩
  rw [ha] at b1 hlt hat
  have q1 : ¬ ((a : Int) + (k : Int)) < (n : Int) := by omega
  have q3 : IntKind.i64.wrap ((a : Int) + (k : Int)) = (a : Int) + (k : Int) := by rw [IntKind.wrap_i64]; omega
  clear h hp ha
  go_enter Tryd.func68, Tryd.ntmps68
  go_wp2_with fail
  go_quiet (fail)
  go_wp2
  go_ret
  first | exact ⟨rfl, _, rfl⟩ | exact ⟨rfl, _, World.drewN_drewN _ _ _⟩
theorem RdM.later {w w' : World} {rb : Nat} {sl : Option Addr} {n c : Nat} {src : List Int} {s : RS} {fold : Bool} (h : RdM w rb sl n c src s fold) (hb : Below w.heap.size w w') : RdM w' rb sl n c src s fold :=
 { h with blk := (hb.block _ (heap_lt h.blk)).trans h.blk, src := h.src.later hb }
theorem RdM.drewN {w : World} {rb : Nat} {sl : Option Addr} {n c : Nat} {src : List Int} {s : RS} {fold : Bool} (h : RdM w rb sl n c src s fold) (m : Nat) : RdM (w.drewN m) rb sl n c src s fold := h.later (below_drewN (Below.refl _ _))
def RdP {α : Type} (w : World) (rb : Nat) (sl : Option Addr) (n c : Nat) (src : List Int) (fold : Bool) (r : RR α) (V : α → World → Value → Prop) (e : Ending) (w' : World) : Prop :=
 Touch (fun b => b = rb) w w' ∧ match r with
  | .error k => e = .panicked [wrongP k]
  | .ok (a, s) => (∃ v, e = .returned v ∧ V a w' v) ∧ RdM w' rb sl n c src s fold
set_option maxRecDepth 100000 in
theorem next_c (rb : Nat) (sl : Option Addr) (n c : Nat) (src : List Int) (s : RS) (fold : Bool) (w : World) (h : RdM w rb sl n c src s fold) :
  Calls Tryd.prog 80 #[.pointer (some ⟨rb, 0, none⟩)] w (RdP w rb sl n c src fold (nx src s) (fun x w' v => v = .int .i64 x)) := by
 have b0 : w.cell? ⟨rb, 0, none⟩ = some (.slice sl n c) := block_cell h.blk
 have b1 : w.cell? ⟨rb, 1, none⟩ = some (.int .i64 s.at') := block_cell h.blk
 have f1 : w.frozen? ⟨rb, 1, none⟩ = false := block_free h.blk
 have hat := h.at'
 have hn := h.n30
 have H := Lib.hid h
 by_cases hlt : s.at' < n
 ·
  obtain ⟨g, off, hg, c0⟩ := h.src.at (Below.refl _ _) hlt
  have hne := h.ne _ hg
  subst hg
  have hp : nx src s = .ok (gl src s.at', { s with at' := s.at' + 1 }) := if_neg (by rw [h.len]; omega)
  rw [hp]
  generalize gl src s.at' = x at c0 ⊢
  obtain ⟨a, ha⟩ : ∃ a, s.at' = a := ⟨_, rfl⟩
  have hs1 : RdB (w.setCell ⟨rb, 1, none⟩ (.int .i64 ((a + 1 : Nat) : Int))) rb (some ⟨g, off, none⟩) n c { s with at' := a + 1 } fold := by
   unfold RdB; rw [block_set _ h.blk]; rfl
  have t1 := Touch.setCell (fun b => b = rb) w (p := ⟨rb, 1, none⟩) rfl (.int .i64 ((a + 1 : Nat) : Int))
  have HS1 := Lib.hid hs1
  have HT1 := Lib.hid t1
  rw [ha] at b1 hlt c0 hat ⊢
  have q1 : (a : Int) < (n : Int) := by omega
  have q2 : (0 : Int) ≤ (a : Int) := by omega
  have q3 : IntKind.i64.wrap ((a : Int) + 1) = (a : Int) + 1 := by rw [IntKind.wrap_i64]; omega
  have q5 : IntKind.i64.wrap ((a : Int) + 1 - 1) = (a : Int) := by rw [IntKind.wrap_i64]; omega
  have q6 : IntKind.i64.wrap (a : Int) = (a : Int) := by rw [IntKind.wrap_i64]; omega
  have q4 : decide (n ≤ a) = false := decide_eq_false (by omega)
  have hgb : g ≠ rb := hne
  have HNE := Lib.hid (show ∀ ad, some (⟨g, off, none⟩ : Addr) = some ad → ad.block ≠ rb from h.ne)
  have HSRC := Lib.hid (show IsInts (w.setCell ⟨rb, 1, none⟩ (.int .i64 ((a + 1 : Nat) : Int))) (some ⟨g, off, none⟩) n (gl src) from by
   rcases h.src with h0 | ⟨b', o', e, hb', hc'⟩
   · exact .inl h0
   ·
    cases e
    exact .inr ⟨g, off, rfl, by simpa using hb', fun i hi => (World.cell?_of_block (w := w) (Below.heap_setCell _ _ _ _ hgb)).trans (hc' i hi)⟩)
  clear h hp hs1 t1 ha
  go_enter Tryd.func80, Tryd.ntmps80
  go_wp2_with fail
  go_quiet (fail)
  go_upto_region 4 with (fail)
  go_quiet (fail)
  go_wp2
  go_ret
  exact ⟨touch_drewN ((touch_drewN (Touch.refl (fun b => b = rb) w)).trans (Touch.setCell (fun b => b = rb) _ (p := ⟨rb, 1, none⟩) rfl _) (fun x hx => .inl hx)), ⟨_, rfl, rfl⟩, ⟨HS1.out, H.out.len, HSRC.out, HNE.out, by show a + 1 ≤ n; omega, hn⟩⟩
 ·
  have hp : nx src s = .error src.length := if_pos (by rw [h.len]; omega)
  rw [hp]
  have hl := h.len
  have q1 : ((s.at' : Int)) ≥ (n : Int) := by omega
  clear h hp
  obtain ⟨a, ha⟩ : ∃ a, s.at' = a := ⟨_, rfl⟩
  rw [ha] at b1 q1 hlt hat
  clear ha
  go_enter Tryd.func80, Tryd.ntmps80
  go_wp2_with fail
  go_quiet (fail)
  go_wp2
  exact ⟨rfl, ⟨rfl, rfl, rfl, Nat.le_refl _, fun _ _ _ => rfl⟩, by rw [hl]; rfl⟩
set_option maxRecDepth 100000 in
set_option maxHeartbeats 2000000 in
theorem escaped_c (rb : Nat) (sl : Option Addr) (n c : Nat) (src : List Int) (s : RS) (fold : Bool) (k : Int) (w : World) (h : RdM w rb sl n c src s fold) :
  Calls Tryd.prog 53 #[.pointer (some ⟨rb, 0, none⟩), .int .i64 k] w fun e w' => e = .returned (.bool (escB src s.at' k)) ∧ ∃ m, w' = w.drewN m := by
 have b0 : w.cell? ⟨rb, 0, none⟩ = some (.slice sl n c) := block_cell h.blk
 have b1 : w.cell? ⟨rb, 1, none⟩ = some (.int .i64 s.at') := block_cell h.blk
 have hat := h.at'
 have hn := h.n30
 have HP0 : Hid (∀ m, Calls Tryd.prog 68 #[.pointer (some ⟨rb, 0, none⟩), .int .i64 0] (w.drewN m) fun e w' => e = .returned (.int .i64 (pk src s.at' 0)) ∧ ∃ m', w' = (w.drewN m).drewN m') := Lib.hid (fun m => peek_c rb sl n c src s fold 0 (w.drewN m) (h.drewN m) (by decide))
 have HP1 : Hid (∀ m, Calls Tryd.prog 68 #[.pointer (some ⟨rb, 0, none⟩), .int .i64 1] (w.drewN m) fun e w' => e = .returned (.int .i64 (pk src s.at' 1)) ∧ ∃ m', w' = (w.drewN m).drewN m') := Lib.hid (fun m => peek_c rb sl n c src s fold 1 (w.drewN m) (h.drewN m) (by decide))
 have HE := Lib.hid (show escB src s.at' k = (decide (pk src s.at' 0 = 92) && decide (s.at' + 1 < n) && decide (pk src s.at' 1 = k)) from by unfold escB; rw [h.len])
 generalize escB src s.at' k = E at HE ⊢
 generalize pk src s.at' 0 = p0 at HP0 HE
 generalize pk src s.at' 1 = p1 at HP1 HE
 obtain ⟨a, ha⟩ : ∃ a, s.at' = a := ⟨_, rfl⟩
 rw [ha] at b1 hat HE
 clear h ha
 have q3 : IntKind.i64.wrap ((a : Int) + 1) = (a : Int) + 1 := by rw [IntKind.wrap_i64]; omega
 by_cases h92 : p0 = 92
 ·
  subst h92
  by_cases hlt : a + 1 < n
  ·
   have q1 : ((a : Int) + 1) < (n : Int) := by omega
   have e1 : E = decide (p1 = k) := by rw [HE.out, decide_eq_true rfl, decide_eq_true hlt]; rfl
   subst e1
   go_enter Tryd.func53, Tryd.ntmps53
   go_wp2_with fail
   go_quiet (first | (go_at_call 68; first | with_reducible exact Calls.quiet_of (HP0.out _) | with_reducible exact Calls.quiet_of (HP1.out _)))
   go_wp2
   go_ret
   exact ⟨rfl, _, rfl⟩
  ·
   have q1 : decide (((a : Int) + 1) < (n : Int)) = false := decide_eq_false (by omega)
   have q1b : decide (a + 1 < n) = false := decide_eq_false hlt
   have e1 : E = false := by rw [HE.out, decide_eq_false hlt, Bool.and_false, Bool.false_and]
   subst e1
   go_enter Tryd.func53, Tryd.ntmps53
   go_wp2_with fail
   go_quiet (first | (go_at_call 68; first | with_reducible exact Calls.quiet_of (HP0.out _) | with_reducible exact Calls.quiet_of (HP1.out _)))
   go_wp2
   go_ret
   exact ⟨rfl, _, rfl⟩
 ·
  have q92 : (p0 == 92) = false := by rw [beq_eq_false_iff_ne]; exact h92
  have e1 : E = false := by rw [HE.out, decide_eq_false h92, Bool.false_and, Bool.false_and]
  subst e1
  go_enter Tryd.func53, Tryd.ntmps53
  go_wp2_with fail
  go_quiet (first | (go_at_call 68; first | with_reducible exact Calls.quiet_of (HP0.out _) | with_reducible exact Calls.quiet_of (HP1.out _)))
  go_wp2
  go_ret
  exact ⟨rfl, _, rfl⟩
end Go.Proofs.YtdegdoilpamjjaaDoor
namespace Go.Proofs.YtdegdoilpamjjaaDoor
open Go.RowKit
set_option linter.unusedVariables false
set_option linter.unusedSimpArgs false
theorem RdM.touch {w w' : World} {rb : Nat} {sl : Option Addr} {n c : Nat} {src : List Int} {s s' : RS} {fold : Bool} (h : RdM w rb sl n c src s fold) (ht : Touch (fun b => b = rb) w w') (hb : RdB w' rb sl n c s' fold) (hat : s'.at' ≤ n) : RdM w' rb sl n c src s' fold := by
 refine ⟨hb, h.len, ?_, h.ne, hat, h.n30⟩
 rcases h.src with h0 | ⟨b', o', e, hb', hc'⟩
 · exact .inl h0
 · exact .inr ⟨b', o', e, Nat.lt_of_lt_of_le hb' ht.size, fun i hi => (World.cell?_of_block (w := w) (ht.block b' hb' (h.ne _ e))).trans (hc' i hi)⟩
theorem RdM.step {w : World} {rb : Nat} {sl : Option Addr} {n c : Nat} {src : List Int} {s : RS} {fold : Bool} (h : RdM w rb sl n c src s fold) (k : Nat) (hk : s.at' + k ≤ n) : RdM (w.setCell ⟨rb, 1, none⟩ (.int .i64 ((s.at' + k : Nat) : Int))) rb sl n c src { s with at' := s.at' + k } fold :=
 h.touch (Touch.setCell (fun b => b = rb) w (p := ⟨rb, 1, none⟩) rfl _) (by unfold RdB; rw [block_set _ h.blk]; rfl) hk
theorem pk_digit {src : List Int} {a : Nat} (h : 48 ≤ pk src a 0) : a < src.length := by
 unfold pk at h
 split at h
 · omega
 · omega
set_option maxRecDepth 100000 in
set_option maxHeartbeats 4000000 in
theorem number_c (rb : Nat) (sl : Option Addr) (n c : Nat) (src : List Int) (s : RS) (fold : Bool) (w : World) (h : RdM w rb sl n c src s fold) :
  Calls Tryd.prog 79 #[.pointer (some ⟨rb, 0, none⟩)] w (RdP w rb sl n c src fold (numP' src s) (fun x w' v => v = .int .i64 x ∧ -1 ≤ x ∧ x ≤ 255)) := by
 obtain ⟨R, hR⟩ : ∃ R, numP' src s = R := ⟨_, rfl⟩
 rw [hR]
 have HR := Lib.hid hR
 have H := Lib.hid h
 have HP := Lib.hid (fun (W : World) (s1 : RS) (hW : RdM W rb sl n c src s1 fold) => (show Calls Tryd.prog 68 #[.pointer (some ⟨rb, 0, none⟩), .int .i64 0] W fun e w' => e = .returned (.int .i64 (pk src s1.at' 0)) ∧ ∃ m, w' = W.drewN m from peek_c rb sl n c src s1 fold 0 W hW (by decide)))
 have hn30 := h.n30
 have HLEN := Lib.hid h.len
 clear hR h
 go_enter Tryd.func79, Tryd.ntmps79
 go_wp2_with fail
 refine (HP.out w s H.out).mono ?_
 rintro e w1 ⟨rfl, m1, rfl⟩
 have H1 := Lib.hid (H.out.drewN m1)
 go_wp2_with fail
 go_loopg [3, 4] (n - s.at') (fun gg mv cv wr => ∃ (s1 : RS) (m : Int) (f : Nat), n - s1.at' = gg ∧ mv = .int .i64 m ∧ cv = .int .i64 (pk src s1.at' 0) ∧ -1 ≤ m ∧ m ≤ 255 ∧ n - s1.at' < f ∧ numR src f m s1 = R ∧ RdM wr rb sl n c src s1 fold ∧ Touch (fun b => b = rb) w wr)
 case atStart => exact ⟨s, -1, src.length + 1, rfl, rfl, rfl, by omega, by omega, by have := HLEN.out; omega, HR.out, H1.out, touch_drewN (Touch.refl _ _)⟩
 case round =>
  clear H H1
  obtain ⟨s1, m, f, hg, rfl, rfl, hm0, hm1, hf, hnr, hrm, htw⟩ := hrel
  obtain ⟨f', rfl⟩ : ∃ f', f = f' + 1 := ⟨f - 1, by omega⟩
  have HM := Lib.hid hrm
  have HT := Lib.hid htw
  obtain ⟨x, hx⟩ : ∃ x, pk src s1.at' 0 = x := ⟨_, rfl⟩
  have hnr2 : (if 48 ≤ x ∧ x ≤ 57 then (if 255 < max m 0 * 10 + x - 48 then .error s1.at' else numR src f' (max m 0 * 10 + x - 48) { s1 with at' := s1.at' + 1 }) else .ok (m, s1)) = R := by
   rw [← hx]; exact hnr
  have HNR := Lib.hid hnr2
  rw [hx]
  have b1 : wr.cell? ⟨rb, 1, none⟩ = some (.int .i64 s1.at') := block_cell hrm.blk
  have f1 : wr.frozen? ⟨rb, 1, none⟩ = false := block_free hrm.blk
  clear hrm htw hnr hnr2
  by_cases hd : 48 ≤ x ∧ x ≤ 57
  ·
   have hlt : s1.at' < n := by rw [← HLEN.out]; exact pk_digit (by rw [hx]; exact hd.1)
   obtain ⟨q1, q2⟩ := hd
   obtain ⟨mm, hmm⟩ : ∃ mm, max m 0 = mm := ⟨_, rfl⟩
   have hmm0 : 0 ≤ mm ∧ mm ≤ 255 := by omega
   have hmm1 : (if m < 0 then 0 else m) = mm := by rw [← hmm]; split <;> omega
   obtain ⟨a, ha⟩ : ∃ a, s1.at' = a := ⟨_, rfl⟩
   have HA := Lib.hid ha
   rw [ha] at b1 hlt
   clear ha
   by_cases hv : 255 < mm * 10 + x - 48
   ·
    have hr : R = .error a := by
     rw [← HNR.out, if_pos ⟨q1, q2⟩, hmm, if_pos hv, HA.out]
    subst hr
    clear hmm HNR HR
    go_wp2
    exact ⟨rfl, HT.out, rfl⟩
   ·
    have hr : numR src f' (mm * 10 + x - 48) { s1 with at' := s1.at' + 1 } = R := by
     rw [← HNR.out, if_pos ⟨q1, q2⟩, hmm, if_neg hv]
    have HR2 := Lib.hid hr
    have HS := Lib.hid (HM.out.step 1 (by rw [HA.out]; omega))
    have hv2 : ¬ 255 < mm * 10 + x - 48 := hv
    have ht1 := Touch.setCell (fun b => b = rb) wr (p := ⟨rb, 1, none⟩) rfl (.int .i64 ((a + 1 : Nat) : Int))
    have HTS := Lib.hid (HT.out.trans ht1 (fun y hy => .inl hy))
    rw [HA.out] at HS
    have ec : ((a + 1 : Nat) : Int) = (a : Int) + 1 := by omega
    rw [ec] at HS HTS
    clear hmm hr ht1 HNR HR ec
    have hgk : n - (a + 1) < gk := by rw [HA.out] at hg; omega
    have hfk : n - (a + 1) < f' := by rw [HA.out] at hf; omega
    rw [HA.out] at HR2
    go_wp2_with fail
    refine (HP.out (wr.setCell ⟨rb, 1, none⟩ (.int .i64 ((a : Int) + 1))) { s1 with at' := a + 1 } HS.out).mono ?_
    rintro e w2 ⟨rfl, m2, rfl⟩
    go_wp2
    go_roundg (n - (a + 1))
    case measure => exact hgk
    case rel => exact ⟨{ s1 with at' := a + 1 }, mm * 10 + x - 48, f', rfl, rfl, rfl, by omega, by omega, hfk, HR2.out, HS.out.drewN m2, touch_drewN HTS.out⟩
  ·
   have hr : R = .ok (m, s1) := by rw [← HNR.out, if_neg hd]
   subst hr
   have HM2 := HM.out
   have hdd : x < 48 ∨ 57 < x := by omega
   clear HNR HR
   rcases hdd with hdd | hdd
   ·
    go_wp2
    go_ret
    exact ⟨HT.out, ⟨_, rfl, rfl, hm0, hm1⟩, HM2⟩
   ·
    by_cases h48 : 48 ≤ x
    ·
     go_wp2
     go_ret
     exact ⟨HT.out, ⟨_, rfl, rfl, hm0, hm1⟩, HM2⟩
    · omega
theorem digP_hex (c : Int) : digP c = hexV c := rfl
set_option maxRecDepth 100000 in
set_option maxHeartbeats 8000000 in
theorem hex_c (count : Nat) (hc : count ≤ 6) (top : Int) (ht0 : 0 ≤ top) (ht1 : top < 2000000) (rb : Nat) (sl : Option Addr) (n c : Nat) (src : List Int) (s : RS) (fold : Bool) (w : World) (h : RdM w rb sl n c src s fold) :
  Calls Tryd.prog 85 #[.pointer (some ⟨rb, 0, none⟩), .int .i64 count, .int .i64 top] w (RdP w rb sl n c src fold (hexP src top count 0 s) (fun x w' v => v = .int .i64 x ∧ 0 ≤ x ∧ x ≤ top)) := by
 obtain ⟨R, hR⟩ : ∃ R, hexP src top count 0 s = R := ⟨_, rfl⟩
 rw [hR]
 have HR := Lib.hid hR
 have H := Lib.hid h
 have hn30 := h.n30
 have HLEN := Lib.hid h.len
 clear hR h
 go_enter Tryd.func85, Tryd.ntmps85
 go_wp2_with fail
 go_loopg [7, 8] count (fun gg mv lv wr => ∃ (s1 : RS) (m : Int) (i : Nat), i = gg ∧ i ≤ count ∧ mv = .int .i64 m ∧ lv = .int .i64 (4 * (i : Int) - 4) ∧ 0 ≤ m ∧ m ≤ top ∧ hexP src top i m s1 = R ∧ RdM wr rb sl n c src s1 fold ∧ Touch (fun b => b = rb) w wr)
 case atStart => exact ⟨s, 0, count, rfl, Nat.le_refl _, rfl, by go_num, by omega, ht0, HR.out, H.out, Touch.refl _ _⟩
 case round =>
  clear H HR
  obtain ⟨s1, m, i, hi, hic, rfl, rfl, hm0, hm1, hx, hrm, htw⟩ := hrel
  have HM := Lib.hid hrm
  have HT := Lib.hid htw
  have HX := Lib.hid hx
  clear hrm htw hx
  cases i with
  | zero =>
   have hr : R = .ok (m, s1) := HX.out.symm
   subst hr
   have HM2 := HM.out
   have q1 : ¬ (0 : Int) ≤ 4 * ((0 : Nat) : Int) - 4 := by omega
   go_wp2
   go_ret
   exact ⟨HT.out, ⟨_, rfl, rfl, hm0, hm1⟩, HM2⟩
  | succ j =>
   have q1 : (0 : Int) ≤ 4 * ((j + 1 : Nat) : Int) - 4 := by omega
   go_wp2_with fail
   refine (next_c rb sl n c src s1 fold wr HM.out).mono ?_
   rintro e w2 ⟨ht2, h2⟩
   have hx2 : (match nx src s1 with | .error e => .error e | .ok (c, s1) => if digP c < 0 ∨ top < (m * 16 + digP c) * 16 ^ j then .error (s1.at' - 1) else hexP src top j (m * 16 + digP c) s1) = R := HX.out
   cases hnx : nx src s1 with
   | error k =>
    rw [hnx] at h2 hx2
    have h2 : e = .panicked [wrongP k] := h2
    subst h2
    subst hx2
    go_wp2
    exact ⟨rfl, HT.out.trans ht2 (fun y hy => .inl hy), rfl⟩
   | ok r =>
    obtain ⟨y, s2⟩ := r
    rw [hnx] at h2 hx2
    obtain ⟨⟨v, rfl, rfl⟩, hrm2⟩ := h2
    have HM2 := Lib.hid hrm2
    have HT2 := Lib.hid (HT.out.trans ht2 (fun y hy => .inl hy))
    have hs2 : s2.at' = s1.at' + 1 := by
     unfold nx at hnx
     split at hnx
     · cases hnx
     ·
      injection hnx with hnx
      injection hnx with _ hnx
      rw [← hnx]
    have HS2 := Lib.hid hs2
    simp only [digP_hex] at hx2
    have hd := hexV_le y
    have HDG := Lib.hid (digit_any y w2)
    obtain ⟨d, hdd⟩ : ∃ d, hexV y = d := ⟨_, rfl⟩
    simp only [hdd] at hx2
    rw [hdd] at hd HDG
    have HX2 := Lib.hid hx2
    clear hrm2 ht2 hx2 hnx hs2 hdd HM HT HX
    go_wp2_with fail
    refine HDG.out.mono ?_
    rintro e w3 ⟨rfl, rfl⟩
    have hj6 : j = 0 ∨ j = 1 ∨ j = 2 ∨ j = 3 ∨ j = 4 ∨ j = 5 := by omega
    obtain ⟨a, ha⟩ : ∃ a, s1.at' = a := ⟨_, rfl⟩
    have b1 : w2.cell? ⟨rb, 1, none⟩ = some (.int .i64 ((a : Int) + 1)) := by
     have h := block_cell (i := 1) HM2.out.blk
     rw [HS2.out, ha] at h
     exact h
    have han : a < 1073741824 := by have := HM2.out.at'; rw [HS2.out, ha] at this; omega
    rw [ha] at HS2
    clear ha
    by_cases hd0 : d < 0
    ·
     have hr : R = .error a := by rw [← HX2.out, if_pos (.inl hd0), HS2.out]; rfl
     subst hr
     go_wp2
     exact ⟨rfl, HT2.out, rfl⟩
    rcases hj6 with rfl | rfl | rfl | rfl | rfl | rfl
    ·
     subst hi
     have hb1 : ((16 : Int) ^ 0) = 1 := by decide
     by_cases hv : top < (m * 16 + d) * 1
     ·
      have hr : R = .error a := by rw [← HX2.out, if_pos (.inr (by rw [hb1]; exact hv)), HS2.out]; rfl
      subst hr
      clear hb1
      go_wp2
      exact ⟨rfl, HT2.out, rfl⟩
     ·
      have hr : hexP src top 0 (m * 16 + d) s2 = R := by rw [← HX2.out, if_neg (by rw [hb1]; intro h; rcases h with h | h; exact hd0 h; exact hv h)]
      have HR3 := Lib.hid hr
      have HM3 := Lib.hid HM2.out
      clear hr hb1
      go_wp2
      go_roundg 0
      case measure => omega
      case rel => exact ⟨s2, m * 16 + d, 0, rfl, by omega, rfl, by go_num, by omega, by omega, HR3.out, HM3.out, HT2.out⟩
    ·
     subst hi
     have hb1 : ((16 : Int) ^ 1) = 16 := by decide
     by_cases hv : top < (m * 16 + d) * 16
     ·
      have hr : R = .error a := by rw [← HX2.out, if_pos (.inr (by rw [hb1]; exact hv)), HS2.out]; rfl
      subst hr
      clear hb1
      go_wp2
      exact ⟨rfl, HT2.out, rfl⟩
     ·
      have hr : hexP src top 1 (m * 16 + d) s2 = R := by rw [← HX2.out, if_neg (by rw [hb1]; intro h; rcases h with h | h; exact hd0 h; exact hv h)]
      have HR3 := Lib.hid hr
      have HM3 := Lib.hid HM2.out
      clear hr hb1
      go_wp2
      go_roundg 1
      case measure => omega
      case rel => exact ⟨s2, m * 16 + d, 1, rfl, by omega, rfl, by go_num, by omega, by omega, HR3.out, HM3.out, HT2.out⟩
    ·
     subst hi
     have hb1 : ((16 : Int) ^ 2) = 256 := by decide
     by_cases hv : top < (m * 16 + d) * 256
     ·
      have hr : R = .error a := by rw [← HX2.out, if_pos (.inr (by rw [hb1]; exact hv)), HS2.out]; rfl
      subst hr
      clear hb1
      go_wp2
      exact ⟨rfl, HT2.out, rfl⟩
     ·
      have hr : hexP src top 2 (m * 16 + d) s2 = R := by rw [← HX2.out, if_neg (by rw [hb1]; intro h; rcases h with h | h; exact hd0 h; exact hv h)]
      have HR3 := Lib.hid hr
      have HM3 := Lib.hid HM2.out
      clear hr hb1
      go_wp2
      go_roundg 2
      case measure => omega
      case rel => exact ⟨s2, m * 16 + d, 2, rfl, by omega, rfl, by go_num, by omega, by omega, HR3.out, HM3.out, HT2.out⟩
    ·
     subst hi
     have hb1 : ((16 : Int) ^ 3) = 4096 := by decide
     by_cases hv : top < (m * 16 + d) * 4096
     ·
      have hr : R = .error a := by rw [← HX2.out, if_pos (.inr (by rw [hb1]; exact hv)), HS2.out]; rfl
      subst hr
      clear hb1
      go_wp2
      exact ⟨rfl, HT2.out, rfl⟩
     ·
      have hr : hexP src top 3 (m * 16 + d) s2 = R := by rw [← HX2.out, if_neg (by rw [hb1]; intro h; rcases h with h | h; exact hd0 h; exact hv h)]
      have HR3 := Lib.hid hr
      have HM3 := Lib.hid HM2.out
      clear hr hb1
      go_wp2
      go_roundg 3
      case measure => omega
      case rel => exact ⟨s2, m * 16 + d, 3, rfl, by omega, rfl, by go_num, by omega, by omega, HR3.out, HM3.out, HT2.out⟩
    ·
     subst hi
     have hb1 : ((16 : Int) ^ 4) = 65536 := by decide
     by_cases hv : top < (m * 16 + d) * 65536
     ·
      have hr : R = .error a := by rw [← HX2.out, if_pos (.inr (by rw [hb1]; exact hv)), HS2.out]; rfl
      subst hr
      clear hb1
      go_wp2
      exact ⟨rfl, HT2.out, rfl⟩
     ·
      have hr : hexP src top 4 (m * 16 + d) s2 = R := by rw [← HX2.out, if_neg (by rw [hb1]; intro h; rcases h with h | h; exact hd0 h; exact hv h)]
      have HR3 := Lib.hid hr
      have HM3 := Lib.hid HM2.out
      clear hr hb1
      go_wp2
      go_roundg 4
      case measure => omega
      case rel => exact ⟨s2, m * 16 + d, 4, rfl, by omega, rfl, by go_num, by omega, by omega, HR3.out, HM3.out, HT2.out⟩
    ·
     subst hi
     have hb1 : ((16 : Int) ^ 5) = 1048576 := by decide
     by_cases hv : top < (m * 16 + d) * 1048576
     ·
      have hr : R = .error a := by rw [← HX2.out, if_pos (.inr (by rw [hb1]; exact hv)), HS2.out]; rfl
      subst hr
      clear hb1
      go_wp2
      exact ⟨rfl, HT2.out, rfl⟩
     ·
      have hr : hexP src top 5 (m * 16 + d) s2 = R := by rw [← HX2.out, if_neg (by rw [hb1]; intro h; rcases h with h | h; exact hd0 h; exact hv h)]
      have HR3 := Lib.hid hr
      have HM3 := Lib.hid HM2.out
      clear hr hb1
      go_wp2
      go_roundg 5
      case measure => omega
      case rel => exact ⟨s2, m * 16 + d, 5, rfl, by omega, rfl, by go_num, by omega, by omega, HR3.out, HM3.out, HT2.out⟩
end Go.Proofs.YtdegdoilpamjjaaDoor
