/- Contracts: lent and stands of copyistlaw3. Condition: fewer than 2^30 members. -/
import Derived.Test.YtpipcmbfdcbboaaKd
namespace Go.Proofs.Ytpipcmbfdcbboaa
open Go.RowKit
set_option maxHeartbeats 2000000 in
theorem lent_c (sa : Option Addr) (n cap : Nat) (f : Nat → Int) (x : Int) (w : World) (hn : n < 1073741824) (hx : 0 ≤ x ∧ x < 1000000000) (hr : IsInts w sa n f) :
    Calls Try.prog 30 #[.slice sa n cap, .int .i64 x] w fun e w' => ∃ s c, e = .returned (.slice s (n + 120) c) ∧ OwnInts w' w.heap.size (.slice s (n + 120) c) (lst (cat f n (fun i => x + (i : Int))) (n + 120)) ∧ Below w.heap.size w w' := by
  have HR := Lib.hid hr
  clear hr
  go_enter Try.func30, Try.ntmps30
  go_wp2_with fail
  refine (copied_c sa n cap f _ (by omega) HR.out).mono ?_
  rintro e w1 ⟨s1, c1, rfl, _, _, ho, hb⟩
  have HO := Lib.hid (OwnInts.as ho (show lst f n = lst (cat f n (fun i => x + (i : Int))) (n + 0) from lst_congr (fun i hi => by unfold cat; rw [if_pos (by omega)])))
  have HB := Lib.hid hb
  clear ho hb
  go_wp2_with fail
  go_loopg [5, 6] 120 (fun g v iv wr => ∃ k : Nat, ∃ sl : Option Addr, ∃ c : Nat, k + g = 120 ∧ v = .slice sl (n + k) c ∧ iv = .int .i64 k ∧ OwnInts wr w.heap.size (.slice sl (n + k) c) (lst (cat f n (fun i => x + (i : Int))) (n + k)) ∧ Below w.heap.size w wr)
  case atStart => exact ⟨0, s1, c1, by omega, rfl, rfl, HO.out, HB.out⟩
  case round =>
    clear HO HB
    obtain ⟨k, sl, c, hk, rfl, rfl, ho, hb⟩ := hrel
    have HO := Lib.hid ho
    have HB := Lib.hid hb
    clear ho hb
    by_cases hlt : k < 120
    · have e1 : (k : Int) < 120 := by omega
      have q1 : IntKind.i64.wrap (x + (k : Int)) = x + (k : Int) := by rw [IntKind.wrap_i64]; omega
      have hpush : lst (cat f n (fun i => x + (i : Int))) (n + k) ++ [x + (k : Int)] = lst (cat f n (fun i => x + (i : Int))) (n + (k + 1)) := by
        rw [show n + (k + 1) = (n + k) + 1 from by omega, lst_succ]
        congr 2
        unfold cat
        rw [if_neg (by omega), show n + k - n = k from by omega]
      have HPU := Lib.hid hpush
      clear hpush
      go_wp2_with (first | (at_builtin; refine wpList_push3 _ rfl _ _ rfl w.heap.size _ _ _ _ rfl rfl HO.out (by omega) HB.out.size ?_; intro s' c' w2 ho2 hg2 _; have HB2 := Lib.hid (Below.grown HB.out hg2 HB.out.size (fun q hq => (HO.out.lt q hq).1)); have HO2 := Lib.hid ho2; clear ho2 hg2))
      go_roundg (gk - 1)
      case measure => omega
      case rel => exact ⟨k + 1, _, _, by omega, rfl, by go_num, OwnInts.as HO2.out HPU.out, HB2.out⟩
    · obtain rfl : k = 120 := by omega
      go_wp2
      go_ret
      exact ⟨_, _, rfl, HO.out, HB.out⟩
/-- what was handed out and written full -/
structure HeldD where
  g : Nat
  c : Nat
  sM : Option Addr
  nM : Nat
  cM : Nat
  mark : Int
def hcells (h : HeldD) : List Value := [.slice (some ⟨h.g, 0, none⟩) h.c h.c, .slice h.sM h.nM h.cM, .int .i64 h.mark]
def HeldOk (w : World) (h : HeldD) : Prop := Blk w h.g h.c h.c h.mark ∧ OwnInts w 0 (.slice h.sM h.nM h.cM) (lst (fun _ => h.mark) h.nM) ∧ h.c ≤ maxLen ∧ h.nM < 1073741824
theorem HeldOk.later {w w' : World} {h : HeldD} (hk : HeldOk w h) (hb : Below w.heap.size w w') : HeldOk w' h := ⟨hk.1.block (hb.block _ hk.1.lt), hk.2.1.later hb, hk.2.2⟩
theorem flat3 (hs : List HeldD) : ∀ i (h : i < hs.length), (hs.flatMap hcells)[i * 3]? = some (.slice (some ⟨hs[i].g, 0, none⟩) hs[i].c hs[i].c) ∧ (hs.flatMap hcells)[i * 3 + 1]? = some (.slice hs[i].sM hs[i].nM hs[i].cM) ∧ (hs.flatMap hcells)[i * 3 + 2]? = some (.int .i64 hs[i].mark) := by
  induction hs with
  | nil => intro i h; cases h
  | cons a r ih =>
    intro i h
    rw [List.flatMap_cons]
    cases i with
    | zero => exact ⟨rfl, rfl, rfl⟩
    | succ i =>
      have := ih i (by simpa using h)
      have hl : (hcells a).length = 3 := rfl
      rw [show (i + 1) * 3 = (hcells a).length + i * 3 from by rw [hl]; omega, Nat.add_assoc, Nat.add_assoc, List.getElem?_append_right (by omega), List.getElem?_append_right (by omega), List.getElem?_append_right (by omega)]
      simp only [Nat.add_sub_cancel_left]
      simpa using this
theorem flat3_len (hs : List HeldD) : (hs.flatMap hcells).length = hs.length * 3 := by
  induction hs with
  | nil => rfl
  | cons a r ih => rw [List.flatMap_cons, List.length_append, ih]; show 3 + r.length * 3 = (r.length + 1) * 3; omega
/-- a list of such of the call's own -/
def OwnHeld (w : World) (base : Nat) (v : Value) (hs : List HeldD) : Prop := w.ownsRow base 44 3 v hs.length (hs.flatMap hcells)
theorem OwnHeld.shape {w : World} {base : Nat} {s : Option Addr} {n c : Nat} {hs : List HeldD} (h : OwnHeld w base (.slice s n c) hs) : n = hs.length ∧ (n = 0 ∨ ∃ g, s = some ⟨g, 0, none⟩ ∧ base ≤ g ∧ g < w.heap.size ∧ ∀ i (hi : i < hs.length), w.cell? ⟨g, i * 3, none⟩ = some (.slice (some ⟨hs[i].g, 0, none⟩) hs[i].c hs[i].c) ∧ w.cell? ⟨g, i * 3 + 1, none⟩ = some (.slice hs[i].sM hs[i].nM hs[i].cM) ∧ w.cell? ⟨g, i * 3 + 2, none⟩ = some (.int .i64 hs[i].mark)) := by
  have h' := h
  unfold OwnHeld at h'
  rcases h.2 with ⟨h1, h2⟩ | ⟨g, cap, cur, h1, hg, hgg, _⟩
  · obtain ⟨_, h3, _⟩ := Value.slice.inj h1
    exact ⟨by omega, .inl h3⟩
  · obtain ⟨rfl, rfl, rfl⟩ := Value.slice.inj h1
    refine ⟨rfl, .inr ⟨g, rfl, hg, heap_lt hgg, fun i hi => ?_⟩⟩
    obtain ⟨f1, f2, f3⟩ := flat3 hs i hi
    exact ⟨by rw [World.ownsRow.cellAt h' _ (by omega), f1], by rw [World.ownsRow.cellAt h' _ (by omega), f2], by rw [World.ownsRow.cellAt h' _ (by omega), f3]⟩
theorem below_new2 (w : World) (o : Obj) : Below w.heap.size w (w.alloc o) := (Below.refl _ _).alloc (Nat.le_refl _) _
set_option maxRecDepth 100000 in
set_option maxHeartbeats 2000000 in
theorem stands_c (base : Nat) (s : Option Addr) (n c : Nat) (hs : List HeldD) (w : World) (hn : n < 1073741824) (ho : OwnHeld w base (.slice s n c) hs) (hok : ∀ h ∈ hs, HeldOk w h) :
    Calls Try.prog 32 #[.slice s n c] w fun e w' => e = .returned (.bool true) ∧ Below w.heap.size w w' := by
  obtain ⟨hl, hc⟩ := ho.shape
  have HC := Lib.hid hc
  have HOK := Lib.hid hok
  have HL := Lib.hid hl
  clear ho hok hc hl
  go_enter Try.func32, Try.ntmps32
  go_wp2_with fail
  go_loopg [3] n (fun g iv wr => ∃ i : Nat, i + g = n ∧ iv = .int .i64 i ∧ Below w.heap.size w wr)
  case atStart => exact ⟨0, by omega, rfl, Below.refl _ _⟩
  case round =>
    obtain ⟨i, hg, rfl, hb⟩ := hrel
    have HB := Lib.hid hb
    clear hb
    by_cases hlt : i < n
    · have hc := HC.out
      rcases hc with h0 | ⟨g, rfl, _, hgs, hcell⟩
      · exfalso; omega
      · have hil : i < hs.length := by have := HL.out; omega
        obtain ⟨c0, c1, c2⟩ := hcell i hil
        have hk := (HOK.out _ (List.getElem_mem hil)).later HB.out
        rw [← HB.out.cell (p := ⟨g, i * 3, none⟩) hgs] at c0
        rw [← HB.out.cell (p := ⟨g, i * 3 + 1, none⟩) hgs] at c1
        rw [← HB.out.cell (p := ⟨g, i * 3 + 2, none⟩) hgs] at c2
        clear hcell hgs
        generalize hs[i] = h at *
        obtain ⟨hgL, hcL, hsM, hnM, hcM, hmk⟩ := h
        simp only at c0 c1 c2
        have HK := Lib.hid hk
        clear hk
        have e1 : (i : Int) < (n : Int) := by omega
        have hb2 := below_new2 wr (.cells #[.slice (some ⟨hgL, 0, none⟩) hcL hcL, .slice hsM hnM hcM, .int .i64 hmk] 44)
        replace HK := Lib.hid (HK.out.later hb2)
        replace HB := Lib.hid (bt HB.out hb2)
        clear hb2
        go_wp2_with fail
        refine (all_c (some ⟨hgL, 0, none⟩) hcL hcL hmk _ HK.out.2.2.1 (HK.out.1.row.ints (Nat.le_refl _))).mono ?_
        rintro e w2 ⟨rfl, rfl⟩
        go_wp2_with fail
        refine (all_c hsM hnM hcM hmk _ (by have := HK.out.2.2.2; unfold maxLen; simp only at this; omega) (HK.out.2.1.is.same (fun q hq => lst_getD _ _ q hq))).mono ?_
        rintro e w2 ⟨rfl, rfl⟩
        clear c0 c1 c2 HK
        go_wp2
        go_roundg (gk - 1)
        case measure => omega
        case rel => exact ⟨i + 1, by omega, by go_num, HB.out⟩
    · have e1 : ¬ ((i : Int) < (n : Int)) := by omega
      go_wp2
      go_ret
      exact ⟨rfl, HB.out⟩
end Go.Proofs.Ytpipcmbfdcbboaa
