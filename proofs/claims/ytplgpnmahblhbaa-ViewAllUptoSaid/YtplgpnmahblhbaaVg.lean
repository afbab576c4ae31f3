/- Contracts: view.At. Condition: fewer than 2^32 atoms. -/
import Derived.Test.YtplgpnmahblhbaaVd
namespace Go.Proofs.Ytplgpnmahblhbaa
open Go.RowKit
/-- the cluster that covers a cell -/
def atY (f : Nat → Int) (n : Nat) (c : Int) (s i : Nat) : Nat × Bool := if cellAt f n i ≤ c ∧ c < cellAt f n (i + 1) then (bx f n i, false) else (s, true)
def atF (f : Nat → Int) (n : Nat) (c : Int) : Nat := if c < 0 then 0 else runI (atY f n c) (bnv f n - 1) 0 n
set_option maxHeartbeats 1000000 in
theorem at1_any (fr tt : Nat) (cl wd c : Int) (b s : Nat) (w : World) (hc : 0 ≤ cl) (hc' : cl ≤ 68719476736) (hw : 0 ≤ wd) (hw' : wd ≤ 8) (ha : IsBox w b 3 (.int .i64 c)) (h : IsBox w (b + 1) 3 (.int .i64 s)) :
    Calls Try.prog 34 #[.int .i64 fr, .int .i64 tt, .int .i64 cl, .int .i64 wd, .pointer (some ⟨b, 0, none⟩), .pointer (some ⟨b + 1, 0, none⟩)] w fun e w' =>
      e = .returned (.bool (if cl ≤ c ∧ c < cl + wd then false else true)) ∧ (IsBox w' b 3 (.int .i64 c) ∧ IsBox w' (b + 1) 3 (.int .i64 ((if cl ≤ c ∧ c < cl + wd then fr else s : Nat) : Int))) ∧ Below b w w' ∧ Above (b + 2) w w' := by
  have HA := Lib.hid ha
  have H := Lib.hid h
  obtain ⟨hca, hfa⟩ := ha.cell
  obtain ⟨hcb, hf⟩ := h.cell
  clear h ha
  by_cases h1 : cl ≤ c
  · by_cases h2 : c < cl + wd
    · rw [if_pos ⟨h1, h2⟩, if_pos ⟨h1, h2⟩]
      go_enter Try.func34, Try.ntmps34
      go_wp2
      go_ret
      refine ⟨rfl, ⟨HA.out.other (by omega) _, H.out.set _⟩, below_boxset (Below.refl _ _) (by omega) _, fun g hg _ => ?_⟩
      show (w.heap.modify (b + 1) _)[g]? = _
      rw [Array.getElem?_modify, if_neg (by omega)]
    · rw [if_neg (fun h => h2 h.2), if_neg (fun h => h2 h.2)]
      go_enter Try.func34, Try.ntmps34
      go_wp2
      go_ret
      exact ⟨rfl, ⟨HA.out, H.out⟩, Below.refl _ _, fun _ _ _ => rfl⟩
  · rw [if_neg (fun h => h1 h.1), if_neg (fun h => h1 h.1)]
    go_enter Try.func34, Try.ntmps34
    go_wp2
    go_ret
    exact ⟨rfl, ⟨HA.out, H.out⟩, Below.refl _ _, fun _ _ _ => rfl⟩
set_option maxHeartbeats 2000000 in
theorem at_any (sa : Option Addr) (len scap : Nat) (f : Nat → Int) (c : Int) (w : World) (hl : len < 4294967295) (hcap : len ≤ scap) (hr : IsInts w sa len f) :
    Calls Try.prog 22 #[.slice sa len scap, .int .i64 c] w fun e w' => e = .returned (.int .i64 (atF f len c)) ∧ Below w.heap.size w w' := by
  have hmf : ∀ (fn : Fn) (first cap : Array Value) (w : World), (Instr.makeFunc fn first cap).run Try.prog w = .ok (.func fn first cap) w := fun _ _ _ _ => rfl
  by_cases h0 : c < 0
  · have he : atF f len c = 0 := by unfold atF; rw [if_pos h0]
    rw [he]
    clear he hr
    have hn := IsBox.new w 3 (.int .i64 c)
    have hb : Below w.heap.size w (w.alloc (.cells #[.int .i64 c] 3)) := (Below.refl _ _).alloc (Nat.le_refl _) _
    have HB := Lib.hid hb
    obtain ⟨hc, hf⟩ := hn.cell
    clear hn hb
    go_enter Try.func22, Try.ntmps22
    go_wp2
    go_ret
    exact ⟨rfl, HB.out⟩
  · have he : atF f len c = runI (atY f len c) (bnv f len - 1) 0 len := by unfold atF; rw [if_neg h0]
    rw [he]
    have HR := Lib.hid hr
    clear he hr
    have hbn := bnv_bd f len
    go_enter Try.func22, Try.ntmps22
    go_wp2_with fail
    refine (scan_any (fun (s : Nat) wr => IsBox wr w.heap.size 3 (.int .i64 c) ∧ IsBox wr (w.heap.size + 1) 3 (.int .i64 s)) (atY f len c) w _ 34 #[.pointer (some ⟨w.heap.size, 0, none⟩), .pointer (some ⟨w.heap.size + 1, 0, none⟩)] len scap f sa ?hY (fun s w1 w2 h hb => ⟨h.1.below hb, h.2.below hb⟩) (enters_of Try.func34 (by kernel_rfl) rfl) HR.out hl hcap len (boxes2 w _ _).1 (boxes2 w _ _).2).mono ?_
    case hY =>
      intro s i w1 hi h1 hb1
      have hcb := cellAt_bd f len i
      have hob := cellW_bd (fun k => f (k + bx f len i)) (bx f len (i + 1) - bx f len i) (cellAt f len i)
      refine (at1_any (bx f len i) (bx f len (i + 1)) (cellAt f len i) (cellOf f len i) c _ s w1 (by omega) (by omega) hob.1 hob.2 h1.1 h1.2).mono ?_
      rintro e w2 ⟨rfl, h2, hb2, ha2⟩
      have hsz : ((w.alloc (.cells #[.int .i64 c] 3)).alloc (.cells #[.int .i64 len] 3)).heap.size = w.heap.size + 2 := by simp
      have e0 : cellAt f len (i + 1) = cellAt f len i + cellOf f len i := rfl
      refine ⟨ret_bool ?_, ⟨h2.1, ?_⟩, hb1.trans hb2, ?_⟩
      · unfold atY; rw [e0]; split <;> rfl
      · have e1 : (atY f len c s i).1 = if cellAt f len i ≤ c ∧ c < cellAt f len i + cellOf f len i then bx f len i else s := by unfold atY; rw [e0]; split <;> rfl
        rw [e1]; exact h2.2
      · rw [hsz]; exact ha2
    rintro e w1 ⟨rfl, h1, hb1⟩
    have HB := Lib.hid hb1
    obtain ⟨hc, hf⟩ := h1.2.cell
    clear h1 hb1
    go_wp2
    go_ret
    exact ⟨rfl, HB.out⟩
end Go.Proofs.Ytplgpnmahblhbaa
