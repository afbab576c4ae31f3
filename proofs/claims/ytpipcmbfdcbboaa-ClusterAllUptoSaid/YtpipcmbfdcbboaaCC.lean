/- The walk of ClusterAll. Condition: each list has fewer than 2^20 atoms. -/
import Derived.Test.YtpipcmbfdcbboaaCB
namespace Go.Proofs.Ytpipcmbfdcbboaa
open Go.RowKit
/-- a slice of calls that came in -/
structure OpAt (w : World) (b o : Nat) (K A : Int) (S : Option Addr) (N C : Nat) (F : Nat → Int) : Prop where
  k : w.cell? ⟨b, o, none⟩ = some (.int .i64 K)
  a : w.cell? ⟨b, o + 1, none⟩ = some (.int .i64 A)
  s : w.cell? ⟨b, o + 2, none⟩ = some (.slice S N C)
  ints : IsInts w S N F
  small : N < 1048577
def IsOps (w : World) (s : Option Addr) (len : Nat) (K A : Nat → Int) (S : Nat → Option Addr) (N C : Nat → Nat) (F : Nat → Nat → Int) : Prop :=
  len = 0 ∨ ∃ b off, s = some ⟨b, off, none⟩ ∧ b < w.heap.size ∧ ∀ i, i < len → OpAt w b (off + i * 3) (K i) (A i) (S i) (N i) (C i) (F i)
theorem IsOps.at {w w1 : World} {s : Option Addr} {len : Nat} {K A : Nat → Int} {S : Nat → Option Addr} {N C : Nat → Nat} {F : Nat → Nat → Int} (h : IsOps w s len K A S N C F) (hb : Below w.heap.size w w1) {i : Nat} (hi : i < len) :
    ∃ b off, s = some ⟨b, off, none⟩ ∧ OpAt w1 b (off + i * 3) (K i) (A i) (S i) (N i) (C i) (F i) := by
  rcases h with h | ⟨b, off, hs, hlt, hc⟩
  · omega
  · obtain ⟨h1, h2, h3, h4, h5⟩ := hc i hi
    exact ⟨b, off, hs, ⟨(hb.cell (p := ⟨b, off + i * 3, none⟩) hlt).trans h1, (hb.cell (p := ⟨b, off + i * 3 + 1, none⟩) hlt).trans h2, (hb.cell (p := ⟨b, off + i * 3 + 2, none⟩) hlt).trans h3, h4.later hb, h5⟩⟩
theorem bn_nil (f : Nat → Int) : bn f 0 = 1 := by unfold bn; rw [allB_bounds]; rfl
set_option maxHeartbeats 4000000 in
theorem lawall_any (s : Option Addr) (len cap : Nat) (K A : Nat → Int) (S : Nat → Option Addr) (N C : Nat → Nat) (F : Nat → Nat → Int) (w : World) (hl : len < 1048577) (hr : IsOps w s len K A S N C F) :
    Calls Try.prog 10 #[.slice s len cap] w fun e w' => e = .returned (.bool true) ∧ Below w.heap.size w w' := by
  have HR := Lib.hid hr
  clear hr
  go_enter Try.func10, Try.ntmps10
  go_wp2_with fail
  refine (breaks_c none 0 0 (fun _ => 0) w (by omega) (.inl rfl)).mono ?_
  rintro e w1 ⟨sb, cb, rfl, hi, ho, hb⟩
  rw [bn_nil]
  have HB := Lib.hid hb
  clear hi ho hb
  go_wp2_with fail
  go_loopg [3] len (fun g i wr => ∃ k : Nat, k + g = len ∧ i = .int .i64 k ∧ Below w.heap.size w wr)
  case atStart => exact ⟨0, by omega, rfl, HB.out⟩
  case round =>
    obtain ⟨k, hk, rfl, hb⟩ := hrel
    replace HB := Lib.hid hb
    clear hb
    by_cases hlt : k < len
    · obtain ⟨b, off, rfl, hop⟩ := HR.out.at HB.out hlt
      obtain ⟨c0, c1, c2, hin, hsm⟩ := hop
      generalize K k = kk at *
      generalize A k = aa at *
      generalize S k = ss at *
      generalize N k = nn at *
      generalize C k = cc at *
      generalize F k = ff at *
      have HI := Lib.hid hin
      clear hin
      go_wp2_with fail
      refine (played_any kk aa ss nn cc ff _ hsm HI.out).mono ?_
      rintro e w2 ⟨rfl, hb⟩
      replace HB := Lib.hid (bt HB.out hb)
      clear hb c0 c1 c2
      go_wp2
      go_roundg (gk - 1)
      case measure => omega
      case rel => exact ⟨k + 1, by omega, by go_num, HB.out⟩
    · go_wp2
      go_ret
      exact ⟨rfl, HB.out⟩
end Go.Proofs.Ytpipcmbfdcbboaa
