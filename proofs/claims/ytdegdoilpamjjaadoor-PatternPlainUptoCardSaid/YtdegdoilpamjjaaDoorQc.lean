/- Contracts of the pattern's reader at a quoted int: times, thing, member. Condition: no more than 2^30 ints. -/
import Derived.Test.YtdegdoilpamjjaaDoorQb
namespace Go.Proofs.YtdegdoilpamjjaaDoor
open Go.RowKit
set_option linter.unusedVariables false
set_option linter.unusedSimpArgs false
set_option maxRecDepth 100000 in
set_option maxHeartbeats 4000000 in
theorem times_q (rb : Nat) (sl : Option Addr) (n c : Nat) (src : List Int) (s : RS) (fold : Bool) (t0 : TypeId) (v0 : Value) (w : World) (h : RdM w rb sl n c src s fold) (n42 : pk src s.at' 0 ≠ 42) (e43 : escB src s.at' 43 = false) (e63 : escB src s.at' 63 = false) (e123 : escB src s.at' 123 = false) :
    Calls Tryd.prog 69 #[.pointer (some ⟨rb, 0, none⟩), .iface t0 v0] w fun e w' => e = .returned (.iface t0 v0) ∧ Touch (fun b => b = rb) w w' ∧ RdM w' rb sl n c src s fold := by
  have hrb := heap_lt h.blk
  have hA := AgB.new w rb (.iface t0 v0) hrb _ rfl
  have hR := h.later (below_newJ w (.cells #[.iface t0 v0, .int .i64 0, .int .i64 (-1), .bool false] 142 (0, 0)))
  have HA := Lib.hid hA
  have HR := Lib.hid hR
  have hn30 := h.n30
  have E43 := Lib.hid e43
  have E63 := Lib.hid e63
  have E123 := Lib.hid e123
  clear h hA hR e43 e63 e123
  go_enter Tryd.func69, Tryd.ntmps69
  go_wp2_with fail
  refine (peek_c rb sl n c src s fold 0 _ HR.out (by decide)).mono ?_
  rintro e w2 ⟨rfl, m, rfl⟩
  have HR2 := Lib.hid (HR.out.drewN m)
  have HA2 := Lib.hid (HA.out.drewN m)
  clear HR HA
  generalize World.drewN _ m = w2 at HR2 HA2 ⊢
  generalize pk src s.at' 0 = p0 at n42 ⊢
  have N42 : (p0 == 42) = false := by rw [beq_eq_false_iff_ne]; exact n42
  go_wp2_with fail
  refine (escaped_c rb sl n c src s fold 43 _ HR2.out).mono ?_
  rintro e w3 ⟨rfl, m, rfl⟩
  rw [E43.out]
  have HR3 := Lib.hid (HR2.out.drewN m)
  have HA3 := Lib.hid (HA2.out.drewN m)
  clear HR2 HA2
  generalize World.drewN _ m = w3 at HR3 HA3 ⊢
  go_wp2_with fail
  refine (escaped_c rb sl n c src s fold 63 _ HR3.out).mono ?_
  rintro e w4 ⟨rfl, m, rfl⟩
  rw [E63.out]
  have HR4 := Lib.hid (HR3.out.drewN m)
  have HA4 := Lib.hid (HA3.out.drewN m)
  clear HR3 HA3
  generalize World.drewN _ m = w4 at HR4 HA4 ⊢
  go_wp2_with fail
  refine (escaped_c rb sl n c src s fold 123 _ HR4.out).mono ?_
  rintro e w5 ⟨rfl, m, rfl⟩
  rw [E123.out]
  have HR5 := Lib.hid (HR4.out.drewN m)
  have HA5 := Lib.hid (HA4.out.drewN m)
  clear HR4 HA4
  generalize World.drewN _ m = w5 at HR5 HA5 ⊢
  go_wp2
  go_ret
  exact ⟨rfl, HA5.out.touch, HR5.out⟩
theorem spc_no {c : Int} (h : spc c = false) : (c == 42) = false ∧ (c == 46) = false ∧ (c == 91) = false ∧ (c == 92) = false ∧ (c == 94) = false ∧ (c == 36) = false := by
  unfold spc at h
  simp only [Bool.or_eq_false_iff] at h
  obtain ⟨⟨⟨⟨⟨h1, h2⟩, h3⟩, h4⟩, h5⟩, h6⟩ := h
  exact ⟨h4, h2, h3, h1, h5, h6⟩
theorem spc_is {c : Int} (h : spc c = true) : c = 92 ∨ c = 46 ∨ c = 91 ∨ c = 42 ∨ c = 94 ∨ c = 36 := by
  unfold spc at h
  simp only [Bool.or_eq_true, beq_iff_eq] at h
  rcases h with ((((h | h) | h) | h) | h) | h <;> simp [h]
theorem isLetter_no (c : Int) (hc : spc c = true) (w : World) : Calls Tryd.prog 59 #[.int .i64 c] w fun e w' => e = .returned (.bool false) ∧ w' = w := by
  rcases spc_is hc with rfl | rfl | rfl | rfl | rfl | rfl <;>
  · go_enter Tryd.func59, Tryd.ntmps59
    go_wp2
    go_ret
    exact ⟨rfl, rfl⟩
theorem pk_src {src : List Int} {p k : Nat} (h : p + k < src.length) : pk src p k = srcAt src (p + k) := if_pos h
set_option maxRecDepth 100000 in
set_option maxHeartbeats 4000000 in
theorem thing_p (rb : Nat) (sl : Option Addr) (n c : Nat) (src : List Int) (s : RS) (fold : Bool) (x : Int) (w : World) (h : RdM w rb sl n c src s fold) (hp : s.at' < src.length) (hx : spc x = false) (h0 : pk src s.at' 0 = x) :
    Calls Tryd.prog 70 #[.pointer (some ⟨rb, 0, none⟩)] w fun e w' => ∃ v, e = .returned v ∧ SetN w' fold v x ∧ Touch (fun b => b = rb) w w' ∧ RdM w' rb sl n c src { s with at' := s.at' + 1 } fold := by
  have hN := next_c rb sl n c src s fold w h
  have hnx : nx src s = .ok (x, { s with at' := s.at' + 1 }) := by
    unfold nx
    rw [if_neg (by omega)]
    rw [← h0, pk_src (by omega)]; rfl
  rw [hnx] at hN
  have HN := Lib.hid hN
  obtain ⟨n1, n2, n3, n4, n5, n6⟩ := spc_no hx
  clear h hp h0 hN hnx hx n5 n6
  go_enter Tryd.func70, Tryd.ntmps70
  go_wp2_with fail
  refine HN.out.mono ?_
  rintro e w2 ⟨ht, ⟨v, rfl, rfl⟩, hR⟩
  have HT := Lib.hid ht
  have HR := Lib.hid hR
  clear ht hR
  go_wp2_with fail
  refine (one2_c rb sl n c src _ fold x _ HR.out).mono ?_
  rintro e w3 ⟨v, rfl, hs, hb⟩
  go_wp2
  go_ret
  exact ⟨_, rfl, hs, HT.out.trans (Touch.of (O := fun b => b = rb) hb) (fun x hx => .inl hx), HR.out.later hb⟩
set_option maxRecDepth 100000 in
set_option maxHeartbeats 8000000 in
theorem thing_e (rb : Nat) (sl : Option Addr) (n c : Nat) (src : List Int) (s : RS) (fold : Bool) (x : Int) (w : World) (h : RdM w rb sl n c src s fold) (hp : s.at' + 1 < src.length) (hx : spc x = true) (h0 : pk src s.at' 0 = 92) (h1 : pk src s.at' 1 = x) :
    Calls Tryd.prog 70 #[.pointer (some ⟨rb, 0, none⟩)] w fun e w' => ∃ v, e = .returned v ∧ SetN w' fold v x ∧ Touch (fun b => b = rb) w w' ∧ RdM w' rb sl n c src { s with at' := s.at' + 2 } fold := by
  have hN := next_c rb sl n c src s fold w h
  have hnx : nx src s = .ok (92, { s with at' := s.at' + 1 }) := by
    unfold nx
    rw [if_neg (by omega)]
    rw [← h0, pk_src (by omega)]; rfl
  rw [hnx] at hN
  have HN := Lib.hid hN
  have hN2 : ∀ w2, RdM w2 rb sl n c src { s with at' := s.at' + 1 } fold → Calls Tryd.prog 80 #[.pointer (some ⟨rb, 0, none⟩)] w2 (RdP w2 rb sl n c src fold (.ok (x, { s with at' := s.at' + 2 })) (fun x w' v => v = .int .i64 x)) := by
    intro w2 h2
    have hN := next_c rb sl n c src _ fold w2 h2
    have hnx : nx src { s with at' := s.at' + 1 } = .ok (x, { s with at' := s.at' + 2 }) := by
      unfold nx
      rw [if_neg (by show ¬ (src.length ≤ s.at' + 1); omega)]
      rw [← h1, pk_src (by omega)]
    rw [hnx] at hN
    exact hN
  have HN2 := Lib.hid hN2
  have HX := Lib.hid hx
  clear h hp h0 h1 hN hN2 hnx hx
  go_enter Tryd.func70, Tryd.ntmps70
  go_wp2_with fail
  refine HN.out.mono ?_
  rintro e w2 ⟨ht, ⟨v, rfl, rfl⟩, hR⟩
  have HT := Lib.hid ht
  have HR := Lib.hid hR
  clear ht hR
  go_wp2_with fail
  refine (HN2.out _ HR.out).mono ?_
  rintro e w3 ⟨ht, ⟨v, rfl, rfl⟩, hR⟩
  have HT2 := Lib.hid (HT.out.trans ht (fun x hx => .inl hx))
  have HR2 := Lib.hid hR
  clear ht hR HT HR HN HN2
  rcases spc_is HX.out with rfl | rfl | rfl | rfl | rfl | rfl <;>
  · go_wp2_with fail
    refine (isLetter_no _ HX.out _).mono ?_
    rintro e w4 ⟨rfl, rfl⟩
    go_wp2_with fail
    refine (one2_c rb sl n c src _ fold _ _ HR2.out).mono ?_
    rintro e w3 ⟨v, rfl, hs, hb⟩
    go_wp2
    go_ret
    exact ⟨_, rfl, hs, HT2.out.trans (Touch.of (O := fun b => b = rb) hb) (fun x hx => .inl hx), HR2.out.later hb⟩
theorem thing_q (rb : Nat) (sl : Option Addr) (n c : Nat) (src : List Int) (s : RS) (fold : Bool) (x : Int) (q : Nat) (w : World) (h : RdM w rb sl n c src s fold) (hq : QP src s.at' x q) :
    Calls Tryd.prog 70 #[.pointer (some ⟨rb, 0, none⟩)] w fun e w' => ∃ v, e = .returned v ∧ SetN w' fold v x ∧ Touch (fun b => b = rb) w w' ∧ RdM w' rb sl n c src { s with at' := q } fold := by
  cases hq with
  | plain h1 h2 h3 => exact thing_p rb sl n c src s fold x w h h1 h2 h3
  | esc h1 h2 h3 h4 => exact thing_e rb sl n c src s fold x w h h1 h2 h3 h4
theorem QP.peek {src : List Int} {p q : Nat} {x : Int} (h : QP src p x q) : (pk src p 0 == 94) = false ∧ (pk src p 0 == 36) = false ∧ p < src.length := by
  cases h with
  | plain h1 h2 h3 =>
    obtain ⟨_, _, _, _, n5, n6⟩ := spc_no h2
    rw [h3]
    exact ⟨n5, n6, h1⟩
  | esc h1 h2 h3 h4 =>
    rw [h3]
    exact ⟨by decide, by decide, by omega⟩
set_option maxRecDepth 100000 in
set_option maxHeartbeats 4000000 in
/-- one quoted int is read -/
theorem member_q (rb : Nat) (sl : Option Addr) (n c : Nat) (src : List Int) (s : RS) (fold : Bool) (x : Int) (q : Nat) (w : World) (h : RdM w rb sl n c src s fold) (hq : QP src s.at' x q) (he : QE src s.at') (he2 : QE src q) :
    Calls Tryd.prog 54 #[.pointer (some ⟨rb, 0, none⟩)] w fun e w' => ∃ v, e = .returned v ∧ SetN w' fold v x ∧ Touch (fun b => b = rb) w w' ∧ RdM w' rb sl n c src { s with at' := q } fold := by
  obtain ⟨p1, p2, _⟩ := hq.peek
  have HR := Lib.hid h
  have HQ := Lib.hid hq
  have E60 := Lib.hid (he.no 60 rfl)
  have E62 := Lib.hid (he.no 62 rfl)
  have F42 := Lib.hid he2.star
  have F43 := Lib.hid (he2.no 43 rfl)
  have F63 := Lib.hid (he2.no 63 rfl)
  have F123 := Lib.hid (he2.no 123 rfl)
  clear h hq he he2
  go_enter Tryd.func54, Tryd.ntmps54
  go_wp2_with fail
  refine (peek_c rb sl n c src s fold 0 _ HR.out (by decide)).mono ?_
  rintro e w2 ⟨rfl, m, rfl⟩
  have HR2 := Lib.hid (HR.out.drewN m)
  have HT2 := Lib.hid (touch_drewN (n := m) (Touch.refl (fun b => b = rb) w))
  clear HR
  generalize World.drewN _ m = w2 at HR2 HT2 ⊢
  generalize pk src s.at' 0 = p0 at p1 p2 ⊢
  go_wp2_with fail
  refine (escaped_c rb sl n c src s fold 60 _ HR2.out).mono ?_
  rintro e w3 ⟨rfl, m, rfl⟩
  rw [E60.out]
  have HR3 := Lib.hid (HR2.out.drewN m)
  have HT3 := Lib.hid (touch_drewN (n := m) HT2.out)
  clear HR2 HT2
  generalize World.drewN _ m = w3 at HR3 HT3 ⊢
  go_wp2_with fail
  refine (escaped_c rb sl n c src s fold 62 _ HR3.out).mono ?_
  rintro e w4 ⟨rfl, m, rfl⟩
  rw [E62.out]
  have HR4 := Lib.hid (HR3.out.drewN m)
  have HT4 := Lib.hid (touch_drewN (n := m) HT3.out)
  clear HR3 HT3
  generalize World.drewN _ m = w4 at HR4 HT4 ⊢
  go_wp2_with fail
  refine (thing_q rb sl n c src s fold x q _ HR4.out HQ.out).mono ?_
  rintro e w5 ⟨v, rfl, hs, ht, hR5⟩
  obtain ⟨b, g, hv, hb, hg⟩ := hs
  subst hv
  have HB := Lib.hid hb
  have HG := Lib.hid hg
  have HT5 := Lib.hid (HT4.out.trans ht (fun x hx => .inl hx))
  have HR5 := Lib.hid hR5
  clear hb hg ht hR5 HR4 HT4
  go_wp2_with fail
  refine (times_q rb sl n c src _ fold _ _ _ HR5.out F42.out F43.out F63.out F123.out).mono ?_
  rintro e w6 ⟨rfl, ht, hR6⟩
  go_wp2
  go_ret
  have hb6 := (ht.block b (heap_lt HB.out) (type_ne HB.out HR5.out.blk (by decide))).trans HB.out
  have hg6 := (ht.block g (heap_lt HG.out) (type_ne HG.out HR5.out.blk (by decide))).trans HG.out
  exact ⟨_, rfl, ⟨b, g, rfl, hb6, hg6⟩, HT5.out.trans ht (fun x hx => .inl hx), hR6⟩
end Go.Proofs.YtdegdoilpamjjaaDoor
