/- The walk of ClusterKept. Condition: lines of fewer than 2^30 members, fewer than 2^30 lines. -/
import Derived.Test.YtpipcmbfdcbboaaKg
namespace Go.Proofs.Ytpipcmbfdcbboaa
open Go.RowKit
theorem bn_none (f : Nat → Int) : bn f 0 = 1 := by unfold bn; rw [allB_bounds]; rfl
/-- the two answers of each list -/
def Pairs (B : Nat) (L : Nat → Nat) (Z : Nat → Nat → Int) (m : Nat) (qs : List QuietD) : Prop :=
  qs.length = 2 * m ∧ ∀ i (hi : i < qs.length), qs[i].n = bn (Z (i / 2)) (L (i / 2)) ∧ qs[i].l = lst (bf (Z (i / 2)) (L (i / 2))) (bn (Z (i / 2)) (L (i / 2))) ∧ B ≤ qs[i].g
theorem KInv.nil (B p : Nat) (w : World) : KInv B p w (.slice none 0 0) [] (.slice none 0 0) [] :=
  ⟨World.ownsRow_nil _ _ _ _, World.ownsRow_nil _ _ _ _, fun i hi => (by cases hi), fun h hm => (by cases hm), fun b hb => (by simp [Value.ownBlock] at hb), fun b hb => (by simp [Value.ownBlock] at hb), fun b hb => (by simp [Value.ownBlock] at hb), fun i hi => (by cases hi), fun i j hi => (by cases hi)⟩
theorem isF_snap (f : Nat → Int) (n : Nat) (a : Int) : isF f n (snapF f n a : Nat) = true := by
  have h := snapN_spec f n (min a.toNat n)
  unfold isF snapF
  rw [Int.toNat_natCast, h.2.1]
  have : snapN f n (min a.toNat n) ≤ n := by omega
  simp; omega
theorem OwnQ.cell {w : World} {base : Nat} {s : Option Addr} {n c : Nat} {qs : List QuietD} (h : OwnQ w base (.slice s n c) qs) {i : Nat} (hi : i < qs.length) : ∃ g, s = some ⟨g, 0, none⟩ ∧ w.cell? ⟨g, i, none⟩ = some (qval qs[i]) := by
  have h' := h
  unfold OwnQ at h'
  rcases h.2 with ⟨h1, h2⟩ | ⟨g, cap, cur, h1, hg, hgg, _⟩
  · omega
  · obtain ⟨rfl, rfl, rfl⟩ := Value.slice.inj h1
    refine ⟨g, rfl, ?_⟩
    rw [World.ownsRow.cellAt h' i (by omega), List.getElem?_map, List.getElem?_eq_getElem hi]; rfl
theorem qok_ints {w : World} {q : QuietD} {f : Nat → Int} {n : Nat} (h : QOk w q) (h1 : q.n = bn f n) (h2 : q.l = lst (bf f n) (bn f n)) : IsInts w (some ⟨q.g, 0, none⟩) (bn f n) (bf f n) := by
  unfold QOk qval at h
  rw [h1, h2] at h
  obtain ⟨s, c, hv, _, _, hi⟩ := h.list
  obtain ⟨rfl, _, rfl⟩ := Value.slice.inj hv
  exact hi
theorem Pairs.next (B : Nat) (L : Nat → Nat) (Z : Nat → Nat → Int) (m : Nat) {qs : List QuietD} (h : Pairs B L Z m qs) (q r : QuietD) (h1 : q.n = bn (Z m) (L m) ∧ q.l = lst (bf (Z m) (L m)) (bn (Z m) (L m)) ∧ B ≤ q.g) (h2 : r.n = bn (Z m) (L m) ∧ r.l = lst (bf (Z m) (L m)) (bn (Z m) (L m)) ∧ B ≤ r.g) : Pairs B L Z (m + 1) (qs ++ [q] ++ [r]) := by
  refine ⟨by simp [h.1]; omega, fun i hi => ?_⟩
  rcases getElem_push hi with ⟨hi', e⟩ | ⟨hi', e⟩
  · rw [e]
    rcases getElem_push hi' with ⟨hi2, e2⟩ | ⟨hi2, e2⟩
    · rw [e2]; exact h.2 i hi2
    · rw [e2, show i / 2 = m from by have := h.1; omega]; exact h1
  · rw [e, show i / 2 = m from by have := h.1; simp at hi'; omega]; exact h2
theorem IsRows.place {w : World} {b off len : Nat} {A : Nat → Option Addr} {L C : Nat → Nat} {Z : Nat → Nat → Int} (h : IsRows w (some ⟨b, off, none⟩) len A L C Z) {i : Nat} (hi : i < len) : b < w.heap.size ∧ w.cell? ⟨b, off + i, none⟩ = some (.slice (A i) (L i) (C i)) ∧ IsInts w (A i) (L i) (Z i) := by
  rcases h with h | ⟨b', off', hs, hlt, hc⟩
  · omega
  · cases hs; exact ⟨hlt, (hc i hi).1, (hc i hi).2⟩
set_option maxRecDepth 100000 in
set_option maxHeartbeats 8000000 in
theorem lawkept_any (sr : Option Addr) (nr cr : Nat) (A : Nat → Option Addr) (L C : Nat → Nat) (Z : Nat → Nat → Int) (x : Int) (w : World) (hnr : nr < 1073741824) (hL : ∀ i, i < nr → L i < 100000000) (hr : IsRows w sr nr A L C Z) :
    Calls Try.prog 11 #[.slice sr nr cr, .int .i64 x] w fun e w' => e = .returned (.bool true) ∧ Below w.heap.size w w' := by
  have HR := Lib.hid hr
  clear hr
  go_enter Try.func11, Try.ntmps11
  go_wp2_with fail
  refine (breaks_c none 0 0 (fun _ => 0) _ (by omega) (.inl rfl)).mono ?_
  rintro e w1 ⟨s1, c1, rfl, _, _, hb⟩
  rw [bn_none]
  have HB := Lib.hid hb
  clear hb
  go_wp2_with fail
  go_loopg [5, 6, 7] nr (fun g hv qv iv wr => ∃ i nq : Nat, ∃ sH : Option Addr, ∃ cH : Nat, ∃ sQ : Option Addr, ∃ cQ : Nat, ∃ qs : List QuietD, ∃ hs : List HeldD, i + g = nr ∧ i ≤ 60 ∧ nq = 2 * i ∧ hv = .slice sH i cH ∧ qv = .slice sQ nq cQ ∧ iv = .int .i64 i ∧
    KInv w.heap.size 0 wr (.slice sQ nq cQ) qs (.slice sH i cH) hs ∧ Pairs w.heap.size L Z i qs ∧ hs.length = i ∧ Below w.heap.size w wr)
  case atStart => exact ⟨0, 0, none, 0, none, 0, [], [], by omega, by omega, rfl, rfl, rfl, rfl, KInv.nil _ _ _, ⟨rfl, fun i hi => by cases hi⟩, rfl, HB.out⟩
  case round =>
    clear HB
    obtain ⟨i, nq, sH, cH, sQ, cQ, qs, hs, hg, hi60, hnq, rfl, rfl, rfl, hk, hpairs, hhl, hb⟩ := hrel
    have HK := Lib.hid hk
    have HP := Lib.hid hpairs
    have HHL := Lib.hid hhl
    have HNQ := Lib.hid hnq
    have HB := Lib.hid hb
    have hnqb : nq ≤ 120 := by omega
    clear hk hpairs hhl hnq hb
    by_cases hlt : i < nr ∧ i < 60
    · obtain ⟨hlt1, hlt2⟩ := hlt
      have e1 : (i : Int) < (nr : Int) := by omega
      have e2 : (i : Int) < 60 := by omega
      obtain ⟨b, off, rfl, c0, hz⟩ := HR.out.at HB.out hlt1
      have hpl : b < w.heap.size ∧ w.cell? ⟨b, off + i, none⟩ = some (.slice (A i) (L i) (C i)) ∧ IsInts w (A i) (L i) (Z i) := HR.out.place hlt1
      have HPL := Lib.hid hpl
      have hln := Pairs.next w.heap.size L Z i HP.out
      have hli := hL i hlt1
      obtain ⟨li, hli2⟩ : ∃ li, L i = li := ⟨_, rfl⟩
      obtain ⟨zi, hzi2⟩ : ∃ zi, Z i = zi := ⟨_, rfl⟩
      rw [hli2] at hli hpl c0 hz
      rw [hzi2] at hz hpl
      rw [hli2, hzi2] at hln
      have HLN := Lib.hid hln
      clear hln
      have HLI := Lib.hid hli2
      have HZI := Lib.hid hzi2
      generalize A i = ai at *
      generalize C i = ci at *
      have hbn := bn_bd zi li
      have hpl2 := hpl
      have HPL2 := Lib.hid hpl2
      clear hli2 hzi2 hpl HPL hpl2
      have HZ := Lib.hid hz
      clear hz
      go_wp2_with fail
      refine (copied_c ai li ci zi _ (by omega) HZ.out).mono ?_
      rintro e w2 ⟨s2, c2, rfl, hi, _, _, hb⟩
      have HI := Lib.hid hi
      replace HK := Lib.hid (HK.out.later hb)
      replace HB := Lib.hid (bt HB.out hb)
      clear hi hb c0
      have c0 := (HB.out.cell (p := ⟨b, off + i, none⟩) HPL2.out.1).trans HPL2.out.2.1
      go_wp2_with fail
      refine (breaks_c s2 li c2 zi _ (by omega) HI.out).mono ?_
      rintro e w3 ⟨s3, c3, rfl, _, ho, hb⟩
      have hrow := ho.row
      rcases hrow with h0 | ⟨g3, rfl, hg3, _⟩
      · exfalso; omega
      · have hgb3 : w.heap.size ≤ g3 := Nat.le_trans HB.out.size hg3
        have HQ := Lib.hid (show QOk w3 ⟨g3, bn zi li, c3, lst (bf zi li) (bn zi li)⟩ from OwnInts.mono ho (Nat.zero_le _))
        have HF := Lib.hid (fun b' (hb' : KBlk 0 (.slice sQ nq cQ) qs (.slice sH i cH) hs b') => (show b' ≠ g3 by have := HK.out.lt hb'; omega))
        replace HK := Lib.hid (HK.out.later hb)
        replace HB := Lib.hid (bt HB.out hb)
        clear ho hb hg3 c0
        have c0 := (HB.out.cell (p := ⟨b, off + i, none⟩) HPL2.out.1).trans HPL2.out.2.1
        go_wp2_with (first | (at_builtin; refine wpList_push_q ⟨g3, bn zi li, c3, lst (bf zi li) (bn zi li)⟩ rfl _ _ rfl w.heap.size 0 _ _ _ _ _ _ rfl rfl HK.out (by omega) HB.out.size HQ.out HF.out ?_; intro s4 c4 w4 hk4 hb4; replace HK := Lib.hid hk4; replace HB := Lib.hid (HB.out.trans hb4); clear hk4 hb4 c0; have c0 := (HB.out.cell (p := ⟨b, off + i, none⟩) HPL2.out.1).trans HPL2.out.2.1) | fail)
        refine (copied_c ai li ci zi _ (by omega) (HPL2.out.2.2.later HB.out)).mono ?_
        rintro e w5 ⟨s5, c5, rfl, hi, _, _, hb⟩
        have HI2 := Lib.hid hi
        replace HK := Lib.hid (HK.out.later hb)
        replace HB := Lib.hid (bt HB.out hb)
        clear hi hb c0 HQ HF HI
        have c0 := (HB.out.cell (p := ⟨b, off + i, none⟩) HPL2.out.1).trans HPL2.out.2.1
        go_wp2_with fail
        refine (breaks_c s5 li c5 zi _ (by omega) HI2.out).mono ?_
        rintro e w6 ⟨s6, c6, rfl, _, ho, hb⟩
        have hrow := ho.row
        rcases hrow with h0 | ⟨g6, rfl, hg6, _⟩
        · exfalso; omega
        · have hgb6 : w.heap.size ≤ g6 := Nat.le_trans HB.out.size hg6
          have HQ2 := Lib.hid (show QOk w6 ⟨g6, bn zi li, c6, lst (bf zi li) (bn zi li)⟩ from OwnInts.mono ho (Nat.zero_le _))
          have HF := Lib.hid (fun b' (hb' : KBlk 0 (.slice s4 (nq + 1) c4) (qs ++ [⟨g3, bn zi li, c3, lst (bf zi li) (bn zi li)⟩]) (.slice sH i cH) hs b') => (show b' ≠ g6 by have := HK.out.lt hb'; omega))
          replace HK := Lib.hid (HK.out.later hb)
          replace HB := Lib.hid (bt HB.out hb)
          clear ho hb hg6 c0
          have c0 := (HB.out.cell (p := ⟨b, off + i, none⟩) HPL2.out.1).trans HPL2.out.2.1
          have e3 : IntKind.i64.wrap (7001 + (i : Int)) = 7001 + (i : Int) := by rw [IntKind.wrap_i64]; omega
          have e4 : IntKind.i64.wrap (1000000 + (i : Int)) = 1000000 + (i : Int) := by rw [IntKind.wrap_i64]; omega
          go_wp2_with (first | (at_builtin; refine wpList_push_q ⟨g6, bn zi li, c6, lst (bf zi li) (bn zi li)⟩ rfl _ _ rfl w.heap.size 0 _ _ _ _ _ _ rfl rfl HK.out (by omega) HB.out.size HQ2.out HF.out ?_; intro s7 c7 w7 hk7 hb7; replace HK := Lib.hid hk7; replace HB := Lib.hid (HB.out.trans hb7); clear hk7 hb7 c0; have c0 := (HB.out.cell (p := ⟨b, off + i, none⟩) HPL2.out.1).trans HPL2.out.2.1) | fail)
          clear HQ2 HF HI2
          have hpq := HLN.out ⟨g3, bn zi li, c3, lst (bf zi li) (bn zi li)⟩ ⟨g6, bn zi li, c6, lst (bf zi li) (bn zi li)⟩ ⟨rfl, rfl, hgb3⟩ ⟨rfl, rfl, hgb6⟩
          generalize hqs2 : qs ++ [(⟨g3, bn zi li, c3, lst (bf zi li) (bn zi li)⟩ : QuietD)] ++ [⟨g6, bn zi li, c6, lst (bf zi li) (bn zi li)⟩] = qs2 at *
          have HPQ := Lib.hid hpq
          clear hpq hqs2 HLN
          refine (lent_c ai li ci zi (7001 + (i : Int)) _ (by omega) (by omega) (HPL2.out.2.2.later HB.out)).mono ?_
          rintro e w8 ⟨sW, cW, rfl, ho, hb⟩
          obtain ⟨sW', cW', hv, hcW, _, _⟩ := ho.list
          obtain ⟨rfl, _, rfl⟩ := Value.slice.inj hv
          have hrow := ho.row
          rcases hrow with h0 | ⟨gw, rfl, hgw, hroww⟩
          · exfalso; omega
          · have HFW := Lib.hid (fun b' (hb' : KBlk 0 (.slice s7 (nq + 1 + 1) c7) qs2 (.slice sH i cH) hs b') => (show b' < gw by have := HK.out.lt hb'; omega))
            have HWR := Lib.hid hroww
            have hwb : w.heap.size ≤ gw := Nat.le_trans HB.out.size hgw
            replace HK := Lib.hid (HK.out.later hb)
            replace HB := Lib.hid (bt HB.out hb)
            clear ho hb hgw hroww hv c0
            have c0 := (HB.out.cell (p := ⟨b, off + i, none⟩) HPL2.out.1).trans HPL2.out.2.1
            have HGV := Lib.hid (fun w' (h : IRow w' gw (li + 120) (cat zi li (fun j => 7001 + (i : Int) + (j : Int)))) => (show IsInts w' (some ⟨gw, 0, none⟩) li zi from (h.ints (show li ≤ li + 120 by omega)).same (fun q hq => by unfold cat; rw [if_pos hq])))
            have r1 : (0 : Int) ≤ (li : Int) := by omega
            have r2 : (li : Int) ≤ (cW : Int) := by omega
            have r3 : li ≤ cW := by omega
            go_wp2_with fail
            refine (breaks_c (some ⟨gw, 0, none⟩) li cW zi _ (by omega) (HGV.out _ HWR.out)).mono ?_
            rintro e w9 ⟨sB, cB, rfl, hiB, hoB, hb⟩
            have hrow := hoB.row
            rcases hrow with h0 | ⟨gB, rfl, hgB, _⟩
            · exfalso; omega
            · have hgwB : gw < gB := Nat.lt_of_lt_of_le HWR.out.lt hgB
              have HOB := Lib.hid (OwnInts.mono hoB (Nat.zero_le _))
              have HIB := Lib.hid hiB
              replace HWR := Lib.hid (HWR.out.later hb)
              replace HK := Lib.hid (HK.out.later hb)
              replace HB := Lib.hid (bt HB.out hb)
              clear hiB hoB hb hgB c0
              have c0 := (HB.out.cell (p := ⟨b, off + i, none⟩) HPL2.out.1).trans HPL2.out.2.1
              go_wp2_with fail
              refine (ends_c (some ⟨gB, 0, none⟩) cB li zi _ (by omega) HIB.out).mono ?_
              rintro e w10 ⟨rfl, hb⟩
              replace HOB := Lib.hid (HOB.out.later hb)
              replace HWR := Lib.hid (HWR.out.later hb)
              replace HK := Lib.hid (HK.out.later hb)
              replace HB := Lib.hid (bt HB.out hb)
              clear hb c0 HIB
              have c0 := (HB.out.cell (p := ⟨b, off + i, none⟩) HPL2.out.1).trans HPL2.out.2.1
              have hcB := (HOB.out.blk 0).2.2.1
              go_wp2_with fail
              refine (hold_c gB (bn zi li) cB (1000000 + (i : Int)) _ _ (by omega) (by omega) HOB.out).mono ?_
              rintro e w11 ⟨sM, nM, cM, rfl, hnM, hblk, hoM, hM, hon⟩
              have HHB := Lib.hid (fun b' (hb' : hasB ⟨gB, cB, sM, nM, cM, 1000000 + (i : Int)⟩ b') => (show gw < b' by
                rcases hb' with h | h
                · have : b' = gB := h
                  omega
                · have h2 := hM b' h
                  have h3 := HWR.out.lt
                  omega))
              have HH0 := Lib.hid (show HeldOk w11 ⟨gB, cB, sM, nM, cM, 1000000 + (i : Int)⟩ from ⟨hblk, hoM, hcB, hnM⟩)
              replace HWR := Lib.hid (HWR.out.block (hon.block gw HWR.out.lt (fun e => by injection e with e; omega)))
              have hk11 := HK.out.kept (fun b' hb' => hon.block b' (HK.out.lt hb') (fun e => by have := HFW.out b' hb'; injection e with e; omega))
              replace HB := Lib.hid (HB.out.trans (hon.below (show w.heap.size ≤ gB by omega) HB.out.size))
              replace HK := Lib.hid hk11
              have HF0 := Lib.hid (fun b' (hb' : hasB ⟨gB, cB, sM, nM, cM, 1000000 + (i : Int)⟩ b') => (show (Value.slice s7 (nq + 1 + 1) c7).ownBlock ≠ some b' ∧ (Value.slice sH i cH).ownBlock ≠ some b' ∧ SepQ 0 b' qs2 from
                ⟨fun e => by have h1 := HHB.out b' hb'; have h2 := HFW.out b' (.inl e); omega, fun e => by have h1 := HHB.out b' hb'; have h2 := HFW.out b' (.inr (.inl e)); omega, fun q hq hp e => by have h1 := HHB.out b' hb'; have h2 := HFW.out b' (.inr (.inr (.inl ⟨q, hq, hp, e⟩))); omega⟩))
              clear hk11 hblk hoM hM hon hnM HOB c0
              have c0 := (HB.out.cell (p := ⟨b, off + i, none⟩) HPL2.out.1).trans HPL2.out.2.1
              go_wp2_with (first | (at_builtin; refine wpList_push_h ⟨gB, cB, sM, nM, cM, 1000000 + (i : Int)⟩ rfl _ _ rfl w.heap.size 0 _ _ _ _ _ _ rfl rfl HK.out (by omega) HB.out.size HH0.out HF0.out ?_; intro s12 c12 w12 hk12 hg12 hat12; have HG12 := Lib.hid hg12; have HAT := Lib.hid hat12; have HK12 := Lib.hid hk12; clear hk12 hg12 hat12) | fail)
              have HFW2 := Lib.hid (fun b' (hb' : KBlk 0 (.slice s7 (nq + 1 + 1) c7) qs2 (.slice s12 (i + 1) c12) (hs ++ [⟨gB, cB, sM, nM, cM, 1000000 + (i : Int)⟩]) b') => (show b' ≠ gw by
                rcases hb' with h | h | h | ⟨y, hy, hyb⟩
                · have := HFW.out b' (.inl h); omega
                · rcases HAT.out b' h with h2 | h2
                  · have := HFW.out b' (.inr (.inl h2)); omega
                  · have := HWR.out.lt; omega
                · have := HFW.out b' (.inr (.inr (.inl h))); omega
                · rcases List.mem_append.1 hy with h2 | h2
                  · have := HFW.out b' (.inr (.inr (.inr ⟨y, h2, hyb⟩))); omega
                  · rw [List.mem_singleton] at h2; subst h2
                    have := HHB.out b' hyb; omega))
              have hwr12 := HWR.out.block (HG12.out.block gw HWR.out.lt (fun e => by have := HFW.out gw (.inr (.inl e.symm)); omega))
              have hb12 := Below.grown HB.out HG12.out HB.out.size (fun q hq => (HK.out.oh.lt q hq).1)
              replace HWR := Lib.hid hwr12
              replace HB := Lib.hid hb12
              replace HK := HK12
              clear hwr12 hb12 HK12 HG12 HAT HF0 HH0 HHB HFW c0
              generalize hhs2 : hs ++ [(⟨gB, cB, sM, nM, cM, 1000000 + (i : Int)⟩ : HeldD)] = hs2 at *
              have hhl2 : hs2.length = i + 1 := by rw [← hhs2, List.length_append, HHL.out]; rfl
              have HHL2 := Lib.hid hhl2
              clear hhl2 hhs2
              refine (next_any (some ⟨gw, 0, none⟩) li cW zi x _ (by unfold maxLen; omega) (HGV.out _ HWR.out)).mono ?_
              rintro e w13 ⟨rfl, hb⟩
              replace HWR := Lib.hid (HWR.out.later hb)
              replace HK := Lib.hid (HK.out.later hb)
              replace HB := Lib.hid (bt HB.out hb)
              clear hb
              generalize nextF zi li x = nN at *
              have znN : ¬ ((nN : Int) < 0) := by omega
              have ynN : decide ((nN : Int) < 0) = false := decide_eq_false znN
              go_wp2_with fail
              refine (prev_any (some ⟨gw, 0, none⟩) li cW zi x _ (by unfold maxLen; omega) (HGV.out _ HWR.out)).mono ?_
              rintro e w14 ⟨rfl, hb⟩
              replace HWR := Lib.hid (HWR.out.later hb)
              replace HK := Lib.hid (HK.out.later hb)
              replace HB := Lib.hid (bt HB.out hb)
              clear hb
              generalize prevF zi li x = nP at *
              have znP : ¬ ((nP : Int) < 0) := by omega
              have ynP : decide ((nP : Int) < 0) = false := decide_eq_false znP
              go_wp2_with fail
              refine (column_any (some ⟨gw, 0, none⟩) li cW zi x _ (by unfold maxLen; omega) (HGV.out _ HWR.out)).mono ?_
              rintro e w15 ⟨rfl, hb⟩
              replace HWR := Lib.hid (HWR.out.later hb)
              replace HK := Lib.hid (HK.out.later hb)
              replace HB := Lib.hid (bt HB.out hb)
              clear hb
              generalize colF zi li x = nC at *
              have znC : ¬ ((nC : Int) < 0) := by omega
              have ynC : decide ((nC : Int) < 0) = false := decide_eq_false znC
              go_wp2_with fail
              refine (offset_any (some ⟨gw, 0, none⟩) li cW zi x _ (by unfold maxLen; omega) (HGV.out _ HWR.out)).mono ?_
              rintro e w16 ⟨rfl, hb⟩
              replace HWR := Lib.hid (HWR.out.later hb)
              replace HK := Lib.hid (HK.out.later hb)
              replace HB := Lib.hid (bt HB.out hb)
              clear hb
              generalize offF zi li x = nO at *
              have znO : ¬ ((nO : Int) < 0) := by omega
              have ynO : decide ((nO : Int) < 0) = false := decide_eq_false znO
              have hqc : ∃ (gQ m2 gq cq : Nat), s7 = some ⟨gQ, 0, none⟩ ∧ 2 * i = m2 ∧ w16.cell? ⟨gQ, m2, none⟩ = some (.slice (some ⟨gq, 0, none⟩) (bn zi li) cq) := by
                have hpq := HPQ.out
                have hlen : 2 * i < qs2.length := by rw [hpq.1]; omega
                obtain ⟨gQ, e, hcell⟩ := HK.out.oq.cell hlen
                have hn := (hpq.2 (2 * i) hlen).1
                rw [show 2 * i / 2 = i from by omega, HLI.out, HZI.out] at hn
                refine ⟨gQ, 2 * i, qs2[2 * i].g, qs2[2 * i].c, e, rfl, ?_⟩
                rw [hcell, ← hn]; rfl
              obtain ⟨gQ, m2, gq, cq, rfl, hm2, d0⟩ := hqc
              have hm3 := hm2
              have HM2 := Lib.hid hm3
              clear hm3
              have HSN := Lib.hid (isF_snap zi li x)
              have hcnt : bn zi li = (bounds zi li 0).length + 1 := by unfold bn; rw [allB_bounds]; rfl
              obtain ⟨bl0, hbl0⟩ : ∃ bl0, (bounds zi li 0).length = bl0 := ⟨_, rfl⟩
              rw [hbl0] at hcnt
              have HBL := Lib.hid hbl0
              rw [hcnt] at d0
              have q1 : IntKind.i64.wrap (2 * (i : Int)) = (m2 : Int) := by rw [IntKind.wrap_i64]; omega
              have q2 : (m2 : Int) < (nq : Int) + 1 + 1 := by have := HNQ.out; omega
              have q3 : IntKind.i64.wrap ((bl0 : Int) + 1 - 1) = (bl0 : Int) := by rw [IntKind.wrap_i64]; omega
              have q4 : (0 : Int) ≤ (m2 : Int) := by omega
              have q5 : IntKind.i64.wrap (bl0 : Int) = (bl0 : Int) := by rw [IntKind.wrap_i64]; omega
              have HCN := Lib.hid hcnt
              clear hm2 hbl0 hcnt
              have hBr := Below.refl w16.heap.size w16
              have hI := HGV.out _ HWR.out
              go_wp2_with fail
              go_region_held3 (fun w' => w'.cell? ⟨gQ, m2, none⟩ = some (.slice (some ⟨gq, 0, none⟩) (bl0 + 1) cq) ∧ Below w16.heap.size w16 w')
                (first | exact ⟨d0, hBr.drew⟩ | go_keep | (go_split_ands; exact ⟨((by assumption : Below _ _ _).cell (by first | assumption | exact World.block_lt_of_cell? _ _ (by assumption))).trans (by assumption), bt (by assumption) (by assumption)⟩))
                (first
                  | (go_at_call 24; refine (count_any (some ⟨gw, 0, none⟩) li cW zi _ (by unfold maxLen; omega) (IsInts.later hI (by first | assumption | exact hBr.drew | (go_split_ands; assumption)))).mono ?_; rintro e w17 ⟨rfl, hb2⟩; rw [HBL.out])
                  | (go_at_call 20; refine (snap_any (some ⟨gw, 0, none⟩) li cW zi x _ (by unfold maxLen; omega) (IsInts.later hI (by first | assumption | exact hBr.drew | (go_split_ands; assumption)))).mono ?_; rintro e w17 ⟨rfl, hb2⟩)
                  | (go_at_call 21; refine (isbreak_any (some ⟨gw, 0, none⟩) li cW zi _ _ (by unfold maxLen; omega) (IsInts.later hI (by first | assumption | exact hBr.drew | (go_split_ands; assumption)))).mono ?_; rintro e w17 ⟨rfl, hb2⟩; rw [HSN.out]))
              all_goals
                have hh : Below w16.heap.size w16 w17 := by (first | assumption | (go_split_ands; assumption))
                have HWR3 := Lib.hid (HWR.out.later hh)
                have HK3 := Lib.hid (HK.out.later hh)
                have HB3 := Lib.hid (bt HB.out hh)
                clear hh hBr hI d0
                have c0 := (HB3.out.cell (p := ⟨b, off + i, none⟩) HPL2.out.1).trans HPL2.out.2.1
                go_wp2_with fail
                refine (lent_c ai li ci zi (7001 + (i : Int)) _ (by omega) (by omega) (HPL2.out.2.2.later HB3.out)).mono ?_
                rintro e w18 ⟨s18, c18, rfl, ho, hb⟩
                obtain ⟨s18', c18', hv, _, _, hi18⟩ := ho.list
                obtain ⟨rfl, _, rfl⟩ := Value.slice.inj hv
                have HV := Lib.hid hi18
                replace HWR3 := Lib.hid (HWR3.out.later hb)
                replace HK3 := Lib.hid (HK3.out.later hb)
                replace HB3 := Lib.hid (bt HB3.out hb)
                clear ho hb hv hi18 c0
                go_wp2_with fail
                refine (same_any (some ⟨gw, 0, none⟩) s18 (li + 120) cW (li + 120) c18 _ _ _ (by unfold maxLen; omega) (by unfold maxLen; omega) (HWR3.out.ints (Nat.le_refl _)) HV.out).mono ?_
                rintro e w19 ⟨rfl, hb⟩
                rw [sameB_refl]
                replace HWR3 := Lib.hid (HWR3.out.later hb)
                replace HK3 := Lib.hid (HK3.out.later hb)
                replace HB3 := Lib.hid (bt HB3.out hb)
                clear hb HV
                go_wp2_with fail
                refine (stands_c w.heap.size s12 (i + 1) c12 hs2 _ (by omega) HK3.out.oh HK3.out.h).mono ?_
                rintro e w20 ⟨rfl, hb⟩
                replace HWR3 := Lib.hid (HWR3.out.later hb)
                replace HK3 := Lib.hid (HK3.out.later hb)
                replace HB3 := Lib.hid (bt HB3.out hb)
                clear hb
                go_wp2_with fail
                go_loopg [15] (li + 120) (fun g kv wz => ∃ k : Nat, ∃ F : Nat → Int, k + g = li + 120 ∧ kv = .int .i64 k ∧ IRow wz gw (li + 120) F ∧ (∀ y, y < k → F y = 769) ∧ KInv w.heap.size 0 wz (.slice (some ⟨gQ, 0, none⟩) (nq + 1 + 1) c7) qs2 (.slice s12 (i + 1) c12) hs2 ∧ Below w.heap.size w wz)
                case atStart => exact ⟨0, _, by omega, rfl, HWR3.out, fun y hy => by omega, HK3.out, HB3.out⟩
                case round =>
                  clear HWR3 HK3 HB3 HWR HK HB
                  obtain ⟨k, F, hg4, rfl, hrow, hF, hk, hb⟩ := hrel
                  have HWR3 := Lib.hid hrow
                  have HK3 := Lib.hid hk
                  have HB3 := Lib.hid hb
                  have HF := Lib.hid hF
                  clear hrow hk hb hF
                  by_cases hlk : k < li + 120
                  · have d1 := HWR3.out.cell hlk
                    have d2 := HWR3.out.free k
                    have e5 : (k : Int) < (li : Int) + 120 := by omega
                    have hk2 := HK3.out.kept (fun b' hb' => Below.heap_setCell wr ⟨gw, k, none⟩ (.int .i64 769) b' (HFW2.out b' hb'))
                    have HK4 := Lib.hid hk2
                    clear hk2
                    go_wp2
                    go_roundg (gk - 1)
                    case measure => omega
                    case rel =>
                      refine ⟨k + 1, fun y => if y = k then 769 else F y, by omega, by go_num, HWR3.out.set k 769 (fun _ _ => rfl), fun y hy => ?_, HK4.out, HB3.out.setCell (p := ⟨gw, k, none⟩) hwb _⟩
                      show (if y = k then 769 else F y) = 769
                      by_cases hyk : y = k
                      · rw [if_pos hyk]
                      · rw [if_neg hyk]; exact HF.out y (by omega)
                  · have hacc : IsInts wr (some ⟨gw, 0, none⟩) li accF := (HWR3.out.ints (show li ≤ li + 120 by omega)).same (fun y hy => HF.out y (by omega))
                    have HACC := Lib.hid hacc
                    have e5 : ¬ ((k : Int) < (li : Int) + 120) := by omega
                    clear hacc
                    go_wp2_with fail
                    refine (stands_c w.heap.size s12 (i + 1) c12 hs2 _ (by omega) HK3.out.oh HK3.out.h).mono ?_
                    rintro e w21 ⟨rfl, hb⟩
                    replace HACC := Lib.hid (HACC.out.later hb)
                    replace HK3 := Lib.hid (HK3.out.later hb)
                    replace HB3 := Lib.hid (bt HB3.out hb)
                    clear hb
                    go_wp2_with fail
                    refine (onecluster_c (some ⟨gw, 0, none⟩) li cW _ (by omega) HACC.out).mono ?_
                    rintro e w22 ⟨rfl, hb⟩
                    replace HK3 := Lib.hid (HK3.out.later hb)
                    replace HB3 := Lib.hid (bt HB3.out hb)
                    clear hb HACC
                    go_wp2
                    go_roundg (nr - (i + 1))
                    case measure => omega
                    case rel => exact ⟨i + 1, nq + 1 + 1, s12, c12, some ⟨gQ, 0, none⟩, c7, qs2, hs2, by omega, by omega, by have := HNQ.out; omega, rfl, rfl, by go_num, HK3.out, HPQ.out, HHL2.out, HB3.out⟩
    · have hex : nr ≤ i ∨ (i < nr ∧ 60 ≤ i) := by omega
      clear hlt
      have hinr : i ≤ nr := by omega
      rcases hex with hex | ⟨hex1, hex⟩
      all_goals
        have e1 : ¬ ((i : Int) < (nr : Int)) ∨ ((i : Int) < (nr : Int) ∧ ¬ ((i : Int) < 60)) := by omega
        have e1' : (i : Int) < (nr : Int) ↔ i < nr := by omega
        clear e1
        first
          | (have e2 : ¬ ((i : Int) < (nr : Int)) := by omega)
          | (have e2 : (i : Int) < (nr : Int) := by omega
             have e3 : ¬ ((i : Int) < 60) := by omega)
        clear e1'
        go_wp2_with fail
        go_loopg [16] i (fun g jv wz => ∃ t j : Nat, t + g = i ∧ 2 * t = j ∧ jv = .int .i64 j ∧ KInv w.heap.size 0 wz (.slice sQ nq cQ) qs (.slice sH i cH) hs ∧ Below w.heap.size w wz)
        case atStart => exact ⟨0, 0, by omega, rfl, rfl, HK.out, HB.out⟩
        case round =>
          clear HK HB
          obtain ⟨t, j, hg2, htj, rfl, hk, hb⟩ := hrel
          have HK := Lib.hid hk
          have HB := Lib.hid hb
          have HTJ := Lib.hid htj
          clear hk hb
          by_cases hlt2 : t < i
          · have hpq := HP.out
            have hl0 : j < qs.length := by rw [hpq.1]; omega
            have hl1 : j + 1 < qs.length := by rw [hpq.1]; omega
            obtain ⟨gQ, hsQ, d0⟩ := HK.out.oq.cell hl0
            obtain ⟨gQ', hsQ', d1⟩ := HK.out.oq.cell hl1
            rw [hsQ] at hsQ'
            injection hsQ' with hsQ'
            injection hsQ' with hsQ'
            subst hsQ'
            have hq0 := HK.out.q j hl0 (Nat.zero_le _)
            have hq1 := HK.out.q (j + 1) hl1 (Nat.zero_le _)
            obtain ⟨p1, p2, _⟩ := hpq.2 j hl0
            obtain ⟨p3, p4, _⟩ := hpq.2 (j + 1) hl1
            rw [show j / 2 = t from by omega] at p1 p2
            rw [show (j + 1) / 2 = t from by omega] at p3 p4
            have i0 := qok_ints hq0 p1 p2
            have i1 := qok_ints hq1 p3 p4
            have v0 : qval qs[j] = .slice (some ⟨qs[j].g, 0, none⟩) (bn (Z t) (L t)) qs[j].c := by rw [← p1]; rfl
            have v1 : qval qs[j + 1] = .slice (some ⟨qs[j + 1].g, 0, none⟩) (bn (Z t) (L t)) qs[j + 1].c := by rw [← p3]; rfl
            rw [v0] at d0
            rw [v1] at d1
            obtain ⟨b, off, rfl, c0, _⟩ := HR.out.at HB.out (show t < nr by omega)
            have hlt' := hL t (by omega)
            clear hpq hq0 hq1 p1 p2 p3 p4 v0 v1 htj
            have I0 := Lib.hid i0
            have I1 := Lib.hid i1
            clear i0 i1
            generalize qs[j].g = g0 at *
            generalize qs[j].c = k0 at *
            generalize qs[j + 1].g = g1 at *
            generalize qs[j + 1].c = k1 at *
            generalize A t = at0 at *
            generalize L t = lt0 at *
            generalize C t = ct0 at *
            generalize Z t = zt0 at *
            have hbn := bn_bd zt0 lt0
            have HSQ := Lib.hid hsQ
            subst hsQ
            have q1 : (j : Int) + 1 < (nq : Int) := by have := HTJ.out; have := HNQ.out; omega
            have q2 : IntKind.i64.wrap ((j : Int) + 1) = (j : Int) + 1 := by rw [IntKind.wrap_i64]; omega
            have q3 : Int.tdiv (j : Int) 2 = (t : Int) := by rw [Int.tdiv_eq_ediv_of_nonneg (by omega)]; have := HTJ.out; omega
            have q4 : IntKind.i64.wrap (t : Int) = (t : Int) := by rw [IntKind.wrap_i64]; omega
            have q5 : (t : Int) < (nr : Int) := by omega
            have q6 : (0 : Int) ≤ (t : Int) := by omega
            have q7 : (0 : Int) ≤ (j : Int) := by omega
            have q8 : (j : Int) < (nq : Int) := by omega
            have q9 : (0 : Int) ≤ (j : Int) + 1 := by omega
            have hBr := Below.refl wr.heap.size wr
            go_wp2_with fail
            go_region_held3 (fun w' => w'.cell? ⟨gQ, j, none⟩ = some (.slice (some ⟨g0, 0, none⟩) (bn zt0 lt0) k0) ∧ w'.cell? ⟨gQ, j + 1, none⟩ = some (.slice (some ⟨g1, 0, none⟩) (bn zt0 lt0) k1) ∧ w'.cell? ⟨b, off + t, none⟩ = some (.slice at0 lt0 ct0) ∧ Below wr.heap.size wr w')
              (first | exact ⟨d0, d1, c0, hBr.drew⟩ | go_keep | (go_split_ands; exact ⟨((by assumption : Below _ _ _).cell (by first | assumption | exact World.block_lt_of_cell? _ _ (by assumption))).trans (by assumption), ((by assumption : Below _ _ _).cell (by first | assumption | exact World.block_lt_of_cell? _ _ (by assumption))).trans (by assumption), ((by assumption : Below _ _ _).cell (by first | assumption | exact World.block_lt_of_cell? _ _ (by assumption))).trans (by assumption), bt (by assumption) (by assumption)⟩))
              (first
                | (go_at_call 17; refine (ends_c (some ⟨g0, 0, none⟩) k0 lt0 zt0 _ (by omega) (I0.out.later (by first | assumption | exact hBr.drew | (go_split_ands; assumption)))).mono ?_; rintro e w17 ⟨rfl, hb2⟩)
                | (go_at_call 15; refine (same_any (some ⟨g0, 0, none⟩) (some ⟨g1, 0, none⟩) (bn zt0 lt0) k0 (bn zt0 lt0) k1 _ _ _ (by unfold maxLen; omega) (by unfold maxLen; omega) (I0.out.later (by first | assumption | exact hBr.drew | (go_split_ands; assumption))) (I1.out.later (by first | assumption | exact hBr.drew | (go_split_ands; assumption)))).mono ?_; rintro e w17 ⟨rfl, hb2⟩; rw [sameB_refl]))
            all_goals
              have hh : Below wr.heap.size wr w17 := by (first | assumption | (go_split_ands; assumption))
              have HK3 := Lib.hid (HK.out.later hh)
              have HB3 := Lib.hid (bt HB.out hh)
              clear hh hBr d0 d1 c0 HK HB
              go_wp2
              go_roundg (gk - 1)
              case measure => omega
              case rel => exact ⟨t + 1, j + 2, by omega, by have := HTJ.out; omega, by go_num, HK3.out, HB3.out⟩
          · have q1 : ¬ ((j : Int) + 1 < (nq : Int)) := by have := HNQ.out; omega
            have hql : nq = qs.length := by have := HP.out.1; have := HNQ.out; omega
            have HQL := Lib.hid hql
            have hjb : j ≤ 200 := by omega
            clear hql htj
            go_wp2_with fail
            go_loopg [5, 17] nq (fun g hv pv wz => ∃ p m : Nat, ∃ sH2 : Option Addr, ∃ cH2 : Nat, ∃ hs2 : List HeldD, p + g = nq ∧ i + p = m ∧ hv = .slice sH2 m cH2 ∧ pv = .int .i64 p ∧ KInv w.heap.size p wz (.slice sQ nq cQ) qs (.slice sH2 m cH2) hs2 ∧ Below w.heap.size w wz)
            case atStart => exact ⟨0, i, sH, cH, hs, by omega, by omega, rfl, rfl, HK.out, HB.out⟩
            case round =>
              clear HK HB
              obtain ⟨p, m, sH2, cH2, hs2, hg5, hpm, rfl, rfl, hk, hb⟩ := hrel
              have HK := Lib.hid hk
              have HB := Lib.hid hb
              have HPM := Lib.hid hpm
              have hmb : m ≤ 180 := by omega
              clear hk hb hpm
              by_cases hlp : p < nq
              · have hl0 : p < qs.length := by have := HQL.out; omega
                obtain ⟨gQ, hsQ, d0⟩ := HK.out.oq.cell hl0
                have hq0 := HK.out.q p hl0 (Nat.le_refl _)
                obtain ⟨p1, p2, hgp⟩ := HP.out.2 p hl0
                have hbnp := bn_bd (Z (p / 2)) (L (p / 2))
                have hip : p / 2 < nr := by have := HNQ.out; omega
                have hLp := hL (p / 2) hip
                have hn0 : 0 < qs[p].n ∧ qs[p].n < 1000000000 := by rw [p1]; omega
                have ho0 : OwnInts wr 0 (.slice (some ⟨qs[p].g, 0, none⟩) qs[p].n qs[p].c) qs[p].l := hq0
                have hv0 : qval qs[p] = .slice (some ⟨qs[p].g, 0, none⟩) qs[p].n qs[p].c := rfl
                rw [hv0] at d0
                have HO0 := Lib.hid ho0
                have HNX := Lib.hid (fun (w' : World) (ho : Only qs[p].g wr w') => KInv.next HK.out hl0 ho)
                have HF1 := Lib.hid (fun b' (e : b' = qs[p].g) => (show (Value.slice sQ nq cQ).ownBlock ≠ some b' ∧ (Value.slice sH2 m cH2).ownBlock ≠ some b' ∧ SepQ (p + 1) b' qs from
                  ⟨fun e2 => (HK.out.s1 b' e2).1 p hl0 (Nat.le_refl _) e.symm, fun e2 => (HK.out.s2 b' e2).1 p hl0 (Nat.le_refl _) e.symm, fun q hq hpq e2 => HK.out.s4 p q hl0 hq (Nat.le_refl _) (by omega) (e.symm.trans e2.symm)⟩))
                clear hq0 p1 p2 hv0 hbnp ho0
                obtain ⟨hn0, hn1⟩ := hn0
                have HKL := Lib.hid (fun b' (hb' : KBlk p (.slice sQ nq cQ) qs (.slice sH2 m cH2) hs2 b') => HK.out.lt hb')
                generalize qs[p].g = gp at *
                generalize qs[p].n = np at *
                generalize qs[p].c = cp at *
                generalize qs[p].l = lp at *
                have hcp := (HO0.out.blk 0).2.2.1
                clear hl0 HK
                have HSQ := Lib.hid hsQ
                have e5 : (p : Int) < (nq : Int) := by omega
                have e6 : IntKind.i64.wrap (2000000 + (p : Int)) = 2000000 + (p : Int) := by rw [IntKind.wrap_i64]; omega
                have e7 : (0 : Int) ≤ (p : Int) := by omega
                subst hsQ
                go_wp2_with fail
                refine (hold_c gp np cp (2000000 + (p : Int)) lp _ hn0 hn1 HO0.out).mono ?_
                rintro e w23 ⟨sM, nM, cM, rfl, hnM, hblk, hoM, hM, hon⟩
                have HH0 := Lib.hid (show HeldOk w23 ⟨gp, cp, sM, nM, cM, 2000000 + (p : Int)⟩ from ⟨hblk, hoM, hcp, hnM⟩)
                have HF0 := Lib.hid (fun b' (hb' : hasB ⟨gp, cp, sM, nM, cM, 2000000 + (p : Int)⟩ b') => (show (Value.slice (some ⟨gQ, 0, none⟩) nq cQ).ownBlock ≠ some b' ∧ (Value.slice sH2 m cH2).ownBlock ≠ some b' ∧ SepQ (p + 1) b' qs by
                  have hb2 : b' = gp ∨ wr.heap.size ≤ b' := by
                    rcases hb' with h | h
                    · exact .inl h
                    · exact hM b' h
                  rcases hb2 with h | h
                  · exact HF1.out b' h
                  · exact ⟨fun e => by have := HKL.out b' (.inl e); omega, fun e => by have := HKL.out b' (.inr (.inl e)); omega, fun q hq hp e => by have := HKL.out b' (.inr (.inr (.inl ⟨q, hq, by omega, e⟩))); omega⟩))
                have hk24 := HNX.out _ hon
                have hb24 := HB.out.trans (hon.below hgp HB.out.size)
                have HK4 := Lib.hid hk24
                have HB4 := Lib.hid hb24
                clear hk24 hb24 hblk hoM hM hon HNX HF1 HKL HB HO0 d0
                go_wp2_with (first | (at_builtin; refine wpList_push_h ⟨gp, cp, sM, nM, cM, 2000000 + (p : Int)⟩ rfl _ _ rfl w.heap.size (p + 1) _ _ _ _ _ _ rfl rfl HK4.out (by omega) HB4.out.size HH0.out HF0.out ?_; intro s24 c24 w24 hk24 hg24 _; have HK5 := Lib.hid hk24; have HB5 := Lib.hid (Below.grown HB4.out hg24 HB4.out.size (fun q hq => (HK4.out.oh.lt q hq).1)); clear hk24 hg24) | fail)
                go_roundg (gk - 1)
                case measure => omega
                case rel => exact ⟨p + 1, m + 1, _, _, _, by omega, by have := HPM.out; omega, rfl, by go_num, HK5.out, HB5.out⟩
              · have e5 : ¬ ((p : Int) < (nq : Int)) := by omega
                go_wp2_with fail
                refine (stands_c w.heap.size sH2 m cH2 hs2 _ (by omega) HK.out.oh HK.out.h).mono ?_
                rintro e w23 ⟨rfl, hb⟩
                replace HB := Lib.hid (bt HB.out hb)
                clear hb
                go_wp2
                go_ret
                exact ⟨rfl, HB.out⟩
end Go.Proofs.Ytpipcmbfdcbboaa
