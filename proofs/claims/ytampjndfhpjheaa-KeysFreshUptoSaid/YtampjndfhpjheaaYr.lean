/- Contract: newTables. No condition. -/
import Derived.Test.YtampjndfhpjheaaYq
import Derived.Deep.RegionHeld3
namespace Go.Proofs.Ytampjndfhpjheaa
open Go.RowKit
theorem nt_start (w : World) : ∃ ow, NT w w.heap.size (w.heap.size + 1) (fun _ => []) [] ((w.alloc (.cells #[.slice none 0 0, .slice none 0 0, .pointer none, .map none, .slice none 0 0, .slice none 0 0, .pointer none, .map none, .slice none 0 0, .slice none 0 0, .pointer none, .map none] 120)).alloc (.cells #[.pointer (some ⟨w.heap.size, 0, none⟩)] 86)) ow := by
  have h1 := one_new w (.cells #[.slice none 0 0, .slice none 0 0, .pointer none, .map none, .slice none 0 0, .slice none 0 0, .pointer none, .map none, .slice none 0 0, .slice none 0 0, .pointer none, .map none] 120)
  have b1 := below_new2 w (.cells #[.slice none 0 0, .slice none 0 0, .pointer none, .map none, .slice none 0 0, .slice none 0 0, .pointer none, .map none, .slice none 0 0, .slice none 0 0, .pointer none, .map none] 120)
  have s1 : (w.alloc (.cells #[.slice none 0 0, .slice none 0 0, .pointer none, .map none, .slice none 0 0, .slice none 0 0, .pointer none, .map none, .slice none 0 0, .slice none 0 0, .pointer none, .map none] 120)).heap.size = w.heap.size + 1 := by simp
  generalize w.alloc (.cells #[.slice none 0 0, .slice none 0 0, .pointer none, .map none, .slice none 0 0, .slice none 0 0, .pointer none, .map none, .slice none 0 0, .slice none 0 0, .pointer none, .map none] 120) = w1 at *
  have b2 := below_new2 w1 (.cells #[.pointer (some ⟨w.heap.size, 0, none⟩)] 86)
  have h2 := one_new w1 (.cells #[.pointer (some ⟨w.heap.size, 0, none⟩)] 86)
  rw [s1] at h2
  refine ⟨fun b => if b = w.heap.size then 4 else if b < w.heap.size then 0 else 5, tabs_empty ((b2.block _ (by omega)).trans h1) (if_pos rfl), h2, (if_neg (by omega)).trans (if_neg (by omega)), (fun x hx => by cases hx), fun b hb => (if_neg (by omega)).trans (if_pos hb), bt b1 b2⟩
section
variable {w0 w w' : World} {tb tv : Nat} {T T' : Nat → Rows} {Fz : List (Nat × Obj)} {ow : Nat → Nat}
theorem NT.add (h : NT w0 tb tv T Fz w ow) (i : Nat) (hi : i < 3) (M : List LineM) (g : Nat) (hfz : (g, Obj.cells (linesC M).toArray 129 (0, 0)) ∈ Fz) (f : Bd → Bd) (fb : BV → BV) (cf : FuncId) (hc : ChOk cf fb) (hf : ∀ v m a, fb (bvOf ⟨v, m, a, false, []⟩) = bvOf (f ⟨v, m, a, false, []⟩) ∧ (f ⟨v, m, a, false, []⟩).own = []) (hg : Good (T i ++ addP f (linesOf M))) (hM : Ascii M) (hn : M.length < 1000) :
    Calls Try.prog 66 #[.pointer (some ⟨tb, 4 * i, none⟩), .slice (some ⟨g, 0, none⟩) M.length M.length, .func (.func cf) #[] #[]] w fun e w' => e = .returned (.tuple #[]) ∧ ∃ ow', NT w0 tb tv (updT T i (T i ++ addP f (linesOf M))) Fz w' ow' := by
  refine (add_c tb i T f fb cf hc hf hi M ow g w hg hM h.tabs (h.fz _ hfz).1 (live5 (h.fz _ hfz).2) hn).mono ?_
  rintro e w' ⟨rfl, hp⟩
  exact ⟨rfl, h.put hp⟩
theorem NT.addo (h : NT w0 tb tv T Fz w ow) (i : Nat) (hi : i < 3) (M : List LineM) (g : Nat) (hfz : (g, Obj.cells (linesC M).toArray 129 (0, 0)) ∈ Fz) (hg : Good (T i ++ objP (linesOf M))) (hM : Ascii M) (hn : M.length < 1000) (hmv : ∀ x ∈ M, 0 ≤ x.2.2.1 ∧ x.2.2.1 < 1000) :
    Calls Try.prog 77 #[.pointer (some ⟨tb, 4 * i, none⟩), .slice (some ⟨g, 0, none⟩) M.length M.length] w fun e w' => e = .returned (.tuple #[]) ∧ ∃ ow', NT w0 tb tv (updT T i (T i ++ objP (linesOf M))) Fz w' ow' := by
  refine (addo_c tb i T hi M ow g w hg hM h.tabs (h.fz _ hfz).1 (live5 (h.fz _ hfz).2) hn hmv).mono ?_
  rintro e w' ⟨rfl, hp⟩
  exact ⟨rfl, h.put hp⟩
theorem NT.op (h : NT w0 tb tv T Fz w ow) (st : ByteArray) (v m a : Int) (hsz : st.size < 1000) (hst : ∀ (k : Nat) (h : k < st.size), (st[k]'h).toNat < 128) (hg : Good (T 0 ++ opsR v m a (eachP [] (codesOf st)))) (hF : ∀ p ∈ eachP [] (codesOf st), TrieOk (ownS (ownP p))) :
    Calls Try.prog 79 #[.agg #[.string st, .int .i64 v, .int .i64 m, .int .i64 a], .func (.func 80) #[] #[.pointer (some ⟨tv, 0, none⟩)]] w fun e w' => e = .returned (.tuple #[]) ∧ ∃ ow', NT w0 tb tv (updT T 0 (T 0 ++ opsR v m a (eachP [] (codesOf st)))) Fz w' ow' := by
  have hI : OpI tb T v m a tv w ow [] := ⟨by rw [show opsR v m a [] = [] from rfl, List.append_nil, updT_self]; exact h.tabs, h.tvb, h.tvc⟩
  refine (each_c (OpI tb T v m a tv) _ _ _ v m a (op1_ok tb T v m a tv _ hg hF) ow st w hsz hst rfl hI).mono ?_
  rintro e w' ⟨rfl, ow', h1, h2, h3⟩
  exact ⟨rfl, h.put ⟨ow', h1.1, h2, h3⟩⟩
end
theorem ownS_ok {L : List (List Int)} (h : pfB (L.map fun k => (k, mlB)) = true) (hn : ∀ k ∈ L, k ≠ []) : TrieOk (ownS L) := by
  refine ⟨fun r hr => ?_, ?_⟩
  · unfold ownS at hr
    obtain ⟨k, hk, rfl⟩ := List.mem_map.1 hr
    exact hn k hk
  · have := pfB_pair h
    rw [List.pairwise_map] at this
    unfold ownS
    rw [List.pairwise_map]
    exact this
theorem ops_own : ∀ x ∈ operatorsM, ∀ p ∈ eachP [] (codesOf x.1), TrieOk (ownS (ownP p)) := by
  have h : (operatorsM.all fun x => (eachP [] (codesOf x.1)).all fun p => pfB ((ownP p).map fun k => (k, mlB)) && (ownP p).all (fun k => !k.isEmpty)) = true := by decide +kernel
  intro x hx p hp
  have h1 := List.all_eq_true.1 (List.all_eq_true.1 h x hx) p hp
  rw [Bool.and_eq_true, List.all_eq_true] at h1
  refine ownS_ok h1.1 (fun k hk e => ?_)
  have := h1.2 k hk
  rw [e] at this; cases this
def TL1 (j k : Nat) : Rows := if k < j then partA else []
def TL2 (j k : Nat) : Rows := if k < j then partA ++ partW else partA
theorem opsP_snoc (M : List LineM) (k : Nat) (h : k < M.length) : opsP (linesOf (M.take (k + 1))) = opsP (linesOf (M.take k)) ++ opsR (M[k]).2.1 (M[k]).2.2.1 (M[k]).2.2.2 (eachP [] (codesOf (M[k]).1)) := by
  have e : M.take (k + 1) = M.take k ++ [M[k]] := by rw [List.take_add_one, List.getElem?_eq_getElem h]; rfl
  rw [e]
  unfold opsP linesOf
  rw [List.map_append, List.flatMap_append]
  simp [lineB, opsR]
theorem opsP_pre (M : List LineM) (k : Nat) : opsP (linesOf (M.take k)) <+: opsP (linesOf M) := by
  refine ⟨opsP (linesOf (M.drop k)), ?_⟩
  unfold opsP linesOf
  rw [← List.flatMap_append, ← List.map_append, List.take_append_drop]
def TL3 (j k : Nat) : Rows := if k = 0 then partA ++ partW ++ addP id ofNormalL ++ opsP (linesOf (operatorsM.take j)) else if k = 1 then selectedT else behindT
set_option maxRecDepth 100000 in
set_option maxHeartbeats 4000000 in
theorem tables_c (w : World) :
    Calls Try.prog 40 #[] w fun e w' => ∃ tb ow, e = .returned (.pointer (some ⟨tb, 0, none⟩)) ∧ Tabs w' ow tb tabT ∧ Below w.heap.size w w' ∧ ∀ b, b < w.heap.size → ow b = 0 := by
  have hmf : ∀ (fn : Fn) (first cap : Array Value) (w : World), (Instr.makeFunc fn first cap).run Try.prog w = .ok (.func fn first cap) w := fun _ _ _ _ => rfl
  obtain ⟨ow1, h1⟩ := nt_start w
  have H1 := Lib.hid h1
  clear h1
  go_enter Try.func40, Try.ntmps40
  go_upto_region 2 with (fail)
  generalize (w.alloc (.cells #[.slice none 0 0, .slice none 0 0, .pointer none, .map none, .slice none 0 0, .slice none 0 0, .pointer none, .map none, .slice none 0 0, .slice none 0 0, .pointer none, .map none] 120)).alloc (.cells #[.pointer (some ⟨w.heap.size, 0, none⟩)] 86) = w1 at H1 ⊢
  generalize w.heap.size + 1 = tv at H1 ⊢
  generalize htb : w.heap.size = tb at H1 ⊢
  have HTB := Lib.hid htb
  clear htb
  go_wp2_with fail
  refine (motions_c _).mono ?_
  rintro e w2 ⟨rfl, hw⟩
  obtain ⟨ow2, h2⟩ := H1.out.alloc (linesC motionsM).toArray 129
  rw [← hw] at h2
  generalize w1.heap.size = gM at h2 ⊢
  have H2 := Lib.hid h2
  clear hw h2 H1
  go_wp2_with fail
  refine (seeks_c _).mono ?_
  rintro e w3 ⟨rfl, hw⟩
  obtain ⟨ow3, h3⟩ := H2.out.alloc (linesC seeksM).toArray 129
  rw [← hw] at h3
  generalize w2.heap.size = gS at h3 ⊢
  have H3 := Lib.hid (h3.later ((Below.refl w3.heap.size w3).drew))
  obtain ⟨ow4, h4⟩ := h3.alloc #[.pointer (some ⟨tb, 0, none⟩), .pointer (some ⟨tb, 4, none⟩), .pointer (some ⟨tb, 8, none⟩)] 123
  have HH := Lib.hid (h4.later ((Below.refl _ _).drew))
  clear h4
  have ct := h3.tvb.cell.1
  clear hw h3 H2
  go_wp2_with fail
  go_region_held3 (fun w' => w'.cell? ⟨tv, 0, none⟩ = some (.pointer (some ⟨tb, 0, none⟩))) (first | exact ct | exact (H3.out.later (below_new2 _ _)).tvb.cell.1 | go_keep) (fail)
  rename_i hheld
  clear hheld ct
  go_wp2_with fail
  generalize (w3.alloc (.cells #[.pointer (some ⟨tb, 0, none⟩), .pointer (some ⟨tb, 4, none⟩), .pointer (some ⟨tb, 8, none⟩)] 123)).drew = w4 at HH ⊢
  generalize w3.heap.size = ps at HH ⊢
  clear H3
  go_loopg [29] 3 (fun gg iv wr => ∃ j : Nat, ∃ ow, j + gg = 3 ∧ iv = .int .i64 j ∧ NT w tb tv (TL1 j) [(ps, .cells #[.pointer (some ⟨tb, 0, none⟩), .pointer (some ⟨tb, 4, none⟩), .pointer (some ⟨tb, 8, none⟩)] 123 (0, 0)), (gS, .cells (linesC seeksM).toArray 129 (0, 0)), (gM, .cells (linesC motionsM).toArray 129 (0, 0))] wr ow)
  case atStart => exact ⟨0, ow4, by omega, rfl, HH.out.congr (fun i hi => rfl)⟩
  case round =>
    obtain ⟨j, ow, hgj, rfl, hnt⟩ := hrel
    clear HH
    have HH := Lib.hid hnt
    clear hnt
    by_cases hj : j < 3
    · have hfz := (HH.out.fz _ (List.mem_cons_self ..)).1
      have c0 : wr.cell? ⟨ps, j, none⟩ = some (.pointer (some ⟨tb, 4 * j, none⟩)) := by
        rw [block_cell hfz]
        obtain rfl | rfl | rfl : j = 0 ∨ j = 1 ∨ j = 2 := by omega
        all_goals rfl
      clear hfz
      have hT : TL1 j j = [] := if_neg (by omega)
      have hgA : Good (TL1 j j ++ addP movesB (linesOf motionsM)) := by
        rw [hT, motions_l]
        exact good_behind.pre (by rw [behind_parts]; unfold partA; exact ⟨addP seeksB seeksL ++ objP objectsL, by simp only [List.nil_append, List.append_assoc]⟩)
      have hgB : Good (updT (TL1 j) j (TL1 j j ++ addP movesB (linesOf motionsM)) j ++ addP seeksB (linesOf seeksM)) := by
        rw [updT_at, hT, motions_l, seeks_l]
        exact good_behind.pre (by rw [behind_parts]; unfold partA; exact ⟨objP objectsL, by simp only [List.nil_append, List.append_assoc]⟩)
      have HGA := Lib.hid hgA
      have HGB := Lib.hid hgB
      have HT := Lib.hid hT
      clear hgA hgB hT
      go_wp2_with fail
      refine (HH.out.add j hj motionsM gM (by simp) movesB _ _ ch_moves (fun v m a => ⟨rfl, rfl⟩) HGA.out motions_a (by decide)).mono ?_
      rintro e w5 ⟨rfl, ow5, h5⟩
      have H5 := Lib.hid h5
      clear h5
      go_wp2_with fail
      refine (H5.out.add j hj seeksM gS (by simp) seeksB _ _ ch_seeks (fun v m a => ⟨rfl, rfl⟩) HGB.out seeks_a (by decide)).mono ?_
      rintro e w6 ⟨rfl, ow6, h6⟩
      have H6 := Lib.hid (h6.congr (T' := TL1 (j + 1)) (fun i hi => by
        rw [updT_same]
        unfold updT
        by_cases e : i = j
        · subst e
          rw [if_pos rfl, if_pos rfl, HT.out, motions_l, seeks_l]
          unfold TL1 partA
          rw [if_pos (by omega), List.nil_append]
        · rw [if_neg e]
          unfold TL1
          by_cases e2 : i < j
          · rw [if_pos e2, if_pos (by omega)]
          · rw [if_neg e2, if_neg (by omega)]))
      clear h6
      go_wp2
      go_roundg (gk - 1)
      case measure => omega
      case rel => exact ⟨j + 1, ow6, by omega, by go_num, H6.out⟩
    · obtain rfl : j = 3 := by omega
      have HX := Lib.hid (HH.out.congr (T' := TL2 0) (fun i hi => by
        show (if i < 0 then _ else partA) = (if i < 3 then partA else [])
        rw [if_neg (by omega), if_pos hi]))
      clear HH
      go_wp2_with fail
      refine (scrolls_c _).mono ?_
      rintro e w7 ⟨rfl, hw⟩
      obtain ⟨ow7, h7⟩ := HX.out.alloc (linesC scrollsM).toArray 129
      rw [← hw] at h7
      generalize wr.heap.size = gC at h7 ⊢
      have H7 := Lib.hid h7
      clear hw h7 HX
      go_wp2_with fail
      refine (both_c _).mono ?_
      rintro e w8 ⟨rfl, hw⟩
      obtain ⟨ow8, h8⟩ := H7.out.alloc (linesC bothM).toArray 129
      rw [← hw] at h8
      generalize w7.heap.size = gB at h8 ⊢
      have H8 := Lib.hid h8
      clear hw h8 H7
      go_wp2_with fail
      refine (named_c _).mono ?_
      rintro e w9 ⟨rfl, hw⟩
      obtain ⟨ow9, h9⟩ := H8.out.alloc (linesC namedM).toArray 129
      rw [← hw] at h9
      generalize w8.heap.size = gN at h9 ⊢
      have H9 := Lib.hid h9
      clear hw h9 H8
      obtain ⟨owa, ha⟩ := H9.out.alloc #[.pointer (some ⟨tb, 0, none⟩), .pointer (some ⟨tb, 4, none⟩)] 123
      have HA := Lib.hid (ha.later ((Below.refl _ _).drew))
      have H9D := Lib.hid (H9.out.later ((Below.refl w9.heap.size w9).drew))
      have ct := H9.out.tvb.cell.1
      clear ha H9
      go_wp2_with fail
      go_region_held3 (fun w' => w'.cell? ⟨tv, 0, none⟩ = some (.pointer (some ⟨tb, 0, none⟩))) (first | exact ct | exact (H9D.out.later (below_new2 _ _)).tvb.cell.1 | go_keep) (fail)
      rename_i hheld
      clear hheld ct
      go_wp2_with fail
      generalize (w9.alloc (.cells #[.pointer (some ⟨tb, 0, none⟩), .pointer (some ⟨tb, 4, none⟩)] 123)).drew = wa at HA ⊢
      generalize w9.heap.size = pt at HA ⊢
      clear H9D
      go_loopg [51] 2 (fun gg iv wr => ∃ j : Nat, ∃ ow, j + gg = 2 ∧ iv = .int .i64 j ∧ NT w tb tv (TL2 j) ((pt, .cells #[.pointer (some ⟨tb, 0, none⟩), .pointer (some ⟨tb, 4, none⟩)] 123 (0, 0)) :: (gN, .cells (linesC namedM).toArray 129 (0, 0)) :: (gB, .cells (linesC bothM).toArray 129 (0, 0)) :: (gC, .cells (linesC scrollsM).toArray 129 (0, 0)) :: [(ps, .cells #[.pointer (some ⟨tb, 0, none⟩), .pointer (some ⟨tb, 4, none⟩), .pointer (some ⟨tb, 8, none⟩)] 123 (0, 0)), (gS, .cells (linesC seeksM).toArray 129 (0, 0)), (gM, .cells (linesC motionsM).toArray 129 (0, 0))]) wr ow)
      case atStart => exact ⟨0, owa, by omega, rfl, HA.out⟩
      case round =>
        obtain ⟨j, ow, hgj, rfl, hnt⟩ := hrel
        clear HA
        have HH := Lib.hid hnt
        clear hnt
        by_cases hj : j < 2
        · have hfz := (HH.out.fz _ (List.mem_cons_self ..)).1
          have c0 : wr.cell? ⟨pt, j, none⟩ = some (.pointer (some ⟨tb, 4 * j, none⟩)) := by
            rw [block_cell hfz]
            obtain rfl | rfl : j = 0 ∨ j = 1 := by omega
            all_goals rfl
          clear hfz
          have hT : TL2 j j = partA := if_neg (by omega)
          have hg0 : Good (partA ++ partW) := good_selected.pre (by rw [selected_parts]; exact ⟨addP id ofSelectionL ++ objP objectsL, by simp only [List.append_assoc]⟩)
          have hgA : Good (TL2 j j ++ addP id (linesOf scrollsM)) := by
            rw [hT, scrolls_l]
            exact hg0.pre ((List.prefix_append_right_inj _).2 (by unfold partW; exact ⟨addP id bothL ++ addP asksB namedL, by simp only [List.append_assoc]⟩))
          have hgB : Good (updT (TL2 j) j (TL2 j j ++ addP id (linesOf scrollsM)) j ++ addP id (linesOf bothM)) := by
            rw [updT_at, hT, scrolls_l, both_l, List.append_assoc]
            exact hg0.pre ((List.prefix_append_right_inj _).2 (by unfold partW; exact ⟨addP asksB namedL, rfl⟩))
          have hgC : Good (updT (TL2 j) j (TL2 j j ++ addP id (linesOf scrollsM) ++ addP id (linesOf bothM)) j ++ addP asksB (linesOf namedM)) := by
            rw [updT_at, hT, scrolls_l, both_l, named_l, List.append_assoc, List.append_assoc]
            exact hg0.pre ((List.prefix_append_right_inj _).2 (by unfold partW; rw [List.append_assoc]; exact List.prefix_refl _))
          have HGA := Lib.hid hgA
          have HGB := Lib.hid hgB
          have HGC := Lib.hid hgC
          have HT := Lib.hid hT
          clear hgA hgB hgC hT hg0
          go_wp2_with fail
          refine (HH.out.add j (by omega) scrollsM gC (by simp) id _ _ ch_plain (fun v m a => ⟨rfl, rfl⟩) HGA.out scrolls_a (by decide)).mono ?_
          rintro e w5 ⟨rfl, ow5, h5⟩
          have H5 := Lib.hid h5
          clear h5
          go_wp2_with fail
          refine (H5.out.add j (by omega) bothM gB (by simp) id _ _ ch_plain (fun v m a => ⟨rfl, rfl⟩) HGB.out both_a (by decide)).mono ?_
          rintro e w6 ⟨rfl, ow6, h6⟩
          rw [updT_same, updT_at] at h6
          have H6 := Lib.hid h6
          clear h6
          go_wp2_with fail
          refine (H6.out.add j (by omega) namedM gN (by simp) asksB _ _ ch_asks (fun v m a => ⟨rfl, rfl⟩) HGC.out named_a (by decide)).mono ?_
          rintro e w7 ⟨rfl, ow7, h7⟩
          have H7 := Lib.hid (h7.congr (T' := TL2 (j + 1)) (fun i hi => by
            rw [updT_same]
            unfold updT
            by_cases e : i = j
            · subst e
              rw [if_pos rfl, if_pos rfl, HT.out, scrolls_l, both_l, named_l]
              unfold TL2 partW
              rw [if_pos (by omega)]
              simp only [List.append_assoc]
            · rw [if_neg e]
              unfold TL2
              by_cases e2 : i < j
              · rw [if_pos e2, if_pos (by omega)]
              · rw [if_neg e2, if_neg (by omega)]))
          clear h7
          go_wp2
          go_roundg (gk - 1)
          case measure => omega
          case rel => exact ⟨j + 1, ow7, by omega, by go_num, H7.out⟩
        · obtain rfl : j = 2 := by omega
          have hgN : Good (TL2 2 0 ++ addP id (linesOf ofNormalM)) := good_normal.pre (by rw [normal_parts, ofNormal_l]; exact List.prefix_append _ _)
          have hgS : Good (TL2 2 1 ++ addP id (linesOf ofSelectionM)) := good_selected.pre (by rw [selected_parts, ofSelection_l]; exact List.prefix_append _ _)
          have HGN := Lib.hid hgN
          have HGS := Lib.hid hgS
          have HD := Lib.hid (HH.out.later ((Below.refl wr.heap.size wr).drew))
          have ct := HH.out.tvb.cell.1
          clear hgN hgS
          go_wp2_with fail
          go_region_held3 (fun w' => w'.cell? ⟨tv, 0, none⟩ = some (.pointer (some ⟨tb, 0, none⟩))) (first | exact ct | exact (HA1).tvb.cell.1 | exact (HA2).tvb.cell.1)
            (first
              | (go_simp; refine (ofNormal_c _).mono ?_; rintro e w5 ⟨rfl, hw⟩; obtain ⟨ow5, HA1⟩ := HD.out.alloc (linesC ofNormalM).toArray 129; rw [← hw] at HA1; clear hw)
              | (go_simp; refine (HA1.add 0 (by omega) ofNormalM _ (by simp) id _ _ ch_plain (fun v m a => ⟨rfl, rfl⟩) HGN.out ofNormal_a (by decide)).mono ?_; rintro e w6 ⟨rfl, ow6, HA2⟩))
          all_goals
            rename_i hheld
            have H6 := Lib.hid HA2
            have HD6 := Lib.hid (HA2.later ((Below.refl w6.heap.size w6).drew))
            have HGS6 : Hid (Good (updT (TL2 2) 0 (TL2 2 0 ++ addP id (linesOf ofNormalM)) 1 ++ addP id (linesOf ofSelectionM))) := HGS
            clear hheld HA1 HA2 ct HD HH HGN HGS
            have ct := H6.out.tvb.cell.1
            go_wp2_with fail
            go_region_held3 (fun w' => w'.cell? ⟨tv, 0, none⟩ = some (.pointer (some ⟨tb, 0, none⟩))) (first | exact ct | exact (HA1).tvb.cell.1 | exact (HA2).tvb.cell.1)
              (first
                | (go_simp; refine (ofSelection_c _).mono ?_; rintro e w7 ⟨rfl, hw⟩; obtain ⟨ow7, HA1⟩ := HD6.out.alloc (linesC ofSelectionM).toArray 129; rw [← hw] at HA1; clear hw)
                | (go_simp; refine (HA1.add 1 (by omega) ofSelectionM _ (by simp) id _ _ ch_plain (fun v m a => ⟨rfl, rfl⟩) HGS6.out ofSelection_a (by decide)).mono ?_; rintro e w8 ⟨rfl, ow8, HA2⟩))
            all_goals
              rename_i hheld
              have H8 := Lib.hid HA2
              clear hheld HA1 HA2 ct HD6 H6 HGS6
              go_wp2_with fail
              refine (objects_c _).mono ?_
              rintro e w9 ⟨rfl, hw⟩
              obtain ⟨ow9, h9⟩ := H8.out.alloc (linesC objectsM).toArray 129
              rw [← hw] at h9
              generalize w8.heap.size = gO at h9 ⊢
              have H9 := Lib.hid h9
              have ct := h9.tvb.cell.1
              clear hw h9 H8
              have hgO1 : Good (updT (updT (TL2 2) 0 (TL2 2 0 ++ addP id (linesOf ofNormalM))) 1 (updT (TL2 2) 0 (TL2 2 0 ++ addP id (linesOf ofNormalM)) 1 ++ addP id (linesOf ofSelectionM)) 1 ++ objP (linesOf objectsM)) := by
                rw [updT_at, objects_l, ofSelection_l]
                exact good_selected.pre (by rw [selected_parts]; exact List.prefix_refl _)
              have HGO1 := Lib.hid hgO1
              clear hgO1
              go_wp2_with fail
              refine (H9.out.addo 1 (by omega) objectsM gO (by simp) HGO1.out objects_a (by decide) (by decide)).mono ?_
              rintro e wa ⟨rfl, owa, ha⟩
              have HA := Lib.hid ha
              have ct := ha.tvb.cell.1
              clear ha
              rw [updT_same] at HA
              have hgO2 : Good (updT (updT (TL2 2) 0 (TL2 2 0 ++ addP id (linesOf ofNormalM))) 1 (updT (updT (TL2 2) 0 (TL2 2 0 ++ addP id (linesOf ofNormalM))) 1 (updT (TL2 2) 0 (TL2 2 0 ++ addP id (linesOf ofNormalM)) 1 ++ addP id (linesOf ofSelectionM)) 1 ++ objP (linesOf objectsM)) 2 ++ objP (linesOf objectsM)) := by
                rw [show updT (updT (TL2 2) 0 (TL2 2 0 ++ addP id (linesOf ofNormalM))) 1 (updT (updT (TL2 2) 0 (TL2 2 0 ++ addP id (linesOf ofNormalM))) 1 (updT (TL2 2) 0 (TL2 2 0 ++ addP id (linesOf ofNormalM)) 1 ++ addP id (linesOf ofSelectionM)) 1 ++ objP (linesOf objectsM)) 2 = partA from rfl, objects_l]
                exact good_behind.pre (by rw [behind_parts]; exact List.prefix_refl _)
              have HGO2 := Lib.hid hgO2
              clear hgO2 HGO1
              go_wp2_with fail
              refine (HA.out.addo 2 (by omega) objectsM gO (by simp) HGO2.out objects_a (by decide) (by decide)).mono ?_
              rintro e wb ⟨rfl, owb, hb⟩
              have HB := Lib.hid (hb.congr (T' := TL3 0) (fun i hi => by
                obtain rfl | rfl | rfl : i = 0 ∨ i = 1 ∨ i = 2 := by omega
                · show partA ++ partW ++ addP id ofNormalL ++ opsP (linesOf (operatorsM.take 0)) = TL2 2 0 ++ addP id (linesOf ofNormalM)
                  rw [ofNormal_l]
                  exact List.append_nil _
                · show selectedT = _
                  rw [selected_parts, ← ofSelection_l, ← objects_l]; rfl
                · show behindT = _
                  rw [behind_parts, ← objects_l]; rfl))
              clear hb HA HGO2
              go_wp2_with fail
              refine (operators_c _).mono ?_
              rintro e wc ⟨rfl, hw⟩
              obtain ⟨owc, hc⟩ := HB.out.alloc (linesC operatorsM).toArray 129
              rw [← hw] at hc
              generalize wb.heap.size = gP at hc ⊢
              have HC := Lib.hid hc
              clear hw hc HB
              go_wp2_with fail
              go_loopg [88] 8 (fun gg iv wr => ∃ j : Nat, ∃ ow, j + gg = 8 ∧ iv = .int .i64 j ∧ NT w tb tv (TL3 j) [(gP, .cells (linesC operatorsM).toArray 129 (0, 0))] wr ow)
              case atStart => exact ⟨0, owc, by omega, rfl, { HC.out with fz := fun x hx => HC.out.fz x (by rw [List.mem_singleton.1 hx]; exact List.mem_cons_self ..) }⟩
              case round =>
                obtain ⟨j, ow, hgj, rfl, hnt⟩ := hrel
                clear HC
                have HH := Lib.hid hnt
                clear hnt
                by_cases hj : j < 8
                · have hlr := (HH.out.fz _ (List.mem_cons_self ..)).1
                  have hjl : j < operatorsM.length := hj
                  have hcell : ∀ i, i < 4 → wr.cell? ⟨gP, j * 4 + i, none⟩ = [Value.string (operatorsM[j]).1, .int .i64 (operatorsM[j]).2.1, .int .i64 (operatorsM[j]).2.2.1, .int .i64 (operatorsM[j]).2.2.2][i]? := fun i hi => by
                    rw [block_cell hlr, List.getElem?_toArray]; exact linesC_get operatorsM j i hjl hi
                  have hasc := operators_a _ (List.getElem_mem hjl)
                  have hown := ops_own _ (List.getElem_mem hjl)
                  have hsn := opsP_snoc operatorsM j hjl
                  have hpr := opsP_pre operatorsM (j + 1)
                  generalize operatorsM[j] = ln at *
                  obtain ⟨st, v, m, a⟩ := ln
                  have c0 : wr.cell? ⟨gP, j * 4, none⟩ = some (.string st) := hcell 0 (by omega)
                  have c1 : wr.cell? ⟨gP, j * 4 + 1, none⟩ = some (.int .i64 v) := hcell 1 (by omega)
                  have c2 : wr.cell? ⟨gP, j * 4 + 2, none⟩ = some (.int .i64 m) := hcell 2 (by omega)
                  have c3 : wr.cell? ⟨gP, j * 4 + 3, none⟩ = some (.int .i64 a) := hcell 3 (by omega)
                  have hg : Good (TL3 j 0 ++ opsR v m a (eachP [] (codesOf st))) := by
                    refine good_normal.pre ?_
                    rw [normal_parts]
                    show partA ++ partW ++ addP id ofNormalL ++ opsP (linesOf (operatorsM.take j)) ++ _ <+: _
                    rw [List.append_assoc, ← hsn, ← operators_l]
                    exact (List.prefix_append_right_inj _).2 hpr
                  have HG := Lib.hid hg
                  have HASC := Lib.hid hasc
                  have HOWN := Lib.hid hown
                  have HSN := Lib.hid hsn
                  have HD := Lib.hid (HH.out.later (below_new2 wr (.cells #[.string st, .int .i64 v, .int .i64 m, .int .i64 a] 129)))
                  clear hlr hcell hasc hown hsn hpr hg HH
                  go_wp2_with fail
                  refine (HD.out.op st v m a HASC.out.1 HASC.out.2 HG.out HOWN.out).mono ?_
                  rintro e w5 ⟨rfl, ow5, h5⟩
                  have H5 := Lib.hid (h5.congr (T' := TL3 (j + 1)) (fun i hi => by
                    unfold updT
                    by_cases e : i = 0
                    · subst e
                      rw [if_pos rfl]
                      show partA ++ partW ++ addP id ofNormalL ++ opsP (linesOf (operatorsM.take (j + 1))) = partA ++ partW ++ addP id ofNormalL ++ opsP (linesOf (operatorsM.take j)) ++ _
                      rw [List.append_assoc _ (opsP (linesOf (operatorsM.take j))), ← HSN.out]
                    · rw [if_neg e]
                      unfold TL3
                      rw [if_neg e, if_neg e]))
                  clear h5 HD
                  go_wp2
                  go_roundg (gk - 1)
                  case measure => omega
                  case rel => exact ⟨j + 1, ow5, by omega, by go_num, H5.out⟩
                · obtain rfl : j = 8 := by omega
                  have hfin : Tabs wr ow tb tabT ∧ Below w.heap.size w wr ∧ ∀ b, b < w.heap.size → ow b = 0 := by
                    refine ⟨HH.out.tabs.congr (fun i hi => ?_), HH.out.below, HH.out.old⟩
                    obtain rfl | rfl | rfl : i = 0 ∨ i = 1 ∨ i = 2 := by omega
                    · show normalT = partA ++ partW ++ addP id ofNormalL ++ opsP (linesOf (operatorsM.take 8))
                      rw [normal_parts, ← operators_l]; rfl
                    · rfl
                    · rfl
                  have ct := HH.out.tvb.cell.1
                  have HFIN := Lib.hid hfin
                  clear hfin HH
                  go_wp2
                  go_ret
                  exact ⟨tb, ow, rfl, HFIN.out.1, HFIN.out.2.1, HFIN.out.2.2⟩
end Go.Proofs.Ytampjndfhpjheaa
