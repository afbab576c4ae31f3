/- The walk of ClusterLines. Condition: lines of fewer than 2^20 members, fewer than 2^20 lines. -/
import Derived.Test.YtpipcmbfdcbboaaKa
import Derived.Test.YtpipcmbfdcbboaaOf
import Derived.Maps.AppendAt
namespace Go.Proofs.Ytpipcmbfdcbboaa
open Go.RowKit
theorem OwnInts.len {w : World} {base : Nat} {sl : Option Addr} {j c : Nat} {l : List Int} (h : OwnInts w base (.slice sl j c) l) : j = l.length := by
  rcases h.2 with ⟨h1, h2⟩ | ⟨g, cap, cur, h1, _⟩
  · rw [(Value.slice.inj h1).2.1, h2]
  · exact (Value.slice.inj h1).2.1
theorem OwnInts.kept {w w' : World} {base : Nat} {v : Value} {l : List Int} (h : OwnInts w base v l) (e : ∀ b, b < w.heap.size → v.ownBlock = some b → w'.heap[b]? = w.heap[b]?) : OwnInts w' base v l := by
  refine ⟨h.1, ?_⟩
  rcases h.2 with hn | ⟨g, cap, cur, rfl, hg, hgg, rest⟩
  · exact .inl hn
  · exact .inr ⟨g, cap, cur, rfl, hg, (e g (heap_lt hgg) rfl).trans hgg, rest⟩
theorem OwnInts.is {w : World} {base : Nat} {sl : Option Addr} {j c : Nat} {l : List Int} (h : OwnInts w base (.slice sl j c) l) : IsInts w sl j (gl l) := by
  obtain ⟨s, n, c', hv, hn, hi⟩ := h.shape
  obtain ⟨rfl, rfl, rfl⟩ := Value.slice.inj hv
  exact hi
/-- two slices that do not lie in one block -/
def Apart (v u : Value) : Prop := ∀ b, v.ownBlock = some b → u.ownBlock ≠ some b
theorem Apart.symm {v u : Value} (h : Apart v u) : Apart u v := fun b h1 h2 => h b h2 h1
theorem wpList_push2 {w : World} {ops : Array Oper} {rest : List Oper} {o : Oper} {a : Act} {Q : Exit → Act → World → Prop} (k : Int) (hgd : o.guard = none) (s x : Operand)
    (ho : o.op = .call { callee := .builtin .append, args := #[s, x], argTypes := #[22, 22] })
    (base : Nat) (sl : Option Addr) (j c : Nat) (l : List Int) (hs : a.eval s = .slice sl j c) (hx : a.eval x = .slice (some ⟨w.heap.size, 0, none⟩) 1 1) (hown : OwnInts w base (.slice sl j c) l) (hj : j < 4294967296) (hbase : base ≤ w.heap.size)
    (baseB : Nat) (vB : Value) (lB : List Int) (hB : OwnInts w baseB vB lB) (hap : Apart (.slice sl j c) vB)
    (h : ∀ s' c' w', OwnInts w' base (.slice s' (j + 1) c') (l ++ [k]) → OwnInts w' baseB vB lB → Apart (.slice s' (j + 1) c') vB → Below base w w' → wpList Try.prog ops Q rest (a.put o.dst (.slice s' (j + 1) c')) w') :
    wpList Try.prog ops Q (o :: rest) a (w.alloc (.cells #[.int .i64 k] 3)) := by
  obtain rfl := hown.len
  obtain ⟨i0, hi, hz0, hz1, hz2⟩ := info_parts Try.infoInt
  refine wpList_append_own_at _ hgd s x 22 ho base 3 i0 (.int .i64 0) 1 8 Try.underlying22 hi hz0 hz1 hz2 rfl (by decide) _ _ _ hs (hown.alloc _) ⟨w.heap.size, 0, none⟩ 1 1 [.int .i64 k] hx rfl (cell_one_new _ _ _) (ints_oneCell _ [k]) (by unfold maxLen; omega) (by omega) (by simp; omega) ?_
  intro v' w1 hown' hgrow _ hat
  obtain ⟨hp1, hp2, hp3, s', n2, c', rfl, hn2⟩ := own_push2 hown hown' hgrow hbase
  subst hn2
  refine h s' c' w1 hp1 (hB.kept fun b hb he => ?_) (fun b h1 h2 => ?_) hp2
  · rw [hgrow.block b (by simp; omega) (fun e => hap b e.symm he)]
    exact Below.heap_alloc w _ b hb
  · rcases hat with e | e
    · rw [e] at h1; exact hap b h1 h2
    · rw [e] at h1
      have h3 := (hB.lt b h2).2
      simp at h1
      omega
theorem IsInts.place {w : World} {b off n : Nat} {f : Nat → Int} (h : IsInts w (some ⟨b, off, none⟩) n f) {i : Nat} (hi : i < n) : b < w.heap.size ∧ w.cell? ⟨b, off + i, none⟩ = some (.int .i64 (f i)) := by
  rcases h with h | ⟨b', off', hs, hlt, hc⟩
  · omega
  · cases hs; exact ⟨hlt, hc i hi⟩
/-- a slice of slices of ints that came in -/
def IsRows (w : World) (s : Option Addr) (len : Nat) (A : Nat → Option Addr) (L C : Nat → Nat) (Z : Nat → Nat → Int) : Prop :=
  len = 0 ∨ ∃ b off, s = some ⟨b, off, none⟩ ∧ b < w.heap.size ∧ ∀ i, i < len → w.cell? ⟨b, off + i, none⟩ = some (.slice (A i) (L i) (C i)) ∧ IsInts w (A i) (L i) (Z i)
theorem IsRows.at {w w1 : World} {s : Option Addr} {len : Nat} {A : Nat → Option Addr} {L C : Nat → Nat} {Z : Nat → Nat → Int} (h : IsRows w s len A L C Z) (hb : Below w.heap.size w w1) {i : Nat} (hi : i < len) :
    ∃ b off, s = some ⟨b, off, none⟩ ∧ w1.cell? ⟨b, off + i, none⟩ = some (.slice (A i) (L i) (C i)) ∧ IsInts w1 (A i) (L i) (Z i) := by
  rcases h with h | ⟨b, off, hs, hlt, hc⟩
  · omega
  · obtain ⟨h1, h2⟩ := hc i hi
    exact ⟨b, off, hs, (hb.cell hlt).trans h1, h2.later hb⟩
set_option maxRecDepth 100000 in
set_option maxHeartbeats 8000000 in
theorem lawlines_any (sr sk : Option Addr) (nr cr nk ck : Nat) (A : Nat → Option Addr) (L C : Nat → Nat) (Z : Nat → Nat → Int) (K : Nat → Int) (w : World) (hnr : nr < 1073741824) (hnk : nk < 1073741824) (hL : ∀ i, i < nr → L i < 1073741824) (hr : IsRows w sr nr A L C Z) (hk : IsInts w sk nk K) :
    Calls Try.prog 5 #[.slice sr nr cr, .slice sk nk ck] w fun e w' => e = .returned (.bool true) ∧ Below w.heap.size w w' := by
  have HR := Lib.hid hr
  have HK := Lib.hid hk
  clear hr hk
  go_enter Try.func5, Try.ntmps5
  go_wp2_with fail
  go_loopg [5, 6] nr (fun g nv iv wr => ∃ i : Nat, i + g = nr ∧ i ≤ nk ∧ sizeL L i < 2147483648 ∧ nv = .int .i64 (sizeL L i : Nat) ∧ iv = .int .i64 i ∧ w = wr)
  case atStart => exact ⟨0, by omega, by omega, by show 0 < 2147483648; omega, rfl, rfl, rfl⟩
  case round =>
    obtain ⟨i, hg, hik, hsz, rfl, rfl, rfl⟩ := hrel
    by_cases hn : sizeL L i ≤ 16384
    · have hn' : (sizeL L i : Int) ≤ 16384 := by omega
      by_cases h12 : i < nr ∧ i < nk
      · obtain ⟨h1, h2⟩ := h12
        obtain ⟨b, off, rfl, c0, hz⟩ := HR.out.at (Below.refl _ _) h1
        have hLi := hL i h1
        have hs1 : sizeL L (i + 1) = sizeL L i + L i + 2 := rfl
        have HS := Lib.hid hs1
        clear hs1
        generalize sizeL L i = sz at *
        generalize A i = ai at *
        generalize L i = li at *
        generalize C i = ci at *
        go_wp2
        go_roundg (gk - 1)
        case measure => omega
        case rel => exact ⟨i + 1, by omega, by omega, by have := HS.out; omega, by have := HS.out; rw [this]; go_num, by go_num, rfl⟩
      · have hex : (nr ≤ i ∧ ¬ ((i : Int) < (nr : Int))) ∨ ((i : Int) < (nr : Int) ∧ ¬ ((i : Int) < (nk : Int))) := by omega
        have hle : i ≤ nr := by omega
        generalize hszz : sizeL L i = sz at *
        have HSZ := Lib.hid hszz
        clear hszz
        rcases hex with ⟨_, hex⟩ | ⟨hex1, hex⟩
        all_goals
          have hcnt : ∀ j : Nat, j < i → j < nr ∧ j < nk := fun j hj => by omega
          have hexit : nr ≤ i ∨ (i < nr ∧ nk ≤ i) := by omega
          go_wp2_with (first | (at_builtin; refine wpList_push2 _ rfl _ _ rfl w.heap.size none 0 0 [] rfl rfl (OwnInts.nil _ _) (by omega) (Nat.le_refl _) w.heap.size (.slice none 0 0) [] (OwnInts.nil _ _) (fun b h => by simp [Value.ownBlock] at h) ?_; intro s' c' w2 ho _ _ hb; have HQ := Lib.hid ho; have HB := Lib.hid hb; clear ho hb))
          go_loopg [7, 8, 9] i (fun g wv qv jv wz => ∃ j : Nat, ∃ sw : Option Addr, ∃ m cw : Nat, ∃ sq : Option Addr, ∃ q cq : Nat, j + g = i ∧ wv = .slice sw m cw ∧ qv = .slice sq q cq ∧ jv = .int .i64 j ∧
            OwnInts wz w.heap.size (.slice sw m cw) (textL L Z K j) ∧ OwnInts wz w.heap.size (.slice sq q cq) (bl (textL L Z K j)) ∧ Below w.heap.size w wz)
          case atStart => exact ⟨0, none, 0, 0, s', 1, c', by omega, rfl, rfl, rfl, OwnInts.nil _ _, OwnInts.as HQ.out (show [] ++ [(0 : Int)] = bl [] by rw [bl_nil]; rfl), HB.out⟩
          case round =>
            clear HQ HB
            obtain ⟨j, sw, m, cw, sq, q, cq, hg2, rfl, rfl, rfl, hw, ho, hb⟩ := hrel
            have hm := hw.len
            have hq := ho.len
            have HW := Lib.hid hw
            have HQ := Lib.hid ho
            have HB := Lib.hid hb
            clear hw ho hb
            have t1 := textL_len L Z K j
            have t2 := sizeL_mono L j i (by omega)
            have t3 := bl_len (textL L Z K j)
            have hszi := HSZ.out
            by_cases hlt : j < i
            · obtain ⟨h1, h2⟩ := hcnt j hlt
              have h1' : (j : Int) < (nr : Int) := by omega
              have h2' : (j : Int) < (nk : Int) := by omega
              obtain ⟨b, off, rfl, c0, hz⟩ := HR.out.at HB.out h1
              have t4 : sizeL L (j + 1) ≤ sizeL L i := sizeL_mono L (j + 1) i (by omega)
              have t5 : sizeL L (j + 1) = sizeL L j + L j + 2 := rfl
              have hLj : L j ≤ 16384 := by omega
              have hmj : m ≤ 16384 := by omega
              have hqj : q ≤ 16385 := by omega
              have hline := bl_line L Z K j
              have htext : textL L Z K (j + 1) = textL L Z K j ++ rowL L Z j ++ termL (K j) := rfl
              obtain ⟨T2, hT2⟩ : ∃ T2, textL L Z K (j + 1) = T2 := ⟨_, rfl⟩
              rw [hT2] at hline htext
              have HLine := Lib.hid hline
              have HText := Lib.hid htext
              have HT2E := Lib.hid hT2
              clear hline htext hT2
              have hrl : rowL L Z j = lst (fun x => fixI (Z j x)) (L j) := rfl
              have HRL := Lib.hid hrl
              have HM := Lib.hid hm
              have HQL := Lib.hid hq
              clear hrl hm hq t1 t2 t3 t4 t5 hszi
              generalize textL L Z K j = T at *
              generalize rowL L Z j = R at *
              generalize A j = aj at *
              generalize L j = lj at *
              generalize C j = cj at *
              generalize hZj : Z j = zj at *
              clear hZj
              go_wp2_with fail
              refine (copied_c aj lj cj zj _ (by omega) hz).mono ?_
              rintro e w3 ⟨s1, c1, rfl, _, _, ho, hb⟩
              have hrow : lj = 0 ∨ ∃ g, s1 = some ⟨g, 0, none⟩ ∧ wr.heap.size ≤ g ∧ IRow w3 g lj zj := ho.row
              obtain ⟨wb, hwb0⟩ : ∃ wb, wr.heap.size = wb := ⟨_, rfl⟩
              rw [hwb0] at hrow
              have hwb : w.heap.size ≤ wb := by rw [← hwb0]; exact HB.out.size
              have HWB := Lib.hid (fun b (he : (Value.slice sw m cw).ownBlock = some b) => (show b < wb by rw [← hwb0]; exact (HW.out.lt b he).2))
              have HQB := Lib.hid (fun b (he : (Value.slice sq q cq).ownBlock = some b) => (show b < wb by rw [← hwb0]; exact (HQ.out.lt b he).2))
              clear hwb0
              replace HW := Lib.hid (HW.out.later hb)
              replace HQ := Lib.hid (HQ.out.later hb)
              replace HB := Lib.hid (bt HB.out hb)
              clear ho hb c0 hz
              go_wp2_with fail
              go_loopg [11] lj (fun g kv wz => ∃ k : Nat, ∃ Y : Nat → Int, k + g = lj ∧ kv = .int .i64 k ∧ (lj = 0 ∨ ∃ g, s1 = some ⟨g, 0, none⟩ ∧ wb ≤ g ∧ IRow wz g lj Y) ∧ (∀ x, x < k → Y x = fixI (zj x)) ∧ (∀ x, k ≤ x → Y x = zj x) ∧
                OwnInts wz w.heap.size (.slice sw m cw) T ∧ OwnInts wz w.heap.size (.slice sq q cq) (bl T) ∧ Below w.heap.size w wz)
              case atStart => exact ⟨0, zj, by omega, rfl, hrow, fun x hx => by omega, fun _ _ => rfl, HW.out, HQ.out, HB.out⟩
              case round =>
                clear HW HQ HB hrow
                obtain ⟨k, Y, hg3, rfl, hrow, hY1, hY2, hw, ho, hb⟩ := hrel
                have HW := Lib.hid hw
                have HQ := Lib.hid ho
                have HB := Lib.hid hb
                have HY1 := Lib.hid hY1
                have HY2 := Lib.hid hY2
                clear hw ho hb hY1 hY2
                by_cases hlk : k < lj
                · rcases hrow with h0 | ⟨g, rfl, hgb, hrowY⟩
                  · exfalso; omega
                  · have d1 := hrowY.cell hlk
                    have d2 := hrowY.free k
                    have HROW := Lib.hid hrowY
                    have hfx := HY2.out k (Nat.le_refl _)
                    clear hrowY
                    by_cases hfix : Y k = 10 ∨ Y k = 13
                    · have hf32 : fixI (zj k) = 32 := by rw [← hfx]; unfold fixI; rw [if_pos hfix]
                      have HF := Lib.hid hf32
                      clear hf32 hfx
                      have hkeep : ∀ (v : Value) (l : List Int), OwnInts wr w.heap.size v l → (∀ b, v.ownBlock = some b → b < wb) → OwnInts (wr.setCell ⟨g, k, none⟩ (.int .i64 32)) w.heap.size v l := fun v l h hlt => h.kept fun b _ he => Below.heap_setCell wr ⟨g, k, none⟩ _ b (by show b ≠ g; have := hlt b he; omega)
                      have hw2 := hkeep _ _ HW.out HWB.out
                      have hq2 := hkeep _ _ HQ.out HQB.out
                      have HW2 := Lib.hid hw2
                      have HQ2 := Lib.hid hq2
                      clear hkeep hw2 hq2
                      rcases hfix with hx | hx
                      all_goals
                        rw [hx] at d1
                        go_wp2
                        go_roundg (gk - 1)
                        case measure => omega
                        case rel =>
                          refine ⟨k + 1, fun x => if x = k then 32 else Y x, by omega, by go_num, .inr ⟨g, rfl, hgb, HROW.out.set k 32 (fun _ _ => rfl)⟩, fun x hx => ?_, fun x hx => ?_, HW2.out, HQ2.out, HB.out.setCell (p := ⟨g, k, none⟩) (Nat.le_trans hwb hgb) _⟩
                          · show (if x = k then 32 else Y x) = _
                            by_cases hxk : x = k
                            · rw [if_pos hxk, hxk, HF.out]
                            · rw [if_neg hxk]; exact HY1.out x (by omega)
                          · show (if x = k then 32 else Y x) = _
                            rw [if_neg (by omega)]; exact HY2.out x (by omega)
                    · have hf2 : fixI (zj k) = Y k := by rw [← hfx]; unfold fixI; rw [if_neg hfix]
                      have HF := Lib.hid hf2
                      have z1 : (Y k == 10) = false := by simp; omega
                      have z2 : (Y k == 13) = false := by simp; omega
                      clear hf2 hfx
                      generalize hyk : Y k = y at *
                      have HYK := Lib.hid hyk
                      clear hyk
                      go_wp2
                      go_roundg (gk - 1)
                      case measure => omega
                      case rel =>
                        refine ⟨k + 1, Y, by omega, by go_num, .inr ⟨g, rfl, hgb, HROW.out⟩, fun x hx => ?_, fun x hx => HY2.out x (by omega), HW.out, HQ.out, HB.out⟩
                        by_cases hxk : x = k
                        · rw [hxk, HYK.out, HF.out]
                        · exact HY1.out x (by omega)
                · obtain rfl : lj = k := by omega
                  have hri : IsInts wr s1 lj (fun x => fixI (zj x)) := by
                    rcases hrow with h0 | ⟨g, rfl, hgb, hrowY⟩
                    · exact .inl h0
                    · exact (hrowY.ints (Nat.le_refl _)).same HY1.out
                  have HRI := Lib.hid hri
                  clear hri hrow HY1 HY2
                  have hGG : ∀ f, f = (fun x => fixI (zj x)) → f = (fun x => fixI (zj x)) := fun _ h => h
                  obtain ⟨G, hG⟩ : ∃ G, (fun x => fixI (zj x)) = G := ⟨_, rfl⟩
                  have hri := HRI.out
                  have hrl := HRL.out
                  rw [hG] at hri hrl
                  replace HRI := Lib.hid hri
                  replace HRL := Lib.hid hrl
                  clear hri hrl hG hGG HWB HQB
                  go_wp2_with fail
                  refine (copied_c s1 lj c1 G _ (by omega) HRI.out).mono ?_
                  rintro e w4 ⟨s2, c2, rfl, hi, _, _, hb⟩
                  have HI2 := Lib.hid hi
                  replace HRI := Lib.hid (HRI.out.later hb)
                  replace HW := Lib.hid (HW.out.later hb)
                  replace HQ := Lib.hid (HQ.out.later hb)
                  replace HB := Lib.hid (bt HB.out hb)
                  clear hi hb
                  go_wp2_with fail
                  refine (breaks_c s2 lj c2 G _ (by omega) HI2.out).mono ?_
                  rintro e w5 ⟨s3, c3, rfl, hi, _, hb⟩
                  have HX := Lib.hid hi
                  replace HRI := Lib.hid (HRI.out.later hb)
                  replace HW := Lib.hid (HW.out.later hb)
                  replace HQ := Lib.hid (HQ.out.later hb)
                  replace HB := Lib.hid (bt HB.out hb)
                  clear hi hb HI2
                  have hbn := bn_bd G lj
                  go_wp2_with fail
                  refine (ends_c s3 c3 lj G _ (by omega) HX.out).mono ?_
                  rintro e w6 ⟨rfl, hb⟩
                  replace HX := Lib.hid (HX.out.later hb)
                  replace HRI := Lib.hid (HRI.out.later hb)
                  replace HW := Lib.hid (HW.out.later hb)
                  replace HQ := Lib.hid (HQ.out.later hb)
                  replace HB := Lib.hid (bt HB.out hb)
                  clear hb
                  have hD : ∀ l, l = shiftL (bf G lj) (bn G lj) m → l = ((bl R).drop 1).map (· + (T.length : Int)) := by
                    rintro l rfl
                    unfold shiftL
                    rw [bl_lst, ← HRL.out, HM.out]
                  have HD := Lib.hid hD
                  clear hD
                  have step : ∃ (sQ : Option Addr) (qQ cQ : Nat), True := ⟨sq, q, cq, trivial⟩
                  clear step
                  by_cases hl0 : lj = 0
                  · have hl1 : ¬ ((0 : Int) < (lj : Int)) := by omega
                    have HQ2 := Lib.hid (OwnInts.as HQ.out (show bl T = bl T ++ ((bl R).drop 1).map (· + (T.length : Int)) by rw [HRL.out, hl0]; show bl T = bl T ++ ((bl []).drop 1).map _; rw [bl_nil]; simp))
                    have hqs : q ≤ 100000 := by omega
                    clear HQ HX hl0
                    go_wp2_with fail
                    refine (joined_c sw s1 m cw lj c1 (gl T) G _ (by omega) HW.out.is HRI.out).mono ?_
                    rintro e w8 ⟨s6, c6, rfl, _, _, ho, hb⟩
                    have HAP := Lib.hid (fun b (h1 : (Value.slice s6 (m + lj) c6).ownBlock = some b) h2 => absurd (HQ2.out.lt b h2).2 (Nat.not_lt.2 (ho.lt b h1).1) : Apart (.slice s6 (m + lj) c6) _)
                    replace HW := Lib.hid ((OwnInts.as ho (show _ = T ++ R by rw [lst_cat, lst_gl' HM.out.symm, ← HRL.out])).mono HB.out.size)
                    replace HQ2 := Lib.hid (HQ2.out.later hb)
                    replace HB := Lib.hid (bt HB.out hb)
                    clear ho hb HRI
                    obtain ⟨kb, ko, rfl, k0⟩ := HK.out.at HB.out h2
                    have HPL := Lib.hid (HK.out.place h2)
                    have HKL := Lib.hid (bl_term (K j))
                    generalize K j = kk at *
                    have hmm : m + lj ≤ 40000 := by omega
                    have q1 : (j : Int) < (nr : Int) := by omega
                    by_cases hk1 : kk = 1
                    · subst hk1
                      have hF : bl T ++ ((bl R).drop 1).map (· + (T.length : Int)) ++ [((m + lj + 1 : Nat) : Int)] = bl T2 := by
                        rw [HLine.out, HKL.out, if_pos rfl, List.append_assoc]
                        congr 2
                        show [((m + lj + 1 : Nat) : Int)] = [1 + ((T.length : Int) + (lj : Int))]
                        congr 1
                        have := HM.out
                        omega
                      have HF := Lib.hid hF
                      have HT2 := Lib.hid (show T ++ R ++ [10] = T2 by rw [HText.out]; rfl)
                      clear hF
                      go_wp2_with (first | (at_builtin; refine wpList_push2 _ rfl _ _ rfl w.heap.size _ _ _ _ rfl rfl HW.out (by omega) HB.out.size w.heap.size _ _ HQ2.out HAP.out ?_; intro s' c' w9 ho hoB hap hb; replace HW := Lib.hid ho; replace HQ2 := Lib.hid hoB; replace HAP := Lib.hid hap; replace HB := Lib.hid (HB.out.trans hb); replace k0 := (HB.out.cell (p := ⟨kb, ko + j, none⟩) HPL.out.1).trans HPL.out.2; clear ho hoB hap hb) | (at_builtin; refine wpList_push2 _ rfl _ _ rfl w.heap.size _ _ _ _ rfl rfl HQ2.out (by omega) HB.out.size w.heap.size _ _ HW.out HAP.out.symm ?_; intro s' c' w9 ho hoB hap hb; replace HQ2 := Lib.hid ho; replace HW := Lib.hid hoB; replace HAP := Lib.hid hap.symm; replace HB := Lib.hid (HB.out.trans hb); replace k0 := (HB.out.cell (p := ⟨kb, ko + j, none⟩) HPL.out.1).trans HPL.out.2; clear ho hoB hap hb))
                      go_roundg (i - (j + 1))
                      case measure => omega
                      case rel => exact ⟨j + 1, _, _, _, _, _, _, by omega, rfl, rfl, by go_num, OwnInts.as HW.out (HT2.out.trans HT2E.out.symm), OwnInts.as HQ2.out (by rw [HT2E.out, ← HF.out]; simp), HB.out⟩
                    · by_cases hk2 : kk = 2
                      · subst hk2
                        have hF : bl T ++ ((bl R).drop 1).map (· + (T.length : Int)) ++ [((m + lj + 1 + 1 : Nat) : Int)] = bl T2 := by
                          rw [HLine.out, HKL.out, if_neg hk1, if_pos rfl, List.append_assoc]
                          congr 2
                          show [((m + lj + 1 + 1 : Nat) : Int)] = [2 + ((T.length : Int) + (lj : Int))]
                          congr 1
                          have := HM.out
                          omega
                        have HF := Lib.hid hF
                        have HT2 := Lib.hid (show T ++ R ++ [13] ++ [10] = T2 by rw [HText.out, List.append_assoc]; rfl)
                        clear hF
                        go_wp2_with (first | (at_builtin; refine wpList_push2 _ rfl _ _ rfl w.heap.size _ _ _ _ rfl rfl HW.out (by omega) HB.out.size w.heap.size _ _ HQ2.out HAP.out ?_; intro s' c' w9 ho hoB hap hb; replace HW := Lib.hid ho; replace HQ2 := Lib.hid hoB; replace HAP := Lib.hid hap; replace HB := Lib.hid (HB.out.trans hb); replace k0 := (HB.out.cell (p := ⟨kb, ko + j, none⟩) HPL.out.1).trans HPL.out.2; clear ho hoB hap hb) | (at_builtin; refine wpList_push2 _ rfl _ _ rfl w.heap.size _ _ _ _ rfl rfl HQ2.out (by omega) HB.out.size w.heap.size _ _ HW.out HAP.out.symm ?_; intro s' c' w9 ho hoB hap hb; replace HQ2 := Lib.hid ho; replace HW := Lib.hid hoB; replace HAP := Lib.hid hap.symm; replace HB := Lib.hid (HB.out.trans hb); replace k0 := (HB.out.cell (p := ⟨kb, ko + j, none⟩) HPL.out.1).trans HPL.out.2; clear ho hoB hap hb))
                        go_roundg (i - (j + 1))
                        case measure => omega
                        case rel => exact ⟨j + 1, _, _, _, _, _, _, by omega, rfl, rfl, by go_num, OwnInts.as HW.out (HT2.out.trans HT2E.out.symm), OwnInts.as HQ2.out (by rw [HT2E.out, ← HF.out]; simp), HB.out⟩
                      · have z1 : (kk == 1) = false := by simpa using hk1
                        have z2 : (kk == 2) = false := by simpa using hk2
                        have z3 : (kk != 1) = true := by simpa using hk1
                        have z4 : (kk != 2) = true := by simpa using hk2
                        have hF : bl T ++ ((bl R).drop 1).map (· + (T.length : Int)) ++ [((m + lj + 1 : Nat) : Int)] ++ [((m + lj + 1 + 1 : Nat) : Int)] = bl T2 := by
                          rw [HLine.out, HKL.out, if_neg hk1, if_neg hk2, List.append_assoc, List.append_assoc]
                          congr 2
                          show [((m + lj + 1 : Nat) : Int), ((m + lj + 1 + 1 : Nat) : Int)] = [1 + ((T.length : Int) + (lj : Int)), 2 + ((T.length : Int) + (lj : Int))]
                          have := HM.out
                          congr 1
                          · omega
                          · congr 1; omega
                        have HF := Lib.hid hF
                        have HT2 := Lib.hid (show T ++ R ++ [13] ++ [133] = T2 by rw [HText.out, List.append_assoc]; unfold termL; rw [if_neg hk1, if_neg hk2]; rfl)
                        have q2 : IntKind.i64.wrap ((m + lj + 1 + 1 : Nat) - 1 : Int) = ((m + lj + 1 : Nat) : Int) := by rw [IntKind.wrap_i64]; omega
                        clear hF
                        go_wp2_with (first | (at_builtin; refine wpList_push2 _ rfl _ _ rfl w.heap.size _ _ _ _ rfl rfl HW.out (by omega) HB.out.size w.heap.size _ _ HQ2.out HAP.out ?_; intro s' c' w9 ho hoB hap hb; replace HW := Lib.hid ho; replace HQ2 := Lib.hid hoB; replace HAP := Lib.hid hap; replace HB := Lib.hid (HB.out.trans hb); replace k0 := (HB.out.cell (p := ⟨kb, ko + j, none⟩) HPL.out.1).trans HPL.out.2; clear ho hoB hap hb) | (at_builtin; refine wpList_push2 _ rfl _ _ rfl w.heap.size _ _ _ _ rfl rfl HQ2.out (by omega) HB.out.size w.heap.size _ _ HW.out HAP.out.symm ?_; intro s' c' w9 ho hoB hap hb; replace HQ2 := Lib.hid ho; replace HW := Lib.hid hoB; replace HAP := Lib.hid hap.symm; replace HB := Lib.hid (HB.out.trans hb); replace k0 := (HB.out.cell (p := ⟨kb, ko + j, none⟩) HPL.out.1).trans HPL.out.2; clear ho hoB hap hb))
                        go_roundg (i - (j + 1))
                        case measure => omega
                        case rel => exact ⟨j + 1, _, _, _, _, _, _, by omega, rfl, rfl, by go_num, OwnInts.as HW.out (HT2.out.trans HT2E.out.symm), OwnInts.as HQ2.out (by rw [HT2E.out, ← HF.out]; simp), HB.out⟩
                  · have hl1 : (0 : Int) < (lj : Int) := by omega
                    clear hl0
                    go_wp2_with fail
                    refine (shifted_c s3 (bn G lj) c3 (bf G lj) m _ (by omega) HX.out (by omega) (fun i hi => by have := bf_bd G lj i hi; omega)).mono ?_
                    rintro e w7 ⟨s4, c4, msh, hms, rfl, hi, hb⟩
                    have HSH := Lib.hid hi
                    have hmsb : msh ≤ lj + 1 := by have := shiftL_len (bf G lj) (bn G lj) m; omega
                    have HMS := Lib.hid hms
                    replace HRI := Lib.hid (HRI.out.later hb)
                    replace HW := Lib.hid (HW.out.later hb)
                    replace HQ := Lib.hid (HQ.out.later hb)
                    replace HB := Lib.hid (bt HB.out hb)
                    clear hi hb HX hms
                    go_wp2_with fail
                    refine (joined_c sq s4 q cq msh c4 (gl (bl T)) (gl (shiftL (bf G lj) (bn G lj) m)) _ (by omega) HQ.out.is HSH.out).mono ?_
                    rintro e w8 ⟨s5, c5, rfl, _, _, ho, hb⟩
                    have HQ2 := Lib.hid ((OwnInts.as ho (show _ = bl T ++ ((bl R).drop 1).map (· + (T.length : Int)) by rw [lst_cat, lst_gl' HQL.out.symm, lst_gl' HMS.out.symm, HD.out _ rfl])).mono HB.out.size)
                    replace HRI := Lib.hid (HRI.out.later hb)
                    replace HW := Lib.hid (HW.out.later hb)
                    replace HB := Lib.hid (bt HB.out hb)
                    have hqs : q + msh ≤ 100000 := by omega
                    clear ho hb HSH HQ
                    go_wp2_with fail
                    refine (joined_c sw s1 m cw lj c1 (gl T) G _ (by omega) HW.out.is HRI.out).mono ?_
                    rintro e w8 ⟨s6, c6, rfl, _, _, ho, hb⟩
                    have HAP := Lib.hid (fun b (h1 : (Value.slice s6 (m + lj) c6).ownBlock = some b) h2 => absurd (HQ2.out.lt b h2).2 (Nat.not_lt.2 (ho.lt b h1).1) : Apart (.slice s6 (m + lj) c6) _)
                    replace HW := Lib.hid ((OwnInts.as ho (show _ = T ++ R by rw [lst_cat, lst_gl' HM.out.symm, ← HRL.out])).mono HB.out.size)
                    replace HQ2 := Lib.hid (HQ2.out.later hb)
                    replace HB := Lib.hid (bt HB.out hb)
                    clear ho hb HRI
                    obtain ⟨kb, ko, rfl, k0⟩ := HK.out.at HB.out h2
                    have HPL := Lib.hid (HK.out.place h2)
                    have HKL := Lib.hid (bl_term (K j))
                    generalize K j = kk at *
                    have hmm : m + lj ≤ 40000 := by omega
                    have q1 : (j : Int) < (nr : Int) := by omega
                    by_cases hk1 : kk = 1
                    · subst hk1
                      have hF : bl T ++ ((bl R).drop 1).map (· + (T.length : Int)) ++ [((m + lj + 1 : Nat) : Int)] = bl T2 := by
                        rw [HLine.out, HKL.out, if_pos rfl, List.append_assoc]
                        congr 2
                        show [((m + lj + 1 : Nat) : Int)] = [1 + ((T.length : Int) + (lj : Int))]
                        congr 1
                        have := HM.out
                        omega
                      have HF := Lib.hid hF
                      have HT2 := Lib.hid (show T ++ R ++ [10] = T2 by rw [HText.out]; rfl)
                      clear hF
                      go_wp2_with (first | (at_builtin; refine wpList_push2 _ rfl _ _ rfl w.heap.size _ _ _ _ rfl rfl HW.out (by omega) HB.out.size w.heap.size _ _ HQ2.out HAP.out ?_; intro s' c' w9 ho hoB hap hb; replace HW := Lib.hid ho; replace HQ2 := Lib.hid hoB; replace HAP := Lib.hid hap; replace HB := Lib.hid (HB.out.trans hb); replace k0 := (HB.out.cell (p := ⟨kb, ko + j, none⟩) HPL.out.1).trans HPL.out.2; clear ho hoB hap hb) | (at_builtin; refine wpList_push2 _ rfl _ _ rfl w.heap.size _ _ _ _ rfl rfl HQ2.out (by omega) HB.out.size w.heap.size _ _ HW.out HAP.out.symm ?_; intro s' c' w9 ho hoB hap hb; replace HQ2 := Lib.hid ho; replace HW := Lib.hid hoB; replace HAP := Lib.hid hap.symm; replace HB := Lib.hid (HB.out.trans hb); replace k0 := (HB.out.cell (p := ⟨kb, ko + j, none⟩) HPL.out.1).trans HPL.out.2; clear ho hoB hap hb))
                      go_roundg (i - (j + 1))
                      case measure => omega
                      case rel => exact ⟨j + 1, _, _, _, _, _, _, by omega, rfl, rfl, by go_num, OwnInts.as HW.out (HT2.out.trans HT2E.out.symm), OwnInts.as HQ2.out (by rw [HT2E.out, ← HF.out]; simp), HB.out⟩
                    · by_cases hk2 : kk = 2
                      · subst hk2
                        have hF : bl T ++ ((bl R).drop 1).map (· + (T.length : Int)) ++ [((m + lj + 1 + 1 : Nat) : Int)] = bl T2 := by
                          rw [HLine.out, HKL.out, if_neg hk1, if_pos rfl, List.append_assoc]
                          congr 2
                          show [((m + lj + 1 + 1 : Nat) : Int)] = [2 + ((T.length : Int) + (lj : Int))]
                          congr 1
                          have := HM.out
                          omega
                        have HF := Lib.hid hF
                        have HT2 := Lib.hid (show T ++ R ++ [13] ++ [10] = T2 by rw [HText.out, List.append_assoc]; rfl)
                        clear hF
                        go_wp2_with (first | (at_builtin; refine wpList_push2 _ rfl _ _ rfl w.heap.size _ _ _ _ rfl rfl HW.out (by omega) HB.out.size w.heap.size _ _ HQ2.out HAP.out ?_; intro s' c' w9 ho hoB hap hb; replace HW := Lib.hid ho; replace HQ2 := Lib.hid hoB; replace HAP := Lib.hid hap; replace HB := Lib.hid (HB.out.trans hb); replace k0 := (HB.out.cell (p := ⟨kb, ko + j, none⟩) HPL.out.1).trans HPL.out.2; clear ho hoB hap hb) | (at_builtin; refine wpList_push2 _ rfl _ _ rfl w.heap.size _ _ _ _ rfl rfl HQ2.out (by omega) HB.out.size w.heap.size _ _ HW.out HAP.out.symm ?_; intro s' c' w9 ho hoB hap hb; replace HQ2 := Lib.hid ho; replace HW := Lib.hid hoB; replace HAP := Lib.hid hap.symm; replace HB := Lib.hid (HB.out.trans hb); replace k0 := (HB.out.cell (p := ⟨kb, ko + j, none⟩) HPL.out.1).trans HPL.out.2; clear ho hoB hap hb))
                        go_roundg (i - (j + 1))
                        case measure => omega
                        case rel => exact ⟨j + 1, _, _, _, _, _, _, by omega, rfl, rfl, by go_num, OwnInts.as HW.out (HT2.out.trans HT2E.out.symm), OwnInts.as HQ2.out (by rw [HT2E.out, ← HF.out]; simp), HB.out⟩
                      · have z1 : (kk == 1) = false := by simpa using hk1
                        have z2 : (kk == 2) = false := by simpa using hk2
                        have z3 : (kk != 1) = true := by simpa using hk1
                        have z4 : (kk != 2) = true := by simpa using hk2
                        have hF : bl T ++ ((bl R).drop 1).map (· + (T.length : Int)) ++ [((m + lj + 1 : Nat) : Int)] ++ [((m + lj + 1 + 1 : Nat) : Int)] = bl T2 := by
                          rw [HLine.out, HKL.out, if_neg hk1, if_neg hk2, List.append_assoc, List.append_assoc]
                          congr 2
                          show [((m + lj + 1 : Nat) : Int), ((m + lj + 1 + 1 : Nat) : Int)] = [1 + ((T.length : Int) + (lj : Int)), 2 + ((T.length : Int) + (lj : Int))]
                          have := HM.out
                          congr 1
                          · omega
                          · congr 1; omega
                        have HF := Lib.hid hF
                        have HT2 := Lib.hid (show T ++ R ++ [13] ++ [133] = T2 by rw [HText.out, List.append_assoc]; unfold termL; rw [if_neg hk1, if_neg hk2]; rfl)
                        have q2 : IntKind.i64.wrap ((m + lj + 1 + 1 : Nat) - 1 : Int) = ((m + lj + 1 : Nat) : Int) := by rw [IntKind.wrap_i64]; omega
                        clear hF
                        go_wp2_with (first | (at_builtin; refine wpList_push2 _ rfl _ _ rfl w.heap.size _ _ _ _ rfl rfl HW.out (by omega) HB.out.size w.heap.size _ _ HQ2.out HAP.out ?_; intro s' c' w9 ho hoB hap hb; replace HW := Lib.hid ho; replace HQ2 := Lib.hid hoB; replace HAP := Lib.hid hap; replace HB := Lib.hid (HB.out.trans hb); replace k0 := (HB.out.cell (p := ⟨kb, ko + j, none⟩) HPL.out.1).trans HPL.out.2; clear ho hoB hap hb) | (at_builtin; refine wpList_push2 _ rfl _ _ rfl w.heap.size _ _ _ _ rfl rfl HQ2.out (by omega) HB.out.size w.heap.size _ _ HW.out HAP.out.symm ?_; intro s' c' w9 ho hoB hap hb; replace HQ2 := Lib.hid ho; replace HW := Lib.hid hoB; replace HAP := Lib.hid hap.symm; replace HB := Lib.hid (HB.out.trans hb); replace k0 := (HB.out.cell (p := ⟨kb, ko + j, none⟩) HPL.out.1).trans HPL.out.2; clear ho hoB hap hb))
                        go_roundg (i - (j + 1))
                        case measure => omega
                        case rel => exact ⟨j + 1, _, _, _, _, _, _, by omega, rfl, rfl, by go_num, OwnInts.as HW.out (HT2.out.trans HT2E.out.symm), OwnInts.as HQ2.out (by rw [HT2E.out, ← HF.out]; simp), HB.out⟩
            · obtain rfl : i = j := by omega
              have e1 : ¬ ((i : Int) < (nr : Int)) ∨ ((i : Int) < (nr : Int) ∧ ¬ ((i : Int) < (nk : Int))) := by omega
              generalize textL L Z K i = T at *
              have hmb : m ≤ 16384 := by omega
              have hqb : q ≤ 16385 := by omega
              clear t1 t2 t3 hszi hcnt
              have hsame : sameB (bf (gl T) m) (bn (gl T) m) (gl (bl T)) q = true := sameB_of (by rw [lst_bf, lst_gl' hq.symm, hm]; rfl)
              have HSA := Lib.hid hsame
              clear hsame hm hq
              have hbn := bn_bd (gl T) m
              go_wp2_with fail
              refine (copied_c sw m cw (gl T) _ (by omega) HW.out.is).mono ?_
              rintro e w3 ⟨s1, c1, rfl, hi, _, _, hb⟩
              have HI := Lib.hid hi
              have HQI := Lib.hid (HQ.out.is.later hb)
              replace HB := Lib.hid (bt HB.out hb)
              clear hi hb HW HQ
              go_wp2_with fail
              refine (breaks_c s1 m c1 (gl T) _ (by omega) HI.out).mono ?_
              rintro e w4 ⟨s2, c2, rfl, hi, _, hb⟩
              replace HI := Lib.hid hi
              replace HQI := Lib.hid (HQI.out.later hb)
              replace HB := Lib.hid (bt HB.out hb)
              clear hi hb
              go_wp2_with fail
              refine (same_any s2 sq (bn (gl T) m) c2 q cq _ _ _ (by unfold maxLen; omega) (by unfold maxLen; omega) HI.out HQI.out).mono ?_
              rintro e w5 ⟨rfl, hb⟩
              rw [HSA.out]
              replace HB := Lib.hid (bt HB.out hb)
              clear hb
              go_wp2
              go_ret
              exact ⟨rfl, HB.out⟩
    · have hn' : ¬ ((sizeL L i : Int) ≤ 16384) := by omega
      have hn2 : (16384 : Int) < (sizeL L i : Int) := by omega
      generalize sizeL L i = sz at *
      by_cases h1 : i < nr
      · by_cases h2 : i < nk
        · go_wp2
          go_ret
          exact ⟨rfl, Below.refl _ _⟩
        · have h2' : ¬ ((i : Int) < (nk : Int)) := by omega
          go_wp2
          go_ret
          exact ⟨rfl, Below.refl _ _⟩
      · have h1' : ¬ ((i : Int) < (nr : Int)) := by omega
        go_wp2
        go_ret
        exact ⟨rfl, Below.refl _ _⟩
end Go.Proofs.Ytpipcmbfdcbboaa
