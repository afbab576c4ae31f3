/- Contract: apart. Condition: fewer than 1000 slices, of fewer than 1000 ints. -/
import Derived.Test.YtampjndfhpjheaaHc
import Derived.Deep.RegionHeld3
import Derived.BigQuiet
namespace Go.Proofs.Ytampjndfhpjheaa
open Go.RowKit
set_option linter.unusedVariables false
set_option linter.unusedSimpArgs false
theorem wpList_copyM {w : World} {ops : Array Oper} {rest : List Oper} {o : Oper} {a : Act} {Q : Exit → Act → World → Prop} (hgd : o.guard = none) (s x : Operand)
    (ho : o.op = .call { callee := .builtin .append, args := #[s, x], argTypes := #[33, 33] })
    (hs : a.eval s = .slice none 0 0) (sa : Option Addr) (n c : Nat) (l : List Int) (hx : a.eval x = .slice sa n c) (hown : OwnInts w 0 (.slice sa n c) l) (hn : n < 1000000)
    (h : ∀ s' c' w', OwnInts w' 0 (.slice s' n c') l → (∀ b, (Value.slice s' n c').ownBlock = some b → w.heap.size ≤ b) → Below w.heap.size w w' → wpList Try.prog ops Q rest (a.put o.dst (.slice s' n c')) w') : wpList Try.prog ops Q (o :: rest) a w := by
  have hl : n = l.length := hown.len
  refine wpList_append_all hgd s x ho hs sa n c (gl l) hx hown.is (own_nil hown) (by omega) w.heap.size (Nat.le_refl _) ?_
  intro s' c' w' h1 h2 _ _ _
  have e : lst (gl l) n = l := by rw [hl]; exact lst_get l
  rw [e] at h1
  exact h s' c' w' (h1.mono (Nat.zero_le _)) (fun b hb => (World.ownsRow.lt h1 b hb).1) h2
/-- the grown slices' ints: slice i, then 100 times a mark of its own -/
def FL (ls : List (List Int)) (m k : Nat) : List (List Int) := (List.range k).map fun i => ls.getD i [] ++ List.replicate 100 ((1001 + m + i : Nat) : Int)
theorem FL_len (ls : List (List Int)) (m k : Nat) : (FL ls m k).length = k := by simp [FL]
theorem FL_at {ls : List (List Int)} {m k i : Nat} (h : i < (FL ls m k).length) (hi : i < ls.length) : (FL ls m k)[i] = ls[i] ++ List.replicate 100 ((1001 + m + i : Nat) : Int) := by
  simp [FL, List.getElem?_eq_getElem hi]
theorem FL_succ {ls : List (List Int)} {m k : Nat} (hk : k < ls.length) : FL ls m (k + 1) = FL ls m k ++ [ls[k] ++ List.replicate 100 ((1001 + m + k : Nat) : Int)] := by
  simp [FL, List.range_succ, List.getElem?_eq_getElem hk]
theorem gl_far {l : List Int} {n i : Nat} {x : Int} (h0 : l.length ≤ i) (h1 : i < l.length + n) : gl (l ++ List.replicate n x) i = x := by
  unfold gl
  rw [List.getD_eq_getElem?_getD, List.getElem?_append_right h0, List.getElem?_replicate, if_pos (by omega)]; rfl
set_option maxRecDepth 100000 in
set_option maxHeartbeats 16000000 in
theorem apart_c (w a : World) (x : Nat → Nat) (n0 n c3 c4 mk : Nat) (s3 s4 : Option Addr) (vs us : List Value) (ls : List (List Int)) (hm : MB w a x n0) (hw : w.heap.size ≤ n0) (h3 : RW a x n0 13 ⟨.slice s3 n c3, vs, ls⟩) (h4 : RW a x n0 14 ⟨.slice s4 n c4, us, ls⟩) (hl : Lone vs) (hlen : ∀ l ∈ ls, l.length < 1000) (hvn : vs.length = n) (hn : n < 2000) (hmk : mk < 1000000000) :
    Calls Try.prog 31 #[.slice s3 n c3, .slice s4 n c4, .int .i64 mk] a fun e b => e = .returned (.bool true) ∧ Below w.heap.size w b := by
  have H3 := Lib.hid h3
  have H4 := Lib.hid h4
  have HM := Lib.hid hm
  have HL := Lib.hid hl
  have HLE := Lib.hid hlen
  have HVN := Lib.hid hvn
  have HUN := Lib.hid (show us.length = n from by have h1 := h4.len; have h2 := h3.len; simp only at h1 h2; omega)
  clear h3 h4 hm hl hlen hvn
  go_enter Try.func31, Try.ntmps31
  go_wp2_with fail
  go_loopg [7] n (fun gg iv wr => ∃ k : Nat, k + gg = n ∧ iv = .int .i64 k ∧ Below a.heap.size a wr)
  case atStart => exact ⟨0, by omega, rfl, Below.refl _ _⟩
  case round =>
    obtain ⟨k, hk, rfl, hb⟩ := hrel
    have HB := Lib.hid hb
    clear hb
    by_cases hlt : k < n
    · have hkv : k < vs.length := by rw [HVN.out]; exact hlt
      have hku : k < us.length := by rw [HUN.out]; exact hlt
      have hkl : k < ls.length := by rw [← H3.out.len]; exact hkv
      obtain ⟨g3, e3, hl3, yy3⟩ := OwnL.cell H3.out.own hkv
      obtain ⟨g4, e4, hl4, yy4⟩ := OwnL.cell H4.out.own hku
      have y3 := (HB.out.cell (p := ⟨g3, k, none⟩) hl3).trans yy3
      have y4 := (HB.out.cell (p := ⟨g4, k, none⟩) hl4).trans yy4
      clear yy3 yy4
      have hc3 := (H3.out.each k hkv hkl).1
      have hc4 := (H4.out.each k hku hkl).1
      simp only at hc3 hc4 y3 y4
      have hln := HLE.out _ (List.getElem_mem hkl)
      obtain ⟨sa, ca, ea⟩ := hc3.form
      obtain ⟨sb, cb, eb⟩ := hc4.form
      rw [ea] at hc3 y3
      rw [eb] at hc4 y4
      generalize ls[k] = L at hc3 hc4 y3 y4 hln
      obtain ⟨m, hm⟩ : ∃ m, L.length = m := ⟨_, rfl⟩
      rw [hm] at hc3 hc4 y3 y4 hln
      have hsm := fun (W : World) (hW : Below wr.heap.size wr W) => same_any sa sb m ca m cb (gl L) (gl L) W (by unfold maxLen; omega) (by unfold maxLen; omega) ((OwnInts.is (hc3.later HB.out)).later hW) ((OwnInts.is (hc4.later HB.out)).later hW)
      simp only [sameB_refl] at hsm
      have HSM := Lib.hid hsm
      have q1 : (k : Int) < (n : Int) := by omega
      have q2 : (0 : Int) ≤ (k : Int) := by omega
      subst e3 e4
      clear hsm hc3 hc4 ea eb hm
      go_wp2_with fail
      go_region_held3 (fun w' => w'.cell? ⟨g3, k, none⟩ = some (.slice sa m ca) ∧ w'.cell? ⟨g4, k, none⟩ = some (.slice sb m cb))
        (first | with_reducible exact hSR.out | exact ⟨y3, y4⟩ | go_keep)
        (first | (go_at_call 20; refine (HSM.out wr.drew (Below.refl _ _).drew).mono ?_; rintro e w6 ⟨rfl, hb6⟩; have HB6 := Lib.hid ((Below.refl wr.heap.size wr).drew.trans hb6); have hSR := Lib.hid (show w6.cell? ⟨g3, k, none⟩ = some (.slice sa m ca) ∧ w6.cell? ⟨g4, k, none⟩ = some (.slice sb m cb) from ⟨(HB6.out.cell (p := ⟨g3, k, none⟩) (Nat.lt_of_lt_of_le hl3 HB.out.size)).trans y3, (HB6.out.cell (p := ⟨g4, k, none⟩) (Nat.lt_of_lt_of_le hl4 HB.out.size)).trans y4⟩); clear hb6))
      rename_i hheld
      clear hheld hSR y3 y4
      go_wp2
      go_roundg (gk - 1)
      case measure => omega
      case rel => exact ⟨k + 1, by omega, by go_num, HB.out.trans (HB6.out.mono HB.out.size)⟩
    · have hkn : ¬ (k : Int) < (n : Int) := by omega
      have HM1 := Lib.hid (HM.out.sp (Sp.of HM.out HB.out 20) (by decide))
      have HR1 := Lib.hid (H3.out.sp (Sp.of HM.out HB.out 20) (by decide) (by decide))
      have HAP := Lib.hid (AP.start HM1.out hw HR1.out HL.out)
      simp only at HAP
      have hll := HR1.out.len
      simp only at hll
      have HLL := Lib.hid hll
      clear HM1 HR1 HM H3 H4 HL HB HUN hll
      generalize reQ x vs = x1 at HAP
      obtain ⟨wa, hwa⟩ : ∃ wa, wa = wr := ⟨_, rfl⟩
      subst hwa
      go_wp2_with fail
      go_loopg [2, 8, 10] n (fun gg mv hv iv wr => ∃ (k mk2 sh_ : Nat) (x2 : Nat → Nat) (l2 : List (List Int)) (sh : Option Addr) (ch : Nat) (hvs : List Value), k + gg = n ∧ mv = .int .i64 mk2 ∧ mk2 ≤ mk + k * 1000 ∧ hv = .slice sh k ch ∧ iv = .int .i64 k ∧ hvs.length = k ∧ l2.length = n ∧ (∀ l ∈ l2, l.length < 1000) ∧ AP w wr x2 n0 (.slice s3 n c3) vs l2 (.slice sh k ch) hvs (l2.take k) (.slice none 0 0) [] [])
      case atStart => exact ⟨0, mk, 0, x1, ls, none, 0, [], by omega, rfl, by omega, rfl, rfl, rfl, by rw [← HLL.out, HVN.out], HLE.out, HAP.out⟩
      case round =>
        obtain ⟨k, mk2, _, x2, l2, sh, ch, hvs, hk, rfl, hmk2, rfl, rfl, hhv, hl2, hle2, hap⟩ := hrel
        have HAP2 := Lib.hid hap
        have HL2 := Lib.hid hl2
        have HLE2 := Lib.hid hle2
        have HHV := Lib.hid hhv
        clear hap hl2 hle2 hhv
        by_cases hlt : k < n
        · have hkv : k < vs.length := by rw [HVN.out]; exact hlt
          have hkl : k < l2.length := by rw [HL2.out]; exact hlt
          have hck := HAP2.out.each k hkv hkl
          obtain ⟨sa, ca, ea⟩ := hck.1.form
          obtain ⟨m, hm⟩ : ∃ m, (l2[k]'hkl).length = m := ⟨_, rfl⟩
          rw [hm] at ea
          have hm1000 : m < 1000 := by rw [← hm]; exact HLE2.out _ (List.getElem_mem hkl)
          have HEA := Lib.hid ea
          have hg0 : 0 < m → ∃ g, sa = some ⟨g, 0, none⟩ := fun h0 => by
            have h1 := hck.1
            rw [HEA.out] at h1
            rcases h1.2 with ⟨e, e2⟩ | ⟨g, cap, cur, e, _⟩
            · rw [hm] at e2; omega
            · injection e with e; exact ⟨g, e⟩
          have HG0 := Lib.hid hg0
          have HMM := Lib.hid hm
          obtain ⟨g3, e3, hl3, yy3⟩ := OwnL.cell HAP2.out.o.1 hkv
          subst e3
          have HWR := Lib.hid HAP2.out.m.below
          clear ea hg0 hm hck yy3
          have q1 : (k : Int) < (n : Int) := by omega
          have q2 : (0 : Int) ≤ (k : Int) := by omega
          obtain ⟨wb, hwb⟩ : ∃ wb, wb = wr := ⟨_, rfl⟩
          subst hwb
          go_wp2_with fail
          go_loopg [2, 11] m (fun gg mv jv wq => ∃ (j mk3 : Nat) (l3 : List (List Int)), j + gg = m ∧ mv = .int .i64 mk3 ∧ mk3 = mk2 + j ∧ jv = .int .i64 j ∧ l3.length = n ∧ (∀ l ∈ l3, l.length < 1000) ∧ (∀ h : k < l3.length, (l3[k]'h).length = m) ∧ AP w wq x2 n0 (.slice (some ⟨g3, 0, none⟩) n c3) vs l3 (.slice sh k ch) hvs (l3.take k) (.slice none 0 0) [] [])
          case atStart => exact ⟨0, mk2, l2, by omega, rfl, rfl, rfl, HL2.out, HLE2.out, fun _ => HMM.out, HAP2.out⟩
          case round =>
            obtain ⟨j, mk3, l3, hj, rfl, hmk3, rfl, hl3n, hle3, hm3, hap3⟩ := hrel
            have HAP3 := Lib.hid hap3
            have HL3 := Lib.hid hl3n
            have HLE3 := Lib.hid hle3
            have HM3 := Lib.hid hm3
            clear hap3 hl3n hle3 hm3
            obtain ⟨g3', e3', hl3', z3⟩ := OwnL.cell HAP3.out.o.1 hkv
            injection e3' with e3'
            injection e3' with e3'
            subst e3'
            rw [HEA.out] at z3
            by_cases hltj : j < m
            · obtain ⟨g, hg⟩ := HG0.out (by omega)
              subst hg
              have hkl3 : k < l3.length := by rw [HL3.out]; exact hlt
              have hmj := HM3.out hkl3
              have hc3 := (HAP3.out.each k hkv hkl3).1
              rw [HEA.out] at hc3
              obtain ⟨y, hy⟩ : ∃ y, (l3[k]'hkl3)[j]'(by rw [hmj]; exact hltj) = y := ⟨_, rfl⟩
              have hcj : wr.cell? ⟨g, j, none⟩ = some (.int .i64 y) := by
                have h5 := World.ownsRow.cells (g := g) hc3 rfl j (.int .i64 y) (by rw [List.getElem?_map, List.getElem?_eq_getElem (by rw [hmj]; exact hltj), hy]; rfl)
                rw [Go.WideShapes.add_plain, Nat.zero_add] at h5
                exact h5
              have hfj : wr.frozen? ⟨g, j, none⟩ = false := by
                rcases hc3.2 with ⟨e, _⟩ | ⟨g', cap, cur, e, _, hgg, _⟩
                · cases e
                · injection e with e; injection e with e; injection e with e; subst e; exact block_free hgg
              have HPUT := Lib.hid (fun (z : Int) => AP.put' (j := j) (k := z) HAP3.out hkv hkl3 HEA.out (by rw [hmj]; exact hltj))
              have q3 : (j : Int) < (m : Int) := by omega
              have q4 : (0 : Int) ≤ (j : Int) := by omega
              clear hc3 hy
              go_wp2
              go_roundg (gk - 1)
              case measure => omega
              case rel =>
                refine ⟨j + 1, mk3 + 1, _, by omega, by go_num, by omega, by go_num, ?_, ?_, ?_, HPUT.out _⟩
                · rw [List.length_set]; exact HL3.out
                · intro l hl
                  rcases List.mem_or_eq_of_mem_set hl with h | h
                  · exact HLE3.out l h
                  · rw [h, List.length_set, hmj]; exact hm1000
                · intro h
                  rw [List.getElem_set_self, List.length_set]; exact hmj
            · obtain rfl : j = m := by omega
              have hkl3 : k < l3.length := by rw [HL3.out]; exact hlt
              have hmj := HM3.out hkl3
              have hc3 := (HAP3.out.each k hkv hkl3).1
              rw [HEA.out] at hc3
              have HC3 := Lib.hid hc3
              have hkn2 : ¬ (j : Int) < (j : Int) := by omega
              clear hc3
              go_wp2_with (first
                | (at_builtin; refine wpList_copyM rfl _ _ rfl rfl sa j ca _ rfl HC3.out (by omega) ?_; intro sv cv wc hov hnv hbv; have HOV := Lib.hid hov; have HNV := Lib.hid hnv; have HBV := Lib.hid hbv; clear hov hnv hbv z3)
                | (at_builtin; refine wpList_push_rows [.slice sv j cv] rfl _ _ rfl sh k ch hvs rfl rfl (HAP3.out.later HBV.out).rh.own (fun u hu => by rw [List.mem_singleton] at hu; subst hu; rfl) (by simp) (by simp) (by rw [HHV.out]; omega) ?_; intro sp cp wd hop hgp hap; have HOP := Lib.hid hop; have HGP := Lib.hid hgp; have HATP := Lib.hid hap; clear hop hgp hap))
              have HAPC := Lib.hid (HAP3.out.later HBV.out)
              have HHC : Hid (HC wc x2 n0 0 (.slice sv j cv) (l3[k]'hkl3)) := Lib.hid ⟨HOV.out, fun b hb => ⟨HAP3.out.m.zero (HNV.out b hb), Nat.le_trans HAP3.out.m.n (HNV.out b hb)⟩⟩
              obtain ⟨y2, hap4⟩ := HAPC.out.hold HHC.out HOP.out HGP.out HATP.out
              have HAP4 : Hid (AP w wd y2 n0 (.slice (some ⟨g3, 0, none⟩) n c3) vs l3 (.slice sp (k + 1) cp) (hvs ++ [.slice sv j cv]) (l3.take (k + 1)) (.slice none 0 0) [] []) := Lib.hid (by
                rw [List.take_add_one, List.getElem?_eq_getElem hkl3]
                exact hap4)
              have hmkb : mk3 ≤ mk + (k + 1) * 1000 := by omega
              clear hap4 HAPC HHC HOP HGP HATP HOV HNV HBV HC3
              go_roundg (n - (k + 1))
              case measure => omega
              case rel => exact ⟨k + 1, mk3, 0, y2, l3, sp, cp, _, by omega, by first | rfl | (rw [hmk3]; rfl) | (rw [hmk3]; go_num), hmkb, rfl, by go_num, by rw [List.length_append, HHV.out]; rfl, HL3.out, HLE3.out, HAP4.out⟩
        · obtain rfl : n = k := by omega
          have hap5 := HAP2.out
          rw [List.take_of_length_le (by rw [HL2.out]; exact Nat.le_refl _)] at hap5
          have HAP5 := Lib.hid hap5
          have hkn : ¬ (n : Int) < (n : Int) := by omega
          clear hap5 HAP2
          obtain ⟨wb, hwb⟩ : ∃ wb, wb = wr := ⟨_, rfl⟩
          subst hwb
          go_wp2_with fail
          go_loopg [2, 9, 12] n (fun gg mv fv iv wr => ∃ (k mk3 : Nat) (x3 : Nat → Nat) (sf : Option Addr) (cf : Nat) (fvs : List Value), k + gg = n ∧ mv = .int .i64 mk3 ∧ mk3 = mk2 + k ∧ fv = .slice sf k cf ∧ iv = .int .i64 k ∧ fvs.length = k ∧ AP w wr x3 n0 (.slice s3 n c3) vs l2 (.slice sh n ch) hvs l2 (.slice sf k cf) fvs (FL l2 mk2 k))
          case atStart => exact ⟨0, mk2, x2, none, 0, [], by omega, rfl, rfl, rfl, rfl, rfl, HAP5.out⟩
          case round =>
            clear HAP5
            obtain ⟨k, mk3, x3, sf, cf, fvs, hk3, rfl, hmk3, rfl, rfl, hfv, hap⟩ := hrel
            have HAP6 := Lib.hid hap
            have HFV := Lib.hid hfv
            clear hap hfv
            by_cases hlt3 : k < n
            · have hkv : k < vs.length := by rw [HVN.out]; exact hlt3
              have hkl : k < l2.length := by rw [HL2.out]; exact hlt3
              have hck := (HAP6.out.each k hkv hkl).1
              obtain ⟨sa, ca, ea⟩ := hck.form
              obtain ⟨m, hm⟩ : ∃ m, (l2[k]'hkl).length = m := ⟨_, rfl⟩
              rw [hm] at ea
              have hm1000 : m < 1000 := by rw [← hm]; exact HLE2.out _ (List.getElem_mem hkl)
              rw [ea] at hck
              obtain ⟨g3, e3, hl3, z3⟩ := OwnL.cell HAP6.out.o.1 hkv
              subst e3
              rw [ea] at z3
              have HEA := Lib.hid ea
              have HCK := Lib.hid hck
              clear ea hm hck
              have q1 : (k : Int) < (n : Int) := by omega
              have q2 : (0 : Int) ≤ (k : Int) := by omega
              go_wp2_with fail
              refine (grown_c sa m ca (l2[k]'hkl) _ wr HCK.out (by omega)).mono ?_
              rintro e wc ⟨s', c', rfl, hog, hgr⟩
              rw [show (1000 + ((mk2 : Int) + (k : Int) + 1)) = ((1001 + mk2 + k : Nat) : Int) from by omega] at hog
              obtain ⟨x4, hap7, hc7, hs7⟩ := HAP6.out.grow hkv HFV.out.symm HEA.out hog hgr
              have HAP7 := Lib.hid hap7
              have HC7 := Lib.hid hc7
              have HS7 := Lib.hid hs7
              clear hog hgr hap7 hc7 hs7 z3 HAP6
              go_wp2_with (first
                | (at_builtin; refine wpList_push_rows [.slice s' (m + 100) c'] rfl _ _ rfl sf k cf fvs rfl rfl HAP7.out.f.1 (fun u hu => by rw [List.mem_singleton] at hu; subst hu; rfl) (by simp) (by simp) (by rw [HFV.out]; omega) ?_; intro sp cp wd hop hgp hap; have HOP := Lib.hid hop; have HGP := Lib.hid hgp; have HATP := Lib.hid hap; clear hop hgp hap))
              obtain ⟨x5, hap8⟩ := HAP7.out.far (by rw [HFV.out]; exact hkv) HC7.out (by rw [HFV.out]; exact HS7.out) HOP.out HGP.out HATP.out
              rw [← FL_succ hkl] at hap8
              have HAP8 := Lib.hid hap8
              clear hap8 HOP HGP HATP HAP7 HC7 HS7
              go_roundg (gk - 1)
              case measure => omega
              case rel => exact ⟨k + 1, mk3 + 1, x5, sp, cp, _, by omega, by first | rfl | (rw [hmk3]; go_num), by omega, rfl, by go_num, by rw [List.length_append, HFV.out]; rfl, HAP8.out⟩
            · obtain rfl : n = k := by omega
              have hkn3 : ¬ (n : Int) < (n : Int) := by omega
              obtain ⟨wb, hwb⟩ : ∃ wb, wb = wr := ⟨_, rfl⟩
              subst hwb
              go_wp2_with fail
              go_loopg [13] n (fun gg iv wr => ∃ k : Nat, k + gg = n ∧ iv = .int .i64 k ∧ Below wb.heap.size wb wr)
              case atStart => exact ⟨0, by omega, rfl, Below.refl _ _⟩
              case round =>
                obtain ⟨k, hk4, rfl, hb4⟩ := hrel
                have HB4 := Lib.hid hb4
                clear hb4
                by_cases hlt4 : k < n
                · have hkv : k < vs.length := by rw [HVN.out]; exact hlt4
                  have hkl : k < l2.length := by rw [HL2.out]; exact hlt4
                  have hap := HAP6.out.later HB4.out
                  have hkh : k < hvs.length := by rw [HHV.out]; exact hlt4
                  have hkf : k < fvs.length := by rw [HFV.out]; exact hlt4
                  have hkF : k < (FL l2 mk2 n).length := by rw [FL_len]; exact hlt4
                  have hc3 := (hap.each k hkv hkl).1
                  have hch := (hap.rh.each k hkh hkl).1
                  have hcf := (hap.feach k hkf hkF).1
                  rw [FL_at hkF hkl] at hcf
                  simp only at hch
                  obtain ⟨m, hm⟩ : ∃ m, (l2[k]'hkl).length = m := ⟨_, rfl⟩
                  have hm1000 : m < 1000 := by rw [← hm]; exact HLE2.out _ (List.getElem_mem hkl)
                  obtain ⟨sa, ca, ea⟩ := hc3.form
                  obtain ⟨sb, cb, eb⟩ := hch.form
                  obtain ⟨sc, cc, ec⟩ := hcf.form
                  rw [List.length_append, List.length_replicate] at ec
                  rw [hm] at ea eb ec
                  obtain ⟨N1, hN1⟩ : ∃ N1, N1 = m + 99 := ⟨_, rfl⟩
                  have ec : fvs[k] = .slice sc (N1 + 1) cc := by rw [ec, hN1]
                  obtain ⟨g3, e3, hl3, z3⟩ := OwnL.cell hap.o.1 hkv
                  obtain ⟨gh, eh, hlh, zh⟩ := OwnL.cell hap.rh.own hkh
                  obtain ⟨gf, ef, hlf, zf⟩ := OwnL.cell hap.f.1 hkf
                  subst e3 eh ef
                  simp only at zh
                  rw [ea] at z3 hc3
                  rw [eb] at zh hch
                  rw [ec] at zf hcf
                  have hsm := fun (W : World) (hW : Below wr.heap.size wr W) => same_any sa sb m ca m cb (gl (l2[k]'hkl)) (gl (l2[k]'hkl)) W (by unfold maxLen; omega) (by unfold maxLen; omega) (hc3.is.later hW) (hch.is.later hW)
                  simp only [sameB_refl] at hsm
                  have HSM := Lib.hid hsm
                  have HCF := Lib.hid hcf
                  have HMM := Lib.hid hm
                  have HNN := Lib.hid hN1
                  have hN1b : N1 < 2000 := by omega
                  have hw1 : IntKind.i64.wrap ((m : Int) + 100) = (m : Int) + 100 := by rw [IntKind.wrap_i64]; omega
                  have hw2 : ((N1 + 1 : Nat) : Int) = (m : Int) + 100 := by omega
                  have HAPW := Lib.hid hap
                  have q1 : (k : Int) < (n : Int) := by omega
                  have q2 : (0 : Int) ≤ (k : Int) := by omega
                  clear hsm hcf hm hN1 hap hc3 hch ea eb ec
                  go_wp2_with fail
                  go_region_held3 (fun w' => w'.cell? ⟨g3, k, none⟩ = some (.slice sa m ca) ∧ w'.cell? ⟨gh, k, none⟩ = some (.slice sb m cb) ∧ w'.cell? ⟨gf, k, none⟩ = some (.slice sc (N1 + 1) cc))
                    (first | with_reducible exact hSR.out | exact ⟨z3, zh, zf⟩ | go_keep)
                    (first | (go_at_call 20; refine (HSM.out wr.drew (Below.refl _ _).drew).mono ?_; rintro e w6 ⟨rfl, hb6⟩; have HB6 := Lib.hid ((Below.refl wr.heap.size wr).drew.trans hb6); have hSR := Lib.hid (show w6.cell? ⟨g3, k, none⟩ = some (.slice sa m ca) ∧ w6.cell? ⟨gh, k, none⟩ = some (.slice sb m cb) ∧ w6.cell? ⟨gf, k, none⟩ = some (.slice sc (N1 + 1) cc) from ⟨(HB6.out.cell (p := ⟨g3, k, none⟩) hl3).trans z3, (HB6.out.cell (p := ⟨gh, k, none⟩) hlh).trans zh, (HB6.out.cell (p := ⟨gf, k, none⟩) hlf).trans zf⟩); clear hb6))
                  rename_i hheld
                  clear hheld hSR
                  have y3 := (HB6.out.cell (p := ⟨g3, k, none⟩) hl3).trans z3
                  have hgk : ∃ g, sc = some ⟨g, 0, none⟩ := by
                    rcases HCF.out.2 with ⟨e, e2⟩ | ⟨g, cap, cur, e, _⟩
                    · rw [List.length_append, List.length_replicate] at e2; omega
                    · injection e with e; exact ⟨g, e⟩
                  obtain ⟨gk2, rfl⟩ := hgk
                  obtain ⟨M, hM⟩ : ∃ M : Int, ((1001 + mk2 + k : Nat) : Int) = M := ⟨_, rfl⟩
                  rw [hM] at HCF
                  have hcl : ∀ W, Below wr.heap.size wr W → ∀ i, m ≤ i → i < N1 + 1 → W.cell? ⟨gk2, i, none⟩ = some (.int .i64 M) := fun W hW i h1 h2 => by
                    have h5 := World.ownsRow.cells (g := gk2) (HCF.out.later hW) rfl i (.int .i64 M) (by
                      rw [List.getElem?_map, List.getElem?_append_right (by rw [HMM.out]; exact h1), List.getElem?_replicate, if_pos (by rw [HMM.out]; have := HNN.out; omega)]; rfl)
                    rw [Go.WideShapes.add_plain, Nat.zero_add] at h5
                    exact h5
                  have HCL := Lib.hid hcl
                  have HMK := Lib.hid hM
                  have HB7 := Lib.hid (HB4.out.trans (HB6.out.mono HB4.out.size))
                  have hmN : m < N1 + 1 := by have := HNN.out; omega
                  have HMN := Lib.hid hmN
                  have hw3 : IntKind.i64.wrap (N1 : Int) = (N1 : Int) := by rw [IntKind.wrap_i64]; omega
                  have hw4 : IntKind.i64.wrap (((N1 + 1 : Nat) : Int) - 1) = (N1 : Int) := by rw [IntKind.wrap_i64]; omega
                  have hw5 : IntKind.i64.wrap ((N1 : Int) + 1 - 1) = (N1 : Int) := by rw [IntKind.wrap_i64]; omega
                  clear hcl hM zh hw1 hw2
                  obtain ⟨wc, hwc⟩ : ∃ wc, wc = wr := ⟨_, rfl⟩
                  subst hwc
                  go_wp2_with fail
                  go_loopg [14] (N1 + 1 - m) (fun gg jv wq => ∃ J : Nat, J + gg = N1 + 1 ∧ jv = .int .i64 J ∧ m ≤ J ∧ Below wc.heap.size wc wq)
                  case atStart => exact ⟨m, by omega, rfl, Nat.le_refl _, HB6.out⟩
                  case round =>
                    clear y3
                    obtain ⟨J, hJ, rfl, hmJ, hbq⟩ := hrel
                    have HBQ := Lib.hid hbq
                    have zf2 := (hbq.cell (p := ⟨gf, k, none⟩) hlf).trans zf
                    clear hbq
                    by_cases hltJ : J < N1 + 1
                    · have zj := HCL.out wr HBQ.out J hmJ hltJ
                      have zn := HCL.out wr HBQ.out N1 (by omega) (by omega)
                      have q3 : (J : Int) < ((N1 + 1 : Nat) : Int) := by omega
                      have q3' : (J : Int) < (N1 : Int) + 1 := by omega
                      have q4 : (0 : Int) ≤ (J : Int) := by omega
                      have q5 : (N1 : Int) < (N1 : Int) + 1 := by omega
                      have q6 : (0 : Int) ≤ (N1 : Int) := by omega
                      have hself : (M != M) = false := by simp
                      by_cases hk0 : k = 0
                      · subst hk0
                        go_wp2_with fail
                        go_quiet (fail)
                        go_wp2
                        go_roundg (gk - 1)
                        case measure => omega
                        case rel => exact ⟨J + 1, by omega, by go_num, by omega, ⟨HBQ.out.os, HBQ.out.tape, HBQ.out.output, HBQ.out.size, HBQ.out.block⟩⟩
                      · obtain ⟨k1, hk1⟩ : ∃ k1, k = k1 + 1 := ⟨k - 1, by omega⟩
                        subst hk1
                        have hkv1 : k1 < vs.length := by rw [HVN.out]; omega
                        have hkl1 : k1 < l2.length := by rw [HL2.out]; omega
                        have hkf1 : k1 < fvs.length := by rw [HFV.out]; omega
                        have hkF1 : k1 < (FL l2 mk2 n).length := by rw [FL_len]; omega
                        have hapq := HAP6.out.later (HB4.out.trans (HBQ.out.mono HB4.out.size))
                        have hcd := (hapq.feach k1 hkf1 hkF1).1
                        rw [FL_at hkF1 hkl1] at hcd
                        obtain ⟨m2, hm2⟩ : ∃ m2, (l2[k1]'hkl1).length = m2 := ⟨_, rfl⟩
                        have hm2b : m2 < 1000 := by rw [← hm2]; exact HLE2.out _ (List.getElem_mem hkl1)
                        obtain ⟨sd, cd, ed⟩ := hcd.form
                        rw [List.length_append, List.length_replicate, hm2] at ed
                        obtain ⟨N2, hN2⟩ : ∃ N2, N2 = m2 + 99 := ⟨_, rfl⟩
                        have ed : fvs[k1] = .slice sd (N2 + 1) cd := by rw [ed, hN2]
                        obtain ⟨gf', ef', hlf', zd⟩ := OwnL.cell hapq.f.1 hkf1
                        injection ef' with ef'
                        injection ef' with ef'
                        subst ef'
                        rw [ed] at zd hcd
                        have hgd : ∃ g, sd = some ⟨g, 0, none⟩ := by
                          rcases hcd.2 with ⟨e, e2⟩ | ⟨g, cap, cur, e, _⟩
                          · rw [List.length_append, List.length_replicate] at e2; omega
                          · injection e with e; exact ⟨g, e⟩
                        obtain ⟨gd, rfl⟩ := hgd
                        obtain ⟨M2, hM2⟩ : ∃ M2 : Int, ((1001 + mk2 + k1 : Nat) : Int) = M2 := ⟨_, rfl⟩
                        rw [hM2] at hcd
                        have ze : wr.cell? ⟨gd, N2, none⟩ = some (.int .i64 M2) := by
                          have h5 := World.ownsRow.cells (g := gd) hcd rfl N2 (.int .i64 M2) (by
                            rw [List.getElem?_map, List.getElem?_append_right (by omega), List.getElem?_replicate, if_pos (by omega)]; rfl)
                          rw [Go.WideShapes.add_plain, Nat.zero_add] at h5
                          exact h5
                        have hMM : (M == M2) = false := by
                          rw [beq_eq_false_iff_ne]
                          have := HMK.out
                          omega
                        have hN2b : N2 < 2000 := by omega
                        have q7 : (0 : Int) < ((k1 + 1 : Nat) : Int) := by omega
                        have q7' : (0 : Int) < (k1 : Int) + 1 := by omega
                        have q8 : (k1 : Int) < (n : Int) := by omega
                        have q9 : (0 : Int) ≤ (k1 : Int) := by omega
                        have q10 : (N2 : Int) < (N2 : Int) + 1 := by omega
                        have q11 : (0 : Int) ≤ (N2 : Int) := by omega
                        have hw6 : IntKind.i64.wrap (N2 : Int) = (N2 : Int) := by rw [IntKind.wrap_i64]; omega
                        have hw7 : IntKind.i64.wrap (k1 : Int) = (k1 : Int) := by rw [IntKind.wrap_i64]; omega
                        clear hapq hcd ed hm2 hN2 hM2 hk0
                        go_wp2_with fail
                        go_quiet (fail)
                        go_wp2
                        go_roundg (gk - 1)
                        case measure => omega
                        case rel => exact ⟨J + 1, by omega, by go_num, by omega, ⟨HBQ.out.os, HBQ.out.tape, HBQ.out.output, HBQ.out.size, HBQ.out.block⟩⟩
                    · have hjn : ¬ (J : Int) < ((N1 + 1 : Nat) : Int) := by omega
                      have hjn2 : ¬ (J : Int) < (N1 : Int) + 1 := by omega
                      go_wp2
                      go_roundg (n - (k + 1))
                      case measure => omega
                      case rel => exact ⟨k + 1, by omega, by go_num, HB4.out.trans (HBQ.out.mono HB4.out.size)⟩
                · have hkn4 : ¬ (k : Int) < (n : Int) := by omega
                  have HFIN := Lib.hid (HAP6.out.later HB4.out).m.below
                  go_wp2
                  go_ret
                  exact ⟨rfl, HFIN.out⟩
end Go.Proofs.Ytampjndfhpjheaa
