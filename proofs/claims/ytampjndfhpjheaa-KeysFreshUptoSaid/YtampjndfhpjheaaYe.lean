/- The program's Put into a trie of bounds, of a row that is taken. Condition: fewer than maxLen keys in all. -/
import Derived.Test.YtampjndfhpjheaaYd
import Derived.Carry
namespace Go.Proofs.Ytampjndfhpjheaa
open Go.RowKit
def PutN (E : Int → BV) (O : Nat → Prop) (root ro : Nat) (S : TrieS) (p : List Int) (v : Int) (w w' : World) : Prop :=
  Touch (withR O root) w w' ∧ RestSame w w' root ro ∧ ∃ nb mb val, TrieN 133 (encB E) w' (wider O w.heap.size) root ro (S ++ [(p, v)]) nb mb val
theorem putB_pre {S : TrieS} {p : List Int} (h : putB S p = true) : preB S p = false := by
  cases hp : preB S p
  · rfl
  · rw [put_pre hp] at h; cases h
theorem IsInts.touch2 {w w' : World} {O : Nat → Prop} {s : Option Addr} {n : Nat} {f : Nat → Int} (h : IsInts w s n f) (ht : Touch O w w') (hs : 0 < n → ∀ a, s = some a → ¬ O a.block) : IsInts w' s n f := by
  by_cases h0 : n = 0
  · exact .inl h0
  rcases h with h | ⟨b, off, rfl, hlt, hc⟩
  · exact .inl h
  · exact .inr ⟨b, off, rfl, Nat.lt_of_lt_of_le hlt ht.size, fun k hk => (World.cell?_of_block (w := w) (ht.block b hlt (hs (by omega) _ rfl))).trans (hc k hk)⟩
theorem nil_eq_b (w : World) : (binOp .eql 114 (.map none) (.map none)).run Try.prog w = .ok (.bool true) w := by kernel_rfl
theorem some_eq_b (m : Nat) (w : World) : (binOp .eql 114 (.map (some m)) (.map none)).run Try.prog w = .ok (.bool false) w := by kernel_rfl
set_option maxRecDepth 100000 in
set_option maxHeartbeats 4000000 in
theorem put_b_c (O : Nat → Prop) (root ro : Nat) (E : Int → BV) (S : TrieS) (nb mb : List Int → Option Nat) (val : List Int → Option (Nat × Int)) (v : Int) (bv : BV) (sk : Option Addr) (c : Nat) (p : List Int) (w : World) (hS : TrieOk S) (ht : TrieN 133 (encB E) w O root ro S nb mb val) (hE : E v = bv) (hput : putB S p = true) (hl : p.length ≤ maxLen) (hc : p.length ≤ c) (hn : sizeS S + p.length < maxLen) (hk : IsInts w sk p.length (gl p)) (hkeys : ∀ x ∈ p, inKey x) (hsk : ∀ a, sk = some a → ¬ withR O root a.block) :
    Calls Try.prog 81 #[.pointer (some ⟨root, ro, none⟩), .agg bv.cells, .slice sk p.length c] w fun e w' => e = .returned (.bool true) ∧ PutN E O root ro S p v w w' := by
  have hl' := hl
  unfold maxLen at hl'
  have HL := Lib.hid hl
  have HN0 := Lib.hid hn
  clear hl hn
  have HT := Lib.hid ht
  have HK := Lib.hid hk
  have HKY := Lib.hid hkeys
  have HOK := Lib.hid hS
  have HSK := Lib.hid hsk
  have HPUT := Lib.hid hput
  have hpre := putB_pre hput
  have h0 : 0 < p.length := by
    rcases Nat.eq_zero_or_pos p.length with e | e
    · rw [List.eq_nil_of_length_eq_zero e] at hput; cases hput
    · exact e
  clear ht hk hkeys hS hsk hput
  obtain ⟨v1, v2, v3, v4, v5, v6, v7, v8⟩ := bv
  have HE := Lib.hid hE
  clear hE
  show Calls Try.prog 81 #[.pointer (some ⟨root, ro, none⟩), .agg #[.int .i64 v1, .int .i64 v2, .int .i64 v3, .bool v4, .slice v5 v6 v7, .pointer v8], .slice sk p.length c] w _
  have hW : Below w.heap.size w (w.alloc (.cells #[.int .i64 v1, .int .i64 v2, .int .i64 v3, .bool v4, .slice v5 v6 v7, .pointer v8] 133)) := (Below.refl _ _).alloc (Nat.le_refl _) _
  have HW := Lib.hid hW
  clear hW
  have z0 : ((p.length : Int) == 0) = false := by rw [beq_eq_false_iff_ne]; omega
  have H0 := Lib.hid h0
  clear h0
  go_enter Try.func81, Try.ntmps81
  go_wp2_with fail
  refine (look_b_c O root ro E S nb mb val sk c p _ HOK.out (HT.out.later HW.out) HL.out (HK.out.later HW.out) HKY.out).mono ?_
  rintro e w1 ⟨rfl, hb⟩
  have HB := Lib.hid (bt HW.out hb)
  have HV := Lib.hid ((hb.block _ (by simp)).trans (one_new w (.cells #[.int .i64 v1, .int .i64 v2, .int .i64 v3, .bool v4, .slice v5 v6 v7, .pointer v8] 133)))
  clear hb
  have hbv : (bvAt E S p).cells = #[.int .i64 0, .int .i64 0, .int .i64 0, .bool false, .slice none 0 0, .pointer none] := by rw [bvAt, lookS_bad hpre]; rfl
  rw [hbv, lookS_bad hpre]
  clear hbv
  have HPRE := Lib.hid hpre
  clear hpre

  go_wp2_with fail
  have HB2 := Lib.hid (HB.out.alloc (by have := HB.out.size; omega) (.cells #[.int .i64 0, .int .i64 0, .int .i64 0, .bool false, .slice none 0 0, .pointer none] 133))
  have HV2 := Lib.hid ((Below.heap_alloc w1 (.cells #[.int .i64 0, .int .i64 0, .int .i64 0, .bool false, .slice none 0 0, .pointer none] 133) _ (heap_lt HV.out)).trans HV.out)
  clear HB HV
  go_loopg [0, 2, 27] p.length (fun g tv kv iv wr => ∃ i b o n' c' : Nat, ∃ s', i + g = p.length ∧ tv = .pointer (some ⟨b, o, none⟩) ∧ kv = .slice s' n' c' ∧ i + n' = p.length ∧ n' ≤ c' ∧ iv = .int .i64 i ∧ nb (p.take i) = some b ∧ offR ro (p.take i) = o ∧ (∀ j, 0 < j → j ≤ i → val (p.take j) = none) ∧ IsInts w s' n' (fun j => gl p (i + j)) ∧ (∀ a, s' = some a → ¬ withR O root a.block) ∧ ∃ w2, Below w.heap.size w w2 ∧ w2.heap[w.heap.size]? = some (.cells #[.int .i64 v1, .int .i64 v2, .int .i64 v3, .bool v4, .slice v5 v6 v7, .pointer v8] 133 (0, 0)) ∧ w2 = wr)
  case atStart => exact ⟨0, root, ro, p.length, c, sk, by omega, rfl, rfl, by omega, hc, rfl, HT.out.gt.root, rfl, fun j h1 h2 => by omega, HK.out.same (fun i _ => by rw [Nat.zero_add]), HSK.out, _, HB2.out, HV2.out, rfl⟩
  case round =>
    obtain ⟨i, b, o, n', c', s', hg, rfl, rfl, hn', hc', rfl, hb0, ho0, hv0, hk', hs', w2, hb2', hv2', rfl⟩ := hrel
    clear HB2 HV2
    have HB := Lib.hid hb2'
    have HV := Lib.hid hv2'
    clear hb2' hv2'
    have HN := Lib.hid hb0
    have HO := Lib.hid ho0
    have HV0 := Lib.hid hv0
    have HK2 := Lib.hid hk'
    have HS2 := Lib.hid hs'
    clear hb0 hv0 hk' hs' ho0
    by_cases hlt : i < p.length
    · obtain ⟨bs, off, rfl, c0⟩ := HK.out.at HB.out hlt
      have hnd := HT.out.gt.node _ _ HN.out
      rw [HO.out] at hnd
      have c1 : w2.cell? ⟨b, o + 1, none⟩ = some (.map (mb (p.take i))) := (HB.out.cell (p := ⟨b, o + 1, none⟩) hnd.lt).trans hnd.cells.2.1
      clear hnd
      have hkey : inKey (gl p i) := HKY.out _ (by unfold gl; rw [List.getD_eq_getElem?_getD, List.getElem?_eq_getElem hlt]; exact List.getElem_mem hlt)
      have hlook := HT.out.gt.lookup HB.out Try.underlying114 (zero_bound _) (p := p.take i) hkey
      rw [show p.take i ++ [gl p i] = p.take (i + 1) from by rw [take_next hlt]; unfold gl; rw [List.getD_eq_getElem?_getD, List.getElem?_eq_getElem hlt]; rfl] at hlook
      cases hnx : nb (p.take (i + 1)) with
      | some b' =>
        rw [hnx] at hlook
        replace hlook : _ = Result.ok (Value.pointer (some ⟨b', 0, none⟩)) w2 := hlook
        have hnd := HT.out.gt.node _ _ hnx
        have ho2 : offR ro (p.take (i + 1)) = 0 := by rw [take_next hlt, offR_snoc]
        rw [ho2] at hnd
        have c2 : w2.cell? ⟨b', 0, none⟩ = some (ptrO ((val (p.take (i + 1))).map (·.1))) := (HB.out.cell (p := ⟨b', 0, none⟩) hnd.lt).trans hnd.cells.1
        have HN2 := Lib.hid hnx
        have HO2 := Lib.hid ho2
        clear hnx hkey hnd ho2
        cases hv : val (p.take (i + 1)) with
        | some x =>
          exfalso
          have h1 := HT.out.put_no hv
          rw [HPUT.out] at h1; cases h1
        | none =>
          rw [hv] at c2
          replace c2 : w2.cell? ⟨b', 0, none⟩ = some (.pointer none) := c2
          have HV1 := Lib.hid hv
          clear hv
          have hkk := HK2.out
          rcases hkk with hz | ⟨b2, o2, rfl, hb2, hc2⟩
          · exfalso; omega
          · have HC2 := Lib.hid hc2
            clear hc2
            have q1 : (1 : Int) ≤ (n' : Int) := by omega
            have q2 : (n' : Int) ≤ (c' : Int) := by omega
            go_wp2
            all_goals
              go_roundg (gk - 1)
              case measure => omega
              case rel =>
                refine ⟨i + 1, b', 0, n' - 1, _, _, by omega, rfl, rfl, by omega, by omega, by go_num, HN2.out, HO2.out, fun j h1 h2 => ?_, ?_, ?_⟩
                · by_cases e : j = i + 1
                  · rw [e]; exact HV1.out
                  · exact HV0.out j h1 (by omega)
                · first
                    | exact .inl (by omega)
                    | exact .inr ⟨b2, o2 + 1, rfl, hb2, fun j hj => by
                        have := HC2.out (j + 1) (by omega)
                        show w.cell? ⟨b2, o2 + 1 + j, none⟩ = some (.int .i64 (gl p (i + 1 + j)))
                        rw [show o2 + 1 + j = o2 + (j + 1) from by omega, show i + 1 + j = i + (j + 1) from by omega]; exact this⟩
                · exact ⟨(fun a ha => by injection ha with ha; subst ha; exact HS2.out ⟨b2, o2, none⟩ rfl), _, HB.out, HV.out, rfl⟩
      | none =>
        rw [hnx] at hlook
        replace hlook : _ = Result.ok (Value.pointer none) w2 := hlook
        have HNX := Lib.hid hnx
        clear hnx
        have hpath : PathN 133 (encB E) w (wider O w.heap.size) root ro S nb val p i i b nb mb := (PathN.start HT.out hlt HN.out HNX.out).wide (fun b hb => .inl hb)
        have hrlt : root < w.heap.size := HT.out.gt.lt HT.out.gt.root
        replace hpath := hpath.kept (fun q hq _ => HB.out.block q hq) (RootSame.of fun h => HB.out.block _ h)
        have HPA := Lib.hid hpath
        have HTO := Lib.hid (Touch.of (O := withR (wider O w.heap.size) root) HB.out)
        have HRS := Lib.hid (RestSame.of (ro := ro) (fun h => HB.out.block root h))
        have HRL := Lib.hid hrlt
        clear hpath hrlt
        go_wp2_with fail
        clear hlook c0 c1 hkey
        go_loopg [0, 54] n' (fun g tv iv wz => ∃ j bj oj : Nat, ∃ nb' mb', j + g = n' ∧ tv = .pointer (some ⟨bj, oj, none⟩) ∧ iv = .int .i64 j ∧ offR ro (p.take (i + j)) = oj ∧ PathN 133 (encB E) wz (wider O w.heap.size) root ro S nb val p i (i + j) bj nb' mb' ∧ wz.heap[w.heap.size]? = some (.cells #[.int .i64 v1, .int .i64 v2, .int .i64 v3, .bool v4, .slice v5 v6 v7, .pointer v8] 133 (0, 0)) ∧ Touch (withR (wider O w.heap.size) root) w wz ∧ RestSame w wz root ro)
        case atStart => exact ⟨0, b, o, nb, mb, by omega, rfl, rfl, HO.out, HPA.out, HV.out, HTO.out, HRS.out⟩
        case round =>
          clear HPA HTO HV HRS
          obtain ⟨j, bj, oj, nb', mb', hgj, rfl, rfl, hoj, hpa, hbx, hto, hrs⟩ := hrel
          have HPA := Lib.hid hpa
          have HBX := Lib.hid hbx
          have HTO := Lib.hid hto
          have HRS := Lib.hid hrs
          have HOJ := Lib.hid hoj
          clear hpa hbx hto hrs hoj
          by_cases hjl : j < n'
          · have hkk := HK2.out
            rcases hkk with hz | ⟨b2, o2, rfl, hb2, hc2⟩
            · exfalso; omega
            · have hc3 := hc2 j hjl
              have c0 : wr.cell? ⟨b2, o2 + j, none⟩ = some (.int .i64 (gl p (i + j))) := (World.cell?_of_block (w := w) (HTO.out.block b2 hb2 (fun h => by
                rcases h with (h | h) | h
                · exact HS2.out ⟨b2, o2, none⟩ rfl (.inl h)
                · omega
                · exact HS2.out ⟨b2, o2, none⟩ rfl (.inr h)))).trans hc3
              clear hc2 hc3
              have hnd := HPA.out.gt.node _ _ HPA.out.at_
              rw [HOJ.out] at hnd
              have hbj := hnd.lt
              have c1 : wr.cell? ⟨bj, oj + 1, none⟩ = some (.map (mb' (p.take (i + j)))) := hnd.cells.2.1
              have f1 : wr.frozen? ⟨bj, oj + 1, none⟩ = false := hnd.cells.2.2.2
              have hij : i + j < p.length := by omega
              have hkey : inKey (gl p (i + j)) := HKY.out _ (by unfold gl; rw [List.getD_eq_getElem?_getD, List.getElem?_eq_getElem hij]; exact List.getElem_mem hij)
              have hTne : (133 : TypeId) ≠ 116 := by decide
              have hwide : ∀ q, wr.heap.size ≤ q → wider O w.heap.size q := fun q hq => .inr (Nat.le_trans HTO.out.size hq)
              have hxb := heap_lt HBX.out
              have hxbj : w.heap.size ≠ bj := by
                intro e
                have h1 := HBX.out
                obtain ⟨cs, t, h2, ht2, _⟩ := hnd
                rw [e, h2] at h1
                injection h1 with h1
                injection h1 with _ h1
                exact ht2 h1
              have ho2 : offR ro (p.take (i + (j + 1))) = 0 := by rw [show i + (j + 1) = i + j + 1 from by omega, take_next hij, offR_snoc]
              have HO2 := Lib.hid ho2
              clear hnd ho2
              cases hm : mb' (p.take (i + j)) with
              | none =>
                rw [hm] at c1
                have hnq := nil_eq_b wr
                have hmk := run_makeMap (P := Try.prog) 114 wr
                obtain ⟨w4, hrun, hp4, ⟨ht4, hr4⟩, ho4⟩ := HPA.out.put_none hij rfl hkey hm Try.underlying114 hwide hTne
                rw [HOJ.out] at hrun
                have HP4 := Lib.hid hp4
                have HT4 := Lib.hid (HTO.out.trans ht4 (fun x hx => .inl hx))
                have HR4 := Lib.hid (HRS.out.trans hr4)
                have hbx4 : w4.heap[w.heap.size]? = some (.cells #[.int .i64 v1, .int .i64 v2, .int .i64 v3, .bool v4, .slice v5 v6 v7, .pointer v8] 133 (0, 0)) := (ho4 _ hxb hxbj).trans HBX.out
                have HX4 := Lib.hid hbx4
                clear hp4 ht4 hr4 ho4 hbx4 hm hkey hwide hxbj hTne
                go_wp2
                go_roundg (gk - 1)
                case measure => omega
                case rel =>
                  obtain ⟨nb2, mb2, hp4⟩ := HP4.out
                  exact ⟨j + 1, _, 0, nb2, mb2, by omega, rfl, by go_num, HO2.out, hp4, HX4.out, HT4.out, HR4.out⟩
              | some m =>
                rw [hm] at c1
                have hnq := some_eq_b m wr
                obtain ⟨w4, hrun, hp4, ⟨ht4, hr4⟩, ho4⟩ := HPA.out.put_some hij rfl hkey hm Try.underlying114 hwide hTne (by have := HN0.out; have := HPA.out.lp; omega)
                have HP4 := Lib.hid hp4
                have HT4 := Lib.hid (HTO.out.trans ht4 (fun x hx => .inl hx))
                have HR4 := Lib.hid (HRS.out.trans hr4)
                have hbx4 : w4.heap[w.heap.size]? = some (.cells #[.int .i64 v1, .int .i64 v2, .int .i64 v3, .bool v4, .slice v5 v6 v7, .pointer v8] 133 (0, 0)) := (ho4 _ hxb (fun e => by
                  obtain ⟨es, cl, h2⟩ := (HPA.out.gt.kmap _ _ hm).isMap
                  have h1 := HBX.out
                  skip
                  rw [e, h2] at h1; cases h1)).trans HBX.out
                have HX4 := Lib.hid hbx4
                clear hp4 ht4 hr4 ho4 hbx4 hm hkey hwide hxbj hTne
                go_wp2
                go_roundg (gk - 1)
                case measure => omega
                case rel =>
                  obtain ⟨nb2, mb2, hp4⟩ := HP4.out
                  exact ⟨j + 1, _, 0, nb2, mb2, by omega, rfl, by go_num, HO2.out, hp4, HX4.out, HT4.out, HR4.out⟩
          · have hlast : i + j = p.length := by omega
            have hnd := HPA.out.gt.node _ _ HPA.out.at_
            rw [HOJ.out] at hnd
            have hbj := hnd.lt
            have f1 : wr.frozen? ⟨bj, oj, none⟩ = false := hnd.cells.2.2.1
            have c0 : wr.cell? ⟨bj, oj, none⟩ = some (ptrO ((val (p.take (i + j))).map (·.1))) := hnd.cells.1
            have hOb : withR (wider O w.heap.size) root bj ∧ (bj ≠ root ∨ oj = ro) := by
              by_cases e : p.take (i + j) = []
              · have h1 := HPA.out.at_
                rw [e, HPA.out.gt.root] at h1
                cases h1
                exact ⟨.inr rfl, .inr (by rw [← HOJ.out, e]; rfl)⟩
              · refine ⟨.inl (HPA.out.gt.own_n _ _ HPA.out.at_ e), .inl fun e2 => e ?_⟩
                subst e2
                exact HPA.out.gt.injn _ _ _ HPA.out.at_ HPA.out.gt.root
            have hpa := HPA.out
            have hoj := HOJ.out
            rw [hlast] at hpa hoj
            rw [List.take_length] at hoj
            have hfin := hpa.done HT.out w.heap.size v (by rw [show encB E v = #[.int .i64 v1, .int .i64 v2, .int .i64 v3, .bool v4, .slice v5 v6 v7, .pointer v8] from by rw [encB, HE.out]; rfl]; exact HBX.out) (.inr (Nat.le_refl _))
            rw [hoj] at hfin
            have htf := (HTO.out.trans (Touch.setCell (withR (wider O w.heap.size) root) wr (p := ⟨bj, oj, none⟩) hOb.1 (.pointer (some ⟨w.heap.size, 0, none⟩))) (fun x hx => .inl hx)).wide (O' := withR O root) (fun q hq h => by
              rcases h with (h | h) | h
              · exact .inl h
              · omega
              · exact .inr h)
            have hrf : RestSame w (wr.setCell ⟨bj, oj, none⟩ (.pointer (some ⟨w.heap.size, 0, none⟩))) root ro := HRS.out.trans (RestSame.setCell _ (hOb.2.imp id (fun e => .inl e)))
            have HFIN := Lib.hid hfin
            have HTF := Lib.hid htf
            have HRF := Lib.hid hrf
            clear hfin htf hpa hnd hOb hlast hrf hoj
            go_wp2
            go_ret
            exact ⟨rfl, HTF.out, HRF.out, HFIN.out⟩
    · exfalso
      obtain rfl : i = p.length := by omega
      have hno := HN.out
      rw [List.take_length] at hno
      rcases (HT.out.dom p).1 (by rw [hno]; simp) with e | e
      · have := H0.out; rw [e] at this; exact absurd this (by decide)
      · rw [HPRE.out] at e; cases e
end Go.Proofs.Ytampjndfhpjheaa
