/- The program's Put into a trie of tags. Condition: fewer than maxLen keys in all. -/
import Derived.Test.YtampjndfhpjheaaTh
import Derived.Test.YtampjndfhpjheaaTi
namespace Go.Proofs.Ytampjndfhpjheaa
open Go.RowKit
theorem nil_eq_tag (w : World) : (binOp .eql 28 (.map none) (.map none)).run Try.prog w = .ok (.bool true) w := by kernel_rfl
theorem some_eq_tag (m : Nat) (w : World) : (binOp .eql 28 (.map (some m)) (.map none)).run Try.prog w = .ok (.bool false) w := by kernel_rfl
set_option maxRecDepth 100000 in
set_option maxHeartbeats 2000000 in
theorem put_tag_c (O : Nat → Prop) (root : Nat) (S : TrieS) (nb mb : List Int → Option Nat) (val : List Int → Option (Nat × Int)) (v : Int) (sk : Option Addr) (c : Nat) (p : List Int) (w : World) (hS : TrieOk S) (ht : Trie 30 78 encT w O root S nb mb val) (hl : p.length ≤ maxLen) (hc : p.length ≤ c) (hn : sizeS S + p.length < maxLen) (hk : IsInts w sk p.length (gl p)) (hkeys : ∀ x ∈ p, inKey x) (hsk : ∀ a, sk = some a → ¬ O a.block) :
    Calls Try.prog 33 #[.pointer (some ⟨root, 0, none⟩), .agg #[.int .i64 v, .string (tagS v)], .slice sk p.length c] w fun e w' => e = .returned (.bool (putB S p)) ∧ PutPost 30 78 encT O root S p v w w' := by
  have hl' := hl
  unfold maxLen at hl'
  have HL := Lib.hid hl
  have HN0 := Lib.hid hn
  clear hl hn
  have HT := Lib.hid ht
  have HK := Lib.hid hk
  have HKY := Lib.hid hkeys
  have HOK := Lib.hid hS
  have HSK := Lib.hid hsk
  clear ht hk hkeys hS hsk
  have hW : Below w.heap.size w (w.alloc (.cells #[.int .i64 v, .string (tagS v)] 78)) := (Below.refl _ _).alloc (Nat.le_refl _) _
  have HW := Lib.hid hW
  clear hW
  by_cases h0 : p.length = 0
  · have hp : p = [] := List.eq_nil_of_length_eq_zero h0
    subst hp
    go_enter Try.func33, Try.ntmps33
    go_wp2
    go_ret
    exact ⟨rfl, PutPost.no HT.out HW.out rfl⟩
  · have z0 : ((p.length : Int) == 0) = false := by rw [beq_eq_false_iff_ne]; omega
    have H0 := Lib.hid h0
    clear h0
    go_enter Try.func33, Try.ntmps33
    go_wp2_with fail
    refine (look_tag_c O root S nb mb val sk c p _ HOK.out (HT.out.later HW.out) HL.out (HK.out.later HW.out) HKY.out).mono ?_
    rintro e w1 ⟨rfl, hb⟩
    have HB := Lib.hid (bt HW.out hb)
    have HV := Lib.hid ((hb.block _ (by simp)).trans (one_new w (.cells (encT v) 78)))
    clear hb
    cases hpre : preB S p
    · rw [lookS_bad hpre]
      have HPRE := Lib.hid hpre
      clear hpre
      go_wp2_with fail
      have HB2 := Lib.hid (HB.out.alloc (by have := HB.out.size; omega) (.cells #[.int .i64 0, .string (tagS 0)] 78))
      have HV2 := Lib.hid ((Below.heap_alloc w1 (.cells #[.int .i64 0, .string (tagS 0)] 78) _ (heap_lt HV.out)).trans HV.out)
      clear HB HV
      go_loopg [0, 2, 27] p.length (fun g tv kv iv wr => ∃ i b n' c' : Nat, ∃ s', i + g = p.length ∧ tv = .pointer (some ⟨b, 0, none⟩) ∧ kv = .slice s' n' c' ∧ i + n' = p.length ∧ n' ≤ c' ∧ iv = .int .i64 i ∧ nb (p.take i) = some b ∧ (∀ j, 0 < j → j ≤ i → val (p.take j) = none) ∧ IsInts w s' n' (fun j => gl p (i + j)) ∧ (∀ a, s' = some a → ¬ O a.block) ∧ ∃ w2, Below w.heap.size w w2 ∧ w2.heap[w.heap.size]? = some (.cells (encT v) 78 (0, 0)) ∧ w2 = wr)
      case atStart => exact ⟨0, root, p.length, c, sk, by omega, rfl, rfl, by omega, hc, rfl, HT.out.gt.root, fun j h1 h2 => by omega, HK.out.same (fun i _ => by rw [Nat.zero_add]), HSK.out, _, HB2.out, HV2.out, rfl⟩
      case round =>
        obtain ⟨i, b, n', c', s', hg, rfl, rfl, hn', hc', rfl, hb0, hv0, hk', hs', w2, hb2', hv2', rfl⟩ := hrel
        clear HB2 HV2
        have HB := Lib.hid hb2'
        have HV := Lib.hid hv2'
        clear hb2' hv2'
        have HN := Lib.hid hb0
        have HV0 := Lib.hid hv0
        have HK2 := Lib.hid hk'
        have HS2 := Lib.hid hs'
        clear hb0 hv0 hk' hs'
        by_cases hlt : i < p.length
        · obtain ⟨bs, off, rfl, c0⟩ := HK.out.at HB.out hlt
          have hbl := HT.out.gt.node_lt HN.out
          have hnd := HT.out.gt.node _ _ HN.out
          have c1 : w2.cell? ⟨b, 1, none⟩ = some (.map (mb (p.take i))) := (HB.out.cell (p := ⟨b, 1, none⟩) hbl).trans (block_cell hnd)
          clear hnd
          have hkey : inKey (gl p i) := HKY.out _ (by unfold gl; rw [List.getD_eq_getElem?_getD, List.getElem?_eq_getElem hlt]; exact List.getElem_mem hlt)
          have hlook := HT.out.gt.lookup HB.out Try.underlying28 (zero_tag _) (p := p.take i) hkey
          rw [show p.take i ++ [gl p i] = p.take (i + 1) from by rw [take_next hlt]; unfold gl; rw [List.getD_eq_getElem?_getD, List.getElem?_eq_getElem hlt]; rfl] at hlook
          cases hnx : nb (p.take (i + 1)) with
          | some b' =>
            rw [hnx] at hlook
            replace hlook : _ = Result.ok (Value.pointer (some ⟨b', 0, none⟩)) w2 := hlook
            have hbl' := HT.out.gt.node_lt hnx
            have hnd := HT.out.gt.node _ _ hnx
            have c2 : w2.cell? ⟨b', 0, none⟩ = some (ptrO ((val (p.take (i + 1))).map (·.1))) := (HB.out.cell (p := ⟨b', 0, none⟩) hbl').trans (block_cell hnd)
            have HN2 := Lib.hid hnx
            clear hnx hkey hnd
            cases hv : val (p.take (i + 1)) with
            | some x =>
              have HPUT := Lib.hid (HT.out.put_no hv)
              rw [hv] at c2
              replace c2 : w2.cell? ⟨b', 0, none⟩ = some (.pointer (some ⟨x.1, 0, none⟩)) := c2
              clear hv
              go_wp2
              go_ret
              exact ⟨ret_bool HPUT.out.symm, PutPost.no HT.out HB.out HPUT.out⟩
            | none =>
              rw [hv] at c2
              replace c2 : w2.cell? ⟨b', 0, none⟩ = some (.pointer none) := c2
              have HV1 := Lib.hid hv
              clear hv
              have hkk := HK2.out
              rcases hkk with hz | ⟨b2, o2, rfl, hb2, hc2⟩
              · exfalso; omega
              · have HC2 := Lib.hid hc2
                clear hc2
                have q1 : (1 : Int) ≤ (n' : Int) := by omega
                have q2 : (n' : Int) ≤ (c' : Int) := by omega
                go_wp2
                all_goals
                  go_roundg (gk - 1)
                  case measure => omega
                  case rel =>
                    refine ⟨i + 1, b', n' - 1, _, _, by omega, rfl, rfl, by omega, by omega, by go_num, HN2.out, fun j h1 h2 => ?_, ?_, ?_⟩
                    · by_cases e : j = i + 1
                      · rw [e]; exact HV1.out
                      · exact HV0.out j h1 (by omega)
                    · first
                        | exact .inl (by omega)
                        | exact .inr ⟨b2, o2 + 1, rfl, hb2, fun j hj => by
                            have := HC2.out (j + 1) (by omega)
                            show w.cell? ⟨b2, o2 + 1 + j, none⟩ = some (.int .i64 (gl p (i + 1 + j)))
                            rw [show o2 + 1 + j = o2 + (j + 1) from by omega, show i + 1 + j = i + (j + 1) from by omega]; exact this⟩
                    · exact ⟨(fun a ha => by injection ha with ha; subst ha; exact HS2.out ⟨b2, o2, none⟩ rfl), _, HB.out, HV.out, rfl⟩
          | none =>
            rw [hnx] at hlook
            replace hlook : _ = Result.ok (Value.pointer none) w2 := hlook
            have HNX := Lib.hid hnx
            clear hnx
            have hpath : Path 30 78 encT w (wider O w.heap.size) root S nb val p i i b nb mb := (Path.start HT.out hlt HN.out HNX.out).wide (fun b hb => .inl hb)
            replace hpath := hpath.kept (fun q hq _ => HB.out.block q hq)
            have HPA := Lib.hid hpath
            have HTO := Lib.hid (Touch.of (O := wider O w.heap.size) HB.out)
            have HPY := Lib.hid (HT.out.put_yes HOK.out hlt HPRE.out HNX.out HV0.out)
            clear hpath
            go_wp2_with fail
            clear hlook c0 c1 hkey
            go_loopg [0, 54] n' (fun g tv iv wz => ∃ j bj : Nat, ∃ nb' mb', j + g = n' ∧ tv = .pointer (some ⟨bj, 0, none⟩) ∧ iv = .int .i64 j ∧ Path 30 78 encT wz (wider O w.heap.size) root S nb val p i (i + j) bj nb' mb' ∧ wz.heap[w.heap.size]? = some (.cells (encT v) 78 (0, 0)) ∧ Touch (wider O w.heap.size) w wz)
            case atStart => exact ⟨0, b, nb, mb, by omega, rfl, rfl, HPA.out, HV.out, HTO.out⟩
            case round =>
              clear HPA HTO HV
              obtain ⟨j, bj, nb', mb', hgj, rfl, rfl, hpa, hbx, hto⟩ := hrel
              have HPA := Lib.hid hpa
              have HBX := Lib.hid hbx
              have HTO := Lib.hid hto
              clear hpa hbx hto
              by_cases hjl : j < n'
              · have hkk := HK2.out
                rcases hkk with hz | ⟨b2, o2, rfl, hb2, hc2⟩
                · exfalso; omega
                · have hc3 := hc2 j hjl
                  have c0 : wr.cell? ⟨b2, o2 + j, none⟩ = some (.int .i64 (gl p (i + j))) := (World.cell?_of_block (w := w) (HTO.out.block b2 hb2 (fun h => h.elim (HS2.out ⟨b2, o2, none⟩ rfl) (fun h => by omega)))).trans hc3
                  clear hc2 hc3
                  have hnd := HPA.out.gt.node _ _ HPA.out.at_
                  have hbj := heap_lt hnd
                  have c1 : wr.cell? ⟨bj, 1, none⟩ = some (.map (mb' (p.take (i + j)))) := block_cell hnd
                  have f1 : wr.frozen? ⟨bj, 1, none⟩ = false := block_free hnd
                  clear hnd
                  have hij : i + j < p.length := by omega
                  have hkey : inKey (gl p (i + j)) := HKY.out _ (by unfold gl; rw [List.getD_eq_getElem?_getD, List.getElem?_eq_getElem hij]; exact List.getElem_mem hij)
                  have hTne : (78 : TypeId) ≠ 30 := by decide
                  have hwide : ∀ q, wr.heap.size ≤ q → wider O w.heap.size q := fun q hq => .inr (Nat.le_trans HTO.out.size hq)
                  have hxb := heap_lt HBX.out
                  have hxbj : w.heap.size ≠ bj := by
                    intro e
                    have h1 := HBX.out
                    skip
                    rw [e, HPA.out.gt.node _ _ HPA.out.at_] at h1
                    injection h1 with h1
                    injection h1 with _ h1
                    exact hTne h1.symm
                  cases hm : mb' (p.take (i + j)) with
                  | none =>
                    rw [hm] at c1
                    have hnq := nil_eq_tag wr
                    have hmk := run_makeMap (P := Try.prog) 28 wr
                    obtain ⟨w4, hrun, hp4, ht4, ho4⟩ := HPA.out.put_none hij rfl hkey hm Try.underlying28 hwide hTne
                    have HP4 := Lib.hid hp4
                    have HT4 := Lib.hid (HTO.out.trans ht4 (fun x hx => .inl hx))
                    have hbx4 : w4.heap[w.heap.size]? = some (.cells (encT v) 78 (0, 0)) := (ho4 _ hxb hxbj).trans HBX.out
                    have HX4 := Lib.hid hbx4
                    clear hp4 ht4 ho4 hbx4 hm hkey hwide hxbj hTne
                    go_wp2
                    go_roundg (gk - 1)
                    case measure => omega
                    case rel =>
                      obtain ⟨nb2, mb2, hp4⟩ := HP4.out
                      exact ⟨j + 1, _, nb2, mb2, by omega, rfl, by go_num, hp4, HX4.out, HT4.out⟩
                  | some m =>
                    rw [hm] at c1
                    have hnq := some_eq_tag m wr
                    obtain ⟨w4, hrun, hp4, ht4, ho4⟩ := HPA.out.put_some hij rfl hkey hm Try.underlying28 hwide hTne (by have := HN0.out; have := HPA.out.lp; omega)
                    have HP4 := Lib.hid hp4
                    have HT4 := Lib.hid (HTO.out.trans ht4 (fun x hx => .inl hx))
                    have hbx4 : w4.heap[w.heap.size]? = some (.cells (encT v) 78 (0, 0)) := (ho4 _ hxb (fun e => by
                      obtain ⟨es, cl, h2⟩ := (HPA.out.gt.kmap _ _ hm).isMap
                      have h1 := HBX.out
                      skip
                      rw [e, h2] at h1; cases h1)).trans HBX.out
                    have HX4 := Lib.hid hbx4
                    clear hp4 ht4 ho4 hbx4 hm hkey hwide hxbj hTne
                    go_wp2
                    go_roundg (gk - 1)
                    case measure => omega
                    case rel =>
                      obtain ⟨nb2, mb2, hp4⟩ := HP4.out
                      exact ⟨j + 1, _, nb2, mb2, by omega, rfl, by go_num, hp4, HX4.out, HT4.out⟩
              · have hlast : i + j = p.length := by omega
                have hnd := HPA.out.gt.node _ _ HPA.out.at_
                have hbj := heap_lt hnd
                have f1 : wr.frozen? ⟨bj, 0, none⟩ = false := block_free hnd
                have c0 : wr.cell? ⟨bj, 0, none⟩ = some (ptrO ((val (p.take (i + j))).map (·.1))) := block_cell hnd
                have hOb := HPA.out.gt.own_n _ _ HPA.out.at_
                have hpa := HPA.out
                rw [hlast] at hpa
                have hfin := hpa.done HT.out w.heap.size v HBX.out (.inr (Nat.le_refl _)) (by decide)
                have htf := (HTO.out.trans (Touch.setCell (wider O w.heap.size) wr (p := ⟨bj, 0, none⟩) hOb (.pointer (some ⟨w.heap.size, 0, none⟩))) (fun x hx => .inl hx)).wide (O' := O) (fun q hq h => h.elim id (fun h => by omega))
                have HFIN := Lib.hid hfin
                have HTF := Lib.hid htf
                clear hfin htf hpa hnd hOb hlast
                go_wp2
                go_ret
                refine ⟨ret_bool HPY.out.symm, HTF.out, ?_⟩
                rw [if_pos HPY.out]
                exact HFIN.out
        · exfalso
          obtain rfl : i = p.length := by omega
          have hno := HN.out
          rw [List.take_length] at hno
          rcases (HT.out.dom p).1 (by rw [hno]; simp) with e | e
          · exact H0.out (by rw [e]; rfl)
          · rw [HPRE.out] at e; cases e
    · have hne := lookS_pre hpre
      have HPUT := Lib.hid (put_pre hpre)
      clear hpre
      generalize lookS S p = q at hne ⊢
      obtain ⟨q1, q2⟩ := q
      replace hne : (((q2 : Nat) : Int) == 2) = false := hne
      go_wp2
      go_ret
      exact ⟨ret_bool HPUT.out.symm, PutPost.no HT.out (HB.out.alloc (by have := HB.out.size; omega) _) HPUT.out⟩
end Go.Proofs.Ytampjndfhpjheaa
