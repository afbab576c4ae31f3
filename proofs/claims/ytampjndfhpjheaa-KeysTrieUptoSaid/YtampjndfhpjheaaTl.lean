/- The Put of the document's trie. Condition: fewer than 2^30 rows, rows of fewer than 2^30 keys. -/
import Derived.Test.YtampjndfhpjheaaTk
import Derived.Deep.RegionHeld3
namespace Go.Proofs.Ytampjndfhpjheaa
open Go.RowKit
/-- the document's trie of the rows S -/
def RT (w : World) (O : Nat → Prop) (r : Nat) (S : TrieS) : Prop := ∃ sR cR sV cV qs, RH w O r (S.map (·.1)) (S.map (·.2)) sR cR sV cV qs
theorem putB_at {S : TrieS} {p : List Int} {x : List Int × Int} (hx : x ∈ S) (h : (p.isPrefixOf x.1 || x.1.isPrefixOf p) = true) : putB S p = false := by
  unfold putB
  have : S.all (fun r => !r.1.isPrefixOf p && !p.isPrefixOf r.1) = false := by
    rw [List.all_eq_false]
    refine ⟨x, hx, ?_⟩
    rcases (by simpa [Bool.or_eq_true] using h : p.isPrefixOf x.1 = true ∨ x.1.isPrefixOf p = true) with e | e <;> simp [e]
  rw [this, Bool.and_false]
theorem putB_all {S : TrieS} {p : List Int} (h0 : p.length ≠ 0) (h : ∀ j (hj : j < S.length), j < S.length → (p.isPrefixOf S[j].1 || S[j].1.isPrefixOf p) = false) : putB S p = true := by
  unfold putB
  rw [Bool.and_eq_true, List.all_eq_true]
  refine ⟨by cases p with | nil => exact absurd rfl h0 | cons _ _ => rfl, fun x hx => ?_⟩
  obtain ⟨j, hj, rfl⟩ := List.mem_iff_getElem.1 hx
  have := h j hj hj
  rw [Bool.or_eq_false_iff] at this
  simp [this.1, this.2]
/-- what a Put leaves -/
def RPut (O : Nat → Prop) (r : Nat) (S : TrieS) (p : List Int) (v : Int) (w w' : World) : Prop :=
  Touch O w w' ∧ RT w' (wider O w.heap.size) r (if putB S p = true then S ++ [(p, v)] else S)
theorem RPut.no {O : Nat → Prop} {r : Nat} {S : TrieS} {p : List Int} {v : Int} {w w' : World} (h : RT w O r S) (hb : Below w.heap.size w w') (hp : putB S p = false) : RPut O r S p v w w' := by
  refine ⟨Touch.of hb, ?_⟩
  rw [if_neg (by rw [hp]; decide)]
  obtain ⟨sR, cR, sV, cV, qs, h⟩ := h
  exact ⟨sR, cR, sV, cV, qs, (h.later hb).wide (fun b hb => .inl hb)⟩
/-- joined of one list that is not empty -/
theorem joined_q (sa : Option Addr) (c : Nat) (p : List Int) (w : World) (hn : p.length < 1073741824) (h0 : p.length ≠ 0) (hr : IsInts w sa p.length (gl p)) :
    Calls Try.prog 59 #[.slice sa p.length c, .slice none 0 0, .slice none 0 0] w fun e w' => ∃ q : QuietD, e = .returned (.slice (some ⟨q.g, 0, none⟩) q.n q.c) ∧ QOk w' q ∧ q.n = p.length ∧ q.l = p ∧ w.heap.size ≤ q.g ∧ Below w.heap.size w w' := by
  refine (joined13_c sa p.length c (gl p) w (by omega) hr).mono ?_
  rintro e w' ⟨s, c', rfl, ho, hb⟩
  rcases ho.row with h | ⟨g, rfl, hg, _⟩
  · exact absurd h h0
  · refine ⟨⟨g, p.length, c', p⟩, rfl, ?_, rfl, rfl, hg, hb⟩
    unfold QOk qval
    exact OwnInts.as (ho.mono (Nat.zero_le _)) (lst_get p)
theorem RH.row {w w3 : World} {O : Nat → Prop} {r : Nat} {S : TrieS} {sR : Option Addr} {cR : Nat} {sV : Option Addr} {cV : Nat} {qs : List QuietD} (h : RH w O r (S.map (·.1)) (S.map (·.2)) sR cR sV cV qs) (hg : w.grownBy w3 (Value.slice sR S.length cR).ownBlock) :
    w3.heap[r]? = some (.cells #[.slice sR S.length cR, .slice sV S.length cV] 35 (0, 0)) := by
  refine (hg.block r (heap_lt h.blk) (fun e => ?_)).trans h.trie.blk
  obtain ⟨cs, h1⟩ := h.type_R (b := r) (by rw [List.length_map]; exact e.symm)
  exact type_ne h1 h.blk (by decide) rfl
theorem RH.row2 {w w3 : World} {O : Nat → Prop} {r : Nat} {R : List (List Int)} {V : List Int} {sR : Option Addr} {cR : Nat} {sV : Option Addr} {cV : Nat} {qs : List QuietD} (h : RH w O r R V sR cR sV cV qs) (hg : w.grownBy w3 (Value.slice sV V.length cV).ownBlock) :
    w3.heap[r]? = some (.cells #[.slice sR R.length cR, .slice sV V.length cV] 35 (0, 0)) := by
  refine (hg.block r (heap_lt h.blk) (fun e => ?_)).trans h.blk
  obtain ⟨cs, h1⟩ := h.type_V (b := r) e.symm
  exact type_ne h1 h.blk (by decide) rfl
theorem RH.mid {w w2 w3 : World} {O : Nat → Prop} {r : Nat} {S : TrieS} {sR : Option Addr} {cR : Nat} {sV : Option Addr} {cV : Nat} {qs : List QuietD} {q : QuietD} {p : List Int} {s' : Option Addr} {c' : Nat}
    (h : RH w O r (S.map (·.1)) (S.map (·.2)) sR cR sV cV qs) (hb : Below w.heap.size w w2) (hq : QOk w2 q) (hqn : q.n = p.length) (hql : q.l = p) (hqg : w.heap.size ≤ q.g)
    (ho : OwnQ w3 0 (.slice s' (S.length + 1) c') (qs ++ [q])) (hg : w2.grownBy w3 (Value.slice sR S.length cR).ownBlock) (hat : (Value.slice s' (S.length + 1) c').ownBlock = (Value.slice sR S.length cR).ownBlock ∨ ∃ b, (Value.slice s' (S.length + 1) c').ownBlock = some b ∧ w2.heap.size ≤ b) :
    RH (w3.setCell ⟨r, 0, none⟩ (.slice s' (S.length + 1) c')) (wider O w.heap.size) r (S.map (·.1) ++ [p]) (S.map (·.2)) s' c' sV cV (qs ++ [q]) ∧ Touch (wider O w.heap.size) w (w3.setCell ⟨r, 0, none⟩ (.slice s' (S.length + 1) c')) := by
  have h2 := (h.later hb).wide (O' := wider O w.heap.size) (fun b hb => .inl hb)
  obtain ⟨r1, r2⟩ := h2.pushRow (p := p) (s' := s') (c' := c') hq hqn hql (.inr hqg) (fun e => by have := (World.ownsRow.lt h.vals _ e).2; omega) (by rw [List.length_map]; exact ho) (by rw [List.length_map]; exact hg) (by rw [List.length_map]; exact hat) (fun b h => .inr (Nat.le_trans hb.size h))
  rw [List.length_map] at r1 r2
  exact ⟨r1, (Touch.of hb).trans r2 (fun x hx => .inl hx)⟩
theorem RH.fin {w w4 w5 : World} {O : Nat → Prop} {r : Nat} {S : TrieS} {s' : Option Addr} {c' : Nat} {sV : Option Addr} {cV : Nat} {qs : List QuietD} {p : List Int} {v : Int} {s2 : Option Addr} {c2 : Nat}
    (h : RH w4 (wider O w.heap.size) r (S.map (·.1) ++ [p]) (S.map (·.2)) s' c' sV cV qs) (ht : Touch (wider O w.heap.size) w w4) (hput : putB S p = true)
    (ho : OwnInts w5 0 (.slice s2 (S.length + 1) c2) (S.map (·.2) ++ [v])) (hg : w4.grownBy w5 (Value.slice sV S.length cV).ownBlock) (hat : (Value.slice s2 (S.length + 1) c2).ownBlock = (Value.slice sV S.length cV).ownBlock ∨ ∃ b, (Value.slice s2 (S.length + 1) c2).ownBlock = some b ∧ w4.heap.size ≤ b) :
    RPut O r S p v w (w5.setCell ⟨r, 1, none⟩ (.slice s2 (S.length + 1) c2)) := by
  obtain ⟨r1, r2⟩ := h.pushVal (v := v) (s' := s2) (c' := c2) (by rw [List.length_map]; exact ho) (by rw [List.length_map]; exact hg) (by rw [List.length_map]; exact hat) (fun b h => .inr (Nat.le_trans ht.size h))
  rw [List.length_map] at r1 r2
  refine ⟨(ht.trans r2 (fun x hx => .inl hx)).wide (fun b hb h => h.elim id (fun h => by omega)), ?_⟩
  rw [if_pos hput]
  refine ⟨s', c', s2, c2, qs, ?_⟩
  rw [List.map_append, List.map_append]
  exact r1
set_option maxRecDepth 100000 in
set_option maxHeartbeats 4000000 in
theorem rput_c (O : Nat → Prop) (r : Nat) (S : TrieS) (v : Int) (sk : Option Addr) (c : Nat) (p : List Int) (w : World) (hS : S.length < 1073741824) (hp : p.length < 1073741824) (hl : ∀ x ∈ S, x.1.length < 1073741824) (ht : RT w O r S) (hk : IsInts w sk p.length (gl p)) :
    Calls Try.prog 35 #[.pointer (some ⟨r, 0, none⟩), .int .i64 v, .slice sk p.length c] w fun e w' => e = .returned (.bool (putB S p)) ∧ RPut O r S p v w w' := by
  have HRT := Lib.hid ht
  obtain ⟨sR, cR, sV, cV, qs, hrh⟩ := ht
  have HT := Lib.hid hrh.trie
  have HRH := Lib.hid hrh
  have HK := Lib.hid hk
  clear hk hrh
  by_cases h0 : p.length = 0
  · have hpn : p = [] := List.eq_nil_of_length_eq_zero h0
    subst hpn
    go_enter Try.func35, Try.ntmps35
    go_wp2
    go_ret
    exact ⟨rfl, RPut.no HRT.out (Below.refl _ _) rfl⟩
  · have z0 : ((p.length : Int) == 0) = false := by rw [beq_eq_false_iff_ne]; omega
    have H0 := Lib.hid h0
    clear h0
    go_enter Try.func35, Try.ntmps35
    have hblk := HT.out.blk
    have hrl := heap_lt hblk
    have c0 : w.cell? ⟨r, 0, none⟩ = some (.slice sR S.length cR) := block_cell hblk
    have c1 : w.cell? ⟨r, 1, none⟩ = some (.slice sV S.length cV) := block_cell hblk
    have HC0 := Lib.hid c0
    have HC1 := Lib.hid c1
    clear hblk c0 c1
    go_wp2_with fail
    go_loopg [7] S.length (fun g iv wr => ∃ i : Nat, i + g = S.length ∧ iv = .int .i64 i ∧ (∀ j (hj : j < S.length), j < i → (p.isPrefixOf S[j].1 || S[j].1.isPrefixOf p) = false) ∧ Below w.heap.size w wr)
    case atStart => exact ⟨0, by omega, rfl, fun j _ h => by omega, Below.refl _ _⟩
    case round =>
      obtain ⟨i, hg, rfl, hpre, hb⟩ := hrel
      have HPRE := Lib.hid hpre
      have HB := Lib.hid hb
      clear hpre hb
      have c0 := (HB.out.cell (p := ⟨r, 0, none⟩) hrl).trans HC0.out
      have c1 := (HB.out.cell (p := ⟨r, 1, none⟩) hrl).trans HC1.out
      by_cases hlt : i < S.length
      · have hiq : i < qs.length := by rw [HT.out.len]; exact hlt
        obtain ⟨gQ, rfl, d0⟩ := HT.out.rows.cell hiq
        obtain ⟨e1, e2, e3⟩ := HT.out.each i hiq hlt
        have hgq := World.block_lt_of_cell? w _ d0
        have d1 := (HB.out.cell (p := ⟨gQ, i, none⟩) hgq).trans d0
        have hq := (qok_list e1).later HB.out
        have hvq : qval qs[i] = .slice (some ⟨qs[i].g, 0, none⟩) S[i].1.length qs[i].c := by unfold qval; rw [e2]
        rw [hvq] at d1
        rw [e2, e3] at hq
        have hbb : begB (gl S[i].1) S[i].1.length (gl p) p.length = p.isPrefixOf S[i].1 := begB_pre
        have hbb2 : begB (gl p) p.length (gl S[i].1) S[i].1.length = S[i].1.isPrefixOf p := begB_pre
        have hli := hl _ (List.getElem_mem hlt)
        have HQ := Lib.hid hq
        have HBB := Lib.hid hbb
        have HBB2 := Lib.hid hbb2
        have HPI := Lib.hid (fun (h2 : (p.isPrefixOf S[i].1 || S[i].1.isPrefixOf p) = false) j (hj : j < S.length) (hji : j < i + 1) => (show (p.isPrefixOf S[j].1 || S[j].1.isPrefixOf p) = false by
          by_cases e : j = i
          · subst e; exact h2
          · exact HPRE.out j hj (by omega)))
        have HNO := Lib.hid (fun (h2 : (p.isPrefixOf S[i].1 || S[i].1.isPrefixOf p) = true) => putB_at (List.getElem_mem hlt) h2)
        clear hq hbb hbb2 hvq e1 e2 e3 d0
        generalize qs[i].g = g0 at *
        generalize qs[i].c = k0 at *
        generalize hb1 : p.isPrefixOf S[i].1 = b1 at HBB HPI HNO
        generalize hb2 : S[i].1.isPrefixOf p = b2 at HBB2 HPI HNO
        clear hb1 hb2
        have q1 : (i : Int) < (S.length : Int) := by omega
        go_wp2_with fail
        refine (begins_any (some ⟨g0, 0, none⟩) sk S[i].1.length k0 p.length c _ _ _ (by unfold maxLen; omega) HQ.out (HK.out.later HB.out)).mono ?_
        rintro e w2 ⟨rfl, hb2⟩
        rw [HBB.out]
        have HB2 := Lib.hid (bt HB.out hb2)
        replace c0 := (HB2.out.cell (p := ⟨r, 0, none⟩) hrl).trans HC0.out
        replace c1 := (HB2.out.cell (p := ⟨r, 1, none⟩) hrl).trans HC1.out
        replace d1 := (hb2.cell (p := ⟨gQ, i, none⟩) (Nat.lt_of_lt_of_le hgq HB.out.size)).trans d1
        replace HQ := Lib.hid (HQ.out.later hb2)
        clear hb2
        cases b1
        · go_wp2_with fail
          refine (begins_any sk (some ⟨g0, 0, none⟩) p.length c S[i].1.length k0 _ _ _ (by unfold maxLen; omega) (HK.out.later HB2.out) HQ.out).mono ?_
          rintro e w3 ⟨rfl, hb3⟩
          rw [HBB2.out]
          have HB3 := Lib.hid (bt HB2.out hb3)
          clear hb3
          cases b2
          · go_wp2
            go_roundg (gk - 1)
            case measure => omega
            case rel => exact ⟨i + 1, by omega, by go_num, HPI.out rfl, HB3.out⟩
          · go_wp2
            go_ret
            exact ⟨ret_bool (HNO.out rfl).symm, RPut.no HRT.out HB3.out (HNO.out rfl)⟩
        · go_wp2
          go_ret
          exact ⟨ret_bool (HNO.out rfl).symm, RPut.no HRT.out HB2.out (HNO.out rfl)⟩
      · have HYES := Lib.hid (putB_all H0.out (S := S) (fun j hj _ => HPRE.out j hj (by omega)))
        go_wp2_with fail
        go_region_law (first
          | (go_simp; refine (joined_q sk c p _ hp H0.out (HK.out.later HB.out.drew)).mono ?_; rintro e w2 ⟨q, rfl, hq, hqn, hql, hqg, hb2⟩; have k0 := ((bt HB.out.drew hb2).cell (p := ⟨r, 0, none⟩) hrl).trans HC0.out; have hr2 := Nat.lt_of_lt_of_le hrl (bt HB.out.drew hb2).size; have k1 := ((below_new2 w2 (.cells #[.slice (some ⟨q.g, 0, none⟩) q.n q.c] 33)).cell (p := ⟨r, 0, none⟩) hr2).trans k0; have HR2 := Lib.hid (HRH.out.later (bt HB.out.drew hb2)); have hown2 := HR2.out.trie.rows; have HQN := Lib.hid hqn; have HQL := Lib.hid hql; have HQ := Lib.hid hq; have HB2 := Lib.hid hb2; clear hqn hql hq hb2)
          | (refine step_push_q q ?_ (.tmp 44) (.tmp 47) ?_ sR S.length cR qs ?_ ?_ hown2 HT.out.len.symm hS ?_; rfl; rfl; simp [Act.eval]; simp [Act.eval]; intro s' c' w3 ho hg3 hat; have hr3 := (by assumption : Hid (RH _ _ _ _ _ _ _ _ _ _)).out.row hg3; have k0 := block_cell (i := 0) hr3; have kf := block_free (i := 0) hr3))
        all_goals
          obtain ⟨hr4, ht4⟩ := HRH.out.mid (bt HB.out.drew HB2.out) HQ.out HQN.out HQL.out (Nat.le_trans HB.out.size hqg) ho hg3 hat
          clear hr3 k0 kf k1 ho hg3 hat hown2
          generalize w3.setCell ⟨r, 0, none⟩ (.slice s' (S.length + 1) c') = w4 at hr4 ht4 ⊢
          have hr4b := hr4.blk
          have k0 : w4.cell? ⟨r, 1, none⟩ = some (.slice sV S.length cV) := by rw [block_cell hr4b]; simp
          have hown3 : OwnInts w4 0 (.slice sV S.length cV) (S.map (·.2)) := by have := hr4.vals; rw [List.length_map] at this; exact this
          have hr4l := heap_lt hr4b
          clear hr4b
          have HR4 := Lib.hid hr4
          have HT4 := Lib.hid ht4
          clear hr4 ht4
          go_wp2_with (first | (at_builtin; refine wpList_push3 v rfl (.tmp 55) (.tmp 57) rfl 0 sV S.length cV (S.map (·.2)) rfl rfl hown3 (by omega) (Nat.zero_le _) ?_; intro s2 c2 w5 ho2 hg2 hat2; have hr5 := HR4.out.row2 (w3 := w5) (by rw [List.length_map]; exact hg2); have k1 := block_cell (i := 1) hr5; have kf := block_free (i := 1) hr5; have HF := Lib.hid (HR4.out.fin HT4.out HYES.out ho2 hg2 hat2); clear hr5 ho2 hg2 hat2))
          go_ret
          exact ⟨ret_bool HYES.out.symm, HF.out⟩
end Go.Proofs.Ytampjndfhpjheaa
