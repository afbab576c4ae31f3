/- Contracts: lent and hold of copyistlaw3: a list's room written full, and a list that goes on behind it. Condition: fewer than 2^30 members and as much room. -/
import Derived.Test.YtpipcmbfdcbboaaKb
import Derived.Test.YtpipcmbfdcbboaaKc
namespace Go.Proofs.Ytpipcmbfdcbboaa
open Go.RowKit
/-- all blocks that were there but g are as they were -/
def Only (g : Nat) (w w' : World) : Prop := w.grownBy w' (some g)
theorem Only.refl (g : Nat) (w : World) : Only g w w := ⟨rfl, rfl, rfl, Nat.le_refl _, fun _ _ _ => rfl⟩
theorem Only.trans {g : Nat} {a b c : World} (h : Only g a b) (k : Only g b c) : Only g a c := World.grownBy.trans h k
theorem Only.below {g B : Nat} {w w' : World} (h : Only g w w') (hB : B ≤ g) (hs : B ≤ w.heap.size) : Below B w w' :=
  ⟨h.os, h.tape, h.output, h.size, fun k hk => h.block k (by omega) (fun e => by injection e with e; omega)⟩
theorem Only.alloc {g : Nat} {w w' : World} (h : Only g w w') (o : Obj) : Only g w (w'.alloc o) := h.trans (World.grownBy_alloc w' o (some g))
/-- block g: c cells, the first k of them marks -/
def Blk (w : World) (g c k : Nat) (x : Int) : Prop := ∃ cs : Array Value, w.heap[g]? = some (.cells cs 3 (0, 0)) ∧ cs.size = c ∧ ∀ i, i < k → cs[i]? = some (.int .i64 x)
theorem Blk.block {w w' : World} {g c k : Nat} {x : Int} (h : Blk w g c k x) (e : w'.heap[g]? = w.heap[g]?) : Blk w' g c k x := by
  obtain ⟨cs, h1, h2⟩ := h
  exact ⟨cs, e.trans h1, h2⟩
theorem Blk.lt {w : World} {g c k : Nat} {x : Int} (h : Blk w g c k x) : g < w.heap.size := by
  obtain ⟨cs, h1, _⟩ := h
  exact heap_lt h1
theorem Blk.row {w : World} {g c : Nat} {x : Int} (h : Blk w g c c x) : IRow w g c (fun _ => x) := by
  obtain ⟨cs, h1, h2, h3⟩ := h
  exact ⟨cs, h1, by omega, h3⟩
theorem Blk.own {w : World} {g c n base : Nat} {x : Int} (h : Blk w g c c x) (hn : n ≤ c) (hc : c ≤ maxLen) (hb : base ≤ g) : OwnInts w base (.slice (some ⟨g, 0, none⟩) n c) (lst (fun _ => x) n) := by
  obtain ⟨cs, h1, h2, h3⟩ := h
  unfold OwnInts
  rw [lst_len]
  refine ⟨by rw [List.length_map, lst_len, Nat.mul_one], .inr ⟨g, c, cs, rfl, hb, h1, hn, hc, by omega, ?_⟩⟩
  rw [Nat.mul_one]
  apply List.ext_getElem
  · simp [lst]; omega
  · intro i h4 h5
    simp only [List.length_map, lst_len] at h5
    have := h3 i (by omega)
    rw [List.getElem_take, List.getElem_map]
    have e1 : cs.toList[i]'(by simp; omega) = .int .i64 x := by
      rw [Array.getElem?_eq_getElem (by omega)] at this
      simpa using this
    rw [e1]
    simp [lst]
theorem Blk.set {w : World} {g c k : Nat} {x : Int} (h : Blk w g c k x) (hk : k < c) : Blk (w.setCell ⟨g, k, none⟩ (.int .i64 x)) g c (k + 1) x := by
  obtain ⟨cs, h1, h2, h3⟩ := h
  refine ⟨cs.setIfInBounds k (.int .i64 x), ?_, by simpa using h2, fun i hi => ?_⟩
  · show (w.heap.modify g _)[g]? = _
    rw [Array.getElem?_modify, if_pos rfl, h1]; rfl
  · rw [Array.getElem?_setIfInBounds]
    by_cases hik : k = i
    · subst hik; rw [if_pos rfl, if_pos (by omega)]
    · rw [if_neg hik]; exact h3 i (by omega)
theorem Blk.cell {w : World} {g c k : Nat} {x : Int} (h : Blk w g c k x) {i : Nat} (hi : i < c) : (∃ v, w.cell? ⟨g, i, none⟩ = some v) ∧ w.frozen? ⟨g, i, none⟩ = false := by
  obtain ⟨cs, h1, h2, h3⟩ := h
  refine ⟨⟨cs[i]'(by omega), ?_⟩, by simp [World.frozen?, h1]⟩
  simp [World.cell?, h1]
theorem OwnInts.blk {w : World} {base n c g : Nat} {l : List Int} (h : OwnInts w base (.slice (some ⟨g, 0, none⟩) n c) l) (x : Int) : base ≤ g ∧ n ≤ c ∧ c ≤ maxLen ∧ Blk w g c 0 x := by
  rcases h.2 with ⟨h1, _⟩ | ⟨g', cap, cur, h1, hg, hgg, hnc, hcm, hcs, _⟩
  · cases h1
  · obtain ⟨h2, h3, h4⟩ := Value.slice.inj h1
    cases h2
    subst h4
    exact ⟨hg, by omega, hcm, cur, hgg, by omega, fun i hi => by omega⟩
/-- one mark more behind marks: in the room of block g, or in a new block -/
theorem wpList_push_mark {w : World} {ops : Array Oper} {rest : List Oper} {o : Oper} {a : Act} {Q : Exit → Act → World → Prop} (x : Int) (hgd : o.guard = none) (s y : Operand)
    (ho : o.op = .call { callee := .builtin .append, args := #[s, y], argTypes := #[22, 22] })
    (g n c : Nat) (hs : a.eval s = .slice (some ⟨g, 0, none⟩) n c) (hy : a.eval y = .slice (some ⟨w.heap.size, 0, none⟩) 1 1) (hblk : Blk w g c c x) (hn : n ≤ c) (hc : c ≤ maxLen) (hn32 : n < 4294967296)
    (h : ∀ s' c' w', OwnInts w' g (.slice s' (n + 1) c') (lst (fun _ => x) (n + 1)) → Blk w' g c c x → (s' = some ⟨g, 0, none⟩ ∧ c' = c ∧ n + 1 ≤ c ∨ ∃ b, s' = some ⟨b, 0, none⟩ ∧ w.heap.size ≤ b) → Only g w w' → wpList Try.prog ops Q rest (a.put o.dst (.slice s' (n + 1) c')) w') :
    wpList Try.prog ops Q (o :: rest) a (w.alloc (.cells #[.int .i64 x] 3)) := by
  obtain ⟨i0, hi, hz0, hz1, hz2⟩ := info_parts Try.infoInt
  have hgs := hblk.lt
  have hblk1 : Blk (w.alloc (.cells #[.int .i64 x] 3)) g c c x := hblk.block (Below.heap_alloc w _ g hgs)
  have hown := hblk1.own (n := n) (base := g) hn hc (Nat.le_refl _)
  have hown' := hown
  unfold OwnInts at hown'
  rw [lst_len] at hown'
  refine wpList_plain hgd fun K hK => ?_
  obtain ⟨v', w', hr, h2, h3, h4, h5⟩ := run_append_own_at (P := Try.prog) (w.alloc (.cells #[.int .i64 x] 3)) g 22 o.type 3 i0 (.int .i64 0) 1 8 Try.underlying22 hi hz0 hz1 hz2 rfl (by decide) _ n _ hown' ⟨w.heap.size, 0, none⟩ 1 1 [.int .i64 x] rfl (cell_one_new _ _ _) (ints_oneCell _ [x]) (by unfold maxLen; omega) (by omega) (by simp; omega)
  have hO : OwnInts w' g v' (lst (fun _ => x) (n + 1)) := by
    unfold OwnInts
    rw [lst_len, lst_succ, List.map_append]
    exact h2
  have hres : ∃ s' c', v' = .slice s' (n + 1) c' ∧ Blk w' g c c x ∧ (s' = some ⟨g, 0, none⟩ ∧ c' = c ∧ n + 1 ≤ c ∨ ∃ b, s' = some ⟨b, 0, none⟩ ∧ w.heap.size ≤ b) ∧ Only g w w' := by
    have hon : Only g w w' := (Only.refl g w).alloc (.cells #[.int .i64 x] 3) |>.trans h3
    obtain ⟨cs, c1, c2, c3⟩ := hblk1
    by_cases hroom : n + 1 ≤ c
    · have hr2 := run_append_room (P := Try.prog) (w.alloc (.cells #[.int .i64 x] 3)) 22 o.type 3 i0 Try.underlying22 hi g n c cs c1 ⟨w.heap.size, 0, none⟩ 1 1 [.int .i64 x] (by rw [hz1]; rfl) (cell_one_new _ _ _) (ints_oneCell _ [x]) hroom (by rw [hz1]; simp; omega)
      rw [hr] at hr2
      injection hr2 with e1 e2
      subst e1 e2
      refine ⟨_, _, rfl, ⟨_, setRow_heap _ g cs _ 3 _ c1, ?_, fun i hi => ?_⟩, .inl ⟨rfl, rfl, hroom⟩, hon⟩
      · rw [hz1]
        simp only [List.size_toArray, List.length_append, List.length_take, List.length_drop, Array.length_toList, List.length_cons, List.length_nil]
        omega
      · rw [hz1, List.getElem?_toArray, Nat.mul_one]
        have hx := c3 i hi
        by_cases h6 : i < n
        · rw [List.append_assoc, List.getElem?_append_left (by simp; omega), List.getElem?_take, if_pos h6]
          simpa using hx
        · by_cases h7 : i = n
          · subst h7
            rw [List.append_assoc, List.getElem?_append_right (by simp; omega)]
            simp [Nat.min_eq_left (show i ≤ cs.size by omega)]
          · rw [List.getElem?_append_right (by simp; omega), List.getElem?_drop]
            simp only [List.length_append, List.length_take, Array.length_toList, List.length_cons, List.length_nil]
            rw [show n + (0 + 1) + (i - (min n cs.size + (0 + 1))) = i from by omega]
            simpa using hx
    · have holds : ∀ j u, ((lst (fun _ => x) n).map (Value.int .i64))[j]? = some u → (w.alloc (.cells #[.int .i64 x] 3)).cell? ((⟨g, 0, none⟩ : Addr).add j) = some u := hown'.cells (g := g) rfl
      have hr2 := run_append_grow (P := Try.prog) (w.alloc (.cells #[.int .i64 x] 3)) 22 o.type 3 i0 (.int .i64 0) Try.underlying22 hi hz0 ⟨g, 0, none⟩ n c ((lst (fun _ => x) n).map (Value.int .i64)) (by rw [hz1]; exact hown'.1) holds ⟨w.heap.size, 0, none⟩ 1 1 [.int .i64 x] (by rw [hz1]; rfl) (cell_one_new _ _ _) (by omega) (by omega) (by rw [hz2]; exact growslice_fits (by omega) (by omega))
      rw [hr] at hr2
      injection hr2 with e1 e2
      subst e1 e2
      refine ⟨_, _, rfl, ⟨cs, ?_, c2, c3⟩, .inr ⟨_, rfl, by simp⟩, hon⟩
      rw [← c1]
      exact Below.heap_alloc _ _ g (by simp; omega)
  obtain ⟨s', c', rfl, hb, hw, hon⟩ := hres
  unfold Oper.wp execOp
  simp only [ho, resolve, invoke, builtin, Sem.run_bind, Sem.run_pure, Result.andThen_ok, List.map_toArray, List.map_cons, List.map_nil, hs, hy, hr]
  exact hK _ _ (h s' c' w' hO hb hw hon)
theorem h_set {w : World} {b i : Nat} {c : Array Value} {t : TypeId} {f : Nat × Nat} (v : Value) (h : w.heap[b]? = some (.cells c t f)) : (w.setCell ⟨b, i, none⟩ v).heap[b]? = some (.cells (c.setIfInBounds i v) t f) := by
  show (w.heap.modify b _)[b]? = _
  rw [Array.getElem?_modify, if_pos rfl, h]; rfl
/-- one member more behind a list of the call's own: what it leaves alone -/
theorem wpList_push3 {w : World} {ops : Array Oper} {rest : List Oper} {o : Oper} {a : Act} {Q : Exit → Act → World → Prop} (k : Int) (hgd : o.guard = none) (s x : Operand)
    (ho : o.op = .call { callee := .builtin .append, args := #[s, x], argTypes := #[22, 22] })
    (base : Nat) (sl : Option Addr) (j c : Nat) (l : List Int) (hs : a.eval s = .slice sl j c) (hx : a.eval x = .slice (some ⟨w.heap.size, 0, none⟩) 1 1) (hown : OwnInts w base (.slice sl j c) l) (hj : j < 4294967296) (hbase : base ≤ w.heap.size)
    (h : ∀ s' c' w', OwnInts w' base (.slice s' (j + 1) c') (l ++ [k]) → w.grownBy w' (Value.slice sl j c).ownBlock → ((Value.slice s' (j + 1) c').ownBlock = (Value.slice sl j c).ownBlock ∨ ∃ b, (Value.slice s' (j + 1) c').ownBlock = some b ∧ w.heap.size ≤ b) → wpList Try.prog ops Q rest (a.put o.dst (.slice s' (j + 1) c')) w') :
    wpList Try.prog ops Q (o :: rest) a (w.alloc (.cells #[.int .i64 k] 3)) := by
  obtain rfl := hown.len
  obtain ⟨i0, hi, hz0, hz1, hz2⟩ := info_parts Try.infoInt
  refine wpList_append_own_at _ hgd s x 22 ho base 3 i0 (.int .i64 0) 1 8 Try.underlying22 hi hz0 hz1 hz2 rfl (by decide) _ _ _ hs (hown.alloc _) ⟨w.heap.size, 0, none⟩ 1 1 [.int .i64 k] hx rfl (cell_one_new _ _ _) (ints_oneCell _ [k]) (by unfold maxLen; omega) (by omega) (by simp; omega) ?_
  intro v' w1 hown' hgrow _ hat
  obtain ⟨hp1, hp2, hp3, s', n2, c', rfl, hn2⟩ := own_push2 hown hown' hgrow hbase
  subst hn2
  refine h s' c' w1 hp1 (World.grownBy.trans (World.grownBy_alloc w _ _) hgrow) ?_
  rcases hat with e | e
  · exact .inl e
  · exact .inr ⟨_, e, by simp⟩
set_option maxRecDepth 100000 in
set_option maxHeartbeats 4000000 in
theorem hold_c (g n c : Nat) (x : Int) (l : List Int) (w : World) (hn : 0 < n) (hn30 : n < 1000000000) (ho : OwnInts w 0 (.slice (some ⟨g, 0, none⟩) n c) l) :
    Calls Try.prog 31 #[.slice (some ⟨g, 0, none⟩) n c, .int .i64 x] w fun e w' => ∃ s2 n2 c2, e = .returned (.agg #[.slice (some ⟨g, 0, none⟩) c c, .slice s2 n2 c2, .int .i64 x]) ∧
      n2 < 1073741824 ∧ Blk w' g c c x ∧ OwnInts w' 0 (.slice s2 n2 c2) (lst (fun _ => x) n2) ∧ (∀ b, (Value.slice s2 n2 c2).ownBlock = some b → b = g ∨ w.heap.size ≤ b) ∧ Only g w w' := by
  obtain ⟨_, hnc, hcm, hblk⟩ := ho.blk x
  have HBLK := Lib.hid hblk
  clear ho hblk
  have hcb : c ≤ 9223372036854775807 := by unfold maxLen at hcm; omega
  have r1 : (0 : Int) ≤ (c : Int) := by omega
  have r2 : (n : Int) ≤ (c : Int) := by omega
  go_enter Try.func31, Try.ntmps31
  have hh0 : (w.alloc (.cells #[.slice none 0 0, .slice none 0 0, .int .i64 0] 44)).heap[w.heap.size]? = some (.cells #[.slice none 0 0, .slice none 0 0, .int .i64 0] 44 (0, 0)) := by
    show (w.heap.push _)[w.heap.size]? = _
    simp
  have HH := Lib.hid hh0
  have HON := Lib.hid ((Only.refl g w).alloc (.cells #[.slice none 0 0, .slice none 0 0, .int .i64 0] 44))
  have hgs := HBLK.out.lt
  replace HBLK := Lib.hid (HBLK.out.block (Below.heap_alloc w (.cells #[.slice none 0 0, .slice none 0 0, .int .i64 0] 44) g hgs))
  clear hh0
  go_wp2_with fail
  go_loopg [6] c (fun gg iv wr => ∃ k : Nat, k + gg = c ∧ iv = .int .i64 k ∧ Blk wr g c k x ∧ Only g w wr ∧ wr.heap[w.heap.size]? = some (.cells #[.slice none 0 0, .slice none 0 0, .int .i64 0] 44 (0, 0)))
  case atStart => exact ⟨0, by omega, rfl, HBLK.out, HON.out, HH.out⟩
  case round =>
    clear HBLK HON HH
    obtain ⟨k, hk, rfl, hb, hon, hh⟩ := hrel
    have HBLK := Lib.hid hb
    have HON := Lib.hid hon
    have HH := Lib.hid hh
    clear hb hon hh
    by_cases hlt : k < c
    · obtain ⟨⟨v0, d1⟩, d2⟩ := HBLK.out.cell hlt
      have e1 : (k : Int) < (c : Int) := by omega
      go_wp2
      go_roundg (gk - 1)
      case measure => omega
      case rel =>
        refine ⟨k + 1, by omega, by go_num, HBLK.out.set hlt, HON.out.trans ⟨rfl, rfl, rfl, by simp [World.setCell], fun b _ hne => Below.heap_setCell _ ⟨g, k, none⟩ _ b (fun e => hne (by rw [e]))⟩, ?_⟩
        rw [Below.heap_setCell _ ⟨g, k, none⟩ _ _ (by show w.heap.size ≠ g; omega)]
        exact HH.out
    · obtain rfl : c = k := by omega
      go_wp2_with fail
      go_loopg [7, 8] 100 (fun gg mv iv wz => ∃ k : Nat, ∃ sM : Option Addr, ∃ nM cM : Nat, k + gg = 100 ∧ nM = n + k ∧ mv = .slice sM nM cM ∧ iv = .int .i64 k ∧ Blk wz g c c x ∧ OwnInts wz g (.slice sM nM cM) (lst (fun _ => x) nM) ∧
        (sM = some ⟨g, 0, none⟩ ∧ cM = c ∧ nM ≤ c ∨ ∃ b, sM = some ⟨b, 0, none⟩ ∧ w.heap.size < b) ∧ Only g w wz ∧ w.heap.size < wz.heap.size ∧ wz.heap[w.heap.size]? = some (.cells #[.slice none 0 0, .slice none 0 0, .int .i64 0] 44 (0, 0)))
      case atStart => exact ⟨0, some ⟨g, 0, none⟩, n, c, by omega, by omega, rfl, rfl, HBLK.out, HBLK.out.own hnc hcm (Nat.le_refl _), .inl ⟨rfl, rfl, hnc⟩, HON.out, heap_lt HH.out, HH.out⟩
      case round =>
        clear HBLK HON HH
        obtain ⟨k, sM, nM, cM, hk, hnM, rfl, rfl, hb, ho, hph, hon, hsz, hh⟩ := hrel
        have HBLK := Lib.hid hb
        have HO := Lib.hid ho
        have HON := Lib.hid hon
        have HH := Lib.hid hh
        clear hb ho hon hh
        have HNM := Lib.hid hnM
        clear hnM
        by_cases hlt : k < 100
        · have e1 : (k : Int) < 100 := by omega
          have hnMb : nM < 1073742000 := by have := HNM.out; omega
          rcases hph with ⟨rfl, rfl, hle⟩ | ⟨b, rfl, hbb⟩
          · go_wp2_with (first | (at_builtin; refine wpList_push_mark x rfl _ _ rfl g nM cM rfl rfl HBLK.out hle hcm (by omega) ?_; intro s' c' w2 ho2 hb2 hp2 hon2; have HO2 := Lib.hid ho2; have HB2 := Lib.hid hb2; have HP2 := Lib.hid hp2; have HON2 := Lib.hid hon2; clear ho2 hb2 hp2 hon2))
            go_roundg (gk - 1)
            case measure => omega
            case rel =>
              refine ⟨k + 1, s', nM + 1, c', by omega, by have := HNM.out; omega, rfl, by go_num, HB2.out, HO2.out, ?_, HON.out.trans HON2.out, Nat.lt_of_lt_of_le hsz HON2.out.size, ?_⟩
              · rcases HP2.out with ⟨h1, h2, h3⟩ | ⟨b, h1, h2⟩
                · exact .inl ⟨h1, h2, h3⟩
                · exact .inr ⟨b, h1, by omega⟩
              · rw [HON2.out.block _ hsz (fun e => by injection e with e; omega)]; exact HH.out
          · go_wp2_with (first | (at_builtin; refine wpList_push3 x rfl _ _ rfl g _ _ _ _ rfl rfl HO.out (by omega) (by have := HBLK.out.lt; omega) ?_; intro s' c' w2 ho2 hg2 hp2; have HO2 := Lib.hid ho2; have HG2 := Lib.hid hg2; have HP2 := Lib.hid hp2; clear ho2 hg2 hp2))
            go_roundg (gk - 1)
            case measure => omega
            case rel =>
              have hgg := HBLK.out.lt
              have hgb : ∀ q, q < wr.heap.size → q ≠ b → w2.heap[q]? = wr.heap[q]? := fun q hq hne => HG2.out.block q hq (fun e => hne (by simpa [Value.ownBlock] using e))
              refine ⟨k + 1, s', nM + 1, c', by omega, by have := HNM.out; omega, rfl, by go_num, HBLK.out.block (hgb g hgg (by omega)), OwnInts.as HO2.out (lst_succ _ _).symm, .inr ?_, ⟨HG2.out.os.trans HON.out.os, HG2.out.tape.trans HON.out.tape, HG2.out.output.trans HON.out.output, Nat.le_trans HON.out.size HG2.out.size, fun q hq hne => (hgb q (by omega) (by omega)).trans (HON.out.block q hq hne)⟩, Nat.lt_of_lt_of_le hsz HG2.out.size, ?_⟩
              · rcases HO2.out.2 with ⟨h1, h2⟩ | ⟨g', cap, cur, h1, hg', _⟩
                · rw [List.length_append] at h2; simp at h2
                · obtain ⟨h3, _, _⟩ := Value.slice.inj h1
                  refine ⟨g', h3, ?_⟩
                  have hp := HP2.out
                  rw [h3] at hp
                  rcases hp with e | ⟨q, e, hq⟩
                  · have : g' = b := by simpa [Value.ownBlock] using e
                    omega
                  · have : g' = q := by simpa [Value.ownBlock] using e
                    omega
              · rw [hgb _ hsz (by omega)]; exact HH.out
        · obtain rfl : k = 100 := by omega
          have hx0 := HH.out
          have c0 : wr.cell? ⟨w.heap.size, 0, none⟩ = some (.slice none 0 0) := block_cell hx0
          have f0 : wr.frozen? ⟨w.heap.size, 0, none⟩ = false := by simp [World.frozen?, hx0]
          have hx1 : ∀ v, (wr.setCell ⟨w.heap.size, 0, none⟩ v).heap[w.heap.size]? = some (.cells #[v, .slice none 0 0, .int .i64 0] 44 (0, 0)) := fun v => h_set v hx0
          have c1 : ∀ v, (wr.setCell ⟨w.heap.size, 0, none⟩ v).cell? ⟨w.heap.size, 1, none⟩ = some (.slice none 0 0) := fun v => block_cell (hx1 v)
          have f1 : ∀ v, (wr.setCell ⟨w.heap.size, 0, none⟩ v).frozen? ⟨w.heap.size, 1, none⟩ = false := fun v => by simp [World.frozen?, hx1 v]
          have hx2 : ∀ v u, ((wr.setCell ⟨w.heap.size, 0, none⟩ v).setCell ⟨w.heap.size, 1, none⟩ u).heap[w.heap.size]? = some (.cells #[v, u, .int .i64 0] 44 (0, 0)) := fun v u => h_set u (hx1 v)
          have c2 : ∀ v u, ((wr.setCell ⟨w.heap.size, 0, none⟩ v).setCell ⟨w.heap.size, 1, none⟩ u).cell? ⟨w.heap.size, 2, none⟩ = some (.int .i64 0) := fun v u => block_cell (hx2 v u)
          have f2 : ∀ v u, ((wr.setCell ⟨w.heap.size, 0, none⟩ v).setCell ⟨w.heap.size, 1, none⟩ u).frozen? ⟨w.heap.size, 2, none⟩ = false := fun v u => by simp [World.frozen?, hx2 v u]
          have hx3 : ∀ v u t, (((wr.setCell ⟨w.heap.size, 0, none⟩ v).setCell ⟨w.heap.size, 1, none⟩ u).setCell ⟨w.heap.size, 2, none⟩ t).heap[w.heap.size]? = some (.cells #[v, u, t] 44 (0, 0)) := fun v u t => h_set t (hx2 v u)
          have hk3 : ∀ v u t q, q ≠ w.heap.size → (((wr.setCell ⟨w.heap.size, 0, none⟩ v).setCell ⟨w.heap.size, 1, none⟩ u).setCell ⟨w.heap.size, 2, none⟩ t).heap[q]? = wr.heap[q]? := fun v u t q hq => by
            rw [Below.heap_setCell _ ⟨w.heap.size, 2, none⟩ _ q hq, Below.heap_setCell _ ⟨w.heap.size, 1, none⟩ _ q hq, Below.heap_setCell _ ⟨w.heap.size, 0, none⟩ _ q hq]
          have HX3 := Lib.hid hx3
          have HK3 := Lib.hid hk3
          clear hx0 hx1 hx2 hx3 hk3
          go_wp2
          refine bodyPost_ret (results_cell_row (by rfl) _ _ _ _ _ _ _ (by rfl) (HX3.out _ _ _) Try.underlying44 rfl (by kernel_rfl)) rfl ?_
          have hgg := HBLK.out.lt
          have hnM := HNM.out
          refine ⟨sM, nM, cM, rfl, by omega, HBLK.out.block (HK3.out _ _ _ g (by omega)), ?_, ?_, ?_⟩
          · refine (HO.out.mono (Nat.zero_le _)).kept (fun q hq he => HK3.out _ _ _ q ?_)
            rcases hph with ⟨rfl, _, _⟩ | ⟨b, rfl, hb⟩
            · have : g = q := by simpa [Value.ownBlock] using he
              omega
            · have : b = q := by simpa [Value.ownBlock] using he
              omega
          · intro q he
            rcases hph with ⟨rfl, _, _⟩ | ⟨b, rfl, hb⟩
            · have : g = q := by simpa [Value.ownBlock] using he
              omega
            · have : b = q := by simpa [Value.ownBlock] using he
              omega
          · exact ⟨HON.out.os, HON.out.tape, HON.out.output, by have := HON.out.size; simp [World.setCell]; exact this, fun q hq hne => (HK3.out _ _ _ q (by omega)).trans (HON.out.block q hq hne)⟩
end Go.Proofs.Ytpipcmbfdcbboaa
