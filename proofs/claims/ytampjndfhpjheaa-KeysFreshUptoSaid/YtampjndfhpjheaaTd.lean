/- The document's trie in memory: rows and values; its Look. Condition: fewer than 2^30 rows, rows of fewer than 2^30 keys. -/
import Derived.Test.YtampjndfhpjheaaTbj
import Derived.Test.YtampjndfhpjheaaTc
namespace Go.Proofs.Ytampjndfhpjheaa
open Go.RowKit
/-- an answer: its slice and its members -/
structure QuietD where
  g : Nat
  n : Nat
  c : Nat
  l : List Int
def qval (q : QuietD) : Value := .slice (some ⟨q.g, 0, none⟩) q.n q.c
def QOk (w : World) (q : QuietD) : Prop := OwnInts w 0 (qval q) q.l
theorem QOk.lt {w : World} {q : QuietD} (h : QOk w q) : q.g < w.heap.size := (World.ownsRow.lt h q.g rfl).2
def OwnQ (w : World) (base : Nat) (v : Value) (qs : List QuietD) : Prop := w.ownsRow base 33 1 v qs.length (qs.map qval)
theorem QOk.kept {w w' : World} {q : QuietD} (hk : QOk w q) (e : w'.heap[q.g]? = w.heap[q.g]?) : QOk w' q :=
  OwnInts.kept hk (fun b _ he => by
    have : q.g = b := by simpa [qval, Value.ownBlock] using he
    subst this; exact e)
theorem own_kept {w w' : World} {base : Nat} {e : TypeId} {size n : Nat} {v : Value} {xs : List Value} (h : w.ownsRow base e size v n xs) (k : ∀ b, v.ownBlock = some b → w'.heap[b]? = w.heap[b]?) : w'.ownsRow base e size v n xs := by
  refine ⟨h.1, ?_⟩
  rcases h.2 with hn | ⟨g, cap, cur, rfl, hg, hgg, rest⟩
  · exact .inl hn
  · exact .inr ⟨g, cap, cur, rfl, hg, (k g rfl).trans hgg, rest⟩
theorem OwnQ.cell {w : World} {base : Nat} {s : Option Addr} {n c : Nat} {qs : List QuietD} (h : OwnQ w base (.slice s n c) qs) {i : Nat} (hi : i < qs.length) : ∃ g, s = some ⟨g, 0, none⟩ ∧ w.cell? ⟨g, i, none⟩ = some (qval qs[i]) := by
  have h' := h
  unfold OwnQ at h'
  rcases h.2 with ⟨h1, h2⟩ | ⟨g, cap, cur, h1, hg, hgg, _⟩
  · omega
  · obtain ⟨rfl, rfl, rfl⟩ := Value.slice.inj h1
    refine ⟨g, rfl, ?_⟩
    rw [World.ownsRow.cellAt h' i (by omega), List.getElem?_map, List.getElem?_eq_getElem hi]; rfl
/-- block r: the rows and the values of S -/
structure RTrie (w : World) (B r : Nat) (S : TrieS) (sR : Option Addr) (cR : Nat) (sV : Option Addr) (cV : Nat) (qs : List QuietD) : Prop where
  blk : w.heap[r]? = some (.cells #[.slice sR S.length cR, .slice sV S.length cV] 35 (0, 0))
  rows : OwnQ w B (.slice sR S.length cR) qs
  vals : OwnInts w B (.slice sV S.length cV) (S.map (·.2))
  len : qs.length = S.length
  each : ∀ i (hi : i < qs.length) (hj : i < S.length), QOk w qs[i] ∧ qs[i].n = S[i].1.length ∧ qs[i].l = S[i].1
theorem qok_list {w : World} {q : QuietD} (h : QOk w q) : IsInts w (some ⟨q.g, 0, none⟩) q.n (gl q.l) := by
  unfold QOk qval at h
  exact h.is
theorem begB_pre {l k : List Int} : begB (gl l) l.length (gl k) k.length = k.isPrefixOf l := by
  rw [Bool.eq_iff_iff, List.isPrefixOf_iff_prefix]
  unfold begB
  rw [decide_eq_true_iff]
  have hk : lst (gl k) k.length = k := lst_get k
  rw [hk]
  constructor
  · rintro ⟨h1, h2⟩
    rw [← h2]
    refine ⟨l.drop k.length, ?_⟩
    have : lst (gl l) k.length = l.take k.length := by
      apply List.ext_getElem
      · simp [lst]; omega
      · intro i h3 h4
        simp [lst] at h3
        simp [lst, gl, List.getElem?_eq_getElem (show i < l.length by omega)]
    rw [this, List.take_append_drop]
  · rintro ⟨t, rfl⟩
    refine ⟨by simp, ?_⟩
    apply List.ext_getElem
    · simp [lst]
    · intro i h3 h4
      simp [lst] at h3
      simp [lst, gl, List.getElem?_append_left h3, List.getElem?_eq_getElem h3]
/-- the first row from the i-th on that begins with the keys -/
theorem lookS_skip {S : TrieS} {p : List Int} (h : ∀ r ∈ S, p.isPrefixOf r.1 = false) : lookS S p = (0, 2) := by
  unfold lookS
  rw [show S.find? (fun r => p.isPrefixOf r.1) = none from List.find?_eq_none.2 (fun x hx => by rw [h x hx]; decide)]
theorem lookS_at {S : TrieS} {p : List Int} {i : Nat} (hi : i < S.length) (h1 : ∀ j (hj : j < S.length), j < i → p.isPrefixOf S[j].1 = false) (h2 : p.isPrefixOf S[i].1 = true) : lookS S p = if S[i].1.length = p.length then (S[i].2, 1) else (0, 0) := by
  unfold lookS
  have hf : S.find? (fun r => p.isPrefixOf r.1) = some S[i] := by
    rw [List.find?_eq_some_iff_getElem]
    exact ⟨h2, i, hi, rfl, fun j hj => by rw [h1 j (by omega) hj]; rfl⟩
  rw [hf]
set_option maxRecDepth 100000 in
set_option maxHeartbeats 2000000 in
theorem rlook_c (B r : Nat) (S : TrieS) (sR : Option Addr) (cR : Nat) (sV : Option Addr) (cV : Nat) (qs : List QuietD) (sk : Option Addr) (c : Nat) (p : List Int) (w : World) (hS : S.length < 1073741824) (hl : ∀ x ∈ S, x.1.length < 1073741824) (ht : RTrie w B r S sR cR sV cV qs) (hk : IsInts w sk p.length (gl p)) :
    Calls Try.prog 38 #[.pointer (some ⟨r, 0, none⟩), .slice sk p.length c] w fun e w' => e = .returned (.tuple #[.int .i64 (lookS S p).1, .int .i64 ((lookS S p).2 : Nat)]) ∧ Below w.heap.size w w' := by
  have HT := Lib.hid ht
  have HK := Lib.hid hk
  clear ht hk
  go_enter Try.func38, Try.ntmps38
  have hblk := HT.out.blk
  have hrl := heap_lt hblk
  have c0 : w.cell? ⟨r, 0, none⟩ = some (.slice sR S.length cR) := block_cell hblk
  have c1 : w.cell? ⟨r, 1, none⟩ = some (.slice sV S.length cV) := block_cell hblk
  have HC0 := Lib.hid c0
  have HC1 := Lib.hid c1
  clear hblk c0 c1
  go_wp2_with fail
  go_loopg [6] S.length (fun g iv wr => ∃ i : Nat, i + g = S.length ∧ iv = .int .i64 i ∧ (∀ j (hj : j < S.length), j < i → p.isPrefixOf S[j].1 = false) ∧ Below w.heap.size w wr)
  case atStart => exact ⟨0, by omega, rfl, fun j _ h => by omega, Below.refl _ _⟩
  case round =>
    obtain ⟨i, hg, rfl, hpre, hb⟩ := hrel
    have HPRE := Lib.hid hpre
    have HB := Lib.hid hb
    clear hpre hb
    have c0 := (HB.out.cell (p := ⟨r, 0, none⟩) hrl).trans HC0.out
    have c1 := (HB.out.cell (p := ⟨r, 1, none⟩) hrl).trans HC1.out
    by_cases hlt : i < S.length
    · have hiq : i < qs.length := by rw [HT.out.len]; exact hlt
      obtain ⟨gQ, rfl, d0⟩ := HT.out.rows.cell hiq
      obtain ⟨e1, e2, e3⟩ := HT.out.each i hiq hlt
      have hgq := World.block_lt_of_cell? w _ d0
      have d1 := (HB.out.cell (p := ⟨gQ, i, none⟩) hgq).trans d0
      have hq := (qok_list e1).later HB.out
      have hvq : qval qs[i] = .slice (some ⟨qs[i].g, 0, none⟩) S[i].1.length qs[i].c := by unfold qval; rw [e2]
      rw [hvq] at d1
      rw [e2, e3] at hq
      have hbb : begB (gl S[i].1) S[i].1.length (gl p) p.length = p.isPrefixOf S[i].1 := begB_pre
      have hli := hl _ (List.getElem_mem hlt)
      have HQ := Lib.hid hq
      have HBB := Lib.hid hbb
      have HAT := Lib.hid (fun h2 => lookS_at hlt HPRE.out h2)
      have HPI := Lib.hid (fun (h2 : p.isPrefixOf S[i].1 = false) j (hj : j < S.length) (hji : j < i + 1) => (show p.isPrefixOf S[j].1 = false by
        by_cases e : j = i
        · subst e; exact h2
        · exact HPRE.out j hj (by omega)))
      clear hq hbb hvq e1 e2 e3 d0
      have hvc : w.cell? ⟨r, 1, none⟩ = w.cell? ⟨r, 1, none⟩ := rfl
      obtain ⟨sV', nV', cV', hv1, hv2, hv3⟩ := HT.out.vals.shape
      obtain ⟨rfl, rfl, rfl⟩ := Value.slice.inj hv1
      have HV := Lib.hid (hv3.later HB.out)
      clear hv1 hv2 hv3 hvc
      generalize qs[i].g = g0 at *
      generalize qs[i].c = k0 at *
      have q1 : (i : Int) < (S.length : Int) := by omega
      go_wp2_with fail
      refine (begins_any (some ⟨g0, 0, none⟩) sk S[i].1.length k0 p.length c _ _ _ (by unfold maxLen; omega) HQ.out (HK.out.later HB.out)).mono ?_
      rintro e w2 ⟨rfl, hb2⟩
      rw [HBB.out]
      have HB2 := Lib.hid (bt HB.out hb2)
      have HV2 := Lib.hid (HV.out.later hb2)
      replace c0 := (HB2.out.cell (p := ⟨r, 0, none⟩) hrl).trans HC0.out
      replace c1 := (HB2.out.cell (p := ⟨r, 1, none⟩) hrl).trans HC1.out
      replace d1 := (hb2.cell (p := ⟨gQ, i, none⟩) (Nat.lt_of_lt_of_le hgq HB.out.size)).trans d1
      clear hb2 HV HQ HBB
      cases hpx : p.isPrefixOf S[i].1
      · have HP2 := Lib.hid (HPI.out hpx)
        clear hpx
        go_wp2
        go_roundg (gk - 1)
        case measure => omega
        case rel => exact ⟨i + 1, by omega, by go_num, HP2.out, HB2.out⟩
      · have hat := HAT.out hpx
        clear hpx
        by_cases hlen : S[i].1.length = p.length
        · rw [if_pos hlen] at hat
          have HA := Lib.hid hat
          obtain ⟨gv, ov, rfl, d2⟩ := HV2.out.at (Below.refl _ _) (show i < S.length by omega)
          have hvv : (S.map (·.2)).getD i 0 = S[i].2 := by rw [List.getD_eq_getElem?_getD, List.getElem?_map, List.getElem?_eq_getElem hlt]; rfl
          rw [hvv] at d2
          have z1 : ((S[i].1.length : Int) == (p.length : Int)) = true := by rw [beq_iff_eq, hlen]
          clear hat hvv hlen
          generalize S[i].1.length = ln at *
          generalize S[i].2 = vv at *
          go_wp2
          go_ret2
          exact ⟨by rw [HA.out]; rfl, HB2.out⟩
        · rw [if_neg hlen] at hat
          have HA := Lib.hid hat
          have z1 : ((S[i].1.length : Int) == (p.length : Int)) = false := by rw [beq_eq_false_iff_ne]; intro e; exact hlen (Int.ofNat.inj e)
          clear hat hlen
          generalize S[i].1.length = ln at *
          go_wp2
          go_ret2
          exact ⟨by rw [HA.out]; rfl, HB2.out⟩
    · have hE := lookS_skip (S := S) (p := p) (fun x hx => by
        obtain ⟨j, hj, rfl⟩ := List.mem_iff_getElem.1 hx
        exact HPRE.out j hj (by omega))
      have HE := Lib.hid hE
      clear hE
      go_wp2
      go_ret2
      exact ⟨by rw [HE.out]; rfl, HB.out⟩
end Go.Proofs.Ytampjndfhpjheaa
