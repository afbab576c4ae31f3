/- Contract: Feed. Condition: fewer than 2^32 keys wait. -/
import Derived.Test.YtampjndfhpjheaaSf
namespace Go.Proofs.Ytampjndfhpjheaa
open Go.RowKit
set_option linter.unusedVariables false
theorem own_ne {w : World} {base b : Nat} {v : Value} {l : List Int} {cs : Array Value} (h : OwnInts w base v l) (hb : w.heap[b]? = some (.cells cs 44 (0, 0))) : v.ownBlock ≠ some b := by
  intro e
  rcases h.2 with hn | ⟨g, cap, cur, rfl, hg, hgg, _⟩
  · rw [hn.1] at e; cases e
  · cases e
    rw [hgg] at hb
    cases hb
theorem feed_go {pend : List Int} {sel : Bool} {mode key : Int} {sm : Bool} {q : List Int} (h : selP mode = sm) (hq : q = if sm = sel then pend else []) (h27 : key ≠ 27) : feedP ⟨pend, sel⟩ mode key = (⟨if (readP sm (q ++ [key])).1 = 0 then q ++ [key] else [], sm⟩, (readP sm (q ++ [key])).2, (readP sm (q ++ [key])).1) := by
  rw [hq]
  unfold feedP
  simp only [h, if_neg h27]
theorem own_room {w : World} {base : Nat} {s : Option Addr} {n c : Nat} {l : List Int} (h : OwnInts w base (.slice s n c) l) : l.length ≤ c := by
  rcases h.2 with ⟨e, h0⟩ | ⟨g, cap, cur, e, _, _, h1, _⟩
  · cases e; omega
  · cases e; exact h1
theorem feed_esc {p : Par} {mode : Int} : feedP p mode 27 = (⟨[], selP mode⟩, cmd0, 3) := by unfold feedP; exact if_pos rfl
/-- a store into the parser -/
theorem ParN.set {w : World} {B : Nat} {ow : Nat → Nat} {pb tb : Nat} {p : Par} (h : ParN w B ow pb tb p) (j : Nat) (v : Value) : Touch (fun b => b = pb) w (w.setCell ⟨pb, j, none⟩ v) := Touch.setCell (fun b => b = pb) w (p := ⟨pb, j, none⟩) rfl v
/-- a parser whose pending keys are set -/
theorem par_set {w : World} {B : Nat} {ow : Nat → Nat} {pb tb : Nat} {sl : Bool} {s : Option Addr} {c : Nat} {q : List Int} (ht : Tabs w ow tb tabT) (h2 : ow pb = 0) (h3 : B ≤ pb) (h4 : w.heap[pb]? = some (.cells #[.pointer (some ⟨tb, 0, none⟩), .slice s q.length c, .bool sl] 108 (0, 0))) (ho : OwnInts w B (.slice s q.length c) q) (hz : ∀ b, (Value.slice s q.length c).ownBlock = some b → ow b = 0) : ParN w B ow pb tb ⟨q, sl⟩ :=
  ⟨ht, h2, h3, s, c, h4, ho, fun b hb => ⟨hz b hb, by
    obtain ⟨cs, hty⟩ := (by
      rcases ho.2 with ⟨h1, _⟩ | ⟨g, cap, cur, h1, hg, hgg, _⟩
      · rw [h1] at hb; cases hb
      · rw [h1] at hb; cases hb; exact ⟨_, hgg⟩ : ∃ cs, w.heap[b]? = some (.cells cs 3 (0, 0)))
    exact type_ne hty h4 (by decide)⟩⟩
/-- the block of the pending keys is one of O -/
def PendO (w : World) (pb : Nat) (O : Nat → Prop) : Prop := ∀ s n c, w.cell? ⟨pb, 1, none⟩ = some (.slice s n c) → ∀ b, (Value.slice s n c).ownBlock = some b → O b
theorem pend_of {w : World} {pb : Nat} {O : Nat → Prop} {u v : Value} {s : Option Addr} {n c : Nat} {t : TypeId} (h : w.heap[pb]? = some (.cells #[u, .slice s n c, v] t (0, 0))) (ho : ∀ b, (Value.slice s n c).ownBlock = some b → O b) : PendO w pb O := by
  intro s' n' c' hc b hb
  have h1 : w.cell? ⟨pb, 1, none⟩ = some (.slice s n c) := block_cell h
  rw [h1] at hc
  injection hc with hc
  rw [← hc] at hb
  exact ho b hb
theorem PendO.same {w w' : World} {pb : Nat} {O : Nat → Prop} (h : PendO w pb O) (e : w'.heap[pb]? = w.heap[pb]?) : PendO w' pb O := fun s n c hc b hb => h s n c ((World.cell?_of_block (w := w) e).symm.trans hc) b hb
set_option maxRecDepth 100000 in
set_option maxHeartbeats 8000000 in
theorem feed_c (B : Nat) (O : Nat → Prop) (ow0 : Nat → Nat) (pb tb : Nat) (p : Par) (mode key : Int) (w : World) (hp : ParN w B ow0 pb tb p) (hB : B ≤ w.heap.size) (hk : ∀ x ∈ p.pend, inKey x) (hkey : inKey key) (hl : p.pend.length < 4294967295) (hO : ∀ b, w.heap.size ≤ b → O b) (hOp : O pb) (hpo : PendO w pb O) :
    Calls Try.prog 26 #[.pointer (some ⟨pb, 0, none⟩), .int .i64 mode, .int .i64 key] w fun e w' => e = .returned (.tuple #[.agg (feedP p mode key).2.1.cells, .int .i64 ((feedP p mode key).2.2 : Nat)]) ∧ (∃ ow', ParN w' B ow' pb tb (feedP p mode key).1 ∧ ∀ b, ow' b ≠ 0 → ow0 b ≠ 0) ∧ PendO w' pb O ∧ Touch O w w' := by
  have hbn := below_new2 w (.cells #[.int .i64 0, .int .i64 0, .int .i64 0, .int .i64 0, .int .i64 0] 44)
  have h6 := one_new w (.cells #[.int .i64 0, .int .i64 0, .int .i64 0, .int .i64 0, .int .i64 0] 44)
  have hp1 := hp.fresh hbn
  have hz : ∀ b, w.heap.size ≤ b → newC ow0 w.heap.size 0 b = 0 := fun b hb => newC_new ow0 hb
  have hz0 : ∀ b, newC ow0 w.heap.size 0 b ≠ 0 → ow0 b ≠ 0 := fun b hb => by
    unfold newC at hb
    split at hb
    · exact hb
    · exact absurd rfl hb
  generalize newC ow0 w.heap.size 0 = ow at hp1 hz hz0
  have HZ0 := Lib.hid hz0
  clear hz0
  have HP := Lib.hid hp1
  have HZ := Lib.hid hz
  have hpl : pb < w.heap.size := by obtain ⟨_, _, _, s, c, h4, _⟩ := hp; exact heap_lt h4
  have H6 := Lib.hid h6
  have HB := Lib.hid (Touch.of (O := O) hbn)
  have HPO : Hid (PendO (w.alloc (.cells #[.int .i64 0, .int .i64 0, .int .i64 0, .int .i64 0, .int .i64 0] 44)) pb O) := Lib.hid (hpo.same (hbn.block pb hpl))
  have HOG := Lib.hid hO
  have HKS := Lib.hid hk
  have HKY := Lib.hid hkey
  replace HB : Hid (Touch O w (w.alloc (.cells #[.int .i64 0, .int .i64 0, .int .i64 0, .int .i64 0, .int .i64 0] 44))) := HB
  clear hp hp1 hz hbn h6 hk hkey hpo hO
  go_enter Try.func26, Try.ntmps26
  go_upto_region 1 with (fail)
  generalize w.alloc (.cells #[.int .i64 0, .int .i64 0, .int .i64 0, .int .i64 0, .int .i64 0] 44) = w1 at HP H6 HB HPO ⊢
  go_wp2_with fail
  refine (sel_c mode w1).mono ?_
  rintro e w2 ⟨rfl, rfl⟩
  obtain ⟨sm, hsm⟩ : ∃ sm, sm = selP mode := ⟨_, rfl⟩
  have HSM := Lib.hid hsm.symm
  rw [← hsm]
  obtain ⟨pend, sel⟩ := p
  clear hsm
  obtain ⟨h1, h2, h3, s, c, h4, h5, h6⟩ := HP.out
  have c0 : w2.cell? ⟨pb, 0, none⟩ = some (.pointer (some ⟨tb, 0, none⟩)) := block_cell h4
  have c1 : w2.cell? ⟨pb, 1, none⟩ = some (.slice s pend.length c) := block_cell h4
  have f1 : w2.frozen? ⟨pb, 1, none⟩ = false := block_free h4
  have c2 : w2.cell? ⟨pb, 2, none⟩ = some (.bool sel) := block_cell h4
  have f2 : w2.frozen? ⟨pb, 2, none⟩ = false := block_free h4
  have HR := Lib.hid (reset_c pb tb s _ c sel w2 h4)
  have hm := HP.out.mode sm
  have t2 := (HP.out.set 1 (.slice none 0 0)).trans (Touch.setCell (fun b => b = pb) (w2.setCell ⟨pb, 1, none⟩ (.slice none 0 0)) (p := ⟨pb, 2, none⟩) rfl (.bool sm)) (fun x hx => .inl hx)
  have k4 : (w2.setCell ⟨pb, 1, none⟩ (.slice none 0 0)).heap[pb]? = some (.cells #[.pointer (some ⟨tb, 0, none⟩), .slice none 0 0, .bool sel] 108 (0, 0)) := by rw [block_set _ h4]; rfl
  have k6 := (t2.block w.heap.size (heap_lt H6.out) (by omega)).trans H6.out
  have hbx := HB.out.trans t2 (fun x hx => .inl (by rw [show x = pb from hx]; exact hOp))
  have HPX := Lib.hid hm
  have HBX := Lib.hid hbx
  have KX6 := Lib.hid k6
  have K4 := Lib.hid k4
  clear h1 h2 h3 h4 h5 h6 t2 hm k6 hbx k4
  go_upto_if 19 with (fail)
  go_cut [] (fun wc => ∃ q : List Int, ParN wc B ow pb tb ⟨q, sm⟩ ∧ Hid (q = if sm = sel then pend else []) ∧ wc.heap[w.heap.size]? = some (.cells #[.int .i64 0, .int .i64 0, .int .i64 0, .int .i64 0, .int .i64 0] 44 (0, 0)) ∧ Touch O w wc ∧ PendO wc pb O)
  case first =>
    cases sm <;> cases sel
    · have HQ : Hid (pend = if false = false then pend else []) := Lib.hid (if_pos rfl).symm
      go_wp2
      go_meet
      exact ⟨pend, HP.out, HQ, H6.out, HB.out, HPO.out⟩
    · have HQ : Hid (([] : List Int) = if false = true then pend else []) := Lib.hid (if_neg (by decide)).symm
      clear c0 c1 f1 c2 f2
      go_wp2_with fail
      refine HR.out.mono ?_
      rintro e w3 ⟨rfl, hw3⟩
      rw [← hw3] at HPX K4 HBX KX6
      clear hw3
      have c2 : w3.cell? ⟨pb, 2, none⟩ = some (.bool true) := block_cell K4.out
      have f2 : w3.frozen? ⟨pb, 2, none⟩ = false := block_free K4.out
      go_wp2
      go_meet
      exact ⟨[], HPX.out, HQ, KX6.out, HBX.out, pend_of (block_set _ K4.out) (fun b hb => by cases hb)⟩
    · have HQ : Hid (([] : List Int) = if true = false then pend else []) := Lib.hid (if_neg (by decide)).symm
      clear c0 c1 f1 c2 f2
      go_wp2_with fail
      refine HR.out.mono ?_
      rintro e w3 ⟨rfl, hw3⟩
      rw [← hw3] at HPX K4 HBX KX6
      clear hw3
      have c2 : w3.cell? ⟨pb, 2, none⟩ = some (.bool false) := block_cell K4.out
      have f2 : w3.frozen? ⟨pb, 2, none⟩ = false := block_free K4.out
      go_wp2
      go_meet
      exact ⟨[], HPX.out, HQ, KX6.out, HBX.out, pend_of (block_set _ K4.out) (fun b hb => by cases hb)⟩
    · have HQ : Hid (pend = if true = true then pend else []) := Lib.hid (if_pos rfl).symm
      go_wp2
      go_meet
      exact ⟨pend, HP.out, HQ, H6.out, HB.out, HPO.out⟩
  case rest =>
    obtain ⟨q, hp, HQ0, h6, hb, hpo⟩ := hcut
    clear HP H6 HB HPO HR HPX HBX KX6 K4 c0 c1 f1 c2 f2
    have HP := Lib.hid hp
    have H6 := Lib.hid h6
    have HB := Lib.hid hb
    have HPO := Lib.hid hpo
    clear hp h6 hb hpo
    have hql : q.length < 4294967295 := by
      rw [HQ0.out]
      split
      · exact hl
      · decide
    have HQK0 : Hid (∀ x ∈ q, inKey x) := Lib.hid (by
      rw [HQ0.out]
      split
      · exact HKS.out
      · intro x hx; cases hx)
    by_cases h27 : key = 27
    · subst h27
      obtain ⟨h1, h2, h3, s, c, h4, _, _⟩ := HP.out
      have HR := reset_c pb tb s _ c sm wc h4
      have t1 := HP.out.set 1 (.slice none 0 0)
      have k4 : (wc.setCell ⟨pb, 1, none⟩ (.slice none 0 0)).heap[pb]? = some (.cells #[.pointer (some ⟨tb, 0, none⟩), .slice none 0 0, .bool sm] 108 (0, 0)) := by rw [block_set _ h4]; rfl
      have k6 := (t1.block w.heap.size (heap_lt H6.out) (by omega)).trans H6.out
      have hbx := HB.out.trans t1 (fun x hx => .inl (by rw [show x = pb from hx]; exact hOp))
      have HTX := Lib.hid (h1.touch t1 h2)
      have HBX := Lib.hid hbx
      have K4 := Lib.hid k4
      have H2 := Lib.hid h2
      have H3 := Lib.hid h3
      clear h1 h2 h3 h4 H6 HP HB hbx t1 k4
      go_wp2_with fail
      refine HR.mono ?_
      clear HR
      rintro e w3 ⟨rfl, hw3⟩
      rw [← hw3] at HTX k6 HBX K4
      clear hw3
      have KK6 := Lib.hid k6
      have e0 : w3.cell? ⟨w.heap.size, 0, none⟩ = some (.int .i64 0) := block_cell k6
      have ef0 : w3.frozen? ⟨w.heap.size, 0, none⟩ = false := block_free k6
      have e1 : w3.cell? ⟨w.heap.size, 1, none⟩ = some (.int .i64 0) := block_cell k6
      have ef1 : w3.frozen? ⟨w.heap.size, 1, none⟩ = false := block_free k6
      have e2 : w3.cell? ⟨w.heap.size, 2, none⟩ = some (.int .i64 0) := block_cell k6
      have ef2 : w3.frozen? ⟨w.heap.size, 2, none⟩ = false := block_free k6
      have e3 : w3.cell? ⟨w.heap.size, 3, none⟩ = some (.int .i64 0) := block_cell k6
      have ef3 : w3.frozen? ⟨w.heap.size, 3, none⟩ = false := block_free k6
      have e4 : w3.cell? ⟨w.heap.size, 4, none⟩ = some (.int .i64 0) := block_cell k6
      have ef4 : w3.frozen? ⟨w.heap.size, 4, none⟩ = false := block_free k6
      clear k6
      go_wp2
      have ts := set5_touch w3 w.heap.size cmd0
      refine bodyPost_ret (v := .tuple #[.agg #[.int .i64 0, .int .i64 0, .int .i64 0, .int .i64 0, .int .i64 0], .int .i64 3]) (by simp [results, Try.results26, go_sem, e0, e1, e2, e3, e4]) rfl ⟨by rw [feed_esc]; rfl, ⟨ow, ?_, HZ0.out⟩, pend_of ((ts.block pb (heap_lt K4.out) (by omega)).trans K4.out) (fun b hb => by cases hb), HBX.out.trans ts (fun x hx => .inr (Nat.le_of_eq (Eq.symm (show x = w.heap.size from hx))))⟩
      rw [feed_esc, HSM.out]
      exact par_nil (HTX.out.touch ts (HZ.out _ (Nat.le_refl _))) H2.out H3.out ((ts.block pb (heap_lt K4.out) (by omega)).trans K4.out)
    · have HF := Lib.hid (feed_go (key := key) HSM.out HQ0.out h27)
      have h27b : (key == 27) = false := by rw [beq_eq_false_iff_ne]; exact h27
      obtain ⟨h1, h2, h3, s2, c2, h4, h5, h6⟩ := HP.out
      have c1 : wc.cell? ⟨pb, 1, none⟩ = some (.slice s2 (q : List Int).length c2) := block_cell h4
      have HT := Lib.hid h1
      have H2 := Lib.hid h2
      have H3 := Lib.hid h3
      have H4 := Lib.hid h4
      have HO := Lib.hid h5
      have HOB := Lib.hid h6
      have HQK : Hid (∀ x ∈ (q : List Int) ++ [key], inKey x) := Lib.hid (fun x hx => by
        rcases List.mem_append.1 hx with h | h
        · exact HQK0.out x h
        · rw [List.mem_singleton] at h; rw [h]; exact HKY.out)
      clear h1 h2 h3 h4 h5 h6 HP hl h27
      go_wp2_with (first | (at_builtin; refine wpList_push3 _ rfl _ _ rfl B _ _ _ _ rfl rfl HO.out (by omega) (Nat.le_trans hB HB.out.size) ?_; intro s' c' w4 ho4 hg4 hat4; have HO4 := Lib.hid ho4; have HG4 := Lib.hid hg4; have HA4 := Lib.hid hat4; clear ho4 hg4 hat4))
      have h44 := (HG4.out.block pb (heap_lt H4.out) (fun e => (HOB.out pb e.symm).2 rfl)).trans H4.out
      have h64 := (HG4.out.block w.heap.size (heap_lt H6.out) (fun e => own_ne HO.out H6.out e.symm)).trans H6.out
      have hpoq := HPO.out s2 q.length c2 c1
      have hb4 := HB.out.trans (Touch.grown (O := O) HG4.out hpoq) (fun x hx => .inl hx)
      have hzo : ∀ b, (Value.slice s' (q.length + 1) c').ownBlock = some b → O b := fun b hb => by
        rcases HA4.out with e | ⟨b', e, he⟩
        · exact hpoq b (e ▸ hb)
        · have h3 : some b' = some b := e.symm.trans hb
          injection h3 with h3
          have := HB.out.size
          exact HOG.out b (by omega)
      have HZO := Lib.hid hzo
      clear hzo hpoq
      have hzz : ∀ b, (Value.slice s' (q.length + 1) c').ownBlock = some b → ow b = 0 := fun b hb => by
        rcases HA4.out with e | ⟨b', e, he⟩
        · exact (HOB.out b (e ▸ hb)).1
        · have h3 : some b' = some b := e.symm.trans hb
          injection h3 with h3
          have := HB.out.size
          have h9 := heap_lt H6.out
          exact HZ.out b (by omega)
      have ht4 : Tabs w4 ow tb tabT := HT.out.kept (fun b hb hne => ⟨HG4.out.block b hb (fun e => hne (HOB.out b e.symm).1), rfl⟩) HG4.out.size
      have hlen : (q ++ [key]).length = q.length + 1 := by simp
      have ho4q : OwnInts w4 B (.slice s' (q ++ [key]).length c') (q ++ [key]) := by rw [hlen]; exact HO4.out
      have hrc : ∀ W, Below w4.heap.size w4 W → Calls Try.prog 43 #[.pointer (some ⟨tb, 0, none⟩), .bool sm, .slice s' (q.length + 1) c'] W fun e w' => e = .returned (.tuple #[.agg (readP sm (q ++ [key])).2.cells, .int .i64 ((readP sm (q ++ [key])).1 : Nat)]) ∧ Below W.heap.size W w' := by
        intro W hW
        rw [← hlen]
        exact read_c sm ow tb s' c' (q ++ [key]) W (ht4.later hW) (by rw [hlen]; exact HO4.out.is.later hW) (fun a ha => Nat.lt_of_lt_of_le (HO4.out.lt a.block (by rw [ha]; rfl)).2 hW.size) (own_room HO4.out) (by rw [hlen]; omega) HQK.out
      generalize hrr : readP sm (q ++ [key]) = rr at hrc HF
      obtain ⟨code, ⟨a1, a2, a3, a4, a5⟩⟩ := rr
      have HRC : Hid (∀ W, Below w4.heap.size w4 W → Calls Try.prog 43 #[.pointer (some ⟨tb, 0, none⟩), .bool sm, .slice s' (q.length + 1) c'] W fun e w' => e = .returned (.tuple #[.agg #[.int .i64 a1, .int .i64 a2, .int .i64 a3, .int .i64 a4, .int .i64 a5], .int .i64 (code : Nat)]) ∧ Below W.heap.size W w') := Lib.hid hrc
      have p0 : w4.cell? ⟨pb, 0, none⟩ = some (.pointer (some ⟨tb, 0, none⟩)) := block_cell h44
      have p2 : w4.cell? ⟨pb, 2, none⟩ = some (.bool sm) := block_cell h44
      have hbn4 := below_new2 w4 (.cells #[.int .i64 0, .int .i64 0, .int .i64 0, .int .i64 0, .int .i64 0] 44)
      have p0A : (w4.alloc (.cells #[.int .i64 0, .int .i64 0, .int .i64 0, .int .i64 0, .int .i64 0] 44)).cell? ⟨pb, 0, none⟩ = some (.pointer (some ⟨tb, 0, none⟩)) := (hbn4.cell (p := ⟨pb, 0, none⟩) (heap_lt h44)).trans p0
      have p2A : (w4.alloc (.cells #[.int .i64 0, .int .i64 0, .int .i64 0, .int .i64 0, .int .i64 0] 44)).cell? ⟨pb, 2, none⟩ = some (.bool sm) := (hbn4.cell (p := ⟨pb, 2, none⟩) (heap_lt h44)).trans p2
      obtain ⟨wA, hwA⟩ : ∃ wA, wA = w4.alloc (.cells #[.int .i64 0, .int .i64 0, .int .i64 0, .int .i64 0, .int .i64 0] 44) := ⟨_, rfl⟩
      have hkA : wA.heap[w4.heap.size]? = some (.cells #[.int .i64 0, .int .i64 0, .int .i64 0, .int .i64 0, .int .i64 0] 44 (0, 0)) := by rw [hwA]; exact one_new w4 _
      have hbA : Below w4.heap.size w4 wA := by rw [hwA]; exact hbn4
      have HWA := Lib.hid hwA
      have HKA := Lib.hid hkA
      have HBA := Lib.hid hbA
      have hlA := heap_lt hkA
      have K4 := Lib.hid h44
      have K6 := Lib.hid h64
      have HB4 := Lib.hid hb4
      have HT4 := Lib.hid ht4
      have HZZ := Lib.hid hzz
      have HO4Q := Lib.hid ho4q
      have HLEN := Lib.hid hlen
      clear h44 h64 hb4 ht4 hlen c1 hrr hrc hwA hkA hbA hbn4 hzz ho4q
      go_cut [10, 11] (fun v10 v11 wd => ∃ cb, v10 = .pointer (some ⟨cb, 0, none⟩) ∧ v11 = .int .i64 (code : Nat) ∧ wd.heap[cb]? = some (.cells #[.int .i64 a1, .int .i64 a2, .int .i64 a3, .int .i64 a4, .int .i64 a5] 44 (0, 0)) ∧ Below w4.heap.size w4 wd ∧ w4.heap.size ≤ cb)
      case first =>
        go_region_law (first
          | (go_simp; rw [← HWA.out]; refine (HRC.out _ HBA.out.drew).mono ?_; rintro e w5 ⟨rfl, hb5⟩; have hk5 := (hb5.block w4.heap.size hlA).trans HKA.out; have HB5 := Lib.hid hb5; have HK5 := Lib.hid hk5; have e0 := block_cell (i := 0) hk5; have e1 := block_cell (i := 1) hk5; have e2 := block_cell (i := 2) hk5; have e3 := block_cell (i := 3) hk5; have e4 := block_cell (i := 4) hk5; have f0 := block_free (i := 0) hk5; have f1 := block_free (i := 1) hk5; have f2 := block_free (i := 2) hk5; have f3 := block_free (i := 3) hk5; have f4 := block_free (i := 4) hk5; clear hb5 hk5)
          | (go_simp; refine (HRC.out _ ((Below.refl _ _).drew)).mono ?_; rintro e w5 ⟨rfl, hb5⟩; have HB5 := Lib.hid hb5; clear hb5))
        all_goals
          go_wp2_with fail
          go_meet
          first
            | exact ⟨_, rfl, rfl, (cmd_fin1 HBA.out HB5.out HK5.out ⟨a1, a2, a3, a4, a5⟩).1, (cmd_fin1 HBA.out HB5.out HK5.out ⟨a1, a2, a3, a4, a5⟩).2, Nat.le_refl _⟩
            | exact ⟨_, rfl, rfl, (cmd_fin2 HB5.out ⟨a1, a2, a3, a4, a5⟩).1, (cmd_fin2 HB5.out ⟨a1, a2, a3, a4, a5⟩).2, HB5.out.size⟩
      case rest =>
        obtain ⟨cb, rfl, rfl, hcb, hbd, hcs⟩ := hcut
        have K4d := (hbd.block pb (heap_lt K4.out)).trans K4.out
        have K6d := (hbd.block w.heap.size (heap_lt K6.out)).trans K6.out
        have htd := HT4.out.later hbd
        have hod := HO4Q.out.later hbd
        have hBs : B ≤ w4.heap.size := Nat.le_trans hB HB4.out.size
        have hbw := HB4.out.trans (Touch.of (O := O) hbd) (fun x hx => .inl hx)
        have p1 : wc.cell? ⟨pb, 1, none⟩ = some (.slice s2 q.length c2) := block_cell K4d
        have pf1 : wc.frozen? ⟨pb, 1, none⟩ = false := block_free K4d
        have K4D := Lib.hid K4d
        have K6D := Lib.hid K6d
        have HTD := Lib.hid htd
        have HOD := Lib.hid hod
        have HBW := Lib.hid hbw
        have HCB := Lib.hid hcb
        clear K4d K6d htd hod hbw hcb hbd p0 p2 p0A p2A K4 K6 HT4 HB4 HRC HWA HKA HBA HG4 HO4 HA4
        have hne6 : w.heap.size ≠ pb := by omega
        have t8 := Touch.setCell (fun b => b = pb) wc (p := ⟨pb, 1, none⟩) rfl (.slice none 0 0)
        have k8 : (wc.setCell ⟨pb, 1, none⟩ (.slice none 0 0)).heap[pb]? = some (.cells #[.pointer (some ⟨tb, 0, none⟩), .slice none 0 0, .bool sm] 108 (0, 0)) := by rw [block_set _ K4D.out]; rfl
        have k86 := (t8.block w.heap.size (heap_lt K6D.out) hne6).trans K6D.out
        have k8c := (t8.block cb (heap_lt HCB.out) (type_ne HCB.out K4D.out (by decide))).trans HCB.out
        have t8t := HTD.out.touch t8 H2.out
        have o8 : OwnInts (wc.setCell ⟨pb, 1, none⟩ (.slice none 0 0)) B (.slice s' (q ++ [key]).length c') (q ++ [key]) := HOD.out.kept (fun b hb he => by
          obtain ⟨cs, hty⟩ : ∃ cs, wc.heap[b]? = some (.cells cs 3 (0, 0)) := by
            rcases HOD.out.2 with ⟨h1, _⟩ | ⟨g, cap, cur, h1, hg, hgg, _⟩
            · rw [h1] at he; cases he
            · rw [h1] at he; cases he; exact ⟨_, hgg⟩
          exact t8.block b hb (type_ne hty K4D.out (by decide)))
        have b8 := HBW.out.trans t8 (fun x hx => .inl (by rw [show x = pb from hx]; exact hOp))
        have K8 := Lib.hid k8
        have K86 := Lib.hid k86
        have K8C := Lib.hid k8c
        have T8 := Lib.hid t8t
        have O8 := Lib.hid o8
        have B8 := Lib.hid b8
        clear t8 k8 k86 k8c t8t o8 b8
        go_upto_region 11 with (fail)
        generalize wc.setCell ⟨pb, 1, none⟩ (.slice none 0 0) = w8 at K8 K86 K8C T8 O8 B8 ⊢
        clear p1 pf1
        by_cases hc0 : code = 0
        · subst hc0
          have hcb0 : (((0 : Nat) : Int) == 0) = true := rfl
          have hpp : (if (0, (⟨a1, a2, a3, a4, a5⟩ : Cmd)).1 = 0 then q ++ [key] else []) = q ++ [key] := if_pos rfl
          rw [hpp] at HF
          have g1 : w8.cell? ⟨pb, 1, none⟩ = some (.slice none 0 0) := block_cell K8.out
          have g2 : w8.frozen? ⟨pb, 1, none⟩ = false := block_free K8.out
          have t9 := Touch.setCell (fun b => b = pb) w8 (p := ⟨pb, 1, none⟩) rfl (.slice s' (q.length + 1) c')
          have k9 : (w8.setCell ⟨pb, 1, none⟩ (.slice s' (q.length + 1) c')).heap[pb]? = some (.cells #[.pointer (some ⟨tb, 0, none⟩), .slice s' (q ++ [key]).length c', .bool sm] 108 (0, 0)) := by rw [block_set _ K8.out, HLEN.out]; rfl
          have k96 := (t9.block w.heap.size (heap_lt K86.out) hne6).trans K86.out
          have k9c := (t9.block cb (heap_lt K8C.out) (type_ne K8C.out K8.out (by decide))).trans K8C.out
          have t9t := T8.out.touch t9 H2.out
          have o9 : OwnInts (w8.setCell ⟨pb, 1, none⟩ (.slice s' (q.length + 1) c')) B (.slice s' (q ++ [key]).length c') (q ++ [key]) := O8.out.kept (fun b hb he => by
            obtain ⟨cs, hty⟩ : ∃ cs, w8.heap[b]? = some (.cells cs 3 (0, 0)) := by
              rcases O8.out.2 with ⟨h1, _⟩ | ⟨g, cap, cur, h1, hg, hgg, _⟩
              · rw [h1] at he; cases he
              · rw [h1] at he; cases he; exact ⟨_, hgg⟩
            exact t9.block b hb (type_ne hty K8.out (by decide)))
          have b9 := B8.out.trans t9 (fun x hx => .inl (by rw [show x = pb from hx]; exact hOp))
          have K9 := Lib.hid k9
          have K96 := Lib.hid k96
          have K9C := Lib.hid k9c
          have T9 := Lib.hid t9t
          have O9 := Lib.hid o9
          have B9 := Lib.hid b9
          clear t9 k9 k96 k9c t9t o9 b9 hpp
          go_upto_region 13 with (fail)
          generalize w8.setCell ⟨pb, 1, none⟩ (.slice s' (q.length + 1) c') = w9 at K9 K96 K9C T9 O9 B9 ⊢
          clear g1 g2 hcb0
          have e0 : w9.cell? ⟨w.heap.size, 0, none⟩ = some (.int .i64 0) := block_cell K96.out
          have ef0 : w9.frozen? ⟨w.heap.size, 0, none⟩ = false := block_free K96.out
          have e1 : w9.cell? ⟨w.heap.size, 1, none⟩ = some (.int .i64 0) := block_cell K96.out
          have ef1 : w9.frozen? ⟨w.heap.size, 1, none⟩ = false := block_free K96.out
          have e2 : w9.cell? ⟨w.heap.size, 2, none⟩ = some (.int .i64 0) := block_cell K96.out
          have ef2 : w9.frozen? ⟨w.heap.size, 2, none⟩ = false := block_free K96.out
          have e3 : w9.cell? ⟨w.heap.size, 3, none⟩ = some (.int .i64 0) := block_cell K96.out
          have ef3 : w9.frozen? ⟨w.heap.size, 3, none⟩ = false := block_free K96.out
          have e4 : w9.cell? ⟨w.heap.size, 4, none⟩ = some (.int .i64 0) := block_cell K96.out
          have ef4 : w9.frozen? ⟨w.heap.size, 4, none⟩ = false := block_free K96.out
          have n0 : w9.cell? ⟨cb, 0, none⟩ = some (.int .i64 a1) := block_cell K9C.out
          have n1 : w9.cell? ⟨cb, 1, none⟩ = some (.int .i64 a2) := block_cell K9C.out
          have n2 : w9.cell? ⟨cb, 2, none⟩ = some (.int .i64 a3) := block_cell K9C.out
          have n3 : w9.cell? ⟨cb, 3, none⟩ = some (.int .i64 a4) := block_cell K9C.out
          have n4 : w9.cell? ⟨cb, 4, none⟩ = some (.int .i64 a5) := block_cell K9C.out
          go_wp2
          have ts := set5_touch w9 w.heap.size ⟨a1, a2, a3, a4, a5⟩
          refine bodyPost_ret (v := .tuple #[.agg #[.int .i64 a1, .int .i64 a2, .int .i64 a3, .int .i64 a4, .int .i64 a5], .int .i64 0]) (by simp [results, Try.results26, go_sem, e0, e1, e2, e3, e4]) rfl ⟨by rw [HF.out]; rfl, ⟨ow, ?_, HZ0.out⟩, pend_of ((ts.block pb (heap_lt K9.out) (fun e => hne6 e.symm)).trans K9.out) (by rw [HLEN.out]; exact HZO.out), B9.out.trans ts (fun x hx => .inr (Nat.le_of_eq (Eq.symm (show x = w.heap.size from hx))))⟩
          rw [HF.out]
          have ho := O9.out.kept (w' := set5 w9 w.heap.size ⟨a1, a2, a3, a4, a5⟩) (fun b hb he => by
            obtain ⟨cs, hty⟩ : ∃ cs, w9.heap[b]? = some (.cells cs 3 (0, 0)) := by
              rcases O9.out.2 with ⟨h1, _⟩ | ⟨g, cap, cur, h1, hg, hgg, _⟩
              · rw [h1] at he; cases he
              · rw [h1] at he; cases he; exact ⟨_, hgg⟩
            exact ts.block b hb (type_ne hty K96.out (by decide)))
          exact par_set (T9.out.touch ts (HZ.out _ (Nat.le_refl _))) H2.out H3.out ((ts.block pb (heap_lt K9.out) (fun e => hne6 e.symm)).trans K9.out) ho (by rw [HLEN.out]; exact HZZ.out)
        · have hcb0 : ((code : Int) == 0) = false := by rw [beq_eq_false_iff_ne]; omega
          have hpp : (if (code, (⟨a1, a2, a3, a4, a5⟩ : Cmd)).1 = 0 then q ++ [key] else []) = [] := if_neg hc0
          rw [hpp] at HF
          clear hpp hc0
          go_upto_region 13 with (fail)
          clear hcb0
          have e0 : w8.cell? ⟨w.heap.size, 0, none⟩ = some (.int .i64 0) := block_cell K86.out
          have ef0 : w8.frozen? ⟨w.heap.size, 0, none⟩ = false := block_free K86.out
          have e1 : w8.cell? ⟨w.heap.size, 1, none⟩ = some (.int .i64 0) := block_cell K86.out
          have ef1 : w8.frozen? ⟨w.heap.size, 1, none⟩ = false := block_free K86.out
          have e2 : w8.cell? ⟨w.heap.size, 2, none⟩ = some (.int .i64 0) := block_cell K86.out
          have ef2 : w8.frozen? ⟨w.heap.size, 2, none⟩ = false := block_free K86.out
          have e3 : w8.cell? ⟨w.heap.size, 3, none⟩ = some (.int .i64 0) := block_cell K86.out
          have ef3 : w8.frozen? ⟨w.heap.size, 3, none⟩ = false := block_free K86.out
          have e4 : w8.cell? ⟨w.heap.size, 4, none⟩ = some (.int .i64 0) := block_cell K86.out
          have ef4 : w8.frozen? ⟨w.heap.size, 4, none⟩ = false := block_free K86.out
          have n0 : w8.cell? ⟨cb, 0, none⟩ = some (.int .i64 a1) := block_cell K8C.out
          have n1 : w8.cell? ⟨cb, 1, none⟩ = some (.int .i64 a2) := block_cell K8C.out
          have n2 : w8.cell? ⟨cb, 2, none⟩ = some (.int .i64 a3) := block_cell K8C.out
          have n3 : w8.cell? ⟨cb, 3, none⟩ = some (.int .i64 a4) := block_cell K8C.out
          have n4 : w8.cell? ⟨cb, 4, none⟩ = some (.int .i64 a5) := block_cell K8C.out
          go_wp2
          have ts := set5_touch w8 w.heap.size ⟨a1, a2, a3, a4, a5⟩
          refine bodyPost_ret (v := .tuple #[.agg #[.int .i64 a1, .int .i64 a2, .int .i64 a3, .int .i64 a4, .int .i64 a5], .int .i64 (code : Nat)]) (by simp [results, Try.results26, go_sem, e0, e1, e2, e3, e4]) rfl ⟨by rw [HF.out]; rfl, ⟨ow, ?_, HZ0.out⟩, pend_of ((ts.block pb (heap_lt K8.out) (fun e => hne6 e.symm)).trans K8.out) (fun b hb => by cases hb), B8.out.trans ts (fun x hx => .inr (Nat.le_of_eq (Eq.symm (show x = w.heap.size from hx))))⟩
          rw [HF.out]
          exact par_nil (T8.out.touch ts (HZ.out _ (Nat.le_refl _))) H2.out H3.out ((ts.block pb (heap_lt K8.out) (fun e => hne6 e.symm)).trans K8.out)
end Go.Proofs.Ytampjndfhpjheaa
