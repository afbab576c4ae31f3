/- Contracts: line.each and what it hands its rows to. Condition: texts of scalars below 128. -/
import Derived.Test.YtampjndfhpjheaaYh
import Derived.Shelf.Abstract
import Derived.Lib.OthersKept
namespace Go.Proofs.Ytampjndfhpjheaa
open Go.RowKit
/-- what takes the rows of a line: I holds while it is called -/
structure DoOk (I : World → (Nat → Nat) → List (List Int) → Prop) (F : List (List Int)) (fid : FuncId) (caps : Array Value) (v m a : Int) : Prop where
  kept : ∀ w w' ow ow' L, I w ow L → Same (fun k => k ≠ 0) ow ow' w w' → w.heap.size ≤ w'.heap.size → I w' ow' L
  run : ∀ w ow L p qg qc, I w ow L → L ++ [p] <+: F → QOk w ⟨qg, p.length, qc, p⟩ → ow qg = 5 → p.length ≤ qc → p ≠ [] →
    Calls Try.prog fid (#[.slice (some ⟨qg, 0, none⟩) p.length qc, .agg #[.int .i64 v, .int .i64 m, .int .i64 a, .bool false, .slice none 0 0, .pointer none]] ++ caps) w
      fun e w' => e = .returned (.tuple #[]) ∧ ∃ ow', I w' ow' (L ++ [p]) ∧ (∀ b, b < w.heap.size → ow' b = ow b) ∧ Touch (fun b => live (ow b)) w w'
  enter : ∀ (args : Array Value) (w : World), (callFunc fid args).run Try.prog w = .ok (.enter fid args) w
/-- what flush leaves -/
def Flushed (I : World → (Nat → Nat) → List (List Int) → Prop) (L : List (List Int)) (kx : Nat) (rb : Option Nat) (ow : Nat → Nat) (w w' : World) : Prop :=
  IsBox w' kx 33 (.slice none 0 0) ∧ ∃ ow', I w' ow' L ∧ Touch (fun b => live (ow b) ∨ b = kx ∨ rb = some b) w w' ∧ ∀ b, b < w.heap.size → (ow b ≠ 0 → ow' b = ow b) ∧ (ow b = 0 → rb ≠ some b → ow' b = 0)
def setC (ow : Nat → Nat) (g k b : Nat) : Nat := if b = g then k else ow b
theorem setC_same {ow : Nat → Nat} {g k : Nat} (w : World) (hg : ow g = 0) : Same (fun x => x ≠ 0) ow (setC ow g k) w w := fun b _ hb => ⟨rfl, by
  unfold setC
  rw [if_neg]
  intro e; subst e; exact hb hg⟩
theorem box_touch {O : Nat → Prop} {w w' : World} {b : Nat} {t : TypeId} {v : Value} (h : IsBox w b t v) (ht : Touch O w w') (hO : ¬ O b) : IsBox w' b t v := (ht.block b (heap_lt h) hO).trans h
/-- behind the call, the keys' variable emptied -/
theorem Flushed.of {I : World → (Nat → Nat) → List (List Int) → Prop} {F : List (List Int)} {fid : FuncId} {caps : Array Value} {v m a : Int} (hD : DoOk I F fid caps v m a) {L : List (List Int)} {kx g : Nat} {ow ow1 ow2 : Nat → Nat} {w w1 w2 : World} {rb : Option Nat} {u : Value}
    (hb : Touch (fun b => b = kx) w w1) (h1 : ow1 = setC ow g 5) (hg : rb = some g ∨ w.heap.size ≤ g) (hg0 : g < w.heap.size → ow g = 0) (h2 : I w2 ow2 L) (hc : ∀ b, b < w1.heap.size → ow2 b = ow1 b) (ht : Touch (fun b => live (ow1 b)) w1 w2) (hbx : IsBox w1 kx 33 u) (hkx : ow kx = 0) (hkg : kx ≠ g) :
    Flushed I L kx rb ow w (w2.setCell ⟨kx, 0, none⟩ (.slice none 0 0)) := by
  have hk1 : ow1 kx = 0 := by rw [h1]; unfold setC; rw [if_neg hkg]; exact hkx
  have hbx2 := box_touch hbx ht (fun e => e.1 hk1)
  have hk2 : ow2 kx = 0 := (hc kx (heap_lt hbx)).trans hk1
  refine ⟨hbx2.set _, ow2, hD.kept _ _ _ _ _ h2 (fun b hb hne => ⟨Below.heap_setCell _ _ _ _ (fun e => by
    have e' : b = kx := e
    subst e'; exact hne hk2), rfl⟩) (by simp [World.setCell]), ?_, fun b hb2 => ?_⟩
  · refine (((hb.wide (O' := fun b => live (ow b) ∨ b = kx ∨ rb = some b) (fun b _ e => .inr (.inl e))).trans ht (fun x hx => ?_)).trans (Touch.setCell (fun b => live (ow b) ∨ b = kx ∨ rb = some b) w2 (p := ⟨kx, 0, none⟩) (.inr (.inl rfl)) _) (fun x hx => .inl hx))
    by_cases hlt : x < w.heap.size
    · by_cases e2 : x = g
      · rcases hg with e | e
        · exact .inl (.inr (.inr (by rw [e2]; exact e)))
        · omega
      · refine .inl (.inl ?_)
        rw [h1] at hx
        unfold setC at hx
        rw [if_neg e2] at hx; exact hx
    · exact .inr (by omega)
  · have h3 := hc b (Nat.lt_of_lt_of_le hb2 hb.size)
    rw [h1] at h3
    unfold setC at h3
    refine ⟨fun hne => ?_, fun h0 hrb => ?_⟩
    · rw [if_neg (fun e => by subst e; exact hne (hg0 hb2))] at h3
      exact h3
    · rw [if_neg (fun e => by
        subst e
        rcases hg with e | e
        · exact hrb e
        · omega)] at h3
      exact h3.trans h0
theorem flushP_nil : flushP [] = [] := rfl
theorem flushP_sp {k : List Int} (h1 : k.length = 5) (h2 : gl k 0 = 115) (h3 : gl k 1 = 112) : flushP k = [[32]] := by
  unfold flushP
  unfold gl at h2 h3
  rw [List.getD_eq_getElem?_getD, List.getElem?_eq_getElem (by omega)] at h2 h3
  rw [if_pos]
  rw [List.getElem?_eq_getElem (by omega), List.getElem?_eq_getElem (by omega)]
  exact ⟨h1, by simpa using h2, by simpa using h3⟩
theorem flushP_one {k : List Int} (h0 : k ≠ []) (h : ¬ (k.length = 5 ∧ gl k 0 = 115 ∧ gl k 1 = 112)) : flushP k = [k] := by
  unfold flushP
  rw [if_neg, if_neg h0]
  rintro ⟨h1, h2, h3⟩
  apply h
  unfold gl
  rw [List.getD_eq_getElem?_getD, List.getD_eq_getElem?_getD, h2, h3]
  exact ⟨h1, rfl, rfl⟩
theorem own_row_some {w : World} {s : Option Addr} {n c : Nat} {l : List Int} (h : OwnInts w 0 (.slice s n c) l) (h0 : l ≠ []) : ∃ g, s = some ⟨g, 0, none⟩ ∧ n = l.length ∧ n ≤ c ∧ g < w.heap.size ∧ ∃ cs, w.heap[g]? = some (.cells cs 3 (0, 0)) := by
  have hn := h.len
  subst hn
  rcases h.2 with ⟨h1, h2⟩ | ⟨g, cap, cur, h1, hg, hgg, h2, _⟩
  · exact absurd (List.eq_nil_of_length_eq_zero h2) h0
  · obtain ⟨rfl, _, rfl⟩ := Value.slice.inj h1
    exact ⟨g, rfl, rfl, h2, heap_lt hgg, _, hgg⟩
set_option maxRecDepth 100000 in
set_option maxHeartbeats 4000000 in
theorem flush_c (I : World → (Nat → Nat) → List (List Int) → Prop) (F : List (List Int)) (fid : FuncId) (caps : Array Value) (v m a : Int) (hD : DoOk I F fid caps v m a) (L : List (List Int)) (ow : Nat → Nat) (kx dx lx : Nat) (s : Option Addr) (n c : Nat) (k : List Int) (st : ByteArray) (w : World)
    (hI : I w ow L) (hF : L ++ flushP k <+: F) (hk : IsBox w kx 33 (.slice s n c)) (ho : OwnInts w 0 (.slice s n c) k) (hd : IsBox w dx 135 (.func (.func fid) #[] caps)) (hl : w.heap[lx]? = some (.cells #[.string st, .int .i64 v, .int .i64 m, .int .i64 a] 129 (0, 0)))
    (h0 : ow kx = 0 ∧ ow dx = 0 ∧ ow lx = 0 ∧ ∀ b, (Value.slice s n c).ownBlock = some b → ow b = 0) :
    Calls Try.prog 100 #[.pointer (some ⟨kx, 0, none⟩), .pointer (some ⟨dx, 0, none⟩), .pointer (some ⟨lx, 0, none⟩)] w fun e w' => e = .returned (.tuple #[]) ∧ Flushed I (L ++ flushP k) kx (Value.slice s n c).ownBlock ow w w' := by
  have hn := ho.len
  subst hn
  obtain ⟨ck, fk⟩ := hk.cell
  obtain ⟨cd, fd⟩ := hd.cell
  have l1 : w.cell? ⟨lx, 1, none⟩ = some (.int .i64 v) := block_cell hl
  have l2 : w.cell? ⟨lx, 2, none⟩ = some (.int .i64 m) := block_cell hl
  have l3 : w.cell? ⟨lx, 3, none⟩ = some (.int .i64 a) := block_cell hl
  have eg := hD.enter
  by_cases hk0 : k = []
  · subst hk0
    have HF : Hid (Flushed I (L ++ flushP []) kx (Value.slice s 0 c).ownBlock ow w (w.setCell ⟨kx, 0, none⟩ (.slice none 0 0))) := Lib.hid (by
      rw [flushP_nil, List.append_nil]
      refine ⟨hk.set _, ow, hD.kept _ _ _ _ _ hI (fun b hb hne => ⟨Below.heap_setCell _ _ _ _ (fun e => by
        have e' : b = kx := e
        subst e'; exact hne h0.1), rfl⟩) (by simp [World.setCell]), Touch.setCell _ w (p := ⟨kx, 0, none⟩) (.inr (.inl rfl)) _, fun b _ => ⟨fun _ => rfl, fun h _ => h⟩⟩)
    clear hD hI hF hk ho hd hl h0
    go_enter Try.func100, Try.ntmps100
    go_wp2
    go_end0
    exact ⟨rfl, HF.out⟩
  · obtain ⟨g, rfl, _, hnc, hgl, cs, hgt⟩ := own_row_some ho hk0
    have hgk : kx ≠ g := type_ne hk hgt (by decide)
    have hcg : ow g = 0 := h0.2.2.2 g rfl
    have hr := ho.is
    have hin : ∀ j, j < k.length → w.cell? ⟨g, j, none⟩ = some (.int .i64 (gl k j)) := fun j hj => by
      have := hr.cell hj
      rwa [Nat.zero_add] at this
    have HD := Lib.hid hD
    have HF := Lib.hid hF
    have hpos : 0 < k.length := List.length_pos_iff.2 hk0
    by_cases hsp : k.length = 5 ∧ gl k 0 = 115 ∧ gl k 1 = 112
    · have hfl := flushP_sp hsp.1 hsp.2.1 hsp.2.2
      rw [hfl] at HF
      rw [hfl]
      have r0 := hin 0 (by omega)
      have r1 := hin 1 (by omega)
      rw [hsp.2.1] at r0
      rw [hsp.2.2] at r1
      have z5 : ((k.length : Int) == 5) = true := by rw [beq_iff_eq]; omega
      have q1 : (1 : Int) < (k.length : Int) := by omega
      have q0 : (0 : Int) < (k.length : Int) := by omega
      have hkl := heap_lt hk
      have hsz : (w.setCell ⟨kx, 0, none⟩ (.slice (some ⟨w.heap.size, 0, none⟩) 1 1)).heap.size = w.heap.size := by simp [World.setCell]
      have hoth : ∀ b, b < w.heap.size → b ≠ kx → ((w.setCell ⟨kx, 0, none⟩ (.slice (some ⟨w.heap.size, 0, none⟩) 1 1)).alloc (.cells #[.int .i64 32] 3)).heap[b]? = w.heap[b]? := fun b hb hne => (Below.heap_alloc _ _ b (by rw [hsz]; exact hb)).trans (Below.heap_setCell _ _ _ _ hne)
      have hnew : ((w.setCell ⟨kx, 0, none⟩ (.slice (some ⟨w.heap.size, 0, none⟩) 1 1)).alloc (.cells #[.int .i64 32] 3)).heap[w.heap.size]? = some (.cells #[.int .i64 32] 3 (0, 0)) := by
        have := one_new (w.setCell ⟨kx, 0, none⟩ (.slice (some ⟨w.heap.size, 0, none⟩) 1 1)) (.cells #[.int .i64 32] 3)
        rwa [hsz] at this
      have nkd : dx ≠ kx := type_ne hd hk (by decide)
      have nkl : lx ≠ kx := type_ne hl hk (by decide)
      have hkx2 : IsBox ((w.setCell ⟨kx, 0, none⟩ (.slice (some ⟨w.heap.size, 0, none⟩) 1 1)).alloc (.cells #[.int .i64 32] 3)) kx 33 (.slice (some ⟨w.heap.size, 0, none⟩) 1 1) := (hk.set _).alloc _
      have hd2 : IsBox ((w.setCell ⟨kx, 0, none⟩ (.slice (some ⟨w.heap.size, 0, none⟩) 1 1)).alloc (.cells #[.int .i64 32] 3)) dx 135 (.func (.func fid) #[] caps) := (hoth dx (heap_lt hd) nkd).trans hd
      have hl2 := (hoth lx (heap_lt hl) nkl).trans hl
      have ck1 := hkx2.cell.1
      have cd1 := hd2.cell.1
      have m1 : ((w.setCell ⟨kx, 0, none⟩ (.slice (some ⟨w.heap.size, 0, none⟩) 1 1)).alloc (.cells #[.int .i64 32] 3)).cell? ⟨lx, 1, none⟩ = some (.int .i64 v) := block_cell hl2
      have m2 : ((w.setCell ⟨kx, 0, none⟩ (.slice (some ⟨w.heap.size, 0, none⟩) 1 1)).alloc (.cells #[.int .i64 32] 3)).cell? ⟨lx, 2, none⟩ = some (.int .i64 m) := block_cell hl2
      have m3 : ((w.setCell ⟨kx, 0, none⟩ (.slice (some ⟨w.heap.size, 0, none⟩) 1 1)).alloc (.cells #[.int .i64 32] 3)).cell? ⟨lx, 3, none⟩ = some (.int .i64 a) := block_cell hl2
      have hi1 : I ((w.setCell ⟨kx, 0, none⟩ (.slice (some ⟨w.heap.size, 0, none⟩) 1 1)).alloc (.cells #[.int .i64 32] 3)) (setC ow w.heap.size 5) L := HD.out.kept _ _ _ _ _ hI (fun b hb hne => ⟨hoth b hb (fun e => by subst e; exact hne h0.1), if_neg (by omega)⟩) (by simp [World.setCell])
      have hq1 : QOk ((w.setCell ⟨kx, 0, none⟩ (.slice (some ⟨w.heap.size, 0, none⟩) 1 1)).alloc (.cells #[.int .i64 32] 3)) ⟨w.heap.size, 1, 1, [32]⟩ := by
        refine ⟨rfl, .inr ⟨w.heap.size, 1, #[.int .i64 32], rfl, Nat.zero_le _, hnew, Nat.le_refl _, by unfold maxLen; omega, rfl, rfl⟩⟩
      have hto : Touch (fun b => b = kx) w ((w.setCell ⟨kx, 0, none⟩ (.slice (some ⟨w.heap.size, 0, none⟩) 1 1)).alloc (.cells #[.int .i64 32] 3)) := (Touch.setCell (fun b => b = kx) w (p := ⟨kx, 0, none⟩) rfl _).trans (Touch.alloc (fun b => b = kx) _ _) (fun x hx => .inl hx)
      have HI1 := Lib.hid hi1
      have HQ1 := Lib.hid hq1
      have HTO := Lib.hid hto
      have HKX := Lib.hid hkx2
      have H0 := Lib.hid h0.1
      clear hD hI hF hk ho hd hl h0 hi1 hq1 hto hkx2 hnew hr hin hfl hsp hgt hcg hk0 hgk l1 l2 l3 hpos hd2 hl2 hoth hsz
      go_enter Try.func100, Try.ntmps100
      go_wp2_with fail
      refine (HD.out.run _ _ L [32] w.heap.size 1 HI1.out HF.out HQ1.out (if_pos rfl) (Nat.le_refl _) (by simp)).mono ?_
      rintro e w2 ⟨rfl, ow2, h2, hc2, ht2⟩
      have hfin := Flushed.of HD.out (rb := some g) HTO.out rfl (.inr (Nat.le_refl _)) (fun h => by omega) h2 hc2 ht2 HKX.out H0.out (by omega)
      have hbx2 := box_touch HKX.out ht2 (fun e => e.1 (by show setC ow w.heap.size 5 kx = 0; unfold setC; rw [if_neg (by omega)]; exact H0.out))
      obtain ⟨ck2, fk2⟩ := hbx2.cell
      have HFIN := Lib.hid hfin
      clear hfin hbx2 h2 hc2 ht2
      go_wp2
      go_end0
      exact ⟨rfl, HFIN.out⟩
    · have hfl := flushP_one hk0 hsp
      rw [hfl] at HF
      rw [hfl]
      have hi1 : I w (setC ow g 5) L := HD.out.kept _ _ _ _ _ hI (setC_same w hcg) (Nat.le_refl _)
      have hq1 : QOk w ⟨g, k.length, c, k⟩ := ho
      have HI1 := Lib.hid hi1
      have HQ1 := Lib.hid hq1
      have HKX := Lib.hid hk
      have H0 := Lib.hid h0.1
      have HCG := Lib.hid hcg
      have HK0 := Lib.hid hk0
      have q0 : (0 : Int) < (k.length : Int) := by omega
      clear hD hI hF hk ho hd hl h0 hi1 hq1 hr hfl hgt hcg hk0 hpos
      by_cases h5 : k.length = 5
      · have z5 : ((k.length : Int) == 5) = true := by rw [beq_iff_eq]; omega
        have q1 : (1 : Int) < (k.length : Int) := by omega
        have r0 := hin 0 (by omega)
        have r1 := hin 1 (by omega)
        by_cases e0 : gl k 0 = 115
        · have e1 : ¬ gl k 1 = 112 := fun e => hsp ⟨h5, e0, e⟩
          rw [e0] at r0
          generalize gl k 1 = x1 at r1 e1
          have z1 : (x1 == 112) = false := by rw [beq_eq_false_iff_ne]; exact e1
          clear hin hsp h5 e0 e1
          go_enter Try.func100, Try.ntmps100
          go_wp2_with fail
          refine (HD.out.run _ _ L k g c HI1.out HF.out HQ1.out (if_pos rfl) hnc HK0.out).mono ?_
          rintro e w2 ⟨rfl, ow2, h2, hc2, ht2⟩
          have hfin := Flushed.of HD.out (rb := some g) (w1 := w) (Touch.refl _ _) rfl (.inl rfl) (fun _ => HCG.out) h2 hc2 ht2 HKX.out H0.out hgk
          have hbx2 := box_touch HKX.out ht2 (fun e => e.1 (by show setC ow g 5 kx = 0; unfold setC; rw [if_neg hgk]; exact H0.out))
          obtain ⟨ck2, fk2⟩ := hbx2.cell
          have HFIN := Lib.hid hfin
          clear hfin hbx2 h2 hc2 ht2
          go_wp2
          go_end0
          exact ⟨rfl, HFIN.out⟩
        · generalize gl k 0 = x0 at r0 e0
          have z1 : (x0 == 115) = false := by rw [beq_eq_false_iff_ne]; exact e0
          clear hin hsp h5 e0 r1
          go_enter Try.func100, Try.ntmps100
          go_wp2_with fail
          refine (HD.out.run _ _ L k g c HI1.out HF.out HQ1.out (if_pos rfl) hnc HK0.out).mono ?_
          rintro e w2 ⟨rfl, ow2, h2, hc2, ht2⟩
          have hfin := Flushed.of HD.out (rb := some g) (w1 := w) (Touch.refl _ _) rfl (.inl rfl) (fun _ => HCG.out) h2 hc2 ht2 HKX.out H0.out hgk
          have hbx2 := box_touch HKX.out ht2 (fun e => e.1 (by show setC ow g 5 kx = 0; unfold setC; rw [if_neg hgk]; exact H0.out))
          obtain ⟨ck2, fk2⟩ := hbx2.cell
          have HFIN := Lib.hid hfin
          clear hfin hbx2 h2 hc2 ht2
          go_wp2
          go_end0
          exact ⟨rfl, HFIN.out⟩
      · have z5 : ((k.length : Int) == 5) = false := by rw [beq_eq_false_iff_ne]; omega
        clear hin hsp h5
        go_enter Try.func100, Try.ntmps100
        go_wp2_with fail
        refine (HD.out.run _ _ L k g c HI1.out HF.out HQ1.out (if_pos rfl) hnc HK0.out).mono ?_
        rintro e w2 ⟨rfl, ow2, h2, hc2, ht2⟩
        have hfin := Flushed.of HD.out (rb := some g) (w1 := w) (Touch.refl _ _) rfl (.inl rfl) (fun _ => HCG.out) h2 hc2 ht2 HKX.out H0.out hgk
        have hbx2 := box_touch HKX.out ht2 (fun e => e.1 (by show setC ow g 5 kx = 0; unfold setC; rw [if_neg hgk]; exact H0.out))
        obtain ⟨ck2, fk2⟩ := hbx2.cell
        have HFIN := Lib.hid hfin
        clear hfin hbx2 h2 hc2 ht2
        go_wp2
        go_end0
        exact ⟨rfl, HFIN.out⟩
def codesOf (st : ByteArray) : List Int := st.data.toList.map fun b => (b.toNat : Int)
theorem codes_len (st : ByteArray) : (codesOf st).length = st.size := by simp [codesOf]
theorem codes_drop {st : ByteArray} {k : Nat} (h : k < st.size) : (codesOf st).drop k = ((st[k]'h).toNat : Int) :: (codesOf st).drop (k + 1) := by
  have hl := codes_len st
  rw [List.drop_eq_getElem_cons (by omega)]
  congr 1
  simp [codesOf]; rfl
/-- the state of each -/
structure EachSt (I : World → (Nat → Nat) → List (List Int) → Prop) (fid : FuncId) (caps : Array Value) (v m a : Int) (st : ByteArray) (F : List (List Int)) (ow0 : Nat → Nat) (w0 : World) (k : Nat) (cur : List Int) (L : List (List Int)) (ow : Nat → Nat) (s : Option Addr) (c : Nat) (w : World) : Prop where
  inv : I w ow L
  fin : L ++ eachP cur ((codesOf st).drop k) = F
  iter : w.heap[w0.heap.size + 3]? = some (.stringIter st k)
  kbox : IsBox w (w0.heap.size + 2) 33 (.slice s cur.length c)
  dbox : IsBox w (w0.heap.size + 1) 135 (.func (.func fid) #[] caps)
  line : w.heap[w0.heap.size]? = some (.cells #[.string st, .int .i64 v, .int .i64 m, .int .i64 a] 129 (0, 0))
  row : OwnInts w w0.heap.size (.slice s cur.length c) cur
  rc : ∀ b, (Value.slice s cur.length c).ownBlock = some b → ow b = 0
  zero : ∀ j, j < 4 → ow (w0.heap.size + j) = 0
  cls : ∀ b, b < w0.heap.size → ow b = ow0 b
  touch : Touch (fun b => live (ow0 b)) w0 w
section
variable {I : World → (Nat → Nat) → List (List Int) → Prop} {fid : FuncId} {caps : Array Value} {v m a : Int} {st : ByteArray} {F : List (List Int)} {ow0 : Nat → Nat} {w0 : World} {k : Nat} {cur : List Int} {L : List (List Int)} {ow : Nat → Nat} {s : Option Addr} {c : Nat} {w : World}
theorem EachSt.rowOut (h : EachSt I fid caps v m a st F ow0 w0 k cur L ow s c w) {b : Nat} (hb : (Value.slice s cur.length c).ownBlock = some b) : ∃ cs, w.heap[b]? = some (.cells cs 3 (0, 0)) := by
  rcases h.row.2 with ⟨h1, _⟩ | ⟨g, cap, cur', h1, hg, hgg, _⟩
  · rw [h1] at hb; cases hb
  · rw [h1] at hb; cases hb; exact ⟨_, hgg⟩
/-- the world with the iterator moved on -/
theorem EachSt.next (h : EachSt I fid caps v m a st F ow0 w0 k cur L ow s c w) (hD : DoOk I F fid caps v m a) (x : Nat) :
    let w' := w.iterAt (w0.heap.size + 3) st x
    I w' ow L ∧ w'.heap[w0.heap.size + 3]? = some (.stringIter st x) ∧ IsBox w' (w0.heap.size + 2) 33 (.slice s cur.length c) ∧ IsBox w' (w0.heap.size + 1) 135 (.func (.func fid) #[] caps) ∧
    w'.heap[w0.heap.size]? = some (.cells #[.string st, .int .i64 v, .int .i64 m, .int .i64 a] 129 (0, 0)) ∧ OwnInts w' w0.heap.size (.slice s cur.length c) cur ∧ Touch (fun b => live (ow0 b)) w0 w' := by
  have hz := h.zero 3 (by omega)
  have ho := fun j hj => Lib.iterAt_other w (w0.heap.size + 3) j st x hj
  have hsz := Lib.iterAt_size w (w0.heap.size + 3) st x
  refine ⟨hD.kept _ _ _ _ _ h.inv (fun b hb hne => ⟨ho b (fun e => by subst e; exact hne hz), rfl⟩) (by rw [hsz]; exact Nat.le_refl _), Lib.iterAt_heap w _ st k x h.iter, (ho _ (by omega)).trans h.kbox, (ho _ (by omega)).trans h.dbox, (ho _ (by omega)).trans h.line, h.row.kept (fun b hb hv => ho b (fun e => ?_)), ?_⟩
  · obtain ⟨cs, h1⟩ := h.rowOut hv
    rw [e, h.iter] at h1; cases h1
  · refine h.touch.trans (O' := fun b => b = w0.heap.size + 3) ⟨rfl, rfl, rfl, by rw [hsz]; exact Nat.le_refl _, fun b _ hb => ho b hb⟩ (fun x hx => .inr (by omega))
/-- behind a flush -/
theorem EachSt.flushed {w' : World} {kn : Nat} (h : EachSt I fid caps v m a st F ow0 w0 k cur L ow s c w) (hD : DoOk I F fid caps v m a) (hf : Flushed I (L ++ flushP cur) (w0.heap.size + 2) (Value.slice s cur.length c).ownBlock ow (w.iterAt (w0.heap.size + 3) st kn) w')
    (hfin : (L ++ flushP cur) ++ eachP [] ((codesOf st).drop kn) = F) : ∃ ow2, EachSt I fid caps v m a st F ow0 w0 kn [] (L ++ flushP cur) ow2 none 0 w' := by
  obtain ⟨hb, ow2, h1, ht, hc⟩ := hf
  obtain ⟨n1, n2, n3, n4, n5, n6, n7⟩ := h.next hD kn
  have hne : ∀ j, j < 4 → j ≠ 2 → ¬ (live (ow (w0.heap.size + j)) ∨ w0.heap.size + j = w0.heap.size + 2 ∨ (Value.slice s cur.length c).ownBlock = some (w0.heap.size + j)) := by
    intro j hj hj2 e
    rcases e with e | e | e
    · exact e.1 (h.zero j hj)
    · omega
    · obtain ⟨cs, h3⟩ := h.rowOut e
      have hcase : j = 0 ∨ j = 1 ∨ j = 3 := by omega
      rcases hcase with rfl | rfl | rfl
      · rw [Nat.add_zero, h.line] at h3
        injection h3 with h3; injection h3 with _ h3; exact absurd h3 (by decide)
      · have := h.dbox; unfold IsBox at this
        rw [this] at h3
        injection h3 with h3; injection h3 with _ h3; exact absurd h3 (by decide)
      · rw [h.iter] at h3; cases h3
  have hrow : ∀ j, j < 4 → (Value.slice s cur.length c).ownBlock ≠ some (w0.heap.size + j) := by
    intro j hj e
    by_cases hj2 : j = 2
    · subst hj2
      obtain ⟨cs, h3⟩ := h.rowOut e
      have := h.kbox; unfold IsBox at this
      rw [this] at h3
      injection h3 with h3; injection h3 with _ h3; exact absurd h3 (by decide)
    · exact hne j hj hj2 (.inr (.inr e))
  have hlt : ∀ j, j < 4 → w0.heap.size + j < (w.iterAt (w0.heap.size + 3) st kn).heap.size := by
    intro j hj
    have := (Array.getElem?_eq_some_iff.1 n2).1
    omega
  refine ⟨ow2, h1, hfin, ?_, hb, ?_, ?_, OwnInts.nil _ _, (fun b hb => by cases hb), fun j hj => (hc _ (hlt j hj)).2 (h.zero j hj) (hrow j hj), fun b hb => ?_, ?_⟩
  · exact (ht.block _ (hlt 3 (by omega)) (hne 3 (by omega) (by omega))).trans n2
  · exact (ht.block _ (hlt 1 (by omega)) (hne 1 (by omega) (by omega))).trans n4
  · exact (ht.block _ (hlt 0 (by omega)) (hne 0 (by omega) (by omega))).trans n5
  · have hb2 : b < (w.iterAt (w0.heap.size + 3) st kn).heap.size := Nat.lt_of_lt_of_le hb n7.size
    rw [← h.cls b hb]
    by_cases h0 : ow b = 0
    · rw [h0]
      refine (hc b hb2).2 h0 (fun e => ?_)
      have := (World.ownsRow.lt h.row b e).1
      omega
    · exact (hc b hb2).1 h0
  · refine n7.trans ht (fun x hx => ?_)
    by_cases hx0 : x < w0.heap.size
    · rcases hx with e | e | e
      · exact .inl (by rw [← h.cls x hx0]; exact e)
      · omega
      · have := (World.ownsRow.lt h.row x e).1
        omega
    · exact .inr (by omega)
/-- one key more -/
theorem EachSt.pushed {w' : World} {kn : Nat} {x : Int} {s' : Option Addr} {c' : Nat} (h : EachSt I fid caps v m a st F ow0 w0 k cur L ow s c w) (hD : DoOk I F fid caps v m a)
    (ho : OwnInts w' w0.heap.size (.slice s' (cur.length + 1) c') (cur ++ [x])) (hg : (w.iterAt (w0.heap.size + 3) st kn).grownBy w' (Value.slice s cur.length c).ownBlock) (hat : (Value.slice s' (cur.length + 1) c').ownBlock = (Value.slice s cur.length c).ownBlock ∨ ∃ b, (Value.slice s' (cur.length + 1) c').ownBlock = some b ∧ (w.iterAt (w0.heap.size + 3) st kn).heap.size ≤ b)
    (hfin : L ++ eachP (cur ++ [x]) ((codesOf st).drop kn) = F) : ∃ ow2, EachSt I fid caps v m a st F ow0 w0 kn (cur ++ [x]) L ow2 s' c' (w'.setCell ⟨w0.heap.size + 2, 0, none⟩ (.slice s' (cur.length + 1) c')) := by
  obtain ⟨n1, n2, n3, n4, n5, n6, n7⟩ := h.next hD kn
  have hrow : ∀ j, j < 4 → (Value.slice s cur.length c).ownBlock ≠ some (w0.heap.size + j) := by
    intro j hj e
    obtain ⟨cs, h3⟩ := h.rowOut e
    have hcase : j = 0 ∨ j = 1 ∨ j = 2 ∨ j = 3 := by omega
    rcases hcase with rfl | rfl | rfl | rfl
    · rw [Nat.add_zero, h.line] at h3
      injection h3 with h3; injection h3 with _ h3; exact absurd h3 (by decide)
    · have := h.dbox; unfold IsBox at this
      rw [this] at h3
      injection h3 with h3; injection h3 with _ h3; exact absurd h3 (by decide)
    · have := h.kbox; unfold IsBox at this
      rw [this] at h3
      injection h3 with h3; injection h3 with _ h3; exact absurd h3 (by decide)
    · rw [h.iter] at h3; cases h3
  have hlt : ∀ j, j < 4 → w0.heap.size + j < (w.iterAt (w0.heap.size + 3) st kn).heap.size := by
    intro j hj
    have := (Array.getElem?_eq_some_iff.1 n2).1
    omega
  have hk : ∀ b, b < (w.iterAt (w0.heap.size + 3) st kn).heap.size → (Value.slice s cur.length c).ownBlock ≠ some b → b ≠ w0.heap.size + 2 → (w'.setCell ⟨w0.heap.size + 2, 0, none⟩ (.slice s' (cur.length + 1) c')).heap[b]? = (w.iterAt (w0.heap.size + 3) st kn).heap[b]? := fun b hb h1 h2 =>
    (Below.heap_setCell _ _ _ _ h2).trans (hg.block b hb (fun e => h1 e.symm))
  have hkb : IsBox w' (w0.heap.size + 2) 33 (.slice s cur.length c) := (hg.block _ (hlt 2 (by omega)) (fun e => hrow 2 (by omega) e.symm)).trans n3
  refine ⟨newC ow (w.iterAt (w0.heap.size + 3) st kn).heap.size 0, ?_, hfin, ?_, ?_, ?_, ?_, ?_, ?_, fun j hj => (newC_old ow (hlt j hj)).trans (h.zero j hj), fun b hb => ?_, ?_⟩
  · refine hD.kept _ _ _ _ _ n1 (fun b hb hne => ⟨hk b hb (fun e => hne (h.rc b e)) (fun e => by subst e; exact hne (h.zero 2 (by omega))), newC_old ow hb⟩) ?_
    have := hg.size
    simpa [World.setCell] using this
  · exact (hk _ (hlt 3 (by omega)) (hrow 3 (by omega)) (by omega)).trans n2
  · rw [List.length_append]; exact hkb.set _
  · exact (hk _ (hlt 1 (by omega)) (hrow 1 (by omega)) (by omega)).trans n4
  · exact (hk _ (hlt 0 (by omega)) (hrow 0 (by omega)) (by omega)).trans n5
  · rw [List.length_append]
    refine ho.kept (fun b hb hv => Below.heap_setCell _ _ _ _ (fun e => ?_))
    have e' : b = w0.heap.size + 2 := e
    subst e'
    rcases hat with e1 | ⟨b', e1, e2⟩
    · exact hrow 2 (by omega) (e1.symm.trans hv)
    · have h3 : some b' = some (w0.heap.size + 2) := e1.symm.trans hv
      injection h3 with h3
      have := hlt 2 (by omega)
      omega
  · intro b hb
    rw [List.length_append] at hb
    rcases hat with e1 | ⟨b', e1, e2⟩
    · have hv := e1.symm.trans hb
      have h4 := h.rc b hv
      rw [newC_old ow (by rw [Lib.iterAt_size]; exact (World.ownsRow.lt h.row b hv).2)]; exact h4
    · have h3 : some b' = some b := e1.symm.trans hb
      injection h3 with h3
      exact newC_new ow (by omega)
  · exact (newC_old ow (Nat.lt_of_lt_of_le hb n7.size)).trans (h.cls b hb)
  · refine n7.trans (O' := fun b => (Value.slice s cur.length c).ownBlock = some b ∨ b = w0.heap.size + 2) ((Touch.grown (O := fun b => (Value.slice s cur.length c).ownBlock = some b ∨ b = w0.heap.size + 2) hg (fun b e => .inl e)).trans (Touch.setCell (fun b => (Value.slice s cur.length c).ownBlock = some b ∨ b = w0.heap.size + 2) w' (p := ⟨w0.heap.size + 2, 0, none⟩) (.inr rfl) _) (fun x hx => .inl hx)) (fun x hx => .inr ?_)
    rcases hx with e | e
    · exact (World.ownsRow.lt h.row x e).1
    · omega
end
end Go.Proofs.Ytampjndfhpjheaa
