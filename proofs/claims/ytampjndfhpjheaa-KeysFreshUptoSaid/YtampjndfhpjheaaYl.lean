/- Contract: add of the tables. Condition: tables that are good; lines of fewer than 1000 scalars, below 128. -/
import Derived.Test.YtampjndfhpjheaaYk
namespace Go.Proofs.Ytampjndfhpjheaa
open Go.RowKit
abbrev LineM := ByteArray × Int × Int × Int
def linesC (M : List LineM) : List Value := M.flatMap fun x => [.string x.1, .int .i64 x.2.1, .int .i64 x.2.2.1, .int .i64 x.2.2.2]
def linesOf (M : List LineM) : List (List Int × Int × Int × Int) := M.map fun x => (codesOf x.1, x.2)
theorem linesC_get (M : List LineM) (j k : Nat) (hj : j < M.length) (hk : k < 4) : (linesC M)[j * 4 + k]? = [Value.string (M[j]).1, .int .i64 (M[j]).2.1, .int .i64 (M[j]).2.2.1, .int .i64 (M[j]).2.2.2][k]? := by
  induction M generalizing j with
  | nil => simp at hj
  | cons x l ih =>
    show ([Value.string x.1, .int .i64 x.2.1, .int .i64 x.2.2.1, .int .i64 x.2.2.2] ++ linesC l)[j * 4 + k]? = _
    cases j with
    | zero =>
      rw [List.getElem?_append_left (by simp; omega)]
      simp
    | succ j =>
      rw [List.getElem?_append_right (by simp; omega), show (j + 1) * 4 + k - [Value.string x.1, .int .i64 x.2.1, .int .i64 x.2.2.1, .int .i64 x.2.2.2].length = j * 4 + k from by simp; omega]
      exact ih j (by simpa using hj)
/-- lines that add may take -/
def Ascii (M : List LineM) : Prop := ∀ x ∈ M, x.1.size < 1000 ∧ ∀ (k : Nat) (h : k < x.1.size), (x.1[k]'h).toNat < 128
theorem addP_snoc (f : Bd → Bd) (M : List LineM) (k : Nat) (h : k < M.length) : addP f (linesOf (M.take (k + 1))) = addP f (linesOf (M.take k)) ++ (eachP [] (codesOf (M[k]).1)).map fun p => (p, f ⟨(M[k]).2.1, (M[k]).2.2.1, (M[k]).2.2.2, false, []⟩) := by
  have e : M.take (k + 1) = M.take k ++ [M[k]] := by rw [List.take_add_one, List.getElem?_eq_getElem h]; rfl
  rw [e]
  unfold addP linesOf
  rw [List.map_append, List.flatMap_append]
  simp [lineB]
theorem addP_pre (f : Bd → Bd) (M : List LineM) (k : Nat) : addP f (linesOf (M.take k)) <+: addP f (linesOf M) := by
  refine ⟨addP f (linesOf (M.drop k)), ?_⟩
  unfold addP linesOf
  rw [← List.flatMap_append, ← List.map_append, List.take_append_drop]
set_option maxRecDepth 100000 in
set_option maxHeartbeats 4000000 in
theorem add_c (tb i : Nat) (T : Nat → Rows) (f : Bd → Bd) (fb : BV → BV) (cf : FuncId) (hc : ChOk cf fb) (hf : ∀ v m a, fb (bvOf ⟨v, m, a, false, []⟩) = bvOf (f ⟨v, m, a, false, []⟩) ∧ (f ⟨v, m, a, false, []⟩).own = []) (hi : i < 3) (M : List LineM) (ow : Nat → Nat) (g : Nat) (w : World)
    (hg : Good (T i ++ addP f (linesOf M))) (hM : Ascii M) (ht : Tabs w ow tb T) (hl : w.heap[g]? = some (.cells (linesC M).toArray 129 (0, 0))) (hgl : ¬ live (ow g)) (hn : M.length < 1000) :
    Calls Try.prog 66 #[.pointer (some ⟨tb, 4 * i, none⟩), .slice (some ⟨g, 0, none⟩) M.length M.length, .func (.func cf) #[] #[]] w fun e w' => e = .returned (.tuple #[]) ∧ PutPostT ow tb (updT T i (T i ++ addP f (linesOf M))) w w' := by
  have hmf : ∀ (fn : Fn) (first cap : Array Value) (w : World), (Instr.makeFunc fn first cap).run Try.prog w = .ok (.func fn first cap) w := fun _ _ _ _ => rfl
  have HG := Lib.hid hg
  have HM := Lib.hid hM
  have HC := Lib.hid hc
  have HF := Lib.hid hf
  have HL := Lib.hid hl
  have HGL := Lib.hid hgl
  have hs : ∃ w1 ow1, w1 = (w.alloc (.cells #[.pointer (some ⟨tb, 4 * i, none⟩)] 123)).alloc (.cells #[.func (.func cf) #[] #[]] 126) ∧ Below w.heap.size w w1 ∧ w1.heap.size = w.heap.size + 2 ∧ Tabs w1 ow1 tb T ∧ IsBox w1 (w.heap.size + 1) 126 (.func (.func cf) #[] #[]) ∧ IsBox w1 w.heap.size 123 (.pointer (some ⟨tb, 4 * i, none⟩)) ∧ ow1 (w.heap.size + 1) = 5 ∧ ow1 w.heap.size = 5 ∧ ∀ b, b < w.heap.size → ow1 b = ow b := by
    have h1 := below_new2 w (.cells #[.pointer (some ⟨tb, 4 * i, none⟩)] 123)
    have n1 := IsBox.new w 123 (.pointer (some ⟨tb, 4 * i, none⟩))
    have s1 : (w.alloc (.cells #[.pointer (some ⟨tb, 4 * i, none⟩)] 123)).heap.size = w.heap.size + 1 := by simp
    generalize w.alloc (.cells #[.pointer (some ⟨tb, 4 * i, none⟩)] 123) = wa at *
    have h2 := below_new2 wa (.cells #[.func (.func cf) #[] #[]] 126)
    have n2 := IsBox.new wa 126 (.func (.func cf) #[] #[])
    rw [s1] at n2
    refine ⟨_, newC ow w.heap.size 5, rfl, bt h1 h2, by simp [s1], ht.kept (fun b hb _ => ⟨(bt h1 h2).block b hb, newC_old ow hb⟩) (bt h1 h2).size, n2, n1.below h2, newC_new ow (by omega), newC_new ow (Nat.le_refl _), fun b hb => newC_old ow hb⟩
  obtain ⟨w1, ow1, hw1, hb1, hsz, ht1, hcx, hpx, k1, k2, hcl⟩ := hs
  have HW1 := Lib.hid hw1
  have HB1 := Lib.hid hb1
  have HT1 := Lib.hid ht1
  have HCX := Lib.hid hcx
  have HPX := Lib.hid hpx
  have HK1 := Lib.hid k1
  have HK2 := Lib.hid k2
  have HCL := Lib.hid hcl
  have hgs := heap_lt hl
  clear hg hM hc hf ht hl hgl hw1 hb1 ht1 hcx hpx k1 k2 hcl hsz
  go_enter Try.func66, Try.ntmps66
  go_wp2_with fail
  rw [← HW1.out]
  go_loopg [10] M.length (fun gg iv wr => ∃ k : Nat, ∃ ow2, k + gg = M.length ∧ iv = .int .i64 k ∧ Tabs wr ow2 tb (updT T i (T i ++ addP f (linesOf (M.take k)))) ∧ IsBox wr (w.heap.size + 1) 126 (.func (.func cf) #[] #[]) ∧ IsBox wr w.heap.size 123 (.pointer (some ⟨tb, 4 * i, none⟩)) ∧ ow2 (w.heap.size + 1) = 5 ∧ ow2 w.heap.size = 5 ∧ (∀ b, b < w.heap.size → ow2 b = ow b) ∧ Touch (fun b => live (ow b)) w wr)
  case atStart => exact ⟨0, ow1, by omega, rfl, by simpa [addP, linesOf, updT_self] using HT1.out, HCX.out, HPX.out, HK1.out, HK2.out, HCL.out, Touch.of HB1.out⟩
  case round =>
    obtain ⟨k, ow2, hgk, rfl, ht, hcx, hpx, k1, k2, hcl, hto⟩ := hrel
    clear HT1 HCX HPX HK1 HK2 HCL HB1
    have HT := Lib.hid ht
    have HCX := Lib.hid hcx
    have HPX := Lib.hid hpx
    have HK1 := Lib.hid k1
    have HK2 := Lib.hid k2
    have HCL := Lib.hid hcl
    have HTO := Lib.hid hto
    clear ht hcx hpx k1 k2 hcl hto
    by_cases hlt : k < M.length
    · have hlr := (HTO.out.block g hgs HGL.out).trans HL.out
      have hget := fun j hj => linesC_get M k j hlt hj
      have hcell : ∀ j, j < 4 → wr.cell? ⟨g, k * 4 + j, none⟩ = [Value.string (M[k]).1, .int .i64 (M[k]).2.1, .int .i64 (M[k]).2.2.1, .int .i64 (M[k]).2.2.2][j]? := fun j hj => by
        rw [block_cell hlr, List.getElem?_toArray]; exact hget j hj
      have hasc := HM.out _ (List.getElem_mem hlt)
      have hsn := addP_snoc f M k hlt
      have hpr := addP_pre f M (k + 1)
      have hff := HF.out (M[k]).2.1 (M[k]).2.2.1 (M[k]).2.2.2
      generalize M[k] = ln at *
      obtain ⟨st, v, m, a⟩ := ln
      have c0 : wr.cell? ⟨g, k * 4, none⟩ = some (.string st) := hcell 0 (by omega)
      have c1 : wr.cell? ⟨g, k * 4 + 1, none⟩ = some (.int .i64 v) := hcell 1 (by omega)
      have c2 : wr.cell? ⟨g, k * 4 + 2, none⟩ = some (.int .i64 m) := hcell 2 (by omega)
      have c3 : wr.cell? ⟨g, k * 4 + 3, none⟩ = some (.int .i64 a) := hcell 3 (by omega)
      have HASC := Lib.hid hasc
      have HSN := Lib.hid hsn
      have HPR := Lib.hid hpr
      have HFF := Lib.hid hff
      have HMF := hmf
      clear hlr hget hcell hasc hsn hpr hff HMF
      have hbn := below_new2 wr (.cells #[.string st, .int .i64 v, .int .i64 m, .int .i64 a] 129)
      have hin : AddI tb i (updT T i (T i ++ addP f (linesOf (M.take k)))) (f ⟨v, m, a, false, []⟩) (w.heap.size + 1) w.heap.size cf (wr.alloc (.cells #[.string st, .int .i64 v, .int .i64 m, .int .i64 a] 129)) ow2 [] := by
        refine AddI.kept ⟨?_, HCX.out, HPX.out, HK1.out, HK2.out⟩ (Same.of hbn) hbn.size
        rw [List.map_nil, List.append_nil, updT_self]; exact HT.out
      have hdo := add1_ok tb i (updT T i (T i ++ addP f (linesOf (M.take k)))) f fb cf HC.out v m a HFF.out.1 HFF.out.2 (w.heap.size + 1) w.heap.size (eachP [] (codesOf st)) hi (by
        rw [updT_at, List.append_assoc, ← HSN.out]
        exact HG.out.pre ((List.prefix_append_right_inj _).2 HPR.out))
      have HIN := Lib.hid hin
      have HDO := Lib.hid hdo
      have HBN := Lib.hid hbn
      clear hin hdo hbn
      go_wp2_with fail
      refine (each_c _ _ _ _ v m a HDO.out ow2 st _ HASC.out.1 HASC.out.2 rfl HIN.out).mono ?_
      rintro e w3 ⟨rfl, ow3, h3, hc3, ht3⟩
      have hbs := HBN.out.size
      have hto3 : Touch (fun b => live (ow b)) w w3 := (HTO.out.trans (Touch.of (O := fun b => live (ow b)) HBN.out) (fun x hx => .inl hx)).trans ht3 (fun x hx => by
        by_cases hx0 : x < w.heap.size
        · exact .inl (by rw [← HCL.out x hx0]; exact hx)
        · exact .inr (by omega))
      have hws := HTO.out.size
      have HI3 := Lib.hid h3
      have HC3 := Lib.hid hc3
      have HT3 := Lib.hid hto3
      clear h3 hc3 ht3 hto3
      go_wp2
      go_roundg (gk - 1)
      case measure => omega
      case rel =>
        obtain ⟨h1, h2, h3, h4, h5⟩ := HI3.out
        refine ⟨k + 1, ow3, by omega, by go_num, ?_, h2, h3, h4, h5, fun b hb => ?_, HT3.out⟩
        · rw [updT_same, updT_at, List.append_assoc, ← HSN.out] at h1
          exact h1
        · rw [HC3.out b (by omega)]; exact HCL.out b hb
    · have hk : M.take k = M := List.take_of_length_le (by omega)
      have hfin : PutPostT ow tb (updT T i (T i ++ addP f (linesOf M))) w wr := by
        have h1 := HT.out
        rw [hk] at h1
        exact ⟨ow2, h1, HCL.out, HTO.out⟩
      have HFIN := Lib.hid hfin
      clear hk hfin
      go_wp2
      go_end0
      exact ⟨rfl, HFIN.out⟩
end Go.Proofs.Ytampjndfhpjheaa
