/- Contract: line.each, whatever takes the rows. Condition: texts of fewer than 1000 scalars, below 128. -/
import Derived.Test.YtampjndfhpjheaaYi
namespace Go.Proofs.Ytampjndfhpjheaa
open Go.RowKit
theorem each_start {I : World → (Nat → Nat) → List (List Int) → Prop} {F : List (List Int)} {fid : FuncId} {caps : Array Value} {v m a : Int} {ow : Nat → Nat} {st : ByteArray} {w : World} (hI : I w ow []) (hD : DoOk I F fid caps v m a) (hF : eachP [] (codesOf st) = F) :
    EachSt I fid caps v m a st F ow w 0 [] [] (newC ow w.heap.size 0) none 0 ((((w.alloc (.cells #[.string st, .int .i64 v, .int .i64 m, .int .i64 a] 129)).alloc (.cells #[.func (.func fid) #[] caps] 135)).alloc (.cells #[.slice none 0 0] 33)).iter st 0) := by
  have h1 := one_new w (.cells #[.string st, .int .i64 v, .int .i64 m, .int .i64 a] 129)
  have s1 : (w.alloc (.cells #[.string st, .int .i64 v, .int .i64 m, .int .i64 a] 129)).heap.size = w.heap.size + 1 := by simp
  have b1 := below_new2 w (.cells #[.string st, .int .i64 v, .int .i64 m, .int .i64 a] 129)
  generalize w.alloc (.cells #[.string st, .int .i64 v, .int .i64 m, .int .i64 a] 129) = w1 at *
  have h2 := one_new w1 (.cells #[.func (.func fid) #[] caps] 135)
  have s2 : (w1.alloc (.cells #[.func (.func fid) #[] caps] 135)).heap.size = w.heap.size + 2 := by simp [s1]
  have b2 := below_new2 w1 (.cells #[.func (.func fid) #[] caps] 135)
  generalize w1.alloc (.cells #[.func (.func fid) #[] caps] 135) = w2 at *
  have h3 := one_new w2 (.cells #[.slice none 0 0] 33)
  have s3 : (w2.alloc (.cells #[.slice none 0 0] 33)).heap.size = w.heap.size + 3 := by simp [s2]
  have b3 := below_new2 w2 (.cells #[.slice none 0 0] 33)
  generalize w2.alloc (.cells #[.slice none 0 0] 33) = w3 at *
  have b4 := below_new2 w3 (.stringIter st 0)
  have h4 := one_new w3 (.stringIter st 0)
  have s4 : (w3.alloc (.stringIter st 0)).heap.size = w.heap.size + 4 := by simp [s3]
  have e4 : w3.iter st 0 = w3.alloc (.stringIter st 0) := rfl
  rw [e4]
  generalize w3.alloc (.stringIter st 0) = w4 at *
  rw [s3] at h4
  rw [s2] at h3
  rw [s1] at h2
  have bb : Below w.heap.size w w4 := bt (bt (bt b1 b2) b3) b4
  refine ⟨hD.kept _ _ _ _ _ hI (fun b hb _ => ⟨bb.block b hb, newC_old ow hb⟩) bb.size, hF, h4, (b4.block _ (by omega)).trans h3, ((b4.block _ (by omega)).trans (b3.block _ (by omega))).trans h2, (((b4.block _ (by omega)).trans (b3.block _ (by omega))).trans (b2.block _ (by omega))).trans h1, OwnInts.nil _ _, (fun b hb => by cases hb), fun j hj => newC_new ow (by omega), fun b hb => newC_old ow hb, Touch.of bb⟩
set_option maxRecDepth 100000 in
set_option maxHeartbeats 4000000 in
theorem each_c (I : World → (Nat → Nat) → List (List Int) → Prop) (F : List (List Int)) (fid : FuncId) (caps : Array Value) (v m a : Int) (hD : DoOk I F fid caps v m a) (ow : Nat → Nat) (st : ByteArray) (w : World) (hsz : st.size < 1000) (hst : ∀ (k : Nat) (h : k < st.size), (st[k]'h).toNat < 128) (hF : eachP [] (codesOf st) = F) (hI : I w ow []) :
    Calls Try.prog 79 #[.agg #[.string st, .int .i64 v, .int .i64 m, .int .i64 a], .func (.func fid) #[] caps] w fun e w' => e = .returned (.tuple #[]) ∧ ∃ ow', I w' ow' F ∧ (∀ b, b < w.heap.size → ow' b = ow b) ∧ Touch (fun b => live (ow b)) w w' := by
  have hmf : ∀ (fn : Fn) (first cap : Array Value) (w : World), (Instr.makeFunc fn first cap).run Try.prog w = .ok (.func fn first cap) w := fun _ _ _ _ => rfl
  have eg := enters_of Try.func100 (by kernel_rfl) rfl
  have HD := Lib.hid hD
  have HST := Lib.hid hst
  have hs0 : ∃ w1, w1 = (((w.alloc (.cells #[.string st, .int .i64 v, .int .i64 m, .int .i64 a] 129)).alloc (.cells #[.func (.func fid) #[] caps] 135)).alloc (.cells #[.slice none 0 0] 33)).iter st 0 ∧ EachSt I fid caps v m a st F ow w 0 [] [] (newC ow w.heap.size 0) none 0 w1 := by
    refine ⟨_, rfl, each_start hI hD hF⟩
  obtain ⟨w1, hw1, hst1⟩ := hs0
  have HW1 := Lib.hid hw1
  have HS1 := Lib.hid hst1
  clear hD hst hI hw1 hst1
  go_enter Try.func79, Try.ntmps79
  go_wp2_with fail
  rw [← HW1.out]
  go_loopg [] st.size (fun gg wr => ∃ k cur L ow1 s c, k + gg = st.size ∧ EachSt I fid caps v m a st F ow w k cur L ow1 s c wr ∧ cur.length ≤ k)
  case atStart => exact ⟨0, [], [], _, none, 0, by omega, HS1.out, Nat.le_refl _⟩
  case round =>
    obtain ⟨k, cur, L, ow1, s, c, hg, he, hcl⟩ := hrel
    clear HS1 HW1
    have HE := Lib.hid he
    clear he
    by_cases hlt : k < st.size
    · have hasc := HST.out k hlt
      have hnx : ∀ ty, (Instr.next (.pointer (some ⟨w.heap.size + 3, 0, none⟩)) true ty).run Try.prog wr = _ := fun ty => Lib.run_next_ascii_at wr (w.heap.size + 3) st k ty HE.out.iter hlt hasc
      obtain ⟨n1, n2, n3, n4, n5, n6, n7⟩ := HE.out.next HD.out (k + 1)
      have hdr := codes_drop hlt
      have hfin := HE.out.fin
      rw [hdr] at hfin
      have hzero := HE.out.zero
      have hrc := HE.out.rc
      have hrow := HE.out.row
      generalize hx : ((st[k]'hlt).toNat : Int) = x at *
      have hx0 : 0 ≤ x := by rw [← hx]; exact Int.natCast_nonneg _
      have hx1 : x < 128 := by rw [← hx]; omega
      have HX := Lib.hid hx
      clear hx hdr hasc
      have HW2 := Lib.hid (rfl : wr.iterAt (w.heap.size + 3) st (k + 1) = wr.iterAt (w.heap.size + 3) st (k + 1))
      generalize hW2 : wr.iterAt (w.heap.size + 3) st (k + 1) = w2 at hnx n1 n2 n3 n4 n5 n6 n7
      have HW := Lib.hid hW2
      clear hW2 HW2
      by_cases h32 : x = 32
      · subst h32
        have hfl := hfin
        rw [eachP, if_pos rfl, ← List.append_assoc] at hfl
        have HFL := Lib.hid hfl
        have hz : newC ow w.heap.size 0 0 = newC ow w.heap.size 0 0 := rfl
        have HN1 := Lib.hid n1
        have HN3 := Lib.hid n3
        have HN4 := Lib.hid n4
        have HN5 := Lib.hid n5
        have HN6 := Lib.hid (n6.mono (Nat.zero_le _))
        have HZ := Lib.hid hzero
        have HRC := Lib.hid hrc
        clear hfl hfin n1 n2 n3 n4 n5 n6 n7 hzero hrc hrow hz
        go_wp2_with fail
        refine (flush_c I F fid caps v m a HD.out L ow1 (w.heap.size + 2) (w.heap.size + 1) w.heap.size s cur.length c cur st _ HN1.out (by rw [← HFL.out]; exact List.prefix_append _ _) HN3.out HN6.out HN4.out HN5.out ⟨HZ.out 2 (by omega), HZ.out 1 (by omega), HZ.out 0 (by omega), HRC.out⟩).mono ?_
        rintro e w3 ⟨rfl, hf⟩
        rw [← HW.out] at hf
        obtain ⟨ow2, he2⟩ := HE.out.flushed HD.out hf HFL.out
        have HE2 := Lib.hid he2
        clear hf he2
        go_wp2
        go_roundg (gk - 1)
        case measure => omega
        case rel => exact ⟨k + 1, [], _, ow2, none, 0, by omega, HE2.out, Nat.zero_le _⟩
      · have z32 : (x == 32) = false := by rw [beq_eq_false_iff_ne]; exact h32
        have hfl := hfin
        rw [eachP, if_neg h32] at hfl
        have HFL := Lib.hid hfl
        obtain ⟨ck, fk⟩ := n3.cell
        have hlen : cur.length < 4294967296 := by omega
        have hbs : w.heap.size ≤ w2.heap.size := n7.size
        have HN6 := Lib.hid n6
        have hrow' : ∀ w3 b, w2.grownBy w3 (Value.slice s cur.length c).ownBlock → b = w.heap.size + 2 → IsBox w3 b 33 (.slice s cur.length c) := fun w3 b hg2 hb => by
          subst hb
          exact n3.grown hg2 (own_box_ne n6 n3 (by decide))
        have HROW := Lib.hid hrow'
        clear hfl hfin n1 n2 n3 n4 n5 n7 hzero hrc hrow h32 hrow'
        go_wp2_with (first
          | (at_builtin; refine wpList_push3 x rfl (.tmp 19) (.tmp 22) rfl w.heap.size s cur.length c cur rfl rfl n6 hlen hbs ?_; intro s' c' w3 ho hg2 hat; have k3 := (HROW.out w3 _ hg2 rfl).cell.1; have f3 := (HROW.out w3 _ hg2 rfl).cell.2))
        rw [← HW.out] at hg2 hat
        obtain ⟨ow2, he2⟩ := HE.out.pushed HD.out ho hg2 hat HFL.out
        have HE2 := Lib.hid he2
        clear hg2 hat he2 ho
        go_roundg (gk - 1)
        case measure => omega
        case rel => exact ⟨k + 1, _, _, ow2, s', c', by omega, HE2.out, by simp; omega⟩
    · have hnx : ∀ ty, (Instr.next (.pointer (some ⟨w.heap.size + 3, 0, none⟩)) true ty).run Try.prog wr = _ := fun ty => Lib.run_next_end_at wr (w.heap.size + 3) st k ty HE.out.iter hlt
      have hfl := HE.out.fin
      rw [List.drop_of_length_le (by rw [codes_len]; omega), eachP] at hfl
      have HFL := Lib.hid hfl
      clear hfl
      go_wp2_with fail
      refine (flush_c I F fid caps v m a HD.out L ow1 (w.heap.size + 2) (w.heap.size + 1) w.heap.size s cur.length c cur st _ HE.out.inv (by rw [HFL.out]; exact List.prefix_refl _) HE.out.kbox (HE.out.row.mono (Nat.zero_le _)) HE.out.dbox HE.out.line ⟨HE.out.zero 2 (by omega), HE.out.zero 1 (by omega), HE.out.zero 0 (by omega), HE.out.rc⟩).mono ?_
      rintro e w3 ⟨rfl, hb, ow2, h1, ht, hc⟩
      have hfin : ∃ ow', I w3 ow' F ∧ (∀ b, b < w.heap.size → ow' b = ow b) ∧ Touch (fun b => live (ow b)) w w3 := by
        refine ⟨ow2, by rw [HFL.out] at h1; exact h1, fun b hb => ?_, ?_⟩
        · have hb2 : b < wr.heap.size := Nat.lt_of_lt_of_le hb HE.out.touch.size
          rw [← HE.out.cls b hb]
          by_cases h0 : ow1 b = 0
          · rw [h0]
            refine (hc b hb2).2 h0 (fun e => ?_)
            have := (World.ownsRow.lt HE.out.row b e).1
            omega
          · exact (hc b hb2).1 h0
        · refine HE.out.touch.trans ht (fun x hx => ?_)
          by_cases hx0 : x < w.heap.size
          · rcases hx with e | e | e
            · exact .inl (by rw [← HE.out.cls x hx0]; exact e)
            · omega
            · have := (World.ownsRow.lt HE.out.row x e).1
              omega
          · exact .inr (by omega)
      have HFIN := Lib.hid hfin
      clear hfin hb h1 ht hc
      go_wp2
      go_end0
      exact ⟨rfl, HFIN.out⟩
end Go.Proofs.Ytampjndfhpjheaa
