/- The contract of looked. Condition: fewer than 2^30 rows and keys. -/
import Derived.Test.YtampjndfhpjheaaTn
import Derived.StillTailTactics
import Derived.Laws.StructEq
namespace Go.Proofs.Ytampjndfhpjheaa
open Go.RowKit
/-- what looked leaves -/
def LookedPost (O : Nat → Prop) (tb gb rb : Nat) (S : TrieS) (w w' : World) : Prop := Touch O w w' ∧ ∃ O', Side w' O' tb gb rb S ∧ ∀ b, O' b → O b ∨ w.heap.size ≤ b
theorem tag_eq (x : Int) (s : ByteArray) (w : World) : (binOp .eql 78 (.agg #[.int .i64 x, .string s]) (.agg #[.int .i64 x, .string s])).run Try.prog w = .ok (.bool true) w := by
  have hS : Try.prog.underlying 78 = some (.struct (Try.prog.fieldsOf 78)) := by kernel_rfl
  have hp : Try.prog.stoodInHeld 78 = false := by kernel_rfl
  have u3 := Try.underlying3
  have u9 := Try.underlying9
  rw [run_eql_struct, show (10000 : Nat) = 9999 + 1 from rfl, run_equalIn_agg w 9999 _ _ _ hS hp]
  have hf : Try.prog.fieldsOf 78 = Try.prog.fieldsOf 78 := rfl
  simp only [Program.fieldsOf, Try.underlying78]
  go_simp
set_option maxRecDepth 100000 in
set_option maxHeartbeats 4000000 in
theorem looked_c (tb gb rb : Nat) (put : Bool) (who v : Int) (sk : Option Addr) (cap : Nat) (p : List Int) (O : Nat → Prop) (S : TrieS) (w : World) (hn : p.length < 1073741824) (hr : IsInts w sk p.length (gl p)) (hnil : sk = none → p.length = 0 ∧ cap = 0) (hkeys : ∀ x ∈ p, inKey x) (hsk : 0 < p.length → ∀ a, sk = some a → ¬ O a.block) (hside : Side w O tb gb rb S) (hS : S.length < 1073741823) (hl : ∀ x ∈ S, x.1.length < 1073741824) (hz : sizeS S + p.length < maxLen) :
    Calls Try.prog 12 #[.pointer (some ⟨tb, 0, none⟩), .pointer (some ⟨gb, 0, none⟩), .pointer (some ⟨rb, 0, none⟩), .agg #[.bool put, .int .i64 who, .int .i64 v, .slice sk p.length cap]] w fun e w' => e = .returned (.bool true) ∧ LookedPost O tb gb rb (if put = true then putS S p v else S) w w' := by
  obtain ⟨SN, hSN⟩ : ∃ SN, SN = if put = true then putS S p v else S := ⟨_, rfl⟩
  rw [← hSN]
  have hss : SN.length < 1073741824 ∧ (∀ x ∈ SN, x.1.length < 1073741824) := by
    rw [hSN]
    split
    · unfold putS
      split
      · exact ⟨by simp; omega, fun x hx => (List.mem_append.1 hx).elim (hl x) (fun h => by rw [List.mem_singleton.1 h]; exact hn)⟩
      · exact ⟨by omega, hl⟩
    · exact ⟨by omega, hl⟩
  have HSS := Lib.hid hss
  have HSN := Lib.hid hSN
  clear hss hSN
  have HNIL := Lib.hid hnil
  have HKY := Lib.hid hkeys
  have HSK := Lib.hid hsk
  have HSIDE := Lib.hid hside
  have HL := Lib.hid hl
  have HZ := Lib.hid hz
  clear hnil hkeys hsk hside hl hz
  have hob := one_new w (.cells #[.bool put, .int .i64 who, .int .i64 v, .slice sk p.length cap] 40)
  have hw0 := below_new2 w (.cells #[.bool put, .int .i64 who, .int .i64 v, .slice sk p.length cap] 40)
  have hr0 := hr.later hw0
  clear hr
  generalize hw : w.alloc (.cells #[.bool put, .int .i64 who, .int .i64 v, .slice sk p.length cap] 40) = w0 at *
  have o0 : w0.cell? ⟨w.heap.size, 0, none⟩ = some (.bool put) := block_cell hob
  have o2 : w0.cell? ⟨w.heap.size, 2, none⟩ = some (.int .i64 v) := block_cell hob
  have o3 : w0.cell? ⟨w.heap.size, 3, none⟩ = some (.slice sk p.length cap) := block_cell hob
  have hol := heap_lt hob
  have HR := Lib.hid hr0
  have HW0 := Lib.hid hw0
  have O0 := Lib.hid o0
  have O2 := Lib.hid o2
  have O3 := Lib.hid o3
  have HOL := Lib.hid hol
  clear hr0 hob hw0 o0 o2 hol
  go_enter Try.func12, Try.ntmps12
  go_wp2_with (first | (at_builtin; refine wpList_append_all rfl _ _ rfl rfl sk p.length cap (gl p) rfl HR.out HNIL.out (by omega) w0.heap.size (Nat.le_refl _) ?_; intro so co w2 ho hb2 _ _ _; have HO := Lib.hid ho; have HB := Lib.hid hb2; clear ho hb2))
  clear o3 hw
  go_loopg [9, 10] 40 (fun g cv iv wr => ∃ k : Nat, ∃ sl : Option Addr, ∃ c : Nat, k + g = 40 ∧ cv = .slice sl (p.length + k) c ∧ iv = .int .i64 k ∧ OwnInts wr w0.heap.size (.slice sl (p.length + k) c) (lst (fun i => if i < p.length then gl p i else -71) (p.length + k)) ∧ Below w0.heap.size w0 wr)
  case atStart => exact ⟨0, so, co, by omega, rfl, rfl, OwnInts.as HO.out (lst_congr (fun i hi => by rw [if_pos (by omega)])), HB.out⟩
  case round =>
    clear HO HB
    obtain ⟨k, sl, c, hk, rfl, rfl, ho, hb⟩ := hrel
    have HO := Lib.hid ho
    have HB := Lib.hid hb
    clear ho hb
    by_cases hlt : k < 40
    · have e1 : (k : Int) < 40 := by omega
      have hpush : lst (fun i => if i < p.length then gl p i else -71) (p.length + k) ++ [-71] = lst (fun i => if i < p.length then gl p i else -71) (p.length + (k + 1)) := by
        rw [show p.length + (k + 1) = (p.length + k) + 1 from by omega, lst_succ]
        congr 2
        rw [if_neg (by omega)]
      have HPU := Lib.hid hpush
      clear hpush
      go_wp2_with (first | (at_builtin; refine wpList_push3 _ rfl _ _ rfl w0.heap.size _ _ _ _ rfl rfl HO.out (by omega) HB.out.size ?_; intro s' c' w2 ho2 hg2 _; have HB2 := Lib.hid (Below.grown HB.out hg2 HB.out.size (fun q hq => (HO.out.lt q hq).1)); have HO2 := Lib.hid ho2; clear ho2 hg2))
      go_roundg (gk - 1)
      case measure => omega
      case rel => exact ⟨k + 1, _, _, by omega, rfl, by go_num, OwnInts.as HO2.out HPU.out, HB2.out⟩
    · obtain rfl : k = 40 := by omega
      obtain ⟨g, rfl, hg0, hnc, hcm, hrm⟩ := HO.out.rm (by omega)
      have o3 : wr.cell? ⟨w.heap.size, 3, none⟩ = some (.slice sk p.length cap) := (HB.out.cell (p := ⟨w.heap.size, 3, none⟩) HOL.out).trans O3.out
      have hcb : c ≤ 9223372036854775807 := by unfold maxLen at hcm; omega
      have q0 : (0 : Int) ≤ (c : Int) := by omega
      clear hk hlt
      have HRM := Lib.hid hrm
      clear hrm
      go_wp2_with fail
      clear o3
      go_loopg [12] (c - p.length) (fun gg iv wz => ∃ i : Nat, i + gg = c ∧ p.length ≤ i ∧ iv = .int .i64 i ∧ Rm wz g c i (fun j => if j < p.length then gl p j else mkF j) ∧ Below w0.heap.size w0 wz)
      case atStart =>
        refine ⟨p.length, by omega, Nat.le_refl _, rfl, ?_, HB.out⟩
        obtain ⟨cs, h1, h2, h3⟩ := HRM.out
        exact ⟨cs, h1, h2, fun j hj => by
          rw [h3 j (by omega)]
          show some (Value.int .i64 (if j < p.length then gl p j else -71)) = some (.int .i64 (if j < p.length then gl p j else mkF j))
          rw [if_pos hj, if_pos hj]⟩
      case round =>
        clear HB HRM HO
        obtain ⟨i, hgi, hni, rfl, hrm, hb⟩ := hrel
        have HRM := Lib.hid hrm
        have HB := Lib.hid hb
        clear hrm hb
        by_cases hic : i < c
        · obtain ⟨⟨v0, c0⟩, f0⟩ := HRM.out.has hic
          have m1 := mkF_a i
          have m2 := mkF_b i
          have q1 : (i : Int) < (c : Int) := by omega
          go_wp2
          go_roundg (gk - 1)
          case measure => omega
          case rel => exact ⟨i + 1, by omega, by omega, by go_num, HRM.out.set hic (by rw [if_neg (by omega)]) (fun j hj => rfl), HB.out.setCell hg0 _⟩
        · obtain rfl : c = i := by omega
          clear hic hgi
          have hww := bt HW0.out HB.out
          have hol := HOL.out
          have o0 : wr.cell? ⟨w.heap.size, 0, none⟩ = some (.bool put) := (HB.out.cell (p := ⟨w.heap.size, 0, none⟩) hol).trans O0.out
          have o2 : wr.cell? ⟨w.heap.size, 2, none⟩ = some (.int .i64 v) := (HB.out.cell (p := ⟨w.heap.size, 2, none⟩) hol).trans O2.out
          have o3 : wr.cell? ⟨w.heap.size, 3, none⟩ = some (.slice sk p.length cap) := (HB.out.cell (p := ⟨w.heap.size, 3, none⟩) hol).trans O3.out
          have hxl : w.heap.size < wr.heap.size := Nat.lt_of_lt_of_le hol HB.out.size
          have hgl : w.heap.size < g := by omega
          obtain ⟨P1, P2, P3, s1, s2, s3, s12, s13, s23, t1, t2, t3⟩ := (HSIDE.out.later hww).parts
          have HWW := Lib.hid hww
          have S1 := Lib.hid s1
          have S2 := Lib.hid s2
          have S3 := Lib.hid s3
          have S12 := Lib.hid s12
          have S13 := Lib.hid s13
          have S23 := Lib.hid s23
          have T1 := Lib.hid t1
          have T2 := Lib.hid t2
          have T3 := Lib.hid t3
          have hlt := HSIDE.out.lt
          have NB := Lib.hid (fun b (hb : w.heap.size ≤ b) (h : O b) => (show False from by have := hlt b h; omega))
          have HKW := Lib.hid (HR.out.later HB.out)
          clear hww s1 s2 s3 s12 s13 s23 t1 t2 t3 hlt hol
          have hpm : p.length ≤ maxLen := by unfold maxLen; omega
          have HPM := Lib.hid hpm
          clear hpm
          cases put
          case' true =>
            go_wp2_with fail
            go_still_tail 6, (by kernel_rfl)
            change wpList _ _ _ _ _ wr.drew
            have hd1 : Below wr.heap.size wr wr.drew := (Below.refl _ _).drew
            have T1d := Lib.hid (T1.out.kept (w' := wr.drew) (fun b _ _ => rfl))
            have T2d := Lib.hid (T2.out.kept (w' := wr.drew) (fun b _ _ => rfl))
            have T3d := Lib.hid (T3.out.kept (w' := wr.drew) (fun b _ _ => rfl))
            have HRMd := Lib.hid (HRM.out.later hd1)
            have HKd := Lib.hid (HKW.out.later hd1)
            have HD1 := Lib.hid hd1
            have hxd : w.heap.size < wr.drew.heap.size := hxl
            replace o2 : wr.drew.cell? ⟨w.heap.size, 2, none⟩ = some (.int .i64 v) := o2
            replace o3 : wr.drew.cell? ⟨w.heap.size, 3, none⟩ = some (.slice sk p.length cap) := o3
            clear hd1 o0
            generalize wr.drew = wd at *
            go_wp2_with fail
            refine (tput_c v (some ⟨g, 0, none⟩) c p.length p HSIDE.out.ok T1d.out rfl HPM.out (by omega) HZ.out ((HRMd.out.ints (by omega)).same (fun i hi => by show (if i < p.length then gl p i else mkF i) = _; rw [if_pos hi])) HKY.out (fun a ha h => by injection ha with ha; subst ha; exact NB.out g (by omega) (S1.out g h))).mono ?_
            rintro e w1 ⟨rfl, ht1, hp1⟩
            have HT1 := Lib.hid ht1
            have HP1 := Lib.hid hp1
            clear ht1 hp1
            have N1 := Lib.hid (fun b (hb : w.heap.size ≤ b) (h : P1 b) => NB.out b hb (S1.out b h))
            replace o2 := (HT1.out.cell (i := 2) hxd (N1.out _ (Nat.le_refl _))).trans o2
            replace o3 := (HT1.out.cell (i := 3) hxd (N1.out _ (Nat.le_refl _))).trans o3
            have HRM1 := Lib.hid (HRMd.out.touch HT1.out (N1.out g (by omega)))
            have hx1 := Nat.lt_of_lt_of_le hxd HT1.out.size
            have HK1 := Lib.hid (HKd.out.touch HT1.out (fun h0 a ha h => HSK.out h0 a ha (S1.out _ h)))
            have HT2 := Lib.hid (T2d.out.kept (fun b hb ho => HT1.out.block b hb (fun h => S12.out b h ho)))
            have HT3 := Lib.hid (T3d.out.kept (fun b hb ho => HT1.out.block b hb (fun h => S13.out b h ho)))
            have O3 := Lib.hid o3
            clear o3
            go_wp2_with fail
            have N2 := Lib.hid (fun b (hb : w.heap.size ≤ b) (h : P2 b) => NB.out b hb (S2.out b h))
            go_region_held3 (fun w' => w'.cell? ⟨w.heap.size, 2, none⟩ = some (.int .i64 v))
              (first | exact o2 | go_keep | exact ((by assumption : Below _ _ _).cell (by first | assumption | exact World.block_lt_of_cell? _ _ (by assumption))).trans (by assumption) | exact (HTT2.out.cell hxt (N2.out _ (Nat.le_refl _))).trans (by assumption))
              (first
                | (go_at_call 34; refine (tagged_c v _).mono ?_; rintro e wt ⟨rfl, hb⟩; have HBt := Lib.hid (bt ((Below.refl w1.heap.size w1).drew) hb); have hxt : w.heap.size < wt.heap.size := Nat.lt_of_lt_of_le hx1 hb.size)
                | (go_at_call 33; refine (gput_c v (some ⟨g, 0, none⟩) c p.length p HSIDE.out.ok (HT2.out.kept (fun b hl _ => HBt.out.block b hl)) rfl HPM.out (by omega) HZ.out (((HRM1.out.later HBt.out).ints (by omega)).same (fun i hi => by show (if i < p.length then gl p i else mkF i) = _; rw [if_pos hi])) HKY.out (fun a ha h => by injection ha with ha; subst ha; exact NB.out g (by omega) (S2.out g h))).mono ?_; rintro e w2 ⟨rfl, ht2, hp2⟩; have HTT2 := Lib.hid ht2; have HP2 := Lib.hid hp2; clear ht2 hp2))
            rename_i hheld
            clear hb
            replace o2 := hheld
            have o3 := (HTT2.out.cell (i := 3) hxt (N2.out _ (Nat.le_refl _))).trans ((HBt.out.cell (p := ⟨w.heap.size, 3, none⟩) hx1).trans O3.out)
            clear hheld
            have HRM2 := Lib.hid ((HRM1.out.later HBt.out).touch HTT2.out (N2.out g (by omega)))
            have hx2 := Nat.lt_of_lt_of_le hxt HTT2.out.size
            have HK2 := Lib.hid ((HK1.out.later HBt.out).touch HTT2.out (fun h0 a ha h => HSK.out h0 a ha (S2.out _ h)))
            have HT32 := Lib.hid ((HT3.out.kept (fun b hl _ => HBt.out.block b hl)).kept (fun b hb ho => HTT2.out.block b hb (fun h => S23.out b h ho)))
            go_wp2_with fail
            refine (rput_n v sk cap p.length p (by omega) HL.out HT32.out rfl hn HK2.out).mono ?_
            rintro e wz ⟨rfl, ht3, hp3⟩
            have N3 := Lib.hid (fun b (hb : w.heap.size ≤ b) (h : P3 b) => NB.out b hb (S3.out b h))
            replace o3 := (ht3.cell (i := 3) hx2 (N3.out _ (Nat.le_refl _))).trans o3
            have HRMz := Lib.hid (HRM2.out.touch ht3 (N3.out g (by omega)))
            have hxz := Nat.lt_of_lt_of_le hx2 ht3.size
            have HKz := Lib.hid (HK2.out.touch ht3 (fun h0 a ha h => HSK.out h0 a ha (S3.out _ h)))
            have hend := Side.puts (fun b hb => Nat.lt_of_lt_of_le (HSIDE.out.lt b hb) (Nat.le_trans HWW.out.size HD1.out.size)) (putS_ok HSIDE.out.ok p v) S1.out S2.out S3.out S12.out S13.out S23.out HT1.out HP1.out HBt.out HTT2.out HP2.out (Below.refl _ _) ht3 hp3
            have hfin : ∃ O', Side wz O' tb gb rb SN ∧ Touch O wr wz ∧ ∀ b, O' b → O b ∨ wr.heap.size ≤ b := by
              obtain ⟨O', e1, e2, e3⟩ := hend
              exact ⟨O', by have h := HSN.out; simp at h; rw [h]; exact e1, (Touch.of HD1.out).trans e2 (fun x hx => .inl hx), fun b hb => (e3 b hb).imp id (fun h => Nat.le_trans HD1.out.size h)⟩
            have HEND := Lib.hid hfin
            clear ht3 hp3 o2 hend hfin HRM2 HK2 HT32 HTT2 HP2 HBt HRM1 HK1 HT1 HP1 HT2 HT3 O3 T1d T2d T3d HRMd HKd HD1 hxd hx1 hx2 hxt N1 N2 N3
            generalize putB S p = pb
          case' false =>
            go_wp2_with fail
            refine (tlook_c (some ⟨g, 0, none⟩) c p.length p HSIDE.out.ok T1.out rfl HPM.out ((HRM.out.ints (by omega)).same (fun i hi => by show (if i < p.length then gl p i else mkF i) = _; rw [if_pos hi])) HKY.out).mono ?_
            rintro e w1 ⟨rfl, hb⟩
            have HB1 := Lib.hid hb
            clear hb
            go_wp2_with fail
            refine (glook_c (some ⟨g, 0, none⟩) c p.length p HSIDE.out.ok (T2.out.kept (fun b hl _ => HB1.out.block b hl)) rfl HPM.out (((HRM.out.later HB1.out).ints (by omega)).same (fun i hi => by show (if i < p.length then gl p i else mkF i) = _; rw [if_pos hi])) HKY.out).mono ?_
            rintro e w2 ⟨rfl, hb⟩
            have HB2 := Lib.hid (bt HB1.out hb)
            clear hb
            generalize hl1 : (lookS S p).1 = l1
            generalize hl2 : (lookS S p).2 = l2
            have HL1 := Lib.hid hl1
            have HL2 := Lib.hid hl2
            clear hl1 hl2
            have hx2 : w.heap.size < w2.heap.size := Nat.lt_of_lt_of_le hxl HB2.out.size
            replace o3 := (HB2.out.cell (p := ⟨w.heap.size, 3, none⟩) hxl).trans o3
            have hwx := bt HB2.out (below_new2 w2 (.cells #[.int .i64 l1, .string (tagS l1)] 78))
            have HWX := Lib.hid hwx
            have XB := Lib.hid (one_new w2 (.cells #[.int .i64 l1, .string (tagS l1)] 78))
            clear hwx
            go_wp2_with fail
            refine (rlook_n sk cap p.length p (by omega) HL.out (T3.out.kept (fun b hl _ => HWX.out.block b hl)) rfl (HKW.out.later HWX.out)).mono ?_
            rintro e w3 ⟨rfl, hb⟩
            rw [HL1.out, HL2.out]
            have x0 : w3.cell? ⟨w2.heap.size, 0, none⟩ = some (.int .i64 l1) := (hb.cell (p := ⟨w2.heap.size, 0, none⟩) (by simp)).trans (block_cell XB.out)
            have x1 : w3.cell? ⟨w2.heap.size, 1, none⟩ = some (.string (tagS l1)) := (hb.cell (p := ⟨w2.heap.size, 1, none⟩) (by simp)).trans (block_cell XB.out)
            replace o3 := (hb.cell (p := ⟨w.heap.size, 3, none⟩) (by simp; omega)).trans (((below_new2 w2 (.cells #[.int .i64 l1, .string (tagS l1)] 78)).cell (p := ⟨w.heap.size, 3, none⟩) hx2).trans o3)
            have HB3 := Lib.hid (bt HWX.out hb)
            have hx3 : w2.heap.size < w3.heap.size := by have := hb.size; simp at this; omega
            clear hb
            have hte := tag_eq l1 (tagS l1)
            go_wp2_with fail
            go_region_held3 (fun w' => w'.cell? ⟨w2.heap.size, 0, none⟩ = some (.int .i64 l1) ∧ w'.cell? ⟨w2.heap.size, 1, none⟩ = some (.string (tagS l1)))
              (first | exact ⟨x0, x1⟩ | go_keep | (go_split_ands; exact ⟨((by assumption : Below _ _ _).cell (by first | assumption | exact World.block_lt_of_cell? _ _ (by assumption))).trans (by assumption), ((by assumption : Below _ _ _).cell (by first | assumption | exact World.block_lt_of_cell? _ _ (by assumption))).trans (by assumption)⟩))
              ((go_at_call 34; refine (tagged_c l1 _).mono ?_; rintro e wz ⟨rfl, hb⟩; have HBt := Lib.hid (bt ((Below.refl w3.heap.size w3).drew) hb)))
            rename_i hheld
            clear hheld hb x0 x1 hte
            have hB := bt HB3.out HBt.out
            replace o3 := (HBt.out.cell (p := ⟨w.heap.size, 3, none⟩) (show w.heap.size < w3.heap.size by omega)).trans o3
            have HRMz := Lib.hid (HRM.out.later hB)
            have hxz : w.heap.size < wz.heap.size := Nat.lt_of_lt_of_le hxl hB.size
            have HKz := Lib.hid (HKW.out.later hB)
            have hfin : ∃ O', Side wz O' tb gb rb SN ∧ Touch O wr wz ∧ ∀ b, O' b → O b ∨ wr.heap.size ≤ b :=
              ⟨O, by have h := HSN.out; simp at h; rw [h]; exact (HSIDE.out.later HWW.out).later hB, Touch.of hB, fun b hb => .inl hb⟩
            have HEND := Lib.hid hfin
            clear hB hfin HB3 HBt HB1 HB2 HWX XB hx2 hx3 o0 o2 HL1 HL2
          all_goals
            have hkz := (HRMz.out.ints (n := p.length) (by omega)).same (fun i hi => (show (if i < p.length then gl p i else mkF i) = gl p i from if_pos hi))
            have HKG := Lib.hid hkz
            clear hkz
            go_wp2_with fail
            go_region_held3 (fun w' => w'.cell? ⟨w.heap.size, 3, none⟩ = some (.slice sk p.length cap))
              (first | exact o3 | go_keep | exact ((by assumption : Below _ _ _).cell (by first | assumption | exact World.block_lt_of_cell? _ _ (by assumption))).trans (by assumption))
              ((go_at_call 20; refine (same_any (some ⟨g, 0, none⟩) sk p.length c p.length cap (gl p) (gl p) _ HPM.out HPM.out (HKG.out.later ((Below.refl _ _).drew)) (HKz.out.later ((Below.refl _ _).drew))).mono ?_; rintro e wy ⟨rfl, hb⟩; rw [sameB_refl]; have HBy := Lib.hid (bt ((Below.refl wz.heap.size wz).drew) hb)))
            rename_i hheld
            clear hheld hb o3
            have HRMy := Lib.hid (HRMz.out.later HBy.out)
            clear HKz HKG
            have hgwr := HRM.out.lt
            go_wp2_with fail
            go_loopg [13, 23] c (fun gg ov iv wq => ∃ i : Nat, i + gg = c ∧ ov = .bool true ∧ iv = .int .i64 i ∧ Rm wq g c c (fun j => if j < i then 119 else if j < p.length then gl p j else mkF j) ∧ Touch (fun b => b = g) wz wq)
            case atStart => exact ⟨0, by omega, rfl, rfl, HRMy.out.same (fun j _ => by rw [if_neg (Nat.not_lt_zero _)]), Touch.of HBy.out⟩
            case round =>
              clear HRMy HBy
              obtain ⟨i, hgi, rfl, rfl, hrm, htq⟩ := hrel
              have HRMq := Lib.hid hrm
              have HTQ := Lib.hid htq
              clear hrm htq
              by_cases hic : i < c
              · obtain ⟨_, f0⟩ := HRMq.out.has hic
                have c0 := HRMq.out.cell hic
                replace c0 : wr.cell? ⟨g, i, none⟩ = some (.int .i64 (if i < p.length then gl p i else mkF i)) := c0.trans (by
                  show some (Value.int .i64 (if i < i then (119 : Int) else if i < p.length then gl p i else mkF i)) = _
                  rw [if_neg (Nat.lt_irrefl i)])
                have m1 := mkF_a i
                have m2 := mkF_b i
                have q1 : (i : Int) < (c : Int) := by omega
                have hnext : Rm (wr.setCell ⟨g, i, none⟩ (.int .i64 119)) g c c (fun j => if j < i + 1 then 119 else if j < p.length then gl p j else mkF j) := HRMq.out.put (by show (if i < i + 1 then (119 : Int) else _) = 119; rw [if_pos (by omega)]) (fun j hj => by
                  show (if j < i + 1 then (119 : Int) else _) = (if j < i then (119 : Int) else _)
                  by_cases e : j < i
                  · rw [if_pos e, if_pos (by omega)]
                  · rw [if_neg e, if_neg (by omega)])
                have HNX := Lib.hid hnext
                have HTX := Lib.hid (HTQ.out.trans (Touch.setCell (fun b => b = g) wr (p := ⟨g, i, none⟩) rfl (.int .i64 119)) (fun x hx => .inl hx))
                clear hnext
                by_cases hin : i < p.length
                · have q2 : (i : Int) < (p.length : Int) := by omega
                  rw [if_pos hin] at c0
                  go_wp2
                  go_roundg (gk - 1)
                  case measure => omega
                  case rel => exact ⟨i + 1, by omega, rfl, by go_num, HNX.out, HTX.out⟩
                · have q2 : ¬ ((i : Int) < (p.length : Int)) := by omega
                  rw [if_neg hin] at c0
                  go_wp2
                  go_roundg (gk - 1)
                  case measure => omega
                  case rel => exact ⟨i + 1, by omega, rfl, by go_num, HNX.out, HTX.out⟩
              · obtain rfl : c = i := by omega
                obtain ⟨O', e1, e2, e3⟩ := HEND.out
                have hng : ¬ O' g := fun h => (e3 g h).elim (NB.out g (by omega)) (fun h => by omega)
                have hsq := e1.kept HTQ.out.size (fun b hb ho => HTQ.out.block b hb (fun e => hng (e ▸ ho)))
                have hpk : (List.replicate p.length (119 : Int)).length = p.length := by simp
                have hky : ∀ x ∈ List.replicate p.length (119 : Int), inKey x := fun x hx => by rw [(List.mem_replicate.1 hx).2]; unfold inKey; decide
                have hgr : ∀ i, i < p.length → (119 : Int) = gl (List.replicate p.length (119 : Int)) i := fun i hi => by unfold gl; rw [List.getD_eq_getElem?_getD, List.getElem?_eq_getElem (by simpa using hi)]; simp
                have hrq := HRMq.out.same (f' := fun _ => 119) (fun j hj => by show (if j < c then (119 : Int) else _) = 119; rw [if_pos hj])
                have HRQ := Lib.hid hrq
                have HSQ := Lib.hid hsq
                have HPK := Lib.hid hpk
                have HKYQ := Lib.hid hky
                have HGR := Lib.hid hgr
                have HE2 := Lib.hid e2
                have HE3 := Lib.hid e3
                clear hrq hsq hpk hky hgr e1 e2 e3 hng
                obtain ⟨Q1, Q2, Q3, _, _, _, _, _, _, u1, _, u3⟩ := HSQ.out.parts
                have HU1 := Lib.hid u1
                have HU3 := Lib.hid u3
                clear u1 u3
                go_wp2_with fail
                refine (tlook_c (some ⟨g, 0, none⟩) c p.length (List.replicate p.length 119) HSQ.out.ok HU1.out HPK.out HPM.out ((HRQ.out.ints (by omega)).same HGR.out) HKYQ.out).mono ?_
                rintro e v1 ⟨rfl, hb⟩
                have HV1 := Lib.hid hb
                clear hb
                generalize hl1 : (lookS SN (List.replicate p.length 119)).1 = y1
                generalize hl2 : (lookS SN (List.replicate p.length 119)).2 = y2
                have HY1 := Lib.hid hl1
                have HY2 := Lib.hid hl2
                clear hl1 hl2
                go_wp2_with fail
                refine (copied13_c (some ⟨g, 0, none⟩) p.length c (fun _ => 119) _ (by omega) ((HRQ.out.later HV1.out).ints (by omega)) (fun h => by cases h)).mono ?_
                rintro e v2 ⟨s2, c2, rfl, ho, hb⟩
                have HV2 := Lib.hid (bt HV1.out hb)
                have hoi := (ho.is).same (g := fun _ => 119) (fun i hi => by unfold gl; rw [lst_getD _ _ _ hi])
                have HOI := Lib.hid (hoi.same HGR.out)
                clear hb ho hoi
                go_wp2_with fail
                refine (rlook_n s2 c2 p.length (List.replicate p.length 119) HSS.out.1 HSS.out.2 (HU3.out.kept (fun b hl _ => HV2.out.block b hl)) HPK.out HOI.out).mono ?_
                rintro e v3 ⟨rfl, hb⟩
                rw [HY1.out, HY2.out]
                have HV3 := Lib.hid (bt HV2.out hb)
                clear hb HY1 HY2
                go_wp2
                go_ret
                refine ⟨ret_bool (by simp), ?_, O', HSQ.out.later HV3.out, fun b hb => (HE3.out b hb).imp id (fun h => Nat.le_trans HWW.out.size h)⟩
                exact (((Touch.of HWW.out).trans HE2.out (fun x hx => .inl hx)).trans HTQ.out (fun x hx => .inr (by rw [show x = g from hx]; omega))).trans (Touch.of (O := O) HV3.out) (fun x hx => .inl hx)
end Go.Proofs.Ytampjndfhpjheaa
