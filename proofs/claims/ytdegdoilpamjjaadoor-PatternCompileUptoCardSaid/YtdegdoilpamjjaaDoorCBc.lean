/- Contract of the document's Compile. Condition: no more than 2^30 ints. Contract of read: the program's Compile and the document's agree, at the list and at what the memory holds later. Condition: fewer than 2^30 ints. Contract of alive: one pattern whose answers are fixed, and the program gives them. The law PatternCompile, walked. Condition: fewer than 2^30 ints. -/
import Derived.Test.YtdegdoilpamjjaaDoorCBb
import Derived.Test.YtdegdoilpamjjaaDoorCAq
import Derived.Test.YtdegdoilpamjjaaDoorCAy
import Derived.Test.YtdegdoilpamjjaaDoorCAb
namespace Go.Proofs.YtdegdoilpamjjaaDoor
open Go.RowKit
set_option linter.unusedVariables false
set_option linter.unusedSimpArgs false
def CompF (w : World) (fold : Bool) (R : CP) (e : Ending) (w' : World) : Prop :=
 Below w.heap.size w w' ∧ match R with
  | .long => e = .returned (.tuple #[.pointer none, .int .i64 0, .int .i64 3])
  | .bad k => e = .returned (.tuple #[.pointer none, .int .i64 k, .int .i64 100])
  | .big => e = .returned (.tuple #[.pointer none, .int .i64 0, .int .i64 103])
  | .ok nd g => ∃ pb nv rt, e = .returned (.tuple #[.pointer (some ⟨pb, 0, none⟩), .int .i64 0, .int .i64 0]) ∧ w.heap.size ≤ pb ∧ w'.heap[pb]? = some (.cells #[nv, .int .i64 rt, .int .i64 (g : Nat), .bool fold] 67 (0, 0))
set_option maxRecDepth 100000 in
set_option maxHeartbeats 32000000 in
theorem compile_f (sl : Option Addr) (n c : Nat) (src : List Int) (fold : Bool) (w : World) (hn : src.length = n) (hs : IsInts w sl n (gl src)) (hslt : ∀ a, sl = some a → a.block < w.heap.size) :
  Calls Tryd.prog 33 #[.slice sl n c, .bool fold] w (CompF w fold (compileP src fold)) := by
 by_cases hbig : 256 < n
 ·
  have q1 : (256 : Int) < (n : Int) := by omega
  have HE := Lib.hid (show compileP src fold = .long from by unfold compileP; rw [if_pos (by omega)])
  clear hn hs hslt
  go_enter Tryd.func33, Tryd.ntmps33
  go_wp2
  refine bodyPost_ret (v := .tuple #[.pointer none, .int .i64 0, .int .i64 3]) (by simp [results, Tryd.results33]) rfl ?_
  rw [HE.out]
  exact ⟨Below.refl _ _, rfl⟩
 have q1 : ¬ (256 : Int) < (n : Int) := by omega
 have hcp := compileP_eq src fold n hn (by omega)
 obtain ⟨R, hR⟩ : ∃ R, patP src fold (4 * n + 8) [] ⟨0, 0⟩ = R := ⟨_, rfl⟩
 rw [hR] at hcp
 rw [hcp]
 have hgood : ∀ nd s, R = .ok (nd, s) → GoodN nd := fun nd s e => (reader_good src fold (by omega) _).2.2.2.2 [] ⟨0, 0⟩ (by decide) (by simp) (by simp) (fun _ h => by cases h) nd s (hR.trans e)
 have hb1 := below_newJ w (.cells #[.slice none 0 0, .int .i64 0, .int .i64 0, .bool fold] 67)
 have ho1 := one_new w (.cells #[.slice none 0 0, .int .i64 0, .int .i64 0, .bool fold] 67)
 have hz1 := size_new w (.cells #[.slice none 0 0, .int .i64 0, .int .i64 0, .bool fold] 67)
 obtain ⟨pb, hpb⟩ : ∃ pb, w.heap.size = pb := ⟨_, rfl⟩
 generalize hw1 : w.alloc (.cells #[.slice none 0 0, .int .i64 0, .int .i64 0, .bool fold] 67) = w1 at hb1 ho1 hz1
 rw [hpb] at ho1
 have hb2 := below_newJ w1 (.cells #[.pointer (some ⟨pb, 0, none⟩), .slice sl n c, .int .i64 0, .bool false] 110)
 have ho2 := one_new w1 (.cells #[.pointer (some ⟨pb, 0, none⟩), .slice sl n c, .int .i64 0, .bool false] 110)
 obtain ⟨rb, hrb⟩ : ∃ rb, w1.heap.size = rb := ⟨_, rfl⟩
 generalize hw2 : w1.alloc (.cells #[.pointer (some ⟨pb, 0, none⟩), .slice sl n c, .int .i64 0, .bool false] 110) = w2 at hb2 ho2
 rw [hrb] at ho2
 have hprb : pb < rb := by omega
 have hB2 : Below w.heap.size w w2 := hb1.trans (hb2.mono hb1.size)
 have H2 := Lib.hid (show RfM w2 pb rb pb sl n c src fold 0 false 0 (.slice none 0 0) [] from
  ⟨⟨ho2, hn, hs.later hB2, fun x hx => by have := hslt x hx; omega, Nat.zero_le _, by omega⟩, (hb2.block pb (by omega)).trans ho1, World.ownsRow_nil _ _ _ _, (fun x hx => by cases hx), ⟨by omega, Nat.le_refl _⟩, fun x hx => by have := hslt x hx; omega⟩)
 have HB2 := Lib.hid hB2
 have HGD := Lib.hid hgood
 have HPB := Lib.hid hpb
 have HRB := Lib.hid hprb
 have HR := Lib.hid hR
 clear hcp hgood hb1 ho1 hz1 hb2 ho2 hB2 hR hs hslt hprb
 go_enter Tryd.func33, Tryd.ntmps33
 go_wp2_with fail
 have hpt := pattern_f (4 * n + 8) w2 pb rb pb sl n c src fold fold ⟨0, 0⟩ (.slice none 0 0) [] H2.out (by show 0 + 2 * (n - 0) + 2 < 90000; omega) (by show 4 * (n - 0) + 8 ≤ 4 * n + 8; omega) (by decide) (mem_all _ _ _ _ _ _ _ _ _ _)
 rw [HR.out] at hpt
 clear hpb
 refine hpt.mono ?_
 rintro e w3 ⟨k, nv3, M3, rfl, hmv, hkg, hres⟩
 have hB3 : Below w.heap.size w w3 := HB2.out.trans (hmv.touch.below (fun b o => by
  rcases o with o | o | o
  · have := HRB.out; have := HPB.out; omega
  · have := HPB.out; omega
  · cases o) HB2.out.size)
 have HB3 := Lib.hid hB3
 clear hpt hmv hkg hB3 HB2
 cases R with
 | error kk =>
  obtain ⟨⟨g3, hr3⟩, -⟩ := hres
  have H3 := Lib.hid hr3
  have r3 : w3.cell? ⟨rb, 3, none⟩ = some (.bool true) := block_cell hr3.rd.blk
  have r2 : w3.cell? ⟨rb, 2, none⟩ = some (.int .i64 kk) := block_cell hr3.rd.blk
  clear hr3
  go_wp2_with fail
  go_quiet (fail)
  go_wp2
  refine bodyPost_ret (v := .tuple #[.pointer none, .int .i64 kk, .int .i64 100]) (by simp [results, Tryd.results33]) rfl ?_
  exact ⟨below_drewN HB3.out, rfl⟩
 | ok r =>
  obtain ⟨nd, s3⟩ := r
  obtain ⟨hr3, ht3, hml⟩ := hres
  have hml : M3.length ≤ 2 * (s3.at' - 0) + 2 := hml
  rw [List.nil_append] at hr3 ht3
  have H3 := Lib.hid hr3
  have HT3 := Lib.hid ht3
  have hat3 := hr3.rd.at'
  have r3 : w3.cell? ⟨rb, 3, none⟩ = some (.bool false) := block_cell hr3.rd.blk
  have r2 : w3.cell? ⟨rb, 2, none⟩ = some (.int .i64 s3.at') := block_cell hr3.rd.blk
  clear hr3 ht3
  by_cases hlt : s3.at' < n
  ·
   have q2 : (s3.at' : Int) < (n : Int) := by omega
   have p3 : IntKind.i64.wrap ((s3.at' : Int) + 1) = ((s3.at' + 1 : Nat) : Int) := by rw [IntKind.wrap_i64]; omega
   have HE := Lib.hid (show compT n (.ok (nd, s3)) = .bad (s3.at' + 1) from if_pos hlt)
   go_wp2_with fail
   refine (fail_f rb pb sl n c src s3.at' (s3.at' + 1) (by omega) w3 H3.out.rd).mono ?_
   rintro e w4 ⟨rfl, t4, f4⟩
   have HB4 := Lib.hid (HB3.out.trans (t4.below (fun b o => by have := HRB.out; have := HPB.out; show w.heap.size ≤ b; omega) HB3.out.size))
   have r3' : w4.cell? ⟨rb, 3, none⟩ = some (.bool true) := block_cell f4.blk
   have r2' : w4.cell? ⟨rb, 2, none⟩ = some (.int .i64 ((s3.at' + 1 : Nat) : Int)) := block_cell f4.blk
   clear t4 f4 r2 r3
   go_wp2_with fail
   go_quiet (fail)
   go_wp2
   refine bodyPost_ret (v := .tuple #[.pointer none, .int .i64 ((s3.at' + 1 : Nat) : Int), .int .i64 100]) (by simp [results, Tryd.results33]) rfl ?_
   rw [HE.out]
   exact ⟨below_drewN HB4.out, rfl⟩
  ·
   have q2 : ¬ (s3.at' : Int) < (n : Int) := by omega
   have HE := Lib.hid (show compT n (.ok (nd, s3)) = (if 4096 < partsP nd then .big else .ok nd s3.groups) from if_neg hlt)
   have r0 : w3.cell? ⟨rb, 0, none⟩ = some (.pointer (some ⟨pb, 0, none⟩)) := block_cell H3.out.rd.blk
   have c1 : w3.cell? ⟨pb, 1, none⟩ = some (.int .i64 0) := block_cell H3.out.pbk
   have g1 : w3.frozen? ⟨pb, 1, none⟩ = false := block_free H3.out.pbk
   have hpt : PtM (w3.setCell ⟨pb, 1, none⟩ (.int .i64 k)) pb pb (k : Int) s3.groups fold nv3 M3 := by
    refine ⟨by rw [block_set _ H3.out.pbk]; rfl, own_kept H3.out.own fun b hb => Below.heap_setCell _ _ _ _ (H3.out.ne.2 b hb).2, fun x hx => ?_, fun x hx => (H3.out.kid x hx).it, ?_⟩
    ·
     obtain ⟨s, m, c', e1, e2, e3, e4⟩ := (H3.out.kid x hx).kv
     exact ⟨s, m, c', e1, e2, ints_kept e3 (by simp) fun a ha => Below.heap_setCell _ _ _ _ (e4 a ha).2.2.1⟩
    · omega
   have HPT := Lib.hid hpt
   have HR0 := Lib.hid (show (w3.setCell ⟨pb, 1, none⟩ (.int .i64 k)).cell? ⟨rb, 0, none⟩ = some (.pointer (some ⟨pb, 0, none⟩)) from by
    rw [World.cell?_of_block (w := w3) (Below.heap_setCell _ ⟨pb, 1, none⟩ _ _ (by have := HRB.out; show rb ≠ pb; omega))]
    exact r0)
   have HB4 := Lib.hid (HB3.out.setCell (p := ⟨pb, 1, none⟩) (by have := HPB.out; show w.heap.size ≤ pb; omega) (.int .i64 k))
   clear hpt
   go_upto_region 10 with (fail)
   generalize w3.setCell ⟨pb, 1, none⟩ (.int .i64 k) = w4 at HPT HR0 HB4 ⊢
   clear r0 r2 r3 c1 g1
   have r0 : w4.cell? ⟨rb, 0, none⟩ = some (.pointer (some ⟨pb, 0, none⟩)) := HR0.out
   go_wp2_with fail
   refine (parts_doc (HGD.out nd s3 rfl) k w4 HPT.out HT3.out).mono ?_
   rintro e w5 ⟨rfl, hb5⟩
   have HPT5 := Lib.hid (HPT.out.later hb5)
   have HB5 := Lib.hid (HB4.out.trans (hb5.mono HB4.out.size))
   have r0' : w5.cell? ⟨rb, 0, none⟩ = some (.pointer (some ⟨pb, 0, none⟩)) := (World.cell?_of_block (w := w4) (hb5.block rb (by
    have := HB4.out
    rcases Nat.lt_or_ge rb w4.heap.size with h | h
    · exact h
    ·
     have hh := r0
     simp [World.cell?, Array.getElem?_eq_none (xs := w4.heap) h] at hh))).trans r0
   clear hb5 r0
   obtain ⟨P, hP⟩ : ∃ P, partsP nd = P := ⟨_, rfl⟩
   rw [hP] at HE ⊢
   clear hP
   by_cases hbg : 4096 < P
   ·
    have he := HE.out
    rw [if_pos hbg] at he
    have HE2 := Lib.hid he
    clear he
    go_wp2
    refine bodyPost_ret (v := .tuple #[.pointer none, .int .i64 0, .int .i64 103]) (by simp [results, Tryd.results33]) rfl ?_
    rw [HE2.out]
    exact ⟨HB5.out, rfl⟩
   ·
    have he := HE.out
    rw [if_neg hbg] at he
    have HE2 := Lib.hid he
    clear he
    go_wp2
    refine bodyPost_ret (v := .tuple #[.pointer (some ⟨pb, 0, none⟩), .int .i64 0, .int .i64 0]) (by simp [results, Tryd.results33]) rfl ?_
    rw [HE2.out]
    exact ⟨HB5.out, pb, nv3, _, rfl, Nat.le_of_eq HPB.out, HPT5.out.blk⟩
end Go.Proofs.YtdegdoilpamjjaaDoor
namespace Go.Proofs.YtdegdoilpamjjaaDoor
open Go.RowKit
set_option linter.unusedVariables false
set_option linter.unusedSimpArgs false
theorem lst_gl2 (l : List Int) (n : Nat) (h : l.length = n) : lst (gl l) n = l := by subst h; exact lst_get l
def errA : CP → Int
 | .bad k => k
 | _ => 0
def errE : CP → Int
 | .long => 3
 | .bad _ => 100
 | .big => 103
 | .ok _ _ => 0
structure ReadyB (w : World) (B0 pb : Nat) (nd : Nd) (g : Nat) : Prop where
 pat : ∃ B E base, B0 ≤ B ∧ B ≤ base ∧ PaG w B E base pb (g : Int) (deepA 0 nd) (progA nd)
 good : GoodN nd
 parts : partsP nd ≤ 4096
theorem ReadyB.ready {w : World} {B0 pb : Nat} {nd : Nd} {g : Nat} (h : ReadyB w B0 pb nd g) : Ready w pb nd g := by
 obtain ⟨⟨B, E, base, _, _, hp⟩, h1, h2⟩ := h
 exact ⟨⟨B, E, base, hp⟩, h1, h2⟩
theorem PaG.base_le {w : World} {B E base pb : Nat} {groups : Int} {dp : Nat} {l : List ActD} (h : PaG w B E base pb groups dp l) : base ≤ w.heap.size := by
 obtain ⟨_, _, _, hx⟩ := h
 exact Nat.le_of_lt (Nat.lt_of_le_of_lt hx.low (heap_lt hx.blk))
theorem ReadyB.oth {w w' : World} {B0 pb : Nat} {nd : Nd} {g gl : Nat} {cs : Array Value} (h : ReadyB w B0 pb nd g) (hg : w.heap[gl]? = some (.cells cs 3 (0, 0))) (hlt : gl < B0) (hk : ∀ b, b < w.heap.size → b ≠ gl → w'.heap[b]? = w.heap[b]?) : ReadyB w' B0 pb nd g := by
 obtain ⟨⟨B, E, base, h0, h1, hp⟩, h2, h3⟩ := h
 have hb := hp.base_le
 have he := hp.le
 refine ⟨⟨B, E, base, h0, h1, hp.keepP (fun b h4 h5 => hk b (by omega) (by omega)) fun b cs' t h4 h5 => (hk b (heap_lt h4) fun e => ?_).trans h4⟩, h2, h3⟩
 rcases h5 with rfl | rfl
 · exact type_ne h4 hg (by decide) e
 · exact type_ne h4 hg (by decide) e
theorem ReadyB.later {w w' : World} {B0 pb : Nat} {nd : Nd} {g : Nat} (h : ReadyB w B0 pb nd g) (hb : Below w.heap.size w w') : ReadyB w' B0 pb nd g := by
 obtain ⟨⟨B, E, base, h0, h1, hp⟩, h2, h3⟩ := h
 exact ⟨⟨B, E, base, h0, h1, hp.later hp.base_le hb⟩, h2, h3⟩
theorem comp_any (sl : Option Addr) (n c : Nat) (src : List Int) (fold : Bool) (w : World) (hn : src.length = n) (hs : IsInts w sl n (gl src)) (hslt : ∀ a, sl = some a → a.block < w.heap.size) (R : CP) (hR : compileP src fold = R) :
  Calls Tryd.prog 20 #[.slice sl n c, .bool fold] w fun e w' => Below w.heap.size w w' ∧ ∃ q : Option Addr, e = .returned (.tuple #[.pointer q, .int .i64 (errA R), .int .i64 (errE R)]) ∧ (match R with | .ok nd g => ∃ pb, q = some ⟨pb, 0, none⟩ ∧ ReadyB w' w.heap.size pb nd g | _ => q = none) := by
 refine (compile_c sl n c src fold w hn hs hslt).mono ?_
 rintro e w' ⟨hb, hc⟩
 have hcg := fun nd g => comp_good (src := src) (fold := fold) (nd := nd) (g := g)
 rw [hR] at hc hcg
 refine ⟨hb, ?_⟩
 cases R with
 | long => exact ⟨none, hc, rfl⟩
 | bad k => exact ⟨none, hc, rfl⟩
 | big => exact ⟨none, hc, rfl⟩
 | ok nd g =>
  obtain ⟨pb, B, E, base, h1, h2, h3, h4⟩ := hc
  obtain ⟨h5, h6⟩ := hcg nd g rfl
  exact ⟨_, h1, pb, rfl, ⟨⟨B, E, base, h2, h3, h4⟩, h5, h6⟩⟩
theorem compf_any (sl : Option Addr) (n c : Nat) (src : List Int) (fold : Bool) (w : World) (hn : src.length = n) (hs : IsInts w sl n (gl src)) (hslt : ∀ a, sl = some a → a.block < w.heap.size) (R : CP) (hR : compileP src fold = R) :
  Calls Tryd.prog 33 #[.slice sl n c, .bool fold] w fun e w' => Below w.heap.size w w' ∧ ∃ q : Option Addr, e = .returned (.tuple #[.pointer q, .int .i64 (errA R), .int .i64 (errE R)]) ∧ (match R with | .ok nd g => ∃ qb nv rt, q = some ⟨qb, 0, none⟩ ∧ w'.heap[qb]? = some (.cells #[nv, .int .i64 rt, .int .i64 (g : Nat), .bool fold] 67 (0, 0)) | _ => q = none) := by
 refine (compile_f sl n c src fold w hn hs hslt).mono ?_
 rintro e w' ⟨hb, hc⟩
 rw [hR] at hc
 refine ⟨hb, ?_⟩
 cases R with
 | long => exact ⟨none, hc, rfl⟩
 | bad k => exact ⟨none, hc, rfl⟩
 | big => exact ⟨none, hc, rfl⟩
 | ok nd g =>
  obtain ⟨pb, nv, rt, h1, h2, h3⟩ := hc
  exact ⟨_, h1, pb, nv, rt, rfl, h3⟩
def ReadE (w : World) (R : CP) (e : Ending) (w' : World) : Prop :=
 Below w.heap.size w w' ∧ match R with
  | .ok nd g => ∃ pb qb, e = .returned (.tuple #[.pointer (some ⟨pb, 0, none⟩), .pointer (some ⟨qb, 0, none⟩), .bool true]) ∧ Ready w' pb nd g
  | _ => e = .returned (.tuple #[.pointer none, .pointer none, .bool true])
set_option maxRecDepth 100000 in
set_option maxHeartbeats 16000000 in
theorem read_c (sl : Option Addr) (n c : Nat) (src : List Int) (fold : Bool) (w : World) (hl : src.length = n) (hn : n < 1073741824) (hr : IsInts w sl n (gl src)) (hnil : sl = none → n = 0 ∧ c = 0) (hslt : ∀ a, sl = some a → a.block < w.heap.size) (R : CP) (hR : compileP src fold = R) :
  Calls Tryd.prog 19 #[.slice sl n c, .bool fold] w (ReadE w R) := by
 have HL := Lib.hid hl
 have HR0 := Lib.hid hr
 have HR := Lib.hid hR
 have HSL := Lib.hid hslt
 obtain ⟨A, hA⟩ : ∃ A, errA R = A := ⟨_, rfl⟩
 obtain ⟨E, hE⟩ : ∃ E, errE R = E := ⟨_, rfl⟩
 have HA := Lib.hid hA
 have HE := Lib.hid hE
 obtain ⟨R2, hR2⟩ : ∃ R2, compileP (lst abF n) fold = R2 := ⟨_, rfl⟩
 obtain ⟨A2, hA2⟩ : ∃ A, errA R2 = A := ⟨_, rfl⟩
 obtain ⟨E2, hE2⟩ : ∃ E, errE R2 = E := ⟨_, rfl⟩
 have HR2 := Lib.hid hR2
 have HA2 := Lib.hid hA2
 have HE2 := Lib.hid hE2
 have ea : (A != A) = false := bne_self_eq_false' A
 have ee : (E != E) = false := bne_self_eq_false' E
 have ea2 : (A2 != A2) = false := bne_self_eq_false' A2
 have ee2 : (E2 != E2) = false := bne_self_eq_false' E2
 have HLD := Lib.hid (lend_c sl n c (gl src) w hn hr hnil)
 clear hl hr hslt hR hA hE hR2 hA2 hE2
 go_enter Tryd.func19, Tryd.ntmps19
 go_wp2_with fail
 refine HLD.out.mono ?_
 rintro e w1 ⟨gl1, cc, rfl, hgl, hcc, hcm, hrm, hb1⟩
 have HRM := Lib.hid hrm
 have HB1 := Lib.hid hb1
 have hgl1 := hrm.lt
 have HGL := Lib.hid hgl
 have q1 : (n : Int) ≤ (cc : Int) := by omega
 have q2 : (0 : Int) ≤ (n : Int) := by omega
 have q3 : n ≤ cc := by omega
 have HI1 := Lib.hid (show IsInts w1 (some ⟨gl1, 0, none⟩) n (gl src) from (hrm.ints q3).same fun i hi => by rw [if_pos hi])
 clear hrm hb1 HLD
 go_wp2_with fail
 refine (comp_any (some ⟨gl1, 0, none⟩) n cc src fold w1 HL.out HI1.out (fun a ha => by cases ha; exact hgl1) R HR.out).mono ?_
 rintro e w2 ⟨hb2, p, rfl, hp⟩
 rw [HA.out, HE.out]
 dsimp only
 have HB2 := Lib.hid (HB1.out.trans (hb2.mono HB1.out.size))
 have HP := Lib.hid hp
 have HRM2 := Lib.hid (HRM.out.later hb2)
 have hs2 := hb2.size
 clear hp hb2 HRM HI1
 go_wp2_with fail
 refine (compf_any sl n c src fold w2 HL.out (HR0.out.later HB2.out) (fun a ha => Nat.lt_of_lt_of_le (HSL.out a ha) HB2.out.size) R HR.out).mono ?_
 rintro e w3 ⟨hb3, q, rfl, hq⟩
 rw [HA.out, HE.out]
 dsimp only
 have HB3 := Lib.hid (HB2.out.trans (hb3.mono HB2.out.size))
 have HQ := Lib.hid hq
 have HRM3 := Lib.hid (HRM2.out.later hb3)
 have HW23 := Lib.hid hb3
 clear hq hb3 HRM2
 rcases (show (∃ nd g, R = .ok nd g) ∨ (∀ nd g, R ≠ .ok nd g) from by cases R <;> first | exact .inl ⟨_, _, rfl⟩ | exact .inr (fun _ _ e => by cases e)) with ⟨nd, g, rfl⟩ | hno
 ·
  obtain ⟨pb, rfl, hpb⟩ := HP.out
  obtain ⟨qb, nv, rt, rfl, hqb⟩ := HQ.out
  have HPB := Lib.hid (hpb.later HW23.out)
  have HQB := Lib.hid hqb
  clear HP HQ hpb hqb
  go_wp2_with fail
  refine (num_g E w3).mono ?_
  rintro e w3x ⟨rfl, hw3x⟩
  subst hw3x
  have HKP := Lib.hid (kept_c gl1 cc n c sl (gl src) _ w3x (by omega) hcm HRM3.out (HR0.out.later HB3.out) (fun j hj => rfl))
  go_wp2_with fail
  refine HKP.out.mono ?_
  rintro e w4 ⟨rfl, hrm4, hbe4, hkp4⟩
  have HB4 := Lib.hid (HB3.out.trans (hbe4 w.heap.size HGL.out HB3.out.size))
  have HRM4 := Lib.hid hrm4
  have HK4 := Lib.hid hkp4
  obtain ⟨cs3, hcs3, -, -⟩ := HRM3.out
  have HCS := Lib.hid hcs3
  have HS34 := Lib.hid (show w3x.heap.size ≤ w4.heap.size from (hbe4 0 (Nat.zero_le _) (Nat.zero_le _)).size)
  have hlen2 : (lst abF n).length = n := by unfold lst; simp
  have HI4 := Lib.hid (show IsInts w4 (some ⟨gl1, 0, none⟩) n (gl (lst abF n)) from (hrm4.ints q3).same fun i hi => by unfold gl lst; simp [hi])
  have hgl4 := hrm4.lt
  clear hrm4 hbe4 hkp4 HKP hcs3
  go_wp2_with fail
  refine (comp_any (some ⟨gl1, 0, none⟩) n cc (lst abF n) fold w4 hlen2 HI4.out (fun a ha => by cases ha; exact hgl4) R2 HR2.out).mono ?_
  rintro e w5 ⟨hb5, p5, rfl, hp5⟩
  rw [HA2.out, HE2.out]
  dsimp only
  have HB5 := Lib.hid (HB4.out.trans (hb5.mono HB4.out.size))
  have HI5 := Lib.hid (HI4.out.later hb5)
  have HW5 := Lib.hid hb5
  clear hp5 hb5 HI4
  go_wp2_with fail
  refine (copied_c (some ⟨gl1, 0, none⟩) n cc (gl (lst abF n)) w5 (by omega) HI5.out (fun e => by cases e)).mono ?_
  rintro e w6 ⟨sc, cc6, rfl, ho6, hb6⟩
  have HB6 := Lib.hid (HB5.out.trans (hb6.mono HB5.out.size))
  have HW6 := Lib.hid (HW5.out.trans (hb6.mono HW5.out.size))
  have HO6 := Lib.hid (show OwnInts w6 w5.heap.size (.slice sc n cc6) (lst abF n) from ho6.as (by rw [lst_gl2 _ _ hlen2]))
  clear ho6 hb6
  go_wp2_with fail
  refine (compf_any sc n cc6 (lst abF n) fold w6 hlen2 HO6.out.is (fun a ha => own_lt HO6.out ha) R2 HR2.out).mono ?_
  rintro e w7 ⟨hb7, q7, rfl, hq7⟩
  rw [HA2.out, HE2.out]
  dsimp only
  have HB7 := Lib.hid (HB6.out.trans (hb7.mono HB6.out.size))
  have HW45 := Lib.hid (HW6.out.trans (hb7.mono HW6.out.size))
  clear hq7 hb7
  go_wp2_with fail
  refine (num_g E2 w7).mono ?_
  rintro e w7x ⟨rfl, hw7x⟩
  subst hw7x
  have HPB6 := Lib.hid (((HPB.out.oth HCS.out (by omega) HK4.out).later HW45.out))
  have HQB6 := Lib.hid ((HW45.out.block _ (Nat.lt_of_lt_of_le (heap_lt HQB.out) HS34.out)).trans ((HK4.out _ (heap_lt HQB.out) (fun e => type_ne HQB.out HCS.out (by decide) e)).trans HQB.out))
  have x2 : w7x.cell? ⟨qb, 2, none⟩ = some (.int .i64 (g : Nat)) := block_cell HQB6.out
  have eg : ((g : Int) == (g : Int)) = true := beq_self_eq_true _
  have HGR := Lib.hid (fun m => groups_g pb (w7x.drewN m) nd g (HPB6.out.ready.later (below_drewN (Below.refl _ _))))
  clear HPB HQB
  go_wp2_with fail
  go_quiet (first | (go_at_call 14; first | with_reducible exact Calls.quiet_of ((HGR.out _).mono (by rintro e w' ⟨rfl, rfl⟩; exact ⟨rfl, 0, rfl⟩))))
  have HRDF := Lib.hid (show Ready (w7x.drewN nq) pb nd g from HPB6.out.ready.later (below_drewN (Below.refl _ _)))
  go_wp2
  refine bodyPost_ret (v := .tuple #[.pointer (some ⟨pb, 0, none⟩), .pointer (some ⟨qb, 0, none⟩), .bool true]) (by simp [results, Tryd.results19]) rfl ?_
  exact ⟨below_drewN HB7.out, pb, qb, rfl, HRDF.out⟩
 ·
  obtain rfl : p = none := by
   have := HP.out
   cases R <;> first | exact this | exact absurd rfl (hno _ _)
  obtain rfl : q = none := by
   have := HQ.out
   cases R <;> first | exact this | exact absurd rfl (hno _ _)
  have HNO := Lib.hid hno
  clear HP HQ hno
  go_wp2_with fail
  refine (num_g E w3).mono ?_
  rintro e w3x ⟨rfl, hw3x⟩
  subst hw3x
  have HKP := Lib.hid (kept_c gl1 cc n c sl (gl src) _ w3x (by omega) hcm HRM3.out (HR0.out.later HB3.out) (fun j hj => rfl))
  go_wp2_with fail
  refine HKP.out.mono ?_
  rintro e w4 ⟨rfl, hrm4, hbe4, hkp4⟩
  have HB4 := Lib.hid (HB3.out.trans (hbe4 w.heap.size HGL.out HB3.out.size))
  have HRM4 := Lib.hid hrm4
  have HK4 := Lib.hid hkp4
  obtain ⟨cs3, hcs3, -, -⟩ := HRM3.out
  have HCS := Lib.hid hcs3
  have HS34 := Lib.hid (show w3x.heap.size ≤ w4.heap.size from (hbe4 0 (Nat.zero_le _) (Nat.zero_le _)).size)
  have hlen2 : (lst abF n).length = n := by unfold lst; simp
  have HI4 := Lib.hid (show IsInts w4 (some ⟨gl1, 0, none⟩) n (gl (lst abF n)) from (hrm4.ints q3).same fun i hi => by unfold gl lst; simp [hi])
  have hgl4 := hrm4.lt
  clear hrm4 hbe4 hkp4 HKP hcs3
  go_wp2_with fail
  refine (comp_any (some ⟨gl1, 0, none⟩) n cc (lst abF n) fold w4 hlen2 HI4.out (fun a ha => by cases ha; exact hgl4) R2 HR2.out).mono ?_
  rintro e w5 ⟨hb5, p5, rfl, hp5⟩
  rw [HA2.out, HE2.out]
  dsimp only
  have HB5 := Lib.hid (HB4.out.trans (hb5.mono HB4.out.size))
  have HI5 := Lib.hid (HI4.out.later hb5)
  have HW5 := Lib.hid hb5
  clear hp5 hb5 HI4
  go_wp2_with fail
  refine (copied_c (some ⟨gl1, 0, none⟩) n cc (gl (lst abF n)) w5 (by omega) HI5.out (fun e => by cases e)).mono ?_
  rintro e w6 ⟨sc, cc6, rfl, ho6, hb6⟩
  have HB6 := Lib.hid (HB5.out.trans (hb6.mono HB5.out.size))
  have HW6 := Lib.hid (HW5.out.trans (hb6.mono HW5.out.size))
  have HO6 := Lib.hid (show OwnInts w6 w5.heap.size (.slice sc n cc6) (lst abF n) from ho6.as (by rw [lst_gl2 _ _ hlen2]))
  clear ho6 hb6
  go_wp2_with fail
  refine (compf_any sc n cc6 (lst abF n) fold w6 hlen2 HO6.out.is (fun a ha => own_lt HO6.out ha) R2 HR2.out).mono ?_
  rintro e w7 ⟨hb7, q7, rfl, hq7⟩
  rw [HA2.out, HE2.out]
  dsimp only
  have HB7 := Lib.hid (HB6.out.trans (hb7.mono HB6.out.size))
  have HW45 := Lib.hid (HW6.out.trans (hb7.mono HW6.out.size))
  clear hq7 hb7
  go_wp2_with fail
  refine (num_g E2 w7).mono ?_
  rintro e w7x ⟨rfl, hw7x⟩
  subst hw7x
  go_wp2
  refine bodyPost_ret (v := .tuple #[.pointer none, .pointer none, .bool true]) (by simp [results, Tryd.results19]) rfl ?_
  refine ⟨HB7.out, ?_⟩
  have := HNO.out
  cases R <;> first | rfl | exact absurd rfl (this _ _)
end Go.Proofs.YtdegdoilpamjjaaDoor
namespace Go.Proofs.YtdegdoilpamjjaaDoor
open Go.RowKit
set_option linter.unusedVariables false
set_option linter.unusedSimpArgs false
def alA : List Int := [92, 40, 98, 92, 41, 92, 43]
def ndAl : Nd := .choice [.row [.again (.group (.choice [.row [.set [(98, 98)] [] false false]]) 1) 1 (-1) false]]
theorem comp_al : compileP alA false = .ok ndAl 1 := rfl
def bdAl : BestD := ⟨1, 3, [(3, 3), (2, 2), (3, 2), (2, 1)]⟩
theorem match_al : matchR ndAl [97, 98, 98, 99] 0 = some bdAl := by kernel_rfl
def totAl : List BestD := [⟨0, 1, [(3, 1), (2, 0)]⟩, ⟨2, 3, [(3, 3), (2, 2)]⟩]
theorem all_al : allP ndAl [98, 97, 98] 5 0 (-1) = totAl := by kernel_rfl
theorem own_nil3 {w : World} {base : Nat} {s : Option Addr} {n c : Nat} {l : List Int} (h : OwnInts w base (.slice s n c) l) (hs : s = none) : n = 0 ∧ c = 0 := by
 subst hs
 rcases h.2 with ⟨h1, h2⟩ | ⟨g, cap, cur, h1, _⟩
 ·
  obtain ⟨-, h3, h4⟩ := Value.slice.inj h1
  exact ⟨h3, h4⟩
 · cases (Value.slice.inj h1).1
theorem letters_al (w : World) : Calls Tryd.prog 11 #[.string ⟨#[92, 40, 98, 92, 41, 92, 43]⟩] w fun e w' => ∃ sl c, e = .returned (.slice sl 7 c) ∧ OwnInts w' w.heap.size (.slice sl 7 c) alA ∧ Below w.heap.size w w' := by
 refine (letters_c _ 7 (gl alA) w rfl (by omega) (fun i h => ?_)).mono ?_
 ·
  obtain rfl | rfl | rfl | rfl | rfl | rfl | rfl : i = 0 ∨ i = 1 ∨ i = 2 ∨ i = 3 ∨ i = 4 ∨ i = 5 ∨ i = 6 := by omega
  · exact lw64 92 (by omega)
  · exact lw64 40 (by omega)
  · exact lw64 98 (by omega)
  · exact lw64 92 (by omega)
  · exact lw64 41 (by omega)
  · exact lw64 92 (by omega)
  · exact lw64 43 (by omega)
 ·
  rintro e w' ⟨s, c, h1, h2, h3⟩
  exact ⟨s, c, h1, h2.as (lst_gl2 _ _ rfl), h3⟩
theorem letters_abbc (w : World) : Calls Tryd.prog 11 #[.string ⟨#[97, 98, 98, 99]⟩] w fun e w' => ∃ sl c, e = .returned (.slice sl 4 c) ∧ OwnInts w' w.heap.size (.slice sl 4 c) [97, 98, 98, 99] ∧ Below w.heap.size w w' := by
 refine (letters_c _ 4 (gl [97, 98, 98, 99]) w rfl (by omega) (fun i h => ?_)).mono ?_
 ·
  obtain rfl | rfl | rfl | rfl : i = 0 ∨ i = 1 ∨ i = 2 ∨ i = 3 := by omega
  · exact lw64 97 (by omega)
  · exact lw64 98 (by omega)
  · exact lw64 98 (by omega)
  · exact lw64 99 (by omega)
 ·
  rintro e w' ⟨s, c, h1, h2, h3⟩
  exact ⟨s, c, h1, h2.as (lst_gl2 _ _ rfl), h3⟩
theorem letters_bab (w : World) : Calls Tryd.prog 11 #[.string ⟨#[98, 97, 98]⟩] w fun e w' => ∃ sl c, e = .returned (.slice sl 3 c) ∧ OwnInts w' w.heap.size (.slice sl 3 c) [98, 97, 98] ∧ Below w.heap.size w w' := by
 refine (letters_c _ 3 (gl [98, 97, 98]) w rfl (by omega) (fun i h => ?_)).mono ?_
 ·
  obtain rfl | rfl | rfl : i = 0 ∨ i = 1 ∨ i = 2 := by omega
  · exact lw64 98 (by omega)
  · exact lw64 97 (by omega)
  · exact lw64 98 (by omega)
 ·
  rintro e w' ⟨s, c, h1, h2, h3⟩
  exact ⟨s, c, h1, h2.as (lst_gl2 _ _ rfl), h3⟩
theorem row_al : (totAl.flatMap rowB)[20]? = some (.int .i64 2) := by
 show (rowB _ ++ (rowB _ ++ []))[20]? = _
 rw [List.getElem?_append_right (by rw [rowB_len]; decide), rowB_len, List.append_nil]
 unfold rowB
 rw [Array.getElem?_toList]
 exact mLg_at _ 0 (by decide)
set_option maxRecDepth 100000 in
set_option maxHeartbeats 16000000 in
theorem alive_c (w : World) (ht : Tabs w) : Calls Tryd.prog 18 #[] w fun e w' => e = .returned (.bool true) ∧ Below w.heap.size w w' := by
 have HT := Lib.hid ht
 clear ht
 go_enter Tryd.func18, Tryd.ntmps18
 go_wp2_with fail
 refine (letters_al w).mono ?_
 rintro e w1 ⟨s1, c1, rfl, ho1, hb1⟩
 dsimp only
 have HO1 := Lib.hid ho1
 have HB1 := Lib.hid hb1
 clear ho1 hb1
 go_wp2_with fail
 refine (read_c s1 7 c1 alA false w1 rfl (by omega) HO1.out.is (own_nil3 HO1.out) (fun a ha => own_lt HO1.out ha) _ comp_al).mono ?_
 rintro e w2 ⟨hb2, pb, qb, rfl, hr2⟩
 dsimp only
 have HB2 := Lib.hid (HB1.out.trans (hb2.mono HB1.out.size))
 have HR2 := Lib.hid hr2
 clear hb2 hr2 HO1 HB1
 go_wp2_with fail
 refine (groups_g pb w2 ndAl 1 HR2.out).mono ?_
 rintro e w2x ⟨rfl, hw⟩
 subst hw
 dsimp only
 go_wp2_with fail
 refine (letters_abbc w2x).mono ?_
 rintro e w3 ⟨s3, c3, rfl, ho3, hb3⟩
 dsimp only
 have HO3 := Lib.hid ho3
 have HB3 := Lib.hid (HB2.out.trans (hb3.mono HB2.out.size))
 have HR3 := Lib.hid (HR2.out.later hb3)
 clear ho3 hb3 HR2 HB2
 go_wp2_with fail
 refine (match_g w3 pb ndAl 1 HR3.out s3 4 c3 [97, 98, 98, 99] rfl (by omega) HO3.out.is (HT.out.later HB3.out) 0 (some bdAl) match_al).mono ?_
 rintro e w4 ⟨hb4, he⟩
 obtain rfl := (show e = .returned (.tuple #[.agg (mLg (mKg bdAl 20)), .bool true]) from he)
 have HB4 := Lib.hid (HB3.out.trans (hb4.mono HB3.out.size))
 have HR4 := Lib.hid (HR3.out.later hb4)
 have HZ4 := Lib.hid (one_new w4 (.cells mZg 23))
 have HN4 := Lib.hid (below_newJ w4 (.cells mZg 23))
 obtain ⟨mb, hmb⟩ : ∃ mb, w4.heap.size = mb := ⟨_, rfl⟩
 have HMB := Lib.hid hmb
 rw [hmb] at HZ4
 clear hb4 he HR3 HB3 HO3
 go_upto_region 5 with (refine wpList_store_row rfl 23 _ _ rfl mb (mLg (mKg bdAl 20)) rfl rfl _ _ HZ4.out (mLg_info _) rfl (mLg_all _) ?_)
 have HB5 := Lib.hid (HN4.out.trans (row_belowg (w := w4.alloc (.cells mZg 23)) (B := w4.heap.size) (g := mb) (mLg (mKg bdAl 20)) (Nat.le_of_eq HMB.out)))
 have HM5 := Lib.hid (row_setg (mLg (mKg bdAl 20)) HZ4.out)
 generalize (w4.alloc (.cells mZg 23)).setRow mb (mLg (mKg bdAl 20)) = w5 at HB5 HM5 ⊢
 have HR5 := Lib.hid (HR4.out.later HB5.out)
 have HBB5 := Lib.hid (HB4.out.trans (HB5.out.mono HB4.out.size))
 clear HR4 HB4 HZ4 HN4 HB5 hmb
 go_wp2_with fail
 refine (letters_bab w5).mono ?_
 rintro e w6 ⟨s6, c6, rfl, ho6, hb6⟩
 dsimp only
 have HO6 := Lib.hid ho6
 have HB6 := Lib.hid (HBB5.out.trans (hb6.mono HBB5.out.size))
 have HR6 := Lib.hid (HR5.out.later hb6)
 have HM6 := Lib.hid ((hb6.block mb (heap_lt HM5.out)).trans HM5.out)
 clear ho6 hb6 HR5 HBB5 HM5
 go_wp2_with fail
 refine (all_g w6 pb ndAl 1 HR6.out s6 3 c6 [98, 97, 98] rfl (by omega) HO6.out.is (HT.out.later HB6.out) totAl all_al).mono ?_
 rintro e w7 ⟨hb7, so, co, rfl, ho7, -⟩
 have HB7 := Lib.hid (HB6.out.trans (hb7.mono HB6.out.size))
 have hm7 := (hb7.block mb (heap_lt HM6.out)).trans HM6.out
 obtain ⟨ob, hso⟩ : ∃ ob, so = some ⟨ob, 0, none⟩ := by
  rcases ho7.2 with ⟨h1, h2⟩ | ⟨g, cap, cur, h1, _⟩
  · cases h2
  · exact ⟨g, (Value.slice.inj h1).1⟩
 subst hso
 have z20 : w7.cell? ⟨ob, 20, none⟩ = some (.int .i64 2) := by
  rw [World.ownsRow.cellAt ho7 20 (by decide)]
  exact row_al
 have x0 : w7.cell? ⟨mb, 0, none⟩ = some (.int .i64 1) := (block_cell hm7).trans (mLg_at _ 0 (by decide))
 have x1 : w7.cell? ⟨mb, 1, none⟩ = some (.int .i64 3) := (block_cell hm7).trans (mLg_at _ 1 (by decide))
 have x2 : w7.cell? ⟨mb, 2, none⟩ = some (.int .i64 2) := (block_cell hm7).trans (mLg_at _ 2 (by decide))
 have x3 : w7.cell? ⟨mb, 3, none⟩ = some (.int .i64 3) := (block_cell hm7).trans (mLg_at _ 3 (by decide))
 have x4 : w7.cell? ⟨mb, 4, none⟩ = some (.int .i64 (-1)) := (block_cell hm7).trans (mLg_at _ 4 (by decide))
 rw [show totAl.length = 2 from rfl]
 clear hb7 ho7 hm7 HR6 HB6 HM6 HO6
 dsimp only
 go_wp2
 go_ret
 exact ⟨rfl, HB7.out⟩
end Go.Proofs.YtdegdoilpamjjaaDoor
namespace Go.Proofs.YtdegdoilpamjjaaDoor
open Go.RowKit
set_option linter.unusedVariables false
set_option linter.unusedSimpArgs false
theorem isInts_lst {w : World} {sl : Option Addr} {n : Nat} {f : Nat → Int} (h : IsInts w sl n f) : IsInts w sl n (gl (lst f n)) := h.same fun i hi => by unfold gl lst; simp [hi]
set_option maxRecDepth 100000 in
set_option maxHeartbeats 4000000 in
theorem law_compile (sl : Option Addr) (n c : Nat) (f : Nat → Int) (b : Bool) (w : World) (hn : n < 1073741824) (hr : IsInts w sl n f) (hnil : sl = none → n = 0 ∧ c = 0) (hslt : ∀ a, sl = some a → a.block < w.heap.size) (ht : Tabs w) :
  Calls Tryd.prog 6 #[.slice sl n c, .bool b] w fun e w' => e = .returned (.bool true) ∧ Below w.heap.size w w' := by
 have hl : (lst f n).length = n := by unfold lst; simp
 have HI := Lib.hid (isInts_lst hr)
 have HS := Lib.hid hslt
 clear hr hslt
 go_enter Tryd.func6, Tryd.ntmps6
 go_wp2_with fail
 refine (alive_c w ht).mono ?_
 rintro e w1 ⟨rfl, hb1⟩
 dsimp only
 have HB1 := Lib.hid hb1
 clear hb1 ht
 go_wp2_with fail
 obtain ⟨R, hR⟩ : ∃ R, compileP (lst f n) b = R := ⟨_, rfl⟩
 refine (read_c sl n c (lst f n) b w1 hl hn (HI.out.later HB1.out) hnil (fun a ha => Nat.lt_of_lt_of_le (HS.out a ha) HB1.out.size) R hR).mono ?_
 rintro e w2 ⟨hb2, he⟩
 have HB2 := Lib.hid (HB1.out.trans (hb2.mono HB1.out.size))
 clear hb2 HB1 HI HS
 cases R with
 | ok nd g =>
  obtain ⟨pb, qb, rfl, hr2⟩ := he
  clear hr2 hR
  dsimp only
  go_wp2
  go_ret
  exact ⟨rfl, HB2.out⟩
 | long =>
  obtain rfl := (show e = .returned (.tuple #[.pointer none, .pointer none, .bool true]) from he)
  clear hR he
  go_wp2
  go_ret
  exact ⟨rfl, HB2.out⟩
 | big =>
  obtain rfl := (show e = .returned (.tuple #[.pointer none, .pointer none, .bool true]) from he)
  clear hR he
  go_wp2
  go_ret
  exact ⟨rfl, HB2.out⟩
 | bad k =>
  obtain rfl := (show e = .returned (.tuple #[.pointer none, .pointer none, .bool true]) from he)
  clear hR he
  go_wp2
  go_ret
  exact ⟨rfl, HB2.out⟩
end Go.Proofs.YtdegdoilpamjjaaDoor
