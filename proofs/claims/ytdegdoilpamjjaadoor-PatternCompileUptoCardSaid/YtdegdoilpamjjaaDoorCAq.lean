/- Contract: compile of any node. Contract: pattern.Compile, of any list. The runner in memory, in general. No walk. The runner's run, in general: what it holds. No walk. -/
import Derived.Laws.Rows
import Derived.Test.YtdegdoilpamjjaaDoorCAp
import Derived.Test.YtdegdoilpamjjaaDoorCAo
import Derived.Test.YtdegdoilpamjjaaDoorCAn
import Derived.Test.YtdegdoilpamjjaaDoorCAh
import Derived.Test.YtdegdoilpamjjaaDoorCAi
namespace Go.Proofs.YtdegdoilpamjjaaDoor
open Go.RowKit
set_option linter.unusedVariables false
set_option linter.unusedSimpArgs false
set_option maxRecDepth 100000 in
set_option maxHeartbeats 4000000 in
theorem compile_again_g (B E base pb : Nat) (groups : Int) (n : Nd) (least most : Int) (lz : Bool) (h0 : 0 ≤ least) (h1 : least ≤ 255) (h2 : -1 ≤ most) (h3 : most ≤ 255) (h4 : 0 ≤ most → least ≤ most) (hG : GoodN n) (ih : CompK B E base pb groups n) : CompK B E base pb groups (.again n least most lz) := by
 intro v w l dp d hn hp hsz hd hbase
 obtain ⟨M, hM, hmx, b2, f2, h1', h2', h3'⟩ := hp.start d hbase
 have hle := hp.le
 have hdd := le_deepA (GoodN.again n least most lz h0 h1 h2 h3 h4 hG) d
 have hfin : max dp (deepA d (.again n least most lz)) = max M (deepA d (.again n least most lz)) := by omega
 rw [hfin]
 have hdM : d ≤ M := by omega
 cases hn with
 | again b v1 _ _ _ _ hb hE h hnn =>
 have hcall := again_c (w.setCell ⟨pb, 2, none⟩ (.int .i64 M)) B E base pb b groups M d l v1 n least most lz h1' h3' (h2'.blk h (by omega)) (by omega) (h2'.node hnn hle) hG ih h0 h1 h2 h3 h4 hsz hd hdM _ rfl _ rfl
 have HC := Lib.hid hcall
 have HF := Lib.hid h2'
 clear h1' h2' h3' hp h hnn ih hG hcall hfin hdM hdd hM
 have as1 := as_again_set
 have as2 := as_again_edge
 have as3 := as_again_row
 have as4 := as_again_choice
 have as5 := as_again_group
 have as6 := as_again_again
 go_enter Tryd.func36, Tryd.ntmps36
 go_upto_region 40 with (fail)
 generalize w.setCell ⟨pb, 2, none⟩ (.int .i64 M) = w1 at HC HF ⊢
 go_wp2_with fail
 refine HC.out.mono ?_
 rintro e w3 ⟨rfl, hf, hp⟩
 have HF3 := Lib.hid (HF.out.trans hf)
 have HP3 := Lib.hid hp
 clear hf hp
 go_wp2
 go_end0
 exact ⟨rfl, HF3.out, HP3.out⟩
theorem compile_g (B E base pb : Nat) (groups : Int) {n : Nd} (h : GoodN n) : CompK B E base pb groups n := by
 induction h with
 | set r k nt fd => exact compile_set_g B E base pb groups r k nt fd
 | edge w hw => exact compile_edge_g B E base pb groups w
 | row l hl h ih => exact compile_row_g B E base pb groups l h hl ih
 | choice l h0 hl h ih => exact compile_choice_g B E base pb groups l h0 h hl ih
 | group n k h0 h9 h ih => exact compile_group_g B E base pb groups n k h0 h9 h ih
 | again n least most lz h0 h1 h2 h3 h4 h ih => exact compile_again_g B E base pb groups n least most lz h0 h1 h2 h3 h4 h ih
end Go.Proofs.YtdegdoilpamjjaaDoor
namespace Go.Proofs.YtdegdoilpamjjaaDoor
open Go.RowKit
set_option linter.unusedVariables false
set_option linter.unusedSimpArgs false
theorem PtrR.keepB {w w' : World} {B E : Nat} {p : Option Addr} {s : Option SetD} (h : PtrR w B E p s) (hk : ∀ b, B ≤ b → b < E → w'.heap[b]? = w.heap[b]?) : PtrR w' B E p s := by
 cases s with
 | none => exact h
 | some s => exact NdR.keep h hk
theorem ActsR.keepB {w w' : World} {B E : Nat} {l : List ActD} {xs : List Value} (h : ActsR w B E l xs) (hk : ∀ b, B ≤ b → b < E → w'.heap[b]? = w.heap[b]?) : ActsR w' B E l xs :=
 ⟨h.1, fun i hi => by
  obtain ⟨h1, h2, h3, p, h4, h5⟩ := h.2 i hi
  exact ⟨h1, h2, h3, p, h4, h5.keepB hk⟩⟩
theorem PaG.keepP {w w' : World} {B E base pb : Nat} {groups : Int} {dp : Nat} {l : List ActD} (h : PaG w B E base pb groups dp l) (hk : ∀ b, B ≤ b → b < E → w'.heap[b]? = w.heap[b]?)
  (ho : ∀ (b : Nat) (cs : Array Value) (t : TypeId), w.heap[b]? = some (.cells cs t (0, 0)) → t = 62 ∨ t = 80 → w'.heap[b]? = some (.cells cs t (0, 0))) : PaG w' B E base pb groups dp l := by
 obtain ⟨xs, sA, cA, h⟩ := h
 refine ⟨xs, sA, cA, ho _ _ _ h.blk (.inl rfl), own_kept h.own fun g hg => ?_, h.low, h.le, h.acts.keepB hk⟩
 obtain ⟨cs, h1⟩ := own_type h.own hg
 exact (ho _ _ _ h1 (.inr rfl)).trans h1.symm
theorem PaG.box {w : World} {B E base pb : Nat} {groups : Int} {dp : Nat} {l : List ActD} (h : PaG w B E base pb groups dp l) {b : Nat} {t : TypeId} {v : Value} (hx : IsBox w b t v) (hb : b < B) (h1 : t ≠ 62) (h2 : t ≠ 80) (u : Value) : PaG (w.setCell ⟨b, 0, none⟩ u) B E base pb groups dp l :=
 h.keepP (fun x h3 _ => Below.heap_setCell w ⟨b, 0, none⟩ u x (by show x ≠ b; omega)) fun x cs T h3 h4 => (set_oth hx u h3 (by rcases h4 with rfl | rfl <;> exact fun e => by first | exact h1 e.symm | exact h2 e.symm)).trans h3
theorem assert_wrong (v : Value) (w : World) : (Instr.typeAssert (.iface 68 v) 20 68 true).run Tryd.prog w = .ok (.tuple #[v, .bool true]) w := by kernel_rfl
theorem catch_wrong (b0 b1 b2 : Nat) (k : Nat) (v0 v1 v2 : Value) (w : World) (h0 : IsBox w b0 26 v0) (h1 : IsBox w b1 3 v1) (h2 : IsBox w b2 42 v2) (n01 : b0 ≠ b1) (n02 : b0 ≠ b2) (n12 : b1 ≠ b2) :
  CallsD Tryd.prog 34 #[.pointer (some ⟨b0, 0, none⟩), .pointer (some ⟨b1, 0, none⟩), .pointer (some ⟨b2, 0, none⟩)] (.panicking [wrongP k]) w fun e u' w' =>
   e = .returned (.tuple #[]) ∧ u' = .panicking [{ v := .iface 68 (.int .i64 k), recovered := true }] ∧ IsBox w' b0 26 (.pointer none) ∧ IsBox w' b1 3 (.int .i64 k) ∧ IsBox w' b2 42 (.int .i64 100) ∧ (∀ B, B ≤ b0 → B ≤ b1 → B ≤ b2 → Below B w w') := by
 refine callsD_of_wpS Tryd.func34 rfl fun c₀ cs hu => ?_
 refine seq_recQ (v := .iface 68 (.int .i64 k)) (cs' := { c₀ with mode := .panicking [{ v := .iface 68 (.int .i64 k), recovered := true }] } :: cs) ?_ rfl (.inl ?_) ?_
 · simp [go_sem]
 · simp [recoverD, hu, wrongP]
 simp only [Tryd.ntmps34, List.size_toArray, List.length_cons, List.length_nil, Nat.reduceAdd, Nat.reduceSub, Array.replicate_succ, Array.replicate_zero, List.push_toArray, List.append_toArray, List.nil_append, List.cons_append]
 have ha := assert_wrong
 have x0 := h0.cell.1
 have x1 := h1.cell.1
 have x2 := h2.cell.1
 have y0 := h0.cell.2
 have y1 := h1.cell.2
 have y2 := h2.cell.2
 have n10 : ¬ b1 = b0 := fun e => n01 e.symm
 have n20 : ¬ b2 = b0 := fun e => n02 e.symm
 have n21 : ¬ b2 = b1 := fun e => n12 e.symm
 have b0' := ((h0.set (.pointer none)).other (c := b1) n10 (.int .i64 k)).other (c := b2) n20 (.int .i64 100)
 have b1' := ((h1.other (c := b0) n01 (.pointer none)).set (.int .i64 k)).other (c := b2) n21 (.int .i64 100)
 have b2' := ((h2.other (c := b0) n02 (.pointer none)).other (c := b1) n12 (.int .i64 k)).set (.int .i64 100)
 have b3' : ∀ B, B ≤ b0 → B ≤ b1 → B ≤ b2 → Below B w (((w.setCell ⟨b0, 0, none⟩ (.pointer none)).setCell ⟨b1, 0, none⟩ (.int .i64 k)).setCell ⟨b2, 0, none⟩ (.int .i64 100)) := fun B h1 h2 h3 => (((Below.refl _ _).setCell (p := ⟨b0, 0, none⟩) h1 _).setCell (p := ⟨b1, 0, none⟩) h2 _).setCell (p := ⟨b2, 0, none⟩) h3 _
 have B0 := Lib.hid b0'
 have B1 := Lib.hid b1'
 have B2 := Lib.hid b2'
 have B3 := Lib.hid b3'
 clear b0' b1' b2' b3' h0 h1 h2
 go_wp2
 exact ⟨rfl, _, rfl, _, results_none rfl _ _ _, rfl, rfl, B0.out, B1.out, B2.out, B3.out⟩
theorem door_wrong (tmps : Array Value) (b0 b1 b2 : Nat) (v0 v1 v2 : Value) (k : Nat) (w : World) (R : Ending → World → Prop) (h4 : tmps.getD 4 undef = .pointer (some ⟨b0, 0, none⟩)) (h5 : tmps.getD 5 undef = .pointer (some ⟨b1, 0, none⟩)) (h6 : tmps.getD 6 undef = .pointer (some ⟨b2, 0, none⟩))
  (hx0 : IsBox w b0 26 v0) (hx1 : IsBox w b1 3 v1) (hx2 : IsBox w b2 42 v2) (n01 : b0 ≠ b1) (n02 : b0 ≠ b2) (n12 : b1 ≠ b2)
  (h : ∀ w', (∀ B, B ≤ b0 → B ≤ b1 → B ≤ b2 → Below B w w') → R (.returned (.tuple #[.pointer none, .int .i64 k, .int .i64 100])) w') :
  bodyPostD Tryd.prog Tryd.f20 R (.panic [wrongP k]) { tmps := tmps, defers := [{ target := .fn (.func 34) #[.pointer (some ⟨b0, 0, none⟩), .pointer (some ⟨b1, 0, none⟩), .pointer (some ⟨b2, 0, none⟩)], args := #[] }] } w := by
 refine leaves_cons (f := 34) (args := #[.pointer (some ⟨b0, 0, none⟩), .pointer (some ⟨b1, 0, none⟩), .pointer (some ⟨b2, 0, none⟩)]) (by simp) (by simp [go_sem]) ?_
 refine (catch_wrong b0 b1 b2 k v0 v1 v2 w hx0 hx1 hx2 n01 n02 n12).mono ?_
 rintro e u' w' ⟨rfl, rfl, c0, c1, c2, c3⟩
 exact ⟨_, comp_results _ b0 b1 b2 none w' h4 h5 h6 _ _ c0 c1 c2, h w' c3⟩
def CompR (w : World) (src : List Int) (fold : Bool) (e : Ending) (w' : World) : Prop :=
 Below w.heap.size w w' ∧ match compileP src fold with
  | .long => e = .returned (.tuple #[.pointer none, .int .i64 0, .int .i64 3])
  | .bad k => e = .returned (.tuple #[.pointer none, .int .i64 k, .int .i64 100])
  | .big => e = .returned (.tuple #[.pointer none, .int .i64 0, .int .i64 103])
  | .ok nd g => ∃ pb B E base, e = .returned (.tuple #[.pointer (some ⟨pb, 0, none⟩), .int .i64 0, .int .i64 0]) ∧ w.heap.size ≤ B ∧ B ≤ base ∧ PaG w' B E base pb (g : Int) (deepA 0 nd) (progA nd)
set_option maxRecDepth 100000 in
set_option maxHeartbeats 4000000 in
theorem comp_long (sl : Option Addr) (n c : Nat) (src : List Int) (fold : Bool) (w : World) (hn : src.length = n) (hbig : 256 < n) :
  Calls Tryd.prog 20 #[.slice sl n c, .bool fold] w (CompR w src fold) := by
 have q1 : (256 : Int) < (n : Int) := by omega
 have hmf : ∀ (fn : Fn) (first cap : Array Value) (w : World), (Instr.makeFunc fn first cap).run Tryd.prog w = .ok (.func fn first cap) w := fun _ _ _ _ => rfl
 have HN := Lib.hid hn
 clear hn
 go_enter_defers Tryd.func20, Tryd.ntmps20
 go_wp2
 have x := comp_boxes w (.pointer none) (.int .i64 0) (.int .i64 3)
 refine ⟨_, comp_results _ w.heap.size (w.heap.size + 1) (w.heap.size + 1 + 1) none _ rfl rfl rfl 0 3 x.1 x.2.1 x.2.2.1, x.2.2.2, ?_⟩
 unfold compileP
 rw [if_pos (by rw [HN.out]; exact hbig)]
theorem comp_mid_g {w6 : World} {B E b0 : Nat} {v0 v : Value} {nd : Nd} (hn : NdR w6 B E v nd) (hx : IsBox w6 b0 26 v0) (hb0 : b0 < B) (hE : E ≤ w6.heap.size) (groups : Nat) (o : Obj) (ho : o = .cells #[.slice none 0 0, .int .i64 groups, .int .i64 0] 62) (u : Value) :
  PaG ((w6.alloc o).setCell ⟨b0, 0, none⟩ u) B E w6.heap.size w6.heap.size (groups : Int) 0 [] ∧ NdR ((w6.alloc o).setCell ⟨b0, 0, none⟩ u) B E v nd ∧ IsBox ((w6.alloc o).setCell ⟨b0, 0, none⟩ u) b0 26 u ∧
  (∀ b t v, IsBox w6 b t v → t ≠ 26 → IsBox ((w6.alloc o).setCell ⟨b0, 0, none⟩ u) b t v) ∧ (∀ b, b ≤ b0 → Below b w6 ((w6.alloc o).setCell ⟨b0, 0, none⟩ u)) ∧ w6.heap.size ≤ ((w6.alloc o).setCell ⟨b0, 0, none⟩ u).heap.size := by
 have h2 := one_new w6 o
 have hb := below_newJ w6 o
 subst ho
 have x1 := hx.below hb
 generalize w6.alloc (.cells #[.slice none 0 0, .int .i64 groups, .int .i64 0] 62) = w7 at h2 hb x1 ⊢
 have hlt := heap_lt hx
 have hoth : ∀ (b : Nat) (cs : Array Value) (t : TypeId), w7.heap[b]? = some (.cells cs t (0, 0)) → t ≠ 26 → (w7.setCell ⟨b0, 0, none⟩ u).heap[b]? = some (.cells cs t (0, 0)) := fun b cs t h1 h3 => (set_oth x1 u h1 h3).trans h1
 refine ⟨⟨[], none, 0, ⟨hoth _ _ _ h2 (by decide), World.ownsRow_nil _ _ _ _, Nat.le_refl _, hE, rfl, fun i hi => absurd hi (by simp)⟩⟩, hn.keep fun b h3 h4 => (Below.heap_setCell w7 ⟨b0, 0, none⟩ u b (by show b ≠ b0; omega)).trans (hb.block b (by omega)), x1.set u, fun b t v h1 h3 => hoth _ _ _ (h1.below hb) h3, fun b h3 => (hb.mono (by omega)).setCell (p := ⟨b0, 0, none⟩) h3 u, by have := hb.size; simpa [World.setCell] using this⟩
def compT (n : Nat) : RR Nd → CP
 | .error e => .bad e
 | .ok (nd, s) => if s.at' < n then .bad (s.at' + 1) else if 4096 < partsP nd then .big else .ok nd s.groups
theorem compileP_eq (src : List Int) (fold : Bool) (n : Nat) (hn : src.length = n) (hsm : n ≤ 256) : compileP src fold = compT n (patP src fold (4 * n + 8) [] ⟨0, 0⟩) := by
 unfold compileP
 rw [if_neg (by omega), hn]
 rcases patP src fold (4 * n + 8) [] ⟨0, 0⟩ with e | ⟨nd, s⟩ <;> rfl
set_option maxRecDepth 100000 in
set_option maxHeartbeats 16000000 in
theorem comp_main (sl : Option Addr) (n c : Nat) (src : List Int) (fold : Bool) (w : World) (hn : src.length = n) (hsm : n ≤ 256) (hs : IsInts w sl n (gl src)) (hslt : ∀ a, sl = some a → a.block < w.heap.size) :
  Calls Tryd.prog 20 #[.slice sl n c, .bool fold] w (CompR w src fold) := by
 have q1 : ¬ (256 : Int) < (n : Int) := by omega
 have hmf : ∀ (fn : Fn) (first cap : Array Value) (w : World), (Instr.makeFunc fn first cap).run Tryd.prog w = .ok (.func fn first cap) w := fun _ _ _ _ => rfl
 obtain ⟨R, hR⟩ : ∃ R, patP src fold (4 * n + 8) [] ⟨0, 0⟩ = R := ⟨_, rfl⟩
 have hcp := compileP_eq src fold n hn hsm
 rw [hR] at hcp
 have hgood : ∀ nd s, R = .ok (nd, s) → GoodN nd := fun nd s e => (reader_good src fold (by omega) _).2.2.2.2 [] ⟨0, 0⟩ (by decide) (by simp) (by simp) (fun _ h => by cases h) nd s (hR.trans e)
 have hx := comp_boxes w (.pointer none) (.int .i64 0) (.int .i64 0)
 have hsz : (((w.alloc (.cells #[.pointer none] 26)).alloc (.cells #[.int .i64 0] 3)).alloc (.cells #[.int .i64 0] 42)).heap.size = w.heap.size + 1 + 1 + 1 := by simp
 generalize hw : ((w.alloc (.cells #[.pointer none] 26)).alloc (.cells #[.int .i64 0] 3)).alloc (.cells #[.int .i64 0] 42) = w3 at *
 obtain ⟨hx0, hx1, hx2, hb3⟩ := hx
 have hrb := one_new w3 (.cells #[.slice sl n c, .int .i64 0, .int .i64 0, .bool fold] 72)
 have hb4 := below_newJ w3 (.cells #[.slice sl n c, .int .i64 0, .int .i64 0, .bool fold] 72)
 have hz4 := size_new w3 (.cells #[.slice sl n c, .int .i64 0, .int .i64 0, .bool fold] 72)
 have HRB := Lib.hid hrb
 have HB4 := Lib.hid hb4
 have HZ4 := Lib.hid hz4
 have HX0 := Lib.hid hx0
 have HX1 := Lib.hid hx1
 have HX2 := Lib.hid hx2
 have HB3 := Lib.hid hb3
 have HS := Lib.hid hs
 have HN := Lib.hid hn
 have HR := Lib.hid hR
 have HCP := Lib.hid hcp
 have HGD := Lib.hid hgood
 clear hrb hb4 hz4 hx0 hx1 hx2 hb3 hs hn hR hcp hgood
 go_enter_defers Tryd.func20, Tryd.ntmps20
 go_wp2_with fail
 have hw34 : w3.heap.size = w.heap.size + 1 + 1 + 1 := hsz
 rw [hw34] at HRB HZ4
 generalize w3.alloc (.cells #[.slice sl n c, .int .i64 0, .int .i64 0, .bool fold] 72) = w4 at HRB HB4 HZ4 ⊢
 have hRd : RdM w4 (w.heap.size + 1 + 1 + 1) sl n c src ⟨0, 0⟩ fold := by
  refine ⟨HRB.out, HN.out, (HS.out.later HB3.out).later HB4.out, fun a ha => ?_, Nat.zero_le _, by omega⟩
  have := hslt a ha
  show a.block ≠ _
  omega
 refine (pattern_all (w.heap.size + 1 + 1 + 1) sl n c src fold (by omega) (4 * n + 8) ⟨0, 0⟩ w4 hRd (by decide) (by simp)).mono ?_
 rintro e w5 ⟨ht, hr⟩
 rw [HR.out] at hr
 have hsrc : ∀ {b : Nat} {t : TypeId} {v : Value}, b ≠ w.heap.size + 1 + 1 + 1 → IsBox w3 b t v → IsBox w5 b t v := fun {b t v} hne hx => (ht.block b (by have := heap_lt hx; have := HB4.out.size; omega) hne).trans (hx.below HB4.out)
 have X0 := Lib.hid (hsrc (by omega) HX0.out)
 have X1 := Lib.hid (hsrc (by omega) HX1.out)
 have X2 := Lib.hid (hsrc (by omega) HX2.out)
 have HB5 := Lib.hid ((HB3.out.trans (HB4.out.mono HB3.out.size)).trans (ht.below (B := w.heap.size) (fun b hb => by omega) (by have := HZ4.out; omega)))
 clear hsrc hRd
 cases R with
 | error k =>
  change e = _ at hr
  subst hr
  refine door_wrong _ w.heap.size (w.heap.size + 1) (w.heap.size + 1 + 1) _ _ _ k w5 _ rfl rfl rfl X0.out X1.out X2.out (by omega) (by omega) (by omega) (fun w' hw' => ⟨HB5.out.trans (hw' _ (Nat.le_refl _) (by omega) (by omega)), ?_⟩)
  rw [HCP.out]
  rfl
 | ok x =>
  obtain ⟨nd, s1⟩ := x
  obtain ⟨⟨v, rfl, hnd⟩, hrd⟩ := hr
  change NdR w5 w4.heap.size w5.heap.size v nd at hnd
  have z1 : w5.cell? ⟨w.heap.size + 1 + 1 + 1, 1, none⟩ = some (.int .i64 s1.at') := block_cell hrd.blk
  have HRd := Lib.hid hrd
  have HND := Lib.hid hnd
  have hG := HGD.out nd s1 rfl
  clear hrd hnd
  by_cases hlt : s1.at' < n
  ·
   have q2 : (s1.at' : Int) < (n : Int) := by omega
   have q3 : IntKind.i64.wrap ((s1.at' : Int) + 1) = (s1.at' : Int) + 1 := by rw [IntKind.wrap_i64]; omega
   have hmk : ∀ w, (Instr.makeInterface 68 (.int .i64 ((s1.at' : Int) + 1))).run Tryd.prog w = .ok (.iface 68 (.int .i64 ((s1.at' : Int) + 1))) w := fun w => by kernel_rfl
   have HLT := Lib.hid hlt
   clear hlt
   go_wp2
   refine door_wrong _ w.heap.size (w.heap.size + 1) (w.heap.size + 1 + 1) _ _ _ (s1.at' + 1) w5 _ rfl rfl rfl X0.out X1.out X2.out (by omega) (by omega) (by omega) (fun w' hw' => ⟨HB5.out.trans (hw' _ (Nat.le_refl _) (by omega) (by omega)), ?_⟩)
   rw [HCP.out]
   unfold compT
   simp only
   rw [if_pos HLT.out]
  ·
   have q2 : ¬ (s1.at' : Int) < (n : Int) := by omega
   have hpm := parts_pm w5 _ _ v nd HND.out hG
   obtain ⟨t, p, f, q, rfl, hm, hf, hc, k0, k1⟩ := hpm
   have HC := Lib.hid (hc 0)
   have HLT := Lib.hid hlt
   obtain ⟨P, hP⟩ : ∃ P, partsP nd = P := ⟨_, rfl⟩
   rw [hP] at k0 k1 HC
   have HPP := Lib.hid hP
   clear hc hlt hP
   go_wp2_with fail
   first | rw [hf, Oper.upon_enter] | rw [Oper.upon_enter] | skip
   refine HC.out.mono ?_
   rintro e w6 ⟨rfl, m, hw6⟩
   have hb6 : Below w5.heap.size w5 w6 := by rw [hw6]; exact below_drewN (below_drewN (Below.refl _ _))
   clear hw6
   have Y0 := Lib.hid (X0.out.below hb6)
   have Y1 := Lib.hid (X1.out.below hb6)
   have Y2 := Lib.hid (X2.out.below hb6)
   have HB6 := Lib.hid (HB5.out.trans (hb6.mono HB5.out.size))
   have HN6 := Lib.hid (HND.out.keep (w' := w6) fun b _ h2 => hb6.block b h2)
   have HE6 := Lib.hid (show w5.heap.size ≤ w6.heap.size from hb6.size)
   have g2 : w6.cell? ⟨w.heap.size + 1 + 1 + 1, 2, none⟩ = some (.int .i64 s1.groups) := block_cell (HRd.out.later hb6).blk
   have z2 := HZ4.out
   have z3 : w4.heap.size ≤ w5.heap.size := ht.size
   have r1 : ¬ w.heap.size = w.heap.size + 1 := by omega
   have r2 : ¬ w.heap.size = w.heap.size + 1 + 1 := by omega
   have r3 : ¬ w.heap.size + 1 = w.heap.size + 1 + 1 := by omega
   have r4 : ¬ w.heap.size + 1 = w.heap.size := by omega
   have r5 : ¬ w.heap.size + 1 + 1 = w.heap.size := by omega
   have r6 : ¬ w.heap.size + 1 + 1 = w.heap.size + 1 := by omega
   have HZ5 := Lib.hid (And.intro z2 z3)
   clear z1 q2 hm hf hb6 X0 X1 X2 HB5 HND HRd ht z2 z3
   by_cases hbig : 4096 < P
   ·
    have y0 := Y0.out.cell.1
    have y1 := Y0.out.cell.2
    have y2 := Y1.out.cell.2
    have y3 := Y2.out.cell.2
    have y4 := Y1.out.cell.1
    have y5 := Y2.out.cell.1
    have HBG := Lib.hid hbig
    go_wp2
    refine comp_door _ w.heap.size (w.heap.size + 1) (w.heap.size + 1 + 1) none _ _ rfl rfl rfl 0 103 (((Y0.out.set _).other (by omega) _).other (by omega) _) ((Y1.out.other (by omega) _).set _ |>.other (by omega) _) ((Y2.out.other (by omega) _).other (by omega) _ |>.set _) ⟨(((HB6.out).setCell (p := ⟨w.heap.size, 0, none⟩) (Nat.le_refl _) _).setCell (p := ⟨w.heap.size + 1, 0, none⟩) (by show w.heap.size ≤ w.heap.size + 1; omega) _).setCell (p := ⟨w.heap.size + 1 + 1, 0, none⟩) (by show w.heap.size ≤ w.heap.size + 1 + 1; omega) _, ?_⟩
    rw [HCP.out]
    unfold compT
    simp only
    rw [if_neg HLT.out, HPP.out, if_pos HBG.out]
    trivial
   ·
    have x0 := Y0.out.cell.1
    have x0f := Y0.out.cell.2
    have hlt6 : w.heap.size < w6.heap.size := heap_lt Y0.out
    have n1 : ¬ w6.heap.size = w.heap.size := by omega
    have n2 : ¬ w.heap.size = w6.heap.size := by omega
    have hmid := comp_mid_g (w6 := w6) (B := w4.heap.size) (E := w5.heap.size) HN6.out Y0.out (by have := HZ5.out; omega) HE6.out s1.groups _ rfl (.pointer (some ⟨w6.heap.size, 0, none⟩))
    rw [World.setCell_alloc_past _ _ _ _ (heap_lt Y0.out)] at hmid
    have HMID := Lib.hid hmid
    have HBG := Lib.hid hbig
    clear hmid
    go_wp2_with fail
    generalize (w6.setCell ⟨w.heap.size, 0, none⟩ (.pointer (some ⟨w6.heap.size, 0, none⟩))).alloc (.cells #[.slice none 0 0, .int .i64 s1.groups, .int .i64 0] 62) = w8 at HMID ⊢
    clear hbig x0 x0f g2 hlt6 n1 n2
    obtain ⟨m1, m2, m3, m4, m5, m6⟩ := HMID.out
    have hsd := size_bd hG (by rw [HPP.out]; have := HBG.out; omega)
    have hdd := (deep_bd hG).2 (by rw [HPP.out]; have := HBG.out; omega) 0
    rw [HPP.out] at hdd
    have hcc := compile_g w4.heap.size w5.heap.size w6.heap.size w6.heap.size (s1.groups : Int) hG (.iface t p) w8 [] 0 0 m2 m1 (by simp; omega) (by have := HBG.out; omega) m6
    rw [List.nil_append, show max 0 (deepA 0 nd) = deepA 0 nd from by omega] at hcc
    refine hcc.mono ?_
    rintro e w9 ⟨rfl, hf9, hp9⟩
    have hzz := HZ5.out
    have he6 := HE6.out
    have X09 := Lib.hid (hf9.blk m3 (by omega))
    have X19 := Lib.hid (hf9.blk (m4 _ _ _ Y1.out (by decide)) (by omega))
    have X29 := Lib.hid (hf9.blk (m4 _ _ _ Y2.out (by decide)) (by omega))
    have HF9 := Lib.hid hf9
    have HP9 := Lib.hid hp9
    have HB9 := Lib.hid (HB6.out.trans ((m5 _ (Nat.le_refl _)).trans (hf9.below.mono (by have := heap_lt Y0.out; omega))))
    have HZ9 := Lib.hid (Nat.le_trans m6 hf9.below.size)
    have hgl := genA_len hG 0
    have HGL := Lib.hid hgl
    clear hcc m1 m2 m3 m4 m5 m6 hf9 hp9 HMID hzz he6 hgl hdd
    have y0 : w9.cell? ⟨w.heap.size, 0, none⟩ = some (.pointer (some ⟨w6.heap.size, 0, none⟩)) := block_cell X09.out
    go_wp2_with fail
    refine (emit_g w9 w4.heap.size w5.heap.size w6.heap.size w6.heap.size (s1.groups : Int) _ _ HP9.out ⟨6, 0, 0, none⟩ none rfl (by rw [List.length_nil, HGL.out]; omega) HZ9.out).mono ?_
    rintro e w10 ⟨rfl, hf10, hp10⟩
    have hzz := HZ5.out
    have he6 := HE6.out
    have X0a := Lib.hid (show IsBox w10 _ _ _ from hf10.blk X09.out (by omega))
    have X1a := Lib.hid (show IsBox w10 _ _ _ from hf10.blk X19.out (by omega))
    have X2a := Lib.hid (show IsBox w10 _ _ _ from hf10.blk X29.out (by omega))
    have HBa := Lib.hid (HB9.out.trans (hf10.below.mono (by have := heap_lt Y0.out; omega)))
    have HPa := Lib.hid hp10
    clear y0 hf10 hp10 X09 X19 X29 HF9 HP9 HB9 hzz he6
    have y0 := X0a.out.cell.1
    have y1 := X0a.out.cell.2
    have y2 := X1a.out.cell.2
    have y3 := X2a.out.cell.2
    have y4 := X1a.out.cell.1
    have y5 := X2a.out.cell.1
    go_wp2
    have hzz := HZ5.out
    have p1 := HPa.out.box X0a.out (by omega) (by decide) (by decide) (.pointer (some ⟨w6.heap.size, 0, none⟩))
    have a0 := X0a.out.set (.pointer (some ⟨w6.heap.size, 0, none⟩))
    have a1 := X1a.out.other (c := w.heap.size) (by omega) (.pointer (some ⟨w6.heap.size, 0, none⟩))
    have a2 := X2a.out.other (c := w.heap.size) (by omega) (.pointer (some ⟨w6.heap.size, 0, none⟩))
    have p2 := p1.box a1 (by omega) (by decide) (by decide) (.int .i64 0)
    have p3 := p2.box (a2.other (c := w.heap.size + 1) (by omega) (.int .i64 0)) (by omega) (by decide) (by decide) (.int .i64 0)
    refine comp_door _ w.heap.size (w.heap.size + 1) (w.heap.size + 1 + 1) (some ⟨w6.heap.size, 0, none⟩) _ _ rfl rfl rfl 0 0 ((a0.other (by omega) _).other (by omega) _) ((a1.set _).other (by omega) _) ((a2.other (c := w.heap.size + 1) (by omega) (.int .i64 0)).set _) ?_
    refine ⟨(((HBa.out).setCell (p := ⟨w.heap.size, 0, none⟩) (Nat.le_refl _) _).setCell (p := ⟨w.heap.size + 1, 0, none⟩) (by show w.heap.size ≤ w.heap.size + 1; omega) _).setCell (p := ⟨w.heap.size + 1 + 1, 0, none⟩) (by show w.heap.size ≤ w.heap.size + 1 + 1; omega) _, ?_⟩
    rw [HCP.out]
    unfold compT
    simp only
    rw [if_neg HLT.out, HPP.out, if_neg (by have := HBG.out; omega)]
    exact ⟨w6.heap.size, w4.heap.size, w5.heap.size, w6.heap.size, rfl, by omega, by have := HE6.out; omega, p3⟩
theorem compile_c (sl : Option Addr) (n c : Nat) (src : List Int) (fold : Bool) (w : World) (hn : src.length = n) (hs : IsInts w sl n (gl src)) (hslt : ∀ a, sl = some a → a.block < w.heap.size) :
  Calls Tryd.prog 20 #[.slice sl n c, .bool fold] w (CompR w src fold) := by
 by_cases h : n ≤ 256
 · exact comp_main sl n c src fold w hn h hs hslt
 · exact comp_long sl n c src fold w hn (by omega)
end Go.Proofs.YtdegdoilpamjjaaDoor
namespace Go.Proofs.YtdegdoilpamjjaaDoor
open Go.RowKit
set_option linter.unusedVariables false
theorem Tryd.infoThreadG : (Tryd.prog.info? 107).map (fun i => (i.zero, i.size, i.bytes)) = some (some (.agg #[.int .i64 0, .int .i64 0, .pointer none]), 3, 24) := by kernel_rfl
theorem Tryd.infoTodoG : (Tryd.prog.info? 128).map (fun i => (i.zero, i.size, i.bytes)) = some (some (.agg #[.int .i64 0, .int .i64 0, .pointer none]), 3, 24) := by kernel_rfl
theorem wpList_push_b {w : World} {ops : Array Oper} {rest : List Oper} {o : Oper} {a : Act} {Q : Exit → Act → World → Prop} {st et : TypeId} {z : Value} {size bytes : Nat} (hu : Tryd.prog.underlying st = some (.slice et))
  (hinfo : (Tryd.prog.info? et).map (fun i => (i.zero, i.size, i.bytes)) = some (some z, size, bytes)) (hzs : z.cells.size = size) (hsz : 0 < size) (hby : bytes ≤ 100)
  (x : List Value) (hx1 : ∀ u ∈ x, u.oneCell' = true) (hxl : x.length = size) (hgd : o.guard = none) (s y : Operand)
  (ho : o.op = .call { callee := .builtin .append, args := #[s, y], argTypes := #[st, st] })
  (base : Nat) (v : Value) (n : Nat) (xs : List Value) (hs : a.eval s = v) (hy : a.eval y = .slice (some ⟨w.heap.size, 0, none⟩) 1 1) (hown : w.ownsRow base et size v n xs) (hn : n < 1000000000000) (hbase : base ≤ w.heap.size)
  (h : ∀ s' c' w', Pushed w w' base et size v n (xs ++ x) s' c' → wpList Tryd.prog ops Q rest (a.put o.dst (.slice s' (n + 1) c')) w') :
  wpList Tryd.prog ops Q (o :: rest) a (w.alloc (.cells x.toArray et)) := by
 obtain ⟨i0, hi, hz0, hz1, hz2⟩ := info_parts hinfo
 have hb1 := below_newJ w (.cells x.toArray et)
 refine wpList_append_own_at _ hgd s y st ho base et i0 z size bytes hu hi hz0 hz1 hz2 hzs hsz v _ _ hs (own_later hown hb1) ⟨w.heap.size, 0, none⟩ 1 1 x hy (by omega) (new_cells _ _) hx1 (by unfold maxLen; omega) ?_ (by simp; omega) ?_
 ·
  have : (n + 1) * bytes ≤ 1000000000000 * 100 := Nat.mul_le_mul (by omega) hby
  omega
 ·
  intro v' w' h2 h3 _ h5
  obtain ⟨s', c', rfl⟩ := own_shape1 h2
  have hgr := World.grownBy.trans (World.grownBy_alloc w _ _) h3
  obtain ⟨p1, p2⟩ := push_leaves hown hgr hbase
  exact h s' c' w' ⟨h2, p1, p2, hgr, by
   rcases h5 with e | e
   · exact .inl e
   · exact .inr ⟨_, e, by simp⟩⟩
theorem step_push_b {w : World} {ops : Array Oper} {o : Oper} {a : Act} {K : Act → World → Prop} {Q : Exit → Act → World → Prop} {E : Prop} {st et : TypeId} {z : Value} {size bytes : Nat} (hu : Tryd.prog.underlying st = some (.slice et))
  (hinfo : (Tryd.prog.info? et).map (fun i => (i.zero, i.size, i.bytes)) = some (some z, size, bytes)) (hzs : z.cells.size = size) (hsz : 0 < size) (hby : bytes ≤ 100)
  (x : List Value) (hx1 : ∀ u ∈ x, u.oneCell' = true) (hxl : x.length = size) (hg : o.guard = none) (s y : Operand)
  (hop : o.op = .call { callee := .builtin .append, args := #[s, y], argTypes := #[st, st] })
  (base : Nat) (v : Value) (n : Nat) (xs : List Value) (hs : a.eval s = v) (hy : a.eval y = .slice (some ⟨w.heap.size, 0, none⟩) 1 1) (hown : w.ownsRow base et size v n xs) (hn : n < 1000000000000) (hbase : base ≤ w.heap.size)
  (h : ∀ s' c' w', Pushed w w' base et size v n (xs ++ x) s' c' → K (a.put o.dst (.slice s' (n + 1) c')) w') :
  if Region.wanted o (yielded ops a.tmps) = true then Oper.wp Tryd.prog o a (w.alloc (.cells x.toArray et)) K Q else E := by
 have hw : Region.wanted o (yielded ops a.tmps) = true := by simp [Region.wanted, hg]
 rw [if_pos hw]
 obtain ⟨i0, hi, hz0, hz1, hz2⟩ := info_parts hinfo
 have hb1 := below_newJ w (.cells x.toArray et)
 obtain ⟨v', w', hr, h2, h3, h4, h5⟩ := run_append_own_at (P := Tryd.prog) (w.alloc (.cells x.toArray et)) base st o.type et i0 z size bytes hu hi hz0 hz1 hz2 hzs hsz v n xs (own_later hown hb1) ⟨w.heap.size, 0, none⟩ 1 1 x (by omega) (new_cells _ _) hx1 (by unfold maxLen; omega) (by have : (n + 1) * bytes ≤ 1000000000000 * 100 := Nat.mul_le_mul (by omega) hby; omega) (by simp; omega)
 obtain ⟨s', c', rfl⟩ := own_shape1 h2
 have hgr := World.grownBy.trans (World.grownBy_alloc w _ _) h3
 obtain ⟨p1, p2⟩ := push_leaves hown hgr hbase
 have hK := h s' c' w' ⟨h2, p1, p2, hgr, by
  rcases h5 with e | e
  · exact .inl e
  · exact .inr ⟨_, e, by simp⟩⟩
 unfold Oper.wp
 simp only [execOp, hop, resolve, invoke, builtin, hs, hy, hr, Result.andThen, Sem.run_bind, Sem.run_pure, List.map_toArray, List.map_cons, List.map_nil]
 exact hK
theorem own_pop {w : World} {base : Nat} {e : TypeId} {size n : Nat} {s : Option Addr} {c : Nat} {xs x : List Value} (h : w.ownsRow base e size (.slice s (n + 1) c) (n + 1) (xs ++ x)) (hx : x.length = size) : w.ownsRow base e size (.slice s n c) n xs := by
 obtain ⟨h1, h2⟩ := h
 rw [List.length_append, hx, Nat.add_mul, Nat.one_mul] at h1
 refine ⟨by omega, ?_⟩
 rcases h2 with ⟨_, h2⟩ | ⟨g, cap, cur, e1, hb, hg, hn, hm, hs, ht⟩
 · omega
 ·
  obtain ⟨rfl, -, rfl⟩ := Value.slice.inj e1
  refine .inr ⟨g, c, cur, rfl, hb, hg, by omega, hm, hs, ?_⟩
  have := congrArg (List.take (n * size)) ht
  rw [List.take_take, Nat.min_eq_left (Nat.mul_le_mul_right _ (Nat.le_succ n)), List.take_left' (by omega)] at this
  exact this
def thV (act : Nat) (fr : Int) (p : Option Addr) : List Value := [.int .i64 act, .int .i64 fr, .pointer p]
def toV (act : Int) (idle : Nat) (p : Option Addr) : List Value := [.int .i64 act, .int .i64 idle, .pointer p]
def ThsR (w : World) (lo : Nat) : List ThD → List Value → Prop
 | [], xs => xs = []
 | t :: l, xs => ∃ p ys, xs = thV t.act t.from' p ++ ys ∧ NoteR w lo p t.notes ∧ ThsR w lo l ys
def StR (w : World) (lo : Nat) : List ToD → List Value → Prop
 | [], xs => xs = []
 | t :: l, xs => ∃ p ys, xs = ys ++ toV t.act t.idle p ∧ NoteR w lo p t.notes ∧ StR w lo l ys
def KeepSl (w w' : World) : Prop := ∀ (b : Nat) (cs : Array Value), w.heap[b]? = some (.cells cs 131 (0, 0)) → w'.heap[b]? = some (.cells cs 131 (0, 0))
theorem ThsR.keep {w w' : World} {lo : Nat} : ∀ {l : List ThD} {xs : List Value}, ThsR w lo l xs → KeepSl w w' → ThsR w' lo l xs
 | [], xs, h, _ => h
 | t :: l, xs, ⟨p, ys, h1, h2, h3⟩, hk => ⟨p, ys, h1, h2.keep hk, h3.keep hk⟩
theorem StR.keep {w w' : World} {lo : Nat} : ∀ {l : List ToD} {xs : List Value}, StR w lo l xs → KeepSl w w' → StR w' lo l xs
 | [], xs, h, _ => h
 | t :: l, xs, ⟨p, ys, h1, h2, h3⟩, hk => ⟨p, ys, h1, h2.keep hk, h3.keep hk⟩
theorem ThsR.push {w : World} {lo : Nat} {t : ThD} {p : Option Addr} (hp : NoteR w lo p t.notes) : ∀ {l : List ThD} {xs : List Value}, ThsR w lo l xs → ThsR w lo (l ++ [t]) (xs ++ thV t.act t.from' p)
 | [], xs, h => by obtain rfl : xs = [] := h; exact ⟨p, [], by simp, hp, rfl⟩
 | u :: l, xs, ⟨q, ys, h1, h2, h3⟩ => ⟨q, ys ++ thV t.act t.from' p, by rw [h1, List.append_assoc], h2, h3.push hp⟩
theorem KeepSl.below {w w' : World} (h : Below w.heap.size w w') : KeepSl w w' := fun b cs h1 => (h.block b (heap_lt h1)).trans h1
theorem KeepSl.oth {T : TypeId} {w w' : World} (h : Oth T w w') (hT : 131 ≠ T) : KeepSl w w' := fun b cs h1 => h b cs _ h1 hT
theorem KeepSl.set {w : World} {p : Addr} {cs : Array Value} {T : TypeId} (v : Value) (h : w.heap[p.block]? = some (.cells cs T (0, 0))) (hT : 131 ≠ T) : KeepSl w (w.setCell p v) := fun b c2 h1 => (Below.heap_setCell _ _ _ _ (type_ne h1 h hT)).trans h1
structure RunG (w0 w : World) (rn sb pb : Nat) (line : Value) (N at' : Nat) (seen : Nat → Nat) (th : List ThD) (sT : Option Addr) (cT : Nat) : Prop where
 below : Below w0.heap.size w0 w
 blk : w.heap[rn]? = some (.cells #[.pointer (some ⟨pb, 0, none⟩), line, .int .i64 at', .slice (some ⟨sb, 0, none⟩) N N, .slice sT th.length cT] 102 (0, 0))
 seen : IRow w sb N (fun i => (seen i : Int))
 own : ∃ xs, w.ownsRow w0.heap.size 107 3 (.slice sT th.length cT) th.length xs ∧ ThsR w w0.heap.size th xs
 rge : w0.heap.size ≤ rn
 sge : w0.heap.size ≤ sb
def AddO (rn sb : Nat) (sA : Value) (b : Nat) : Prop := b = rn ∨ b = sb ∨ sA.ownBlock = some b
structure AddM (w0 wA w : World) (rn sb pb : Nat) (line : Value) (N at' : Nat) (sA : Value) (seen : Nat → Nat) (th : List ThD) (sT : Option Addr) (cT : Nat) (tb : Nat) (t : ToD) (p : Option Addr) (sv : Value) (st : List ToD) : Prop where
 run : RunG w0 w rn sb pb line N at' seen th sT cT
 tch : Touch (AddO rn sb sA) wA w
 obk : (Value.slice sT th.length cT).ownBlock = sA.ownBlock ∨ ∃ b, (Value.slice sT th.length cT).ownBlock = some b ∧ wA.heap.size ≤ b
 tbk : w.heap[tb]? = some (.cells #[.int .i64 t.act, .int .i64 t.idle, .pointer p] 128 (0, 0))
 tge : wA.heap.size ≤ tb
 tn : NoteR w w0.heap.size p t.notes
 stk : ∃ ys, w.ownsRow wA.heap.size 128 3 sv st.length ys ∧ StR w w0.heap.size st ys
 sne : sv.ownBlock ≠ some tb
 wa : w0.heap.size ≤ wA.heap.size
section
variable {w0 wA w w' w3 : World} {rn sb pb : Nat} {line : Value} {N at' : Nat} {sA : Value} {seen : Nat → Nat} {th : List ThD} {sT : Option Addr} {cT : Nat} {tb : Nat} {t : ToD} {p : Option Addr} {sv : Value} {st : List ToD}
theorem RunG.later (h : RunG w0 w rn sb pb line N at' seen th sT cT) (hb : Below w.heap.size w w') : RunG w0 w' rn sb pb line N at' seen th sT cT := by
 obtain ⟨xs, h1, h2⟩ := h.own
 exact ⟨h.below.trans (hb.mono h.below.size), (hb.block _ (heap_lt h.blk)).trans h.blk, h.seen.later hb, ⟨xs, own_later h1 hb, h2.keep (.below hb)⟩, h.rge, h.sge⟩
theorem AddM.later (h : AddM w0 wA w rn sb pb line N at' sA seen th sT cT tb t p sv st) (hb : Below w.heap.size w w') : AddM w0 wA w' rn sb pb line N at' sA seen th sT cT tb t p sv st := by
 obtain ⟨ys, h1, h2⟩ := h.stk
 exact ⟨h.run.later hb, h.tch.trans (Touch.of (O := fun _ => False) hb) (fun _ h => h.elim), h.obk, (hb.block _ (heap_lt h.tbk)).trans h.tbk, h.tge, h.tn.keep (KeepSl.below hb), ⟨ys, own_later h1 hb, h2.keep (.below hb)⟩, h.sne, h.wa⟩
theorem AddM.mark (h : AddM w0 wA w rn sb pb line N at' sA seen th sT cT tb t p sv st) (k : Nat) (v : Int) (hv : v = ((at' + 1 : Nat) : Int)) : AddM w0 wA (w.setCell ⟨sb, k, none⟩ (.int .i64 v)) rn sb pb line N at' sA (markS at' k seen) th sT cT tb t p sv st := by
 subst hv
 obtain ⟨xs, h1, h2⟩ := h.run.own
 obtain ⟨ys, h3, h4⟩ := h.stk
 obtain ⟨cs, hs, _⟩ := id h.run.seen
 have hk : KeepSl w (w.setCell ⟨sb, k, none⟩ (.int .i64 ((at' + 1 : Nat) : Int))) := KeepSl.set (p := ⟨sb, k, none⟩) _ hs (by decide)
 have hoff : ∀ {b : Nat} {c2 : Array Value} {T : TypeId}, w.heap[b]? = some (.cells c2 T (0, 0)) → T ≠ 3 → (w.setCell ⟨sb, k, none⟩ (.int .i64 ((at' + 1 : Nat) : Int))).heap[b]? = w.heap[b]? := fun hb hT => Below.heap_setCell _ ⟨sb, k, none⟩ _ _ (type_ne hb hs hT)
 refine ⟨⟨h.run.below.setCell (p := ⟨sb, k, none⟩) h.run.sge _, (hoff h.run.blk (by decide)).trans h.run.blk, h.run.seen.set k _ (fun i _ => by unfold markS; by_cases e : i = k <;> simp [e]), ⟨xs, own_kept h1 fun b hb => ?_, h2.keep hk⟩, h.run.rge, h.run.sge⟩,
  h.tch.trans (Touch.setCell (AddO rn sb sA) w (p := ⟨sb, k, none⟩) (.inr (.inl rfl)) _) (fun _ h => .inl h), h.obk, (hoff h.tbk (by decide)).trans h.tbk, h.tge, h.tn.keep hk, ⟨ys, own_kept h3 fun b hb => ?_, h4.keep hk⟩, h.sne, h.wa⟩
 ·
  obtain ⟨c2, h5⟩ := own_type h1 hb
  exact hoff h5 (by decide)
 ·
  obtain ⟨c2, h5⟩ := own_type h3 hb
  exact hoff h5 (by decide)
theorem AddM.box (h : AddM w0 wA w rn sb pb line N at' sA seen th sT cT tb t p sv st) (i : Nat) (v : Value) (t' : ToD) (p' : Option Addr) (hc : (#[.int .i64 t.act, .int .i64 t.idle, .pointer p] : Array Value).setIfInBounds i v = #[.int .i64 t'.act, .int .i64 t'.idle, .pointer p']) (hn : NoteR w w0.heap.size p' t'.notes) :
  AddM w0 wA (w.setCell ⟨tb, i, none⟩ v) rn sb pb line N at' sA seen th sT cT tb t' p' sv st := by
 obtain ⟨xs, h1, h2⟩ := h.run.own
 obtain ⟨ys, h3, h4⟩ := h.stk
 obtain ⟨cs, hs, _⟩ := id h.run.seen
 have hk : KeepSl w (w.setCell ⟨tb, i, none⟩ v) := KeepSl.set (p := ⟨tb, i, none⟩) _ h.tbk (by decide)
 have hoff : ∀ {b : Nat} {c2 : Array Value} {T : TypeId}, w.heap[b]? = some (.cells c2 T (0, 0)) → T ≠ 128 → (w.setCell ⟨tb, i, none⟩ v).heap[b]? = w.heap[b]? := fun hb hT => Below.heap_setCell _ ⟨tb, i, none⟩ _ _ (type_ne hb h.tbk hT)
 refine ⟨⟨h.run.below.setCell (p := ⟨tb, i, none⟩) (Nat.le_trans h.wa h.tge) _, (hoff h.run.blk (by decide)).trans h.run.blk, h.run.seen.block (hoff hs (by decide)), ⟨xs, own_kept h1 fun b hb => ?_, h2.keep hk⟩, h.run.rge, h.run.sge⟩,
  h.tch.trans (Touch.setCell (fun b => b = tb) w (p := ⟨tb, i, none⟩) rfl _) (fun x h5 => .inr (by have := h.tge; have : x = tb := h5; omega)), h.obk, by rw [block_set _ h.tbk, hc], h.tge, hn.keep hk, ⟨ys, own_kept h3 fun b hb => ?_, h4.keep hk⟩, h.sne, h.wa⟩
 ·
  obtain ⟨c2, h5⟩ := own_type h1 hb
  exact hoff h5 (by decide)
 · exact Below.heap_setCell _ ⟨tb, i, none⟩ _ _ (fun e => h.sne (by rw [hb]; exact congrArg some e))
theorem AddM.way (h : AddM w0 wA w rn sb pb line N at' sA seen th sT cT tb t p sv st) {xs : List Value} (hxs : ThsR w w0.heap.size th xs) (hown : w.ownsRow w0.heap.size 107 3 (.slice sT th.length cT) th.length xs) (x : ThD) (q : Option Addr) (hq : NoteR w w0.heap.size q x.notes) {s' : Option Addr} {c' : Nat}
  (hp : Pushed w w3 w0.heap.size 107 3 (.slice sT th.length cT) th.length (xs ++ thV x.act x.from' q) s' c') :
  AddM w0 wA (w3.setCell ⟨rn, 4, none⟩ (.slice s' (th.length + 1) c')) rn sb pb line N at' sA seen (th ++ [x]) s' c' tb t p sv st := by
 obtain ⟨ho, hb, hoth, hg, hob⟩ := hp
 obtain ⟨ys, h3, h4⟩ := h.stk
 obtain ⟨cs, hs, hs2, hs3⟩ := id h.run.seen
 have r3 := hoth _ _ _ h.run.blk (by decide)
 have hk3 : KeepSl w w3 := KeepSl.oth hoth (by decide)
 have hk4 : KeepSl w3 (w3.setCell ⟨rn, 4, none⟩ (.slice s' (th.length + 1) c')) := KeepSl.set (p := ⟨rn, 4, none⟩) _ r3 (by decide)
 have hk : KeepSl w (w3.setCell ⟨rn, 4, none⟩ (.slice s' (th.length + 1) c')) := fun b cs h1 => hk4 b cs (hk3 b cs h1)
 have hoff : ∀ {b : Nat} {c2 : Array Value} {T : TypeId}, w.heap[b]? = some (.cells c2 T (0, 0)) → T ≠ 107 → T ≠ 102 → (w3.setCell ⟨rn, 4, none⟩ (.slice s' (th.length + 1) c')).heap[b]? = some (.cells c2 T (0, 0)) := fun hb hT hT2 => (Below.heap_setCell _ ⟨rn, 4, none⟩ _ _ (type_ne (hoth _ _ _ hb hT) r3 hT2)).trans (hoth _ _ _ hb hT)
 have hlen : th.length + 1 = (th ++ [x]).length := by simp
 refine ⟨⟨(h.run.below.trans hb).setCell (p := ⟨rn, 4, none⟩) h.run.rge _, by rw [block_set _ r3, ← hlen]; rfl, ⟨cs, hoff hs (by decide) (by decide), hs2, hs3⟩, ⟨_, ?_, ((hxs.push hq).keep hk)⟩, h.run.rge, h.run.sge⟩, ?_, ?_, hoff h.tbk (by decide) (by decide), h.tge, h.tn.keep hk, ⟨ys, own_kept h3 fun b hb => ?_, h4.keep hk⟩, h.sne, h.wa⟩
 ·
  rw [← hlen]
  refine own_kept ho fun b hb => ?_
  obtain ⟨c2, h5⟩ := own_type ho hb
  exact Below.heap_setCell _ ⟨rn, 4, none⟩ _ _ (type_ne h5 r3 (by decide))
 ·
  refine h.tch.trans (O' := fun b => b = rn ∨ (Value.slice sT th.length cT).ownBlock = some b) ⟨?_, ?_, ?_, ?_, fun k hk1 hk2 => ?_⟩ (fun b hb2 => ?_)
  · exact hg.os
  · exact hg.tape
  · exact hg.output
  ·
   have : (w3.setCell ⟨rn, 4, none⟩ (.slice s' (th.length + 1) c')).heap.size = w3.heap.size := by simp [World.setCell]
   rw [this]; exact hb.size
  · exact (Below.heap_setCell _ ⟨rn, 4, none⟩ _ _ (fun e => hk2 (.inl e))).trans (hg.block k hk1 (fun e => hk2 (.inr e.symm)))
  ·
   rcases hb2 with rfl | hb2
   · exact .inl (.inl rfl)
   ·
    rcases h.obk with e | ⟨b', e, hb'⟩
    · exact .inl (.inr (.inr (e.symm.trans hb2)))
    · rw [e] at hb2; injection hb2 with hb2; exact .inr (by omega)
 ·
  rw [← hlen]
  rcases hob with e | ⟨b', e, hb'⟩
  ·
   rcases h.obk with e2 | ⟨b2, e2, hb2⟩
   · exact .inl (e.trans e2)
   · exact .inr ⟨b2, e.trans e2, hb2⟩
  · exact .inr ⟨b', e, Nat.le_trans h.tch.size hb'⟩
 ·
  obtain ⟨c2, h5⟩ := own_type h3 hb
  exact (hoff h5 (by decide) (by decide)).trans h5.symm
theorem AddM.todo (h : AddM w0 wA w rn sb pb line N at' sA seen th sT cT tb t p sv st) {ys : List Value} (hys : StR w w0.heap.size st ys) (hown : w.ownsRow wA.heap.size 128 3 sv st.length ys) (x : ToD) (q : Option Addr) (hq : NoteR w w0.heap.size q x.notes) {s' : Option Addr} {c' : Nat}
  (hp : Pushed w w3 wA.heap.size 128 3 sv st.length (ys ++ toV x.act x.idle q) s' c') :
  AddM w0 wA w3 rn sb pb line N at' sA seen th sT cT tb t p (.slice s' (st.length + 1) c') (x :: st) := by
 obtain ⟨ho, hb, hoth, hg, hob⟩ := hp
 obtain ⟨xs, h1, h2⟩ := h.run.own
 obtain ⟨cs, hs, hs2, hs3⟩ := id h.run.seen
 have hk : KeepSl w w3 := KeepSl.oth hoth (by decide)
 refine ⟨⟨h.run.below.trans (hb.mono h.wa), hoth _ _ _ h.run.blk (by decide), ⟨cs, hoth _ _ _ hs (by decide), hs2, hs3⟩, ⟨xs, own_kept h1 fun b hb => ?_, h2.keep hk⟩, h.run.rge, h.run.sge⟩, ?_, h.obk, (hg.block tb (heap_lt h.tbk) (fun e => h.sne e.symm)).trans h.tbk, h.tge, h.tn.keep hk, ⟨_, ho, ⟨q, ys, rfl, hq.keep hk, hys.keep hk⟩⟩, ?_, h.wa⟩
 ·
  obtain ⟨c2, h5⟩ := own_type h1 hb
  exact (hoth _ _ _ h5 (by decide)).trans h5.symm
 · refine h.tch.trans (O' := fun b => sv.ownBlock = some b) ⟨hg.os, hg.tape, hg.output, hb.size, fun k hk1 hk2 => hg.block k hk1 (fun e => hk2 e.symm)⟩ (fun b hb2 => .inr ((World.ownsRow.lt hown b hb2).1))
 ·
  rcases hob with e | ⟨b', e, hb'⟩
  · rw [e]; exact h.sne
  ·
   rw [e]
   intro e2
   injection e2 with e2
   have := heap_lt h.tbk
   omega
structure AddS (w0 wA w : World) (rn sb pb : Nat) (line : Value) (N at' : Nat) (sA : Value) (seen : Nat → Nat) (th : List ThD) (sT : Option Addr) (cT : Nat) (sS : Option Addr) (cS : Nat) (st : List ToD) : Prop where
 run : RunG w0 w rn sb pb line N at' seen th sT cT
 tch : Touch (AddO rn sb sA) wA w
 obk : (Value.slice sT th.length cT).ownBlock = sA.ownBlock ∨ ∃ b, (Value.slice sT th.length cT).ownBlock = some b ∧ wA.heap.size ≤ b
 stk : ∃ ys, w.ownsRow wA.heap.size 128 3 (.slice sS st.length cS) st.length ys ∧ StR w w0.heap.size st ys
 wa : w0.heap.size ≤ wA.heap.size
theorem AddM.done {sS : Option Addr} {cS : Nat} (h : AddM w0 wA w rn sb pb line N at' sA seen th sT cT tb t p (.slice sS st.length cS) st) : AddS w0 wA w rn sb pb line N at' sA seen th sT cT sS cS st := ⟨h.run, h.tch, h.obk, h.stk, h.wa⟩
theorem AddS.begin (h : RunG w0 w rn sb pb line N at' seen th sT cT) (act : Int) (p : Option Addr) (notes : List (Int × Int)) (hn : NoteR w w0.heap.size p notes) :
  AddS w0 w (w.alloc (.cells #[.int .i64 act, .int .i64 0, .pointer p] 128)) rn sb pb line N at' (.slice sT th.length cT) seen th sT cT (some ⟨w.heap.size, 0, none⟩) 1 [⟨act, 0, notes⟩] := by
 have hb := below_newJ w (.cells #[.int .i64 act, .int .i64 0, .pointer p] 128)
 refine ⟨h.later hb, Touch.of hb, .inl rfl, ⟨toV act 0 p, ⟨rfl, .inr ⟨w.heap.size, 1, _, rfl, Nat.le_refl _, one_new w _, Nat.le_refl _, by unfold maxLen; omega, rfl, rfl⟩⟩, ⟨p, [], rfl, hn.keep (KeepSl.below hb), rfl⟩⟩, h.below.size⟩
theorem AddS.pop {sS : Option Addr} {cS : Nat} (h : AddS w0 wA w rn sb pb line N at' sA seen th sT cT sS cS (t :: st)) : ∃ g p, sS = some ⟨g, 0, none⟩ ∧ w.cell? ⟨g, st.length * 3, none⟩ = some (.int .i64 t.act) ∧ w.cell? ⟨g, st.length * 3 + 1, none⟩ = some (.int .i64 t.idle) ∧ w.cell? ⟨g, st.length * 3 + 2, none⟩ = some (.pointer p) ∧ st.length ≤ cS ∧
  AddM w0 wA (w.alloc (.cells #[.int .i64 t.act, .int .i64 t.idle, .pointer p] 128)) rn sb pb line N at' sA seen th sT cT w.heap.size t p (.slice sS st.length cS) st := by
 obtain ⟨ys, h1, p, zs, rfl, h2, h3⟩ := h.stk
 have hl : zs.length = st.length * 3 := by
  have := h1.1
  rw [List.length_append, List.length_cons] at this
  have e : (toV t.act t.idle p).length = 3 := rfl
  omega
 have hb := below_newJ w (.cells #[.int .i64 t.act, .int .i64 t.idle, .pointer p] 128)
 have hg : ∃ g, sS = some ⟨g, 0, none⟩ ∧ st.length ≤ cS := by
  rcases h1.2 with ⟨_, e⟩ | ⟨g, cap, cur, e, _, _, hc, _⟩
  · exact absurd e (by simp)
  ·
   obtain ⟨e1, -, e3⟩ := Value.slice.inj e
   exact ⟨g, e1, by rw [e3]; simp at hc; omega⟩
 obtain ⟨g, rfl, hcap⟩ := hg
 have hcell : ∀ j u, j < 3 → (toV t.act t.idle p)[j]? = some u → w.cell? ⟨g, st.length * 3 + j, none⟩ = some u := fun j u hj hu => by
  rw [World.ownsRow.cellAt h1 (st.length * 3 + j) (by simp; omega), List.getElem?_append_right (by omega), hl, Nat.add_sub_cancel_left]
  exact hu
 refine ⟨g, p, rfl, hcell 0 _ (by decide) rfl, hcell 1 _ (by decide) rfl, hcell 2 _ (by decide) rfl, hcap, h.run.later hb, h.tch.trans (Touch.of (O := fun _ => False) hb) (fun _ h => h.elim), h.obk, one_new w _, h.tch.size, h2.keep (KeepSl.below hb), ⟨zs, own_later (own_pop h1 rfl) hb, h3.keep (KeepSl.below hb)⟩, fun e => ?_, h.wa⟩
 have := (World.ownsRow.lt h1 w.heap.size e).2
 omega
end
theorem PaG.cells {w0 : World} {B E base pb : Nat} {groups : Int} {deep : Nat} {acts : List ActD} (h : PaG w0 B E base pb groups deep acts) (hp : 0 < acts.length) : ∃ ga cA, ∀ W, Below w0.heap.size w0 W →
  W.cell? ⟨pb, 0, none⟩ = some (.slice (some ⟨ga, 0, none⟩) acts.length cA) ∧ W.cell? ⟨pb, 2, none⟩ = some (.int .i64 deep) ∧
  ∀ i (hi : i < acts.length), W.cell? ⟨ga, i * 4, none⟩ = some (.int .i64 acts[i].kind) ∧ W.cell? ⟨ga, i * 4 + 1, none⟩ = some (.int .i64 acts[i].x) ∧ W.cell? ⟨ga, i * 4 + 2, none⟩ = some (.int .i64 acts[i].y) ∧ ∃ q, W.cell? ⟨ga, i * 4 + 3, none⟩ = some (.pointer q) ∧ PtrR W B E q acts[i].s := by
 obtain ⟨xs, sA, cA, hx⟩ := h
 obtain ⟨g, cs, rfl, hg, hcs, hne⟩ := hx.block hp
 refine ⟨g, cA, fun W hW => ⟨block_cell ((hW.block pb (heap_lt hx.blk)).trans hx.blk), block_cell ((hW.block pb (heap_lt hx.blk)).trans hx.blk), fun i hi => ?_⟩⟩
 obtain ⟨h0, h1⟩ := hx.acts
 obtain ⟨a1, a2, a3, q, a4, a5⟩ := h1 i hi
 have hc : ∀ j u, j < 4 → xs[i * 4 + j]? = some u → W.cell? ⟨g, i * 4 + j, none⟩ = some u := fun j u hj hu => by
  rw [World.cell?_of_block (w := w0) (hW.block g (heap_lt hcs)), World.ownsRow.cellAt hx.own (i * 4 + j) (by omega)]
  exact hu
 refine ⟨hc 0 _ (by decide) a1, hc 1 _ (by decide) a2, hc 2 _ (by decide) a3, q, hc 3 _ (by decide) a4, a5.keep fun b hb => hW.block b ?_⟩
 have := heap_lt hx.blk
 have := hx.low
 have := hx.le
 omega
end Go.Proofs.YtdegdoilpamjjaaDoor
namespace Go.Proofs.YtdegdoilpamjjaaDoor
open Go.RowKit
set_option linter.unusedVariables false
abbrev mZg : Array Value := #[.int .i64 0, .int .i64 0, .int .i64 0, .int .i64 0, .int .i64 0, .int .i64 0, .int .i64 0, .int .i64 0, .int .i64 0, .int .i64 0, .int .i64 0, .int .i64 0, .int .i64 0, .int .i64 0, .int .i64 0, .int .i64 0, .int .i64 0, .int .i64 0, .int .i64 0, .int .i64 0]
theorem mZg_info : (Tryd.prog.info? 23).map (·.size) = some mZg.size := by
 have h2 : (Tryd.prog.info? 23).map (·.size) = some 20 := by kernel_rfl
 exact h2
theorem mZg_all : mZg.all (·.oneCell') = true := by simp [mZg, Value.oneCell']
def mLg (f : Nat → Int) : Array Value := ((List.range 20).map fun i => Value.int .i64 (f i)).toArray
theorem mLg_at (f : Nat → Int) (i : Nat) (h : i < 20) : (mLg f)[i]? = some (.int .i64 (f i)) := by
 unfold mLg
 simp [h]
theorem mLg_set (f : Nat → Int) (k : Nat) (x : Int) : (mLg f).setIfInBounds k (.int .i64 x) = mLg (fun i => if i = k then x else f i) := by
 apply Array.ext_getElem?
 intro i
 rw [Array.getElem?_setIfInBounds]
 by_cases h : i < 20
 ·
  rw [mLg_at _ i h]
  by_cases e : k = i
  ·
   subst e
   rw [if_pos rfl, if_pos (by unfold mLg; simp [h]), mLg_at _ k h, if_pos rfl]
  · rw [if_neg e, mLg_at _ i h, if_neg (fun h => e h.symm)]
 ·
  have e1 : (mLg f)[i]? = none := by unfold mLg; simp; omega
  have e2 : (mLg (fun i => if i = k then x else f i))[i]? = none := by unfold mLg; simp; omega
  rw [e1, e2]
  by_cases e : k = i
  · rw [if_pos e, if_neg (by unfold mLg; simp; omega)]
  · rw [if_neg e]
theorem mLg_all (f : Nat → Int) : (mLg f).all (·.oneCell') = true := by
 rw [Array.all_eq_true]
 intro i hi
 have h : i < 20 := by unfold mLg at hi; simpa using hi
 have := mLg_at f i h
 rw [Array.getElem?_eq_getElem hi] at this
 injection this with this
 rw [this]
 rfl
theorem mLg_info (f : Nat → Int) : (Tryd.prog.info? 23).map (·.size) = some (mLg f).size := by
 rw [mZg_info]
 unfold mLg
 simp
def mKg (b : BestD) (k : Nat) : Nat → Int := fun i => if i = 0 then b.from' else if i = 1 then (b.to' : Int) else if i < k then noteIn b.notes (i : Int) else 0
theorem mKg_2 (b : BestD) : mLg (mKg b 2) = #[.int .i64 b.from', .int .i64 b.to', .int .i64 0, .int .i64 0, .int .i64 0, .int .i64 0, .int .i64 0, .int .i64 0, .int .i64 0, .int .i64 0, .int .i64 0, .int .i64 0, .int .i64 0, .int .i64 0, .int .i64 0, .int .i64 0, .int .i64 0, .int .i64 0, .int .i64 0, .int .i64 0] := rfl
theorem mKg_step (b : BestD) (k : Nat) (h : 2 ≤ k) : (mLg (mKg b k)).setIfInBounds k (.int .i64 (noteIn b.notes (k : Int))) = mLg (mKg b (k + 1)) := by
 rw [mLg_set]
 congr 1
 funext i
 unfold mKg
 by_cases e : i = k
 ·
  subst e
  rw [if_pos rfl, if_neg (by omega), if_neg (by omega), if_pos (by omega)]
 ·
  rw [if_neg e]
  by_cases e0 : i = 0
  · rw [if_pos e0, if_pos e0]
  ·
   rw [if_neg e0, if_neg e0]
   by_cases e1 : i = 1
   · rw [if_pos e1, if_pos e1]
   ·
    rw [if_neg e1, if_neg e1]
    by_cases e2 : i < k
    · rw [if_pos e2, if_pos (by omega)]
    · rw [if_neg e2, if_neg (by omega)]
theorem row_setg {w : World} {g : Nat} {old : Array Value} {t : TypeId} (cs : Array Value) (h : w.heap[g]? = some (.cells old t (0, 0))) : (w.setRow g cs).heap[g]? = some (.cells cs t (0, 0)) := by
 show (w.heap.modify g _)[g]? = _
 rw [Array.getElem?_modify, if_pos rfl, h]; rfl
theorem row_belowg {w : World} {B g : Nat} (cs : Array Value) (h : B ≤ g) : Below B w (w.setRow g cs) :=
 ⟨rfl, rfl, rfl, by simp [World.setRow], fun k hk => by
  show (w.heap.modify g _)[k]? = _
  rw [Array.getElem?_modify, if_neg (by omega)]⟩
theorem run_resultsg (tmps : Array Value) (g : Nat) (cs : Array Value) (b : Bool) (w : World) (h6 : tmps.getD 6 undef = .pointer (some ⟨g, 0, none⟩)) (h7 : tmps.getD 7 undef = .bool b) (hg : w.heap[g]? = some (.cells cs 23 (0, 0))) (hi : (Tryd.prog.info? 23).map (·.size) = some cs.size) :
  (results Tryd.f32 tmps).run Tryd.prog w = .ok (.tuple #[.agg cs, .bool b]) w := by
 have hl := run_loadVar_row (P := Tryd.prog) w g 23 23 cs (0, 0) _ hg Tryd.underlying23 rfl hi
 simp only [Array.getD_eq_getD_getElem?] at h6 h7
 simp [results, Tryd.results32, h6, h7, asAddr, hl]
section
variable {w0 w w' : World} {rn sb pb : Nat} {line : Value} {N at' : Nat} {seen : Nat → Nat} {th : List ThD} {sT : Option Addr} {cT : Nat}
theorem RunG.begin (w1 : World) (pb N : Nat) (line : Value) :
  RunG w1 ((w1.alloc (.cells (madeCells #[.int .i64 0] N) 3)).alloc (.cells #[.pointer (some ⟨pb, 0, none⟩), line, .int .i64 0, .slice (some ⟨w1.heap.size, 0, none⟩) N N, .slice none 0 0] 102)).drew (w1.heap.size + 1) w1.heap.size pb line N 0 (fun _ => 0) [] none 0 := by
 have hr := row_made w1 N
 have hb := below_newJ w1 (.cells (madeCells #[.int .i64 0] N) 3)
 have hz := size_new w1 (.cells (madeCells #[.int .i64 0] N) 3)
 generalize w1.alloc (.cells (madeCells #[.int .i64 0] N) 3) = w2 at hr hb hz ⊢
 have h2 := one_new w2 (.cells #[.pointer (some ⟨pb, 0, none⟩), line, .int .i64 0, .slice (some ⟨w1.heap.size, 0, none⟩) N N, .slice none 0 0] 102)
 have hb2 := below_newJ w2 (.cells #[.pointer (some ⟨pb, 0, none⟩), line, .int .i64 0, .slice (some ⟨w1.heap.size, 0, none⟩) N N, .slice none 0 0] 102)
 rw [hz] at h2
 exact ⟨(hb.trans (hb2.mono hb.size)).drew, h2, (hr.later hb2).block rfl, ⟨[], World.ownsRow_nil _ _ _ _, rfl⟩, by omega, Nat.le_refl _⟩
theorem RunG.oth (h : RunG w0 w rn sb pb line N at' seen th sT cT) (i : Nat) (v : Value) : Below w0.heap.size w0 (w.setCell ⟨rn, i, none⟩ v) ∧ IRow (w.setCell ⟨rn, i, none⟩ v) sb N (fun i => (seen i : Int)) ∧ KeepSl w (w.setCell ⟨rn, i, none⟩ v) ∧ (∀ {b : Nat} {cs : Array Value} {T : TypeId}, w.heap[b]? = some (.cells cs T (0, 0)) → T ≠ 102 → (w.setCell ⟨rn, i, none⟩ v).heap[b]? = w.heap[b]?) := by
 obtain ⟨cs, hs, _⟩ := id h.seen
 have hoff : ∀ {b : Nat} {c2 : Array Value} {T : TypeId}, w.heap[b]? = some (.cells c2 T (0, 0)) → T ≠ 102 → (w.setCell ⟨rn, i, none⟩ v).heap[b]? = w.heap[b]? := fun hb hT => Below.heap_setCell _ ⟨rn, i, none⟩ _ _ (type_ne hb h.blk hT)
 exact ⟨h.below.setCell (p := ⟨rn, i, none⟩) h.rge _, h.seen.block (hoff hs (by decide)), KeepSl.set (p := ⟨rn, i, none⟩) _ h.blk (by decide), hoff⟩
theorem RunG.setAt (h : RunG w0 w rn sb pb line N at' seen th sT cT) (a : Nat) : RunG w0 (w.setCell ⟨rn, 2, none⟩ (.int .i64 a)) rn sb pb line N a seen th sT cT := by
 obtain ⟨p1, p2, p3, p4⟩ := h.oth 2 (.int .i64 a)
 obtain ⟨xs, h1, h2⟩ := h.own
 refine ⟨p1, by rw [block_set _ h.blk]; rfl, p2, ⟨xs, own_kept h1 fun b hb => ?_, h2.keep p3⟩, h.rge, h.sge⟩
 obtain ⟨c2, h5⟩ := own_type h1 hb
 exact p4 h5 (by decide)
theorem RunG.clear (h : RunG w0 w rn sb pb line N at' seen th sT cT) : RunG w0 (w.setCell ⟨rn, 4, none⟩ (.slice none 0 0)) rn sb pb line N at' seen [] none 0 := by
 obtain ⟨p1, p2, p3, p4⟩ := h.oth 4 (.slice none 0 0)
 exact ⟨p1, by rw [block_set _ h.blk]; rfl, p2, ⟨[], World.ownsRow_nil _ _ _ _, rfl⟩, h.rge, h.sge⟩
theorem ThsR.nth {w : World} {lo : Nat} : ∀ {l : List ThD} {xs : List Value} (h : ThsR w lo l xs) (i : Nat) (hi : i < l.length), ∃ q, xs[i * 3]? = some (.int .i64 l[i].act) ∧ xs[i * 3 + 1]? = some (.int .i64 l[i].from') ∧ xs[i * 3 + 2]? = some (.pointer q) ∧ NoteR w lo q l[i].notes
 | t :: l, xs, ⟨p, ys, e, h1, h2⟩, 0, hi => by subst e; exact ⟨p, rfl, rfl, rfl, h1⟩
 | t :: l, xs, ⟨p, ys, e, h1, h2⟩, i + 1, hi => by
  subst e
  obtain ⟨q, a1, a2, a3, a4⟩ := ThsR.nth h2 i (by simpa using hi)
  have e3 : (thV t.act t.from' p).length = 3 := rfl
  refine ⟨q, ?_, ?_, ?_, a4⟩
  · rw [List.getElem?_append_right (by omega), e3, show (i + 1) * 3 - 3 = i * 3 from by omega]; exact a1
  · rw [List.getElem?_append_right (by omega), e3, show (i + 1) * 3 + 1 - 3 = i * 3 + 1 from by omega]; exact a2
  · rw [List.getElem?_append_right (by omega), e3, show (i + 1) * 3 + 2 - 3 = i * 3 + 2 from by omega]; exact a3
theorem RunG.old (h : RunG w0 w rn sb pb line N at' seen th sT cT) (h0 : 0 < th.length) : ∃ go, sT = some ⟨go, 0, none⟩ ∧ ∀ W, Touch (fun b => b = rn ∨ b = sb) (w.setCell ⟨rn, 4, none⟩ (.slice none 0 0)) W → ∀ i (hi : i < th.length), ∃ q, W.cell? ⟨go, i * 3, none⟩ = some (.int .i64 th[i].act) ∧ W.cell? ⟨go, i * 3 + 1, none⟩ = some (.int .i64 th[i].from') ∧ W.cell? ⟨go, i * 3 + 2, none⟩ = some (.pointer q) ∧ NoteR W w0.heap.size q th[i].notes := by
 obtain ⟨xs, h1, h2⟩ := h.own
 obtain ⟨p1, p2, p3, p4⟩ := h.oth 4 (.slice none 0 0)
 obtain ⟨ics, hs, _⟩ := id h.seen
 have hg : ∃ g, sT = some ⟨g, 0, none⟩ := by
  rcases h1.2 with ⟨_, e⟩ | ⟨g, cap, cur, e, _⟩
  · omega
  · exact ⟨g, (Value.slice.inj e).1⟩
 obtain ⟨go, rfl⟩ := hg
 refine ⟨go, rfl, fun W hW i hi => ?_⟩
 obtain ⟨q, a1, a2, a3, a4⟩ := h2.nth i hi
 obtain ⟨cs, hcs⟩ := own_type h1 (b := go) rfl
 have hsz : (w.setCell ⟨rn, 4, none⟩ (.slice none 0 0)).heap.size = w.heap.size := by simp [World.setCell]
 have hkeep : ∀ {b : Nat} {c2 : Array Value} {T : TypeId}, w.heap[b]? = some (.cells c2 T (0, 0)) → T ≠ 102 → T ≠ 3 → W.heap[b]? = w.heap[b]? := fun {b c2 T} hb hT hT2 => (hW.block b (by rw [hsz]; exact heap_lt hb) (fun e => by
  rcases e with e | e
  · exact type_ne hb h.blk hT e
  · exact type_ne hb hs hT2 e)).trans (p4 hb hT)
 have hc : ∀ j u, j < 3 → xs[i * 3 + j]? = some u → W.cell? ⟨go, i * 3 + j, none⟩ = some u := fun j u hj hu => by
  rw [World.cell?_of_block (w := w) (hkeep hcs (by decide) (by decide)), World.ownsRow.cellAt h1 (i * 3 + j) (by omega)]
  exact hu
 exact ⟨q, hc 0 _ (by decide) a1, hc 1 _ (by decide) a2, hc 2 _ (by decide) a3, a4.keep fun b cs hb => (hkeep hb (by decide) (by decide)).trans hb⟩
end
def BestR (w : World) (lo : Nat) (own : Option Nat) : Option BestD → Value → Value → Prop
 | none, bv, tv => bv = .pointer none ∧ tv = .int .i64 0
 | some b, bv, tv => ∃ bb a q, bv = .pointer (some ⟨bb, 0, none⟩) ∧ tv = .int .i64 (b.to' : Int) ∧ w.heap[bb]? = some (.cells #[.int .i64 a, .int .i64 b.from', .pointer q] 107 (0, 0)) ∧ lo ≤ bb ∧ NoteR w lo q b.notes ∧ own ≠ some bb
theorem BestR.keep {w w' : World} {lo : Nat} {own own' : Option Nat} {b : Option BestD} {bv tv : Value} (h : BestR w lo own b bv tv) (hk : ∀ (x : Nat) (cs : Array Value) (T : TypeId), w.heap[x]? = some (.cells cs T (0, 0)) → (T = 131 ∨ (T = 107 ∧ own ≠ some x)) → w'.heap[x]? = some (.cells cs T (0, 0))) (ho : own' = own ∨ own' = none ∨ ∃ x, own' = some x ∧ w.heap.size ≤ x) : BestR w' lo own' b bv tv := by
 cases b with
 | none => exact h
 | some b =>
  obtain ⟨bb, a, q, h1, h2, h3, h4, h5, h6⟩ := h
  refine ⟨bb, a, q, h1, h2, hk _ _ _ h3 (.inr ⟨rfl, h6⟩), h4, h5.keep fun x cs hx => hk _ _ _ hx (.inl rfl), ?_⟩
  rcases ho with rfl | rfl | ⟨x, rfl, hx⟩
  · exact h6
  · exact fun e => by cases e
  ·
   intro e
   injection e with e
   have := heap_lt h3
   omega
theorem stepP_cons (G : GlyD) (acts : List ActD) (deep : Nat) (line : List Int) (here : Nat) (t : ThD) (old : List ThD) (seen : Nat → Nat) (th : List ThD) (best : Option BestD) (hj : t.act < acts.length) :
  stepP' G acts deep line here (t :: old) seen th best = if acts[t.act].kind = 6 then (seen, th, some ⟨t.from', here, t.notes⟩) else
   if acts[t.act].kind = 0 ∧ here < line.length ∧ takesP G (acts[t.act].s.getD ⟨[], [], false, false⟩) (line.getD here 0) = true then stepP' G acts deep line here old (addAll G acts deep line (here + 1) (t.act + 1 : Nat) t.from' t.notes seen th).1 (addAll G acts deep line (here + 1) (t.act + 1 : Nat) t.from' t.notes seen th).2 best
   else stepP' G acts deep line here old seen th best := by
 rw [stepP']
 have e : acts.getD t.act ⟨6, 0, 0, none⟩ = acts[t.act] := by simp [hj]
 simp only [e]
end Go.Proofs.YtdegdoilpamjjaaDoor
