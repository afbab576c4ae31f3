/- Contract of the pattern's reader: its functions joined, by one induction. Condition: fewer than 900000 ints, no more than nine groups. parts of any node: parts_c. Condition: lists of no more than 10^6, times of no more than 255 (GoodN). Contracts: compile of a set, an edge, a row, a group; above the contract of what lies within. Contracts of the runner's parts, in general: has, takes, in, word, stands. Contract: compile of a choice, above the contract of what lies within. The closure way of again, and again: what they hold. -/
import Derived.BigRegion
import Derived.Test.YtdegdoilpamjjaaDoorCAl
import Derived.Test.YtdegdoilpamjjaaDoorCAh
import Derived.Test.YtdegdoilpamjjaaDoorCAf
import Derived.Test.YtdegdoilpamjjaaDoorCAk
import Derived.Test.YtdegdoilpamjjaaDoorCAi
import Derived.Test.YtdegdoilpamjjaaDoorCAd
namespace Go.Proofs.YtdegdoilpamjjaaDoor
open Go.RowKit
set_option linter.unusedVariables false
theorem member_all (rb : Nat) (sl : Option Addr) (n c : Nat) (src : List Int) (fold : Bool) (hn : n < 900000) : ∀ (f : Nat) (s : RS) (w : World), RdM w rb sl n c src s fold → s.groups ≤ 9 → 4 * (n - s.at') + 6 ≤ f →
  Calls Tryd.prog 54 #[.pointer (some ⟨rb, 0, none⟩)] w (RdP w rb sl n c src fold (memP src fold f s) (fun x w'' v => NdR w'' w.heap.size w''.heap.size v x)) := by
 intro f
 induction f using Nat.strongRecOn with
 | ind f ih =>
  intro s w h hg hf
  obtain ⟨f, rfl⟩ : ∃ g, f = g + 1 := ⟨f - 1, by omega⟩
  refine member_c rb sl n c src s fold w f h (fun w1 h1 => ?_)
  obtain ⟨f, rfl⟩ : ∃ g, f = g + 1 := ⟨f - 1, by omega⟩
  refine thing_c rb sl n c src s fold w1 f h1 hn hg (fun k s2 w2 h2 hat hg2 => ?_)
  obtain ⟨f, rfl⟩ : ∃ g, f = g + 1 := ⟨f - 1, by omega⟩
  refine inside_c rb sl n c src s2 fold w2 f k h2 (fun w3 h3 => ?_)
  have := h3.at'
  refine pattern_c f rb sl n c src s2 fold w3 h3 hn (by omega) hg2 (fun f' s' w' hlt hr hg' hf' => ih f' (by omega) s' w' hr hg' hf')
theorem pattern_all (rb : Nat) (sl : Option Addr) (n c : Nat) (src : List Int) (fold : Bool) (hn : n < 900000) (f : Nat) (s : RS) (w : World) (h : RdM w rb sl n c src s fold) (hg : s.groups ≤ 9) (hf : 4 * (n - s.at') + 8 ≤ f) :
  Calls Tryd.prog 35 #[.pointer (some ⟨rb, 0, none⟩)] w (RdP w rb sl n c src fold (patP src fold f [] s) (fun x w'' v => NdR w'' w.heap.size w''.heap.size v x)) :=
 pattern_c f rb sl n c src s fold w h hn hf hg (fun f' s' w' _ hr hg' hf' => member_all rb sl n c src fold hn f' s' w' hr hg' hf')
end Go.Proofs.YtdegdoilpamjjaaDoor
namespace Go.Proofs.YtdegdoilpamjjaaDoor
open Go.RowKit
set_option linter.unusedVariables false
set_option linter.unusedSimpArgs false
theorem total_0 (sl : Option Addr) (c : Nat) (w : World) : Calls Tryd.prog 129 #[.slice sl 0 c] w fun e w' => e = .returned (.int .i64 0) ∧ ∃ m, w' = w.drewN m := by
 go_enter Tryd.func129, Tryd.ntmps129
 go_wp2_with fail
 go_loopg [3, 8] 0 (fun gg mv iv wr => iv = .int .i64 0 ∧ mv = .int .i64 0 ∧ ∃ d, wr = w.drewN d)
 case atStart => exact ⟨rfl, rfl, 0, rfl⟩
 case round =>
  obtain ⟨rfl, rfl, d, rfl⟩ := hrel
  go_wp2
  go_ret
  exact ⟨rfl, _, rfl⟩
set_option maxRecDepth 100000 in
theorem parts_row0 (b : Nat) (sl : Option Addr) (c : Nat) (w : World) (h : w.heap[b]? = some (.cells #[.slice sl 0 c] 117 (0, 0))) :
  Calls Tryd.prog 130 #[.pointer (some ⟨b, 0, none⟩)] w fun e w' => e = .returned (.int .i64 0) ∧ ∃ m, w' = w.drewN m := by
 have b0 : w.cell? ⟨b, 0, none⟩ = some (.slice sl 0 c) := block_cell h
 clear h
 go_enter Tryd.func130, Tryd.ntmps130
 go_wp2_with fail
 refine (total_0 sl c w).mono ?_
 rintro e w2 ⟨rfl, m, rfl⟩
 go_wp2
 go_ret
 exact ⟨rfl, _, rfl⟩
set_option maxRecDepth 100000 in
set_option maxHeartbeats 2000000 in
theorem partsG_0 (b : Nat) (nv : Value) (k : Int) (w : World) (h : w.heap[b]? = some (.cells #[nv, .int .i64 0] 123 (0, 0))) (hp : PM w nv k) :
  Calls Tryd.prog 132 #[.pointer (some ⟨b, 0, none⟩)] w fun e w' => e = .returned (.int .i64 k) ∧ ∃ m, w' = w.drewN m := by
 obtain ⟨t, p, f, q, rfl, hm, hf, hc, -, -⟩ := hp
 have b0 : w.cell? ⟨b, 0, none⟩ = some (.iface t p) := block_cell h
 have b1 : w.cell? ⟨b, 1, none⟩ = some (.int .i64 0) := block_cell h
 clear h
 go_enter Tryd.func132, Tryd.ntmps132
 go_wp2_with fail
 first | rw [hf, Oper.upon_enter] | rw [Oper.upon_enter] | skip
 refine (hc 0).mono ?_
 rintro e w2 ⟨rfl, m, rfl⟩
 go_wp2
 go_ret
 exact ⟨rfl, m, rfl⟩
set_option maxRecDepth 100000 in
set_option maxHeartbeats 2000000 in
theorem partsG_k (b : Nat) (nv : Value) (k j : Int) (w : World) (h : w.heap[b]? = some (.cells #[nv, .int .i64 j] 123 (0, 0))) (hj : j ≠ 0) (hp : PM w nv k) :
  Calls Tryd.prog 132 #[.pointer (some ⟨b, 0, none⟩)] w fun e w' => e = .returned (.int .i64 (lidP (k + 2))) ∧ ∃ m, w' = w.drewN m := by
 obtain ⟨t, p, f, q, rfl, hm, hf, hc, k0, k1⟩ := hp
 have b0 : w.cell? ⟨b, 0, none⟩ = some (.iface t p) := block_cell h
 have b1 : w.cell? ⟨b, 1, none⟩ = some (.int .i64 j) := block_cell h
 have e0 : (j == 0) = false := by rw [beq_eq_false_iff_ne]; exact hj
 have q1 : IntKind.i64.wrap (k + 2) = k + 2 := by rw [IntKind.wrap_i64]; omega
 clear h
 go_enter Tryd.func132, Tryd.ntmps132
 go_wp2_with fail
 first | rw [hf, Oper.upon_enter] | rw [Oper.upon_enter] | skip
 refine (hc 0).mono ?_
 rintro e w2 ⟨rfl, m, rfl⟩
 go_wp2_with fail
 refine (lid_c _ _).mono ?_
 rintro e w2 ⟨rfl, rfl⟩
 go_wp2
 go_ret
 exact ⟨rfl, m, rfl⟩
set_option maxRecDepth 100000 in
set_option maxHeartbeats 2000000 in
theorem partsA (b : Nat) (nv : Value) (k least most : Int) (lz : Bool) (w : World) (h : w.heap[b]? = some (.cells #[nv, .int .i64 least, .int .i64 most, .bool lz] 142 (0, 0))) (hp : PM w nv k) (h0 : 0 ≤ least) (h1 : least ≤ 255) (h2 : -1 ≤ most) (h3 : most ≤ 255) :
  Calls Tryd.prog 133 #[.pointer (some ⟨b, 0, none⟩)] w fun e w' => e = .returned (.int .i64 (lidP (max (if most < 0 then least + 1 else most) 1 * k + 1))) ∧ ∃ m, w' = w.drewN m := by
 obtain ⟨t, p, f, q, rfl, hm, hf, hc, k0, k1⟩ := hp
 have b0 : w.cell? ⟨b, 0, none⟩ = some (.iface t p) := block_cell h
 have b1 : w.cell? ⟨b, 1, none⟩ = some (.int .i64 least) := block_cell h
 have b2 : w.cell? ⟨b, 2, none⟩ = some (.int .i64 most) := block_cell h
 obtain ⟨x, hx⟩ : ∃ x, (if most < 0 then least + 1 else most) = x := ⟨_, rfl⟩
 obtain ⟨y, hy⟩ : ∃ y, max x 1 = y := ⟨_, rfl⟩
 have hy1 : (if x < 1 then 1 else x) = y := by rw [← hy]; split <;> omega
 rw [hx, hy]
 have hy0 : 1 ≤ y ∧ y ≤ 256 := by
  have : x ≤ 256 := by rw [← hx]; split <;> omega
  omega
 have hyk0 : 0 ≤ y * k := Int.mul_nonneg (by omega) k0
 have hyk : y * k ≤ 256 * 4097 := Int.mul_le_mul hy0.2 k1 k0 (by omega)
 have q1 : IntKind.i64.wrap (y * k) = y * k := by rw [IntKind.wrap_i64]; omega
 have q2 : IntKind.i64.wrap (y * k + 1) = y * k + 1 := by rw [IntKind.wrap_i64]; omega
 have q3 : IntKind.i64.wrap (least + 1) = least + 1 := by rw [IntKind.wrap_i64]; omega
 have HY := Lib.hid hy
 clear h hy hyk hyk0
 by_cases hn : most < 0
 ·
  rw [if_pos hn] at hx
  subst hx
  obtain rfl : y = least + 1 := by have := HY.out; omega
  go_enter Tryd.func133, Tryd.ntmps133
  go_wp2_with fail
  try rw [hy1]
  first | rw [hf, Oper.upon_enter] | rw [Oper.upon_enter] | skip
  refine (hc 0).mono ?_
  rintro e w2 ⟨rfl, m, rfl⟩
  go_wp2_with fail
  refine (lid_c _ _).mono ?_
  rintro e w2 ⟨rfl, rfl⟩
  go_wp2
  go_ret
  exact ⟨rfl, m, rfl⟩
 ·
  rw [if_neg hn] at hx
  subst hx
  go_enter Tryd.func133, Tryd.ntmps133
  go_wp2_with fail
  try rw [hy1]
  first | rw [hf, Oper.upon_enter] | rw [Oper.upon_enter] | skip
  refine (hc 0).mono ?_
  rintro e w2 ⟨rfl, m, rfl⟩
  go_wp2_with fail
  refine (lid_c _ _).mono ?_
  rintro e w2 ⟨rfl, rfl⟩
  go_wp2
  go_ret
  exact ⟨rfl, m, rfl⟩
theorem SlR.cells {w : World} {B E : Nat} {v : Value} {vs : List Value} (h : SlR w B E 1 v vs) : (vs.length = 0 ∧ ∃ sl c, v = .slice sl 0 c) ∨ ∃ g off c, v = .slice (some ⟨g, off, none⟩) vs.length c ∧ 0 < vs.length ∧ ∀ i (hi : i < vs.length), w.cell? ⟨g, off + i, none⟩ = some vs[i] := by
 obtain ⟨sl, n, c, rfl, h2, h3⟩ := h
 rw [Nat.mul_one] at h2
 by_cases h0 : vs.length = 0
 · exact .inl ⟨h0, sl, c, by rw [h2, h0]⟩
 ·
  rcases h3 with h3 | ⟨g, off, cs, t, rw', rfl, _, _, h7, h8⟩
  · exact absurd h3 h0
  ·
   refine .inr ⟨g, off, c, by rw [h2], by omega, fun i hi => ?_⟩
   have := h8 i hi
   rw [List.getElem?_eq_getElem hi] at this
   simp [World.cell?, h7, this]
theorem partsP_nn : ∀ (ks : List Nd) (t : Int), totalP ks t = sumP (ks.map partsP) t
 | [], t => by rw [totalP]; rfl
 | n :: l, t => by rw [totalP, partsP_nn l]; rfl
theorem parts_bd (n : Nd) (h : GoodN n) : 0 ≤ partsP n ∧ partsP n ≤ 4097 := by
 induction h with
 | set => rw [partsP]; omega
 | edge => rw [partsP]; omega
 | row l hl h ih =>
  rw [partsP, partsP_nn]
  exact sumP_bound _ _ (by decide) (fun k hk => by obtain ⟨m, hm, rfl⟩ := List.mem_map.mp hk; exact (ih m hm).1)
 | choice l h0 hl h ih =>
  rw [partsP, partsP_nn]
  have := sumP_bound (l.map partsP) 0 (by decide) (fun k hk => by obtain ⟨m, hm, rfl⟩ := List.mem_map.mp hk; exact (ih m hm).1)
  unfold lidP
  omega
 | group n k h0 h9 h ih =>
  rw [partsP]
  split
  · exact ih
  · unfold lidP; omega
 | again n least most lz h0 h1 h2 h3 h4 h ih =>
  rw [partsP]
  have : 0 ≤ max (if most < 0 then least + 1 else most) 1 * partsP n := Int.mul_nonneg (by omega) ih.1
  unfold lidP
  omega
theorem parts_pm (w : World) (B E : Nat) (v : Value) (n : Nd) (h : NdR w B E v n) (hg : GoodN n) : PM w v (partsP n) := by
 induction h with
 | set b v1 v2 ranges kinds not fold hb hE h h1 h2 =>
  rw [partsP]
  exact ⟨_, _, _, _, rfl, fun w => parts_m_set _ w, fun w => parts_f_set _ w, fun m => (parts_set _ _).mono (fun e w' ⟨h1, h2⟩ => ⟨h1, 0, h2.trans rfl⟩), by decide, by decide⟩
 | edge b what hb hE h =>
  rw [partsP]
  exact ⟨_, _, _, _, rfl, fun w => parts_m_edge _ w, fun w => parts_f_edge _ w, fun m => (parts_edge _ _).mono (fun e w' ⟨h1, h2⟩ => ⟨h1, 0, h2.trans rfl⟩), by decide, by decide⟩
 | row b v1 vs l hb hE h h1 hl h2 ih =>
  have hbd := parts_bd _ hg
  cases hg with
  | row _ hlen hgd =>
  refine ⟨_, _, _, _, rfl, fun w => parts_m_row _ w, fun w => parts_f_row _ w, fun m => ?_, hbd.1, hbd.2⟩
  rw [partsP, partsP_nn]
  rcases h1.cells with ⟨hz, sl, c, rfl⟩ | ⟨g, off, c, rfl, hpos, hc⟩
  ·
   have hl0 : l = [] := List.eq_nil_of_length_eq_zero (by omega)
   subst hl0
   exact parts_row0 b sl c (w.drewN m) h
  ·
   exact parts_row b g off c vs (l.map partsP) (w.drewN m) h (by simp [hl]) (by omega) (fun i hi => hc i hi) (fun i hi hj => by
    rw [List.getElem_map]
    exact (ih i hi (by omega) (hgd _ (List.getElem_mem _))).drewN m)
 | choice b v1 vs l hb hE h h1 hl h2 hcp ih =>
  have hbd := parts_bd _ hg
  cases hg with
  | choice _ h0 hlen hgd =>
  refine ⟨_, _, _, _, rfl, fun w => parts_m_choice _ w, fun w => parts_f_choice _ w, fun m => ?_, hbd.1, hbd.2⟩
  rw [partsP, partsP_nn, ← hl]
  rcases h1.cells with ⟨hz, sl, c, rfl⟩ | ⟨g, off, c, rfl, hpos, hc⟩
  · omega
  ·
   exact parts_choice b g off c vs (l.map partsP) (w.drewN m) h (by simp [hl]) (by omega) (fun i hi => hc i hi) (fun i hi hj => by
    rw [List.getElem_map]
    exact (ih i hi (by omega) (hgd _ (List.getElem_mem _))).drewN m) (sumP_bound _ _ (by decide) (fun k hk => by obtain ⟨m, hm, rfl⟩ := List.mem_map.mp hk; exact (parts_bd m (hgd m hm)).1))
 | group b v1 n number hb hE h h1 ih =>
  have hbd := parts_bd _ hg
  cases hg with
  | group _ _ h0 h9 hgd =>
  refine ⟨_, _, _, _, rfl, fun w => parts_m_group _ w, fun w => parts_f_group _ w, fun m => ?_, hbd.1, hbd.2⟩
  rw [partsP]
  split
  ·
   rename_i hz
   subst hz
   exact partsG_0 b v1 _ (w.drewN m) h ((ih hgd).drewN m)
  ·
   rename_i hz
   exact partsG_k b v1 _ number (w.drewN m) h hz ((ih hgd).drewN m)
 | again b v1 n least most lazy hb hE h h1 ih =>
  have hbd := parts_bd _ hg
  cases hg with
  | again _ _ _ _ h0 h1 h2 h3 h4 hgd =>
  refine ⟨_, _, _, _, rfl, fun w => parts_m_again _ w, fun w => parts_f_again _ w, fun m => ?_, hbd.1, hbd.2⟩
  rw [partsP]
  exact partsA b v1 _ least most lazy (w.drewN m) h ((ih hgd).drewN m) h0 h1 h2 h3
end Go.Proofs.YtdegdoilpamjjaaDoor
namespace Go.Proofs.YtdegdoilpamjjaaDoor
open Go.RowKit
set_option linter.unusedVariables false
set_option linter.unusedSimpArgs false
def CompK (B E base pb : Nat) (groups : Int) (n : Nd) : Prop :=
 ∀ (v : Value) (w : World) (l : List ActD) (dp d : Nat), NdR w B E v n → PaG w B E base pb groups dp l → l.length + sizeA n < 100000000 → deepA d n < 1000000 → base ≤ w.heap.size →
  Calls Tryd.prog 36 #[.pointer (some ⟨pb, 0, none⟩), v, .int .i64 d] w fun e w' =>
   e = .returned (.tuple #[]) ∧ FrA base w w' ∧ PaG w' B E base pb groups (max dp (deepA d n)) (l ++ genA n l.length)
theorem SlR.at' {w : World} {B E : Nat} {v : Value} {vs : List Value} (h : SlR w B E 1 v vs) : ∃ sl c, v = .slice sl vs.length c ∧ (0 < vs.length → ∃ g off, sl = some ⟨g, off, none⟩) := by
 rcases h.cells with ⟨hz, sl, c, rfl⟩ | ⟨g, off, c, rfl, hpos, hc⟩
 · exact ⟨sl, c, by rw [hz], fun h => by omega⟩
 · exact ⟨_, c, rfl, fun _ => ⟨g, off, rfl⟩⟩
theorem SlR.cell1 {w : World} {B E g off m c : Nat} {vs : List Value} (h : SlR w B E 1 (.slice (some ⟨g, off, none⟩) m c) vs) {i : Nat} (hi : i < vs.length) : w.cell? ⟨g, off + i, none⟩ = some vs[i] := by
 rcases h.cells with ⟨hz, sl, c', h1⟩ | ⟨g', off', c', h1, hpos, hc⟩
 · omega
 ·
  obtain ⟨h2, -, -⟩ := Value.slice.inj h1
  injection h2 with h2
  injection h2 with h3 h4 _
  subst h3 h4
  exact hc i hi
theorem FrA.node {base : Nat} {w w' : World} (h : FrA base w w') {B E : Nat} {v : Value} {n : Nd} (hn : NdR w B E v n) (hE : E ≤ base) : NdR w' B E v n := hn.keep fun b _ h2 => h.below.block b (by omega)
theorem FrA.slr {base : Nat} {w w' : World} (h : FrA base w w') {B E k : Nat} {v : Value} {vs : List Value} (hn : SlR w B E k v vs) (hE : E ≤ base) : SlR w' B E k v vs := hn.keep fun b _ h2 => h.below.block b (by omega)
theorem FrA.blk {base : Nat} {w w' : World} (h : FrA base w w') {b : Nat} {o : Obj} (hb : w.heap[b]? = some o) (hE : b < base) : w'.heap[b]? = some o := (h.below.block b hE).trans hb
theorem PaG.le {w : World} {B E base pb : Nat} {groups : Int} {dp : Nat} {l : List ActD} (h : PaG w B E base pb groups dp l) : E ≤ base := by
 obtain ⟨_, _, _, h⟩ := h
 exact h.le
theorem max_if' (a b : Nat) : (if a < b then (b : Int) else (a : Int)) = ((max a b : Nat) : Int) := by split <;> omega
theorem PaG.start {w : World} {B E base pb : Nat} {groups : Int} {dp : Nat} {l : List ActD} (h : PaG w B E base pb groups dp l) (d : Nat) (hbase : base ≤ w.heap.size) :
  ∃ M : Nat, M = max dp d ∧ (if dp < d then (d : Int) else (dp : Int)) = (M : Int) ∧
  w.cell? ⟨pb, 2, none⟩ = some (.int .i64 dp) ∧ w.frozen? ⟨pb, 2, none⟩ = false ∧ PaG (w.setCell ⟨pb, 2, none⟩ (.int .i64 M)) B E base pb groups M l ∧ FrA base w (w.setCell ⟨pb, 2, none⟩ (.int .i64 M)) ∧ base ≤ (w.setCell ⟨pb, 2, none⟩ (.int .i64 M)).heap.size := by
 obtain ⟨xs, sA, cA, h⟩ := h
 obtain ⟨h1, h2⟩ := h.deep (max dp d)
 exact ⟨_, rfl, max_if' dp d, block_cell h.blk, block_free h.blk, ⟨xs, sA, cA, h1⟩, h2, by simpa [World.setCell] using hbase⟩
theorem as_edge_set (v : Value) (w : World) : (Instr.typeAssert (.iface 118 v) 74 78 true).run Tryd.prog w = .ok (.tuple #[.pointer none, .bool false]) w := by kernel_rfl
theorem as_edge_edge (v : Value) (w : World) : (Instr.typeAssert (.iface 118 v) 74 118 true).run Tryd.prog w = .ok (.tuple #[v, .bool true]) w := by kernel_rfl
theorem as_group_set (v : Value) (w : World) : (Instr.typeAssert (.iface 121 v) 74 78 true).run Tryd.prog w = .ok (.tuple #[.pointer none, .bool false]) w := by kernel_rfl
theorem as_group_edge (v : Value) (w : World) : (Instr.typeAssert (.iface 121 v) 74 118 true).run Tryd.prog w = .ok (.tuple #[.pointer none, .bool false]) w := by kernel_rfl
theorem as_group_row (v : Value) (w : World) : (Instr.typeAssert (.iface 121 v) 74 115 true).run Tryd.prog w = .ok (.tuple #[.pointer none, .bool false]) w := by kernel_rfl
theorem as_group_choice (v : Value) (w : World) : (Instr.typeAssert (.iface 121 v) 74 111 true).run Tryd.prog w = .ok (.tuple #[.pointer none, .bool false]) w := by kernel_rfl
theorem as_group_group (v : Value) (w : World) : (Instr.typeAssert (.iface 121 v) 74 121 true).run Tryd.prog w = .ok (.tuple #[v, .bool true]) w := by kernel_rfl
theorem as_again_set (v : Value) (w : World) : (Instr.typeAssert (.iface 124 v) 74 78 true).run Tryd.prog w = .ok (.tuple #[.pointer none, .bool false]) w := by kernel_rfl
theorem as_again_edge (v : Value) (w : World) : (Instr.typeAssert (.iface 124 v) 74 118 true).run Tryd.prog w = .ok (.tuple #[.pointer none, .bool false]) w := by kernel_rfl
theorem as_again_row (v : Value) (w : World) : (Instr.typeAssert (.iface 124 v) 74 115 true).run Tryd.prog w = .ok (.tuple #[.pointer none, .bool false]) w := by kernel_rfl
theorem as_again_choice (v : Value) (w : World) : (Instr.typeAssert (.iface 124 v) 74 111 true).run Tryd.prog w = .ok (.tuple #[.pointer none, .bool false]) w := by kernel_rfl
theorem as_again_group (v : Value) (w : World) : (Instr.typeAssert (.iface 124 v) 74 121 true).run Tryd.prog w = .ok (.tuple #[.pointer none, .bool false]) w := by kernel_rfl
theorem as_again_again (v : Value) (w : World) : (Instr.typeAssert (.iface 124 v) 74 124 true).run Tryd.prog w = .ok (.tuple #[v, .bool true]) w := by kernel_rfl
set_option maxRecDepth 100000 in
set_option maxHeartbeats 4000000 in
theorem compile_set_g (B E base pb : Nat) (groups : Int) (r : List (Int × Int)) (k : List Int) (nt fd : Bool) : CompK B E base pb groups (.set r k nt fd) := by
 intro v w l dp d hn hp hsz hd hbase
 obtain ⟨M, hM, hmx, b2, f2, h1, h2, h3⟩ := hp.start d hbase
 have hle := hp.le
 have hn1 := h2.node hn hle
 have HP := Lib.hid h1
 have HF := Lib.hid h2
 have HZ := Lib.hid h3
 have HN := Lib.hid hn1
 rw [sizeA] at hsz
 have HMM := Lib.hid hM
 clear hM
 cases hn with
 | set b v1 v2 _ _ _ _ hb hE h h1 h2 =>
 clear h h1 h2 h3 hn1 hp
 have as1 := as_set_set
 go_enter Tryd.func36, Tryd.ntmps36
 go_wp2_with fail
 generalize w.setCell ⟨pb, 2, none⟩ (.int .i64 M) = w1 at HP HF HZ HN ⊢
 refine (emit_g w1 B E base pb groups M l HP.out ⟨0, 0, 0, some ⟨r, k, nt, fd⟩⟩ (some ⟨b, 0, none⟩) HN.out (by omega) HZ.out).mono ?_
 rintro e w2 ⟨rfl, hf, hp⟩
 have HF2 := Lib.hid (HF.out.trans hf)
 have HP2 := Lib.hid hp
 clear hf hp
 go_wp2
 go_end0
 refine ⟨rfl, HF2.out, ?_⟩
 have := HP2.out
 rw [HMM.out] at this
 exact this
set_option maxRecDepth 100000 in
set_option maxHeartbeats 4000000 in
theorem compile_edge_g (B E base pb : Nat) (groups : Int) (what : Int) : CompK B E base pb groups (.edge what) := by
 intro v w l dp d hn hp hsz hd hbase
 obtain ⟨M, hM, hmx, b2, f2, h1, h2, h3⟩ := hp.start d hbase
 have hle := hp.le
 have HP := Lib.hid h1
 have HF := Lib.hid h2
 have HZ := Lib.hid h3
 rw [sizeA] at hsz
 have HMM := Lib.hid hM
 clear hM
 cases hn with
 | edge b _ hb hE h =>
 have e0 : (w.setCell ⟨pb, 2, none⟩ (.int .i64 M)).cell? ⟨b, 0, none⟩ = some (.int .i64 what) := block_cell (h2.blk h (by omega))
 clear h h1 h2 h3 hp
 have as1 := as_edge_set
 have as2 := as_edge_edge
 go_enter Tryd.func36, Tryd.ntmps36
 go_upto_region 5 with (fail)
 generalize w.setCell ⟨pb, 2, none⟩ (.int .i64 M) = w1 at HP HF HZ e0 ⊢
 go_wp2_with fail
 refine (emit_g w1 B E base pb groups M l HP.out ⟨1, what, 0, none⟩ none rfl (by omega) HZ.out).mono ?_
 rintro e w2 ⟨rfl, hf, hp⟩
 have HF2 := Lib.hid (HF.out.trans hf)
 have HP2 := Lib.hid hp
 clear hf hp
 go_wp2
 go_end0
 refine ⟨rfl, HF2.out, ?_⟩
 have := HP2.out
 rw [HMM.out] at this
 exact this
set_option maxRecDepth 100000 in
set_option maxHeartbeats 4000000 in
theorem compile_row_g (B E base pb : Nat) (groups : Int) (ns : List Nd) (hG : ∀ m ∈ ns, GoodN m) (hlen : ns.length ≤ 1000000) (ih : ∀ m ∈ ns, CompK B E base pb groups m) : CompK B E base pb groups (.row ns) := by
 intro v w l dp d hn hp hsz hd hbase
 obtain ⟨M, hM, hmx, b2, f2, h1, h2, h3⟩ := hp.start d hbase
 have hle := hp.le
 have HP := Lib.hid h1
 have HF := Lib.hid h2
 have HZ := Lib.hid h3
 rw [sizeA] at hsz
 rw [deepA] at hd ⊢
 rw [genA]
 have HMM := Lib.hid hM
 clear hM
 cases hn with
 | row b v1 vs _ hb hE h hsl hl hnn =>
 obtain ⟨sl, c, rfl, hsl2⟩ := hsl.at'
 have e0 : (w.setCell ⟨pb, 2, none⟩ (.int .i64 M)).cell? ⟨b, 0, none⟩ = some (.slice sl vs.length c) := block_cell (h2.blk h (by omega))
 have HS := Lib.hid (h2.slr hsl hle)
 have HN := Lib.hid (fun i hi hj => h2.node (hnn i hi hj) hle)
 have HS2 := Lib.hid hsl2
 have HL := Lib.hid hl
 have HI := Lib.hid ih
 have HG := Lib.hid hG
 obtain ⟨m, hm⟩ : ∃ m, vs.length = m := ⟨_, rfl⟩
 have HM := Lib.hid hm
 rw [hm] at e0
 clear h h1 h2 h3 hp hsl hnn hl ih hsl2 hG hm
 have as1 := as_row_set
 have as2 := as_row_edge
 have as3 := as_row_row
 go_enter Tryd.func36, Tryd.ntmps36
 go_upto_region 8 with (fail)
 generalize w.setCell ⟨pb, 2, none⟩ (.int .i64 M) = w1 at HP HF HZ HS HN e0 ⊢
 go_wp2_with fail
 go_loopg [55] m (fun gg iv wr => ∃ (k : Nat), k + gg = m ∧ iv = .int .i64 k ∧ FrA base w1 wr ∧ PaG wr B E base pb groups (max M (deepL d (ns.take k))) (l ++ genR (ns.take k) l.length))
 case atStart =>
  refine ⟨0, by omega, rfl, FrA.refl _ _, ?_⟩
  have e : max M (deepL d (ns.take 0)) = M := by rw [List.take_zero, deepL, HMM.out]; omega
  rw [e]
  simpa [genR] using HP.out
 case round =>
  obtain ⟨k, hk, rfl, hf, hp⟩ := hrel
  have HF1 := Lib.hid hf
  have HP2 := Lib.hid hp
  clear hf hp e0
  by_cases hlt : k < m
  ·
   have hkv : k < vs.length := by rw [HM.out]; exact hlt
   have hkn : k < ns.length := by rw [← HL.out]; exact hkv
   obtain ⟨g, off, rfl⟩ := HS2.out (by omega)
   have c0 := (HF1.out.slr HS.out hle).cell1 hkv
   have HNK := Lib.hid (HF1.out.node (HN.out k hkv hkn) hle)
   have hst := sizeL_take ns k hkn
   have hgl : (l ++ genR (ns.take k) l.length).length = l.length + sizeL (ns.take k) := by
    rw [List.length_append, genR_len _ _ (fun m hm b => genA_len (HG.out m (List.mem_of_mem_take hm)) b)]
   have e1 : genR (ns.take (k + 1)) l.length = genR (ns.take k) l.length ++ genA ns[k] (l.length + sizeL (ns.take k)) := by rw [List.take_succ_eq_append_getElem hkn, genR_snoc]
   have e2 : deepL d (ns.take (k + 1)) = max (deepL d (ns.take k)) (deepA d ns[k]) := by rw [List.take_succ_eq_append_getElem hkn, deepL_snoc]
   have hdm := deepL_mem d ns ns[k] (List.getElem_mem _)
   have hcall := HI.out ns[k] (List.getElem_mem _) vs[k] wr _ _ d HNK.out HP2.out (by rw [hgl]; omega) (by omega) (Nat.le_trans HZ.out HF1.out.below.size)
   rw [hgl, List.append_assoc, ← e1, Nat.max_assoc, ← e2] at hcall
   have HC := Lib.hid hcall
   have q1 : (k : Int) < (m : Int) := by omega
   have q2 : (0 : Int) ≤ (k : Int) := by omega
   have q3 : IntKind.i64.wrap ((k : Int) + 1) = ((k + 1 : Nat) : Int) := by rw [IntKind.wrap_i64]; have := HL.out; have := HM.out; omega
   have HK := Lib.hid hk
   have HLT := Lib.hid hlt
   generalize vs[k] = vk at c0 HC
   clear hcall e1 e2 hdm hgl hst hk hlt hsz hd
   go_wp2_with fail
   refine HC.out.mono ?_
   rintro e w3 ⟨rfl, hf, hp⟩
   have HF3 := Lib.hid (HF1.out.trans hf)
   have HP3 := Lib.hid hp
   clear hf hp
   go_wp2
   go_roundg (gk - 1)
   case measure => have := HK.out; have := HLT.out; omega
   case rel => exact ⟨k + 1, by have := HK.out; have := HLT.out; omega, by go_num, HF3.out, HP3.out⟩
  ·
   obtain rfl : m = k := by omega
   have HK := Lib.hid hk
   clear hk
   go_wp2
   go_end0
   refine ⟨rfl, HF.out.trans HF1.out, ?_⟩
   have := HP2.out
   rw [List.take_of_length_le (by rw [← HL.out, HM.out]; exact Nat.le_refl _), HMM.out, show max (max dp d) (deepL d ns) = max dp (deepL d ns) from by have := deepL_le d ns; omega] at this
   exact this
set_option maxRecDepth 100000 in
set_option maxHeartbeats 4000000 in
theorem compile_group_g (B E base pb : Nat) (groups : Int) (n : Nd) (j : Int) (hj : 0 ≤ j) (hj9 : j ≤ 9) (hG : GoodN n) (ih : CompK B E base pb groups n) : CompK B E base pb groups (.group n j) := by
 intro v w l dp d hn hp hsz hd hbase
 obtain ⟨M, hM, hmx, b2, f2, h1, h2, h3⟩ := hp.start d hbase
 have hle := hp.le
 have HP := Lib.hid h1
 have HF := Lib.hid h2
 have HZ := Lib.hid h3
 rw [sizeA] at hsz
 rw [deepA] at hd ⊢
 rw [genA]
 have hdd := le_deepA hG d
 have hgl := genA_len hG
 have HMM := Lib.hid hM
 clear hM
 cases hn with
 | group b v1 _ _ hb hE h hnn =>
 have e0 : (w.setCell ⟨pb, 2, none⟩ (.int .i64 M)).cell? ⟨b, 0, none⟩ = some v1 := block_cell (h2.blk h (by omega))
 have e1 : (w.setCell ⟨pb, 2, none⟩ (.int .i64 M)).cell? ⟨b, 1, none⟩ = some (.int .i64 j) := block_cell (h2.blk h (by omega))
 have HB := Lib.hid (h2.blk h (by omega))
 have HN := Lib.hid (h2.node hnn hle)
 have HI := Lib.hid ih
 have HGL := Lib.hid hgl
 clear h h1 h2 h3 hp hnn ih hG hgl
 have as1 := as_group_set
 have as2 := as_group_edge
 have as3 := as_group_row
 have as4 := as_group_choice
 have as5 := as_group_group
 by_cases h0 : 0 < j
 ·
  rw [if_pos h0] at hsz ⊢
  have q1 : IntKind.i64.wrap (2 * j) = 2 * j := by rw [IntKind.wrap_i64]; omega
  have q2 : IntKind.i64.wrap (2 * j + 1) = 2 * j + 1 := by rw [IntKind.wrap_i64]; omega
  go_enter Tryd.func36, Tryd.ntmps36
  go_upto_region 33 with (fail)
  generalize w.setCell ⟨pb, 2, none⟩ (.int .i64 M) = w1 at HP HF HZ HN HB e0 e1 ⊢
  go_wp2_with fail
  refine (emit_g w1 B E base pb groups M l HP.out ⟨3, 2 * j, 0, none⟩ none rfl (by omega) HZ.out).mono ?_
  rintro e w2 ⟨rfl, hf, hp⟩
  have y0 : w2.cell? ⟨b, 0, none⟩ = some v1 := block_cell (hf.blk HB.out (by omega))
  have HB2 := Lib.hid (hf.blk HB.out (by omega))
  have HF2 := Lib.hid (HF.out.trans hf)
  have HZ2 := Lib.hid (Nat.le_trans HZ.out hf.below.size)
  have hcall := HI.out v1 w2 _ _ d (hf.node HN.out hle) hp (by simp; omega) hd HZ2.out
  have HC := Lib.hid hcall
  clear hf hp hcall e0 e1
  go_wp2_with fail
  refine HC.out.mono ?_
  rintro e w3 ⟨rfl, hf, hp⟩
  have y1 : w3.cell? ⟨b, 1, none⟩ = some (.int .i64 j) := block_cell (hf.blk HB2.out (by omega))
  have HF3 := Lib.hid (HF2.out.trans hf)
  have HZ3 := Lib.hid (Nat.le_trans HZ2.out hf.below.size)
  have HP3 := Lib.hid hp
  have hsz2 : (l ++ [(⟨3, 2 * j, 0, none⟩ : ActD)] ++ genA n (l ++ [(⟨3, 2 * j, 0, none⟩ : ActD)]).length).length < 1000000000 := by
   rw [List.length_append, HGL.out]; simp; omega
  have HSZ := Lib.hid hsz2
  clear hf hp y0 hsz2
  go_wp2_with fail
  refine (emit_g w3 B E base pb groups _ _ HP3.out ⟨3, 2 * j + 1, 0, none⟩ none rfl HSZ.out HZ3.out).mono ?_
  rintro e w4 ⟨rfl, hf, hp⟩
  have HF4 := Lib.hid (HF3.out.trans hf)
  have HP4 := Lib.hid hp
  clear hf hp
  go_wp2
  go_end0
  refine ⟨rfl, HF4.out, ?_⟩
  have := HP4.out
  rw [HMM.out, show max (max dp d) (deepA d n) = max dp (deepA d n) from by omega] at this
  simpa using this
 ·
  rw [if_neg h0] at hsz ⊢
  go_enter Tryd.func36, Tryd.ntmps36
  go_upto_region 33 with (fail)
  generalize w.setCell ⟨pb, 2, none⟩ (.int .i64 M) = w1 at HP HF HZ HN HB e0 e1 ⊢
  have HC := Lib.hid (HI.out v1 w1 _ _ d HN.out HP.out hsz hd HZ.out)
  go_wp2_with fail
  refine HC.out.mono ?_
  rintro e w3 ⟨rfl, hf, hp⟩
  have y1 : w3.cell? ⟨b, 1, none⟩ = some (.int .i64 j) := block_cell (hf.blk HB.out (by omega))
  have HF3 := Lib.hid (HF.out.trans hf)
  have HP3 := Lib.hid hp
  clear hf hp
  go_wp2
  go_end0
  refine ⟨rfl, HF3.out, ?_⟩
  have := HP3.out
  rw [HMM.out, show max (max dp d) (deepA d n) = max dp (deepA d n) from by omega] at this
  exact this
end Go.Proofs.YtdegdoilpamjjaaDoor
namespace Go.Proofs.YtdegdoilpamjjaaDoor
open Go.RowKit
set_option linter.unusedVariables false
set_option linter.unusedSimpArgs false
theorem call_1 (a : Int) (W : World) : Sem.run Tryd.prog (callFunc 95 #[.int .i64 a]) W = .ok (.enter 95 #[.int .i64 a]) W := by kernel_rfl
theorem call_2 (a : Int) (W : World) : Sem.run Tryd.prog (callFunc 96 #[.int .i64 a]) W = .ok (.enter 96 #[.int .i64 a]) W := by kernel_rfl
theorem call_3 (a : Int) (W : World) : Sem.run Tryd.prog (callFunc 97 #[.int .i64 a]) W = .ok (.enter 97 #[.int .i64 a]) W := by kernel_rfl
theorem call_4 (a : Int) (W : World) : Sem.run Tryd.prog (callFunc 98 #[.int .i64 a]) W = .ok (.enter 98 #[.int .i64 a]) W := by kernel_rfl
theorem call_5 (a : Int) (W : World) : Sem.run Tryd.prog (callFunc 99 #[.int .i64 a]) W = .ok (.enter 99 #[.int .i64 a]) W := by kernel_rfl
theorem kind_is (c a : Int) (h : KindL c) : ∃ F : FuncId, kindV c = .func (.func F) #[] #[] ∧ (∀ W, Sem.run Tryd.prog (callFunc F #[.int .i64 a]) W = .ok (.enter F #[.int .i64 a]) W) ∧ ∀ W, Tabs W → Calls Tryd.prog F #[.int .i64 a] W fun e w' => e = .returned (.bool (kindP G0 c a)) ∧ Below W.heap.size W w' := by
 rcases h with rfl | rfl | rfl | rfl | rfl
 · exact ⟨95, rfl, fun W => call_1 a W, fun W hW => (kind1_c a W).mono (by rintro e w' ⟨h, rfl⟩; exact ⟨h, Below.refl _ _⟩)⟩
 · exact ⟨96, rfl, fun W => call_2 a W, fun W hW => (kind2_c a W).mono (by rintro e w' ⟨h, rfl⟩; exact ⟨h, Below.refl _ _⟩)⟩
 · exact ⟨97, rfl, fun W => call_3 a W, fun W hW => kind3_c a W⟩
 · exact ⟨98, rfl, fun W => call_4 a W, fun W hW => kind4_c a W hW⟩
 · exact ⟨99, rfl, fun W => call_5 a W, fun W hW => kind5_c a W hW⟩
theorem any_take {α : Type} (l : List α) (p : α → Bool) (k : Nat) (hk : k < l.length) : (l.take (k + 1)).any p = ((l.take k).any p || p l[k]) := by
 rw [List.take_succ_eq_append_getElem hk, List.any_append]
 simp
theorem any_of_mem {α : Type} (l : List α) (p : α → Bool) (k : Nat) (hk : k < l.length) (h : p l[k] = true) : l.any p = true := List.any_eq_true.mpr ⟨_, List.getElem_mem hk, h⟩
theorem spanV_len (l : List (Int × Int)) : (spanV l).length = l.length * 2 := by
 induction l with
 | nil => rfl
 | cons x l ih => unfold spanV at *; rw [List.flatMap_cons, List.length_append, ih, List.length_cons]; show 2 + l.length * 2 = (l.length + 1) * 2; omega
theorem spanV_at : ∀ (l : List (Int × Int)) (k : Nat) (hk : k < l.length), (spanV l)[k * 2]? = some (.int .i64 l[k].1) ∧ (spanV l)[k * 2 + 1]? = some (.int .i64 l[k].2)
 | x :: l, 0, hk => ⟨rfl, rfl⟩
 | x :: l, k + 1, hk => by
  obtain ⟨h1, h2⟩ := spanV_at l k (by simpa using hk)
  have e : (k + 1) * 2 = k * 2 + 1 + 1 := by omega
  rw [e]
  exact ⟨h1, h2⟩
theorem SlR.cellsK {w : World} {B E k : Nat} {v : Value} {vs : List Value} (h : SlR w B E k v vs) (n : Nat) (hn : vs.length = n * k) (hk : 0 < k) :
  ∃ sl c, v = .slice sl n c ∧ (0 < n → ∃ g off, sl = some ⟨g, off, none⟩ ∧ ∀ i u, vs[i]? = some u → w.cell? ⟨g, off + i, none⟩ = some u) := by
 obtain ⟨sl, m, c, rfl, h2, h3⟩ := h
 have hm : m = n := Nat.eq_of_mul_eq_mul_right hk (by omega)
 subst hm
 refine ⟨sl, c, rfl, fun h0 => ?_⟩
 rcases h3 with h3 | ⟨g, off, cs, t, rw', rfl, _, _, h7, h8⟩
 ·
  have := Nat.mul_pos h0 hk
  omega
 ·
  refine ⟨g, off, rfl, fun i u hu => ?_⟩
  have hi : i < vs.length := by
   rcases Nat.lt_or_ge i vs.length with h | h
   · exact h
   · rw [List.getElem?_eq_none h] at hu; cases hu
  have := h8 i hi
  rw [hu] at this
  simp [World.cell?, h7, this]
def SetR (w : World) (B E b : Nat) (s : SetD) : Prop := NdR w B E (.iface 78 (.pointer (some ⟨b, 0, none⟩))) (.set s.ranges s.kinds s.not s.fold)
set_option maxRecDepth 100000 in
set_option maxHeartbeats 8000000 in
theorem has_g (w : World) (B E b : Nat) (s : SetD) (a : Int) (h : SetR w B E b s) (hE : E ≤ w.heap.size) (hk : ∀ c ∈ s.kinds, KindL c) (hl1 : s.ranges.length ≤ 1000000) (hl2 : s.kinds.length ≤ 1000000) (ht : Tabs w) :
  Calls Tryd.prog 64 #[.pointer (some ⟨b, 0, none⟩), .int .i64 a] w fun e w' => e = .returned (.bool (hasP G0 s a)) ∧ Below w.heap.size w w' := by
 obtain ⟨rs, ks, nt, fd⟩ := s
 unfold SetR at h
 simp only at h hk hl1 hl2
 cases h with
 | set _ v1 v2 _ _ _ _ hb hbE hblk h1 h2 =>
 obtain ⟨sl, c, rfl, hc1⟩ := h1.cellsK rs.length (spanV_len rs) (by decide)
 obtain ⟨sl2, c2, rfl, hc2⟩ := h2.cellsK ks.length (by simp [kindsV]) (by decide)
 obtain ⟨D1, hD1⟩ : ∃ D, (rs.any fun x => decide (x.1 ≤ a ∧ a ≤ x.2)) = D := ⟨_, rfl⟩
 obtain ⟨D2, hD2⟩ : ∃ D, (ks.any fun c => kindP G0 c a) = D := ⟨_, rfl⟩
 have hh : hasP G0 ⟨rs, ks, nt, fd⟩ a = (D1 || D2) := by unfold hasP; rw [hD1, hD2]
 rw [hh]
 have b0 : w.cell? ⟨b, 0, none⟩ = some (.slice sl rs.length c) := block_cell hblk
 have HB := Lib.hid hblk
 have H1 := Lib.hid hc1
 have H2 := Lib.hid hc2
 have HD1 := Lib.hid hD1
 have HD2 := Lib.hid hD2
 have HK := Lib.hid hk
 have HT := Lib.hid ht
 obtain ⟨n, hn⟩ : ∃ n, rs.length = n := ⟨_, rfl⟩
 obtain ⟨m, hm⟩ : ∃ m, ks.length = m := ⟨_, rfl⟩
 rw [hn] at b0 hl1
 rw [hm] at hl2
 have HN := Lib.hid hn
 have HM := Lib.hid hm
 clear h1 h2 hblk hc1 hc2 hD1 hD2 hh hk ht hn hm
 go_enter Tryd.func64, Tryd.ntmps64
 go_wp2_with fail
 go_loopg [14] n (fun gg iv wr => ∃ k : Nat, k + gg = n ∧ iv = .int .i64 k ∧ Below w.heap.size w wr ∧ ((rs.take k).any fun x => decide (x.1 ≤ a ∧ a ≤ x.2)) = false)
 case atStart => exact ⟨0, by omega, rfl, Below.refl _ _, rfl⟩
 case round =>
  obtain ⟨k, hk, rfl, hbl, hno⟩ := hrel
  clear b0
  by_cases hlt : k < n
  ·
   have hkr : k < rs.length := by rw [HN.out]; exact hlt
   obtain ⟨g, off, rfl, hcell⟩ := H1.out (by omega)
   obtain ⟨e1, e2⟩ := spanV_at rs k hkr
   have c0 := hcell _ _ e1
   have c1 := hcell _ _ e2
   have hgl : ∀ i u, w.cell? ⟨g, i, none⟩ = some u → wr.cell? ⟨g, i, none⟩ = some u := fun i u hu => cell_later hbl hu
   have d0 := hgl _ _ c0
   have d1 := hgl _ _ c1
   rw [← Nat.add_assoc] at d1
   have hst := any_take rs (fun x => decide (x.1 ≤ a ∧ a ≤ x.2)) k hkr
   rw [hno, Bool.false_or] at hst
   have hfd := any_of_mem rs (fun x => decide (x.1 ≤ a ∧ a ≤ x.2)) k hkr
   rw [HD1.out] at hfd
   have HST := Lib.hid hst
   have HFD := Lib.hid hfd
   have q1 : (k : Int) < (n : Int) := by omega
   have q2 : (0 : Int) ≤ (k : Int) := by omega
   have q3 : IntKind.i64.wrap ((k : Int) + 1) = ((k + 1 : Nat) : Int) := by rw [IntKind.wrap_i64]; omega
   have HK1 := Lib.hid hk
   have HLT := Lib.hid hlt
   generalize rs[k] = x at d0 d1 HST HFD
   obtain ⟨lo, hi⟩ := x
   simp only at d0 d1
   have hbn := hbl.trans ((below_newJ wr (.cells #[.int .i64 lo, .int .i64 hi] 144)).mono hbl.size)
   have HBN := Lib.hid hbn
   clear c0 c1 hcell e1 e2 hgl hst hfd hbl hno hbn hk hlt
   by_cases p1 : lo ≤ a
   ·
    by_cases p2 : a ≤ hi
    ·
     have HD := Lib.hid (HFD.out (by simp [p1, p2]))
     go_wp2
     go_ret
     exact ⟨ret_bool (by rw [HD.out]; rfl), HBN.out⟩
    ·
     have HNO := Lib.hid (HST.out.trans (decide_eq_false (fun h => p2 h.2)))
     go_wp2
     go_roundg (gk - 1)
     case measure => have := HK1.out; have := HLT.out; omega
     case rel => exact ⟨k + 1, by have := HK1.out; have := HLT.out; omega, by go_num, HBN.out, HNO.out⟩
   ·
    have HNO := Lib.hid (HST.out.trans (decide_eq_false (fun h => p1 h.1)))
    go_wp2
    go_roundg (gk - 1)
    case measure => have := HK1.out; have := HLT.out; omega
    case rel => exact ⟨k + 1, by have := HK1.out; have := HLT.out; omega, by go_num, HBN.out, HNO.out⟩
  ·
   obtain rfl : k = n := by omega
   rw [List.take_of_length_le (by rw [HN.out]; exact Nat.le_refl _), HD1.out] at hno
   subst hno
   have b1 : wr.cell? ⟨b, 1, none⟩ = some (.slice sl2 m c2) := by
    have := block_cell (i := 1) ((hbl.block b (by omega)).trans HB.out)
    rw [← HM.out]
    exact this
   have HBL := Lib.hid hbl
   clear hbl hk hlt
   go_wp2_with fail
   go_loopg [34] m (fun gg iv wq => ∃ j : Nat, j + gg = m ∧ iv = .int .i64 j ∧ Below w.heap.size w wq ∧ ((ks.take j).any fun c => kindP G0 c a) = false)
   case atStart => exact ⟨0, by omega, rfl, HBL.out, rfl⟩
   case round =>
    obtain ⟨j, hj, rfl, hbl, hno⟩ := hrel
    clear b1 HBL
    by_cases hlt : j < m
    ·
     have hjk : j < ks.length := by rw [HM.out]; exact hlt
     obtain ⟨g, off, rfl, hcell⟩ := H2.out (by omega)
     have c0 := hcell j (kindV ks[j]) (by unfold kindsV; rw [List.getElem?_map, List.getElem?_eq_getElem hjk]; rfl)
     obtain ⟨F, hF, hen, hcl⟩ := kind_is ks[j] a (HK.out _ (List.getElem_mem hjk))
     rw [hF] at c0
     have d0 : wr.cell? ⟨g, off + j, none⟩ = some (.func (.func F) #[] #[]) := cell_later hbl c0
     have hst := any_take ks (fun c => kindP G0 c a) j hjk
     rw [hno, Bool.false_or] at hst
     have hfd := any_of_mem ks (fun c => kindP G0 c a) j hjk
     rw [HD2.out] at hfd
     have hcall := hcl wr (HT.out.later hbl)
     obtain ⟨dk, hdk⟩ : ∃ dk, kindP G0 ks[j] a = dk := ⟨_, rfl⟩
     rw [hdk] at hst hfd hcall
     have HST := Lib.hid hst
     have HFD := Lib.hid hfd
     have HC := Lib.hid hcall
     have HBL := Lib.hid hbl
     have q1 : (j : Int) < (m : Int) := by omega
     have q2 : (0 : Int) ≤ (j : Int) := by omega
     have q3 : IntKind.i64.wrap ((j : Int) + 1) = ((j + 1 : Nat) : Int) := by rw [IntKind.wrap_i64]; omega
     have HK1 := Lib.hid hj
     have HLT := Lib.hid hlt
     clear c0 hcell hF hcl hst hfd hcall hdk hbl hno hj hlt
     go_wp2_with fail
     first | rw [hen, Oper.upon_enter] | rw [Oper.upon_enter] | skip
     refine HC.out.mono ?_
     rintro e w3 ⟨rfl, hb3⟩
     have HB3 := Lib.hid (HBL.out.trans (hb3.mono HBL.out.size))
     clear hb3
     cases dk
     ·
      go_wp2
      go_roundg (gk - 1)
      case measure => have := HK1.out; have := HLT.out; omega
      case rel => exact ⟨j + 1, by have := HK1.out; have := HLT.out; omega, by go_num, HB3.out, HST.out⟩
     ·
      have HD := Lib.hid (HFD.out rfl)
      go_wp2
      go_ret
      exact ⟨ret_bool (by rw [HD.out]; rfl), HB3.out⟩
    ·
     obtain rfl : j = m := by omega
     rw [List.take_of_length_le (by rw [HM.out]; exact Nat.le_refl _), HD2.out] at hno
     subst hno
     have HBL := Lib.hid hbl
     clear hbl hj hlt
     go_wp2
     go_ret
     exact ⟨rfl, HBL.out⟩
set_option maxRecDepth 100000 in
set_option maxHeartbeats 8000000 in
theorem takes_g (w : World) (B E b : Nat) (s : SetD) (a : Int) (h : SetR w B E b s) (hE : E ≤ w.heap.size) (hk : ∀ c ∈ s.kinds, KindL c) (hl1 : s.ranges.length ≤ 1000000) (hl2 : s.kinds.length ≤ 1000000) (ht : Tabs w) :
  Calls Tryd.prog 48 #[.pointer (some ⟨b, 0, none⟩), .int .i64 a] w fun e w' => e = .returned (.bool (takesP G0 s a)) ∧ Below w.heap.size w w' := by
 have hblk : ∃ v1 v2, w.heap[b]? = some (.cells #[v1, v2, .bool s.not, .bool s.fold] 135 (0, 0)) := by
  unfold SetR at h
  cases h with
  | set _ v1 v2 _ _ _ _ hb hbE hblk h1 h2 => exact ⟨v1, v2, hblk⟩
 obtain ⟨v1, v2, hblk⟩ := hblk
 have hall : ∀ (x : Int) (W : World), Below w.heap.size w W → Calls Tryd.prog 64 #[.pointer (some ⟨b, 0, none⟩), .int .i64 x] W fun e w' => e = .returned (.bool (hasP G0 s x)) ∧ Below W.heap.size W w' := fun x W hW =>
  has_g W B E b s x (NdR.keep h fun b _ h2 => hW.block b (by omega)) (Nat.le_trans hE hW.size) hk hl1 hl2 (ht.later hW)
 have hc : ∀ W, Below w.heap.size w W → W.cell? ⟨b, 3, none⟩ = some (.bool s.fold) ∧ W.cell? ⟨b, 2, none⟩ = some (.bool s.not) := fun W hW => ⟨block_cell ((hW.block b (heap_lt hblk)).trans hblk), block_cell ((hW.block b (heap_lt hblk)).trans hblk)⟩
 have HC := Lib.hid hc
 have HA := Lib.hid hall
 have HT := Lib.hid ht
 have htk : takesP G0 s a = ((hasP G0 s a || (s.fold && (hasP G0 s (lowerF a) || hasP G0 s (upperF a)))) != s.not) := rfl
 have HTK := Lib.hid htk
 obtain ⟨d0, hd0⟩ : ∃ d, hasP G0 s a = d := ⟨_, rfl⟩
 obtain ⟨fd, hfd⟩ : ∃ d, s.fold = d := ⟨_, rfl⟩
 obtain ⟨nt, hnt⟩ : ∃ d, s.not = d := ⟨_, rfl⟩
 obtain ⟨lo, hlo⟩ : ∃ d, lowerF a = d := ⟨_, rfl⟩
 obtain ⟨up, hup⟩ : ∃ d, upperF a = d := ⟨_, rfl⟩
 obtain ⟨d1, hd1⟩ : ∃ d, hasP G0 s lo = d := ⟨_, rfl⟩
 obtain ⟨d2, hd2⟩ : ∃ d, hasP G0 s up = d := ⟨_, rfl⟩
 have hL : ∀ W, Tabs W → Calls Tryd.prog 57 #[.int .i64 a] W fun e w' => e = .returned (.int .i64 lo) ∧ Below W.heap.size W w' := fun W hW => by rw [← hlo]; exact lower_any a W hW
 have hU : ∀ W, Tabs W → Calls Tryd.prog 56 #[.int .i64 a] W fun e w' => e = .returned (.int .i64 up) ∧ Below W.heap.size W w' := fun W hW => by rw [← hup]; exact upper_any a W hW
 have h0' := hall a w (Below.refl _ _)
 rw [hd0] at h0'
 have h1' := fun W hW => hall lo W hW
 rw [hd1] at h1'
 have h2' := fun W hW => hall up W hW
 rw [hd2] at h2'
 rw [hfd, hnt] at HC
 rw [hlo, hup, hd0, hd1, hd2, hfd, hnt] at HTK
 have H0 := Lib.hid h0'
 have H1 := Lib.hid h1'
 have H2 := Lib.hid h2'
 have HL := Lib.hid hL
 have HU := Lib.hid hU
 rw [HTK.out]
 clear h hE hk hl1 hl2 ht hblk hall hc htk hd0 hfd hnt hlo hup hd1 hd2 hL hU h0' h1' h2' HTK HA
 go_enter Tryd.func48, Tryd.ntmps48
 go_wp2_with fail
 refine H0.out.mono ?_
 rintro e w1 ⟨rfl, hb1⟩
 obtain ⟨c3, c2⟩ := HC.out w1 hb1
 have HB1 := Lib.hid hb1
 clear hb1
 cases d0
 ·
  cases fd
  ·
   cases nt
   ·
    go_wp2
    go_ret
    exact ⟨rfl, HB1.out⟩
   ·
    go_wp2
    go_ret
    exact ⟨rfl, HB1.out⟩
  ·
   go_wp2_with fail
   refine (HL.out w1 (HT.out.later HB1.out)).mono ?_
   rintro e w2 ⟨rfl, hb2⟩
   have hb2' := HB1.out.trans (hb2.mono HB1.out.size)
   have HB2 := Lib.hid hb2'
   clear hb2 hb2' c3 c2
   go_wp2_with fail
   refine (H1.out w2 HB2.out).mono ?_
   rintro e w3 ⟨rfl, hb3⟩
   have hb3' := HB2.out.trans (hb3.mono HB2.out.size)
   obtain ⟨c3, c2⟩ := HC.out w3 hb3'
   have HB3 := Lib.hid hb3'
   clear hb3 hb3'
   cases d1
   ·
    go_wp2_with fail
    refine (HU.out w3 (HT.out.later HB3.out)).mono ?_
    rintro e w4 ⟨rfl, hb4⟩
    have hb4' := HB3.out.trans (hb4.mono HB3.out.size)
    have HB4 := Lib.hid hb4'
    clear hb4 hb4' c3 c2
    go_wp2_with fail
    refine (H2.out w4 HB4.out).mono ?_
    rintro e w5 ⟨rfl, hb5⟩
    have hb5' := HB4.out.trans (hb5.mono HB4.out.size)
    obtain ⟨c3, c2⟩ := HC.out w5 hb5'
    have HB5 := Lib.hid hb5'
    clear hb5 hb5'
    cases d2 <;> cases nt
    all_goals
     go_wp2
     go_ret
     exact ⟨rfl, HB5.out⟩
   ·
    cases nt
    all_goals
     go_wp2
     go_ret
     exact ⟨rfl, HB3.out⟩
 ·
  cases nt
  all_goals
   go_wp2
   go_ret
   exact ⟨by simp, HB1.out⟩
def NoteR (w : World) (lo : Nat) : Option Addr → List (Int × Int) → Prop
 | p, [] => p = none
 | p, x :: l => ∃ b q, p = some ⟨b, 0, none⟩ ∧ lo ≤ b ∧ w.heap[b]? = some (.cells #[.int .i64 x.1, .int .i64 x.2, .pointer q] 131 (0, 0)) ∧ NoteR w lo q l
theorem NoteR.keep {w w' : World} {lo : Nat} : ∀ {l : List (Int × Int)} {p : Option Addr}, NoteR w lo p l → (∀ (b : Nat) (cs : Array Value), w.heap[b]? = some (.cells cs 131 (0, 0)) → w'.heap[b]? = some (.cells cs 131 (0, 0))) → NoteR w' lo p l
 | [], p, h, _ => h
 | x :: l, p, ⟨b, q, h1, h2, h3, h4⟩, hk => ⟨b, q, h1, h2, hk b _ h3, h4.keep hk⟩
set_option maxRecDepth 100000 in
set_option maxHeartbeats 4000000 in
theorem in_g (w : World) (lo : Nat) (p : Option Addr) (l : List (Int × Int)) (k : Int) (h : NoteR w lo p l) :
  Calls Tryd.prog 49 #[.pointer p, .int .i64 k] w fun e w' => e = .returned (.int .i64 (noteIn l k)) ∧ w' = w := by
 obtain ⟨N, hN⟩ : ∃ N, noteIn l k = N := ⟨_, rfl⟩
 rw [hN]
 have HN := Lib.hid hN
 have H := Lib.hid h
 clear h hN
 go_enter Tryd.func49, Tryd.ntmps49
 go_wp2_with fail
 go_loopg [0] l.length (fun gg sv wr => ∃ (q : Option Addr) (r : List (Int × Int)), gg = r.length ∧ sv = .pointer q ∧ wr = w ∧ NoteR w lo q r ∧ noteIn r k = N)
 case atStart => exact ⟨p, l, rfl, rfl, rfl, H.out, HN.out⟩
 case round =>
  obtain ⟨q, r, hgk, rfl, rfl, hr, hn⟩ := hrel
  clear HN H
  cases r with
  | nil =>
   obtain rfl : q = none := hr
   obtain rfl : N = -1 := hn.symm
   clear hgk hn
   go_wp2
   go_ret
   exact ⟨rfl, rfl⟩
  | cons x r =>
   obtain ⟨b, q', rfl, hlo, hb, hr'⟩ := hr
   have b0 : wr.cell? ⟨b, 0, none⟩ = some (.int .i64 x.1) := block_cell hb
   have b1 : wr.cell? ⟨b, 1, none⟩ = some (.int .i64 x.2) := block_cell hb
   have b2 : wr.cell? ⟨b, 2, none⟩ = some (.pointer q') := block_cell hb
   have HR := Lib.hid hr'
   have HGK := Lib.hid hgk
   by_cases hx : x.1 = k
   ·
    have hn' : N = x.2 := by rw [← hn]; unfold noteIn; rw [List.find?_cons_of_pos (by simp [hx])]
    have HN' := Lib.hid hn'
    have e0 : (x.1 == k) = true := by simp [hx]
    clear hn hn' hr' hb hgk
    go_wp2
    go_ret
    exact ⟨ret_int (by rw [HN'.out]), rfl⟩
   ·
    have hn' : noteIn r k = N := by rw [← hn]; unfold noteIn; rw [List.find?_cons_of_neg (by simp [hx])]
    have HN' := Lib.hid hn'
    have e0 : (x.1 == k) = false := by simp [hx]
    clear hn hn' hr' hb hgk
    go_wp2
    go_roundg r.length
    case measure => have := HGK.out; simp at this; omega
    case rel => exact ⟨q', r, rfl, rfl, rfl, HR.out, HN'.out⟩
structure LineR (w : World) (rn : Nat) (line : List Int) (at' : Nat) : Prop where
 ex : ∃ sl n c, w.cell? ⟨rn, 1, none⟩ = some (.slice sl n c) ∧ line.length = n ∧ IsInts w sl n (gl line)
 pos : w.cell? ⟨rn, 2, none⟩ = some (.int .i64 at')
 n30 : line.length < 1073741824
theorem LineR.below {w w' : World} {rn : Nat} {line : List Int} {at' : Nat} (h : LineR w rn line at') (hb : Below w.heap.size w w') : LineR w' rn line at' := by
 obtain ⟨⟨sl, n, c, h1, h2, h3⟩, h4, h5⟩ := h
 exact ⟨⟨sl, n, c, cell_later hb h1, h2, h3.later hb⟩, cell_later hb h4, h5⟩
set_option maxRecDepth 100000 in
set_option maxHeartbeats 4000000 in
theorem word_g (w : World) (rn : Nat) (line : List Int) (at' : Nat) (h : LineR w rn line at') (i : Int) (h1 : -1 ≤ i) (h2 : i < 1073741824) :
  Calls Tryd.prog 77 #[.pointer (some ⟨rn, 0, none⟩), .int .i64 i] w fun e w' => e = .returned (.bool (wordAt G0 line i)) ∧ Below w.heap.size w w' := by
 obtain ⟨⟨sl, n, c, b1, hn, hi⟩, b2, h30⟩ := h
 by_cases h0 : 0 ≤ i
 ·
  by_cases hlt : i < n
  ·
   obtain ⟨k, rfl⟩ : ∃ k : Nat, i = k := ⟨i.toNat, by omega⟩
   have hk : k < n := by omega
   obtain ⟨g, o, rfl, hc⟩ : ∃ g o, sl = some ⟨g, o, none⟩ ∧ w.cell? ⟨g, o + k, none⟩ = some (.int .i64 (gl line k)) := by
    rcases hi with h | ⟨g, o, e, hg, hc⟩
    · omega
    · exact ⟨g, o, e, hc k hk⟩
   have hw : wordAt G0 line (k : Int) = decide (wordF (gl line k) = 2) := by
    unfold wordAt
    rw [decide_eq_true (by omega), Bool.true_and]
    rfl
   rw [hw]
   have hcall := word_any (gl line k) w
   obtain ⟨v, hv⟩ : ∃ v, wordF (gl line k) = v := ⟨_, rfl⟩
   rw [hv] at hcall ⊢
   have HC := Lib.hid hcall
   have q1 : (k : Int) < (n : Int) := by omega
   have q2 : (0 : Int) ≤ (k : Int) := by omega
   generalize gl line k = x at hc HC
   clear hcall hv hi hn hw h0 hlt
   by_cases hv2 : v = 2
   ·
    subst hv2
    go_enter Tryd.func77, Tryd.ntmps77
    go_wp2_with fail
    refine HC.out.mono ?_
    rintro e w2 ⟨rfl, hb⟩
    have HB := Lib.hid hb
    clear hb
    go_wp2
    go_ret
    exact ⟨rfl, HB.out⟩
   ·
    have e0 : (v == 2) = false := by simp [hv2]
    rw [decide_eq_false hv2]
    go_enter Tryd.func77, Tryd.ntmps77
    go_wp2_with fail
    refine HC.out.mono ?_
    rintro e w2 ⟨rfl, hb⟩
    have HB := Lib.hid hb
    clear hb
    go_wp2
    go_ret
    exact ⟨rfl, HB.out⟩
  ·
   have hw : wordAt G0 line i = false := by
    unfold wordAt
    rw [decide_eq_false (by omega), Bool.false_and]
   rw [hw]
   clear hi hw
   go_enter Tryd.func77, Tryd.ntmps77
   go_wp2
   go_ret
   exact ⟨rfl, Below.refl _ _⟩
 ·
  have hw : wordAt G0 line i = false := by
   unfold wordAt
   rw [decide_eq_false (by omega), Bool.false_and]
  rw [hw]
  clear hi hw
  go_enter Tryd.func77, Tryd.ntmps77
  go_wp2
  go_ret
  exact ⟨rfl, Below.refl _ _⟩
set_option maxRecDepth 100000 in
set_option maxHeartbeats 4000000 in
theorem stands_g (w : World) (rn : Nat) (line : List Int) (at' : Nat) (h : LineR w rn line at') (hat : at' ≤ line.length) (what : Int) :
  Calls Tryd.prog 63 #[.pointer (some ⟨rn, 0, none⟩), .int .i64 what] w fun e w' => e = .returned (.bool (standsP (wordAt G0 line) line.length at' what)) ∧ Below w.heap.size w w' := by
 have H := Lib.hid h
 obtain ⟨⟨sl, n, c, b1, hn, hi⟩, b2, h30⟩ := h
 have hat30 : at' < 1073741824 := by omega
 have hW1 : ∀ W, Below w.heap.size w W → Calls Tryd.prog 77 #[.pointer (some ⟨rn, 0, none⟩), .int .i64 at'] W fun e w' => e = .returned (.bool (wordAt G0 line at')) ∧ Below W.heap.size W w' := fun W hW => word_g W rn line at' (H.out.below hW) at' (by omega) (by omega)
 have hW2 : ∀ W, Below w.heap.size w W → Calls Tryd.prog 77 #[.pointer (some ⟨rn, 0, none⟩), .int .i64 ((at' : Int) - 1)] W fun e w' => e = .returned (.bool (wordAt G0 line ((at' : Int) - 1))) ∧ Below W.heap.size W w' := fun W hW => word_g W rn line at' (H.out.below hW) ((at' : Int) - 1) (by omega) (by omega)
 have q1 : IntKind.i64.wrap ((at' : Int) - 1) = (at' : Int) - 1 := by rw [IntKind.wrap_i64]; omega
 have hst : standsP (wordAt G0 line) line.length at' what = if what = 94 then decide (at' = 0) else if what = 36 then decide (at' = n) else if what = 60 then wordAt G0 line at' && !wordAt G0 line ((at' : Int) - 1) else !wordAt G0 line at' && wordAt G0 line ((at' : Int) - 1) := by rw [← hn]; rfl
 rw [hst]
 have hB2 : ∀ W, Below w.heap.size w W → W.cell? ⟨rn, 2, none⟩ = some (.int .i64 at') := fun W hW => cell_later hW b2
 obtain ⟨d1, hd1⟩ : ∃ d, wordAt G0 line at' = d := ⟨_, rfl⟩
 obtain ⟨d2, hd2⟩ : ∃ d, wordAt G0 line ((at' : Int) - 1) = d := ⟨_, rfl⟩
 rw [hd1, hd2]
 rw [hd1] at hW1
 rw [hd2] at hW2
 have HW1 := Lib.hid hW1
 have HW2 := Lib.hid hW2
 have HB2 := Lib.hid hB2
 clear hst hd1 hd2 hW1 hW2 hB2 hi hn H
 by_cases h94 : what = 94
 ·
  subst h94
  rw [if_pos rfl]
  by_cases hz : at' = 0
  ·
   subst hz
   go_enter Tryd.func63, Tryd.ntmps63
   go_wp2
   go_ret
   exact ⟨rfl, Below.refl _ _⟩
  ·
   have e0 : ((at' : Int) == 0) = false := by simp [hz]
   rw [decide_eq_false hz]
   go_enter Tryd.func63, Tryd.ntmps63
   go_wp2
   go_ret
   exact ⟨by simp [hz], Below.refl _ _⟩
 ·
  rw [if_neg h94]
  by_cases h36 : what = 36
  ·
   subst h36
   rw [if_pos rfl]
   by_cases hz : at' = n
   ·
    subst hz
    rw [decide_eq_true rfl]
    go_enter Tryd.func63, Tryd.ntmps63
    go_wp2_with fail
    go_quiet (fail)
    go_wp2
    go_ret
    exact ⟨by simp, below_drewN (Below.refl _ _)⟩
   ·
    have e0 : ((at' : Int) == (n : Int)) = false := by simp; omega
    rw [decide_eq_false hz]
    go_enter Tryd.func63, Tryd.ntmps63
    go_wp2_with fail
    go_quiet (fail)
    go_wp2
    go_ret
    exact ⟨by simp [hz], below_drewN (Below.refl _ _)⟩
  ·
   rw [if_neg h36]
   by_cases h60 : what = 60
   ·
    subst h60
    rw [if_pos rfl]
    go_enter Tryd.func63, Tryd.ntmps63
    go_wp2_with fail
    refine (HW1.out w (Below.refl _ _)).mono ?_
    rintro e w2 ⟨rfl, hb⟩
    have b3 := HB2.out w2 hb
    have HB := Lib.hid hb
    clear hb
    cases d1
    ·
     go_wp2
     go_ret
     exact ⟨rfl, HB.out⟩
    ·
     go_wp2_with fail
     refine (HW2.out w2 HB.out).mono ?_
     rintro e w3 ⟨rfl, hb⟩
     have HB3 := Lib.hid (HB.out.trans (hb.mono HB.out.size))
     clear hb
     cases d2
     all_goals
      go_wp2
      go_ret
      exact ⟨rfl, HB3.out⟩
   ·
    rw [if_neg h60]
    go_enter Tryd.func63, Tryd.ntmps63
    go_wp2_with fail
    refine (HW1.out w (Below.refl _ _)).mono ?_
    rintro e w2 ⟨rfl, hb⟩
    have b3 := HB2.out w2 hb
    have HB := Lib.hid hb
    clear hb
    cases d1
    ·
     go_wp2_with fail
     refine (HW2.out w2 HB.out).mono ?_
     rintro e w3 ⟨rfl, hb⟩
     have HB3 := Lib.hid (HB.out.trans (hb.mono HB.out.size))
     clear hb
     cases d2
     all_goals
      go_wp2
      go_ret
      exact ⟨rfl, HB3.out⟩
    ·
     go_wp2
     go_ret
     exact ⟨rfl, HB.out⟩
end Go.Proofs.YtdegdoilpamjjaaDoor
namespace Go.Proofs.YtdegdoilpamjjaaDoor
open Go.RowKit
set_option linter.unusedVariables false
set_option linter.unusedSimpArgs false
theorem FrA.ownT {base b0 : Nat} {w w' : World} (h : FrA base w w') {T : TypeId} (h1 : T ≠ 62) (h2 : T ≠ 80) {size n : Nat} {v : Value} {xs : List Value} (ho : w.ownsRow b0 T size v n xs) : w'.ownsRow b0 T size v n xs :=
 own_kept ho fun b hb => by
  obtain ⟨cs, h3⟩ := own_type ho hb
  exact (h.oth _ _ _ h3 h1 h2).trans h3.symm
theorem FrA.pushNew {base : Nat} {w0 w w' : World} (h : FrA base w0 w) {T : TypeId} {size n : Nat} {v : Value} {xs ys : List Value} {s' : Option Addr} {c' : Nat} {b0 : Nat} (h0 : w0.heap.size ≤ b0) (hbase : base ≤ b0) (ho : w.ownsRow b0 T size v n ys) (hp : Pushed w w' b0 T size v n xs s' c') : FrA base w0 w' := by
 obtain ⟨_, hb, _, hg, _⟩ := hp
 refine ⟨h.below.trans (hb.mono hbase), fun b cs t h1 h2 h3 => ?_⟩
 have h4 := h.oth b cs t h1 h2 h3
 exact (hg.block b (heap_lt h4) (fun e => by
  have := (World.ownsRow.lt ho b e.symm).1
  have := heap_lt h1
  omega)).trans h4
theorem PaG.oth {w w' : World} {B E base pb : Nat} {groups : Int} {dp : Nat} {l : List ActD} (h : PaG w B E base pb groups dp l) (hb : Below base w w') {T : TypeId} (h1 : T ≠ 62) (h2 : T ≠ 80) (ho : Oth T w w') : PaG w' B E base pb groups dp l := by
 obtain ⟨xs, sA, cA, h⟩ := h
 exact ⟨xs, sA, cA, h.keep hb fun b cs t h3 h4 => ho b cs t h3 (by rcases h4 with rfl | rfl <;> exact fun e => by first | exact h1 e.symm | exact h2 e.symm)⟩
theorem PaG.later {w w' : World} {B E base pb : Nat} {groups : Int} {dp : Nat} {l : List ActD} (h : PaG w B E base pb groups dp l) (hbase : base ≤ w.heap.size) (hb : Below w.heap.size w w') : PaG w' B E base pb groups dp l := by
 obtain ⟨xs, sA, cA, h⟩ := h
 exact ⟨xs, sA, cA, h.later hbase hb⟩
theorem PaG.open' {w : World} {B E base pb : Nat} {groups : Int} {dp : Nat} {l : List ActD} (h : PaG w B E base pb groups dp l) (hl : 0 < l.length) :
  ∃ g cA, w.cell? ⟨pb, 0, none⟩ = some (.slice (some ⟨g, 0, none⟩) l.length cA) ∧ (∀ j, w.frozen? ⟨g, j, none⟩ = false) ∧ pb ≠ g ∧
   (∀ f (hf : f < l.length), w.cell? ⟨g, f * 4 + 1, none⟩ = some (.int .i64 l[f].x) ∧ w.cell? ⟨g, f * 4 + 2, none⟩ = some (.int .i64 l[f].y)) ∧
   (∀ f v, PaG (w.setCell ⟨g, f * 4 + 1, none⟩ (.int .i64 v)) B E base pb groups dp (l.modify f fun a => { a with x := v }) ∧ FrA base w (w.setCell ⟨g, f * 4 + 1, none⟩ (.int .i64 v))) ∧
   (∀ f v, PaG (w.setCell ⟨g, f * 4 + 2, none⟩ (.int .i64 v)) B E base pb groups dp (l.modify f fun a => { a with y := v }) ∧ FrA base w (w.setCell ⟨g, f * 4 + 2, none⟩ (.int .i64 v))) ∧
   (∀ f u v, PaG ((w.setCell ⟨g, f * 4 + 1, none⟩ (.int .i64 u)).setCell ⟨g, f * 4 + 2, none⟩ (.int .i64 v)) B E base pb groups dp (l.modify f fun a => { a with x := u, y := v }) ∧ FrA base w ((w.setCell ⟨g, f * 4 + 1, none⟩ (.int .i64 u)).setCell ⟨g, f * 4 + 2, none⟩ (.int .i64 v))) ∧
   (∀ f u v, PaG ((w.setCell ⟨g, f * 4 + 2, none⟩ (.int .i64 v)).setCell ⟨g, f * 4 + 1, none⟩ (.int .i64 u)) B E base pb groups dp (l.modify f fun a => { a with x := u, y := v }) ∧ FrA base w ((w.setCell ⟨g, f * 4 + 2, none⟩ (.int .i64 v)).setCell ⟨g, f * 4 + 1, none⟩ (.int .i64 u))) := by
 obtain ⟨xs, sA, cA, h⟩ := h
 obtain ⟨g, cs, rfl, hg, hcs, hne⟩ := h.block hl
 refine ⟨g, cA, block_cell h.blk, fun j => h.own.frozenAt j, hne, fun f hf => ?_, fun f v => ?_, fun f v => ?_, fun f u v => ?_, fun f u v => ?_⟩
 ·
  obtain ⟨h0, h1⟩ := h.acts
  obtain ⟨a1, a2, a3, q, a4, a5⟩ := h1 f hf
  exact ⟨(h.own.cellAt _ (by omega)).trans a2, (h.own.cellAt _ (by omega)).trans a3⟩
 ·
  obtain ⟨h1, h2⟩ := h.setX f v
  exact ⟨⟨_, _, _, h1⟩, h2⟩
 ·
  obtain ⟨h1, h2⟩ := h.setY f v
  exact ⟨⟨_, _, _, h1⟩, h2⟩
 ·
  obtain ⟨h1, h2⟩ := h.setX f u
  obtain ⟨h3, h4⟩ := h1.setY f v
  rw [List.modify_modify_eq] at h3
  exact ⟨⟨_, _, _, h3⟩, h2.trans h4⟩
 ·
  obtain ⟨h1, h2⟩ := h.setY f v
  obtain ⟨h3, h4⟩ := h1.setX f u
  rw [List.modify_modify_eq] at h3
  exact ⟨⟨_, _, _, h3⟩, h2.trans h4⟩
def endsV (fs : List Nat) : List Value := fs.map fun (f : Nat) => Value.int .i64 (f : Int)
theorem endsV_app (a b : List Nat) : endsV (a ++ b) = endsV a ++ endsV b := by simp [endsV]
theorem endsV_len (a : List Nat) : (endsV a).length = a.length := by simp [endsV]
theorem endsV_at (a : List Nat) (i : Nat) (h : i < a.length) : (endsV a)[i]? = some (.int .i64 (a[i] : Int)) := by simp [endsV, h]
theorem modify_last (X : List ActD) (a : ActD) (f : Nat) (g : ActD → ActD) (hf : f = X.length) : (X ++ [a]).modify f g = X ++ [g a] := by
 subst hf
 exact modify_mid X a [] g
end Go.Proofs.YtdegdoilpamjjaaDoor
namespace Go.Proofs.YtdegdoilpamjjaaDoor
open Go.RowKit
set_option linter.unusedVariables false
set_option linter.unusedSimpArgs false
structure WayM (w0 w : World) (B E base pb : Nat) (groups : Int) (dp : Nat) (l : List ActD) (b0 b1 b2 b3 ab o0 : Nat) (d : Nat) (nv : Value) (nd : Nd) (least most : Int) (lz : Bool) (sO : Option Addr) (cO : Nat) (outs : List Nat) : Prop where
 fr : FrA base w0 w
 pat : PaG w B E base pb groups dp l
 x0 : IsBox w b0 26 (.pointer (some ⟨pb, 0, none⟩))
 x1 : IsBox w b1 22 (.slice sO outs.length cO)
 x2 : IsBox w b2 124 (.pointer (some ⟨ab, 0, none⟩))
 x3 : IsBox w b3 3 (.int .i64 d)
 own : w.ownsRow o0 3 1 (.slice sO outs.length cO) outs.length (endsV outs)
 o3 : b3 < o0
 o1 : w0.heap.size ≤ o0
 o2 : o0 ≤ w.heap.size
 bb : base ≤ w0.heap.size
 b1w : w0.heap.size ≤ b1
 blk : w.heap[ab]? = some (.cells #[nv, .int .i64 least, .int .i64 most, .bool lz] 142 (0, 0))
 abE : ab < base
 node : NdR w B E nv nd
theorem WayM.wz {w0 w : World} {B E base pb : Nat} {groups : Int} {dp : Nat} {l : List ActD} {b0 b1 b2 b3 ab o0 : Nat} {d : Nat} {nv : Value} {nd : Nd} {least most : Int} {lz : Bool} {sO : Option Addr} {cO : Nat} {outs : List Nat} (h : WayM w0 w B E base pb groups dp l b0 b1 b2 b3 ab o0 d nv nd least most lz sO cO outs) : base ≤ w.heap.size := Nat.le_trans h.bb h.fr.below.size
theorem WayM.step {w0 w w' : World} {B E base pb : Nat} {groups : Int} {dp dp' : Nat} {l l' : List ActD} {b0 b1 b2 b3 ab o0 : Nat} {d : Nat} {nv : Value} {nd : Nd} {least most : Int} {lz : Bool} {sO : Option Addr} {cO : Nat} {outs : List Nat} (h : WayM w0 w B E base pb groups dp l b0 b1 b2 b3 ab o0 d nv nd least most lz sO cO outs)
  (hf : FrA base w w') (hp : PaG w' B E base pb groups dp' l') : WayM w0 w' B E base pb groups dp' l' b0 b1 b2 b3 ab o0 d nv nd least most lz sO cO outs :=
 ⟨h.fr.trans hf, hp, hf.box h.x0 (by decide) (by decide), hf.box h.x1 (by decide) (by decide), hf.box h.x2 (by decide) (by decide), hf.box h.x3 (by decide) (by decide), hf.ownT (by decide) (by decide) h.own, h.o3, h.o1, Nat.le_trans h.o2 hf.below.size, h.bb, h.b1w, hf.blk h.blk h.abE, h.abE, hf.node h.node h.pat.le⟩
theorem WayM.drew {w0 w : World} {B E base pb : Nat} {groups : Int} {dp : Nat} {l : List ActD} {b0 b1 b2 b3 ab o0 : Nat} {d : Nat} {nv : Value} {nd : Nd} {least most : Int} {lz : Bool} {sO : Option Addr} {cO : Nat} {outs : List Nat} (h : WayM w0 w B E base pb groups dp l b0 b1 b2 b3 ab o0 d nv nd least most lz sO cO outs) : WayM w0 w.drew B E base pb groups dp l b0 b1 b2 b3 ab o0 d nv nd least most lz sO cO outs :=
 h.step (FrA.new (Below.refl _ _).drew h.wz) (h.pat.later h.wz (Below.refl _ _).drew)
theorem WayM.push {w0 w w3 : World} {B E base pb : Nat} {groups : Int} {dp : Nat} {l : List ActD} {b0 b1 b2 b3 ab o0 : Nat} {d : Nat} {nv : Value} {nd : Nd} {least most : Int} {lz : Bool} {sO : Option Addr} {cO : Nat} {outs : List Nat} (h : WayM w0 w B E base pb groups dp l b0 b1 b2 b3 ab o0 d nv nd least most lz sO cO outs)
  (f : Nat) {s' : Option Addr} {c' : Nat} (hq : Pushed w w3 o0 3 1 (.slice sO outs.length cO) outs.length (endsV outs ++ [.int .i64 f]) s' c') :
  WayM w0 (w3.setCell ⟨b1, 0, none⟩ (.slice s' (outs.length + 1) c')) B E base pb groups dp l b0 b1 b2 b3 ab o0 d nv nd least most lz s' c' (outs ++ [f]) := by
 have hbo : base ≤ o0 := Nat.le_trans h.bb h.o1
 have hf3 := h.fr.pushNew h.o1 hbo h.own hq
 obtain ⟨ho, hb, hoth, hg, hob⟩ := hq
 have hp3 := h.pat.oth (hb.mono hbo) (by decide) (by decide) hoth
 have y0 : IsBox w3 b0 _ _ := hoth _ _ _ h.x0 (by decide)
 have y1 : IsBox w3 b1 _ _ := hoth _ _ _ h.x1 (by decide)
 have y2 : IsBox w3 b2 _ _ := hoth _ _ _ h.x2 (by decide)
 have y3 : IsBox w3 b3 3 (.int .i64 d) := (hg.block b3 (heap_lt h.x3) (fun e => by
  have := (World.ownsRow.lt h.own b3 e.symm).1
  have := h.o3
  omega)).trans h.x3
 have hb1b : base ≤ b1 := Nat.le_trans h.bb h.b1w
 have hsb : Below base w3 (w3.setCell ⟨b1, 0, none⟩ (.slice s' (outs.length + 1) c')) := (Below.refl base w3).setCell (p := ⟨b1, 0, none⟩) hb1b _
 have hfin : FrA base w0 (w3.setCell ⟨b1, 0, none⟩ (.slice s' (outs.length + 1) c')) := by
  refine ⟨hf3.below.trans hsb, fun b cs t h1 h2 h3 => ?_⟩
  have h4 := hf3.oth b cs t h1 h2 h3
  exact (Below.heap_setCell _ ⟨b1, 0, none⟩ _ _ (by have := heap_lt h1; have := h.b1w; show b ≠ b1; omega)).trans h4
 have hle : outs.length + 1 = (outs ++ [f]).length := by simp
 refine ⟨hfin, ?_, (set_oth y1 _ y0 (by decide)).trans y0, ?_, (set_oth y1 _ y2 (by decide)).trans y2, (set_oth y1 _ y3 (by decide)).trans y3, ?_, h.o3, h.o1, Nat.le_trans h.o2 (Nat.le_trans hb.size hsb.size), h.bb, h.b1w, ?_, h.abE, ?_⟩
 ·
  obtain ⟨xs, sA, cA, hp⟩ := hp3
  exact ⟨xs, sA, cA, hp.keep hsb fun b cs t h1 h2 => (set_oth y1 _ h1 (by rcases h2 with rfl | rfl <;> decide)).trans h1⟩
 ·
  rw [← hle]
  exact y1.set _
 ·
  rw [← hle, endsV_app]
  refine own_kept ho fun b hb => ?_
  obtain ⟨cs, h1⟩ := own_type ho hb
  exact set_oth y1 _ h1 (by decide)
 · exact (hsb.block ab h.abE).trans ((hb.mono hbo).block ab h.abE |>.trans h.blk)
 · exact h.node.keep fun b _ h2 => (hsb.block b (by have := h.pat.le; omega)).trans ((hb.mono hbo).block b (by have := h.pat.le; omega))
set_option maxRecDepth 100000 in
set_option maxHeartbeats 8000000 in
theorem way_c (w0 w : World) (B E base pb : Nat) (groups : Int) (dp : Nat) (l : List ActD) (b0 b1 b2 b3 ab o0 : Nat) (d : Nat) (nv : Value) (nd : Nd) (least most : Int) (lz : Bool) (sO : Option Addr) (cO : Nat) (outs : List Nat) (h : WayM w0 w B E base pb groups dp l b0 b1 b2 b3 ab o0 d nv nd least most lz sO cO outs)
  (hG : GoodN nd) (ih : CompK B E base pb groups nd) (hsz : l.length + (sizeA nd + 3) < 100000000) (hd : deepA (d + 1) nd < 1000000) (ho : outs.length < 1000000) :
  Calls Tryd.prog 71 #[.pointer (some ⟨b0, 0, none⟩), .pointer (some ⟨b1, 0, none⟩), .pointer (some ⟨b2, 0, none⟩), .pointer (some ⟨b3, 0, none⟩)] w fun e w' =>
   e = .returned (.tuple #[]) ∧ ∃ s' c', WayM w0 w' B E base pb groups (max dp (deepA (d + 1) nd)) (l ++ way1 (genA nd) l.length) b0 b1 b2 b3 ab o0 d nv nd least most lz s' c' (outs ++ [l.length]) := by
 have HI := Lib.hid ih
 have hgl := genA_len hG
 have hdd := le_deepA hG (d + 1)
 have HGL := Lib.hid hgl
 have H := Lib.hid h
 have u0 : w.cell? ⟨b0, 0, none⟩ = some (.pointer (some ⟨pb, 0, none⟩)) := block_cell h.x0
 obtain ⟨F, hF⟩ : ∃ F, l.length = F := ⟨_, rfl⟩
 have HFL := Lib.hid hF
 rw [hF] at hsz ⊢
 clear h ih hgl hF
 go_enter Tryd.func71, Tryd.ntmps71
 go_wp2_with fail
 refine (emit_g w B E base pb groups dp l H.out.pat ⟨2, 0, 0, none⟩ none rfl (by rw [HFL.out]; omega) H.out.wz).mono ?_
 rintro e w2 ⟨rfl, hf, hp⟩
 rw [HFL.out]
 have H2 := Lib.hid (H.out.step hf hp)
 have v1 : w2.cell? ⟨b1, 0, none⟩ = some (.slice sO outs.length cO) := block_cell H2.out.x1
 clear hf hp u0 H
 have hlen1 : (l ++ [(⟨2, 0, 0, none⟩ : ActD)]).length = F + 1 := by rw [List.length_append, HFL.out]; rfl
 have HL1 := Lib.hid hlen1
 clear hlen1
 go_upto_region 2 with (first | (at_builtin; refine wpList_push_g (w := w2) Tryd.underlying22 Tryd.infoInt rfl (by decide) (by decide) [.int .i64 F] (by intro u hu; rcases List.mem_singleton.mp hu with rfl; rfl) rfl rfl _ _ rfl o0 (.slice sO outs.length cO) outs.length (endsV outs) rfl rfl H2.out.own (by omega) H2.out.o2 ?_; intro s' c' w3 hq; have b3' := hq.2.2.1 _ _ _ H2.out.x1 (by decide); have v2 : w3.cell? ⟨b1, 0, none⟩ = some (.slice sO outs.length cO) := block_cell b3'; have v3 : w3.frozen? ⟨b1, 0, none⟩ = false := block_free b3'; have H3 := Lib.hid (H2.out.push F hq); clear b3' hq))
 generalize w3.setCell ⟨b1, 0, none⟩ (.slice s' (outs.length + 1) c') = w4 at H3 ⊢
 clear v1 v2 v3 H2
 have u0 : w4.cell? ⟨b0, 0, none⟩ = some (.pointer (some ⟨pb, 0, none⟩)) := block_cell H3.out.x0
 obtain ⟨g3, c3, y0, fz, hne, hcl, -, -, hXY, hYX⟩ := H3.out.pat.open' (by rw [HL1.out]; omega)
 rw [HL1.out] at y0
 obtain ⟨u1, y1⟩ : ∃ u, w4.cell? ⟨g3, F * 4 + 1, none⟩ = some (.int .i64 u) := ⟨_, (hcl F (by rw [HL1.out]; omega)).1⟩
 obtain ⟨u2, y2⟩ : ∃ u, w4.cell? ⟨g3, F * 4 + 2, none⟩ = some (.int .i64 u) := ⟨_, (hcl F (by rw [HL1.out]; omega)).2⟩
 have z1 := fz (F * 4 + 1)
 have z2 := fz (F * 4 + 2)
 have r1 : (F : Int) < (F : Int) + 1 := by omega
 have r2 : (0 : Int) ≤ (F : Int) := by omega
 have r3 : IntKind.i64.wrap ((F : Int) + 1) = (F : Int) + 1 := by rw [IntKind.wrap_i64]; omega
 have HXY := Lib.hid (hXY F ((F : Int) + 1) (-1))
 clear fz hne hcl hXY hYX
 go_region
 obtain ⟨hp4, hf4⟩ := HXY.out
 rw [modify_last l _ F _ HFL.out.symm] at hp4
 have H5 := Lib.hid (H3.out.step hf4 hp4).drew
 clear hp4 hf4 HXY y0 y1 y2 z1 z2 H3 u0
 generalize ((w4.setCell ⟨g3, F * 4 + 1, none⟩ (.int .i64 ((F : Int) + 1))).setCell ⟨g3, F * 4 + 2, none⟩ (.int .i64 (-1))).drew = w5 at H5 ⊢
 have u0 : w5.cell? ⟨b0, 0, none⟩ = some (.pointer (some ⟨pb, 0, none⟩)) := block_cell H5.out.x0
 go_wp2_with fail
 refine (emit_g w5 B E base pb groups dp _ H5.out.pat ⟨4, 0, 0, none⟩ none rfl (by rw [List.length_append, HFL.out]; show F + 1 < _; omega) H5.out.wz).mono ?_
 rintro e w6 ⟨rfl, hf, hp⟩
 have H6 := Lib.hid (H5.out.step hf hp)
 have hlen2 : (l ++ [(⟨2, (F : Int) + 1, -1, none⟩ : ActD)] ++ [(⟨4, 0, 0, none⟩ : ActD)]).length = F + 2 := by rw [List.length_append, List.length_append, HFL.out]; rfl
 have hcall := HI.out nv w6.drew _ _ (d + 1) H6.out.drew.node H6.out.drew.pat (by rw [hlen2]; omega) hd H6.out.drew.wz
 rw [hlen2, show ((d + 1 : Nat) : Int) = (d : Int) + 1 from by omega] at hcall
 have HC := Lib.hid hcall
 have a0 : w6.drew.cell? ⟨b0, 0, none⟩ = some (.pointer (some ⟨pb, 0, none⟩)) := block_cell H6.out.x0
 have a2 : w6.drew.cell? ⟨b2, 0, none⟩ = some (.pointer (some ⟨ab, 0, none⟩)) := block_cell H6.out.x2
 have a3 : w6.drew.cell? ⟨b3, 0, none⟩ = some (.int .i64 d) := block_cell H6.out.x3
 have a4 : w6.drew.cell? ⟨ab, 0, none⟩ = some nv := block_cell H6.out.blk
 have r4 : IntKind.i64.wrap ((d : Int) + 1) = (d : Int) + 1 := by rw [IntKind.wrap_i64]; omega
 clear hf hp hcall H5 u0 r1 r2 r3
 go_wp2_with fail
 go_region_law (first
  | (go_simp; go_at_call 36; refine HC.out.mono ?_; rintro e w7 ⟨rfl, hf, hp⟩; have H7 := Lib.hid (H6.out.drew.step hf hp); clear hf hp))
 all_goals
  have u0 : w7.cell? ⟨b0, 0, none⟩ = some (.pointer (some ⟨pb, 0, none⟩)) := block_cell H7.out.x0
  clear a0 a2 a3 a4 r4 H6 HC
  go_wp2_with fail
  refine (emit_g w7 B E base pb groups _ _ H7.out.pat ⟨5, 0, 0, none⟩ none rfl (by rw [List.length_append, hlen2, HGL.out]; omega) H7.out.wz).mono ?_
  rintro e w8 ⟨rfl, hf, hp⟩
  have H8 := Lib.hid (H7.out.step hf hp)
  clear hf hp u0 H7
  go_wp2
  go_end0
  refine ⟨rfl, s', c', ?_⟩
  have := H8.out
  rw [way1]
  simp only [List.append_assoc, List.cons_append, List.nil_append] at this
  exact this
end Go.Proofs.YtdegdoilpamjjaaDoor
