/- The document's reader of patterns: its nodes in memory; contract of node. Condition: fewer than 10^9 nodes. -/
import Derived.Test.YtdegdoilpamjjaaDoorCAe
import Derived.Test.YtdegdoilpamjjaaDoorCAk
namespace Go.Proofs.YtdegdoilpamjjaaDoor
open Go.RowKit
set_option linter.unusedVariables false
set_option linter.unusedSimpArgs false
structure NdF where
 kind : Int
 group : Int
 least : Int
 most : Int
 lazy : Bool
 nt : Bool
 items : Value
 kv : Value
 kids : List Int
def cellsF (x : NdF) : List Value := [.int .i64 x.kind, .int .i64 x.group, .int .i64 x.least, .int .i64 x.most, .bool x.lazy, .bool x.nt, x.items, x.kv]
structure KidF (w : World) (rb pb : Nat) (nv : Value) (x : NdF) : Prop where
 kv : ∃ s m c, x.kv = .slice s m c ∧ x.kids.length = m ∧ IsInts w s m (gl x.kids) ∧ ∀ a, s = some a → a.block < w.heap.size ∧ a.block ≠ rb ∧ a.block ≠ pb ∧ nv.ownBlock ≠ some a.block
 it : ∃ s m c, x.items = .slice s m c
def XF (rb pb : Nat) (nv : Value) : Nat → Prop := fun b => b = rb ∨ b = pb ∨ nv.ownBlock = some b
structure Mv (rb pb : Nat) (w : World) (nv : Value) (w' : World) (nv' : Value) : Prop where
 touch : Touch (XF rb pb nv) w w'
 own : nv'.ownBlock = nv.ownBlock ∨ ∃ b, nv'.ownBlock = some b ∧ w.heap.size ≤ b
theorem Mv.refl (rb pb : Nat) (w : World) (nv : Value) : Mv rb pb w nv w nv := ⟨Touch.refl _ _, .inl rfl⟩
theorem Mv.trans {rb pb : Nat} {w1 w2 w3 : World} {n1 n2 n3 : Value} (h : Mv rb pb w1 n1 w2 n2) (k : Mv rb pb w2 n2 w3 n3) : Mv rb pb w1 n1 w3 n3 := by
 refine ⟨h.touch.trans k.touch fun x hx => ?_, ?_⟩
 ·
  rcases hx with e | e | e
  · exact .inl (.inl e)
  · exact .inl (.inr (.inl e))
  ·
   rcases h.own with g | ⟨b, g, hb⟩
   · exact .inl (.inr (.inr (g ▸ e)))
   ·
    rw [g] at e
    exact .inr (Option.some.inj e ▸ hb)
 ·
  rcases k.own with e | ⟨b, e, hb⟩
  ·
   rcases h.own with g | ⟨b, g, hb⟩
   · exact .inl (e.trans g)
   · exact .inr ⟨b, e.trans g, hb⟩
  · exact .inr ⟨b, e, Nat.le_trans h.touch.size hb⟩
theorem Mv.of {rb pb : Nat} {w w' : World} {nv : Value} (h : Touch (fun b => b = rb) w w') : Mv rb pb w nv w' nv := ⟨h.wide fun b _ e => .inl e, .inl rfl⟩
theorem Mv.new {rb pb : Nat} {w w' : World} {nv : Value} (h : Below w.heap.size w w') : Mv rb pb w nv w' nv := ⟨Touch.of h, .inl rfl⟩
theorem ints_kept {w w' : World} {s : Option Addr} {m : Nat} {f : Nat → Int} (h : IsInts w s m f) (hs : w.heap.size ≤ w'.heap.size) (hk : ∀ a, s = some a → w'.heap[a.block]? = w.heap[a.block]?) : IsInts w' s m f := by
 rcases h with h | ⟨b, off, rfl, hb, hc⟩
 · exact .inl h
 · exact .inr ⟨b, off, rfl, Nat.lt_of_lt_of_le hb hs, fun i hi => (World.cell?_of_block (w := w) (show w'.heap[b]? = w.heap[b]? from hk ⟨b, off, none⟩ rfl)).trans (hc i hi)⟩
theorem KidF.move {w w' : World} {rb pb : Nat} {nv nv' : Value} {x : NdF} (h : KidF w rb pb nv x) (m : Mv rb pb w nv w' nv') : KidF w' rb pb nv' x := by
 obtain ⟨⟨s, k, c, e, hl, hi, ha⟩, h2⟩ := h
 refine ⟨⟨s, k, c, e, hl, ints_kept hi m.touch.size fun a he => ?_, fun a he => ?_⟩, h2⟩
 ·
  obtain ⟨a1, a2, a3, a4⟩ := ha a he
  exact m.touch.block _ a1 (fun o => by
   rcases o with o | o | o
   · exact a2 o
   · exact a3 o
   · exact a4 o)
 ·
  obtain ⟨a1, a2, a3, a4⟩ := ha a he
  refine ⟨Nat.lt_of_lt_of_le a1 m.touch.size, a2, a3, fun o => ?_⟩
  rcases m.own with e | ⟨b, e, hb⟩
  · exact a4 (e ▸ o)
  ·
   rw [e] at o
   have := Option.some.inj o
   omega
structure RfM (w : World) (lo rb pb : Nat) (sl : Option Addr) (n c : Nat) (src : List Int) (ig : Bool) (a : Nat) (bad : Bool) (g : Nat) (nv : Value) (N : List NdF) : Prop where
 rd : FrM w rb pb sl n c src a bad
 pbk : w.heap[pb]? = some (.cells #[nv, .int .i64 0, .int .i64 g, .bool ig] 67 (0, 0))
 own : w.ownsRow lo 138 8 nv N.length (N.flatMap cellsF)
 kid : ∀ x ∈ N, KidF w rb pb nv x
 low : lo ≤ rb ∧ lo ≤ pb
 sll : ∀ x, sl = some x → x.block < lo
theorem RfM.ne {w : World} {lo rb pb : Nat} {sl : Option Addr} {n c : Nat} {src : List Int} {ig : Bool} {a : Nat} {bad : Bool} {g : Nat} {nv : Value} {N : List NdF} (h : RfM w lo rb pb sl n c src ig a bad g nv N) : pb ≠ rb ∧ (∀ b, nv.ownBlock = some b → b ≠ rb ∧ b ≠ pb) := by
 refine ⟨type_ne h.pbk h.rd.blk (by decide), fun b hb => ?_⟩
 obtain ⟨cs, h1⟩ := own_type h.own hb
 exact ⟨type_ne h1 h.rd.blk (by decide), type_ne h1 h.pbk (by decide)⟩
theorem RfM.at_ {w w' : World} {lo rb pb : Nat} {sl : Option Addr} {n c : Nat} {src : List Int} {ig : Bool} {a a' : Nat} {bad bad' : Bool} {g : Nat} {nv : Value} {N : List NdF} (h : RfM w lo rb pb sl n c src ig a bad g nv N) (ht : Touch (fun b => b = rb) w w') (hr : FrM w' rb pb sl n c src a' bad') : RfM w' lo rb pb sl n c src ig a' bad' g nv N :=
 ⟨hr, (ht.block _ (heap_lt h.pbk) h.ne.1).trans h.pbk, own_kept h.own fun b hb => (by
  obtain ⟨cs, h1⟩ := own_type h.own hb
  exact ht.block _ (heap_lt h1) (h.ne.2 b hb).1), fun x hx => (h.kid x hx).move (Mv.of ht), h.low, h.sll⟩
theorem RfM.later {w w' : World} {lo rb pb : Nat} {sl : Option Addr} {n c : Nat} {src : List Int} {ig : Bool} {a : Nat} {bad : Bool} {g : Nat} {nv : Value} {N : List NdF} (h : RfM w lo rb pb sl n c src ig a bad g nv N) (hb : Below w.heap.size w w') : RfM w' lo rb pb sl n c src ig a bad g nv N :=
 ⟨h.rd.later hb, (hb.block _ (heap_lt h.pbk)).trans h.pbk, own_later h.own hb, fun x hx => (h.kid x hx).move (Mv.new hb), h.low, h.sll⟩
theorem RfM.drewN {w : World} {lo rb pb : Nat} {sl : Option Addr} {n c : Nat} {src : List Int} {ig : Bool} {a : Nat} {bad : Bool} {g : Nat} {nv : Value} {N : List NdF} (h : RfM w lo rb pb sl n c src ig a bad g nv N) (m : Nat) : RfM (w.drewN m) lo rb pb sl n c src ig a bad g nv N := h.later (below_drewN (Below.refl _ _))
theorem RfM.push {w w3 : World} {lo rb pb : Nat} {sl : Option Addr} {n c : Nat} {src : List Int} {ig : Bool} {a : Nat} {bad : Bool} {g : Nat} {nv : Value} {N : List NdF} (h : RfM w lo rb pb sl n c src ig a bad g nv N) (x : NdF) (hx : KidF w rb pb nv x) {s' : Option Addr} {c' : Nat}
  (hq : Pushed w w3 lo 138 8 nv N.length (N.flatMap cellsF ++ cellsF x) s' c') :
  Mv rb pb w nv (w3.setCell ⟨pb, 0, none⟩ (.slice s' (N.length + 1) c')) (.slice s' (N.length + 1) c') ∧ RfM (w3.setCell ⟨pb, 0, none⟩ (.slice s' (N.length + 1) c')) lo rb pb sl n c src ig a bad g (.slice s' (N.length + 1) c') (N ++ [x]) := by
 obtain ⟨ho, hb, hoth, hgr, hat⟩ := hq
 have b3 := hoth _ _ _ h.pbk (by decide)
 have r3 := hoth _ _ _ h.rd.blk (by decide)
 have hm : Mv rb pb w nv (w3.setCell ⟨pb, 0, none⟩ (.slice s' (N.length + 1) c')) (.slice s' (N.length + 1) c') := by
  refine ⟨(Touch.grown (O := XF rb pb nv) hgr (fun b e => .inr (.inr e))).trans (Touch.setCell (XF rb pb nv) w3 (p := ⟨pb, 0, none⟩) (.inr (.inl rfl)) _) (fun x hx => .inl hx), hat⟩
 have hsrc : ∀ x, sl = some x → (w3.setCell ⟨pb, 0, none⟩ (.slice s' (N.length + 1) c')).heap[x.block]? = w.heap[x.block]? := fun x hx => by
  have := h.sll x hx
  exact (Below.heap_setCell _ _ _ _ (by have h2 := h.low.2; intro (e : x.block = pb); omega)).trans (hb.block _ this)
 refine ⟨hm, ⟨⟨(Below.heap_setCell _ _ _ _ h.ne.1.symm).trans r3, h.rd.len, ints_kept h.rd.src hm.touch.size hsrc, h.rd.ne, h.rd.at', h.rd.n30⟩, by rw [block_set _ b3]; simp, ?_, ?_, h.low, h.sll⟩⟩
 ·
  rw [List.length_append, List.length_singleton, List.flatMap_append, List.flatMap_cons, List.flatMap_nil, List.append_nil]
  refine own_kept ho fun b hb => ?_
  obtain ⟨cs, h1⟩ := own_type ho hb
  exact Below.heap_setCell _ _ _ _ (type_ne h1 b3 (by decide))
 ·
  intro y hy
  rcases List.mem_append.mp hy with hy | hy
  · exact (h.kid y hy).move hm
  ·
   rw [List.mem_singleton] at hy
   subst hy
   exact hx.move hm
theorem Tryd.infoFNode : (Tryd.prog.info? 138).map (fun i => (i.zero, i.size, i.bytes)) = some (some (.agg #[.int .i64 0, .int .i64 0, .int .i64 0, .int .i64 0, .bool false, .bool false, .slice none 0 0, .slice none 0 0]), 8, 88) := by kernel_rfl
theorem own_val {w : World} {base : Nat} {e : TypeId} {size n : Nat} {v : Value} {xs : List Value} (h : w.ownsRow base e size v n xs) : ∃ s c, v = .slice s n c := by
 rcases h.2 with ⟨h1, h2⟩ | ⟨g, cap, cur, h1, _⟩
 · subst h2; exact ⟨none, 0, h1⟩
 · exact ⟨_, _, h1⟩
set_option maxRecDepth 100000 in
set_option maxHeartbeats 8000000 in
theorem node_f (w : World) (lo rb pb : Nat) (sl : Option Addr) (n c : Nat) (src : List Int) (ig : Bool) (a : Nat) (bad : Bool) (g : Nat) (nv : Value) (N : List NdF) (h : RfM w lo rb pb sl n c src ig a bad g nv N) (x : NdF) (hx : KidF w rb pb nv x) (hN : N.length < 1000000000) :
  Calls Tryd.prog 67 #[.pointer (some ⟨rb, 0, none⟩), .agg #[.int .i64 x.kind, .int .i64 x.group, .int .i64 x.least, .int .i64 x.most, .bool x.lazy, .bool x.nt, x.items, x.kv]] w fun e w' =>
   e = .returned (.int .i64 N.length) ∧ ∃ nv', Mv rb pb w nv w' nv' ∧ RfM w' lo rb pb sl n c src ig a bad g nv' (N ++ [x]) := by
 obtain ⟨sA, cA, rfl⟩ := own_val h.own
 have HX := Lib.hid hx
 obtain ⟨⟨ks, km, kc, hkv, -⟩, ⟨is, im, ic, hit⟩⟩ := hx
 obtain ⟨k, gr, le, mo, lz, nt, it, kv, kd⟩ := x
 simp only at hkv hit
 subst hkv hit
 simp only
 have h1 := one_new w (.cells #[.int .i64 k, .int .i64 gr, .int .i64 le, .int .i64 mo, .bool lz, .bool nt, .slice is im ic, .slice ks km kc] 138)
 have hb1 := below_newJ w (.cells #[.int .i64 k, .int .i64 gr, .int .i64 le, .int .i64 mo, .bool lz, .bool nt, .slice is im ic, .slice ks km kc] 138)
 have hbase : lo ≤ w.heap.size := Nat.le_trans h.low.1 (Nat.le_of_lt (heap_lt h.rd.blk))
 have HB1 := Lib.hid hb1
 have HO := Lib.hid h1
 have HP := Lib.hid h
 obtain ⟨m, hm⟩ : ∃ m, N.length = m := ⟨_, rfl⟩
 have HL := Lib.hid hm
 rw [hm] at hN ⊢
 clear hb1 h1 h hm
 go_enter Tryd.func67, Tryd.ntmps67
 go_wp2_with fail
 generalize w.alloc (.cells #[.int .i64 k, .int .i64 gr, .int .i64 le, .int .i64 mo, .bool lz, .bool nt, .slice is im ic, .slice ks km kc] 138) = w1 at HB1 HO ⊢
 have hd := (Below.refl w1.heap.size w1).drew
 have hbd : Below w.heap.size w w1.drew := HB1.out.trans (hd.mono HB1.out.size)
 have HPd := Lib.hid (HP.out.later hbd)
 have HXd := Lib.hid (HX.out.move (Mv.new hbd))
 have HMd := Lib.hid (Mv.new (rb := rb) (pb := pb) (nv := .slice sA N.length cA) hbd)
 have HZd := Lib.hid (show lo ≤ w1.drew.heap.size from Nat.le_trans hbase hbd.size)
 have hbx : w1.drew.heap[w.heap.size]? = some (.cells #[.int .i64 k, .int .i64 gr, .int .i64 le, .int .i64 mo, .bool lz, .bool nt, .slice is im ic, .slice ks km kc] 138 (0, 0)) := HO.out
 clear hd hbd HP HB1 HO HX
 generalize w.heap.size = bx at hbx ⊢
 have x0 : w1.drew.cell? ⟨bx, 0, none⟩ = some (.int .i64 k) := block_cell hbx
 have x1 : w1.drew.cell? ⟨bx, 1, none⟩ = some (.int .i64 gr) := block_cell hbx
 have x2 : w1.drew.cell? ⟨bx, 2, none⟩ = some (.int .i64 le) := block_cell hbx
 have x3 : w1.drew.cell? ⟨bx, 3, none⟩ = some (.int .i64 mo) := block_cell hbx
 have x4 : w1.drew.cell? ⟨bx, 4, none⟩ = some (.bool lz) := block_cell hbx
 have x5 : w1.drew.cell? ⟨bx, 5, none⟩ = some (.bool nt) := block_cell hbx
 have x6 : w1.drew.cell? ⟨bx, 6, none⟩ = some (.slice is im ic) := block_cell hbx
 have x7 : w1.drew.cell? ⟨bx, 7, none⟩ = some (.slice ks km kc) := block_cell hbx
 have r0 : w1.drew.cell? ⟨rb, 0, none⟩ = some (.pointer (some ⟨pb, 0, none⟩)) := block_cell HPd.out.rd.blk
 have k0 : w1.drew.cell? ⟨pb, 0, none⟩ = some (.slice sA m cA) := by rw [← HL.out]; exact block_cell HPd.out.pbk
 have HN := Lib.hid (HPd.out.later (below_newJ w1.drew (.cells #[.int .i64 k, .int .i64 gr, .int .i64 le, .int .i64 mo, .bool lz, .bool nt, .slice is im ic, .slice ks km kc] 138)))
 have r1 : (w1.drew.alloc (.cells #[.int .i64 k, .int .i64 gr, .int .i64 le, .int .i64 mo, .bool lz, .bool nt, .slice is im ic, .slice ks km kc] 138)).cell? ⟨rb, 0, none⟩ = some (.pointer (some ⟨pb, 0, none⟩)) := block_cell HN.out.rd.blk
 have k1 : (w1.drew.alloc (.cells #[.int .i64 k, .int .i64 gr, .int .i64 le, .int .i64 mo, .bool lz, .bool nt, .slice is im ic, .slice ks km kc] 138)).cell? ⟨pb, 0, none⟩ = some (.slice sA m cA) := by rw [← HL.out]; exact block_cell HN.out.pbk
 have r1u : (w1.alloc (.cells #[.int .i64 k, .int .i64 gr, .int .i64 le, .int .i64 mo, .bool lz, .bool nt, .slice is im ic, .slice ks km kc] 138)).cell? ⟨rb, 0, none⟩ = some (.pointer (some ⟨pb, 0, none⟩)) := r1
 have k1u : (w1.alloc (.cells #[.int .i64 k, .int .i64 gr, .int .i64 le, .int .i64 mo, .bool lz, .bool nt, .slice is im ic, .slice ks km kc] 138)).cell? ⟨pb, 0, none⟩ = some (.slice sA m cA) := k1
 have HOW := Lib.hid (show w1.drew.ownsRow lo 138 8 (.slice sA m cA) m (N.flatMap cellsF) from by have := HPd.out.own; rw [HL.out] at this; exact this)
 clear HN
 go_region_law (first
  | (refine step_push_g (w := w1.drew) Tryd.underlying65 Tryd.infoFNode rfl (by decide) (by decide) [.int .i64 k, .int .i64 gr, .int .i64 le, .int .i64 mo, .bool lz, .bool nt, .slice is im ic, .slice ks km kc] (by simp [Value.oneCell']) rfl ?_ (.tmp 15) (.tmp 17) ?_ lo (.slice sA m cA) m (N.flatMap cellsF) ?_ ?_ HOW.out (by omega) HZd.out ?_; rfl; rfl; simp [Act.eval]; simp [Act.eval]; intro s' c' w3 hq; have b3 := hq.2.2.1 _ _ _ HPd.out.pbk (by decide); have b4 := hq.2.2.1 _ _ _ HPd.out.rd.blk (by decide); have k2 : w3.cell? ⟨pb, 0, none⟩ = some (.slice sA m cA) := by { rw [← HL.out]; exact block_cell b3 }; have k3 : w3.frozen? ⟨pb, 0, none⟩ = false := block_free b3; have r2 : w3.cell? ⟨rb, 0, none⟩ = some (.pointer (some ⟨pb, 0, none⟩)) := block_cell b4; have HP3 := Lib.hid (HPd.out.push ⟨k, gr, le, mo, lz, nt, .slice is im ic, .slice ks km kc, kd⟩ HXd.out (by rw [HL.out]; exact hq)); clear b3 b4 hq))
 all_goals
  obtain ⟨hm4, hp4⟩ := HP3.out
  rw [HL.out] at hm4 hp4
  have hl4 : (N ++ [(⟨k, gr, le, mo, lz, nt, .slice is im ic, .slice ks km kc, kd⟩ : NdF)]).length = m + 1 := by rw [List.length_append, List.length_singleton, HL.out]
  generalize w3.setCell ⟨pb, 0, none⟩ (.slice s' (m + 1) c') = w4 at hm4 hp4 ⊢
  have y1 : w4.cell? ⟨pb, 0, none⟩ = some (.slice s' (m + 1) c') := block_cell hp4.pbk
  have y0 : w4.cell? ⟨rb, 0, none⟩ = some (.pointer (some ⟨pb, 0, none⟩)) := block_cell hp4.rd.blk
  have HP4 := Lib.hid hp4
  have hmd := HMd.out
  rw [HL.out] at hmd
  have HM4 := Lib.hid (hmd.trans hm4)
  clear hmd hm4 hp4 x0 x1 x2 x3 x4 x5 x6 x7 r0 k0 r1 k1 r1u k1u k2 k3 r2 hbx hl4
  have q1 : IntKind.i64.wrap (((m + 1 : Nat) : Int) - 1) = (m : Int) := by rw [IntKind.wrap_i64]; omega
  have q2 : IntKind.i64.wrap ((m : Int) + 1 - 1) = (m : Int) := by rw [IntKind.wrap_i64]; omega
  go_wp2
  go_ret
  exact ⟨rfl, _, HM4.out, HP4.out⟩
end Go.Proofs.YtdegdoilpamjjaaDoor
