/- The document's reader of patterns: a row of kids while it is read. No walk. Contracts of the document's reader of patterns: row, above member. Condition: no more than 2^30 ints. Contracts: compiled, Groups and Match, in general. Contract of All: all matches of a line. Condition: fewer than 2^29 ints. -/
import Derived.Laws.OwnMore
import Derived.Great.BuildSlice
import Derived.Test.YtdegdoilpamjjaaDoorCAw
import Derived.Test.YtdegdoilpamjjaaDoorCAn
import Derived.Test.YtdegdoilpamjjaaDoorCAq
import Derived.Test.YtdegdoilpamjjaaDoorCAv
import Derived.Test.YtdegdoilpamjjaaDoorCAb
namespace Go.Proofs.YtdegdoilpamjjaaDoor
open Go.RowKit
set_option linter.unusedVariables false
set_option linter.unusedSimpArgs false
theorem RfM.apart {w w' : World} {lo rb pb : Nat} {sl : Option Addr} {n c : Nat} {src : List Int} {ig : Bool} {a : Nat} {bad : Bool} {g : Nat} {nv : Value} {N : List NdF} {O : Nat → Prop} (h : RfM w lo rb pb sl n c src ig a bad g nv N) (ht : Touch O w w')
  (hO : ∀ b, O b → lo ≤ b ∧ b ≠ rb ∧ b ≠ pb ∧ nv.ownBlock ≠ some b ∧ ∀ x ∈ N, ∀ (q : Addr) (m c : Nat), x.kv = .slice (some q) m c → q.block ≠ b) : RfM w' lo rb pb sl n c src ig a bad g nv N := by
 have hrb : w'.heap[rb]? = w.heap[rb]? := ht.block rb (heap_lt h.rd.blk) fun o => (hO rb o).2.1 rfl
 refine ⟨⟨hrb.trans h.rd.blk, h.rd.len, ints_kept h.rd.src ht.size fun q hq => ?_, h.rd.ne, h.rd.at', h.rd.n30⟩, (ht.block pb (heap_lt h.pbk) fun o => (hO pb o).2.2.1 rfl).trans h.pbk, own_kept h.own fun b hb => ?_, fun x hx => ?_, h.low, h.sll⟩
 ·
  rcases Nat.lt_or_ge q.block w.heap.size with hl | hl
  · exact ht.block _ hl fun o => by have := (hO _ o).1; have := h.sll q hq; omega
  ·
   have := h.sll q hq
   have := h.low.1
   have := heap_lt h.rd.blk
   omega
 · exact ht.block b (World.ownsRow.lt h.own b hb).2 fun o => (hO b o).2.2.2.1 hb
 ·
  obtain ⟨⟨s, k, c', e, hl, hi, ha⟩, h2⟩ := h.kid x hx
  refine ⟨⟨s, k, c', e, hl, ints_kept hi ht.size fun q hq => ?_, fun q hq => ?_⟩, h2⟩
  · exact ht.block _ (ha q hq).1 fun o => (hO _ o).2.2.2.2 x hx q k c' (by rw [e, hq]) rfl
  · exact ⟨Nat.lt_of_lt_of_le (ha q hq).1 ht.size, (ha q hq).2⟩
theorem RfM.grp {w : World} {lo rb pb : Nat} {sl : Option Addr} {n c : Nat} {src : List Int} {ig : Bool} {a : Nat} {bad : Bool} {g : Nat} {nv : Value} {N : List NdF} (h : RfM w lo rb pb sl n c src ig a bad g nv N) (g' : Nat) :
  RfM (w.setCell ⟨pb, 2, none⟩ (.int .i64 g')) lo rb pb sl n c src ig a bad g' nv N ∧ Mv rb pb w nv (w.setCell ⟨pb, 2, none⟩ (.int .i64 g')) nv := by
 have hm : Mv rb pb w nv (w.setCell ⟨pb, 2, none⟩ (.int .i64 g')) nv := ⟨Touch.setCell (XF rb pb nv) w (p := ⟨pb, 2, none⟩) (.inr (.inl rfl)) _, .inl rfl⟩
 have hrb : (w.setCell ⟨pb, 2, none⟩ (.int .i64 g')).heap[rb]? = w.heap[rb]? := Below.heap_setCell _ _ _ _ h.ne.1.symm
 refine ⟨⟨⟨hrb.trans h.rd.blk, h.rd.len, ints_kept h.rd.src hm.touch.size fun q hq => Below.heap_setCell _ _ _ _ (by have := h.sll q hq; have := h.low.2; show q.block ≠ pb; omega), h.rd.ne, h.rd.at', h.rd.n30⟩, by rw [block_set _ h.pbk]; rfl, own_kept h.own fun b hb => Below.heap_setCell _ _ _ _ (h.ne.2 b hb).2, fun x hx => (h.kid x hx).move hm, h.low, h.sll⟩, hm⟩
theorem RfM.go {w : World} {lo rb pb : Nat} {sl : Option Addr} {n c : Nat} {src : List Int} {ig : Bool} {a : Nat} {bad : Bool} {g : Nat} {nv : Value} {N : List NdF} (h : RfM w lo rb pb sl n c src ig a bad g nv N) (k : Nat) (hk : a + k ≤ n) :
  RfM (w.setCell ⟨rb, 2, none⟩ (.int .i64 ((a + k : Nat) : Int))) lo rb pb sl n c src ig (a + k) bad g nv N ∧ Mv rb pb w nv (w.setCell ⟨rb, 2, none⟩ (.int .i64 ((a + k : Nat) : Int))) nv :=
 have ht := Touch.setCell (fun b => b = rb) w (p := ⟨rb, 2, none⟩) rfl (.int .i64 ((a + k : Nat) : Int))
 ⟨h.at_ ht (h.rd.step k hk), Mv.of ht⟩
theorem KGe.mono {B B' : Nat} {x : NdF} (h : KGe B x) (hb : B' ≤ B) : KGe B' x := fun a m c e => Nat.le_trans hb (h a m c e)
structure RowS (w0 w : World) (lo rb pb : Nat) (sl : Option Addr) (n c : Nat) (src : List Int) (ig : Bool) (lb : Nat) (kd gr : Int) (a : Nat) (bad : Bool) (g : Nat) (nv0 nv : Value) (N0 M : List NdF) (sk : Option Addr) (m ck : Nat) (ks : List Int) : Prop where
 rf : RfM w lo rb pb sl n c src ig a bad g nv (N0 ++ M)
 mv : Mv rb pb w0 nv0 w nv
 lge : w0.heap.size ≤ lb
 blk : w.heap[lb]? = some (.cells #[.int .i64 kd, .int .i64 gr, .int .i64 0, .int .i64 0, .bool false, .bool false, .slice none 0 0, .slice sk m ck] 138 (0, 0))
 nlb : nv.ownBlock ≠ some lb
 own : OwnInts w w0.heap.size (.slice sk m ck) ks
 low : lo ≤ w0.heap.size
 kne : ∀ x ∈ N0 ++ M, ∀ (q : Addr) (i j : Nat), x.kv = .slice (some q) i j → q.block ≠ lb ∧ (Value.slice sk m ck).ownBlock ≠ some q.block
 kge : ∀ x ∈ M, KGe w0.heap.size x
section
variable {w0 w w' : World} {lo rb pb : Nat} {sl : Option Addr} {n c : Nat} {src : List Int} {ig : Bool} {lb : Nat} {kd gr : Int} {a : Nat} {bad : Bool} {g : Nat} {nv0 nv : Value} {N0 M : List NdF} {sk : Option Addr} {m ck : Nat} {ks : List Int}
theorem RfM.kid_lt {N : List NdF} (h : RfM w lo rb pb sl n c src ig a bad g nv N) {x : NdF} (hx : x ∈ N) {q : Addr} {i j : Nat} (e : x.kv = .slice (some q) i j) : q.block < w.heap.size := by
 obtain ⟨⟨s, k, c', e', -, -, ha⟩, -⟩ := h.kid x hx
 rw [e] at e'
 cases e'
 exact (ha q rfl).1
theorem RowS.begin (h : RfM w0 lo rb pb sl n c src ig a bad g nv0 N0) (w1 : World) (hb : Below w0.heap.size w0 w1) (hk : w1.heap[w0.heap.size]? = some (.cells #[.int .i64 kd, .int .i64 0, .int .i64 0, .int .i64 0, .bool false, .bool false, .slice none 0 0, .slice none 0 0] 138 (0, 0))) :
  RowS w0 w1 lo rb pb sl n c src ig w0.heap.size kd 0 a bad g nv0 nv0 N0 [] none 0 0 [] := by
 refine ⟨by rw [List.append_nil]; exact h.later hb, Mv.new hb, Nat.le_refl _, hk, fun e => ?_, OwnInts.nil _ _, Nat.le_trans h.low.1 (Nat.le_of_lt (heap_lt h.rd.blk)), fun x hx q i j e => ⟨?_, fun e => by cases e⟩, fun x hx => by cases hx⟩
 ·
  have := (World.ownsRow.lt h.own _ e).2
  omega
 ·
  rw [List.append_nil] at hx
  have := h.kid_lt hx e
  omega
theorem RowS.call {a' : Nat} {bad' : Bool} {g' : Nat} {nv' : Value} {M' : List NdF} (h : RowS w0 w lo rb pb sl n c src ig lb kd gr a bad g nv0 nv N0 M sk m ck ks) (hm : Mv rb pb w nv w' nv') (hr : RfM w' lo rb pb sl n c src ig a' bad' g' nv' (N0 ++ M ++ M')) (hk : ∀ x ∈ M', KGe w.heap.size x) :
  RowS w0 w' lo rb pb sl n c src ig lb kd gr a' bad' g' nv0 nv' N0 (M ++ M') sk m ck ks := by
 have hl := heap_lt h.blk
 have hnb : ¬ XF rb pb nv lb := fun o => by
  rcases o with o | o | o
  · exact type_ne h.blk h.rf.rd.blk (by decide) o
  · exact type_ne h.blk h.rf.pbk (by decide) o
  · exact h.nlb o
 have hob : ∀ b, (Value.slice sk m ck).ownBlock = some b → b < w.heap.size ∧ ¬ XF rb pb nv b := fun b hb => by
  obtain ⟨cs, h1⟩ := own_type (e := 3) h.own hb
  refine ⟨heap_lt h1, fun o => ?_⟩
  rcases o with o | o | o
  · exact type_ne h1 h.rf.rd.blk (by decide) o
  · exact type_ne h1 h.rf.pbk (by decide) o
  ·
   obtain ⟨cs2, h2⟩ := own_type h.rf.own o
   exact type_ne h1 h2 (by decide) rfl
 refine ⟨by rw [← List.append_assoc]; exact hr, h.mv.trans hm, h.lge, (hm.touch.block lb hl hnb).trans h.blk, fun e => ?_, h.own.kept fun b hb e => hm.touch.block b hb (hob b e).2, h.low, fun x hx q i j e => ?_, fun x hx => ?_⟩
 ·
  rcases hm.own with o | ⟨b, o, hb⟩
  · exact h.nlb (o ▸ e)
  ·
   rw [o] at e
   have := Option.some.inj e
   omega
 ·
  rw [← List.append_assoc] at hx
  rcases List.mem_append.mp hx with hx | hx
  · exact h.kne x hx q i j e
  ·
   have := hk x hx q i j e
   exact ⟨by omega, fun e2 => by have := (hob _ e2).1; omega⟩
 ·
  rcases List.mem_append.mp hx with hx | hx
  · exact h.kge x hx
  · exact (hk x hx).mono h.mv.touch.size
theorem RowS.later (h : RowS w0 w lo rb pb sl n c src ig lb kd gr a bad g nv0 nv N0 M sk m ck ks) (hb : Below w.heap.size w w') : RowS w0 w' lo rb pb sl n c src ig lb kd gr a bad g nv0 nv N0 M sk m ck ks := by
 have := h.call (M' := []) (Mv.new hb) (by rw [List.append_nil]; exact h.rf.later hb) (fun x hx => by cases hx)
 rwa [List.append_nil] at this
theorem RowS.drewN (h : RowS w0 w lo rb pb sl n c src ig lb kd gr a bad g nv0 nv N0 M sk m ck ks) (i : Nat) : RowS w0 (w.drewN i) lo rb pb sl n c src ig lb kd gr a bad g nv0 nv N0 M sk m ck ks := h.later (below_drewN (Below.refl _ _))
theorem RowS.go (h : RowS w0 w lo rb pb sl n c src ig lb kd gr a bad g nv0 nv N0 M sk m ck ks) (k : Nat) (hk : a + k ≤ n) : RowS w0 (w.setCell ⟨rb, 2, none⟩ (.int .i64 ((a + k : Nat) : Int))) lo rb pb sl n c src ig lb kd gr (a + k) bad g nv0 nv N0 M sk m ck ks := by
 obtain ⟨h1, h2⟩ := h.rf.go k hk
 have := h.call (M' := []) h2 (by rw [List.append_nil]; exact h1) (fun x hx => by cases hx)
 rwa [List.append_nil] at this
theorem RowS.grp (h : RowS w0 w lo rb pb sl n c src ig lb kd gr a bad g nv0 nv N0 M sk m ck ks) (g' : Nat) : RowS w0 (w.setCell ⟨pb, 2, none⟩ (.int .i64 g')) lo rb pb sl n c src ig lb kd gr a bad g' nv0 nv N0 M sk m ck ks := by
 obtain ⟨h1, h2⟩ := h.rf.grp g'
 have := h.call (M' := []) h2 (by rw [List.append_nil]; exact h1) (fun x hx => by cases hx)
 rwa [List.append_nil] at this
theorem RowS.setl (h : RowS w0 w lo rb pb sl n c src ig lb kd gr a bad g nv0 nv N0 M sk m ck ks) (gr' : Int) : RowS w0 (w.setCell ⟨lb, 1, none⟩ (.int .i64 gr')) lo rb pb sl n c src ig lb kd gr' a bad g nv0 nv N0 M sk m ck ks := by
 have ht : Touch (fun b => b = lb) w (w.setCell ⟨lb, 1, none⟩ (.int .i64 gr')) := Touch.setCell (fun b => b = lb) w (p := ⟨lb, 1, none⟩) rfl _
 have hrf := h.rf.apart ht fun b hb => by
  subst hb
  exact ⟨Nat.le_trans h.low h.lge, type_ne h.blk h.rf.rd.blk (by decide), type_ne h.blk h.rf.pbk (by decide), h.nlb, fun x hx q i j e => (h.kne x hx q i j e).1⟩
 refine ⟨hrf, ⟨h.mv.touch.trans ht fun x hx => .inr (hx ▸ h.lge), h.mv.own⟩, h.lge, by rw [block_set _ h.blk]; rfl, h.nlb, h.own.kept fun b hb e => ?_, h.low, h.kne, h.kge⟩
 obtain ⟨cs, h1⟩ := own_type (e := 3) h.own e
 exact Below.heap_setCell _ ⟨lb, 1, none⟩ _ _ (type_ne h1 h.blk (by decide))
theorem RowS.ownm (h : RowS w0 w lo rb pb sl n c src ig lb kd gr a bad g nv0 nv N0 M sk m ck ks) : w.ownsRow w0.heap.size 3 1 (.slice sk m ck) m (ks.map (Value.int .i64)) := by
 have h1 := h.own
 unfold OwnInts at h1
 rwa [← h.own.len] at h1
theorem RowS.push (h : RowS w0 w lo rb pb sl n c src ig lb kd gr a bad g nv0 nv N0 M sk m ck ks) {k : Int} {w3 : World} {s' : Option Addr} {c' : Nat} (hp : Pushed w w3 w0.heap.size 3 1 (.slice sk m ck) m (ks.map (Value.int .i64) ++ [.int .i64 k]) s' c') :
  RowS w0 (w3.setCell ⟨lb, 7, none⟩ (.slice s' (m + 1) c')) lo rb pb sl n c src ig lb kd gr a bad g nv0 nv N0 M s' (m + 1) c' (ks ++ [k]) := by
 obtain ⟨ho, hb, hoth, hgr, hat⟩ := hp
 have hml : m = ks.length := h.own.len
 have c3 := hoth _ _ _ h.blk (by decide)
 have ht3 : Touch (fun b => (Value.slice sk m ck).ownBlock = some b ∨ b = lb) w w3 := Touch.grown hgr fun b e => .inl e
 have ht : Touch (fun b => (Value.slice sk m ck).ownBlock = some b ∨ b = lb) w (w3.setCell ⟨lb, 7, none⟩ (.slice s' (m + 1) c')) := ht3.trans (Touch.setCell _ w3 (p := ⟨lb, 7, none⟩) (.inr rfl) _) fun x hx => .inl hx
 have hob : ∀ b, (Value.slice sk m ck).ownBlock = some b → w0.heap.size ≤ b ∧ b ≠ rb ∧ b ≠ pb ∧ nv.ownBlock ≠ some b := fun b hb => by
  obtain ⟨cs, h1⟩ := own_type (e := 3) h.own hb
  refine ⟨(World.ownsRow.lt (e := 3) h.own b hb).1, type_ne h1 h.rf.rd.blk (by decide), type_ne h1 h.rf.pbk (by decide), fun o => ?_⟩
  obtain ⟨cs2, h2⟩ := own_type h.rf.own o
  exact type_ne h1 h2 (by decide) rfl
 have hrf : RfM (w3.setCell ⟨lb, 7, none⟩ (.slice s' (m + 1) c')) lo rb pb sl n c src ig a bad g nv (N0 ++ M) := h.rf.apart ht fun b hb => by
  rcases hb with hb | rfl
  ·
   obtain ⟨a1, a2, a3, a4⟩ := hob b hb
   exact ⟨Nat.le_trans h.low a1, a2, a3, a4, fun x hx q i j e e2 => (h.kne x hx q i j e).2 (e2 ▸ hb)⟩
  · exact ⟨Nat.le_trans h.low h.lge, type_ne h.blk h.rf.rd.blk (by decide), type_ne h.blk h.rf.pbk (by decide), h.nlb, fun x hx q i j e => (h.kne x hx q i j e).1⟩
 have hmv : Mv rb pb w0 nv0 (w3.setCell ⟨lb, 7, none⟩ (.slice s' (m + 1) c')) nv := by
  refine ⟨h.mv.touch.trans ht fun x hx => ?_, h.mv.own⟩
  rcases hx with hx | rfl
  · exact .inr (hob x hx).1
  · exact .inr h.lge
 refine ⟨hrf, hmv, h.lge, by rw [block_set _ c3]; rfl, h.nlb, ?_, h.low, fun x hx q i j e => ⟨(h.kne x hx q i j e).1, fun e2 => ?_⟩, h.kge⟩
 ·
  unfold OwnInts
  rw [List.length_append, List.length_singleton, List.map_append, ← hml]
  refine own_kept ho fun b hb => ?_
  obtain ⟨cs, h1⟩ := own_type ho hb
  exact Below.heap_setCell _ ⟨lb, 7, none⟩ _ _ (type_ne h1 c3 (by decide))
 ·
  rcases hat with o | ⟨b, o, hb⟩
  · exact (h.kne x hx q i j e).2 (o ▸ e2)
  ·
   rw [o] at e2
   have := Option.some.inj e2
   have := h.rf.kid_lt hx e
   omega
theorem RowS.kid1 (h : RowS w0 w lo rb pb sl n c src ig lb kd gr a bad g nv0 nv N0 M none 0 0 []) (k : Int) :
  RowS w0 ((w.alloc (.cells #[.int .i64 k] 3)).setCell ⟨lb, 7, none⟩ (.slice (some ⟨w.heap.size, 0, none⟩) 1 1)) lo rb pb sl n c src ig lb kd gr a bad g nv0 nv N0 M (some ⟨w.heap.size, 0, none⟩) 1 1 [k] := by
 have hb := below_newJ w (.cells #[.int .i64 k] 3)
 refine h.push (k := k) (w3 := w.alloc (.cells #[.int .i64 k] 3)) (s' := some ⟨w.heap.size, 0, none⟩) (c' := 1) ⟨?_, hb.mono h.mv.touch.size, fun b cs t e _ => (hb.block b (heap_lt e)).trans e, World.grownBy_alloc w _ _, .inr ⟨_, rfl, Nat.le_refl _⟩⟩
 exact World.ownsRow_lit w #[.int .i64 k] 1 h.mv.touch.size (by decide) rfl
theorem RowS.kidf (h : RowS w0 w lo rb pb sl n c src ig lb kd gr a bad g nv0 nv N0 M sk m ck ks) : KidF w rb pb nv ⟨kd, gr, 0, 0, false, false, .slice none 0 0, .slice sk m ck, ks⟩ := by
 refine ⟨⟨_, _, _, rfl, h.own.len.symm, h.own.is, fun q hq => ?_⟩, ⟨_, _, _, rfl⟩⟩
 subst hq
 have hb : (Value.slice (some q) m ck).ownBlock = some q.block := rfl
 obtain ⟨cs, h1⟩ := own_type (e := 3) h.own hb
 refine ⟨heap_lt h1, type_ne h1 h.rf.rd.blk (by decide), type_ne h1 h.rf.pbk (by decide), fun o => ?_⟩
 obtain ⟨cs2, h2⟩ := own_type h.rf.own o
 exact type_ne h1 h2 (by decide) rfl
theorem RowS.kg (h : RowS w0 w lo rb pb sl n c src ig lb kd gr a bad g nv0 nv N0 M sk m ck ks) : KGe w0.heap.size ⟨kd, gr, 0, 0, false, false, .slice none 0 0, .slice sk m ck, ks⟩ := fun q i j e => by
 obtain ⟨rfl, -, -⟩ := Value.slice.inj e
 exact (World.ownsRow.lt (e := 3) h.own q.block rfl).1
end
end Go.Proofs.YtdegdoilpamjjaaDoor
namespace Go.Proofs.YtdegdoilpamjjaaDoor
open Go.RowKit
set_option linter.unusedVariables false
set_option linter.unusedSimpArgs false
def MemF (lo rb pb : Nat) (sl : Option Addr) (n c : Nat) (src : List Int) (ig fold : Bool) (F : Nat) : Prop :=
 ∀ (f : Nat) (s : RS) (w : World) (nv : Value) (N : List NdF), f < F → RfM w lo rb pb sl n c src ig s.at' false s.groups nv N → s.at' < n → 4 * (n - s.at') + 6 ≤ f → N.length + 2 * (n - s.at') < 90000 → s.groups ≤ 9 →
  Calls Tryd.prog 78 #[.pointer (some ⟨rb, 0, none⟩)] w (NdP w lo rb pb sl n c src ig nv N w.heap.size (fun a => 2 * (a - s.at')) (memP src fold f s) (fun N' x k => trN N' k x))
theorem trN_row {N : List NdF} {x : NdF} {ms : List Nd} (h : x.kind = 3) (ht : trL N x.kids ms) : trN (N ++ [x]) N.length (.row ms) := by
 rw [trN]
 exact ⟨x, List.getElem?_concat_length, h, trL.more N _ ms _ ht⟩
set_option maxRecDepth 100000 in
set_option maxHeartbeats 32000000 in
theorem row_f (F : Nat) (w : World) (lo rb pb : Nat) (sl : Option Addr) (n c : Nat) (src : List Int) (ig fold : Bool) (s : RS) (nv : Value) (N : List NdF) (h : RfM w lo rb pb sl n c src ig s.at' false s.groups nv N) (hN : N.length + 2 * (n - s.at') + 1 < 90000) (hF : 4 * (n - s.at') + 7 ≤ F) (hg9 : s.groups ≤ 9) (hM : MemF lo rb pb sl n c src ig fold F) :
  Calls Tryd.prog 65 #[.pointer (some ⟨rb, 0, none⟩)] w (NdP w lo rb pb sl n c src ig nv N w.heap.size (fun a => 2 * (a - s.at') + 1) (memsP src fold F [] s) (fun N' ms k => trN N' k (.row ms))) := by
 obtain ⟨R, hR⟩ : ∃ R, memsP src fold F [] s = R := ⟨_, rfl⟩
 rw [hR]
 have hn30 := h.rd.n30
 have hlen := h.rd.len
 have HR := Lib.hid hR
 have HM := Lib.hid hM
 have ob := below_newJ w (.cells #[.int .i64 0, .int .i64 0, .int .i64 0, .int .i64 0, .bool false, .bool false, .slice none 0 0, .slice none 0 0] 138)
 have oo := one_new w (.cells #[.int .i64 0, .int .i64 0, .int .i64 0, .int .i64 0, .bool false, .bool false, .slice none 0 0, .slice none 0 0] 138)
 obtain ⟨lb, hlb⟩ : ∃ lb, w.heap.size = lb := ⟨_, rfl⟩
 generalize hw1 : w.alloc (.cells #[.int .i64 0, .int .i64 0, .int .i64 0, .int .i64 0, .bool false, .bool false, .slice none 0 0, .slice none 0 0] 138) = w1 at ob oo
 rw [hlb] at oo
 have PO := Lib.hid oo
 have HB := Lib.hid (show RowS w (w1.setRow lb #[.int .i64 (3), .int .i64 (0), .int .i64 (0), .int .i64 (0), .bool false, .bool false, .slice none 0 0, .slice none 0 0]) lo rb pb sl n c src ig lb 3 0 s.at' false s.groups nv nv N [] none 0 0 [] from by
  have := RowS.begin (kd := 3) h (w1.setRow lb #[.int .i64 (3), .int .i64 (0), .int .i64 (0), .int .i64 (0), .bool false, .bool false, .slice none 0 0, .slice none 0 0]) (ob.trans (row_belowg _ (by omega))) (by rw [hlb]; exact row_setg #[.int .i64 (3), .int .i64 (0), .int .i64 (0), .int .i64 (0), .bool false, .bool false, .slice none 0 0, .slice none 0 0] oo)
  rwa [hlb] at this)
 clear ob oo h hR hM
 go_enter Tryd.func65, Tryd.ntmps65
 go_wp2_with (refine wpList_store_row rfl 138 _ _ rfl lb #[.int .i64 (3), .int .i64 (0), .int .i64 (0), .int .i64 (0), .bool false, .bool false, .slice none 0 0, .slice none 0 0] rfl rfl _ _ PO.out fnode_info rfl (fnode_all _ _ _ _ _ _ _ _ _ _ _ _) ?_)
 generalize w1.setRow lb #[.int .i64 (3), .int .i64 (0), .int .i64 (0), .int .i64 (0), .bool false, .bool false, .slice none 0 0, .slice none 0 0] = w2 at HB ⊢
 clear hw1 PO
 go_simp
 go_loopg [] F (fun gg wr => ∃ (s1 : RS) (bad : Bool) (nv1 : Value) (M : List NdF) (sk : Option Addr) (m ck : Nat) (ks : List Int) (ms : List Nd), RowS w wr lo rb pb sl n c src ig lb 3 0 s1.at' bad s1.groups nv nv1 N M sk m ck ks ∧
  ((bad = false ∧ memsP src fold gg ms s1 = R ∧ trL (N ++ M) ks ms ∧ 4 * (n - s1.at') + 7 ≤ gg ∧ gg ≤ F ∧ s1.groups ≤ 9 ∧ s.at' ≤ s1.at' ∧ m ≤ s1.at' ∧ M.length ≤ 2 * (s1.at' - s.at')) ∨ (bad = true ∧ gg = 0 ∧ R = .error s1.at' ∧ M.length ≤ 2 * (n - s.at'))))
 case atStart => exact ⟨s, false, nv, [], none, 0, 0, [], [], HB.out, .inl ⟨rfl, HR.out, by rw [trL], hF, Nat.le_refl _, hg9, Nat.le_refl _, Nat.zero_le _, Nat.zero_le _⟩⟩
 case round =>
  clear HB HR hF hg9
  obtain ⟨s1, bad, nv1, M, sk, m, ck, ks, ms, hrs, hcase⟩ := hrel
  have H1 := Lib.hid hrs
  have hat1 := hrs.rf.rd.at'
  have r3 : wr.cell? ⟨rb, 3, none⟩ = some (.bool bad) := block_cell hrs.rf.rd.blk
  have r2 : wr.cell? ⟨rb, 2, none⟩ = some (.int .i64 s1.at') := block_cell hrs.rf.rd.blk
  have r1 : wr.cell? ⟨rb, 1, none⟩ = some (.slice sl n c) := block_cell hrs.rf.rd.blk
  clear hrs
  rcases hcase with ⟨rfl, hmm, htl, hf2, hgF, hg1, hs1, hm, hMl⟩ | ⟨rfl, -, hre, hMl⟩
  ·
   obtain ⟨f, rfl⟩ : ∃ f, gk = f + 1 := ⟨gk - 1, by omega⟩
   rw [memsP_eq] at hmm
   by_cases hC : s1.at' < src.length ∧ escB src s1.at' 124 = false ∧ escB src s1.at' 41 = false
   ·
    rw [if_pos hC] at hmm
    obtain ⟨k1, k2, k3⟩ := hC
    have HX1 := Lib.hid (fun i => by
     have hh := sees_f rb pb sl n c src s1.at' false 92 124 (wr.drewN i) (H1.out.rf.rd.drewN i)
     rw [sees_two (by decide), k2] at hh
     exact hh)
    have HX2 := Lib.hid (fun i => by
     have hh := sees_f rb pb sl n c src s1.at' false 92 41 (wr.drewN i) (H1.out.rf.rd.drewN i)
     rw [sees_two (by decide), k3] at hh
     exact hh)
    have hlt : s1.at' < n := by omega
    have q1 : (s1.at' : Int) < (n : Int) := by omega
    have HMM := Lib.hid hmm
    have HTL := Lib.hid htl
    clear hmm k1 k2 k3 htl
    go_wp2_with fail
    go_quiet (first | (go_at_call 66; first | with_reducible exact Calls.quiet_of (HX1.out _) | with_reducible exact Calls.quiet_of (HX2.out _)))
    have H2 := Lib.hid (H1.out.drewN nq)
    clear H1 HX1 HX2 r1 r2 r3
    generalize wr.drewN nq = w3 at H2 ⊢
    have hMc := HM.out f s1 w3 nv1 (N ++ M) (by omega) H2.out.rf hlt (by omega) (by rw [List.length_append]; omega) hg1
    have HON := Lib.hid ((reader_on src fold f).2.1 s1)
    go_wp2_with fail
    refine hMc.mono ?_
    rintro e w4 ⟨k, nv4, M4, rfl, hmv, hkg, hres⟩
    cases hmp : memP src fold f s1 with
    | error kk =>
     rw [hmp] at hres
     obtain ⟨⟨g4, hr4⟩, hl4⟩ := hres
     have hl4 : M4.length ≤ 2 * (n - s1.at') := hl4
     have HR2 := Lib.hid (show R = .error kk from by
      have := HMM.out; rw [hmp] at this
      exact this.symm)
     have H4 := Lib.hid (H2.out.call hmv hr4 hkg)
     have hl5 : (M ++ M4).length ≤ 2 * (n - s.at') := by rw [List.length_append]; omega
     clear hMc hmp hmv hkg hr4 HMM H2
     have l7 : w4.cell? ⟨lb, 7, none⟩ = some (.slice sk m ck) := block_cell H4.out.blk
     have hsz := H4.out.mv.touch.size
     go_wp2_with (first | (at_builtin; refine wpList_push_g Tryd.underlying22 Tryd.infoInt rfl (by decide) (by decide) [.int .i64 k] (by intro u hu; rw [List.mem_singleton] at hu; subst hu; rfl) rfl rfl _ _ rfl w.heap.size (.slice sk m ck) m (ks.map (Value.int .i64)) rfl rfl H4.out.ownm (by omega) (by omega) ?_; intro s' c' w8 hp; have H8 := Lib.hid (H4.out.push hp); have c4 := hp.2.2.1 _ _ _ H4.out.blk (by decide); have c3 : w8.cell? ⟨lb, 7, none⟩ = some (.slice sk m ck) := block_cell c4; have f3 : w8.frozen? ⟨lb, 7, none⟩ = false := block_free c4; clear hp c4))
     have H5 := H8
     generalize w8.setCell ⟨lb, 7, none⟩ (.slice s' (m + 1) c') = w5 at H8 H5 ⊢
     clear l7 c3 f3 H8
     go_roundg 0
     case measure => omega
     case rel => exact ⟨⟨kk, g4⟩, true, nv4, _, _, _, _, _, [], H5.out, .inr ⟨rfl, rfl, HR2.out, hl5⟩⟩
    | ok r =>
     obtain ⟨nd, s4⟩ := r
     rw [hmp] at hres
     obtain ⟨hr4, ht4, hl4⟩ := hres
     have hl4 : M4.length ≤ 2 * (s4.at' - s1.at') := hl4
     obtain ⟨on1, on2⟩ := HON.out _ _ hmp
     have HMM2 := Lib.hid (show memsP src fold f (ms ++ [nd]) s4 = R from by
      have := HMM.out; rw [hmp] at this; exact this)
     have H4 := Lib.hid (H2.out.call hmv hr4 hkg)
     have HT4 := Lib.hid (show trL (N ++ (M ++ M4)) (ks ++ [(k : Int)]) (ms ++ [nd]) from by
      rw [← List.append_assoc]
      exact trL.push (trL.more _ M4 _ _ HTL.out) ht4)
     have hl5 : (M ++ M4).length ≤ 2 * (s4.at' - s.at') := by rw [List.length_append]; omega
     have hat4 := hr4.rd.at'
     clear hMc hmp hmv hkg hr4 ht4 HMM H2 HTL
     have l7 : w4.cell? ⟨lb, 7, none⟩ = some (.slice sk m ck) := block_cell H4.out.blk
     have hsz := H4.out.mv.touch.size
     go_wp2_with (first | (at_builtin; refine wpList_push_g Tryd.underlying22 Tryd.infoInt rfl (by decide) (by decide) [.int .i64 k] (by intro u hu; rw [List.mem_singleton] at hu; subst hu; rfl) rfl rfl _ _ rfl w.heap.size (.slice sk m ck) m (ks.map (Value.int .i64)) rfl rfl H4.out.ownm (by omega) (by omega) ?_; intro s' c' w8 hp; have H8 := Lib.hid (H4.out.push hp); have c4 := hp.2.2.1 _ _ _ H4.out.blk (by decide); have c3 : w8.cell? ⟨lb, 7, none⟩ = some (.slice sk m ck) := block_cell c4; have f3 : w8.frozen? ⟨lb, 7, none⟩ = false := block_free c4; clear hp c4))
     have H5 := H8
     generalize w8.setCell ⟨lb, 7, none⟩ (.slice s' (m + 1) c') = w5 at H8 H5 ⊢
     clear l7 c3 f3 H8
     go_roundg f
     case measure => omega
     case rel => exact ⟨s4, false, nv4, _, _, _, _, _, _, H5.out, .inl ⟨rfl, HMM2.out, HT4.out, by omega, by omega, on2 hg1, by omega, by omega, hl5⟩⟩
   ·
    rw [if_neg hC] at hmm
    have HRES := Lib.hid hmm.symm
    have hcase : (¬ s1.at' < n) ∨ (s1.at' < n ∧ escB src s1.at' 124 = true) ∨ (s1.at' < n ∧ escB src s1.at' 124 = false ∧ escB src s1.at' 41 = true) := by
     by_cases h1 : s1.at' < n
     ·
      cases h2 : escB src s1.at' 124 with
      | true => exact .inr (.inl ⟨h1, rfl⟩)
      | false =>
       cases h3 : escB src s1.at' 41 with
       | true => exact .inr (.inr ⟨h1, rfl, rfl⟩)
       | false => exact absurd ⟨by omega, h2, h3⟩ hC
     · exact .inl h1
    have HX1 := Lib.hid (fun i => by
     have hh := sees_f rb pb sl n c src s1.at' false 92 124 (wr.drewN i) (H1.out.rf.rd.drewN i)
     rw [sees_two (by decide)] at hh
     exact hh)
    have HX2 := Lib.hid (fun i => by
     have hh := sees_f rb pb sl n c src s1.at' false 92 41 (wr.drewN i) (H1.out.rf.rd.drewN i)
     rw [sees_two (by decide)] at hh
     exact hh)
    have HTL := Lib.hid htl
    clear hmm hC htl
    rcases hcase with h1 | ⟨h1, h2⟩ | ⟨h1, h2, h3⟩
    ·
     have q1 : decide (((s1.at' : Nat) : Int) < (n : Int)) = false := decide_eq_false (by omega)
     have q1b : decide (s1.at' < n) = false := decide_eq_false h1
     clear h1
     go_wp2_with fail
     go_quiet (fail)
     have H2 := Lib.hid (H1.out.drewN nq)
     clear H1 HX1 HX2 r1 r2 r3
     generalize wr.drewN nq = w3 at H2 ⊢
     have z0 : w3.cell? ⟨lb, 0, none⟩ = some (.int .i64 3) := block_cell H2.out.blk
     have z1 : w3.cell? ⟨lb, 1, none⟩ = some (.int .i64 0) := block_cell H2.out.blk
     have z2 : w3.cell? ⟨lb, 2, none⟩ = some (.int .i64 0) := block_cell H2.out.blk
     have z3 : w3.cell? ⟨lb, 3, none⟩ = some (.int .i64 0) := block_cell H2.out.blk
     have z4 : w3.cell? ⟨lb, 4, none⟩ = some (.bool false) := block_cell H2.out.blk
     have z5 : w3.cell? ⟨lb, 5, none⟩ = some (.bool false) := block_cell H2.out.blk
     have z6 : w3.cell? ⟨lb, 6, none⟩ = some (.slice none 0 0) := block_cell H2.out.blk
     have z7 : w3.cell? ⟨lb, 7, none⟩ = some (.slice sk m ck) := block_cell H2.out.blk
     obtain ⟨NN, hNN⟩ : ∃ NN, N ++ M = NN := ⟨_, rfl⟩
     have hrf := H2.out.rf
     rw [hNN] at hrf
     have HND := Lib.hid (node_f w3 lo rb pb _ n c src ig s1.at' false s1.groups nv1 NN hrf ⟨3, 0, 0, 0, false, false, .slice none 0 0, .slice sk m ck, ks⟩ H2.out.kidf (by rw [← hNN, List.length_append]; omega))
     have HNN := Lib.hid hNN
     clear hrf hNN
     go_wp2_with fail
     refine HND.out.mono ?_
     rintro e w9 ⟨rfl, nv', hmv, hr9⟩
     have HMV := Lib.hid (H2.out.mv.trans hmv)
     have HR9 := Lib.hid hr9
     clear hmv hr9 HND
     go_wp2
     go_ret
     rw [HRES.out]
     refine ⟨NN.length, nv', M ++ [⟨3, 0, 0, 0, false, false, .slice none 0 0, .slice sk m ck, ks⟩], rfl, HMV.out, fun x hx => ?_, ?_⟩
     ·
      rcases List.mem_append.mp hx with hx | hx
      · exact H2.out.kge x hx
      ·
       rw [List.mem_singleton] at hx
       exact hx ▸ H2.out.kg
     ·
      have hr9 := HR9.out
      rw [← HNN.out, List.append_assoc] at hr9
      have hnn := HNN.out
      exact ⟨hr9, by rw [← List.append_assoc, hnn]; exact trN_row rfl (by rw [← hnn]; exact HTL.out), by simp only [List.length_append, List.length_singleton]; omega⟩
    ·
     have q1 : (s1.at' : Int) < (n : Int) := by omega
     rw [h2] at HX1
     clear h1 h2
     go_wp2_with fail
     go_quiet (first | (go_at_call 66; first | with_reducible exact Calls.quiet_of (HX1.out _)))
     have H2 := Lib.hid (H1.out.drewN nq)
     clear H1 HX1 HX2 r1 r2 r3
     generalize wr.drewN nq = w3 at H2 ⊢
     have z0 : w3.cell? ⟨lb, 0, none⟩ = some (.int .i64 3) := block_cell H2.out.blk
     have z1 : w3.cell? ⟨lb, 1, none⟩ = some (.int .i64 0) := block_cell H2.out.blk
     have z2 : w3.cell? ⟨lb, 2, none⟩ = some (.int .i64 0) := block_cell H2.out.blk
     have z3 : w3.cell? ⟨lb, 3, none⟩ = some (.int .i64 0) := block_cell H2.out.blk
     have z4 : w3.cell? ⟨lb, 4, none⟩ = some (.bool false) := block_cell H2.out.blk
     have z5 : w3.cell? ⟨lb, 5, none⟩ = some (.bool false) := block_cell H2.out.blk
     have z6 : w3.cell? ⟨lb, 6, none⟩ = some (.slice none 0 0) := block_cell H2.out.blk
     have z7 : w3.cell? ⟨lb, 7, none⟩ = some (.slice sk m ck) := block_cell H2.out.blk
     obtain ⟨NN, hNN⟩ : ∃ NN, N ++ M = NN := ⟨_, rfl⟩
     have hrf := H2.out.rf
     rw [hNN] at hrf
     have HND := Lib.hid (node_f w3 lo rb pb _ n c src ig s1.at' false s1.groups nv1 NN hrf ⟨3, 0, 0, 0, false, false, .slice none 0 0, .slice sk m ck, ks⟩ H2.out.kidf (by rw [← hNN, List.length_append]; omega))
     have HNN := Lib.hid hNN
     clear hrf hNN
     go_wp2_with fail
     refine HND.out.mono ?_
     rintro e w9 ⟨rfl, nv', hmv, hr9⟩
     have HMV := Lib.hid (H2.out.mv.trans hmv)
     have HR9 := Lib.hid hr9
     clear hmv hr9 HND
     go_wp2
     go_ret
     rw [HRES.out]
     refine ⟨NN.length, nv', M ++ [⟨3, 0, 0, 0, false, false, .slice none 0 0, .slice sk m ck, ks⟩], rfl, HMV.out, fun x hx => ?_, ?_⟩
     ·
      rcases List.mem_append.mp hx with hx | hx
      · exact H2.out.kge x hx
      ·
       rw [List.mem_singleton] at hx
       exact hx ▸ H2.out.kg
     ·
      have hr9 := HR9.out
      rw [← HNN.out, List.append_assoc] at hr9
      have hnn := HNN.out
      exact ⟨hr9, by rw [← List.append_assoc, hnn]; exact trN_row rfl (by rw [← hnn]; exact HTL.out), by simp only [List.length_append, List.length_singleton]; omega⟩
    ·
     have q1 : (s1.at' : Int) < (n : Int) := by omega
     rw [h2] at HX1
     rw [h3] at HX2
     clear h1 h2 h3
     go_wp2_with fail
     go_quiet (first | (go_at_call 66; first | with_reducible exact Calls.quiet_of (HX1.out _) | with_reducible exact Calls.quiet_of (HX2.out _)))
     have H2 := Lib.hid (H1.out.drewN nq)
     clear H1 HX1 HX2 r1 r2 r3
     generalize wr.drewN nq = w3 at H2 ⊢
     have z0 : w3.cell? ⟨lb, 0, none⟩ = some (.int .i64 3) := block_cell H2.out.blk
     have z1 : w3.cell? ⟨lb, 1, none⟩ = some (.int .i64 0) := block_cell H2.out.blk
     have z2 : w3.cell? ⟨lb, 2, none⟩ = some (.int .i64 0) := block_cell H2.out.blk
     have z3 : w3.cell? ⟨lb, 3, none⟩ = some (.int .i64 0) := block_cell H2.out.blk
     have z4 : w3.cell? ⟨lb, 4, none⟩ = some (.bool false) := block_cell H2.out.blk
     have z5 : w3.cell? ⟨lb, 5, none⟩ = some (.bool false) := block_cell H2.out.blk
     have z6 : w3.cell? ⟨lb, 6, none⟩ = some (.slice none 0 0) := block_cell H2.out.blk
     have z7 : w3.cell? ⟨lb, 7, none⟩ = some (.slice sk m ck) := block_cell H2.out.blk
     obtain ⟨NN, hNN⟩ : ∃ NN, N ++ M = NN := ⟨_, rfl⟩
     have hrf := H2.out.rf
     rw [hNN] at hrf
     have HND := Lib.hid (node_f w3 lo rb pb _ n c src ig s1.at' false s1.groups nv1 NN hrf ⟨3, 0, 0, 0, false, false, .slice none 0 0, .slice sk m ck, ks⟩ H2.out.kidf (by rw [← hNN, List.length_append]; omega))
     have HNN := Lib.hid hNN
     clear hrf hNN
     go_wp2_with fail
     refine HND.out.mono ?_
     rintro e w9 ⟨rfl, nv', hmv, hr9⟩
     have HMV := Lib.hid (H2.out.mv.trans hmv)
     have HR9 := Lib.hid hr9
     clear hmv hr9 HND
     go_wp2
     go_ret
     rw [HRES.out]
     refine ⟨NN.length, nv', M ++ [⟨3, 0, 0, 0, false, false, .slice none 0 0, .slice sk m ck, ks⟩], rfl, HMV.out, fun x hx => ?_, ?_⟩
     ·
      rcases List.mem_append.mp hx with hx | hx
      · exact H2.out.kge x hx
      ·
       rw [List.mem_singleton] at hx
       exact hx ▸ H2.out.kg
     ·
      have hr9 := HR9.out
      rw [← HNN.out, List.append_assoc] at hr9
      have hnn := HNN.out
      exact ⟨hr9, by rw [← List.append_assoc, hnn]; exact trN_row rfl (by rw [← hnn]; exact HTL.out), by simp only [List.length_append, List.length_singleton]; omega⟩
  ·
   subst hre
   go_wp2_with fail
   go_quiet (fail)
   have H2 := Lib.hid (H1.out.drewN nq)
   clear H1 r1 r2 r3
   generalize wr.drewN nq = w3 at H2 ⊢
   have z0 : w3.cell? ⟨lb, 0, none⟩ = some (.int .i64 3) := block_cell H2.out.blk
   have z1 : w3.cell? ⟨lb, 1, none⟩ = some (.int .i64 0) := block_cell H2.out.blk
   have z2 : w3.cell? ⟨lb, 2, none⟩ = some (.int .i64 0) := block_cell H2.out.blk
   have z3 : w3.cell? ⟨lb, 3, none⟩ = some (.int .i64 0) := block_cell H2.out.blk
   have z4 : w3.cell? ⟨lb, 4, none⟩ = some (.bool false) := block_cell H2.out.blk
   have z5 : w3.cell? ⟨lb, 5, none⟩ = some (.bool false) := block_cell H2.out.blk
   have z6 : w3.cell? ⟨lb, 6, none⟩ = some (.slice none 0 0) := block_cell H2.out.blk
   have z7 : w3.cell? ⟨lb, 7, none⟩ = some (.slice sk m ck) := block_cell H2.out.blk
   obtain ⟨NN, hNN⟩ : ∃ NN, N ++ M = NN := ⟨_, rfl⟩
   have hrf := H2.out.rf
   rw [hNN] at hrf
   have HND := Lib.hid (node_f w3 lo rb pb _ n c src ig s1.at' true s1.groups nv1 NN hrf ⟨3, 0, 0, 0, false, false, .slice none 0 0, .slice sk m ck, ks⟩ H2.out.kidf (by rw [← hNN, List.length_append]; omega))
   have HNN := Lib.hid hNN
   clear hrf hNN
   go_wp2_with fail
   refine HND.out.mono ?_
   rintro e w9 ⟨rfl, nv', hmv, hr9⟩
   have HMV := Lib.hid (H2.out.mv.trans hmv)
   have HR9 := Lib.hid hr9
   clear hmv hr9 HND
   go_wp2
   go_ret
   refine ⟨NN.length, nv', M ++ [⟨3, 0, 0, 0, false, false, .slice none 0 0, .slice sk m ck, ks⟩], rfl, HMV.out, fun x hx => ?_, ?_⟩
   ·
    rcases List.mem_append.mp hx with hx | hx
    · exact H2.out.kge x hx
    ·
     rw [List.mem_singleton] at hx
     exact hx ▸ H2.out.kg
   ·
    have hr9 := HR9.out
    rw [← HNN.out, List.append_assoc] at hr9
    have hnn := HNN.out
    exact ⟨⟨_, hr9⟩, by simp only [List.length_append, List.length_singleton]; omega⟩
end Go.Proofs.YtdegdoilpamjjaaDoor
namespace Go.Proofs.YtdegdoilpamjjaaDoor
open Go.RowKit
set_option linter.unusedVariables false
set_option linter.unusedSimpArgs false
theorem comp_good {src : List Int} {fold : Bool} {nd : Nd} {g : Nat} (h : compileP src fold = .ok nd g) : GoodN nd ∧ partsP nd ≤ 4096 := by
 unfold compileP at h
 by_cases hn : 256 < src.length
 · rw [if_pos hn] at h; cases h
 ·
  rw [if_neg hn] at h
  have hg := fun nd s => (reader_good src fold (by omega) (4 * src.length + 8)).2.2.2.2 [] ⟨0, 0⟩ (by decide) (by simp) (by simp) (fun _ h => by cases h) nd s
  revert h hg
  rcases patP src fold (4 * src.length + 8) [] ⟨0, 0⟩ with e | ⟨x, s⟩
  · intro h _; cases h
  ·
   intro h hg
   simp only at h
   by_cases h1 : s.at' < src.length
   · rw [if_pos h1] at h; cases h
   ·
    rw [if_neg h1] at h
    by_cases h2 : 4096 < partsP x
    · rw [if_pos h2] at h; cases h
    ·
     rw [if_neg h2] at h
     cases h
     exact ⟨hg _ _ rfl, by omega⟩
structure Ready (w : World) (pb : Nat) (nd : Nd) (g : Nat) : Prop where
 pat : ∃ B E base, PaG w B E base pb (g : Int) (deepA 0 nd) (progA nd)
 good : GoodN nd
 parts : partsP nd ≤ 4096
theorem Ready.later {w w' : World} {pb : Nat} {nd : Nd} {g : Nat} (h : Ready w pb nd g) (hb : Below w.heap.size w w') : Ready w' pb nd g := by
 obtain ⟨⟨B, E, base, hp⟩, h1, h2⟩ := h
 refine ⟨⟨B, E, base, hp.later ?_ hb⟩, h1, h2⟩
 obtain ⟨_, _, _, hx⟩ := hp
 exact Nat.le_of_lt (Nat.lt_of_le_of_lt hx.low (heap_lt hx.blk))
def matchR (nd : Nd) (line : List Int) (at' : Int) : Option BestD :=
 if (line.length : Int) < at' then none else runR G0 (progA nd) (deepA 0 nd) line (line.length + 2) at'.toNat (fun _ => 0) [] none
theorem match_resultsg (tmps : Array Value) (g : Nat) (cs : Array Value) (b : Bool) (w : World) (h6 : tmps.getD 6 undef = .pointer (some ⟨g, 0, none⟩)) (h7 : tmps.getD 7 undef = .bool b) (hg : w.heap[g]? = some (.cells cs 23 (0, 0))) (hi : (Tryd.prog.info? 23).map (·.size) = some cs.size) :
  (results Tryd.f16 tmps).run Tryd.prog w = .ok (.tuple #[.agg cs, .bool b]) w := by
 have hl := run_loadVar_row (P := Tryd.prog) w g 23 23 cs (0, 0) _ hg Tryd.underlying23 rfl hi
 simp only [Array.getD_eq_getD_getElem?] at h6 h7
 simp [results, Tryd.results16, h6, h7, asAddr, hl]
set_option maxRecDepth 100000 in
set_option maxHeartbeats 8000000 in
theorem match_g (w : World) (pb : Nat) (nd : Nd) (g : Nat) (hp : Ready w pb nd g) (sl : Option Addr) (n c : Nat) (line : List Int) (hL : line.length = n) (hn : n < 536870912) (hs : IsInts w sl n (gl line)) (ht : Tabs w) (at' : Int) (RES : Option BestD) (hRES : matchR nd line at' = RES) :
  Calls Tryd.prog 16 #[.pointer (some ⟨pb, 0, none⟩), .slice sl n c, .int .i64 at'] w fun e w' => Below w.heap.size w w' ∧ RunE RES e := by
 have hr6 := one_new w (.cells mZg 23)
 have hb1 := below_newJ w (.cells mZg 23)
 have HR6 := Lib.hid hr6
 have HB1 := Lib.hid hb1
 have hp1 := hp.later hb1
 have hs1 := hs.later hb1
 have ht1 := ht.later hb1
 have HL := Lib.hid hL
 unfold matchR at hRES
 rw [hL] at hRES
 clear hr6 hb1 hp hs hL ht
 by_cases hbig : (n : Int) < at'
 ·
  rw [if_pos hbig] at hRES
  have HRS := Lib.hid hRES
  clear hp1 hs1 ht1 hRES
  go_enter Tryd.func16, Tryd.ntmps16
  go_upto_region 2 with (fail)
  change Code.wp _ _ _ _ (w.alloc (.cells mZg 23))
  generalize w.alloc (.cells mZg 23) = w1 at HR6 HB1 ⊢
  go_wp2_with (refine wpList_store_row rfl 23 _ _ rfl w.heap.size mZg rfl rfl _ _ HR6.out mZg_info rfl mZg_all ?_)
  refine bodyPost_ret (match_resultsg _ w.heap.size mZg false _ rfl rfl (row_setg mZg HR6.out) mZg_info) rfl ⟨?_, ?_⟩
  · exact HB1.out.trans (row_belowg mZg (Nat.le_refl _))
  · rw [← HRS.out]; rfl
 ·
  rw [if_neg hbig] at hRES
  have hst : at'.toNat ≤ n := by omega
  obtain ⟨st, hst2⟩ : ∃ st, at'.toNat = st := ⟨_, rfl⟩
  rw [hst2] at hst hRES
  have hmax : (if (0 : Int) < at' then at' else 0) = (st : Int) := by split <;> omega
  have hmax2 : max at' 0 = (st : Int) := by omega
  have hmax3 : (if at' < (0 : Int) then 0 else at') = (st : Int) := by split <;> omega
  have q1 : ¬ (n : Int) < at' := hbig
  obtain ⟨⟨B, E, base, hpat⟩, hG, hP⟩ := hp1
  obtain ⟨lv, hwf⟩ := wf_prog hG
  have hsd := size_bd hG hP
  have hdd := (deep_bd hG).2 hP 0
  have hlen : (progA nd).length = sizeA nd + 1 := by unfold progA; rw [List.length_append, genA_len hG]; rfl
  have hN12 : (progA nd).length * (deepA 0 nd + 1) < 900000000000 := by
   have h1 : (progA nd).length ≤ 3145729 := by omega
   have h2 : deepA 0 nd + 1 ≤ 4097 := by omega
   have := Nat.mul_le_mul h1 h2
   omega
  have HRUN := Lib.hid (run_g (w.alloc (.cells mZg 23)) B E base pb (g : Int) (deepA 0 nd) (progA nd) hpat lv hwf _ rfl hN12 sl n c line HL.out hs1 hn st hst ht1 RES hRES)
  clear hbig hst hst2 hpat hG hP hwf hsd hdd hlen hN12 hs1 ht1 hRES
  go_enter Tryd.func16, Tryd.ntmps16
  go_upto_region 3 with (fail)
  change Code.wp _ _ _ _ (w.alloc (.cells mZg 23))
  generalize w.alloc (.cells mZg 23) = w1 at HR6 HB1 HRUN ⊢
  go_wp2_with fail
  refine HRUN.out.mono ?_
  rintro e w2 ⟨hb, hre⟩
  have hr2 := (hb.block _ (heap_lt HR6.out)).trans HR6.out
  have HB2 := Lib.hid (HB1.out.trans (hb.mono HB1.out.size))
  cases RES with
  | none =>
   have he : e = .returned (.tuple #[.agg mZg, .bool false]) := hre
   subst he
   clear hb hre
   go_wp2_with (refine wpList_store_row rfl 23 _ _ rfl w.heap.size mZg rfl rfl _ _ hr2 mZg_info rfl mZg_all ?_)
   refine bodyPost_ret (match_resultsg _ w.heap.size mZg false _ rfl rfl (row_setg mZg hr2) mZg_info) rfl ⟨?_, rfl⟩
   exact HB2.out.trans (row_belowg mZg (Nat.le_refl _))
  | some b =>
   have he : e = .returned (.tuple #[.agg (mLg (mKg b 20)), .bool true]) := hre
   subst he
   clear hb hre
   go_wp2_with (refine wpList_store_row rfl 23 _ _ rfl w.heap.size (mLg (mKg b 20)) rfl rfl _ _ hr2 (mLg_info _) rfl (mLg_all _) ?_)
   refine bodyPost_ret (match_resultsg _ w.heap.size (mLg (mKg b 20)) true _ rfl rfl (row_setg (mLg (mKg b 20)) hr2) (mLg_info _)) rfl ⟨?_, rfl⟩
   exact HB2.out.trans (row_belowg (mLg (mKg b 20)) (Nat.le_refl _))
theorem num_g (k : Int) (w : World) : Calls Tryd.prog 22 #[.int .i64 k] w fun e w' => e = .returned (.int .i64 k) ∧ w' = w := by
 go_enter Tryd.func22, Tryd.ntmps22
 go_wp2
 go_ret
 exact ⟨rfl, rfl⟩
theorem groups_g (pb : Nat) (w : World) (nd : Nd) (g : Nat) (h : Ready w pb nd g) :
  Calls Tryd.prog 14 #[.pointer (some ⟨pb, 0, none⟩)] w fun e w' => e = .returned (.int .i64 g) ∧ w' = w := by
 obtain ⟨⟨B, E, base, xs, sA, cA, hx⟩, _, _⟩ := h
 have b1 : w.cell? ⟨pb, 1, none⟩ = some (.int .i64 g) := block_cell hx.blk
 clear hx
 go_enter Tryd.func14, Tryd.ntmps14
 go_wp2
 go_ret
 exact ⟨rfl, rfl⟩
theorem own_lt {w : World} {base : Nat} {s : Option Addr} {n c : Nat} {l : List Int} (h : OwnInts w base (.slice s n c) l) {a : Addr} (ha : s = some a) : a.block < w.heap.size := by
 rcases h.2 with ⟨h1, h2⟩ | ⟨g, cap, cur, h1, hg, hgg, _⟩
 ·
  obtain ⟨rfl, -, -⟩ := Value.slice.inj h1
  cases ha
 ·
  obtain ⟨rfl, -, -⟩ := Value.slice.inj h1
  cases ha
  exact heap_lt hgg
end Go.Proofs.YtdegdoilpamjjaaDoor
namespace Go.Proofs.YtdegdoilpamjjaaDoor
open Go.RowKit
set_option linter.unusedVariables false
set_option linter.unusedSimpArgs false
theorem wpList_push_w {w : World} {ops : Array Oper} {rest : List Oper} {o : Oper} {a : Act} {Q : Exit → Act → World → Prop} {st et : TypeId} {z : Value} {size bytes : Nat} (hu : Tryd.prog.underlying st = some (.slice et))
  (hinfo : (Tryd.prog.info? et).map (fun i => (i.zero, i.size, i.bytes)) = some (some z, size, bytes)) (hzs : z.cells.size = size) (hsz : 0 < size) (hby : bytes ≤ 1000)
  (x : List Value) (hx1 : ∀ u ∈ x, u.oneCell' = true) (hxl : x.length = size) (hgd : o.guard = none) (s y : Operand)
  (ho : o.op = .call { callee := .builtin .append, args := #[s, y], argTypes := #[st, st] })
  (base : Nat) (v : Value) (n : Nat) (xs : List Value) (hs : a.eval s = v) (hy : a.eval y = .slice (some ⟨w.heap.size, 0, none⟩) 1 1) (hown : w.ownsRow base et size v n xs) (hn : n < 1000000000) (hbase : base ≤ w.heap.size)
  (h : ∀ s' c' w', Pushed w w' base et size v n (xs ++ x) s' c' → wpList Tryd.prog ops Q rest (a.put o.dst (.slice s' (n + 1) c')) w') :
  wpList Tryd.prog ops Q (o :: rest) a (w.alloc (.cells x.toArray et)) := by
 obtain ⟨i0, hi, hz0, hz1, hz2⟩ := info_parts hinfo
 have hb1 := below_newJ w (.cells x.toArray et)
 refine wpList_append_own_at _ hgd s y st ho base et i0 z size bytes hu hi hz0 hz1 hz2 hzs hsz v _ _ hs (own_later hown hb1) ⟨w.heap.size, 0, none⟩ 1 1 x hy (by omega) (new_cells _ _) hx1 (by unfold maxLen; omega) ?_ (by simp; omega) ?_
 ·
  have : (n + 1) * bytes ≤ 1000000000 * 1000 := Nat.mul_le_mul (by omega) hby
  omega
 ·
  intro v' w' h2 h3 _ h5
  obtain ⟨s', c', rfl⟩ := own_shape1 h2
  have hgr := World.grownBy.trans (World.grownBy_alloc w _ _) h3
  obtain ⟨p1, p2⟩ := push_leaves hown hgr hbase
  exact h s' c' w' ⟨h2, p1, p2, hgr, by
   rcases h5 with e | e
   · exact .inl e
   · exact .inr ⟨_, e, by simp⟩⟩
def runAt (nd : Nd) (line : List Int) (at' : Nat) : Option BestD := runR G0 (progA nd) (deepA 0 nd) line (line.length + 2) at' (fun _ => 0) [] none
def allP (nd : Nd) (line : List Int) : Nat → Nat → Int → List BestD
 | 0, _, _ => []
 | f + 1, at', last => if line.length < at' then [] else match runAt nd line at' with
  | none => []
  | some b => if b.from' < b.to' ∨ b.from' ≠ last then b :: allP nd line f (max (b.to' : Int) (b.from' + 1)).toNat b.to' else allP nd line f (max (b.to' : Int) (b.from' + 1)).toNat last
def BdOkB (a0 n : Nat) (b : BestD) : Prop := (a0 : Int) ≤ b.from' ∧ b.from' ≤ n ∧ b.to' ≤ n
theorem goOn_from (acts : List ActD) (deep : Nat) (stand : Int → Bool) (at' : Nat) (fr : Int) (Q : Int → Prop) (hq : Q fr) : ∀ (f : Nat) (t : ToD) (seen : Nat → Nat) (th : List ThD) (st : List ToD), (∀ x ∈ th, Q x.from') → ∀ x ∈ (goOnP acts deep stand at' fr f t seen th st).2.1, Q x.from'
 | 0, t, seen, th, st, h => by rw [goOnP]; exact h
 | f + 1, t, seen, th, st, h => by
  rw [goOnP]
  have ih := fun t seen th st h => goOn_from acts deep stand at' fr Q hq f t seen th st h
  split
  · exact h
  ·
   dsimp only
   split
   · exact h
   ·
    split
    ·
     intro x hx
     rcases List.mem_append.mp hx with hx | hx
     · exact h x hx
     ·
      rw [List.mem_singleton] at hx
      subst hx
      exact hq
    ·
     split
     ·
      split
      · exact ih _ _ _ _ h
      · exact h
     ·
      split
      · exact ih _ _ _ _ h
      ·
       split
       · exact ih _ _ _ _ h
       ·
        split
        · exact ih _ _ _ _ h
        ·
         split
         · exact h
         · exact ih _ _ _ _ h
theorem addP_from (acts : List ActD) (deep : Nat) (stand : Int → Bool) (at' : Nat) (fr : Int) (Q : Int → Prop) (hq : Q fr) : ∀ (f : Nat) (seen : Nat → Nat) (th : List ThD) (st : List ToD), (∀ x ∈ th, Q x.from') → ∀ x ∈ (addP' acts deep stand at' fr f seen th st).2, Q x.from'
 | 0, seen, th, st, h => by rw [addP']; exact h
 | f + 1, seen, th, [], h => by rw [addP']; exact h
 | f + 1, seen, th, t :: st, h => by
  rw [addP']
  have h1 := goOn_from acts deep stand at' fr Q hq (acts.length * (deep + 1) + 2) t seen th st h
  obtain ⟨p, hp⟩ : ∃ p, goOnP acts deep stand at' fr (acts.length * (deep + 1) + 2) t seen th st = p := ⟨_, rfl⟩
  rw [hp] at h1 ⊢
  obtain ⟨s1, t1, st1⟩ := p
  exact addP_from acts deep stand at' fr Q hq f _ _ _ h1
theorem step_from (G : GlyD) (acts : List ActD) (deep : Nat) (line : List Int) (here : Nat) (Q : Int → Prop) (R : BestD → Prop) (hR : ∀ x : ThD, Q x.from' → R ⟨x.from', here, x.notes⟩) : ∀ (old : List ThD) (seen : Nat → Nat) (th : List ThD) (best : Option BestD), (∀ x ∈ old, Q x.from') → (∀ x ∈ th, Q x.from') → (∀ b, best = some b → R b) →
  (∀ x ∈ (stepP' G acts deep line here old seen th best).2.1, Q x.from') ∧ ∀ b, (stepP' G acts deep line here old seen th best).2.2 = some b → R b
 | [], seen, th, best, ho, ht, hb => by rw [stepP']; exact ⟨ht, hb⟩
 | t :: old, seen, th, best, ho, ht, hb => by
  have ho1 := ho t (List.mem_cons_self ..)
  have ho2 := fun x hx => ho x (List.mem_cons_of_mem _ hx)
  rw [stepP']
  dsimp only
  split
  · exact ⟨ht, fun b e => by cases e; exact hR t ho1⟩
  ·
   split
   · exact step_from G acts deep line here Q R hR old _ _ best ho2 (addP_from acts deep _ _ _ Q ho1 _ _ _ _ ht) hb
   · exact step_from G acts deep line here Q R hR old _ _ best ho2 ht hb
theorem run_from (G : GlyD) (acts : List ActD) (deep : Nat) (line : List Int) (a0 : Nat) : ∀ (f at' : Nat) (seen : Nat → Nat) (th : List ThD) (best : Option BestD), a0 ≤ at' → (∀ x ∈ th, (a0 : Int) ≤ x.from' ∧ x.from' ≤ line.length) → (∀ b, best = some b → BdOkB a0 line.length b) →
  ∀ b, runR G acts deep line f at' seen th best = some b → BdOkB a0 line.length b
 | 0, at', seen, th, best, ha, ht, hb => by rw [runR]; exact hb
 | f + 1, at', seen, th, best, ha, ht, hb => by
  rw [runR]
  by_cases hl : line.length < at'
  · rw [if_pos hl]; exact hb
  ·
   rw [if_neg hl]
   obtain ⟨p, hp⟩ : ∃ p, (if best.isNone = true then addAll G acts deep line at' 0 (at' : Int) [] seen th else (seen, th)) = p := ⟨_, rfl⟩
   rw [hp]
   have hp2 : ∀ x ∈ p.2, (a0 : Int) ≤ x.from' ∧ x.from' ≤ line.length := by
    rw [← hp]
    split
    · exact addP_from acts deep _ _ _ (fun v => (a0 : Int) ≤ v ∧ v ≤ line.length) ⟨by omega, by omega⟩ _ _ _ _ ht
    · exact ht
   obtain ⟨s1, th1⟩ := p
   dsimp only at hp2 ⊢
   split
   · exact hb
   ·
    have hst := step_from G acts deep line at' (fun v => (a0 : Int) ≤ v ∧ v ≤ line.length) (BdOkB a0 line.length) (fun x hx => ⟨hx.1, hx.2, by show at' ≤ _; omega⟩) th1 s1 [] best hp2 (fun x hx => by cases hx) hb
    exact run_from G acts deep line a0 f (at' + 1) _ _ _ (by omega) hst.1 hst.2
theorem runAt_bd {nd : Nd} {line : List Int} {at' : Nat} {b : BestD} (h : runAt nd line at' = some b) : BdOkB at' line.length b :=
 run_from _ _ _ _ at' _ _ _ _ _ (Nat.le_refl _) (fun x hx => by cases hx) (fun b e => by cases e) b h
def rowB (b : BestD) : List Value := (mLg (mKg b 20)).toList
theorem Tryd.info20 : (Tryd.prog.info? 23).map (fun i => (i.zero, i.size, i.bytes)) = some (some (.agg mZg), 20, 160) := by kernel_rfl
theorem rowB_one (b : BestD) : ∀ u ∈ rowB b, u.oneCell' = true := by
 intro u hu
 unfold rowB mLg at hu
 simp only [List.mem_map] at hu
 obtain ⟨i, -, rfl⟩ := hu
 rfl
theorem rowB_arr (b : BestD) : (rowB b).toArray = mLg (mKg b 20) := by unfold rowB; simp
theorem rowB_len (b : BestD) : (rowB b).length = 20 := by unfold rowB mLg; simp
theorem fill_one (cs cells : Array Value) (hs : cs.size = 20) (hc : cells.size = 20) : Instr.fill (fun i => some (i * 20, 20)) cells [(0, .agg cs)] = some cs := by
 obtain ⟨r, h1, h2, h3⟩ := Great.fill_dense (s := 20) (by decide) [.agg cs] 0 cells (fun v hv => by rw [List.mem_singleton] at hv; subst hv; exact hs) (by rw [hc]; exact Nat.le_refl _)
 have e : r = cs := by
  apply Array.ext_getElem?
  intro k
  rw [h3 k]
  by_cases hk : k < 20
  ·
   rw [if_pos ⟨by omega, by simpa using hk⟩, Nat.div_eq_of_lt hk, Nat.mod_eq_of_lt hk]
   rfl
  · rw [if_neg (by simp; omega), Array.getElem?_eq_none (by omega), Array.getElem?_eq_none (by omega)]
 rw [e] at h1
 exact h1
theorem pushed_keep {w w' : World} {base : Nat} {et : TypeId} {size : Nat} {v : Value} {n : Nat} {xs : List Value} {s' : Option Addr} {c' : Nat} (hp : Pushed w w' base et size v n xs s' c') {b : Nat} (hb : b < w.heap.size) (hn : v.ownBlock ≠ some b) : w'.heap[b]? = w.heap[b]? :=
 (Touch.grown (O := fun x => v.ownBlock = some x) hp.2.2.2.1 fun x e => e).block b hb hn
theorem wpList_build20 {ops : Array Oper} {rest : List Oper} {o : Oper} {a : Act} {w : World} {Q : Exit → Act → World → Prop} (hg : o.guard = none) (x : Operand) (ho : o.op = .buildSlice 51 1 #[(0, x)]) (cs : Array Value) (hx : a.eval x = .agg cs) (hs : cs.size = 20)
  (h : wpList Tryd.prog ops Q rest (a.put o.dst (.slice (some ⟨w.heap.size, 0, none⟩) 1 1)) (w.alloc (.cells cs 23))) : wpList Tryd.prog ops Q (o :: rest) a w := by
 obtain ⟨i0, hi, hz0, hz1, hz2⟩ := info_parts Tryd.info20
 refine wpList_buildSlice hg 51 23 1 #[(0, x)] ho cs i0 (.agg mZg) Tryd.underlying51 hi hz0 (by rw [hz1]; decide) (by rw [hz1]; decide) ?_ h
 rw [hz1]
 have e : ((#[(0, x)] : Array (Nat × Operand)).map fun (i, y) => (i, a.eval y)).toList = [(0, .agg cs)] := by simp [hx]
 rw [e]
 exact fill_one cs _ hs (by simp)
set_option maxRecDepth 100000 in
set_option maxHeartbeats 16000000 in
theorem all_g (w : World) (pb : Nat) (nd : Nd) (g : Nat) (hp : Ready w pb nd g) (sl : Option Addr) (n c : Nat) (line : List Int) (hL : line.length = n) (hn : n < 536870912) (hs : IsInts w sl n (gl line)) (ht : Tabs w) (TOT : List BestD) (hTOT : allP nd line (n + 2) 0 (-1) = TOT) :
  Calls Tryd.prog 24 #[.pointer (some ⟨pb, 0, none⟩), .slice sl n c] w fun e w' => Below w.heap.size w w' ∧ ∃ so co, e = .returned (.slice so TOT.length co) ∧ w'.ownsRow w.heap.size 23 20 (.slice so TOT.length co) TOT.length (TOT.flatMap rowB) ∧ TOT.length ≤ n + 2 := by
 have HP := Lib.hid hp
 have HL := Lib.hid hL
 have HS := Lib.hid hs
 have HT := Lib.hid ht
 have HTOT := Lib.hid hTOT
 clear hp hL hs ht hTOT
 go_enter Tryd.func24, Tryd.ntmps24
 go_wp2_with fail
 go_loopg [5, 6, 7] (n + 2) (fun gg ov av lv wr => ∃ (at' : Nat) (last : Int) (acc : List BestD) (so : Option Addr) (m co : Nat), ov = .slice so m co ∧ av = .int .i64 at' ∧ lv = .int .i64 last ∧ m = acc.length ∧ acc.length ≤ at' ∧ at' ≤ n + 1 ∧ n + 2 - at' ≤ gg ∧ acc ++ allP nd line gg at' last = TOT ∧ wr.ownsRow w.heap.size 23 20 (.slice so m co) m (acc.flatMap rowB) ∧ Below w.heap.size w wr)
 case atStart => exact ⟨0, -1, [], none, 0, 0, rfl, rfl, rfl, rfl, Nat.le_refl _, by omega, by omega, HTOT.out, World.ownsRow_nil _ _ _ _, Below.refl _ _⟩
 case round =>
  clear HTOT
  obtain ⟨at', last, acc, so, m, co, rfl, rfl, rfl, hm, hma, hat, hgg, hall, hown, hbw⟩ := hrel
  have HALL := Lib.hid hall
  have HOWN := Lib.hid hown
  have HBW := Lib.hid hbw
  have HM := Lib.hid hm
  have hmn : m ≤ n + 1 := by omega
  clear hall hown hbw hm
  by_cases hlt : at' ≤ n
  ·
   obtain ⟨f, rfl⟩ : ∃ f, gk = f + 1 := ⟨gk - 1, by omega⟩
   have q1 : (at' : Int) ≤ (n : Int) := by omega
   obtain ⟨RES, hRES⟩ : ∃ RES, runAt nd line at' = RES := ⟨_, rfl⟩
   have hall := HALL.out
   rw [allP, if_neg (by have := HL.out; omega), hRES] at hall
   have HA := Lib.hid hall
   have hp1 := HP.out.later HBW.out
   obtain ⟨⟨B, E, base, hpat⟩, hG, hP⟩ := hp1
   obtain ⟨lv, hwf⟩ := wf_prog hG
   have hN12 : (progA nd).length * (deepA 0 nd + 1) < 900000000000 := by
    have hsd := size_bd hG hP
    have hdd := (deep_bd hG).2 hP 0
    have hlen : (progA nd).length = sizeA nd + 1 := by unfold progA; rw [List.length_append, genA_len hG]; rfl
    have h1 : (progA nd).length ≤ 3145729 := by omega
    have h2 : deepA 0 nd + 1 ≤ 4097 := by omega
    have := Nat.mul_le_mul h1 h2
    omega
   have HRUN := Lib.hid (run_g wr B E base pb (g : Int) (deepA 0 nd) (progA nd) hpat lv hwf _ rfl hN12 sl n c line HL.out (HS.out.later HBW.out) hn at' hlt (HT.out.later HBW.out) RES (by unfold runAt at hRES; rw [HL.out] at hRES; exact hRES))
   have HBD := Lib.hid (fun b (e : RES = some b) => runAt_bd (hRES.trans e))
   clear hall hpat hG hP hwf hN12 hRES HALL
   go_wp2_with fail
   refine HRUN.out.mono ?_
   rintro e w2 ⟨hb, hre⟩
   have HB2 := Lib.hid hb
   have HBW2 := Lib.hid (HBW.out.trans (hb.mono HBW.out.size))
   have HOWN2 := Lib.hid (own_later HOWN.out hb)
   have HR6 := Lib.hid (one_new w2 (.cells mZg 23))
   have HB6 := Lib.hid (below_newJ w2 (.cells mZg 23))
   obtain ⟨mb, hmb⟩ : ∃ mb, w2.heap.size = mb := ⟨_, rfl⟩
   have HMB := Lib.hid hmb
   rw [hmb] at HR6
   clear hb HRUN HBW HOWN
   cases RES with
   | none =>
    have he : e = .returned (.tuple #[.agg mZg, .bool false]) := hre
    subst he
    have HTT := Lib.hid (show acc = TOT from by have := HA.out; simpa using this)
    clear hre HA HBD
    have HBX := Lib.hid (HB6.out.trans (row_belowg (w := w2.alloc (.cells mZg 23)) (B := w2.heap.size) (g := mb) mZg (Nat.le_of_eq HMB.out)))
    have HOX := Lib.hid (own_later HOWN2.out HBX.out)
    have HBY := Lib.hid (HBW2.out.trans (HBX.out.mono HBW2.out.size))
    go_wp2_with (refine wpList_store_row rfl 23 _ _ rfl mb mZg rfl rfl _ _ HR6.out mZg_info rfl mZg_all ?_)
    go_ret
    obtain rfl := HTT.out
    obtain rfl := HM.out
    exact ⟨HBY.out, so, co, rfl, HOX.out, by omega⟩
   | some b =>
    have he : e = .returned (.tuple #[.agg (mLg (mKg b 20)), .bool true]) := hre
    subst he
    obtain ⟨bd1, bd2, bd3⟩ := HBD.out b rfl
    rw [HL.out] at bd2 bd3
    have HA2 := Lib.hid (show acc ++ (if b.from' < b.to' ∨ b.from' ≠ last then b :: allP nd line f (max (b.to' : Int) (b.from' + 1)).toNat b.to' else allP nd line f (max (b.to' : Int) (b.from' + 1)).toNat last) = TOT from HA.out)
    clear hre HA HBD
    have HBX := Lib.hid (HB6.out.trans (row_belowg (w := w2.alloc (.cells mZg 23)) (B := w2.heap.size) (g := mb) (mLg (mKg b 20)) (Nat.le_of_eq HMB.out)))
    have HOX := Lib.hid (own_later HOWN2.out HBX.out)
    have HBY := Lib.hid (HBW2.out.trans (HBX.out.mono HBW2.out.size))
    have HM3 := Lib.hid (row_setg (mLg (mKg b 20)) HR6.out)
    go_upto_region 5 with (refine wpList_store_row rfl 23 _ _ rfl mb (mLg (mKg b 20)) rfl rfl _ _ HR6.out (mLg_info _) rfl (mLg_all _) ?_)
    generalize (w2.alloc (.cells mZg 23)).setRow mb (mLg (mKg b 20)) = w3 at HBX HOX HBY HM3 ⊢
    have x0 : w3.cell? ⟨mb, 0, none⟩ = some (.int .i64 b.from') := (block_cell HM3.out).trans (mLg_at _ 0 (by decide))
    have x1 : w3.cell? ⟨mb, 1, none⟩ = some (.int .i64 b.to') := (block_cell HM3.out).trans (mLg_at _ 1 (by decide))
    obtain ⟨fr, hfr⟩ : ∃ fr, b.from' = fr := ⟨_, rfl⟩
    obtain ⟨tt, htt⟩ : ∃ tt, b.to' = tt := ⟨_, rfl⟩
    rw [hfr] at x0 bd1 bd2
    rw [htt] at x1 bd3
    obtain ⟨nx, hnx⟩ : ∃ nx : Nat, (max (tt : Int) (fr + 1)).toNat = nx := ⟨_, rfl⟩
    have hnx1 : (if (tt : Int) < fr + 1 then fr + 1 else (tt : Int)) = (nx : Int) := by rw [← hnx]; split <;> omega
    have hnx2 : (if fr + 1 < (tt : Int) then (tt : Int) else fr + 1) = (nx : Int) := by rw [← hnx]; split <;> omega
    have hnxm : (nx : Int) = max (tt : Int) (fr + 1) := by omega
    have hnxb : at' + 1 ≤ nx ∧ nx ≤ n + 1 := by omega
    have p1 : IntKind.i64.wrap (fr + 1) = fr + 1 := by rw [IntKind.wrap_i64]; omega
    have HA3 := Lib.hid (show acc ++ (if fr < (tt : Int) ∨ fr ≠ last then b :: allP nd line f nx (tt : Int) else allP nd line f nx last) = TOT from by have := HA2.out; rw [hfr, htt, hnx] at this; exact this)
    have h20 := HM3.out
    have OBM := Lib.hid (show (Value.slice so m co).ownBlock ≠ some mb from fun e => by have := (World.ownsRow.lt HOWN2.out _ e).2; have := HMB.out; omega)
    have HFR := Lib.hid (show mKg b 20 0 = fr from hfr)
    have HTT2 := Lib.hid (show mKg b 20 1 = (tt : Int) from congrArg _ htt)
    clear hnx hfr htt HA2
    by_cases hC : fr < (tt : Int) ∨ fr ≠ last
    ·
     have ha := HA3.out
     rw [if_pos hC] at ha
     have HA4 := Lib.hid (show (acc ++ [b]) ++ allP nd line f nx (tt : Int) = TOT from by rw [List.append_assoc]; exact ha)
     clear ha HA3
     rcases (show fr < (tt : Int) ∨ (¬ fr < (tt : Int) ∧ fr ≠ last) from by by_cases h1 : fr < (tt : Int); exact .inl h1; exact .inr ⟨h1, hC.resolve_left h1⟩) with h1 | ⟨h1, h2⟩
     ·
      clear hC
      go_wp2_with (first
       | (refine wpList_load_row rfl 23 _ rfl mb rfl _ _ _ _ h20 Tryd.underlying23 rfl (mLg_info _) ?_)
       | (refine wpList_build20 rfl _ rfl (rowB b).toArray (by rw [rowB_arr]; rfl) (by simp [rowB_len]) ?_)
       | (at_builtin; refine wpList_push_w Tryd.underlying51 Tryd.info20 rfl (by decide) (by decide) (rowB b) (rowB_one b) (rowB_len b) rfl _ _ rfl w.heap.size (.slice so m co) m (acc.flatMap rowB) rfl rfl HOX.out (by omega) HBY.out.size ?_; intro s' c' w4 hp; have HPU := Lib.hid hp; have hk4 := (pushed_keep hp (heap_lt HM3.out) OBM.out).trans HM3.out; have y0 : w4.cell? ⟨mb, 0, none⟩ = some (.int .i64 fr) := ((block_cell hk4).trans (mLg_at _ 0 (by decide))).trans (congrArg some (congrArg (Value.int .i64) HFR.out)); have y1 : w4.cell? ⟨mb, 1, none⟩ = some (.int .i64 tt) := ((block_cell hk4).trans (mLg_at _ 1 (by decide))).trans (congrArg some (congrArg (Value.int .i64) HTT2.out)); clear hp hk4))
      go_roundg f
      case measure => omega
      case rel => exact ⟨nx, tt, acc ++ [b], s', m + 1, c', rfl, by first | rfl | (congr 1; omega), rfl, by rw [List.length_append, List.length_singleton, HM.out], by rw [List.length_append, List.length_singleton]; omega, by omega, by omega, HA4.out, by rw [List.flatMap_append, List.flatMap_cons, List.flatMap_nil, List.append_nil]; exact HPU.out.1, HBY.out.trans HPU.out.2.1⟩
     ·
      have h3 : (fr == last) = false := by simp [h2]
      have h4 : (fr != last) = true := by simp [h2]
      clear hC
      go_wp2_with (first
       | (refine wpList_load_row rfl 23 _ rfl mb rfl _ _ _ _ h20 Tryd.underlying23 rfl (mLg_info _) ?_)
       | (refine wpList_build20 rfl _ rfl (rowB b).toArray (by rw [rowB_arr]; rfl) (by simp [rowB_len]) ?_)
       | (at_builtin; refine wpList_push_w Tryd.underlying51 Tryd.info20 rfl (by decide) (by decide) (rowB b) (rowB_one b) (rowB_len b) rfl _ _ rfl w.heap.size (.slice so m co) m (acc.flatMap rowB) rfl rfl HOX.out (by omega) HBY.out.size ?_; intro s' c' w4 hp; have HPU := Lib.hid hp; have hk4 := (pushed_keep hp (heap_lt HM3.out) OBM.out).trans HM3.out; have y0 : w4.cell? ⟨mb, 0, none⟩ = some (.int .i64 fr) := ((block_cell hk4).trans (mLg_at _ 0 (by decide))).trans (congrArg some (congrArg (Value.int .i64) HFR.out)); have y1 : w4.cell? ⟨mb, 1, none⟩ = some (.int .i64 tt) := ((block_cell hk4).trans (mLg_at _ 1 (by decide))).trans (congrArg some (congrArg (Value.int .i64) HTT2.out)); clear hp hk4))
      go_roundg f
      case measure => omega
      case rel => exact ⟨nx, tt, acc ++ [b], s', m + 1, c', rfl, by first | rfl | (congr 1; omega), rfl, by rw [List.length_append, List.length_singleton, HM.out], by rw [List.length_append, List.length_singleton]; omega, by omega, by omega, HA4.out, by rw [List.flatMap_append, List.flatMap_cons, List.flatMap_nil, List.append_nil]; exact HPU.out.1, HBY.out.trans HPU.out.2.1⟩
    ·
     have ha := HA3.out
     rw [if_neg hC] at ha
     have HA4 := Lib.hid ha
     have h1 : ¬ fr < (tt : Int) := fun e => hC (.inl e)
     have h2 : fr = last := by
      by_cases e : fr = last
      · exact e
      · exact absurd (Or.inr e) hC
     have h3 : (fr == last) = true := by simp [h2]
     have h4 : (fr != last) = false := by simp [h2]
     clear ha HA3 hC h2
     go_wp2
     go_roundg f
     case measure => omega
     case rel => exact ⟨nx, last, acc, so, m, co, rfl, by first | rfl | (congr 1; omega), rfl, HM.out, by omega, by omega, by omega, HA4.out, HOX.out, HBY.out⟩
  ·
   have q1 : ¬ (at' : Int) ≤ (n : Int) := by omega
   have hT : acc = TOT := by
    have := HALL.out
    cases gk with
    | zero => rw [allP, List.append_nil] at this; exact this
    | succ f =>
     rw [allP, if_pos (by have := HL.out; omega), List.append_nil] at this
     exact this
   go_wp2
   go_ret
   subst hT
   obtain rfl := HM.out
   exact ⟨HBW.out, so, co, rfl, HOWN.out, by omega⟩
end Go.Proofs.YtdegdoilpamjjaaDoor
