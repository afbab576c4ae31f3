/- Appends of ClusterKept as laws for the walk: one answer more, one written list more. Condition: fewer than 2^30 members. -/
import Derived.Test.YtpipcmbfdcbboaaKf
namespace Go.Proofs.Ytpipcmbfdcbboaa
open Go.RowKit
theorem slice_shape {w : World} {base : Nat} {e : TypeId} {size n : Nat} {v : Value} {xs : List Value} (h : w.ownsRow base e size v (n + 1) xs) : ∃ s c, v = .slice s (n + 1) c := by
  rcases h.2 with ⟨_, h2⟩ | ⟨g, cap, cur, h1, _⟩
  · omega
  · exact ⟨_, _, h1⟩
theorem row_len {w : World} {base : Nat} {e : TypeId} {size n m : Nat} {s : Option Addr} {c : Nat} {xs : List Value} (h : w.ownsRow base e size (.slice s m c) n xs) : m = n := by
  rcases h.2 with ⟨h1, h2⟩ | ⟨g, cap, cur, h1, _⟩
  · rw [(Value.slice.inj h1).2.1, h2]
  · exact (Value.slice.inj h1).2.1
theorem wpList_push_q {w : World} {ops : Array Oper} {rest : List Oper} {o : Oper} {a : Act} {Q : Exit → Act → World → Prop} (q : QuietD) (hgd : o.guard = none) (s x : Operand)
    (ho : o.op = .call { callee := .builtin .append, args := #[s, x], argTypes := #[30, 30] })
    (B p : Nat) (sl : Option Addr) (j c : Nat) (qs : List QuietD) (vh : Value) (hs : List HeldD) (hsl : a.eval s = .slice sl j c) (hx : a.eval x = .slice (some ⟨w.heap.size, 0, none⟩) 1 1) (k : KInv B p w (.slice sl j c) qs vh hs) (hj : j < 1073741824) (hB : B ≤ w.heap.size)
    (hq : QOk w q) (hf : ∀ b, KBlk p (.slice sl j c) qs vh hs b → b ≠ q.g)
    (h : ∀ s' c' w', KInv B p w' (.slice s' (j + 1) c') (qs ++ [q]) vh hs → Below B w w' → wpList Try.prog ops Q rest (a.put o.dst (.slice s' (j + 1) c')) w') :
    wpList Try.prog ops Q (o :: rest) a (w.alloc (.cells #[qval q] 22)) := by
  obtain ⟨i0, hi, hz0, hz1, hz2⟩ := info_parts Try.infoInts
  have hb0 : Below w.heap.size w (w.alloc (.cells #[qval q] 22)) := below_new2 _ _
  have k1 := k.later hb0
  have hq1 : QOk (w.alloc (.cells #[qval q] 22)) q := hq.kept (hb0.block _ hq.lt)
  have hoq := k1.oq
  unfold OwnQ at hoq
  obtain rfl := row_len hoq
  refine wpList_append_own_at _ hgd s x 30 ho B 22 i0 (.slice none 0 0) 1 24 Try.underlying30 hi hz0 hz1 hz2 rfl (by decide) _ _ _ hsl hoq ⟨w.heap.size, 0, none⟩ 1 1 [qval q] hx rfl (cell_one_new _ _ _) (by intro u hu; rw [List.mem_singleton] at hu; subst hu; rfl) (by unfold maxLen; omega) (by omega) (by simp; omega) ?_
  intro v' w1 hown' hgrow _ hat
  obtain ⟨s', c', rfl⟩ := slice_shape hown'
  have hO : OwnQ w1 B (.slice s' (qs.length + 1) c') (qs ++ [q]) := by
    unfold OwnQ
    rw [List.length_append, List.map_append]
    exact hown'
  refine h s' c' w1 (k1.pushQ hq1 (fun e => hf _ (.inl e) rfl) (fun e => hf _ (.inr (.inl e)) rfl) (fun x hm hb => hf _ (.inr (.inr (.inr ⟨x, hm, hb⟩))) rfl) (fun i hi hp => hf _ (.inr (.inr (.inl ⟨i, hi, hp, rfl⟩)))) hO hgrow ?_) ?_
  · rcases hat with e | e
    · exact .inl e
    · exact .inr ⟨_, e, Nat.le_refl _⟩
  · exact Below.grown ((Below.refl _ _).alloc hB _) hgrow (by simp; omega) (fun b hb => (k1.oq.lt b hb).1)
theorem cell_three_new (w : World) (h : HeldD) : ∀ j u, (hcells h)[j]? = some u → (w.alloc (.cells (hcells h).toArray 44)).cell? ((⟨w.heap.size, 0, none⟩ : Addr).add j) = some u := by
  intro j u hj
  rw [Go.WideShapes.add_plain, Nat.zero_add]
  have hh : (w.alloc (.cells (hcells h).toArray 44)).heap[w.heap.size]? = some (.cells (hcells h).toArray 44 (0, 0)) := by
    show (w.heap.push _)[w.heap.size]? = _
    simp
  simp only [World.cell?, hh]
  simpa using hj
theorem wpList_push_h {w : World} {ops : Array Oper} {rest : List Oper} {o : Oper} {a : Act} {Q : Exit → Act → World → Prop} (h0 : HeldD) (hgd : o.guard = none) (s x : Operand)
    (ho : o.op = .call { callee := .builtin .append, args := #[s, x], argTypes := #[42, 42] })
    (B p : Nat) (sl : Option Addr) (j c : Nat) (vq : Value) (qs : List QuietD) (hs : List HeldD) (hsl : a.eval s = .slice sl j c) (hx : a.eval x = .slice (some ⟨w.heap.size, 0, none⟩) 1 1) (k : KInv B p w vq qs (.slice sl j c) hs) (hj : j < 1073741824) (hB : B ≤ w.heap.size)
    (hh : HeldOk w h0) (hf : ∀ b, hasB h0 b → vq.ownBlock ≠ some b ∧ (Value.slice sl j c).ownBlock ≠ some b ∧ SepQ p b qs)
    (h : ∀ s' c' w', KInv B p w' vq qs (.slice s' (j + 1) c') (hs ++ [h0]) → w.grownBy w' (Value.slice sl j c).ownBlock → (∀ b, (Value.slice s' (j + 1) c').ownBlock = some b → (Value.slice sl j c).ownBlock = some b ∨ w.heap.size ≤ b) → wpList Try.prog ops Q rest (a.put o.dst (.slice s' (j + 1) c')) w') :
    wpList Try.prog ops Q (o :: rest) a (w.alloc (.cells (hcells h0).toArray 44)) := by
  obtain ⟨i0, hi, hz0, hz1, hz2⟩ := info_parts Try.infoHeld
  have hb0 : Below w.heap.size w (w.alloc (.cells (hcells h0).toArray 44)) := below_new2 _ _
  have k1 := k.later hb0
  have hh1 := hh.later hb0
  have hoh := k1.oh
  unfold OwnHeld at hoh
  obtain rfl := row_len hoh
  refine wpList_append_own_at _ hgd s x 42 ho B 44 i0 (.agg #[.slice none 0 0, .slice none 0 0, .int .i64 0]) 3 56 Try.underlying42 hi hz0 hz1 hz2 rfl (by decide) _ _ _ hsl hoh ⟨w.heap.size, 0, none⟩ 1 1 (hcells h0) hx rfl (cell_three_new w h0) (by intro u hu; simp [hcells] at hu; rcases hu with rfl | rfl | rfl <;> rfl) (by unfold maxLen; omega) (by omega) (by simp; omega) ?_
  intro v' w1 hown' hgrow _ hat
  obtain ⟨s', c', rfl⟩ := slice_shape hown'
  have hO : OwnHeld w1 B (.slice s' (hs.length + 1) c') (hs ++ [h0]) := by
    unfold OwnHeld
    rw [List.length_append, List.flatMap_append]
    have e : [h0].flatMap hcells = hcells h0 := by simp
    rw [e]
    exact hown'
  refine h s' c' w1 (k1.pushH hh1 hf hO hgrow ?_) (World.grownBy.trans (World.grownBy_alloc w _ _) hgrow) (fun b hb => ?_)
  · rcases hat with e | e
    · exact .inl e
    · exact .inr ⟨_, e, Nat.le_refl _⟩
  · rcases hat with e | e
    · rw [e] at hb; exact .inl hb
    · rw [e] at hb; injection hb with hb; subst hb; exact .inr (by simp)
end Go.Proofs.Ytpipcmbfdcbboaa
