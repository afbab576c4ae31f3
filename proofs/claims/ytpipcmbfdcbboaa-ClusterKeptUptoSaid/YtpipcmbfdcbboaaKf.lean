/- The memory that ClusterKept holds: answers that nobody writes into, and lists that were written full; none shares a block with another. Steps that keep it. No condition. -/
import Derived.Test.YtpipcmbfdcbboaaKe
namespace Go.Proofs.Ytpipcmbfdcbboaa
open Go.RowKit
theorem Try.infoInts : (Try.prog.info? 22).map (fun i => (i.zero, i.size, i.bytes)) = some (some (.slice none 0 0), 1, 24) := by kernel_rfl
theorem Try.infoHeld : (Try.prog.info? 44).map (fun i => (i.zero, i.size, i.bytes)) = some (some (.agg #[.slice none 0 0, .slice none 0 0, .int .i64 0]), 3, 56) := by kernel_rfl
/-- an answer: its slice and its members -/
structure QuietD where
  g : Nat
  n : Nat
  c : Nat
  l : List Int
def qval (q : QuietD) : Value := .slice (some ⟨q.g, 0, none⟩) q.n q.c
def QOk (w : World) (q : QuietD) : Prop := OwnInts w 0 (qval q) q.l
theorem QOk.lt {w : World} {q : QuietD} (h : QOk w q) : q.g < w.heap.size := (World.ownsRow.lt h q.g rfl).2
def OwnQ (w : World) (base : Nat) (v : Value) (qs : List QuietD) : Prop := w.ownsRow base 22 1 v qs.length (qs.map qval)
def hasB (h : HeldD) (b : Nat) : Prop := b = h.g ∨ (Value.slice h.sM h.nM h.cM).ownBlock = some b
theorem HeldOk.lt {w : World} {h : HeldD} (hk : HeldOk w h) {b : Nat} (hb : hasB h b) : b < w.heap.size := by
  rcases hb with rfl | hb
  · exact hk.1.lt
  · exact (hk.2.1.lt b hb).2
theorem HeldOk.kept {w w' : World} {h : HeldD} (hk : HeldOk w h) (e : ∀ b, hasB h b → w'.heap[b]? = w.heap[b]?) : HeldOk w' h :=
  ⟨hk.1.block (e _ (.inl rfl)), hk.2.1.kept (fun b _ he => e b (.inr he)), hk.2.2⟩
theorem QOk.kept {w w' : World} {q : QuietD} (hk : QOk w q) (e : w'.heap[q.g]? = w.heap[q.g]?) : QOk w' q :=
  OwnInts.kept hk (fun b _ he => by have : q.g = b := by simpa [qval, Value.ownBlock] using he
                                    subst this; exact e)
theorem own_kept {w w' : World} {base : Nat} {e : TypeId} {size n : Nat} {v : Value} {xs : List Value} (h : w.ownsRow base e size v n xs) (k : ∀ b, v.ownBlock = some b → w'.heap[b]? = w.heap[b]?) : w'.ownsRow base e size v n xs := by
  refine ⟨h.1, ?_⟩
  rcases h.2 with hn | ⟨g, cap, cur, rfl, hg, hgg, rest⟩
  · exact .inl hn
  · exact .inr ⟨g, cap, cur, rfl, hg, (k g rfl).trans hgg, rest⟩
/-- no answer from the p-th on lies in block b; no list that was written full does -/
def SepQ (p b : Nat) (qs : List QuietD) : Prop := ∀ i (hi : i < qs.length), p ≤ i → qs[i].g ≠ b
def Sep (b : Nat) (hs : List HeldD) : Prop := ∀ h ∈ hs, ¬ hasB h b
structure KInv (B p : Nat) (w : World) (vq : Value) (qs : List QuietD) (vh : Value) (hs : List HeldD) : Prop where
  oq : OwnQ w B vq qs
  oh : OwnHeld w B vh hs
  q : ∀ i (hi : i < qs.length), p ≤ i → QOk w qs[i]
  h : ∀ h ∈ hs, HeldOk w h
  s0 : ∀ b, vq.ownBlock = some b → vh.ownBlock ≠ some b
  s1 : ∀ b, vq.ownBlock = some b → SepQ p b qs ∧ Sep b hs
  s2 : ∀ b, vh.ownBlock = some b → SepQ p b qs ∧ Sep b hs
  s3 : ∀ i (hi : i < qs.length), p ≤ i → Sep qs[i].g hs
  s4 : ∀ i j (hi : i < qs.length) (hj : j < qs.length), p ≤ i → i < j → qs[i].g ≠ qs[j].g
/-- the blocks that count -/
def KBlk (p : Nat) (vq : Value) (qs : List QuietD) (vh : Value) (hs : List HeldD) (b : Nat) : Prop :=
  vq.ownBlock = some b ∨ vh.ownBlock = some b ∨ (∃ i, ∃ hi : i < qs.length, p ≤ i ∧ qs[i].g = b) ∨ ∃ h ∈ hs, hasB h b
theorem KInv.lt {B p : Nat} {w : World} {vq vh : Value} {qs : List QuietD} {hs : List HeldD} (k : KInv B p w vq qs vh hs) {b : Nat} (hb : KBlk p vq qs vh hs b) : b < w.heap.size := by
  rcases hb with h | h | ⟨i, hi, hp, rfl⟩ | ⟨h, hm, hb⟩
  · exact (k.oq.lt b h).2
  · exact (k.oh.lt b h).2
  · exact (k.q i hi hp).lt
  · exact (k.h h hm).lt hb
theorem KInv.kept {B p : Nat} {w w' : World} {vq vh : Value} {qs : List QuietD} {hs : List HeldD} (k : KInv B p w vq qs vh hs) (e : ∀ b, KBlk p vq qs vh hs b → w'.heap[b]? = w.heap[b]?) : KInv B p w' vq qs vh hs :=
  ⟨own_kept k.oq (fun b hb => e b (.inl hb)), own_kept k.oh (fun b hb => e b (.inr (.inl hb))), fun i hi hp => (k.q i hi hp).kept (e _ (.inr (.inr (.inl ⟨i, hi, hp, rfl⟩)))), fun h hm => (k.h h hm).kept (fun b hb => e b (.inr (.inr (.inr ⟨h, hm, hb⟩)))), k.s0, k.s1, k.s2, k.s3, k.s4⟩
theorem KInv.later {B p : Nat} {w w' : World} {vq vh : Value} {qs : List QuietD} {hs : List HeldD} (k : KInv B p w vq qs vh hs) (hb : Below w.heap.size w w') : KInv B p w' vq qs vh hs :=
  k.kept (fun b h => hb.block b (k.lt h))
theorem getElem_push {α : Type} {l : List α} {x : α} {i : Nat} (hi : i < (l ++ [x]).length) : (∃ h : i < l.length, (l ++ [x])[i] = l[i]) ∨ (i = l.length ∧ (l ++ [x])[i] = x) := by
  by_cases h : i < l.length
  · exact .inl ⟨h, List.getElem_append_left h⟩
  · have : i = l.length := by simp at hi; omega
    subst this
    exact .inr ⟨rfl, by simp⟩
/-- one answer more -/
theorem KInv.pushQ {B p : Nat} {w w' : World} {vq vq' vh : Value} {qs : List QuietD} {hs : List HeldD} {q : QuietD} (k : KInv B p w vq qs vh hs) (hq : QOk w q)
    (n1 : vq.ownBlock ≠ some q.g) (n2 : vh.ownBlock ≠ some q.g) (n3 : Sep q.g hs) (n4 : SepQ p q.g qs) (ho : OwnQ w' B vq' (qs ++ [q])) (hg : w.grownBy w' vq.ownBlock) (hat : vq'.ownBlock = vq.ownBlock ∨ ∃ b, vq'.ownBlock = some b ∧ w.heap.size ≤ b) :
    KInv B p w' vq' (qs ++ [q]) vh hs := by
  have hkeep : ∀ b, b < w.heap.size → vq.ownBlock ≠ some b → w'.heap[b]? = w.heap[b]? := fun b hb hne => hg.block b hb (fun e => hne e.symm)
  have hnew : ∀ b, vq'.ownBlock = some b → vq.ownBlock = some b ∨ w.heap.size ≤ b := by
    intro b hb
    rcases hat with e | ⟨b', e, hle⟩
    · rw [e] at hb; exact .inl hb
    · rw [e] at hb; injection hb with hb; subst hb; exact .inr hle
  refine ⟨ho, own_kept k.oh (fun b hb => hkeep b (k.lt (.inr (.inl hb))) (fun e => k.s0 b e hb)), fun i hi hp => ?_, fun h hm => (k.h h hm).kept (fun b hb => hkeep b ((k.h h hm).lt hb) (fun e => (k.s1 b e).2 h hm hb)), fun b hb e => ?_, fun b hb => ⟨fun i hi hp => ?_, fun h hm hbb => ?_⟩, fun b hb => ⟨fun i hi hp => ?_, (k.s2 b hb).2⟩, fun i hi hp => ?_, fun i j hi hj hp hij => ?_⟩
  · rcases getElem_push hi with ⟨h, e⟩ | ⟨h, e⟩
    · rw [e]; exact (k.q i h hp).kept (hkeep _ (k.q i h hp).lt (fun e2 => (k.s1 _ e2).1 i h hp rfl))
    · rw [e]; exact hq.kept (hkeep _ hq.lt n1)
  · rcases hnew b hb with h | h
    · exact k.s0 b h e
    · have := k.lt (.inr (.inl e)); omega
  · rcases getElem_push hi with ⟨h, e⟩ | ⟨h, e⟩
    · rw [e]
      rcases hnew b hb with h2 | h2
      · exact (k.s1 b h2).1 i h hp
      · have := (k.q i h hp).lt; omega
    · rw [e]
      rcases hnew b hb with h2 | h2
      · intro e2; rw [e2] at n1; exact n1 h2
      · have := hq.lt; omega
  · rcases hnew b hb with h2 | h2
    · exact (k.s1 b h2).2 h hm hbb
    · have := (k.h h hm).lt hbb; omega
  · rcases getElem_push hi with ⟨h, e⟩ | ⟨h, e⟩
    · rw [e]; exact (k.s2 b hb).1 i h hp
    · rw [e]; intro e2; rw [e2] at n2; exact n2 hb
  · rcases getElem_push hi with ⟨h, e⟩ | ⟨h, e⟩
    · rw [e]; exact k.s3 i h hp
    · rw [e]; exact n3
  · rcases getElem_push hj with ⟨h, e⟩ | ⟨h, e⟩
    · rcases getElem_push hi with ⟨h', e'⟩ | ⟨h', e'⟩
      · rw [e, e']; exact k.s4 i j h' h hp hij
      · omega
    · rcases getElem_push hi with ⟨h', e'⟩ | ⟨h', e'⟩
      · rw [e, e']; exact n4 i h' hp
      · omega
/-- one list more that was written full -/
theorem KInv.pushH {B p : Nat} {w w' : World} {vq vh vh' : Value} {qs : List QuietD} {hs : List HeldD} {h : HeldD} (k : KInv B p w vq qs vh hs) (hh : HeldOk w h)
    (n1 : ∀ b, hasB h b → vq.ownBlock ≠ some b ∧ vh.ownBlock ≠ some b ∧ SepQ p b qs) (ho : OwnHeld w' B vh' (hs ++ [h])) (hg : w.grownBy w' vh.ownBlock) (hat : vh'.ownBlock = vh.ownBlock ∨ ∃ b, vh'.ownBlock = some b ∧ w.heap.size ≤ b) :
    KInv B p w' vq qs vh' (hs ++ [h]) := by
  have hkeep : ∀ b, b < w.heap.size → vh.ownBlock ≠ some b → w'.heap[b]? = w.heap[b]? := fun b hb hne => hg.block b hb (fun e => hne e.symm)
  have hnew : ∀ b, vh'.ownBlock = some b → vh.ownBlock = some b ∨ w.heap.size ≤ b := by
    intro b hb
    rcases hat with e | ⟨b', e, hle⟩
    · rw [e] at hb; exact .inl hb
    · rw [e] at hb; injection hb with hb; subst hb; exact .inr hle
  have mem : ∀ x, x ∈ hs ++ [h] → x ∈ hs ∨ x = h := fun x hx => by simpa using hx
  refine ⟨own_kept k.oq (fun b hb => hkeep b (k.lt (.inl hb)) (fun e => k.s0 b hb e)), ho, fun i hi hp => (k.q i hi hp).kept (hkeep _ (k.q i hi hp).lt (fun e => (k.s2 _ e).1 i hi hp rfl)), fun x hx => ?_, fun b hb e => ?_, fun b hb => ⟨(k.s1 b hb).1, fun x hx hbb => ?_⟩, fun b hb => ⟨fun i hi hp => ?_, fun x hx hbb => ?_⟩, fun i hi hp x hx hbb => ?_, k.s4⟩
  · rcases mem x hx with hm | rfl
    · exact (k.h x hm).kept (fun b hb => hkeep b ((k.h x hm).lt hb) (fun e => (k.s2 b e).2 x hm hb))
    · exact hh.kept (fun b hb => hkeep b (hh.lt hb) (n1 b hb).2.1)
  · rcases hnew b e with h2 | h2
    · exact k.s0 b hb h2
    · have := k.lt (.inl hb); omega
  · rcases mem x hx with hm | rfl
    · exact (k.s1 b hb).2 x hm hbb
    · exact (n1 b hbb).1 hb
  · rcases hnew b hb with h2 | h2
    · exact (k.s2 b h2).1 i hi hp
    · have := (k.q i hi hp).lt; omega
  · rcases mem x hx with hm | rfl
    · rcases hnew b hb with h2 | h2
      · exact (k.s2 b h2).2 x hm hbb
      · have := (k.h x hm).lt hbb; omega
    · rcases hnew b hb with h2 | h2
      · exact (n1 b hbb).2.1 h2
      · have := hh.lt hbb; omega
  · rcases mem x hx with hm | rfl
    · exact k.s3 i hi hp x hm hbb
    · exact (n1 _ hbb).2.2 i hi hp rfl
/-- the p-th answer is no longer held -/
theorem KInv.next {B p : Nat} {w w' : World} {vq vh : Value} {qs : List QuietD} {hs : List HeldD} (k : KInv B p w vq qs vh hs) (hp : p < qs.length) (ho : Only qs[p].g w w') : KInv B (p + 1) w' vq qs vh hs := by
  have hkeep : ∀ b, b < w.heap.size → b ≠ qs[p].g → w'.heap[b]? = w.heap[b]? := fun b hb hne => ho.block b hb (fun e => hne (by injection e))
  refine ⟨own_kept k.oq (fun b hb => hkeep b (k.lt (.inl hb)) (fun e => (k.s1 b hb).1 p hp (Nat.le_refl _) e.symm)), own_kept k.oh (fun b hb => hkeep b (k.lt (.inr (.inl hb))) (fun e => (k.s2 b hb).1 p hp (Nat.le_refl _) e.symm)), fun i hi hpi => (k.q i hi (by omega)).kept (hkeep _ (k.q i hi (by omega)).lt (fun e => k.s4 p i hp hi (Nat.le_refl _) (by omega) e.symm)), fun h hm => (k.h h hm).kept (fun b hb => hkeep b ((k.h h hm).lt hb) (fun e => k.s3 p hp (Nat.le_refl _) h hm (e ▸ hb))), k.s0, fun b hb => ⟨fun i hi hpi => (k.s1 b hb).1 i hi (by omega), (k.s1 b hb).2⟩, fun b hb => ⟨fun i hi hpi => (k.s2 b hb).1 i hi (by omega), (k.s2 b hb).2⟩, fun i hi hpi => k.s3 i hi (by omega), fun i j hi hj hpi hij => k.s4 i j hi hj (by omega) hij⟩
end Go.Proofs.Ytpipcmbfdcbboaa
