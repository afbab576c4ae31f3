/- Plain: what add leaves; the programs that the reader's nodes come to keep within (WfA). No program in sight. Contract: pattern.Compile at a quoted list. Condition: no more than 128 ints. Sets that thing of the reader makes, in memory; one. Condition: no more than 2^30 ints. -/
import Derived.Defers
import Derived.Recover
import Derived.Test.YtdegdoilpamjjaaDoorCAh
import Derived.Test.YtdegdoilpamjjaaDoorCAg
namespace Go.Proofs.YtdegdoilpamjjaaDoor
set_option linter.unusedVariables false
section
variable {acts : List ActD} {deep : Nat} {lv : Nat → Nat} {stand : Int → Bool} {at' : Nat} {fr : Int}
theorem markS_le {seen : Nat → Nat} {k : Nat} (h : ∀ i, seen i ≤ at' + 1) : ∀ i, markS at' k seen i ≤ at' + 1 := fun i => by
 unfold markS
 split
 · exact Nat.le_refl _
 · exact h i
theorem goOn_ok (hwf : WfA acts deep lv) : ∀ (f : Nat) (t : ToD) (seen : Nat → Nat) (th : List ThD) (st : List ToD), GoodT acts lv t → (∀ x ∈ st, GoodT acts lv x) → (∀ x ∈ th, x.act < acts.length) → (∀ i, seen i ≤ at' + 1) →
  (∀ i, (goOnP acts deep stand at' fr f t seen th st).1 i ≤ at' + 1) ∧ (∀ x ∈ (goOnP acts deep stand at' fr f t seen th st).2.1, x.act < acts.length) ∧ (∀ x ∈ (goOnP acts deep stand at' fr f t seen th st).2.2, GoodT acts lv x)
 | 0, t, seen, th, st, ht, hst, hth, hs => by rw [goOnP]; exact ⟨hs, hth, hst⟩
 | f + 1, t, seen, th, st, ht, hst, hth, hs => by
  by_cases hneg : t.act < 0
  ·
   rw [goOnP_zero _ _ _ _ _ _ _ _ _ _ hneg]
   exact ⟨hs, hth, hst⟩
  ·
   obtain ⟨ta, id, nts⟩ := t
   simp only at hneg
   obtain ⟨j, rfl⟩ : ∃ j : Nat, ta = j := ⟨ta.toNat, by omega⟩
   have hjd : j < acts.length ∧ id ≤ lv j := by
    rcases ht with h | ⟨_, h2, h3⟩
    · simp only at h; omega
    · simp only [Int.toNat_natCast] at h2 h3; exact ⟨h2, h3⟩
   obtain ⟨hj, hid⟩ := hjd
   have hm := markS_le (k := j * (deep + 1) + id) hs
   have h1 : ∀ (v : Nat), Tgt acts lv v ((j + 1 : Nat) : Int) → ∀ d' nn, d' ≤ v → GoodT acts lv ⟨(j : Int) + 1, d', nn⟩ := fun v hv d' nn hd => hv.up hd
   rw [goOn_eq _ _ _ _ _ _ _ _ _ _ _ _ hj]
   split
   · exact ⟨hs, hth, hst⟩
   ·
    split
    ·
     refine ⟨hm, fun x hx => ?_, hst⟩
     rcases List.mem_append.mp hx with hx | hx
     · exact hth x hx
     · rw [List.mem_singleton.mp hx]; exact hj
    ·
     split
     ·
      rename_i hk
      split
      · exact goOn_ok hwf f _ _ _ _ (h1 _ (hwf.stand j hj hk) _ _ hid) hst hth hm
      · exact ⟨hm, hth, hst⟩
     ·
      split
      ·
       rename_i hk
       refine goOn_ok hwf f _ _ _ _ ((hwf.fork j hj hk).1.up hid) (fun x hx => ?_) hth hm
       rcases List.mem_cons.mp hx with rfl | hx
       · exact (hwf.fork j hj hk).2.up hid
       · exact hst x hx
      ·
       split
       ·
        rename_i hk
        exact goOn_ok hwf f _ _ _ _ (h1 _ (hwf.note j hj hk) _ _ hid) hst hth hm
       ·
        split
        ·
         rename_i hk
         exact goOn_ok hwf f _ _ _ _ (h1 _ (hwf.enter j hj hk) _ _ (Nat.succ_le_succ hid)) hst hth hm
        ·
         split
         · exact ⟨hm, hth, hst⟩
         ·
          rename_i h0 h6 hk1 hk2 hk3 hk4 hi
          have hkk := hwf.kind j hj
          have hk5 : acts[j].kind = 5 := by omega
          exact goOn_ok hwf f _ _ _ _ (h1 _ (hwf.check j hj hk5) _ _ (by omega)) hst hth hm
theorem addP_ok (hwf : WfA acts deep lv) : ∀ (f : Nat) (seen : Nat → Nat) (th : List ThD) (st : List ToD), (∀ x ∈ st, GoodT acts lv x) → (∀ x ∈ th, x.act < acts.length) → (∀ i, seen i ≤ at' + 1) →
  (∀ i, (addP' acts deep stand at' fr f seen th st).1 i ≤ at' + 1) ∧ (∀ x ∈ (addP' acts deep stand at' fr f seen th st).2, x.act < acts.length)
 | 0, seen, th, st, hst, hth, hs => by rw [addP']; exact ⟨hs, hth⟩
 | f + 1, seen, th, [], hst, hth, hs => by rw [addP']; exact ⟨hs, hth⟩
 | f + 1, seen, th, t :: st, hst, hth, hs => by
  rw [addP']
  obtain ⟨a, b, c⟩ := goOn_ok (stand := stand) (fr := fr) hwf (acts.length * (deep + 1) + 2) t seen th st (hst t (List.mem_cons_self ..)) (fun x hx => hst x (List.mem_cons_of_mem _ hx)) hth hs
  exact addP_ok hwf f _ _ _ c b a
end
def bal : List ActD → Nat → Int
 | [], _ => 0
 | _, 0 => 0
 | a :: l, i + 1 => (if a.kind = 4 then 1 else if a.kind = 5 then -1 else 0) + bal l i
theorem bal_zero (l : List ActD) : bal l 0 = 0 := by cases l <;> rfl
theorem bal_past : ∀ (l : List ActD) (i : Nat), l.length ≤ i → bal l i = bal l l.length
 | [], i, _ => by cases i <;> rfl
 | a :: l, 0, h => by simp at h
 | a :: l, i + 1, h => by
  simp only [bal, List.length_cons]
  rw [bal_past l i (by simpa using h)]
theorem bal_app : ∀ (l r : List ActD) (i : Nat), bal (l ++ r) i = bal l i + bal r (i - l.length)
 | [], r, i => by cases i <;> simp [bal]
 | a :: l, r, 0 => by simp [bal_zero]
 | a :: l, r, i + 1 => by
  simp only [List.cons_append, bal, List.length_cons, Nat.add_sub_add_right]
  rw [bal_app l r i, Int.add_assoc]
def SetOk (a : ActD) : Prop := (a.kind = 0 → ∃ s, a.s = some s ∧ (∀ c ∈ s.kinds, KindL c) ∧ s.ranges.length ≤ 1000000 ∧ s.kinds.length ≤ 1000000) ∧ (a.kind ≠ 0 → a.s = none)
def TgtF (l : List ActD) (b : Nat) (T : Int → Prop) (v t : Int) : Prop := t < 0 ∨ (∃ m, m ≤ l.length ∧ t = ((b + m : Nat) : Int) ∧ bal l m = v) ∨ (T t ∧ v = 0)
structure FragE (l : List ActD) (b d D : Nat) (T : Int → Prop) : Prop where
 z : bal l l.length = 0
 nn : ∀ i, i ≤ l.length → 0 ≤ bal l i
 up : ∀ i, i ≤ l.length → (d : Int) + bal l i ≤ D
 fk : ∀ i (h : i < l.length), l[i].kind = 2 → TgtF l b T (bal l i) l[i].x ∧ TgtF l b T (bal l i) l[i].y
 kd : ∀ i (h : i < l.length), 0 ≤ l[i].kind ∧ l[i].kind ≤ 5
 st : ∀ i (h : i < l.length), SetOk l[i]
theorem FragE.nil (b d D : Nat) (T : Int → Prop) (h : d ≤ D) : FragE [] b d D T := ⟨rfl, fun i _ => by cases i <;> exact Int.le_refl _, fun i _ => by cases i <;> simp [bal] <;> omega, fun i hi => absurd hi (by simp), fun i hi => absurd hi (by simp), fun i hi => absurd hi (by simp)⟩
theorem FragE.one (a : ActD) (b d D : Nat) (T : Int → Prop) (h : d ≤ D) (hk : 0 ≤ a.kind ∧ a.kind ≤ 3) (hs : SetOk a) (hf : a.kind = 2 → (a.x < 0 ∨ T a.x) ∧ (a.y < 0 ∨ T a.y)) : FragE [a] b d D T := by
 have hb : ∀ i, bal [a] i = 0 := fun i => by
  cases i with
  | zero => rfl
  | succ i => simp only [bal]; rw [if_neg (by omega), if_neg (by omega)]; cases i <;> rfl
 refine ⟨hb _, fun i _ => by rw [hb]; exact Int.le_refl _, fun i _ => by rw [hb]; omega, fun i hi hk2 => ?_, fun i hi => ?_, fun i hi => ?_⟩
 all_goals
  have h0 : i = 0 := by simpa using hi
  subst h0
 ·
  rw [hb]
  obtain ⟨h1, h2⟩ := hf hk2
  exact ⟨h1.elim .inl (fun h => .inr (.inr ⟨h, rfl⟩)), h2.elim .inl (fun h => .inr (.inr ⟨h, rfl⟩))⟩
 · exact ⟨hk.1, by have := hk.2; show a.kind ≤ 5; omega⟩
 · exact hs
theorem TgtF.left {l r : List ActD} {b : Nat} {T : Int → Prop} {v t : Int} (h : TgtF l b T v t) (hr : bal r 0 = 0) : TgtF (l ++ r) b T v t := by
 rcases h with h | ⟨m, h1, h2, h3⟩ | h
 · exact .inl h
 ·
  refine .inr (.inl ⟨m, by simp; omega, h2, ?_⟩)
  rw [bal_app, show m - l.length = 0 from by omega, hr, h3]
  simp
 · exact .inr (.inr h)
theorem TgtF.right {l r : List ActD} {b : Nat} {T : Int → Prop} {v t : Int} (h : TgtF r (b + l.length) T v t) (hz : bal l l.length = 0) : TgtF (l ++ r) b T v t := by
 rcases h with h | ⟨m, h1, h2, h3⟩ | h
 · exact .inl h
 ·
  refine .inr (.inl ⟨l.length + m, by simp; omega, by rw [h2]; congr 1; omega, ?_⟩)
  rw [bal_app, bal_past l _ (by omega), hz, Nat.add_sub_cancel_left, h3]
  simp
 · exact .inr (.inr h)
theorem FragE.app {l r : List ActD} {b d D : Nat} {T : Int → Prop} (h : FragE l b d D T) (k : FragE r (b + l.length) d D T) : FragE (l ++ r) b d D T := by
 have hL : ∀ i, i ≤ l.length → bal (l ++ r) i = bal l i := fun i hi => by rw [bal_app, show i - l.length = 0 from by omega, bal_zero]; simp
 have hR : ∀ i, l.length ≤ i → bal (l ++ r) i = bal r (i - l.length) := fun i hi => by rw [bal_app, bal_past l i hi, h.z]; simp
 refine ⟨?_, fun i hi => ?_, fun i hi => ?_, fun i hi hk => ?_, fun i hi => ?_, fun i hi => ?_⟩
 · rw [hR _ (by simp), List.length_append, Nat.add_sub_cancel_left]; exact k.z
 ·
  rcases Nat.le_total i l.length with h1 | h1
  · rw [hL i h1]; exact h.nn i h1
  · rw [hR i h1]; exact k.nn _ (by simp at hi; omega)
 ·
  rcases Nat.le_total i l.length with h1 | h1
  · rw [hL i h1]; exact h.up i h1
  · rw [hR i h1]; exact k.up _ (by simp at hi; omega)
 ·
  rcases Nat.lt_or_ge i l.length with h1 | h1
  ·
   rw [hL i (by omega)]
   simp only [List.getElem_append_left h1] at hk ⊢
   obtain ⟨a1, a2⟩ := h.fk i h1 hk
   exact ⟨a1.left (bal_zero _), a2.left (bal_zero _)⟩
  ·
   rw [hR i h1]
   simp only [List.getElem_append_right h1] at hk ⊢
   obtain ⟨a1, a2⟩ := k.fk (i - l.length) (by simp at hi; omega) hk
   exact ⟨a1.right h.z, a2.right h.z⟩
 ·
  rcases Nat.lt_or_ge i l.length with h1 | h1
  · rw [List.getElem_append_left h1]; exact h.kd i h1
  · rw [List.getElem_append_right h1]; exact k.kd _ (by simp at hi; omega)
 ·
  rcases Nat.lt_or_ge i l.length with h1 | h1
  · rw [List.getElem_append_left h1]; exact h.st i h1
  · rw [List.getElem_append_right h1]; exact k.st _ (by simp at hi; omega)
theorem FragE.close {l : List ActD} {b d D : Nat} {T T' : Int → Prop} (h : FragE l b d D T) (hT : ∀ t, T t → T' t ∨ ∃ m, m ≤ l.length ∧ t = ((b + m : Nat) : Int) ∧ bal l m = 0) : FragE l b d D T' := by
 have hc : ∀ v t, TgtF l b T v t → TgtF l b T' v t := fun v t ht => by
  rcases ht with ht | ht | ⟨ht, rfl⟩
  · exact .inl ht
  · exact .inr (.inl ht)
  ·
   rcases hT t ht with h1 | h1
   · exact .inr (.inr ⟨h1, rfl⟩)
   · exact .inr (.inl h1)
 exact ⟨h.z, h.nn, h.up, fun i hi hk => ⟨hc _ _ (h.fk i hi hk).1, hc _ _ (h.fk i hi hk).2⟩, h.kd, h.st⟩
theorem FragE.any {l : List ActD} {b d D : Nat} {T : Int → Prop} (h : FragE l b d D (fun _ => False)) : FragE l b d D T := h.close fun t ht => ht.elim
theorem bal_mid {l r : List ActD} (h : bal l l.length = 0) : bal (l ++ r) l.length = 0 := by rw [bal_app, h, Nat.sub_self, bal_zero]; rfl
theorem FragE.wrap {g : List ActD} {b d D : Nat} {T : Int → Prop} (h : FragE g (b + 1) (d + 1) D (fun _ => False)) : FragE (⟨4, 0, 0, none⟩ :: (g ++ [⟨5, 0, 0, none⟩])) b d D T := by
 have h0 := h.up 0 (Nat.zero_le _)
 rw [bal_zero] at h0
 have hS : ∀ j, j ≤ g.length → bal ((⟨4, 0, 0, none⟩ : ActD) :: (g ++ [⟨5, 0, 0, none⟩])) (j + 1) = 1 + bal g j := fun j hj => by
  simp only [bal]
  rw [bal_app, show j - g.length = 0 from by omega, bal_zero]
  simp
 have hE : bal ((⟨4, 0, 0, none⟩ : ActD) :: (g ++ [⟨5, 0, 0, none⟩])) (g.length + 2) = 0 := by
  simp only [bal]
  rw [bal_app, bal_past g _ (by omega), h.z, show g.length + 1 - g.length = 1 from by omega]
  simp [bal]
 have hT : ∀ v t, TgtF g (b + 1) (fun _ => False) v t → TgtF ((⟨4, 0, 0, none⟩ : ActD) :: (g ++ [⟨5, 0, 0, none⟩])) b T (1 + v) t := fun v t ht => by
  rcases ht with ht | ⟨m, h1, h2, h3⟩ | ⟨ht, _⟩
  · exact .inl ht
  · exact .inr (.inl ⟨m + 1, by simp; omega, by rw [h2]; congr 1; omega, by rw [hS m h1, h3]⟩)
  · exact ht.elim
 have hlen : ((⟨4, 0, 0, none⟩ : ActD) :: (g ++ [⟨5, 0, 0, none⟩])).length = g.length + 2 := by simp
 have hget : ∀ i (hi : i < ((⟨4, 0, 0, none⟩ : ActD) :: (g ++ [⟨5, 0, 0, none⟩])).length), (i = 0 ∧ ((⟨4, 0, 0, none⟩ : ActD) :: (g ++ [⟨5, 0, 0, none⟩]))[i] = ⟨4, 0, 0, none⟩) ∨ (∃ (j : Nat) (hj : j < g.length), i = j + 1 ∧ ((⟨4, 0, 0, none⟩ : ActD) :: (g ++ [⟨5, 0, 0, none⟩]))[i] = g[j]) ∨ ((⟨4, 0, 0, none⟩ : ActD) :: (g ++ [⟨5, 0, 0, none⟩]))[i] = ⟨5, 0, 0, none⟩ := fun i hi => by
  cases i with
  | zero => exact .inl ⟨rfl, rfl⟩
  | succ j =>
   rw [List.getElem_cons_succ]
   rcases Nat.lt_or_ge j g.length with hj | hj
   · exact .inr (.inl ⟨j, hj, rfl, List.getElem_append_left hj⟩)
   ·
    refine .inr (.inr ?_)
    rw [List.getElem_append_right hj]
    simp
 refine ⟨by rw [hlen]; exact hE, fun i hi => ?_, fun i hi => ?_, fun i hi hk => ?_, fun i hi => ?_, fun i hi => ?_⟩
 ·
  rw [hlen] at hi
  cases i with
  | zero => rw [bal_zero]; exact Int.le_refl _
  | succ j =>
   rcases Nat.lt_or_ge g.length j with hj | hj
   ·
    obtain rfl : j = g.length + 1 := by omega
    rw [hE]; exact Int.le_refl _
   · rw [hS j hj]; have := h.nn j hj; omega
 ·
  rw [hlen] at hi
  cases i with
  | zero => rw [bal_zero]; omega
  | succ j =>
   rcases Nat.lt_or_ge g.length j with hj | hj
   ·
    obtain rfl : j = g.length + 1 := by omega
    rw [hE]; omega
   · rw [hS j hj]; have := h.up j hj; omega
 ·
  rcases hget i hi with ⟨_, e⟩ | ⟨j, hj, rfl, e⟩ | e
  · rw [e] at hk; exact absurd hk (by decide)
  ·
   rw [e] at hk ⊢
   rw [hS j (by omega)]
   exact ⟨hT _ _ (h.fk j hj hk).1, hT _ _ (h.fk j hj hk).2⟩
  · rw [e] at hk; exact absurd hk (by decide)
 ·
  rcases hget i hi with ⟨_, e⟩ | ⟨j, hj, rfl, e⟩ | e
  · rw [e]; decide
  · rw [e]; exact h.kd j hj
  · rw [e]; decide
 ·
  rcases hget i hi with ⟨_, e⟩ | ⟨j, hj, rfl, e⟩ | e
  · rw [e]; exact ⟨fun h => absurd h (by decide), fun _ => rfl⟩
  · rw [e]; exact h.st j hj
  · rw [e]; exact ⟨fun h => absurd h (by decide), fun _ => rfl⟩
theorem setOk_plain (k x y : Int) (h : k ≠ 0) : SetOk ⟨k, x, y, none⟩ := ⟨fun e => absurd e h, fun _ => rfl⟩
theorem frag_genR (D d : Nat) : ∀ (l : List Nd) (b : Nat), d ≤ D → (∀ m ∈ l, ∀ b, FragE (genA m b) b d D (fun _ => False)) → (∀ m ∈ l, ∀ b, (genA m b).length = sizeA m) → FragE (genR l b) b d D (fun _ => False)
 | [], b, hD, h, hl => by rw [genR]; exact .nil _ _ _ _ hD
 | n :: l, b, hD, h, hl => by
  rw [genR]
  refine (h n (List.mem_cons_self ..) b).app ?_
  rw [hl n (List.mem_cons_self ..)]
  exact frag_genR D d l _ hD (fun m hm => h m (List.mem_cons_of_mem _ hm)) (fun m hm => hl m (List.mem_cons_of_mem _ hm))
theorem frag_genC (D d e : Nat) : ∀ (l : List Nd) (b : Nat), d ≤ D → (∀ m ∈ l, ∀ b, FragE (genA m b) b d D (fun _ => False)) → (∀ m ∈ l, ∀ b, (genA m b).length = sizeA m) → FragE (genC l b e) b d D (fun t => t = (e : Int))
 | [], b, hD, h, hl => by rw [genC]; exact .nil _ _ _ _ hD
 | [n], b, hD, h, hl => by rw [genC]; exact (h n (List.mem_cons_self ..) b).any
 | n :: m :: l, b, hD, h, hl => by
  rw [genC_cons n (m :: l) b e (by simp)]
  have h1 := h n (List.mem_cons_self ..) (b + 1)
  have h2 := hl n (List.mem_cons_self ..) (b + 1)
  have h3 := frag_genC D d e (m :: l) (b + sizeA n + 2) hD (fun x hx => h x (List.mem_cons_of_mem _ hx)) (fun x hx => hl x (List.mem_cons_of_mem _ hx))
  let T : Int → Prop := fun t => t = (e : Int) ∨ t = ((b + 1 : Nat) : Int) ∨ t = ((b + sizeA n + 2 : Nat) : Int)
  have f1 : FragE [(⟨2, (b + 1 : Nat), (b + sizeA n + 2 : Nat), none⟩ : ActD)] b d D T := .one _ _ _ _ _ hD ⟨by show (0 : Int) ≤ 2; decide, by show (2 : Int) ≤ 3; decide⟩ (setOk_plain _ _ _ (by decide)) (fun _ => ⟨.inr (.inr (.inl rfl)), .inr (.inr (.inr rfl))⟩)
  have f2 : FragE [(⟨2, e, -1, none⟩ : ActD)] (b + 1 + sizeA n) d D T := .one _ _ _ _ _ hD ⟨by show (0 : Int) ≤ 2; decide, by show (2 : Int) ≤ 3; decide⟩ (setOk_plain _ _ _ (by decide)) (fun _ => ⟨.inr (.inl rfl), .inl (by show (-1 : Int) < 0; decide)⟩)
  have g1 : FragE ([(⟨2, (b + 1 : Nat), (b + sizeA n + 2 : Nat), none⟩ : ActD)] ++ genA n (b + 1)) b d D T := f1.app (h1.any (T := T))
  have g2 : FragE (([(⟨2, (b + 1 : Nat), (b + sizeA n + 2 : Nat), none⟩ : ActD)] ++ genA n (b + 1)) ++ [(⟨2, e, -1, none⟩ : ActD)]) b d D T := g1.app (by rw [List.length_append, h2, show b + ([(⟨2, (b + 1 : Nat), (b + sizeA n + 2 : Nat), none⟩ : ActD)].length + sizeA n) = b + 1 + sizeA n from by simp; omega]; exact f2)
  have hlen : (([(⟨2, (b + 1 : Nat), (b + sizeA n + 2 : Nat), none⟩ : ActD)] ++ genA n (b + 1)) ++ [(⟨2, e, -1, none⟩ : ActD)]).length = sizeA n + 2 := by simp [h2]
  have g3 := g2.app (r := genC (m :: l) (b + sizeA n + 2) e) (by rw [hlen, show b + (sizeA n + 2) = b + sizeA n + 2 from by omega]; exact h3.close (T' := T) (fun t ht => .inl (.inl ht)))
  have hz := bal_mid (l := (([(⟨2, (b + 1 : Nat), (b + sizeA n + 2 : Nat), none⟩ : ActD)] ++ genA n (b + 1)) ++ [(⟨2, e, -1, none⟩ : ActD)])) (r := genC (m :: l) (b + sizeA n + 2) e) g2.z
  rw [hlen] at hz
  have g4 := g3.close (T' := fun t => t = (e : Int)) (fun t ht => by
   rcases ht with ht | ht | ht
   · exact .inl ht
   ·
    refine .inr ⟨1, by simp, ht, ?_⟩
    have := bal_mid (l := [(⟨2, (b + 1 : Nat), (b + sizeA n + 2 : Nat), none⟩ : ActD)]) (r := genA n (b + 1) ++ ([(⟨2, e, -1, none⟩ : ActD)] ++ genC (m :: l) (b + sizeA n + 2) e)) f1.z
    simpa [List.append_assoc] using this
   · exact .inr ⟨sizeA n + 2, by rw [List.length_append, hlen]; omega, by rw [ht]; congr 1, hz⟩)
  simpa [List.append_assoc] using g4
theorem frag_copies (D d : Nat) (g : Nat → List ActD) (sz : Nat) (hD : d ≤ D) (hg : ∀ b, FragE (g b) b d D (fun _ => False)) (hl : ∀ b, (g b).length = sz) : ∀ (k b : Nat), FragE (copiesA g sz k b) b d D (fun _ => False)
 | 0, b => by rw [copiesA]; exact .nil _ _ _ _ hD
 | k + 1, b => by
  rw [copiesA]
  refine (hg b).app ?_
  rw [hl]
  exact frag_copies D d g sz hD hg hl k (b + sz)
theorem frag_ways (D d : Nat) (g : Nat → List ActD) (sz : Nat) (lz : Bool) (out : Nat) (hg : ∀ b, FragE (g b) b (d + 1) D (fun _ => False)) (hl : ∀ b, (g b).length = sz) (hD : d ≤ D) : ∀ (k b : Nat), FragE (waysA g sz lz out k b) b d D (fun t => t = (out : Int))
 | 0, b => by rw [waysA]; exact .nil _ _ _ _ hD
 | k + 1, b => by
  rw [waysA]
  obtain ⟨a, ha⟩ : ∃ a : ActD, (if lz then ⟨2, out, (b + 1 : Nat), none⟩ else ⟨2, (b + 1 : Nat), out, none⟩) = a := ⟨_, rfl⟩
  rw [ha]
  let T : Int → Prop := fun t => t = (out : Int) ∨ t = ((b + 1 : Nat) : Int)
  have f1 : FragE [a] b d D T := by
   subst ha
   cases lz
   · exact .one _ _ _ _ _ hD ⟨by show (0 : Int) ≤ 2; decide, by show (2 : Int) ≤ 3; decide⟩ (setOk_plain _ _ _ (by decide)) (fun _ => ⟨.inr (.inr rfl), .inr (.inl rfl)⟩)
   · exact .one _ _ _ _ _ hD ⟨by show (0 : Int) ≤ 2; decide, by show (2 : Int) ≤ 3; decide⟩ (setOk_plain _ _ _ (by decide)) (fun _ => ⟨.inr (.inl rfl), .inr (.inr rfl)⟩)
  have f2 : FragE ((⟨4, 0, 0, none⟩ : ActD) :: (g (b + 2) ++ [⟨5, 0, 0, none⟩])) (b + 1) d D T := (hg (b + 2)).wrap
  have g1 := f1.app f2
  have hlen : ([a] ++ ((⟨4, 0, 0, none⟩ : ActD) :: (g (b + 2) ++ [⟨5, 0, 0, none⟩]))).length = sz + 3 := by simp [hl]
  have g2 := g1.app (r := waysA g sz lz out k (b + sz + 3)) (by rw [hlen, show b + (sz + 3) = b + sz + 3 from by omega]; exact (frag_ways D d g sz lz out hg hl hD k (b + sz + 3)).close (T' := T) (fun t ht => .inl (.inl ht)))
  have g3 := g2.close (T' := fun t => t = (out : Int)) (fun t ht => by
   rcases ht with ht | ht
   · exact .inl ht
   ·
    refine .inr ⟨1, by simp, ht, ?_⟩
    have := bal_mid (l := [a]) (r := ((⟨4, 0, 0, none⟩ : ActD) :: (g (b + 2) ++ [⟨5, 0, 0, none⟩])) ++ waysA g sz lz out k (b + sz + 3)) f1.z
    simpa [List.append_assoc] using this)
  simpa [List.append_assoc] using g3
theorem frag_genA {n : Nd} (h : GoodN n) : ∀ b d D, deepA d n ≤ D → FragE (genA n b) b d D (fun _ => False) := by
 induction h with
 | set r k nt fd hr hk hl =>
  intro b d D hD
  rw [deepA] at hD
  rw [genA]
  exact .one _ _ _ _ _ hD ⟨by show (0 : Int) ≤ 0; decide, by show (0 : Int) ≤ 3; decide⟩ ⟨fun _ => ⟨_, rfl, hl, hr, hk⟩, fun h => absurd rfl h⟩ (fun h => absurd h (by show ¬ (0 : Int) = 2; decide))
 | edge w hw =>
  intro b d D hD
  rw [deepA] at hD
  rw [genA]
  exact .one _ _ _ _ _ hD ⟨by show (0 : Int) ≤ 1; decide, by show (1 : Int) ≤ 3; decide⟩ (setOk_plain _ _ _ (by decide)) (fun h => absurd h (by show ¬ (1 : Int) = 2; decide))
 | row l hl h ih =>
  intro b d D hD
  rw [deepA] at hD
  rw [genA]
  exact frag_genR D d l b (Nat.le_trans (deepL_le d l) hD) (fun m hm b => ih m hm b d D (Nat.le_trans (deepL_mem d l m hm) hD)) (fun m hm => genA_len (h m hm))
 | choice l h0 hl h ih =>
  intro b d D hD
  rw [deepA] at hD
  rw [genA]
  have hln := genC_len l b (b + (sizeL l + 2 * (l.length - 1))) (fun m hm => genA_len (h m hm))
  have hf := frag_genC D d (b + (sizeL l + 2 * (l.length - 1))) l b (Nat.le_trans (deepL_le d l) hD) (fun m hm b => ih m hm b d D (Nat.le_trans (deepL_mem d l m hm) hD)) (fun m hm => genA_len (h m hm))
  exact hf.close (fun t ht => .inr ⟨_, Nat.le_refl _, by rw [ht, hln], hf.z⟩)
 | group n k h0 h9 h ih =>
  intro b d D hD
  rw [deepA] at hD
  have hdD := Nat.le_trans (le_deepA h d) hD
  rw [genA]
  split
  ·
   have f1 : FragE [(⟨3, 2 * k, 0, none⟩ : ActD)] b d D (fun _ => False) := .one _ _ _ _ _ hdD ⟨by show (0 : Int) ≤ 3; decide, by show (3 : Int) ≤ 3; decide⟩ (setOk_plain _ _ _ (by decide)) (fun h => absurd h (by show ¬ (3 : Int) = 2; decide))
   have f2 := f1.app (ih (b + 1) d D hD)
   have f3 := f2.app (r := [(⟨3, 2 * k + 1, 0, none⟩ : ActD)]) (.one _ _ _ _ _ hdD ⟨by show (0 : Int) ≤ 3; decide, by show (3 : Int) ≤ 3; decide⟩ (setOk_plain _ _ _ (by decide)) (fun h => absurd h (by show ¬ (3 : Int) = 2; decide)))
   simpa [List.append_assoc] using f3
  · exact ih b d D hD
 | again n least most lz h0 h1 h2 h3 h4 h ih =>
  intro b d D hD
  rw [deepA] at hD
  have hlen := genA_len h
  have hdD : d ≤ D := by omega
  rw [genA]
  by_cases hm : most < 0
  ·
   rw [if_pos (Or.inl hm)] at hD
   simp only [if_pos hm]
   have hc : FragE (copiesA (genA n) (sizeA n) (timesN least) b) b d D (fun _ => False) := by
    by_cases hl0 : 0 < least
    ·
     rw [if_pos hl0] at hD
     exact frag_copies D d _ _ hdD (fun b => ih b d D (by omega)) hlen _ b
    ·
     rw [show timesN least = 0 from by unfold timesN; omega, copiesA]
     exact .nil _ _ _ _ hdD
   have hcl : (copiesA (genA n) (sizeA n) (timesN least) b).length = timesN least * sizeA n := copies_len _ _ hlen _ _
   obtain ⟨b1, hb1⟩ : ∃ b1, b + timesN least * sizeA n = b1 := ⟨_, rfl⟩
   rw [hb1]
   have hw := frag_ways D d (genA n) (sizeA n) lz (b1 + sizeA n + 4) (fun b => ih b (d + 1) D (by omega)) hlen hdD 1 b1
   have hwl : (waysA (genA n) (sizeA n) lz (b1 + sizeA n + 4) 1 b1).length = 1 * (sizeA n + 3) := ways_len _ _ _ _ hlen _ _
   let T : Int → Prop := fun t => t = ((b1 + sizeA n + 4 : Nat) : Int) ∨ t = (b1 : Int)
   have f2 := (hw.close (T' := T) (fun t ht => .inl (.inl ht))).app (r := [(⟨2, b1, -1, none⟩ : ActD)]) (.one _ _ _ _ _ hdD ⟨by show (0 : Int) ≤ 2; decide, by show (2 : Int) ≤ 3; decide⟩ (setOk_plain _ _ _ (by decide)) (fun _ => ⟨.inr (.inr rfl), .inl (by show (-1 : Int) < 0; decide)⟩))
   refine hc.app (r := waysA (genA n) (sizeA n) lz (b1 + sizeA n + 4) 1 b1 ++ [(⟨2, b1, -1, none⟩ : ActD)]) ?_
   rw [hcl, hb1]
   refine f2.close (fun t ht => .inr ?_)
   rcases ht with ht | ht
   · exact ⟨_, Nat.le_refl _, by rw [ht, List.length_append, hwl, List.length_singleton]; congr 1; omega, f2.z⟩
   · exact ⟨0, Nat.zero_le _, ht, bal_zero _⟩
  ·
   simp only [if_neg hm]
   have hc : FragE (copiesA (genA n) (sizeA n) (timesN least) b) b d D (fun _ => False) := by
    by_cases hl0 : 0 < least
    ·
     rw [if_pos hl0] at hD
     exact frag_copies D d _ _ hdD (fun b => ih b d D (by omega)) hlen _ b
    ·
     rw [show timesN least = 0 from by unfold timesN; omega, copiesA]
     exact .nil _ _ _ _ hdD
   have hcl : (copiesA (genA n) (sizeA n) (timesN least) b).length = timesN least * sizeA n := copies_len _ _ hlen _ _
   refine hc.app ?_
   rw [hcl]
   obtain ⟨b1, hb1⟩ : ∃ b1, b + timesN least * sizeA n = b1 := ⟨_, rfl⟩
   rw [hb1]
   by_cases hlm : least < most
   ·
    rw [if_pos (Or.inr hlm)] at hD
    have hw := frag_ways D d (genA n) (sizeA n) lz (b1 + timesN (most - least) * (sizeA n + 3)) (fun b => ih b (d + 1) D (by omega)) hlen hdD (timesN (most - least)) b1
    have hwl : (waysA (genA n) (sizeA n) lz (b1 + timesN (most - least) * (sizeA n + 3)) (timesN (most - least)) b1).length = timesN (most - least) * (sizeA n + 3) := ways_len _ _ _ _ hlen _ _
    exact hw.close (fun t ht => .inr ⟨_, Nat.le_refl _, by rw [ht, hwl], hw.z⟩)
   ·
    rw [show timesN (most - least) = 0 from by unfold timesN; omega, waysA]
    exact .nil _ _ _ _ hdD
theorem bal_step : ∀ (l : List ActD) (i : Nat) (h : i < l.length), bal l (i + 1) = bal l i + (if l[i].kind = 4 then 1 else if l[i].kind = 5 then -1 else 0)
 | a :: l, 0, h => by simp [bal, bal_zero]
 | a :: l, i + 1, h => by
  have := bal_step l i (by simpa using h)
  rw [bal, this, bal, List.getElem_cons_succ, Int.add_assoc]
theorem wf_prog {n : Nd} (h : GoodN n) : ∃ lv, WfA (progA n) (deepA 0 n) lv := by
 have hf := frag_genA h 0 0 (deepA 0 n) (Nat.le_refl _)
 obtain ⟨l, hl⟩ : ∃ l, genA n 0 = l := ⟨_, rfl⟩
 unfold progA
 rw [hl] at hf ⊢
 have hlen : (l ++ [(⟨6, 0, 0, none⟩ : ActD)]).length = l.length + 1 := by simp
 have hget : ∀ i (hi : i < (l ++ [(⟨6, 0, 0, none⟩ : ActD)]).length), (∃ hj : i < l.length, (l ++ [(⟨6, 0, 0, none⟩ : ActD)])[i] = l[i]) ∨ (i = l.length ∧ (l ++ [(⟨6, 0, 0, none⟩ : ActD)])[i] = ⟨6, 0, 0, none⟩) := fun i hi => by
  rcases Nat.lt_or_ge i l.length with hj | hj
  · exact .inl ⟨hj, List.getElem_append_left hj⟩
  ·
   refine .inr ⟨by omega, ?_⟩
   rw [List.getElem_append_right hj]
   simp
 have hin : ∀ i (hi : i < (l ++ [(⟨6, 0, 0, none⟩ : ActD)]).length) (k : Int), (l ++ [(⟨6, 0, 0, none⟩ : ActD)])[i].kind = k → k ≠ 6 → ∃ hj : i < l.length, (l ++ [(⟨6, 0, 0, none⟩ : ActD)])[i] = l[i] ∧ l[i].kind = k := fun i hi k hk hk6 => by
  rcases hget i hi with ⟨hj, e⟩ | ⟨_, e⟩
  · exact ⟨hj, e, by rw [← e]; exact hk⟩
  · rw [e] at hk; exact absurd hk.symm hk6
 have hnx : ∀ i (hj : i < l.length) (v : Nat), v ≤ (bal l (i + 1)).toNat → Tgt (l ++ [(⟨6, 0, 0, none⟩ : ActD)]) (fun i => (bal l i).toNat) v ((i + 1 : Nat) : Int) := fun i hj v hv => .inr ⟨by omega, by rw [hlen, Int.toNat_natCast]; omega, by rw [Int.toNat_natCast]; exact hv⟩
 have htg : ∀ i (hj : i < l.length) (t : Int), TgtF l 0 (fun _ => False) (bal l i) t → Tgt (l ++ [(⟨6, 0, 0, none⟩ : ActD)]) (fun i => (bal l i).toNat) (bal l i).toNat t := fun i hj t ht => by
  rcases ht with ht | ⟨m, h1, h2, h3⟩ | ⟨ht, _⟩
  · exact .inl ht
  ·
   rw [Nat.zero_add] at h2
   subst h2
   exact .inr ⟨by omega, by rw [hlen, Int.toNat_natCast]; omega, by rw [Int.toNat_natCast]; show (bal l i).toNat ≤ (bal l m).toNat; rw [h3]; exact Nat.le_refl _⟩
  · exact ht.elim
 refine ⟨fun i => (bal l i).toNat, ⟨by rw [hlen]; omega, fun i hi => ?_, fun i hi => ?_, fun i hi hk => ?_, fun i hi hk => ?_, fun i hi hk => ?_, fun i hi hk => ?_, fun i hi hk => ?_, fun i hi hk => ?_, fun i hi hk => ?_⟩⟩
 ·
  have := hf.up i (by rw [hlen] at hi; omega)
  show (bal l i).toNat ≤ _
  omega
 ·
  rcases hget i hi with ⟨hj, e⟩ | ⟨_, e⟩
  · rw [e]; have := hf.kd i hj; omega
  · rw [e]; decide
 ·
  obtain ⟨hj, e, hk'⟩ := hin i hi 0 hk (by decide)
  refine ⟨by rw [hlen]; omega, ?_⟩
  rw [e]
  exact (hf.st i hj).1 hk'
 ·
  rcases hget i hi with ⟨hj, e⟩ | ⟨_, e⟩
  · rw [e] at hk ⊢; exact (hf.st i hj).2 hk
  · rw [e]
 ·
  obtain ⟨hj, e, hk'⟩ := hin i hi 1 hk (by decide)
  have := bal_step l i hj
  rw [hk', if_neg (by decide), if_neg (by decide)] at this
  exact hnx i hj _ (by rw [this, Int.add_zero]; exact Nat.le_refl _)
 ·
  obtain ⟨hj, e, hk'⟩ := hin i hi 2 hk (by decide)
  rw [e]
  exact ⟨htg i hj _ (hf.fk i hj hk').1, htg i hj _ (hf.fk i hj hk').2⟩
 ·
  obtain ⟨hj, e, hk'⟩ := hin i hi 3 hk (by decide)
  have := bal_step l i hj
  rw [hk', if_neg (by decide), if_neg (by decide)] at this
  exact hnx i hj _ (by rw [this, Int.add_zero]; exact Nat.le_refl _)
 ·
  obtain ⟨hj, e, hk'⟩ := hin i hi 4 hk (by decide)
  have := bal_step l i hj
  rw [hk', if_pos rfl] at this
  have hn := hf.nn i (by omega)
  exact hnx i hj _ (by show (bal l i).toNat + 1 ≤ _; omega)
 ·
  obtain ⟨hj, e, hk'⟩ := hin i hi 5 hk (by decide)
  exact hnx i hj _ (Nat.zero_le _)
end Go.Proofs.YtdegdoilpamjjaaDoor
namespace Go.Proofs.YtdegdoilpamjjaaDoor
open Go.RowKit
set_option linter.unusedVariables false
set_option linter.unusedSimpArgs false
theorem region_recQ {P : Program} {id : Nat} {o : Oper} {l : List Oper} {Q : Exit → Act → List Frame → World → Prop} {Q1 : Exit → Act → World → Prop} {a : Act} {cs cs' : List Frame} {w : World} {v : Value} (hr : (execOp a.eval o).run P w = .ok .recover w) (hgd : o.guard = none)
  (hrec : recoverD cs = some (v, cs') ∨ recoverD cs = none ∧ v = .nilIface ∧ cs' = cs) (hq : ∀ e a w, Q1 e a w → Q e a cs' w) (h : wpList P (o :: l).toArray Q1 l (a.put o.dst v) w) : (Code.region id (o :: l).toArray false).wpS P Q a cs w := by
 intro b k hb hro
 have h1 : wpOps P (o :: l).toArray Q1 (List.range' 1 l.length) (a.put o.dst v) w := by
  rw [wpOps_eq_wpList l 1 (by intro j; simp [Nat.add_comm 1 j])]
  exact h
 obtain ⟨e, a', w', q, r⟩ := wp_ops _ _ _ h1 b k cs'
 have ho : (o :: l).toArray[0]? = some o := by simp
 have hw : Region.wanted o (yielded (o :: l).toArray a.tmps) = true := by simp [Region.wanted, hgd]
 have hg := stepG_op (P := P) (b := b) (a := a) (k := k) (cs := cs) (w := w) (rest := List.range' 1 l.length) ho hw
 have hfin : ∀ v, (b.at a (.inRegion (o :: l).toArray (0 :: List.range' 1 l.length) :: k)).finish v = b.at (a.put o.dst v) (.inRegion (o :: l).toArray (List.range' 1 l.length) :: k) := by
  intro v; rw [Frame.finish_at, ho]; rfl
 have hk : (b.at a (.inRegion (o :: l).toArray (0 :: List.range' 1 l.length) :: k)).kind = .deferred := hb
 have htr := tryRecover_deferred hk cs
 have hstep : step P (lone (b.at a (.inRegion (o :: l).toArray (0 :: List.range' 1 l.length) :: k)) cs w) = .next (lone (b.at (a.put o.dst v) (.inRegion (o :: l).toArray (List.range' 1 l.length) :: k)) cs' w) := by
  refine step_lone_go ?_
  rw [hg, ← hfin]
  simp only [Frame.at] at htr ⊢
  rcases hrec with hrec | ⟨hrec, rfl, rfl⟩
  · simp [stepG.apply, hr, htr, hrec]
  · simp [stepG.apply, hr, htr, hrec]
 refine ⟨e, a', cs', w', hq _ _ _ q, .of_steps (.one ?_) (.of_steps (.one hstep) r)⟩
 have := step_region (P := P) (b := b) (a := a) (k := k) (cs := cs) (w := w) (id := id) (ops := (o :: l).toArray)
 rw [this]
 have e1 : List.range (o :: l).toArray.size = 0 :: List.range' 1 l.length := by simp [List.range_eq_range', List.range'_succ]
 rw [e1]
theorem seq_recQ {P : Program} {id : Nat} {o : Oper} {l : List Oper} {y : Code} {Q : Exit → Act → List Frame → World → Prop} {a : Act} {cs cs' : List Frame} {w : World} {v : Value} (hr : (execOp a.eval o).run P w = .ok .recover w) (hgd : o.guard = none)
  (hrec : recoverD cs = some (v, cs') ∨ recoverD cs = none ∧ v = .nilIface ∧ cs' = cs)
  (h : wpList P (o :: l).toArray (Exit.then (y.wp P (fun e a w => Q e a cs' w)) (fun e a w => Q e a cs' w)) l (a.put o.dst v) w) : (Code.seq (Code.region id (o :: l).toArray false) y).wpS P Q a cs w := by
 apply wpS_seq
 refine region_recQ hr hgd hrec ?_ h
 intro e a w hq
 cases e with
 | normal => exact wpS_of_wp hq
 | _ => exact hq
theorem assert_nilQ (w : World) : (Instr.typeAssert .nilIface 20 68 true).run Tryd.prog w = .ok (.tuple #[.int .i64 0, .bool false]) w := by kernel_rfl
theorem catch_idleQ (q0 q1 q2 : Value) (w : World) :
  CallsD Tryd.prog 34 #[q0, q1, q2] .returning w fun e u' w' => e = .returned (.tuple #[]) ∧ u' = .returning ∧ w' = w := by
 refine callsD_of_wpS Tryd.func34 rfl fun c₀ cs hu => ?_
 refine seq_recQ (v := .nilIface) (cs' := c₀ :: cs) ?_ rfl (.inr ⟨?_, rfl, rfl⟩) ?_
 · simp [go_sem]
 · simp [recoverD, hu]
 simp only [Tryd.ntmps34, List.size_toArray, List.length_cons, List.length_nil, Nat.reduceAdd, Nat.reduceSub, Array.replicate_succ, Array.replicate_zero, List.push_toArray, List.append_toArray, List.nil_append, List.cons_append]
 have ha := assert_nilQ
 go_wp2
 exact ⟨rfl, .returning, by rw [← hu], _, results_none rfl _ _ _, rfl, rfl, rfl⟩
theorem comp_boxes (w : World) (v0 v1 v2 : Value) :
  IsBox (((w.alloc (.cells #[v0] 26)).alloc (.cells #[v1] 3)).alloc (.cells #[v2] 42)) w.heap.size 26 v0 ∧
  IsBox (((w.alloc (.cells #[v0] 26)).alloc (.cells #[v1] 3)).alloc (.cells #[v2] 42)) (w.heap.size + 1) 3 v1 ∧
  IsBox (((w.alloc (.cells #[v0] 26)).alloc (.cells #[v1] 3)).alloc (.cells #[v2] 42)) (w.heap.size + 1 + 1) 42 v2 ∧
  Below w.heap.size w (((w.alloc (.cells #[v0] 26)).alloc (.cells #[v1] 3)).alloc (.cells #[v2] 42)) := by
 refine ⟨?_, ?_, ?_, ?_⟩
 ·
  have := ((IsBox.new w 26 v0).alloc (.cells #[v1] 3)).alloc (.cells #[v2] 42)
  simpa using this
 ·
  have := (IsBox.new (w.alloc (.cells #[v0] 26)) 3 v1).alloc (.cells #[v2] 42)
  simpa using this
 ·
  have := IsBox.new ((w.alloc (.cells #[v0] 26)).alloc (.cells #[v1] 3)) 42 v2
  simpa using this
 · exact (((Below.refl _ _).alloc (Nat.le_refl _) _).alloc (by simp) _).alloc (by simp; omega) _
theorem comp_results (tmps : Array Value) (b0 b1 b2 : Nat) (p : Option Addr) (w : World) (h4 : tmps.getD 4 undef = .pointer (some ⟨b0, 0, none⟩)) (h5 : tmps.getD 5 undef = .pointer (some ⟨b1, 0, none⟩)) (h6 : tmps.getD 6 undef = .pointer (some ⟨b2, 0, none⟩)) (x y : Int)
  (hp : IsBox w b0 26 (.pointer p)) (ha : IsBox w b1 3 (.int .i64 x)) (he : IsBox w b2 42 (.int .i64 y)) :
  (results Tryd.f20 tmps).run Tryd.prog w = .ok (.tuple #[.pointer p, .int .i64 x, .int .i64 y]) w := by
 have x0 := hp.cell.1
 have x1 := ha.cell.1
 have x2 := he.cell.1
 simp only [Array.getD_eq_getD_getElem?] at h4 h5 h6
 simp [results, Tryd.results20, go_sem, h4, h5, h6, x0, x1, x2]
theorem comp_door (tmps : Array Value) (b0 b1 b2 : Nat) (p : Option Addr) (w : World) (R : Ending → World → Prop) (h4 : tmps.getD 4 undef = .pointer (some ⟨b0, 0, none⟩)) (h5 : tmps.getD 5 undef = .pointer (some ⟨b1, 0, none⟩)) (h6 : tmps.getD 6 undef = .pointer (some ⟨b2, 0, none⟩)) (x y : Int)
  (hp : IsBox w b0 26 (.pointer p)) (ha : IsBox w b1 3 (.int .i64 x)) (he : IsBox w b2 42 (.int .i64 y)) (h : R (.returned (.tuple #[.pointer p, .int .i64 x, .int .i64 y])) w) :
  bodyPostD Tryd.prog Tryd.f20 R .ret { tmps := tmps, defers := [{ target := .fn (.func 34) #[.pointer (some ⟨b0, 0, none⟩), .pointer (some ⟨b1, 0, none⟩), .pointer (some ⟨b2, 0, none⟩)], args := #[] }] } w := by
 refine leaves_cons (f := 34) (args := #[.pointer (some ⟨b0, 0, none⟩), .pointer (some ⟨b1, 0, none⟩), .pointer (some ⟨b2, 0, none⟩)]) (by simp) (by simp [go_sem]) ?_
 refine (catch_idleQ _ _ _ w).mono ?_
 rintro e u' w' ⟨rfl, rfl, rfl⟩
 exact ⟨_, comp_results _ b0 b1 b2 p w' h4 h5 h6 x y hp ha he, h⟩
structure PlainP (w : World) (base pb : Nat) (l : List Int) (sA : Option Addr) (cA : Nat) (vs : List Value) : Prop where
 pas : PaS w base pb 0 (l.length + 1) (vs.flatMap actC ++ [.int .i64 6, .int .i64 0, .int .i64 0, .pointer none]) sA cA
 len : vs.length = l.length
 sets : ∀ i (hi : i < vs.length) (hj : i < l.length), SetN w false vs[i] l[i]
theorem set_oth {w : World} {b0 b : Nat} {t0 t : TypeId} {v0 : Value} {cs : Array Value} (hx : IsBox w b0 t0 v0) (u : Value) (h : w.heap[b]? = some (.cells cs t (0, 0))) (ht : t ≠ t0) : (w.setCell ⟨b0, 0, none⟩ u).heap[b]? = w.heap[b]? :=
 Below.heap_setCell w ⟨b0, 0, none⟩ u b (type_ne h hx ht)
theorem FrA.box {base b : Nat} {t : TypeId} {v : Value} {w w' : World} (h : FrA base w w') (hx : IsBox w b t v) (h1 : t ≠ 62) (h2 : t ≠ 80) : IsBox w' b t v := h.oth _ _ _ hx h1 h2
theorem PaS.box {w : World} {base pb : Nat} {groups : Int} {n : Nat} {xs : List Value} {sA : Option Addr} {cA : Nat} (h : PaS w base pb groups n xs sA cA) {b : Nat} {t : TypeId} {v : Value} (hx : IsBox w b t v) (h1 : t ≠ 62) (h2 : t ≠ 80) (u : Value) :
  PaS (w.setCell ⟨b, 0, none⟩ u) base pb groups n xs sA cA := by
 refine ⟨(set_oth hx u h.blk (Ne.symm h1)).trans h.blk, own_kept h.own fun g hg => ?_, h.low⟩
 obtain ⟨cs, h3⟩ := own_type h.own hg
 exact set_oth hx u h3 (Ne.symm h2)
end Go.Proofs.YtdegdoilpamjjaaDoor
namespace Go.Proofs.YtdegdoilpamjjaaDoor
open Go.RowKit
set_option linter.unusedVariables false
set_option linter.unusedSimpArgs false
theorem setR (w w2 : World) (nt fold : Bool) (v1 v2 : Value) (rs : List (Int × Int)) (ks : List Int) (b : Nat) (hb : w.heap.size ≤ b) (h : w2.heap[b]? = some (.cells #[v1, v2, .bool nt, .bool fold] 135 (0, 0)))
  (h1 : SlR w2 w.heap.size w2.heap.size 2 v1 (spanV rs)) (h2 : SlR w2 w.heap.size w2.heap.size 1 v2 (kindsV ks)) : NdR w2 w.heap.size w2.heap.size (.iface 78 (.pointer (some ⟨b, 0, none⟩))) (.set rs ks nt fold) :=
 .set b v1 v2 rs ks nt fold hb (heap_lt h) h h1 h2
theorem SetN.nodeR {w w' : World} {fold : Bool} {v : Value} {x : Int} (h : SetN w' fold v x) (hnew : ∀ b g, v = .iface 78 (.pointer (some ⟨b, 0, none⟩)) → w'.heap[b]? = some (.cells #[.slice (some ⟨g, 0, none⟩) 1 1, .slice none 0 0, .bool false, .bool fold] 135 (0, 0)) → w.heap.size ≤ b ∧ w.heap.size ≤ g) : NdR w' w.heap.size w'.heap.size v (oneN fold x) := by
 obtain ⟨b, g, rfl, h1, h2⟩ := h
 obtain ⟨hb, hg⟩ := hnew b g rfl h1
 refine .set b _ _ [(x, x)] [] false fold hb (heap_lt h1) h1 ?_ (SlR.nil _ _ _ _)
 refine ⟨_, _, _, rfl, rfl, .inr ⟨g, 0, _, _, _, rfl, hg, heap_lt h2, h2, ?_⟩⟩
 intro i hi
 match i, hi with
 | 0, _ => rfl
 | 1, _ => rfl
theorem oneR_new (w w1 : World) (x : Int) (fold : Bool) (hw1 : w.alloc (.cells #[.int .i64 x, .int .i64 x] 144) = w1) (o : Obj)
  (ho : o = .cells #[.slice (some ⟨w.heap.size, 0, none⟩) 1 1, .slice none 0 0, .bool false, .bool fold] 135 (0, 0)) :
  NdR (w1.alloc o) w.heap.size (w1.alloc o).heap.size (.iface 78 (.pointer (some ⟨w.heap.size + 1, 0, none⟩))) (oneN fold x) ∧ Below w.heap.size w (w1.alloc o) := by
 have hb1 := below_newJ w (.cells #[.int .i64 x, .int .i64 x] 144)
 have hz := size_new w (.cells #[.int .i64 x, .int .i64 x] 144)
 have h1 := one_new w (.cells #[.int .i64 x, .int .i64 x] 144)
 rw [hw1] at hb1 hz h1
 clear hw1
 have h2 := one_new w1 o
 have h1' := at_new o h1
 have hb2 := hb1.alloc (by omega) o
 refine ⟨?_, hb2⟩
 generalize w1.alloc o = w2 at h2 h1' ⊢
 rw [hz] at h2
 subst ho
 refine .set (w.heap.size + 1) _ _ [(x, x)] [] false fold (by omega) (heap_lt h2) h2 ?_ (SlR.nil _ _ _ _)
 refine ⟨_, _, _, rfl, rfl, .inr ⟨w.heap.size, 0, _, _, _, rfl, Nat.le_refl _, heap_lt h1', h1', ?_⟩⟩
 intro i hi
 match i, hi with
 | 0, _ => rfl
 | 1, _ => rfl
set_option maxRecDepth 100000 in
theorem oneR_c (rb : Nat) (sl : Option Addr) (n c : Nat) (src : List Int) (s : RS) (fold : Bool) (x : Int) (w : World) (h : RdM w rb sl n c src s fold) :
  Calls Tryd.prog 82 #[.pointer (some ⟨rb, 0, none⟩), .int .i64 x] w fun e w' => ∃ v, e = .returned v ∧ NdR w' w.heap.size w'.heap.size v (oneN fold x) ∧ Below w.heap.size w w' := by
 have b3 : w.cell? ⟨rb, 3, none⟩ = some (.bool fold) := block_cell h.blk
 have hrb := heap_lt h.blk
 clear h
 go_enter Tryd.func82, Tryd.ntmps82
 go_wp2_with fail
 go_ret
 have hm := oneR_new w _ x fold rfl _ rfl
 exact ⟨_, rfl, hm.1, hm.2⟩
theorem RdP.one {w0 w w' : World} {rb : Nat} {sl : Option Addr} {n c : Nat} {src : List Int} {s : RS} {fold : Bool} {x : Int} {v : Value} (ht : Touch (fun b => b = rb) w0 w) (hr : RdM w rb sl n c src s fold) (hn : NdR w' w.heap.size w'.heap.size v (oneN fold x)) (hb : Below w.heap.size w w') :
  RdP w0 rb sl n c src fold (.ok (oneN fold x, s)) (fun x w' v => NdR w' w0.heap.size w'.heap.size v x) (.returned v) w' :=
 ⟨ht.trans (Touch.of (O := fun b => b = rb) hb) (fun x hx => .inl hx), ⟨_, rfl, hn.wide ht.size (Nat.le_refl _)⟩, hr.later hb⟩
theorem kindR_new (w w1 : World) (k : Int) (nt fold : Bool) (hw1 : w.alloc (.cells #[kindV k] 97) = w1) (o : Obj)
  (ho : o = .cells #[.slice none 0 0, .slice (some ⟨w.heap.size, 0, none⟩) 1 1, .bool nt, .bool fold] 135 (0, 0)) :
  NdR (w1.alloc o) w.heap.size (w1.alloc o).heap.size (.iface 78 (.pointer (some ⟨w.heap.size + 1, 0, none⟩))) (.set [] [k] nt fold) ∧ Below w.heap.size w (w1.alloc o) := by
 have hb1 := below_newJ w (.cells #[kindV k] 97)
 have hz := size_new w (.cells #[kindV k] 97)
 have h1 := one_new w (.cells #[kindV k] 97)
 rw [hw1] at hb1 hz h1
 clear hw1
 have h2 := one_new w1 o
 have h1' := at_new o h1
 have hb2 := hb1.alloc (by omega) o
 refine ⟨?_, hb2⟩
 generalize w1.alloc o = w2 at h2 h1' ⊢
 rw [hz] at h2
 subst ho
 refine .set (w.heap.size + 1) _ _ [] [k] nt fold (by omega) (heap_lt h2) h2 (SlR.nil _ _ _ _) ?_
 refine ⟨_, _, _, rfl, rfl, .inr ⟨w.heap.size, 0, _, _, _, rfl, Nat.le_refl _, heap_lt h1', h1', ?_⟩⟩
 intro i hi
 match i, hi with
 | 0, _ => rfl
end Go.Proofs.YtdegdoilpamjjaaDoor
