/- Plain: what add leaves; the programs that the reader's nodes come to keep within (WfA). No program in sight. The law of PatternNever, plain: the runner's way on from an act, without offsets (so that the kernel can reckon it). No program in sight. The law of PatternNever, plain: the two families of patterns, what they are read to. No program in sight. -/
import Derived.KernelRfl
import Derived.Test.YtdegdoilpamjjaaDoorZAf
namespace Go.Proofs.YtdegdoilpamjjaaDoor
set_option linter.unusedVariables false
section
variable {acts : List ActD} {deep : Nat} {lv : Nat → Nat} {stand : Int → Bool} {at' : Nat} {fr : Int}
theorem markS_le {seen : Nat → Nat} {k : Nat} (h : ∀ i, seen i ≤ at' + 1) : ∀ i, markS at' k seen i ≤ at' + 1 := fun i => by
 unfold markS
 split
 · exact Nat.le_refl _
 · exact h i
theorem goOn_ok (hwf : WfA acts deep lv) : ∀ (f : Nat) (t : ToD) (seen : Nat → Nat) (th : List ThD) (st : List ToD), GoodT acts lv t → (∀ x ∈ st, GoodT acts lv x) → (∀ x ∈ th, x.act < acts.length) → (∀ i, seen i ≤ at' + 1) →
  (∀ i, (goOnP acts deep stand at' fr f t seen th st).1 i ≤ at' + 1) ∧ (∀ x ∈ (goOnP acts deep stand at' fr f t seen th st).2.1, x.act < acts.length) ∧ (∀ x ∈ (goOnP acts deep stand at' fr f t seen th st).2.2, GoodT acts lv x)
 | 0, t, seen, th, st, ht, hst, hth, hs => by rw [goOnP]; exact ⟨hs, hth, hst⟩
 | f + 1, t, seen, th, st, ht, hst, hth, hs => by
  by_cases hneg : t.act < 0
  ·
   rw [goOnP_zero _ _ _ _ _ _ _ _ _ _ hneg]
   exact ⟨hs, hth, hst⟩
  ·
   obtain ⟨ta, id, nts⟩ := t
   simp only at hneg
   obtain ⟨j, rfl⟩ : ∃ j : Nat, ta = j := ⟨ta.toNat, by omega⟩
   have hjd : j < acts.length ∧ id ≤ lv j := by
    rcases ht with h | ⟨_, h2, h3⟩
    · simp only at h; omega
    · simp only [Int.toNat_natCast] at h2 h3; exact ⟨h2, h3⟩
   obtain ⟨hj, hid⟩ := hjd
   have hm := markS_le (k := j * (deep + 1) + id) hs
   have h1 : ∀ (v : Nat), Tgt acts lv v ((j + 1 : Nat) : Int) → ∀ d' nn, d' ≤ v → GoodT acts lv ⟨(j : Int) + 1, d', nn⟩ := fun v hv d' nn hd => hv.up hd
   rw [goOn_eq _ _ _ _ _ _ _ _ _ _ _ _ hj]
   split
   · exact ⟨hs, hth, hst⟩
   ·
    split
    ·
     refine ⟨hm, fun x hx => ?_, hst⟩
     rcases List.mem_append.mp hx with hx | hx
     · exact hth x hx
     · rw [List.mem_singleton.mp hx]; exact hj
    ·
     split
     ·
      rename_i hk
      split
      · exact goOn_ok hwf f _ _ _ _ (h1 _ (hwf.stand j hj hk) _ _ hid) hst hth hm
      · exact ⟨hm, hth, hst⟩
     ·
      split
      ·
       rename_i hk
       refine goOn_ok hwf f _ _ _ _ ((hwf.fork j hj hk).1.up hid) (fun x hx => ?_) hth hm
       rcases List.mem_cons.mp hx with rfl | hx
       · exact (hwf.fork j hj hk).2.up hid
       · exact hst x hx
      ·
       split
       ·
        rename_i hk
        exact goOn_ok hwf f _ _ _ _ (h1 _ (hwf.note j hj hk) _ _ hid) hst hth hm
       ·
        split
        ·
         rename_i hk
         exact goOn_ok hwf f _ _ _ _ (h1 _ (hwf.enter j hj hk) _ _ (Nat.succ_le_succ hid)) hst hth hm
        ·
         split
         · exact ⟨hm, hth, hst⟩
         ·
          rename_i h0 h6 hk1 hk2 hk3 hk4 hi
          have hkk := hwf.kind j hj
          have hk5 : acts[j].kind = 5 := by omega
          exact goOn_ok hwf f _ _ _ _ (h1 _ (hwf.check j hj hk5) _ _ (by omega)) hst hth hm
theorem addP_ok (hwf : WfA acts deep lv) : ∀ (f : Nat) (seen : Nat → Nat) (th : List ThD) (st : List ToD), (∀ x ∈ st, GoodT acts lv x) → (∀ x ∈ th, x.act < acts.length) → (∀ i, seen i ≤ at' + 1) →
  (∀ i, (addP' acts deep stand at' fr f seen th st).1 i ≤ at' + 1) ∧ (∀ x ∈ (addP' acts deep stand at' fr f seen th st).2, x.act < acts.length)
 | 0, seen, th, st, hst, hth, hs => by rw [addP']; exact ⟨hs, hth⟩
 | f + 1, seen, th, [], hst, hth, hs => by rw [addP']; exact ⟨hs, hth⟩
 | f + 1, seen, th, t :: st, hst, hth, hs => by
  rw [addP']
  obtain ⟨a, b, c⟩ := goOn_ok (stand := stand) (fr := fr) hwf (acts.length * (deep + 1) + 2) t seen th st (hst t (List.mem_cons_self ..)) (fun x hx => hst x (List.mem_cons_of_mem _ hx)) hth hs
  exact addP_ok hwf f _ _ _ c b a
end
def bal : List ActD → Nat → Int
 | [], _ => 0
 | _, 0 => 0
 | a :: l, i + 1 => (if a.kind = 4 then 1 else if a.kind = 5 then -1 else 0) + bal l i
theorem bal_zero (l : List ActD) : bal l 0 = 0 := by cases l <;> rfl
theorem bal_past : ∀ (l : List ActD) (i : Nat), l.length ≤ i → bal l i = bal l l.length
 | [], i, _ => by cases i <;> rfl
 | a :: l, 0, h => by simp at h
 | a :: l, i + 1, h => by
  simp only [bal, List.length_cons]
  rw [bal_past l i (by simpa using h)]
theorem bal_app : ∀ (l r : List ActD) (i : Nat), bal (l ++ r) i = bal l i + bal r (i - l.length)
 | [], r, i => by cases i <;> simp [bal]
 | a :: l, r, 0 => by simp [bal_zero]
 | a :: l, r, i + 1 => by
  simp only [List.cons_append, bal, List.length_cons, Nat.add_sub_add_right]
  rw [bal_app l r i, Int.add_assoc]
def SetOk (a : ActD) : Prop := (a.kind = 0 → ∃ s, a.s = some s ∧ (∀ c ∈ s.kinds, KindL c) ∧ s.ranges.length ≤ 1000000 ∧ s.kinds.length ≤ 1000000) ∧ (a.kind ≠ 0 → a.s = none)
def TgtF (l : List ActD) (b : Nat) (T : Int → Prop) (v t : Int) : Prop := t < 0 ∨ (∃ m, m ≤ l.length ∧ t = ((b + m : Nat) : Int) ∧ bal l m = v) ∨ (T t ∧ v = 0)
structure FragE (l : List ActD) (b d D : Nat) (T : Int → Prop) : Prop where
 z : bal l l.length = 0
 nn : ∀ i, i ≤ l.length → 0 ≤ bal l i
 up : ∀ i, i ≤ l.length → (d : Int) + bal l i ≤ D
 fk : ∀ i (h : i < l.length), l[i].kind = 2 → TgtF l b T (bal l i) l[i].x ∧ TgtF l b T (bal l i) l[i].y
 kd : ∀ i (h : i < l.length), 0 ≤ l[i].kind ∧ l[i].kind ≤ 5
 st : ∀ i (h : i < l.length), SetOk l[i]
theorem FragE.nil (b d D : Nat) (T : Int → Prop) (h : d ≤ D) : FragE [] b d D T := ⟨rfl, fun i _ => by cases i <;> exact Int.le_refl _, fun i _ => by cases i <;> simp [bal] <;> omega, fun i hi => absurd hi (by simp), fun i hi => absurd hi (by simp), fun i hi => absurd hi (by simp)⟩
theorem FragE.one (a : ActD) (b d D : Nat) (T : Int → Prop) (h : d ≤ D) (hk : 0 ≤ a.kind ∧ a.kind ≤ 3) (hs : SetOk a) (hf : a.kind = 2 → (a.x < 0 ∨ T a.x) ∧ (a.y < 0 ∨ T a.y)) : FragE [a] b d D T := by
 have hb : ∀ i, bal [a] i = 0 := fun i => by
  cases i with
  | zero => rfl
  | succ i => simp only [bal]; rw [if_neg (by omega), if_neg (by omega)]; cases i <;> rfl
 refine ⟨hb _, fun i _ => by rw [hb]; exact Int.le_refl _, fun i _ => by rw [hb]; omega, fun i hi hk2 => ?_, fun i hi => ?_, fun i hi => ?_⟩
 all_goals
  have h0 : i = 0 := by simpa using hi
  subst h0
 ·
  rw [hb]
  obtain ⟨h1, h2⟩ := hf hk2
  exact ⟨h1.elim .inl (fun h => .inr (.inr ⟨h, rfl⟩)), h2.elim .inl (fun h => .inr (.inr ⟨h, rfl⟩))⟩
 · exact ⟨hk.1, by have := hk.2; show a.kind ≤ 5; omega⟩
 · exact hs
theorem TgtF.left {l r : List ActD} {b : Nat} {T : Int → Prop} {v t : Int} (h : TgtF l b T v t) (hr : bal r 0 = 0) : TgtF (l ++ r) b T v t := by
 rcases h with h | ⟨m, h1, h2, h3⟩ | h
 · exact .inl h
 ·
  refine .inr (.inl ⟨m, by simp; omega, h2, ?_⟩)
  rw [bal_app, show m - l.length = 0 from by omega, hr, h3]
  simp
 · exact .inr (.inr h)
theorem TgtF.right {l r : List ActD} {b : Nat} {T : Int → Prop} {v t : Int} (h : TgtF r (b + l.length) T v t) (hz : bal l l.length = 0) : TgtF (l ++ r) b T v t := by
 rcases h with h | ⟨m, h1, h2, h3⟩ | h
 · exact .inl h
 ·
  refine .inr (.inl ⟨l.length + m, by simp; omega, by rw [h2]; congr 1; omega, ?_⟩)
  rw [bal_app, bal_past l _ (by omega), hz, Nat.add_sub_cancel_left, h3]
  simp
 · exact .inr (.inr h)
theorem FragE.app {l r : List ActD} {b d D : Nat} {T : Int → Prop} (h : FragE l b d D T) (k : FragE r (b + l.length) d D T) : FragE (l ++ r) b d D T := by
 have hL : ∀ i, i ≤ l.length → bal (l ++ r) i = bal l i := fun i hi => by rw [bal_app, show i - l.length = 0 from by omega, bal_zero]; simp
 have hR : ∀ i, l.length ≤ i → bal (l ++ r) i = bal r (i - l.length) := fun i hi => by rw [bal_app, bal_past l i hi, h.z]; simp
 refine ⟨?_, fun i hi => ?_, fun i hi => ?_, fun i hi hk => ?_, fun i hi => ?_, fun i hi => ?_⟩
 · rw [hR _ (by simp), List.length_append, Nat.add_sub_cancel_left]; exact k.z
 ·
  rcases Nat.le_total i l.length with h1 | h1
  · rw [hL i h1]; exact h.nn i h1
  · rw [hR i h1]; exact k.nn _ (by simp at hi; omega)
 ·
  rcases Nat.le_total i l.length with h1 | h1
  · rw [hL i h1]; exact h.up i h1
  · rw [hR i h1]; exact k.up _ (by simp at hi; omega)
 ·
  rcases Nat.lt_or_ge i l.length with h1 | h1
  ·
   rw [hL i (by omega)]
   simp only [List.getElem_append_left h1] at hk ⊢
   obtain ⟨a1, a2⟩ := h.fk i h1 hk
   exact ⟨a1.left (bal_zero _), a2.left (bal_zero _)⟩
  ·
   rw [hR i h1]
   simp only [List.getElem_append_right h1] at hk ⊢
   obtain ⟨a1, a2⟩ := k.fk (i - l.length) (by simp at hi; omega) hk
   exact ⟨a1.right h.z, a2.right h.z⟩
 ·
  rcases Nat.lt_or_ge i l.length with h1 | h1
  · rw [List.getElem_append_left h1]; exact h.kd i h1
  · rw [List.getElem_append_right h1]; exact k.kd _ (by simp at hi; omega)
 ·
  rcases Nat.lt_or_ge i l.length with h1 | h1
  · rw [List.getElem_append_left h1]; exact h.st i h1
  · rw [List.getElem_append_right h1]; exact k.st _ (by simp at hi; omega)
theorem FragE.close {l : List ActD} {b d D : Nat} {T T' : Int → Prop} (h : FragE l b d D T) (hT : ∀ t, T t → T' t ∨ ∃ m, m ≤ l.length ∧ t = ((b + m : Nat) : Int) ∧ bal l m = 0) : FragE l b d D T' := by
 have hc : ∀ v t, TgtF l b T v t → TgtF l b T' v t := fun v t ht => by
  rcases ht with ht | ht | ⟨ht, rfl⟩
  · exact .inl ht
  · exact .inr (.inl ht)
  ·
   rcases hT t ht with h1 | h1
   · exact .inr (.inr ⟨h1, rfl⟩)
   · exact .inr (.inl h1)
 exact ⟨h.z, h.nn, h.up, fun i hi hk => ⟨hc _ _ (h.fk i hi hk).1, hc _ _ (h.fk i hi hk).2⟩, h.kd, h.st⟩
theorem FragE.any {l : List ActD} {b d D : Nat} {T : Int → Prop} (h : FragE l b d D (fun _ => False)) : FragE l b d D T := h.close fun t ht => ht.elim
theorem bal_mid {l r : List ActD} (h : bal l l.length = 0) : bal (l ++ r) l.length = 0 := by rw [bal_app, h, Nat.sub_self, bal_zero]; rfl
theorem FragE.wrap {g : List ActD} {b d D : Nat} {T : Int → Prop} (h : FragE g (b + 1) (d + 1) D (fun _ => False)) : FragE (⟨4, 0, 0, none⟩ :: (g ++ [⟨5, 0, 0, none⟩])) b d D T := by
 have h0 := h.up 0 (Nat.zero_le _)
 rw [bal_zero] at h0
 have hS : ∀ j, j ≤ g.length → bal ((⟨4, 0, 0, none⟩ : ActD) :: (g ++ [⟨5, 0, 0, none⟩])) (j + 1) = 1 + bal g j := fun j hj => by
  simp only [bal]
  rw [bal_app, show j - g.length = 0 from by omega, bal_zero]
  simp
 have hE : bal ((⟨4, 0, 0, none⟩ : ActD) :: (g ++ [⟨5, 0, 0, none⟩])) (g.length + 2) = 0 := by
  simp only [bal]
  rw [bal_app, bal_past g _ (by omega), h.z, show g.length + 1 - g.length = 1 from by omega]
  simp [bal]
 have hT : ∀ v t, TgtF g (b + 1) (fun _ => False) v t → TgtF ((⟨4, 0, 0, none⟩ : ActD) :: (g ++ [⟨5, 0, 0, none⟩])) b T (1 + v) t := fun v t ht => by
  rcases ht with ht | ⟨m, h1, h2, h3⟩ | ⟨ht, _⟩
  · exact .inl ht
  · exact .inr (.inl ⟨m + 1, by simp; omega, by rw [h2]; congr 1; omega, by rw [hS m h1, h3]⟩)
  · exact ht.elim
 have hlen : ((⟨4, 0, 0, none⟩ : ActD) :: (g ++ [⟨5, 0, 0, none⟩])).length = g.length + 2 := by simp
 have hget : ∀ i (hi : i < ((⟨4, 0, 0, none⟩ : ActD) :: (g ++ [⟨5, 0, 0, none⟩])).length), (i = 0 ∧ ((⟨4, 0, 0, none⟩ : ActD) :: (g ++ [⟨5, 0, 0, none⟩]))[i] = ⟨4, 0, 0, none⟩) ∨ (∃ (j : Nat) (hj : j < g.length), i = j + 1 ∧ ((⟨4, 0, 0, none⟩ : ActD) :: (g ++ [⟨5, 0, 0, none⟩]))[i] = g[j]) ∨ ((⟨4, 0, 0, none⟩ : ActD) :: (g ++ [⟨5, 0, 0, none⟩]))[i] = ⟨5, 0, 0, none⟩ := fun i hi => by
  cases i with
  | zero => exact .inl ⟨rfl, rfl⟩
  | succ j =>
   rw [List.getElem_cons_succ]
   rcases Nat.lt_or_ge j g.length with hj | hj
   · exact .inr (.inl ⟨j, hj, rfl, List.getElem_append_left hj⟩)
   ·
    refine .inr (.inr ?_)
    rw [List.getElem_append_right hj]
    simp
 refine ⟨by rw [hlen]; exact hE, fun i hi => ?_, fun i hi => ?_, fun i hi hk => ?_, fun i hi => ?_, fun i hi => ?_⟩
 ·
  rw [hlen] at hi
  cases i with
  | zero => rw [bal_zero]; exact Int.le_refl _
  | succ j =>
   rcases Nat.lt_or_ge g.length j with hj | hj
   ·
    obtain rfl : j = g.length + 1 := by omega
    rw [hE]; exact Int.le_refl _
   · rw [hS j hj]; have := h.nn j hj; omega
 ·
  rw [hlen] at hi
  cases i with
  | zero => rw [bal_zero]; omega
  | succ j =>
   rcases Nat.lt_or_ge g.length j with hj | hj
   ·
    obtain rfl : j = g.length + 1 := by omega
    rw [hE]; omega
   · rw [hS j hj]; have := h.up j hj; omega
 ·
  rcases hget i hi with ⟨_, e⟩ | ⟨j, hj, rfl, e⟩ | e
  · rw [e] at hk; exact absurd hk (by decide)
  ·
   rw [e] at hk ⊢
   rw [hS j (by omega)]
   exact ⟨hT _ _ (h.fk j hj hk).1, hT _ _ (h.fk j hj hk).2⟩
  · rw [e] at hk; exact absurd hk (by decide)
 ·
  rcases hget i hi with ⟨_, e⟩ | ⟨j, hj, rfl, e⟩ | e
  · rw [e]; decide
  · rw [e]; exact h.kd j hj
  · rw [e]; decide
 ·
  rcases hget i hi with ⟨_, e⟩ | ⟨j, hj, rfl, e⟩ | e
  · rw [e]; exact ⟨fun h => absurd h (by decide), fun _ => rfl⟩
  · rw [e]; exact h.st j hj
  · rw [e]; exact ⟨fun h => absurd h (by decide), fun _ => rfl⟩
theorem setOk_plain (k x y : Int) (h : k ≠ 0) : SetOk ⟨k, x, y, none⟩ := ⟨fun e => absurd e h, fun _ => rfl⟩
theorem frag_genR (D d : Nat) : ∀ (l : List Nd) (b : Nat), d ≤ D → (∀ m ∈ l, ∀ b, FragE (genA m b) b d D (fun _ => False)) → (∀ m ∈ l, ∀ b, (genA m b).length = sizeA m) → FragE (genR l b) b d D (fun _ => False)
 | [], b, hD, h, hl => by rw [genR]; exact .nil _ _ _ _ hD
 | n :: l, b, hD, h, hl => by
  rw [genR]
  refine (h n (List.mem_cons_self ..) b).app ?_
  rw [hl n (List.mem_cons_self ..)]
  exact frag_genR D d l _ hD (fun m hm => h m (List.mem_cons_of_mem _ hm)) (fun m hm => hl m (List.mem_cons_of_mem _ hm))
theorem frag_genC (D d e : Nat) : ∀ (l : List Nd) (b : Nat), d ≤ D → (∀ m ∈ l, ∀ b, FragE (genA m b) b d D (fun _ => False)) → (∀ m ∈ l, ∀ b, (genA m b).length = sizeA m) → FragE (genC l b e) b d D (fun t => t = (e : Int))
 | [], b, hD, h, hl => by rw [genC]; exact .nil _ _ _ _ hD
 | [n], b, hD, h, hl => by rw [genC]; exact (h n (List.mem_cons_self ..) b).any
 | n :: m :: l, b, hD, h, hl => by
  rw [genC_cons n (m :: l) b e (by simp)]
  have h1 := h n (List.mem_cons_self ..) (b + 1)
  have h2 := hl n (List.mem_cons_self ..) (b + 1)
  have h3 := frag_genC D d e (m :: l) (b + sizeA n + 2) hD (fun x hx => h x (List.mem_cons_of_mem _ hx)) (fun x hx => hl x (List.mem_cons_of_mem _ hx))
  let T : Int → Prop := fun t => t = (e : Int) ∨ t = ((b + 1 : Nat) : Int) ∨ t = ((b + sizeA n + 2 : Nat) : Int)
  have f1 : FragE [(⟨2, (b + 1 : Nat), (b + sizeA n + 2 : Nat), none⟩ : ActD)] b d D T := .one _ _ _ _ _ hD ⟨by show (0 : Int) ≤ 2; decide, by show (2 : Int) ≤ 3; decide⟩ (setOk_plain _ _ _ (by decide)) (fun _ => ⟨.inr (.inr (.inl rfl)), .inr (.inr (.inr rfl))⟩)
  have f2 : FragE [(⟨2, e, -1, none⟩ : ActD)] (b + 1 + sizeA n) d D T := .one _ _ _ _ _ hD ⟨by show (0 : Int) ≤ 2; decide, by show (2 : Int) ≤ 3; decide⟩ (setOk_plain _ _ _ (by decide)) (fun _ => ⟨.inr (.inl rfl), .inl (by show (-1 : Int) < 0; decide)⟩)
  have g1 : FragE ([(⟨2, (b + 1 : Nat), (b + sizeA n + 2 : Nat), none⟩ : ActD)] ++ genA n (b + 1)) b d D T := f1.app (h1.any (T := T))
  have g2 : FragE (([(⟨2, (b + 1 : Nat), (b + sizeA n + 2 : Nat), none⟩ : ActD)] ++ genA n (b + 1)) ++ [(⟨2, e, -1, none⟩ : ActD)]) b d D T := g1.app (by rw [List.length_append, h2, show b + ([(⟨2, (b + 1 : Nat), (b + sizeA n + 2 : Nat), none⟩ : ActD)].length + sizeA n) = b + 1 + sizeA n from by simp; omega]; exact f2)
  have hlen : (([(⟨2, (b + 1 : Nat), (b + sizeA n + 2 : Nat), none⟩ : ActD)] ++ genA n (b + 1)) ++ [(⟨2, e, -1, none⟩ : ActD)]).length = sizeA n + 2 := by simp [h2]
  have g3 := g2.app (r := genC (m :: l) (b + sizeA n + 2) e) (by rw [hlen, show b + (sizeA n + 2) = b + sizeA n + 2 from by omega]; exact h3.close (T' := T) (fun t ht => .inl (.inl ht)))
  have hz := bal_mid (l := (([(⟨2, (b + 1 : Nat), (b + sizeA n + 2 : Nat), none⟩ : ActD)] ++ genA n (b + 1)) ++ [(⟨2, e, -1, none⟩ : ActD)])) (r := genC (m :: l) (b + sizeA n + 2) e) g2.z
  rw [hlen] at hz
  have g4 := g3.close (T' := fun t => t = (e : Int)) (fun t ht => by
   rcases ht with ht | ht | ht
   · exact .inl ht
   ·
    refine .inr ⟨1, by simp, ht, ?_⟩
    have := bal_mid (l := [(⟨2, (b + 1 : Nat), (b + sizeA n + 2 : Nat), none⟩ : ActD)]) (r := genA n (b + 1) ++ ([(⟨2, e, -1, none⟩ : ActD)] ++ genC (m :: l) (b + sizeA n + 2) e)) f1.z
    simpa [List.append_assoc] using this
   · exact .inr ⟨sizeA n + 2, by rw [List.length_append, hlen]; omega, by rw [ht]; congr 1, hz⟩)
  simpa [List.append_assoc] using g4
theorem frag_copies (D d : Nat) (g : Nat → List ActD) (sz : Nat) (hD : d ≤ D) (hg : ∀ b, FragE (g b) b d D (fun _ => False)) (hl : ∀ b, (g b).length = sz) : ∀ (k b : Nat), FragE (copiesA g sz k b) b d D (fun _ => False)
 | 0, b => by rw [copiesA]; exact .nil _ _ _ _ hD
 | k + 1, b => by
  rw [copiesA]
  refine (hg b).app ?_
  rw [hl]
  exact frag_copies D d g sz hD hg hl k (b + sz)
theorem frag_ways (D d : Nat) (g : Nat → List ActD) (sz : Nat) (lz : Bool) (out : Nat) (hg : ∀ b, FragE (g b) b (d + 1) D (fun _ => False)) (hl : ∀ b, (g b).length = sz) (hD : d ≤ D) : ∀ (k b : Nat), FragE (waysA g sz lz out k b) b d D (fun t => t = (out : Int))
 | 0, b => by rw [waysA]; exact .nil _ _ _ _ hD
 | k + 1, b => by
  rw [waysA]
  obtain ⟨a, ha⟩ : ∃ a : ActD, (if lz then ⟨2, out, (b + 1 : Nat), none⟩ else ⟨2, (b + 1 : Nat), out, none⟩) = a := ⟨_, rfl⟩
  rw [ha]
  let T : Int → Prop := fun t => t = (out : Int) ∨ t = ((b + 1 : Nat) : Int)
  have f1 : FragE [a] b d D T := by
   subst ha
   cases lz
   · exact .one _ _ _ _ _ hD ⟨by show (0 : Int) ≤ 2; decide, by show (2 : Int) ≤ 3; decide⟩ (setOk_plain _ _ _ (by decide)) (fun _ => ⟨.inr (.inr rfl), .inr (.inl rfl)⟩)
   · exact .one _ _ _ _ _ hD ⟨by show (0 : Int) ≤ 2; decide, by show (2 : Int) ≤ 3; decide⟩ (setOk_plain _ _ _ (by decide)) (fun _ => ⟨.inr (.inl rfl), .inr (.inr rfl)⟩)
  have f2 : FragE ((⟨4, 0, 0, none⟩ : ActD) :: (g (b + 2) ++ [⟨5, 0, 0, none⟩])) (b + 1) d D T := (hg (b + 2)).wrap
  have g1 := f1.app f2
  have hlen : ([a] ++ ((⟨4, 0, 0, none⟩ : ActD) :: (g (b + 2) ++ [⟨5, 0, 0, none⟩]))).length = sz + 3 := by simp [hl]
  have g2 := g1.app (r := waysA g sz lz out k (b + sz + 3)) (by rw [hlen, show b + (sz + 3) = b + sz + 3 from by omega]; exact (frag_ways D d g sz lz out hg hl hD k (b + sz + 3)).close (T' := T) (fun t ht => .inl (.inl ht)))
  have g3 := g2.close (T' := fun t => t = (out : Int)) (fun t ht => by
   rcases ht with ht | ht
   · exact .inl ht
   ·
    refine .inr ⟨1, by simp, ht, ?_⟩
    have := bal_mid (l := [a]) (r := ((⟨4, 0, 0, none⟩ : ActD) :: (g (b + 2) ++ [⟨5, 0, 0, none⟩])) ++ waysA g sz lz out k (b + sz + 3)) f1.z
    simpa [List.append_assoc] using this)
  simpa [List.append_assoc] using g3
theorem frag_genA {n : Nd} (h : GoodN n) : ∀ b d D, deepA d n ≤ D → FragE (genA n b) b d D (fun _ => False) := by
 induction h with
 | set r k nt fd hr hk hl =>
  intro b d D hD
  rw [deepA] at hD
  rw [genA]
  exact .one _ _ _ _ _ hD ⟨by show (0 : Int) ≤ 0; decide, by show (0 : Int) ≤ 3; decide⟩ ⟨fun _ => ⟨_, rfl, hl, hr, hk⟩, fun h => absurd rfl h⟩ (fun h => absurd h (by show ¬ (0 : Int) = 2; decide))
 | edge w hw =>
  intro b d D hD
  rw [deepA] at hD
  rw [genA]
  exact .one _ _ _ _ _ hD ⟨by show (0 : Int) ≤ 1; decide, by show (1 : Int) ≤ 3; decide⟩ (setOk_plain _ _ _ (by decide)) (fun h => absurd h (by show ¬ (1 : Int) = 2; decide))
 | row l hl h ih =>
  intro b d D hD
  rw [deepA] at hD
  rw [genA]
  exact frag_genR D d l b (Nat.le_trans (deepL_le d l) hD) (fun m hm b => ih m hm b d D (Nat.le_trans (deepL_mem d l m hm) hD)) (fun m hm => genA_len (h m hm))
 | choice l h0 hl h ih =>
  intro b d D hD
  rw [deepA] at hD
  rw [genA]
  have hln := genC_len l b (b + (sizeL l + 2 * (l.length - 1))) (fun m hm => genA_len (h m hm))
  have hf := frag_genC D d (b + (sizeL l + 2 * (l.length - 1))) l b (Nat.le_trans (deepL_le d l) hD) (fun m hm b => ih m hm b d D (Nat.le_trans (deepL_mem d l m hm) hD)) (fun m hm => genA_len (h m hm))
  exact hf.close (fun t ht => .inr ⟨_, Nat.le_refl _, by rw [ht, hln], hf.z⟩)
 | group n k h0 h9 h ih =>
  intro b d D hD
  rw [deepA] at hD
  have hdD := Nat.le_trans (le_deepA h d) hD
  rw [genA]
  split
  ·
   have f1 : FragE [(⟨3, 2 * k, 0, none⟩ : ActD)] b d D (fun _ => False) := .one _ _ _ _ _ hdD ⟨by show (0 : Int) ≤ 3; decide, by show (3 : Int) ≤ 3; decide⟩ (setOk_plain _ _ _ (by decide)) (fun h => absurd h (by show ¬ (3 : Int) = 2; decide))
   have f2 := f1.app (ih (b + 1) d D hD)
   have f3 := f2.app (r := [(⟨3, 2 * k + 1, 0, none⟩ : ActD)]) (.one _ _ _ _ _ hdD ⟨by show (0 : Int) ≤ 3; decide, by show (3 : Int) ≤ 3; decide⟩ (setOk_plain _ _ _ (by decide)) (fun h => absurd h (by show ¬ (3 : Int) = 2; decide)))
   simpa [List.append_assoc] using f3
  · exact ih b d D hD
 | again n least most lz h0 h1 h2 h3 h4 h ih =>
  intro b d D hD
  rw [deepA] at hD
  have hlen := genA_len h
  have hdD : d ≤ D := by omega
  rw [genA]
  by_cases hm : most < 0
  ·
   rw [if_pos (Or.inl hm)] at hD
   simp only [if_pos hm]
   have hc : FragE (copiesA (genA n) (sizeA n) (timesN least) b) b d D (fun _ => False) := by
    by_cases hl0 : 0 < least
    ·
     rw [if_pos hl0] at hD
     exact frag_copies D d _ _ hdD (fun b => ih b d D (by omega)) hlen _ b
    ·
     rw [show timesN least = 0 from by unfold timesN; omega, copiesA]
     exact .nil _ _ _ _ hdD
   have hcl : (copiesA (genA n) (sizeA n) (timesN least) b).length = timesN least * sizeA n := copies_len _ _ hlen _ _
   obtain ⟨b1, hb1⟩ : ∃ b1, b + timesN least * sizeA n = b1 := ⟨_, rfl⟩
   rw [hb1]
   have hw := frag_ways D d (genA n) (sizeA n) lz (b1 + sizeA n + 4) (fun b => ih b (d + 1) D (by omega)) hlen hdD 1 b1
   have hwl : (waysA (genA n) (sizeA n) lz (b1 + sizeA n + 4) 1 b1).length = 1 * (sizeA n + 3) := ways_len _ _ _ _ hlen _ _
   let T : Int → Prop := fun t => t = ((b1 + sizeA n + 4 : Nat) : Int) ∨ t = (b1 : Int)
   have f2 := (hw.close (T' := T) (fun t ht => .inl (.inl ht))).app (r := [(⟨2, b1, -1, none⟩ : ActD)]) (.one _ _ _ _ _ hdD ⟨by show (0 : Int) ≤ 2; decide, by show (2 : Int) ≤ 3; decide⟩ (setOk_plain _ _ _ (by decide)) (fun _ => ⟨.inr (.inr rfl), .inl (by show (-1 : Int) < 0; decide)⟩))
   refine hc.app (r := waysA (genA n) (sizeA n) lz (b1 + sizeA n + 4) 1 b1 ++ [(⟨2, b1, -1, none⟩ : ActD)]) ?_
   rw [hcl, hb1]
   refine f2.close (fun t ht => .inr ?_)
   rcases ht with ht | ht
   · exact ⟨_, Nat.le_refl _, by rw [ht, List.length_append, hwl, List.length_singleton]; congr 1; omega, f2.z⟩
   · exact ⟨0, Nat.zero_le _, ht, bal_zero _⟩
  ·
   simp only [if_neg hm]
   have hc : FragE (copiesA (genA n) (sizeA n) (timesN least) b) b d D (fun _ => False) := by
    by_cases hl0 : 0 < least
    ·
     rw [if_pos hl0] at hD
     exact frag_copies D d _ _ hdD (fun b => ih b d D (by omega)) hlen _ b
    ·
     rw [show timesN least = 0 from by unfold timesN; omega, copiesA]
     exact .nil _ _ _ _ hdD
   have hcl : (copiesA (genA n) (sizeA n) (timesN least) b).length = timesN least * sizeA n := copies_len _ _ hlen _ _
   refine hc.app ?_
   rw [hcl]
   obtain ⟨b1, hb1⟩ : ∃ b1, b + timesN least * sizeA n = b1 := ⟨_, rfl⟩
   rw [hb1]
   by_cases hlm : least < most
   ·
    rw [if_pos (Or.inr hlm)] at hD
    have hw := frag_ways D d (genA n) (sizeA n) lz (b1 + timesN (most - least) * (sizeA n + 3)) (fun b => ih b (d + 1) D (by omega)) hlen hdD (timesN (most - least)) b1
    have hwl : (waysA (genA n) (sizeA n) lz (b1 + timesN (most - least) * (sizeA n + 3)) (timesN (most - least)) b1).length = timesN (most - least) * (sizeA n + 3) := ways_len _ _ _ _ hlen _ _
    exact hw.close (fun t ht => .inr ⟨_, Nat.le_refl _, by rw [ht, hwl], hw.z⟩)
   ·
    rw [show timesN (most - least) = 0 from by unfold timesN; omega, waysA]
    exact .nil _ _ _ _ hdD
theorem bal_step : ∀ (l : List ActD) (i : Nat) (h : i < l.length), bal l (i + 1) = bal l i + (if l[i].kind = 4 then 1 else if l[i].kind = 5 then -1 else 0)
 | a :: l, 0, h => by simp [bal, bal_zero]
 | a :: l, i + 1, h => by
  have := bal_step l i (by simpa using h)
  rw [bal, this, bal, List.getElem_cons_succ, Int.add_assoc]
theorem wf_prog {n : Nd} (h : GoodN n) : ∃ lv, WfA (progA n) (deepA 0 n) lv := by
 have hf := frag_genA h 0 0 (deepA 0 n) (Nat.le_refl _)
 obtain ⟨l, hl⟩ : ∃ l, genA n 0 = l := ⟨_, rfl⟩
 unfold progA
 rw [hl] at hf ⊢
 have hlen : (l ++ [(⟨6, 0, 0, none⟩ : ActD)]).length = l.length + 1 := by simp
 have hget : ∀ i (hi : i < (l ++ [(⟨6, 0, 0, none⟩ : ActD)]).length), (∃ hj : i < l.length, (l ++ [(⟨6, 0, 0, none⟩ : ActD)])[i] = l[i]) ∨ (i = l.length ∧ (l ++ [(⟨6, 0, 0, none⟩ : ActD)])[i] = ⟨6, 0, 0, none⟩) := fun i hi => by
  rcases Nat.lt_or_ge i l.length with hj | hj
  · exact .inl ⟨hj, List.getElem_append_left hj⟩
  ·
   refine .inr ⟨by omega, ?_⟩
   rw [List.getElem_append_right hj]
   simp
 have hin : ∀ i (hi : i < (l ++ [(⟨6, 0, 0, none⟩ : ActD)]).length) (k : Int), (l ++ [(⟨6, 0, 0, none⟩ : ActD)])[i].kind = k → k ≠ 6 → ∃ hj : i < l.length, (l ++ [(⟨6, 0, 0, none⟩ : ActD)])[i] = l[i] ∧ l[i].kind = k := fun i hi k hk hk6 => by
  rcases hget i hi with ⟨hj, e⟩ | ⟨_, e⟩
  · exact ⟨hj, e, by rw [← e]; exact hk⟩
  · rw [e] at hk; exact absurd hk.symm hk6
 have hnx : ∀ i (hj : i < l.length) (v : Nat), v ≤ (bal l (i + 1)).toNat → Tgt (l ++ [(⟨6, 0, 0, none⟩ : ActD)]) (fun i => (bal l i).toNat) v ((i + 1 : Nat) : Int) := fun i hj v hv => .inr ⟨by omega, by rw [hlen, Int.toNat_natCast]; omega, by rw [Int.toNat_natCast]; exact hv⟩
 have htg : ∀ i (hj : i < l.length) (t : Int), TgtF l 0 (fun _ => False) (bal l i) t → Tgt (l ++ [(⟨6, 0, 0, none⟩ : ActD)]) (fun i => (bal l i).toNat) (bal l i).toNat t := fun i hj t ht => by
  rcases ht with ht | ⟨m, h1, h2, h3⟩ | ⟨ht, _⟩
  · exact .inl ht
  ·
   rw [Nat.zero_add] at h2
   subst h2
   exact .inr ⟨by omega, by rw [hlen, Int.toNat_natCast]; omega, by rw [Int.toNat_natCast]; show (bal l i).toNat ≤ (bal l m).toNat; rw [h3]; exact Nat.le_refl _⟩
  · exact ht.elim
 refine ⟨fun i => (bal l i).toNat, ⟨by rw [hlen]; omega, fun i hi => ?_, fun i hi => ?_, fun i hi hk => ?_, fun i hi hk => ?_, fun i hi hk => ?_, fun i hi hk => ?_, fun i hi hk => ?_, fun i hi hk => ?_, fun i hi hk => ?_⟩⟩
 ·
  have := hf.up i (by rw [hlen] at hi; omega)
  show (bal l i).toNat ≤ _
  omega
 ·
  rcases hget i hi with ⟨hj, e⟩ | ⟨_, e⟩
  · rw [e]; have := hf.kd i hj; omega
  · rw [e]; decide
 ·
  obtain ⟨hj, e, hk'⟩ := hin i hi 0 hk (by decide)
  refine ⟨by rw [hlen]; omega, ?_⟩
  rw [e]
  exact (hf.st i hj).1 hk'
 ·
  rcases hget i hi with ⟨hj, e⟩ | ⟨_, e⟩
  · rw [e] at hk ⊢; exact (hf.st i hj).2 hk
  · rw [e]
 ·
  obtain ⟨hj, e, hk'⟩ := hin i hi 1 hk (by decide)
  have := bal_step l i hj
  rw [hk', if_neg (by decide), if_neg (by decide)] at this
  exact hnx i hj _ (by rw [this, Int.add_zero]; exact Nat.le_refl _)
 ·
  obtain ⟨hj, e, hk'⟩ := hin i hi 2 hk (by decide)
  rw [e]
  exact ⟨htg i hj _ (hf.fk i hj hk').1, htg i hj _ (hf.fk i hj hk').2⟩
 ·
  obtain ⟨hj, e, hk'⟩ := hin i hi 3 hk (by decide)
  have := bal_step l i hj
  rw [hk', if_neg (by decide), if_neg (by decide)] at this
  exact hnx i hj _ (by rw [this, Int.add_zero]; exact Nat.le_refl _)
 ·
  obtain ⟨hj, e, hk'⟩ := hin i hi 4 hk (by decide)
  have := bal_step l i hj
  rw [hk', if_pos rfl] at this
  have hn := hf.nn i (by omega)
  exact hnx i hj _ (by show (bal l i).toNat + 1 ≤ _; omega)
 ·
  obtain ⟨hj, e, hk'⟩ := hin i hi 5 hk (by decide)
  exact hnx i hj _ (Nat.zero_le _)
end Go.Proofs.YtdegdoilpamjjaaDoor
namespace Go.Proofs.YtdegdoilpamjjaaDoor
set_option linter.unusedVariables false
structure ToY where
 act : Int
 idle : Nat
 sl : List Int
def goOnY (acts : List ActD) (deep : Nat) : Nat → ToY → List Nat → List (Nat × List Int) → List ToY → List Nat × List (Nat × List Int) × List ToY
 | 0, _, S, th, st => (S, th, st)
 | f + 1, t, S, th, st =>
  if t.act < 0 then (S, th, st) else
  if S.contains (t.act.toNat * (deep + 1) + t.idle) then (S, th, st) else
  if (acts.getD t.act.toNat ⟨6, 0, 0, none⟩).kind = 0 ∨ (acts.getD t.act.toNat ⟨6, 0, 0, none⟩).kind = 6 then ((t.act.toNat * (deep + 1) + t.idle) :: S, th ++ [(t.act.toNat, t.sl)], st)
  else if (acts.getD t.act.toNat ⟨6, 0, 0, none⟩).kind = 2 then goOnY acts deep f ⟨(acts.getD t.act.toNat ⟨6, 0, 0, none⟩).x, t.idle, t.sl⟩ ((t.act.toNat * (deep + 1) + t.idle) :: S) th (⟨(acts.getD t.act.toNat ⟨6, 0, 0, none⟩).y, t.idle, t.sl⟩ :: st)
  else if (acts.getD t.act.toNat ⟨6, 0, 0, none⟩).kind = 3 then goOnY acts deep f ⟨t.act + 1, t.idle, (acts.getD t.act.toNat ⟨6, 0, 0, none⟩).x :: t.sl⟩ ((t.act.toNat * (deep + 1) + t.idle) :: S) th st
  else if (acts.getD t.act.toNat ⟨6, 0, 0, none⟩).kind = 4 then goOnY acts deep f ⟨t.act + 1, t.idle + 1, t.sl⟩ ((t.act.toNat * (deep + 1) + t.idle) :: S) th st
  else if 0 < t.idle then ((t.act.toNat * (deep + 1) + t.idle) :: S, th, st) else goOnY acts deep f ⟨t.act + 1, t.idle, t.sl⟩ ((t.act.toNat * (deep + 1) + t.idle) :: S) th st
def addY (acts : List ActD) (deep F : Nat) : Nat → List Nat → List (Nat × List Int) → List ToY → List Nat × List (Nat × List Int)
 | 0, S, th, _ => (S, th)
 | _ + 1, S, th, [] => (S, th)
 | f + 1, S, th, t :: st => match goOnY acts deep F t S th st with
  | (S', th', st') => addY acts deep F f S' th' st'
structure RelY (at' : Nat) (seen : Nat → Nat) (S : List Nat) : Prop where
 le : ∀ k, seen k ≤ at' + 1
 iff : ∀ k, seen k = at' + 1 ↔ k ∈ S
theorem RelY.mark {at' : Nat} {seen : Nat → Nat} {S : List Nat} (h : RelY at' seen S) (k : Nat) : RelY at' (markS at' k seen) (k :: S) := by
 unfold markS
 refine ⟨fun i => ?_, fun i => ?_⟩
 ·
  split
  · exact Nat.le_refl _
  · exact h.le i
 ·
  rw [List.mem_cons]
  by_cases e : i = k
  · rw [if_pos e]; exact ⟨fun _ => .inl e, fun _ => rfl⟩
  · rw [if_neg e, h.iff]; exact ⟨.inr, fun h => h.resolve_left e⟩
theorem RelY.fresh {at' : Nat} {seen : Nat → Nat} {S : List Nat} (h : RelY at' seen S) : RelY (at' + 1) seen [] :=
 ⟨fun k => Nat.le_succ_of_le (h.le k), fun k => ⟨fun e => by have := h.le k; omega, fun h => by cases h⟩⟩
def atY (at' : Nat) (l : List Int) : List (Int × Int) := l.map fun s => (s, (at' : Int))
def thY (at' : Nat) (fr : Int) (ν : List (Int × Int)) (x : Nat × List Int) : ThD := ⟨x.1, fr, atY at' x.2 ++ ν⟩
def toY (at' : Nat) (ν : List (Int × Int)) (t : ToY) : ToD := ⟨t.act, t.idle, atY at' t.sl ++ ν⟩
theorem goOn_at (acts : List ActD) (deep : Nat) (stand : Int → Bool) (at' : Nat) (fr : Int) (f j id : Nat) (nts : List (Int × Int)) (seen : Nat → Nat) (th : List ThD) (st : List ToD) :
  goOnP acts deep stand at' fr (f + 1) ⟨(j : Int), id, nts⟩ seen th st = if seen (j * (deep + 1) + id) = at' + 1 then (seen, th, st) else
   if (acts.getD j ⟨6, 0, 0, none⟩).kind = 0 ∨ (acts.getD j ⟨6, 0, 0, none⟩).kind = 6 then (markS at' (j * (deep + 1) + id) seen, th ++ [⟨j, fr, nts⟩], st)
   else if (acts.getD j ⟨6, 0, 0, none⟩).kind = 1 then (if stand (acts.getD j ⟨6, 0, 0, none⟩).x then goOnP acts deep stand at' fr f ⟨(j : Int) + 1, id, nts⟩ (markS at' (j * (deep + 1) + id) seen) th st else (markS at' (j * (deep + 1) + id) seen, th, st))
   else if (acts.getD j ⟨6, 0, 0, none⟩).kind = 2 then goOnP acts deep stand at' fr f ⟨(acts.getD j ⟨6, 0, 0, none⟩).x, id, nts⟩ (markS at' (j * (deep + 1) + id) seen) th (⟨(acts.getD j ⟨6, 0, 0, none⟩).y, id, nts⟩ :: st)
   else if (acts.getD j ⟨6, 0, 0, none⟩).kind = 3 then goOnP acts deep stand at' fr f ⟨(j : Int) + 1, id, ((acts.getD j ⟨6, 0, 0, none⟩).x, (at' : Int)) :: nts⟩ (markS at' (j * (deep + 1) + id) seen) th st
   else if (acts.getD j ⟨6, 0, 0, none⟩).kind = 4 then goOnP acts deep stand at' fr f ⟨(j : Int) + 1, id + 1, nts⟩ (markS at' (j * (deep + 1) + id) seen) th st
   else (if 0 < id then (markS at' (j * (deep + 1) + id) seen, th, st) else goOnP acts deep stand at' fr f ⟨(j : Int) + 1, id, nts⟩ (markS at' (j * (deep + 1) + id) seen) th st) := by
 rw [goOnP]
 simp only [Int.toNat_natCast]
 rw [if_neg (by omega)]
 rfl
section
variable {acts : List ActD} {deep : Nat} {stand : Int → Bool} {at' : Nat} {fr : Int}
theorem goOn_Y (h1 : ∀ i, (acts.getD i ⟨6, 0, 0, none⟩).kind ≠ 1) (ν : List (Int × Int)) (th0 : List ThD) : ∀ (f : Nat) (t : ToY) (seen : Nat → Nat) (S : List Nat) (th : List (Nat × List Int)) (st : List ToY), RelY at' seen S →
  ∃ seen', goOnP acts deep stand at' fr f (toY at' ν t) seen (th0 ++ th.map (thY at' fr ν)) (st.map (toY at' ν)) = (seen', th0 ++ (goOnY acts deep f t S th st).2.1.map (thY at' fr ν), (goOnY acts deep f t S th st).2.2.map (toY at' ν)) ∧ RelY at' seen' (goOnY acts deep f t S th st).1
 | 0, t, seen, S, th, st, h => ⟨seen, by rw [goOnP, goOnY], by rw [goOnY]; exact h⟩
 | f + 1, ⟨ta, id, sl⟩, seen, S, th, st, h => by
  show ∃ seen', goOnP acts deep stand at' fr (f + 1) ⟨ta, id, atY at' sl ++ ν⟩ seen (th0 ++ th.map (thY at' fr ν)) (st.map (toY at' ν)) = _ ∧ _
  rw [goOnY]
  dsimp only
  by_cases hn : ta < 0
  · rw [goOnP_zero _ _ _ _ _ _ _ _ _ _ hn, if_pos hn]; exact ⟨seen, rfl, h⟩
  obtain ⟨j, rfl⟩ : ∃ j : Nat, ta = j := ⟨ta.toNat, by omega⟩
  rw [goOn_at, if_neg hn]
  simp only [Int.toNat_natCast]
  obtain ⟨k, hk⟩ : ∃ k, j * (deep + 1) + id = k := ⟨_, rfl⟩
  rw [hk]
  by_cases hs : seen k = at' + 1
  ·
   have hc : S.contains k = true := by rw [List.contains_eq_mem]; simpa using (h.iff k).mp hs
   rw [if_pos hs, if_pos hc]; exact ⟨seen, rfl, h⟩
  have hc : ¬ S.contains k = true := by rw [List.contains_eq_mem]; simpa using fun e => hs ((h.iff k).mpr e)
  rw [if_neg hs, if_neg hc]
  have hm := h.mark k
  have ha := h1 j
  generalize acts.getD j ⟨6, 0, 0, none⟩ = a at ha ⊢
  by_cases h06 : a.kind = 0 ∨ a.kind = 6
  ·
   rw [if_pos h06, if_pos h06]
   exact ⟨_, by rw [List.map_append, ← List.append_assoc]; rfl, hm⟩
  rw [if_neg h06, if_neg h06, if_neg ha]
  by_cases h2 : a.kind = 2
  ·
   rw [if_pos h2, if_pos h2]
   exact goOn_Y h1 ν th0 f ⟨a.x, id, sl⟩ _ _ th (⟨a.y, id, sl⟩ :: st) hm
  rw [if_neg h2, if_neg h2]
  by_cases h3 : a.kind = 3
  ·
   rw [if_pos h3, if_pos h3]
   exact goOn_Y h1 ν th0 f ⟨(j : Int) + 1, id, a.x :: sl⟩ _ _ th st hm
  rw [if_neg h3, if_neg h3]
  by_cases h4 : a.kind = 4
  ·
   rw [if_pos h4, if_pos h4]
   exact goOn_Y h1 ν th0 f ⟨(j : Int) + 1, id + 1, sl⟩ _ _ th st hm
  rw [if_neg h4, if_neg h4]
  by_cases h0 : 0 < id
  ·
   rw [if_pos h0, if_pos h0]
   exact ⟨_, rfl, hm⟩
  ·
   rw [if_neg h0, if_neg h0]
   exact goOn_Y h1 ν th0 f ⟨(j : Int) + 1, id, sl⟩ _ _ th st hm
theorem add_Y (h1 : ∀ i, (acts.getD i ⟨6, 0, 0, none⟩).kind ≠ 1) (ν : List (Int × Int)) (th0 : List ThD) : ∀ (f : Nat) (seen : Nat → Nat) (S : List Nat) (th : List (Nat × List Int)) (st : List ToY), RelY at' seen S →
  ∃ seen', addP' acts deep stand at' fr f seen (th0 ++ th.map (thY at' fr ν)) (st.map (toY at' ν)) = (seen', th0 ++ (addY acts deep (acts.length * (deep + 1) + 2) f S th st).2.map (thY at' fr ν)) ∧ RelY at' seen' (addY acts deep (acts.length * (deep + 1) + 2) f S th st).1
 | 0, seen, S, th, st, h => ⟨seen, by rw [addP', addY], by rw [addY]; exact h⟩
 | f + 1, seen, S, th, [], h => ⟨seen, by rw [addY, List.map_nil, addP'], by rw [addY]; exact h⟩
 | f + 1, seen, S, th, t :: st, h => by
  obtain ⟨seen', e, h'⟩ := goOn_Y h1 ν th0 (stand := stand) (fr := fr) (acts.length * (deep + 1) + 2) t seen S th st h
  rw [List.map_cons, addP', e, addY]
  exact add_Y h1 ν th0 f seen' _ _ _ h'
end
def cloY (acts : List ActD) (deep : Nat) (act : Int) (S : List Nat) : List Nat × List (Nat × List Int) := addY acts deep (acts.length * (deep + 1) + 2) (acts.length * (deep + 1) + 2) S [] [⟨act, 0, []⟩]
theorem addAll_Y {G : GlyD} {acts : List ActD} {deep : Nat} {line : List Int} {at' : Nat} (h1 : ∀ i, (acts.getD i ⟨6, 0, 0, none⟩).kind ≠ 1) (act : Int) (fr : Int) (ν : List (Int × Int)) {seen : Nat → Nat} {S : List Nat} (th0 : List ThD) (h : RelY at' seen S) :
  ∃ seen', addAll G acts deep line at' act fr ν seen th0 = (seen', th0 ++ (cloY acts deep act S).2.map (thY at' fr ν)) ∧ RelY at' seen' (cloY acts deep act S).1 := by
 obtain ⟨seen', e, h'⟩ := add_Y h1 ν th0 (stand := standsP (wordAt G line) line.length at') (fr := fr) (acts.length * (deep + 1) + 2) seen S [] [⟨act, 0, []⟩] h
 rw [List.map_nil, List.append_nil] at e
 exact ⟨seen', e, h'⟩
theorem addAll_seen {G : GlyD} {acts : List ActD} {deep : Nat} {line : List Int} {at' : Nat} (j : Nat) (fr : Int) (ν : List (Int × Int)) {seen : Nat → Nat} (th0 : List ThD) (h : seen (j * (deep + 1)) = at' + 1) :
  addAll G acts deep line at' (j : Int) fr ν seen th0 = (seen, th0) := by
 unfold addAll
 obtain ⟨F, hF⟩ : ∃ F, acts.length * (deep + 1) + 1 = F := ⟨_, rfl⟩
 rw [show acts.length * (deep + 1) + 2 = F + 1 from by omega, addP', show acts.length * (deep + 1) + 2 = F + 1 from by omega, goOn_at, if_pos (by rw [Nat.add_zero]; exact h)]
 dsimp only
 cases F <;> rw [addP']
end Go.Proofs.YtdegdoilpamjjaaDoor
namespace Go.Proofs.YtdegdoilpamjjaaDoor
set_option linter.unusedVariables false
def digW : Nat → Int → List Int → List Int
 | 0, _, out => out
 | f + 1, n, out => if 0 < n then digW f (n / 10) ((48 + n % 10) :: out) else out
def tms (k : Nat) : List Int := [92, 123] ++ digW 2 k [] ++ [125]
def srcA (k : Nat) : List Int := [92, 40, 97, 92, 63, 92, 41] ++ tms k ++ [97] ++ tms k
def ndA (k : Nat) : Nd := .choice [.row [.again (.group (.choice [.row [.again (oneN false 97) 0 1 false]]) 1) k k false, .again (oneN false 97) k k false]]
def wrapB : Nat → List Int → List Int
 | 0, l => l
 | d + 1, l => wrapB d (([92, 40] ++ l) ++ [92, 41, 42])
def srcB (d : Nat) : List Int := wrapB d [97, 42] ++ [98]
def ndBi : Nat → Nat → Nd
 | 0, _ => .again (oneN false 97) 0 (-1) false
 | d + 1, i => .again (.group (.choice [.row [ndBi d (i + 1)]]) i) 0 (-1) false
def ndB (d : Nat) : Nd := .choice [.row [ndBi d 1, oneN false 98]]
def sA : SetD := ⟨[(97, 97)], [], false, false⟩
def sB : SetD := ⟨[(98, 98)], [], false, false⟩
def actF (k i : Nat) : ActD :=
 if 6 * k ≤ i then (if 7 * k ≤ i then ⟨6, 0, 0, none⟩ else ⟨0, 0, 0, some sA⟩)
 else if i % 6 = 0 then ⟨3, 2, 0, none⟩ else if i % 6 = 1 then ⟨2, (i + 1 : Nat), (i + 4 : Nat), none⟩ else if i % 6 = 2 then ⟨4, 0, 0, none⟩ else if i % 6 = 3 then ⟨0, 0, 0, some sA⟩ else if i % 6 = 4 then ⟨5, 0, 0, none⟩ else ⟨3, 3, 0, none⟩
abbrev CaseA (k : Nat) : Prop := compileP (srcA k) false = .ok (ndA k) 1 ∧ progA (ndA k) = (List.range (7 * k + 1)).map (actF k) ∧ deepA 0 (ndA k) = 1
abbrev CaseB (d : Nat) : Prop := compileP (srcB d) false = .ok (ndB d) d ∧ deepA 0 (ndB d) = d + 1 ∧ (progA (ndB d)).getD (3 * d + 2) ⟨6, 0, 0, none⟩ = ⟨0, 0, 0, some sA⟩ ∧ (progA (ndB d)).getD (6 * d + 5) ⟨6, 0, 0, none⟩ = ⟨0, 0, 0, some sB⟩ ∧ (progA (ndB d)).getD (6 * d + 6) ⟨6, 0, 0, none⟩ = ⟨6, 0, 0, none⟩
theorem caseA_1 : CaseA 1 := ⟨by kernel_rfl, by kernel_rfl, by kernel_rfl⟩
theorem caseA_2 : CaseA 2 := ⟨by kernel_rfl, by kernel_rfl, by kernel_rfl⟩
theorem caseA_3 : CaseA 3 := ⟨by kernel_rfl, by kernel_rfl, by kernel_rfl⟩
theorem caseA_4 : CaseA 4 := ⟨by kernel_rfl, by kernel_rfl, by kernel_rfl⟩
theorem caseA_5 : CaseA 5 := ⟨by kernel_rfl, by kernel_rfl, by kernel_rfl⟩
theorem caseA_6 : CaseA 6 := ⟨by kernel_rfl, by kernel_rfl, by kernel_rfl⟩
theorem caseA_7 : CaseA 7 := ⟨by kernel_rfl, by kernel_rfl, by kernel_rfl⟩
theorem caseA_8 : CaseA 8 := ⟨by kernel_rfl, by kernel_rfl, by kernel_rfl⟩
theorem caseA_9 : CaseA 9 := ⟨by kernel_rfl, by kernel_rfl, by kernel_rfl⟩
theorem caseA_10 : CaseA 10 := ⟨by kernel_rfl, by kernel_rfl, by kernel_rfl⟩
theorem caseA_11 : CaseA 11 := ⟨by kernel_rfl, by kernel_rfl, by kernel_rfl⟩
theorem caseA_12 : CaseA 12 := ⟨by kernel_rfl, by kernel_rfl, by kernel_rfl⟩
theorem caseA_13 : CaseA 13 := ⟨by kernel_rfl, by kernel_rfl, by kernel_rfl⟩
theorem caseA_14 : CaseA 14 := ⟨by kernel_rfl, by kernel_rfl, by kernel_rfl⟩
theorem caseA_15 : CaseA 15 := ⟨by kernel_rfl, by kernel_rfl, by kernel_rfl⟩
theorem caseA_16 : CaseA 16 := ⟨by kernel_rfl, by kernel_rfl, by kernel_rfl⟩
theorem caseA_17 : CaseA 17 := ⟨by kernel_rfl, by kernel_rfl, by kernel_rfl⟩
theorem caseA_18 : CaseA 18 := ⟨by kernel_rfl, by kernel_rfl, by kernel_rfl⟩
theorem caseA_19 : CaseA 19 := ⟨by kernel_rfl, by kernel_rfl, by kernel_rfl⟩
theorem caseA_20 : CaseA 20 := ⟨by kernel_rfl, by kernel_rfl, by kernel_rfl⟩
theorem caseA_21 : CaseA 21 := ⟨by kernel_rfl, by kernel_rfl, by kernel_rfl⟩
theorem caseA_22 : CaseA 22 := ⟨by kernel_rfl, by kernel_rfl, by kernel_rfl⟩
theorem caseA_23 : CaseA 23 := ⟨by kernel_rfl, by kernel_rfl, by kernel_rfl⟩
theorem caseA_24 : CaseA 24 := ⟨by kernel_rfl, by kernel_rfl, by kernel_rfl⟩
theorem caseA_25 : CaseA 25 := ⟨by kernel_rfl, by kernel_rfl, by kernel_rfl⟩
theorem caseA_26 : CaseA 26 := ⟨by kernel_rfl, by kernel_rfl, by kernel_rfl⟩
theorem caseA_27 : CaseA 27 := ⟨by kernel_rfl, by kernel_rfl, by kernel_rfl⟩
theorem caseA_28 : CaseA 28 := ⟨by kernel_rfl, by kernel_rfl, by kernel_rfl⟩
theorem caseA_29 : CaseA 29 := ⟨by kernel_rfl, by kernel_rfl, by kernel_rfl⟩
theorem caseA_30 : CaseA 30 := ⟨by kernel_rfl, by kernel_rfl, by kernel_rfl⟩
theorem caseA_31 : CaseA 31 := ⟨by kernel_rfl, by kernel_rfl, by kernel_rfl⟩
theorem caseA_32 : CaseA 32 := ⟨by kernel_rfl, by kernel_rfl, by kernel_rfl⟩
theorem caseA_33 : CaseA 33 := ⟨by kernel_rfl, by kernel_rfl, by kernel_rfl⟩
theorem caseA_34 : CaseA 34 := ⟨by kernel_rfl, by kernel_rfl, by kernel_rfl⟩
theorem caseA_35 : CaseA 35 := ⟨by kernel_rfl, by kernel_rfl, by kernel_rfl⟩
theorem caseA_36 : CaseA 36 := ⟨by kernel_rfl, by kernel_rfl, by kernel_rfl⟩
theorem caseA_37 : CaseA 37 := ⟨by kernel_rfl, by kernel_rfl, by kernel_rfl⟩
theorem caseA_38 : CaseA 38 := ⟨by kernel_rfl, by kernel_rfl, by kernel_rfl⟩
theorem caseA_39 : CaseA 39 := ⟨by kernel_rfl, by kernel_rfl, by kernel_rfl⟩
theorem caseA_40 : CaseA 40 := ⟨by kernel_rfl, by kernel_rfl, by kernel_rfl⟩
theorem caseA_41 : CaseA 41 := ⟨by kernel_rfl, by kernel_rfl, by kernel_rfl⟩
theorem caseA_42 : CaseA 42 := ⟨by kernel_rfl, by kernel_rfl, by kernel_rfl⟩
theorem caseA_43 : CaseA 43 := ⟨by kernel_rfl, by kernel_rfl, by kernel_rfl⟩
theorem caseA_44 : CaseA 44 := ⟨by kernel_rfl, by kernel_rfl, by kernel_rfl⟩
theorem caseA_45 : CaseA 45 := ⟨by kernel_rfl, by kernel_rfl, by kernel_rfl⟩
theorem caseA_46 : CaseA 46 := ⟨by kernel_rfl, by kernel_rfl, by kernel_rfl⟩
theorem caseA_47 : CaseA 47 := ⟨by kernel_rfl, by kernel_rfl, by kernel_rfl⟩
theorem caseA_48 : CaseA 48 := ⟨by kernel_rfl, by kernel_rfl, by kernel_rfl⟩
theorem caseA_49 : CaseA 49 := ⟨by kernel_rfl, by kernel_rfl, by kernel_rfl⟩
theorem caseA_50 : CaseA 50 := ⟨by kernel_rfl, by kernel_rfl, by kernel_rfl⟩
theorem caseA_51 : CaseA 51 := ⟨by kernel_rfl, by kernel_rfl, by kernel_rfl⟩
theorem caseA_52 : CaseA 52 := ⟨by kernel_rfl, by kernel_rfl, by kernel_rfl⟩
theorem caseA_53 : CaseA 53 := ⟨by kernel_rfl, by kernel_rfl, by kernel_rfl⟩
theorem caseA_54 : CaseA 54 := ⟨by kernel_rfl, by kernel_rfl, by kernel_rfl⟩
theorem caseA_55 : CaseA 55 := ⟨by kernel_rfl, by kernel_rfl, by kernel_rfl⟩
theorem caseA_56 : CaseA 56 := ⟨by kernel_rfl, by kernel_rfl, by kernel_rfl⟩
theorem caseA_57 : CaseA 57 := ⟨by kernel_rfl, by kernel_rfl, by kernel_rfl⟩
theorem caseA_58 : CaseA 58 := ⟨by kernel_rfl, by kernel_rfl, by kernel_rfl⟩
theorem caseA_59 : CaseA 59 := ⟨by kernel_rfl, by kernel_rfl, by kernel_rfl⟩
theorem caseA_60 : CaseA 60 := ⟨by kernel_rfl, by kernel_rfl, by kernel_rfl⟩
theorem caseA_61 : CaseA 61 := ⟨by kernel_rfl, by kernel_rfl, by kernel_rfl⟩
theorem caseA_62 : CaseA 62 := ⟨by kernel_rfl, by kernel_rfl, by kernel_rfl⟩
theorem caseA_63 : CaseA 63 := ⟨by kernel_rfl, by kernel_rfl, by kernel_rfl⟩
theorem caseA_64 : CaseA 64 := ⟨by kernel_rfl, by kernel_rfl, by kernel_rfl⟩
theorem caseB_1 : CaseB 1 := ⟨by kernel_rfl, by kernel_rfl, by kernel_rfl, by kernel_rfl, by kernel_rfl⟩
theorem caseB_2 : CaseB 2 := ⟨by kernel_rfl, by kernel_rfl, by kernel_rfl, by kernel_rfl, by kernel_rfl⟩
theorem caseB_3 : CaseB 3 := ⟨by kernel_rfl, by kernel_rfl, by kernel_rfl, by kernel_rfl, by kernel_rfl⟩
theorem caseB_4 : CaseB 4 := ⟨by kernel_rfl, by kernel_rfl, by kernel_rfl, by kernel_rfl, by kernel_rfl⟩
theorem caseB_5 : CaseB 5 := ⟨by kernel_rfl, by kernel_rfl, by kernel_rfl, by kernel_rfl, by kernel_rfl⟩
theorem caseB_6 : CaseB 6 := ⟨by kernel_rfl, by kernel_rfl, by kernel_rfl, by kernel_rfl, by kernel_rfl⟩
theorem caseB_7 : CaseB 7 := ⟨by kernel_rfl, by kernel_rfl, by kernel_rfl, by kernel_rfl, by kernel_rfl⟩
theorem caseB_8 : CaseB 8 := ⟨by kernel_rfl, by kernel_rfl, by kernel_rfl, by kernel_rfl, by kernel_rfl⟩
theorem caseA : ∀ k : Nat, 1 ≤ k → k ≤ 64 → CaseA k
 | 0, h, _ => absurd h (by decide)
 | 1, _, _ => caseA_1
 | 2, _, _ => caseA_2
 | 3, _, _ => caseA_3
 | 4, _, _ => caseA_4
 | 5, _, _ => caseA_5
 | 6, _, _ => caseA_6
 | 7, _, _ => caseA_7
 | 8, _, _ => caseA_8
 | 9, _, _ => caseA_9
 | 10, _, _ => caseA_10
 | 11, _, _ => caseA_11
 | 12, _, _ => caseA_12
 | 13, _, _ => caseA_13
 | 14, _, _ => caseA_14
 | 15, _, _ => caseA_15
 | 16, _, _ => caseA_16
 | 17, _, _ => caseA_17
 | 18, _, _ => caseA_18
 | 19, _, _ => caseA_19
 | 20, _, _ => caseA_20
 | 21, _, _ => caseA_21
 | 22, _, _ => caseA_22
 | 23, _, _ => caseA_23
 | 24, _, _ => caseA_24
 | 25, _, _ => caseA_25
 | 26, _, _ => caseA_26
 | 27, _, _ => caseA_27
 | 28, _, _ => caseA_28
 | 29, _, _ => caseA_29
 | 30, _, _ => caseA_30
 | 31, _, _ => caseA_31
 | 32, _, _ => caseA_32
 | 33, _, _ => caseA_33
 | 34, _, _ => caseA_34
 | 35, _, _ => caseA_35
 | 36, _, _ => caseA_36
 | 37, _, _ => caseA_37
 | 38, _, _ => caseA_38
 | 39, _, _ => caseA_39
 | 40, _, _ => caseA_40
 | 41, _, _ => caseA_41
 | 42, _, _ => caseA_42
 | 43, _, _ => caseA_43
 | 44, _, _ => caseA_44
 | 45, _, _ => caseA_45
 | 46, _, _ => caseA_46
 | 47, _, _ => caseA_47
 | 48, _, _ => caseA_48
 | 49, _, _ => caseA_49
 | 50, _, _ => caseA_50
 | 51, _, _ => caseA_51
 | 52, _, _ => caseA_52
 | 53, _, _ => caseA_53
 | 54, _, _ => caseA_54
 | 55, _, _ => caseA_55
 | 56, _, _ => caseA_56
 | 57, _, _ => caseA_57
 | 58, _, _ => caseA_58
 | 59, _, _ => caseA_59
 | 60, _, _ => caseA_60
 | 61, _, _ => caseA_61
 | 62, _, _ => caseA_62
 | 63, _, _ => caseA_63
 | 64, _, _ => caseA_64
 | n + 65, _, h => absurd h (by omega)
theorem caseB : ∀ d : Nat, 1 ≤ d → d ≤ 8 → CaseB d
 | 0, h, _ => absurd h (by decide)
 | 1, _, _ => caseB_1
 | 2, _, _ => caseB_2
 | 3, _, _ => caseB_3
 | 4, _, _ => caseB_4
 | 5, _, _ => caseB_5
 | 6, _, _ => caseB_6
 | 7, _, _ => caseB_7
 | 8, _, _ => caseB_8
 | n + 9, _, h => absurd h (by omega)
end Go.Proofs.YtdegdoilpamjjaaDoor
