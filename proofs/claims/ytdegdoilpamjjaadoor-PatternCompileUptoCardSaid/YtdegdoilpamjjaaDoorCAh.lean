/- Plain: how far the reader's functions go, and the groups they count. No program in sight. Plain: all five of the reader's functions go on, and count no more than nine groups. No program in sight. Plain: what nodes the reader makes (no empty choice, bounds of lists and numbers). No program in sight. Contracts: compile of a row of sets, of a choice of one row. Condition: no more than 100000 acts. Plain: how many acts a node comes to, how deep it is; ways while they are written. No program in sight. Plain: programs whose jumps stay within, the marks of the runner. No program in sight. -/
import Derived.Test.YtdegdoilpamjjaaDoorCAf
import Derived.Test.YtdegdoilpamjjaaDoorCAa
namespace Go.Proofs.YtdegdoilpamjjaaDoor
def GoOn {α : Type} (k : Nat) (s : RS) (r : RR α) : Prop := ∀ x s1, r = .ok (x, s1) → s.at' + k ≤ s1.at' ∧ (s.groups ≤ 9 → s1.groups ≤ 9)
theorem GoOn.err {α : Type} (k : Nat) (s : RS) (e : Nat) : GoOn (α := α) k s (.error e) := fun x s1 h => by cases h
theorem GoOn.ok {α : Type} {k : Nat} {s s1 : RS} (x : α) (h : s.at' + k ≤ s1.at') (hg : s.groups ≤ 9 → s1.groups ≤ 9) : GoOn k s (.ok (x, s1)) := fun y s2 e => by
 injection e with e
 injection e with _ e
 subst e
 exact ⟨h, hg⟩
theorem GoOn.from {α : Type} {k j : Nat} {s s1 : RS} {r : RR α} (h : GoOn k s1 r) (hs : s.at' + j ≤ s1.at' + k) (hg : s.groups ≤ 9 → s1.groups ≤ 9) : GoOn j s r := fun x s2 e => ⟨by have := (h x s2 e).1; omega, fun h9 => (h x s2 e).2 (hg h9)⟩
theorem numR_on {src : List Int} : ∀ (f : Nat) (v : Int) (s : RS), GoOn 0 s (numR src f v s)
 | 0, v, s => .ok _ (Nat.le_refl _) id
 | f + 1, v, s => by
  unfold numR
  split
  ·
   split
   · exact .err _ _ _
   · exact (numR_on f _ _).from (by show _ ≤ s.at' + 1 + 0; omega) id
  · exact .ok _ (Nat.le_refl _) id
theorem nx_on {src : List Int} (s : RS) : GoOn 1 s (nx src s) := fun x s1 h => by
 obtain ⟨h1, h2⟩ := nx_more h
 exact ⟨by omega, fun h => by rw [h2]; exact h⟩
theorem hexP_on {src : List Int} {top : Int} (i : Nat) (v : Int) (s : RS) : GoOn 0 s (hexP src top i v s) := fun x s1 h => by
 obtain ⟨h1, h2⟩ := hexP_more i v s s1 x h
 exact ⟨by omega, fun h => by rw [h2]; exact h⟩
theorem sign_on {src : List Int} (s : RS) : GoOn 1 s (signP src s) := fun x s1 h => by
 obtain ⟨h1, h2⟩ := sign_more h
 exact ⟨by omega, fun h => by rw [h2]; exact h⟩
theorem braces_on {src : List Int} (x : Nd) (s : RS) : GoOn 0 s (bracesP src x s) := by
 unfold bracesP
 simp only
 have h1 := numR_on (src := src) (src.length + 1) (-1) (if decide (pk src s.at' 0 = 45) = true then { s with at' := s.at' + 1 } else s)
 unfold numP'
 split
 · exact .err _ _ _
 ·
  rename_i least s1 e1
  obtain ⟨a1, g1⟩ := h1 _ _ e1
  have a1' : s.at' ≤ s1.at' := by split at a1 <;> (try simp only at a1) <;> omega
  have g1' : s.groups ≤ 9 → s1.groups ≤ 9 := fun h => g1 (by split <;> exact h)
  split
  · exact .err _ _ _
  ·
   rename_i most s2 e2
   have h2 : s1.at' ≤ s2.at' ∧ (s1.groups ≤ 9 → s2.groups ≤ 9) := by
    split at e2
    ·
     obtain ⟨a2, g2⟩ := numR_on (src := src) (src.length + 1) (-1) { s1 with at' := s1.at' + 1 } _ _ e2
     exact ⟨by have h : s1.at' + 1 + 0 ≤ s2.at' := a2; omega, g2⟩
    ·
     injection e2 with e2
     injection e2 with _ e2
     subst e2
     exact ⟨Nat.le_refl _, id⟩
   split
   · exact .err _ _ _
   ·
    rename_i c s3 e3
    obtain ⟨a3, g3⟩ := nx_on s2 _ _ e3
    split
    · exact .err _ _ _
    · exact .ok _ (by omega) (fun h => g3 (h2.2 (g1' h)))
theorem times_on {src : List Int} (x : Nd) (s : RS) : GoOn 0 s (timesP src x s) := by
 unfold timesP
 split
 · exact .ok _ (by show _ ≤ s.at' + 1; omega) id
 ·
  split
  · exact .ok _ (by show _ ≤ s.at' + 2; omega) id
  ·
   split
   · exact .ok _ (by show _ ≤ s.at' + 2; omega) id
   ·
    split
    · exact (braces_on x _).from (by show _ ≤ s.at' + 2 + 0; omega) id
    · exact .ok _ (Nat.le_refl _) id
theorem classR_on {src : List Int} : ∀ (f : Nat) (first : Bool) (rs : List (Int × Int)) (ks : List Int) (s : RS), GoOn 0 s (classR src f first rs ks s)
 | 0, _, _, _, _ => by rw [classR]; exact .ok _ (Nat.le_refl _) id
 | f + 1, first, rs, ks, s => by
  rw [classR]
  split
  · exact .ok _ (by show _ ≤ s.at' + 1; omega) id
  ·
   split
   · exact .err _ _ _
   ·
    rename_i e1
    obtain ⟨a1, g1⟩ := sign_on s _ _ e1
    exact (classR_on f _ _ _ _).from (by omega) g1
   ·
    rename_i s1 e1
    obtain ⟨a1, g1⟩ := sign_on s _ _ e1
    split
    ·
     split
     · exact .err _ _ _
     · exact .err _ _ _
     ·
      rename_i hi s2 e2
      obtain ⟨a2, g2⟩ := sign_on _ _ _ e2
      have a2' : s1.at' + 1 + 1 ≤ s2.at' := a2
      have g2' : s1.groups ≤ 9 → s2.groups ≤ 9 := g2
      split
      · exact (classR_on f _ _ _ _).from (by omega) (fun h => g2' (g1 h))
      ·
       split
       · exact (classR_on f _ _ _ _).from (by omega) (fun h => g2' (g1 h))
       · exact .err _ _ _
    · exact (classR_on f _ _ _ _).from (by omega) g1
theorem class_on {src : List Int} (fold : Bool) (s : RS) : GoOn 0 s (classP src fold s) := by
 unfold classP
 simp only
 have h1 := classR_on (src := src) (src.length + 2) true [] [] (if decide (pk src s.at' 0 = 94) = true then { s with at' := s.at' + 1 } else s)
 split
 · exact .err _ _ _
 ·
  rename_i s1 e1
  obtain ⟨a1, g1⟩ := h1 _ _ e1
  refine .ok _ ?_ (fun h => g1 (by split <;> exact h))
  split at a1 <;> (try simp only at a1) <;> omega
end Go.Proofs.YtdegdoilpamjjaaDoor
namespace Go.Proofs.YtdegdoilpamjjaaDoor
theorem reader_on (src : List Int) (fold : Bool) : ∀ f : Nat, (∀ s, GoOn 1 s (thingP src fold f s)) ∧ (∀ s, GoOn 1 s (memP src fold f s)) ∧ (∀ k s, GoOn 0 s (insP src fold f k s)) ∧
  (∀ acc s, GoOn 0 s (memsP src fold f acc s)) ∧ (∀ acc s, GoOn 0 s (patP src fold f acc s))
 | 0 => ⟨fun s => by rw [thingP]; exact .err _ _ _, fun s => by rw [memP]; exact .err _ _ _, fun k s => by rw [insP]; exact .err _ _ _, fun acc s => by rw [memsP]; exact .err _ _ _, fun acc s => by rw [patP]; exact .err _ _ _⟩
 | f + 1 => by
  obtain ⟨ht, hm, hi, hs, hp⟩ := reader_on src fold f
  have hex : ∀ (s s2 : RS) (top : Int) (i : Nat) (g : Int → Int), s.at' + 1 ≤ s2.at' → (s.groups ≤ 9 → s2.groups ≤ 9) → GoOn 1 s (match hexP src top i 0 s2 with | .error e => .error e | .ok (v, s3) => .ok (oneN fold (g v), s3)) := by
   intro s s2 top i g h1 h2
   rcases hx : hexP src top i 0 s2 with e | ⟨v, s3⟩
   · exact .err _ _ _
   ·
    obtain ⟨a3, g3⟩ := hexP_on i 0 s2 _ _ hx
    exact .ok _ (by omega) (fun h => g3 (h2 h))
  refine ⟨fun s => ?_, fun s => ?_, fun k s => ?_, fun acc s => ?_, fun acc s => ?_⟩
  ·
   rw [thingP]
   rcases hnx : nx src s with e | ⟨c, s1⟩
   · exact .err _ _ _
   obtain ⟨a1, g1⟩ := nx_on s _ _ hnx
   show GoOn 1 s (if c = 42 then _ else _)
   by_cases h42 : c = 42
   · rw [if_pos h42]; exact .err _ _ _
   rw [if_neg h42]
   by_cases h46 : c = 46
   · rw [if_pos h46]; exact .ok _ a1 g1
   rw [if_neg h46]
   by_cases h91 : c = 91
   · rw [if_pos h91]; exact (class_on fold s1).from (by omega) g1
   rw [if_neg h91]
   by_cases h92 : c ≠ 92
   · rw [if_pos h92]; exact .ok _ a1 g1
   rw [if_neg h92]
   rcases hnx2 : nx src s1 with e | ⟨c2, s2⟩
   · exact .err _ _ _
   obtain ⟨a2, g2⟩ := nx_on s1 _ _ hnx2
   have g12 : s.groups ≤ 9 → s2.groups ≤ 9 := fun h => g2 (g1 h)
   have a12 : s.at' + 1 ≤ s2.at' := by omega
   show GoOn 1 s (if c2 = 40 then _ else _)
   by_cases k40 : c2 = 40
   ·
    rw [if_pos k40]
    by_cases hg : s2.groups = 9
    · rw [if_pos hg]; exact .err _ _ _
    ·
     rw [if_neg hg]
     exact (hi _ { s2 with groups := s2.groups + 1 }).from (by show _ ≤ s2.at' + 0; omega) (fun h => by have := g12 h; show s2.groups + 1 ≤ 9; omega)
   rw [if_neg k40]
   by_cases k1 : c2 = 100 ∨ c2 = 115 ∨ c2 = 119 ∨ c2 = 108 ∨ c2 = 117
   · rw [if_pos k1]; exact .ok _ a12 g12
   rw [if_neg k1]
   by_cases k2 : c2 = 68 ∨ c2 = 83 ∨ c2 = 87
   · rw [if_pos k2]; exact .ok _ a12 g12
   rw [if_neg k2]
   by_cases k3 : c2 = 116
   · rw [if_pos k3]; exact .ok _ a12 g12
   rw [if_neg k3]
   by_cases k4 : c2 = 101
   · rw [if_pos k4]; exact .ok _ a12 g12
   rw [if_neg k4]
   by_cases k5 : c2 = 120
   ·
    rw [if_pos k5]
    exact hex s s2 255 2 (fun v => -1 - v) a12 g12
   rw [if_neg k5]
   by_cases k6 : c2 = 37
   ·
    rw [if_pos k6]
    rcases hnx3 : nx src s2 with e | ⟨c3, s3⟩
    · exact .err _ _ _
    obtain ⟨a3, g3⟩ := nx_on s2 _ _ hnx3
    have g13 : s.groups ≤ 9 → s3.groups ≤ 9 := fun h => g3 (g12 h)
    have a13 : s.at' + 1 ≤ s3.at' := by omega
    show GoOn 1 s (if c3 = 40 then _ else _)
    by_cases j1 : c3 = 40
    · rw [if_pos j1]; exact (hi 0 s3).from (by omega) g13
    rw [if_neg j1]
    by_cases j2 : c3 = 117
    · rw [if_pos j2]; exact hex s s3 65535 4 (fun v => v) a13 g13
    rw [if_neg j2]
    by_cases j3 : c3 = 85
    · rw [if_pos j3]; exact hex s s3 1114111 6 (fun v => v) a13 g13
    rw [if_neg j3]
    exact .err _ _ _
   rw [if_neg k6]
   by_cases k7 : c2 = 41 ∨ c2 = 124 ∨ c2 = 43 ∨ c2 = 63 ∨ c2 = 123 ∨ c2 = 60 ∨ c2 = 62
   · rw [if_pos k7]; exact .err _ _ _
   rw [if_neg k7]
   by_cases k8 : letP c2 = true
   · rw [if_pos k8]; exact .err _ _ _
   rw [if_neg k8]
   exact .ok _ a12 g12
  ·
   rw [memP]
   by_cases h1 : pk src s.at' 0 = 94 ∨ pk src s.at' 0 = 36
   · rw [if_pos h1]; exact .ok _ (Nat.le_refl _) id
   rw [if_neg h1]
   by_cases h2 : escB src s.at' 60 = true ∨ escB src s.at' 62 = true
   · rw [if_pos h2]; exact .ok _ (by show _ ≤ s.at' + 2; omega) id
   rw [if_neg h2]
   rcases hth : thingP src fold f s with e | ⟨x, s1⟩
   · exact .err _ _ _
   obtain ⟨a1, g1⟩ := ht s _ _ hth
   exact (times_on x s1).from (by omega) g1
  ·
   rw [insP]
   rcases hpp : patP src fold f [] s with e | ⟨x, s1⟩
   · exact .err _ _ _
   obtain ⟨a1, g1⟩ := hp [] s _ _ hpp
   show GoOn 0 s (if escB src s1.at' 41 = true then _ else _)
   by_cases h : escB src s1.at' 41 = true
   · rw [if_pos h]; exact .ok _ (by show _ ≤ s1.at' + 2; omega) g1
   · rw [if_neg h]; exact .err _ _ _
  ·
   rw [memsP]
   by_cases h : s.at' < src.length ∧ escB src s.at' 124 = false ∧ escB src s.at' 41 = false
   ·
    rw [if_pos h]
    rcases hmm : memP src fold f s with e | ⟨x, s1⟩
    · exact .err _ _ _
    obtain ⟨a1, g1⟩ := hm s _ _ hmm
    exact (hs _ s1).from (by omega) g1
   · rw [if_neg h]; exact .ok _ (Nat.le_refl _) id
  ·
   rw [patP]
   rcases hmm : memsP src fold f [] s with e | ⟨ms, s1⟩
   · exact .err _ _ _
   obtain ⟨a1, g1⟩ := hs [] s _ _ hmm
   show GoOn 0 s (if escB src s1.at' 124 = true then _ else _)
   by_cases h : escB src s1.at' 124 = true
   · rw [if_pos h]; exact (hp _ { s1 with at' := s1.at' + 2 }).from (by show _ ≤ s1.at' + 2 + 0; omega) g1
   · rw [if_neg h]; exact .ok _ a1 g1
end Go.Proofs.YtdegdoilpamjjaaDoor
namespace Go.Proofs.YtdegdoilpamjjaaDoor
def KindL (c : Int) : Prop := c = 100 ∨ c = 115 ∨ c = 119 ∨ c = 108 ∨ c = 117
inductive GoodN : Nd → Prop
 | set (r : List (Int × Int)) (k : List Int) (nt fd : Bool) (hr : r.length ≤ 1000000) (hk : k.length ≤ 1000000) (hl : ∀ c ∈ k, KindL c) : GoodN (.set r k nt fd)
 | edge (w : Int) (hw : w = 94 ∨ w = 36 ∨ w = 60 ∨ w = 62) : GoodN (.edge w)
 | row (l : List Nd) (hl : l.length ≤ 1000000) (h : ∀ m, m ∈ l → GoodN m) : GoodN (.row l)
 | choice (l : List Nd) (h0 : 0 < l.length) (hl : l.length ≤ 1000000) (h : ∀ m, m ∈ l → GoodN m) : GoodN (.choice l)
 | group (n : Nd) (k : Int) (h0 : 0 ≤ k) (h9 : k ≤ 9) (h : GoodN n) : GoodN (.group n k)
 | again (n : Nd) (least most : Int) (lz : Bool) (h0 : 0 ≤ least) (h1 : least ≤ 255) (h2 : -1 ≤ most) (h3 : most ≤ 255) (h4 : 0 ≤ most → least ≤ most) (h : GoodN n) : GoodN (.again n least most lz)
def GR (r : RR Nd) : Prop := ∀ x s1, r = .ok (x, s1) → GoodN x
theorem GR.err (e : Nat) : GR (.error e) := fun x s1 h => by cases h
theorem GR.ok {x : Nd} (s1 : RS) (h : GoodN x) : GR (.ok (x, s1)) := fun y s2 e => by
 injection e with e
 injection e with e _
 subst e
 exact h
theorem good_one (fold : Bool) (c : Int) : GoodN (oneN fold c) := .set _ _ _ _ (by simp) (by simp) (fun _ h => by cases h)
theorem numR_bd {src : List Int} : ∀ (f : Nat) (v : Int) (s : RS), -1 ≤ v → v ≤ 255 → ∀ x s1, numR src f v s = .ok (x, s1) → -1 ≤ x ∧ x ≤ 255
 | 0, v, s, h0, h1, x, s1, h => by
  rw [numR] at h
  injection h with h
  injection h with h _
  omega
 | f + 1, v, s, h0, h1, x, s1, h => by
  rw [numR] at h
  split at h
  ·
   split at h
   · cases h
   · exact numR_bd f _ _ (by omega) (by omega) x s1 h
  ·
   injection h with h
   injection h with h _
   omega
theorem braces_good {src : List Int} {n : Nd} (hn : GoodN n) (s : RS) : GR (bracesP src n s) := by
 unfold bracesP
 simp only
 split
 · exact .err _
 ·
  rename_i least s1 e1
  obtain ⟨a0, a1⟩ := numR_bd (src.length + 1) (-1) _ (by omega) (by omega) _ _ e1
  split
  · exact .err _
  ·
   rename_i most s2 e2
   have hm : -1 ≤ most ∧ most ≤ 255 := by
    split at e2
    · exact numR_bd (src.length + 1) (-1) _ (by omega) (by omega) _ _ e2
    ·
     injection e2 with e2
     injection e2 with e2 _
     omega
   split
   · exact .err _
   ·
    split
    · exact .err _
    ·
     rename_i hc
     refine .ok _ (.again _ _ _ _ (by omega) (by omega) hm.1 hm.2 (fun h => ?_) hn)
     have : ¬ (0 ≤ most ∧ most < least) := fun h => hc (.inr h)
     omega
theorem times_good {src : List Int} {n : Nd} (hn : GoodN n) (s : RS) : GR (timesP src n s) := by
 unfold timesP
 split
 · exact .ok _ (.again _ _ _ _ (by omega) (by omega) (by omega) (by omega) (by omega) hn)
 ·
  split
  · exact .ok _ (.again _ _ _ _ (by omega) (by omega) (by omega) (by omega) (by omega) hn)
  ·
   split
   · exact .ok _ (.again _ _ _ _ (by omega) (by omega) (by omega) (by omega) (by omega) hn)
   ·
    split
    · exact braces_good hn _
    · exact .ok _ hn
theorem sign_kind {src : List Int} (s : RS) (c k : Int) (s1 : RS) (h : signP src s = .ok ((c, some k), s1)) : KindL k := by
 unfold signP at h
 repeat' split at h
 all_goals first
  | (cases h; done)
  | (rename_i hk; cases h; exact hk)
theorem classR_good {src : List Int} : ∀ (f : Nat) (first : Bool) (rs : List (Int × Int)) (ks : List Int) (s : RS), (∀ c ∈ ks, KindL c) → ∀ a b s1, classR src f first rs ks s = .ok ((a, b), s1) → a.length ≤ rs.length + f ∧ b.length ≤ ks.length + f ∧ ∀ c ∈ b, KindL c
 | 0, first, rs, ks, s, hk, a, b, s1, h => by
  rw [classR] at h
  cases h
  exact ⟨Nat.le_refl _, Nat.le_refl _, hk⟩
 | f + 1, first, rs, ks, s, hk, a, b, s1, h => by
  rw [classR] at h
  have hr1 : ∀ (x : Int × Int), (rs ++ [x]).length = rs.length + 1 := fun x => by simp
  split at h
  ·
   cases h
   exact ⟨by omega, by omega, hk⟩
  ·
   split at h
   · cases h
   ·
    rename_i k s2 e1
    obtain ⟨h1, h2, h3⟩ := classR_good f _ _ _ _ (fun c hc => by
     rcases List.mem_append.mp hc with hc | hc
     · exact hk c hc
     · rw [List.mem_singleton] at hc; subst hc; exact sign_kind _ _ _ _ e1) a b s1 h
    rw [List.length_append, List.length_singleton] at h2
    exact ⟨by omega, by omega, h3⟩
   ·
    split at h
    ·
     split at h
     · cases h
     · cases h
     ·
      split at h
      ·
       obtain ⟨h1, h2, h3⟩ := classR_good f _ _ _ _ hk a b s1 h
       rw [hr1] at h1
       exact ⟨by omega, by omega, h3⟩
      ·
       split at h
       ·
        obtain ⟨h1, h2, h3⟩ := classR_good f _ _ _ _ hk a b s1 h
        rw [hr1] at h1
        exact ⟨by omega, by omega, h3⟩
       · cases h
    ·
     obtain ⟨h1, h2, h3⟩ := classR_good f _ _ _ _ hk a b s1 h
     rw [hr1] at h1
     exact ⟨by omega, by omega, h3⟩
theorem class_good {src : List Int} (hL : src.length ≤ 900000) (fold : Bool) (s : RS) : GR (classP src fold s) := by
 unfold classP
 simp only
 split
 · exact .err _
 ·
  rename_i rs ks s1 e1
  obtain ⟨h1, h2, h3⟩ := classR_good _ _ _ _ _ (fun c hc => by cases hc) _ _ _ e1
  simp only [List.length_nil] at h1 h2
  exact .ok _ (.set _ _ _ _ (by omega) (by omega) h3)
theorem esc_in {src : List Int} {at' : Nat} {c : Int} (h : escB src at' c = true) : at' + 1 < src.length ∧ srcAt src (at' + 1) = c := by
 unfold escB at h
 simp only [Bool.and_eq_true, decide_eq_true_eq] at h
 refine ⟨h.1.2, ?_⟩
 have := h.2
 unfold pk at this
 rw [if_pos h.1.2] at this
 exact this
theorem reader_good (src : List Int) (fold : Bool) (hL : src.length ≤ 900000) : ∀ f : Nat, (∀ s : RS, s.groups ≤ 9 → GR (thingP src fold f s)) ∧ (∀ s : RS, s.groups ≤ 9 → GR (memP src fold f s)) ∧ (∀ (k : Int) (s : RS), 0 ≤ k → k ≤ 9 → s.groups ≤ 9 → GR (insP src fold f k s)) ∧
  (∀ acc (s : RS), s.groups ≤ 9 → acc.length ≤ s.at' → acc.length ≤ src.length → (∀ m, m ∈ acc → GoodN m) → ∀ l s1, memsP src fold f acc s = .ok (l, s1) → l.length ≤ src.length ∧ ∀ m, m ∈ l → GoodN m) ∧
  (∀ acc (s : RS), s.groups ≤ 9 → acc.length ≤ s.at' → acc.length ≤ src.length → (∀ m, m ∈ acc → GoodN m) → GR (patP src fold f acc s))
 | 0 => ⟨fun s _ => by rw [thingP]; exact .err _, fun s _ => by rw [memP]; exact .err _, fun k s _ _ _ => by rw [insP]; exact .err _, fun acc s _ _ _ _ l s1 h => (by rw [memsP] at h; cases h), fun acc s _ _ _ _ => by rw [patP]; exact .err _⟩
 | f + 1 => by
  obtain ⟨ht, hm, hi, hs, hp⟩ := reader_good src fold hL f
  obtain ⟨ot, om, oi, os, op⟩ := reader_on src fold f
  have hex : ∀ (s2 : RS) (top : Int) (i : Nat) (g : Int → Int), GR (match hexP src top i 0 s2 with | .error e => .error e | .ok (v, s3) => .ok (oneN fold (g v), s3)) := by
   intro s2 top i g
   rcases hx : hexP src top i 0 s2 with e | ⟨v, s3⟩
   · exact .err _
   · exact .ok _ (good_one _ _)
  refine ⟨fun s hg => ?_, fun s hg => ?_, fun k s hk0 hk9 hg => ?_, fun acc s hg ha hl hacc l s1 h => ?_, fun acc s hg ha hl hacc => ?_⟩
  ·
   rw [thingP]
   rcases hnx : nx src s with e | ⟨c, s1⟩
   · exact .err _
   have g1 := (nx_on s _ _ hnx).2 hg
   show GR (if c = 42 then _ else _)
   by_cases h42 : c = 42
   · rw [if_pos h42]; exact .err _
   rw [if_neg h42]
   by_cases h46 : c = 46
   · rw [if_pos h46]; exact .ok _ (.set _ _ _ _ (by simp) (by simp) (fun _ h => by cases h))
   rw [if_neg h46]
   by_cases h91 : c = 91
   · rw [if_pos h91]; exact class_good hL fold s1
   rw [if_neg h91]
   by_cases h92 : c ≠ 92
   · rw [if_pos h92]; exact .ok _ (good_one _ _)
   rw [if_neg h92]
   rcases hnx2 : nx src s1 with e | ⟨c2, s2⟩
   · exact .err _
   have g2 := (nx_on s1 _ _ hnx2).2 g1
   show GR (if c2 = 40 then _ else _)
   by_cases k40 : c2 = 40
   ·
    rw [if_pos k40]
    by_cases hg9 : s2.groups = 9
    · rw [if_pos hg9]; exact .err _
    ·
     rw [if_neg hg9]
     exact hi _ { s2 with groups := s2.groups + 1 } (by omega) (by omega) (by show s2.groups + 1 ≤ 9; omega)
   rw [if_neg k40]
   by_cases k1 : c2 = 100 ∨ c2 = 115 ∨ c2 = 119 ∨ c2 = 108 ∨ c2 = 117
   · rw [if_pos k1]; exact .ok _ (.set _ _ _ _ (by simp) (by simp) (fun x h => by rw [List.mem_singleton] at h; subst h; exact k1))
   rw [if_neg k1]
   by_cases k2 : c2 = 68 ∨ c2 = 83 ∨ c2 = 87
   · rw [if_pos k2]; exact .ok _ (.set _ _ _ _ (by simp) (by simp) (fun x h => by rw [List.mem_singleton] at h; subst h; unfold KindL; omega))
   rw [if_neg k2]
   by_cases k3 : c2 = 116
   · rw [if_pos k3]; exact .ok _ (good_one _ _)
   rw [if_neg k3]
   by_cases k4 : c2 = 101
   · rw [if_pos k4]; exact .ok _ (good_one _ _)
   rw [if_neg k4]
   by_cases k5 : c2 = 120
   ·
    rw [if_pos k5]
    exact hex s2 255 2 (fun v => -1 - v)
   rw [if_neg k5]
   by_cases k6 : c2 = 37
   ·
    rw [if_pos k6]
    rcases hnx3 : nx src s2 with e | ⟨c3, s3⟩
    · exact .err _
    have g3 := (nx_on s2 _ _ hnx3).2 g2
    show GR (if c3 = 40 then _ else _)
    by_cases j1 : c3 = 40
    · rw [if_pos j1]; exact hi 0 s3 (by omega) (by omega) g3
    rw [if_neg j1]
    by_cases j2 : c3 = 117
    · rw [if_pos j2]; exact hex s3 65535 4 (fun v => v)
    rw [if_neg j2]
    by_cases j3 : c3 = 85
    · rw [if_pos j3]; exact hex s3 1114111 6 (fun v => v)
    rw [if_neg j3]
    exact .err _
   rw [if_neg k6]
   by_cases k7 : c2 = 41 ∨ c2 = 124 ∨ c2 = 43 ∨ c2 = 63 ∨ c2 = 123 ∨ c2 = 60 ∨ c2 = 62
   · rw [if_pos k7]; exact .err _
   rw [if_neg k7]
   by_cases k8 : letP c2 = true
   · rw [if_pos k8]; exact .err _
   rw [if_neg k8]
   exact .ok _ (good_one _ _)
  ·
   rw [memP]
   by_cases h1 : pk src s.at' 0 = 94 ∨ pk src s.at' 0 = 36
   · rw [if_pos h1]; exact .ok _ (.edge _ (by omega))
   rw [if_neg h1]
   by_cases h2 : escB src s.at' 60 = true ∨ escB src s.at' 62 = true
   ·
    rw [if_pos h2]
    refine .ok _ (.edge _ ?_)
    rcases h2 with h2 | h2
    · have := (esc_in h2).2; omega
    · have := (esc_in h2).2; omega
   rw [if_neg h2]
   rcases hth : thingP src fold f s with e | ⟨x, s1⟩
   · exact .err _
   exact times_good (ht s hg _ _ hth) s1
  ·
   rw [insP]
   rcases hpp : patP src fold f [] s with e | ⟨x, s1⟩
   · exact .err _
   have hx := hp [] s hg (Nat.zero_le _) (Nat.zero_le _) (fun m hm => by cases hm) _ _ hpp
   show GR (if escB src s1.at' 41 = true then _ else _)
   by_cases h : escB src s1.at' 41 = true
   · rw [if_pos h]; exact .ok _ (.group _ _ hk0 hk9 hx)
   · rw [if_neg h]; exact .err _
  ·
   rw [memsP] at h
   by_cases hc : s.at' < src.length ∧ escB src s.at' 124 = false ∧ escB src s.at' 41 = false
   ·
    rw [if_pos hc] at h
    rcases hmm : memP src fold f s with e | ⟨x, s2⟩
    · rw [hmm] at h; cases h
    obtain ⟨a1, g1⟩ := om s _ _ hmm
    rw [hmm] at h
    exact hs _ s2 (g1 hg) (by rw [List.length_append, List.length_singleton]; omega) (by rw [List.length_append, List.length_singleton]; omega) (fun m hm' => by
     rcases List.mem_append.mp hm' with hm' | hm'
     · exact hacc m hm'
     · rw [List.mem_singleton] at hm'; subst hm'; exact hm s hg _ _ hmm) l s1 h
   ·
    rw [if_neg hc] at h
    cases h
    exact ⟨hl, hacc⟩
  ·
   rw [patP]
   rcases hmm : memsP src fold f [] s with e | ⟨ms, s1⟩
   · exact .err _
   obtain ⟨a1, g1⟩ := os [] s _ _ hmm
   obtain ⟨hl1, hg1⟩ := hs [] s hg (Nat.zero_le _) (Nat.zero_le _) (fun m hm => by cases hm) _ _ hmm
   have hacc' : ∀ m, m ∈ acc ++ [.row ms] → GoodN m := fun m hm' => by
    rcases List.mem_append.mp hm' with hm' | hm'
    · exact hacc m hm'
    · rw [List.mem_singleton] at hm'; subst hm'; exact .row _ (by omega) hg1
   have hlen : (acc ++ [Nd.row ms]).length = acc.length + 1 := by simp
   show GR (if escB src s1.at' 124 = true then _ else _)
   by_cases h : escB src s1.at' 124 = true
   ·
    rw [if_pos h]
    have := (esc_in h).1
    exact hp _ { s1 with at' := s1.at' + 2 } (g1 hg) (by rw [hlen]; show acc.length + 1 ≤ s1.at' + 2; omega) (by rw [hlen]; omega) hacc'
   ·
    rw [if_neg h]
    exact .ok _ (.choice _ (by omega) (by omega) hacc')
end Go.Proofs.YtdegdoilpamjjaaDoor
namespace Go.Proofs.YtdegdoilpamjjaaDoor
open Go.RowKit
set_option linter.unusedVariables false
set_option linter.unusedSimpArgs false
theorem FrA.own {base b0 : Nat} {w w' : World} (h : FrA base w w') {size n : Nat} {v : Value} {xs : List Value} (ho : w.ownsRow b0 74 size v n xs) : w'.ownsRow b0 74 size v n xs :=
 own_kept ho fun b hb => by
  obtain ⟨cs, h1⟩ := own_type ho hb
  exact (h.oth _ _ _ h1 (by decide) (by decide)).trans h1.symm
end Go.Proofs.YtdegdoilpamjjaaDoor
namespace Go.Proofs.YtdegdoilpamjjaaDoor
set_option linter.unusedVariables false
def SzN (m : Nd) : Prop := 0 ≤ partsP m ∧ (partsP m ≤ 4096 → (sizeA m = 0 ∧ partsP m = 0) ∨ (sizeA m : Int) + 3 ≤ 768 * partsP m)
theorem total_sz : ∀ (l : List Nd) (t : Int), (∀ m ∈ l, SzN m) → 0 ≤ t → t ≤ 4097 →
  t ≤ totalP l t ∧ totalP l t ≤ 4097 ∧ (totalP l t ≤ 4096 → (sizeL l = 0 ∧ totalP l t = t) ∨ (sizeL l : Int) + 3 ≤ 768 * (totalP l t - t))
 | [], t, _, h0, h1 => by
  rw [totalP, sizeL]
  omega
 | n :: l, t, h, h0, h1 => by
  obtain ⟨a0, a1⟩ := h n (List.mem_cons_self ..)
  have hl : lidP (t + partsP n) = min (t + partsP n) 4097 := rfl
  obtain ⟨b0, b1, b2⟩ := total_sz l (lidP (t + partsP n)) (fun m hm => h m (List.mem_cons_of_mem _ hm)) (by omega) (by omega)
  rw [totalP, sizeL]
  refine ⟨by omega, b1, fun hb => ?_⟩
  have e : lidP (t + partsP n) = t + partsP n := by omega
  rw [e] at b0 b1 b2 hb ⊢
  rcases b2 hb with h2 | h2 <;> rcases a1 (by omega) with h3 | h3 <;> omega
theorem good_sz {n : Nd} (h : GoodN n) : SzN n := by
 induction h with
 | set => unfold SzN; rw [partsP, sizeA]; omega
 | edge => unfold SzN; rw [partsP, sizeA]; omega
 | row l hl h ih =>
  obtain ⟨b0, b1, b2⟩ := total_sz l 0 ih (by omega) (by omega)
  unfold SzN
  rw [partsP, sizeA]
  refine ⟨b0, fun hb => ?_⟩
  have := b2 hb
  omega
 | choice l h0 hl h ih =>
  obtain ⟨b0, b1, b2⟩ := total_sz l 0 ih (by omega) (by omega)
  unfold SzN
  rw [partsP, sizeA]
  unfold lidP
  refine ⟨by omega, fun hb => ?_⟩
  have := b2 (by omega)
  omega
 | group n k h0 h9 h ih =>
  obtain ⟨a0, a1⟩ := ih
  unfold SzN
  rw [partsP, sizeA]
  by_cases hk : k = 0
  ·
   subst hk
   simp only [if_pos, show ¬ ((0 : Int) < 0) from by omega, if_neg, not_false_eq_true]
   exact ⟨a0, a1⟩
  ·
   rw [if_neg hk, if_pos (by omega)]
   unfold lidP
   refine ⟨by omega, fun hb => ?_⟩
   have := a1 (by omega)
   omega
 | again n least most lz h0 h1 h2 h3 h4 h ih =>
  obtain ⟨a0, a1⟩ := ih
  unfold SzN
  rw [partsP, sizeA]
  unfold lidP timesN
  revert a0 a1
  generalize partsP n = p
  generalize sizeA n = s
  intro a0 a1
  obtain ⟨a, rfl⟩ : ∃ a : Nat, least = a := ⟨least.toNat, by omega⟩
  by_cases hm : most < 0
  ·
   simp only [if_pos hm, Int.toNat_natCast]
   have e1 : max ((a : Int) + 1) 1 = (a : Int) + 1 := by omega
   rw [e1]
   have e2 : ((a : Int) + 1) * p = a * p + p := by rw [Int.add_mul, Int.one_mul]
   have hap : 0 ≤ (a : Int) * p := Int.mul_nonneg (by omega) a0
   rw [e2]
   refine ⟨by omega, fun hb => ?_⟩
   rcases a1 (by omega) with ⟨rfl, rfl⟩ | h5
   · right; simp; omega
   ·
    right
    have h6 : (a : Int) * (s : Int) ≤ a * (768 * p) := Int.mul_le_mul_of_nonneg_left (by omega) (by omega)
    have e3 : (a : Int) * (768 * p) = 768 * (a * p) := by rw [← Int.mul_assoc, ← Int.mul_assoc, Int.mul_comm (a : Int) 768]
    have e4 : ((a * s : Nat) : Int) = (a : Int) * s := by simp
    omega
  ·
   obtain ⟨b, rfl⟩ : ∃ b : Nat, most = b := ⟨most.toNat, by omega⟩
   simp only [if_neg hm, Int.toNat_natCast]
   have hab : a ≤ b := by have := h4 (by omega); omega
   have e5 : ((b : Int) - (a : Int)).toNat = b - a := by omega
   rw [e5]
   obtain ⟨c, rfl⟩ : ∃ c, b = a + c := ⟨b - a, by omega⟩
   have e6 : a + c - a = c := by omega
   rw [e6]
   obtain ⟨q, hq⟩ : ∃ q, max ((a + c : Nat) : Int) 1 * p = q := ⟨_, rfl⟩
   have hq0 : 0 ≤ q := by rw [← hq]; exact Int.mul_nonneg (by omega) a0
   have hqp : p ≤ q := by
    have := Int.mul_le_mul_of_nonneg_right (show (1 : Int) ≤ max ((a + c : Nat) : Int) 1 from by omega) a0
    omega
   have hq1 : ((a : Int) + c) * p ≤ q := by
    rw [← hq]
    exact Int.mul_le_mul_of_nonneg_right (by omega) a0
   rw [hq]
   refine ⟨by omega, fun hb => ?_⟩
   have e4 : ((a * s + c * (s + 3) : Nat) : Int) = (a : Int) * s + c * ((s : Int) + 3) := by simp
   rcases a1 (by omega) with ⟨rfl, rfl⟩ | h5
   ·
    right
    simp only [Nat.mul_zero, Nat.zero_add]
    have e7 : ((c * 3 : Nat) : Int) = 3 * c := by omega
    omega
   ·
    right
    have h6 : (a : Int) * (s : Int) ≤ a * (768 * p) := Int.mul_le_mul_of_nonneg_left (by omega) (by omega)
    have h7 : (c : Int) * ((s : Int) + 3) ≤ c * (768 * p) := Int.mul_le_mul_of_nonneg_left (by omega) (by omega)
    have e3 : (a : Int) * (768 * p) + c * (768 * p) = 768 * (((a : Int) + c) * p) := by
     rw [← Int.add_mul, ← Int.mul_assoc, Int.mul_comm _ 768, Int.mul_assoc]
    omega
theorem size_bd {n : Nd} (h : GoodN n) (hp : partsP n ≤ 4096) : sizeA n ≤ 3145728 := by
 have := (good_sz h).2 hp
 omega
theorem deepL_le (d : Nat) : ∀ l : List Nd, d ≤ deepL d l
 | [] => by rw [deepL]; exact Nat.le_refl _
 | n :: l => by rw [deepL]; have := deepL_le d l; omega
theorem deep_list : ∀ (l : List Nd) (d : Nat) (t : Int), (∀ m ∈ l, 0 ≤ partsP m ∧ (partsP m ≤ 4096 → ∀ d, (deepA d m : Int) ≤ d + partsP m)) → 0 ≤ t → totalP l t ≤ 4096 → t ≤ totalP l t ∧ (deepL d l : Int) ≤ d + (totalP l t - t)
 | [], d, t, _, h0, hb => by rw [totalP, deepL]; omega
 | n :: l, d, t, h, h0, hb => by
  obtain ⟨a0, a1⟩ := h n (List.mem_cons_self ..)
  have hl : lidP (t + partsP n) = min (t + partsP n) 4097 := rfl
  rw [totalP] at hb ⊢
  obtain ⟨b0, b1⟩ := deep_list l d (lidP (t + partsP n)) (fun m hm => h m (List.mem_cons_of_mem _ hm)) (by omega) hb
  have e : lidP (t + partsP n) = t + partsP n := by omega
  rw [e] at b0 b1 hb ⊢
  have := a1 (by omega) d
  rw [deepL]
  omega
theorem deep_bd {n : Nd} (h : GoodN n) : 0 ≤ partsP n ∧ (partsP n ≤ 4096 → ∀ d : Nat, (deepA d n : Int) ≤ d + partsP n) := by
 refine ⟨(good_sz h).1, ?_⟩
 induction h with
 | set => intro hb d; rw [partsP, deepA]; omega
 | edge => intro hb d; rw [partsP, deepA]; omega
 | row l hl h ih =>
  intro hb d
  rw [partsP] at hb ⊢
  have := (deep_list l d 0 (fun m hm => ⟨(good_sz (h m hm)).1, ih m hm⟩) (by omega) hb).2
  rw [deepA]
  omega
 | choice l h0 hl h ih =>
  intro hb d
  rw [partsP] at hb ⊢
  unfold lidP at hb ⊢
  have := (deep_list l d 0 (fun m hm => ⟨(good_sz (h m hm)).1, ih m hm⟩) (by omega) (by omega)).2
  rw [deepA]
  omega
 | group n k h0 h9 h ih =>
  intro hb d
  have hn := (good_sz h).1
  rw [partsP] at hb ⊢
  rw [deepA]
  by_cases hk : k = 0
  ·
   simp only [if_pos hk] at hb ⊢
   exact ih hb d
  ·
   simp only [if_neg hk, lidP] at hb ⊢
   have := ih (by omega) d
   omega
 | again n least most lz h0 h1 h2 h3 h4 h ih =>
  intro hb d
  have hn := (good_sz h).1
  rw [partsP] at hb ⊢
  rw [deepA]
  unfold lidP at hb ⊢
  obtain ⟨q, hq⟩ : ∃ q, max (if most < 0 then least + 1 else most) 1 * partsP n = q := ⟨_, rfl⟩
  have hqp : partsP n ≤ q := by
   have := Int.mul_le_mul_of_nonneg_right (show (1 : Int) ≤ max (if most < 0 then least + 1 else most) 1 from by omega) hn
   omega
  rw [hq] at hb ⊢
  have hi := ih (by omega)
  have i1 := hi d
  have i2 := hi (d + 1)
  split <;> split <;> omega
theorem genR_len : ∀ (l : List Nd) (b : Nat), (∀ m ∈ l, ∀ b, (genA m b).length = sizeA m) → (genR l b).length = sizeL l
 | [], b, h => by rw [genR, sizeL]; rfl
 | n :: l, b, h => by
  rw [genR, sizeL, List.length_append, h n (List.mem_cons_self ..), genR_len l _ (fun m hm => h m (List.mem_cons_of_mem _ hm))]
theorem genC_len : ∀ (l : List Nd) (b e : Nat), (∀ m ∈ l, ∀ b, (genA m b).length = sizeA m) → (genC l b e).length = sizeL l + 2 * (l.length - 1)
 | [], b, e, h => by rw [genC, sizeL]; rfl
 | [n], b, e, h => by rw [genC, sizeL, sizeL, h n (List.mem_cons_self ..)]; rfl
 | n :: m :: l, b, e, h => by
  have := genC_len (m :: l) (b + sizeA n + 2) e (fun m hm => h m (List.mem_cons_of_mem _ hm))
  have h1 := h n (List.mem_cons_self ..) (b + 1)
  rw [genC, sizeL]
  ·
   simp only [List.length_cons, List.length_append] at this ⊢
   omega
  · intro h; cases h
theorem copies_len (g : Nat → List ActD) (sz : Nat) (h : ∀ b, (g b).length = sz) : ∀ k b, (copiesA g sz k b).length = k * sz
 | 0, b => by simp [copiesA]
 | k + 1, b => by rw [copiesA, List.length_append, h, copies_len g sz h k, Nat.add_mul, Nat.one_mul, Nat.add_comm]
theorem ways_len (g : Nat → List ActD) (sz : Nat) (lz : Bool) (out : Nat) (h : ∀ b, (g b).length = sz) : ∀ k b, (waysA g sz lz out k b).length = k * (sz + 3)
 | 0, b => by simp [waysA]
 | k + 1, b => by
  have := ways_len g sz lz out h k (b + sz + 3)
  have hb := h (b + 2)
  rw [waysA]
  simp only [List.length_cons, List.length_append]
  rw [Nat.add_mul]
  omega
theorem genA_len {n : Nd} (h : GoodN n) : ∀ b, (genA n b).length = sizeA n := by
 induction h with
 | set => intro b; rw [genA, sizeA]; rfl
 | edge => intro b; rw [genA, sizeA]; rfl
 | row l hl h ih => intro b; rw [genA, sizeA]; exact genR_len l b ih
 | choice l h0 hl h ih => intro b; rw [genA, sizeA]; exact genC_len l b _ ih
 | group n k h0 h9 h ih =>
  intro b
  rw [genA, sizeA]
  split
  · simp only [List.length_cons, List.length_append, List.length_nil, ih]
  · exact ih b
 | again n least most lz h0 h1 h2 h3 h4 h ih =>
  intro b
  rw [genA, sizeA]
  rw [List.length_append, copies_len _ _ ih]
  split
  ·
   rw [List.length_append, ways_len _ _ _ _ ih, List.length_singleton]
   omega
  · rw [ways_len _ _ _ _ ih]
theorem genR_snoc (n : Nd) : ∀ (l : List Nd) (b : Nat), genR (l ++ [n]) b = genR l b ++ genA n (b + sizeL l)
 | [], b => by simp [genR, sizeL]
 | m :: l, b => by
  rw [List.cons_append, genR, genR_snoc n l, genR, sizeL, List.append_assoc, Nat.add_assoc]
theorem sizeL_app : ∀ (l r : List Nd), sizeL (l ++ r) = sizeL l + sizeL r
 | [], r => by simp [sizeL]
 | m :: l, r => by rw [List.cons_append, sizeL, sizeL, sizeL_app l r, Nat.add_assoc]
theorem sizeL_one (n : Nd) : sizeL [n] = sizeA n := by simp [sizeL]
theorem deepL_snoc (d : Nat) (n : Nd) : ∀ (l : List Nd), deepL d (l ++ [n]) = max (deepL d l) (deepA d n)
 | [] => by simp [deepL, Nat.max_comm]
 | m :: l => by rw [List.cons_append, deepL, deepL_snoc d n l, deepL, Nat.max_assoc]
theorem le_deepA {n : Nd} (h : GoodN n) : ∀ d, d ≤ deepA d n := by
 induction h with
 | set => intro d; rw [deepA]; omega
 | edge => intro d; rw [deepA]; omega
 | row l hl h ih => intro d; rw [deepA]; exact deepL_le d l
 | choice l h0 hl h ih => intro d; rw [deepA]; exact deepL_le d l
 | group n k h0 h9 h ih => intro d; rw [deepA]; exact ih d
 | again n least most lz h0 h1 h2 h3 h4 h ih => intro d; rw [deepA]; omega
theorem deepL_mem (d : Nat) : ∀ (l : List Nd) (m : Nd), m ∈ l → deepA d m ≤ deepL d l
 | n :: l, m, h => by
  rw [deepL]
  rcases List.mem_cons.mp h with rfl | h
  · omega
  ·
   have := deepL_mem d l m h
   omega
theorem sizeL_take (l : List Nd) (k : Nat) (hk : k < l.length) : sizeL (l.take k) + sizeA l[k] ≤ sizeL l := by
 have h1 : sizeL (l.take (k + 1)) = sizeL (l.take k) + sizeA l[k] := by
  rw [List.take_succ_eq_append_getElem hk, sizeL_app, sizeL_one]
 have h2 : sizeL l = sizeL (l.take (k + 1)) + sizeL (l.drop (k + 1)) := by
  rw [← sizeL_app, List.take_append_drop]
 omega
def way1 (g : Nat → List ActD) (b : Nat) : List ActD := ⟨2, (b + 1 : Nat), -1, none⟩ :: ⟨4, 0, 0, none⟩ :: (g (b + 2) ++ [⟨5, 0, 0, none⟩])
def waysI (g : Nat → List ActD) (sz : Nat) : Nat → Nat → List ActD
 | 0, _ => []
 | k + 1, b => way1 g b ++ waysI g sz k (b + sz + 3)
def outsI (sz : Nat) : Nat → Nat → List Nat
 | 0, _ => []
 | k + 1, b => b :: outsI sz k (b + sz + 3)
theorem copies_snoc (g : Nat → List ActD) (sz : Nat) : ∀ k b, copiesA g sz (k + 1) b = copiesA g sz k b ++ g (b + k * sz)
 | 0, b => by simp [copiesA]
 | k + 1, b => by
  rw [copiesA, copies_snoc g sz k, copiesA, List.append_assoc]
  congr 3
  rw [Nat.add_mul]
  omega
theorem waysI_snoc (g : Nat → List ActD) (sz : Nat) : ∀ k b, waysI g sz (k + 1) b = waysI g sz k b ++ way1 g (b + k * (sz + 3))
 | 0, b => by simp [waysI]
 | k + 1, b => by
  rw [waysI, waysI_snoc g sz k, waysI, List.append_assoc]
  congr 3
  rw [Nat.add_mul]
  omega
theorem outsI_snoc (sz : Nat) : ∀ k b, outsI sz (k + 1) b = outsI sz k b ++ [b + k * (sz + 3)]
 | 0, b => by simp [outsI]
 | k + 1, b => by
  rw [outsI, outsI_snoc sz k, outsI, List.cons_append]
  congr 3
  rw [Nat.add_mul]
  omega
theorem outsI_len (sz : Nat) : ∀ k b, (outsI sz k b).length = k
 | 0, b => rfl
 | k + 1, b => by rw [outsI, List.length_cons, outsI_len sz k]
theorem outsI_at (sz : Nat) : ∀ k b i (hi : i < (outsI sz k b).length), (outsI sz k b)[i] = b + i * (sz + 3)
 | 0, b, i, hi => absurd hi (by simp [outsI])
 | k + 1, b, 0, hi => by simp [outsI]
 | k + 1, b, i + 1, hi => by
  have := outsI_at sz k (b + sz + 3) i (by simp [outsI] at hi; exact hi)
  have e : (outsI sz (k + 1) b)[i + 1] = (outsI sz k (b + sz + 3))[i]'(by simp [outsI] at hi; exact hi) := rfl
  rw [e, this, Nat.add_mul]
  omega
theorem way1_len (g : Nat → List ActD) (sz : Nat) (h : ∀ b, (g b).length = sz) (b : Nat) : (way1 g b).length = sz + 3 := by
 simp [way1, h]
theorem waysI_len (g : Nat → List ActD) (sz : Nat) (h : ∀ b, (g b).length = sz) : ∀ k b, (waysI g sz k b).length = k * (sz + 3)
 | 0, b => by simp [waysI]
 | k + 1, b => by rw [waysI, List.length_append, way1_len g sz h, waysI_len g sz h k, Nat.add_mul, Nat.one_mul, Nat.add_comm]
def patch1 (out : Int) (lz : Bool) (l : List ActD) (f : Nat) : List ActD :=
 l.modify f fun a => if lz then { a with x := out, y := a.x } else { a with y := out }
theorem patch1_len (out : Int) (lz : Bool) (l : List ActD) (f : Nat) : (patch1 out lz l f).length = l.length := by simp [patch1]
theorem patches_len (out : Int) (lz : Bool) : ∀ (fs : List Nat) (l : List ActD), (fs.foldl (patch1 out lz) l).length = l.length
 | [], l => rfl
 | f :: fs, l => by rw [List.foldl_cons, patches_len out lz fs, patch1_len]
theorem modify_mid {α : Type} (pre : List α) (a : α) (post : List α) (g : α → α) : (pre ++ a :: post).modify pre.length g = pre ++ g a :: post := by
 induction pre with
 | nil => simp [List.modify]
 | cons x pre ih =>
  show x :: (pre ++ a :: post).modify pre.length g = _
  rw [ih]
  rfl
theorem patch_ways (g : Nat → List ActD) (sz : Nat) (lz : Bool) (out : Nat) (h : ∀ b, (g b).length = sz) : ∀ k b (pre suf : List ActD), pre.length = b →
  (outsI sz k b).foldl (patch1 out lz) (pre ++ waysI g sz k b ++ suf) = pre ++ waysA g sz lz out k b ++ suf
 | 0, b, pre, suf, hp => by simp [outsI, waysI, waysA]
 | k + 1, b, pre, suf, hp => by
  subst hp
  rw [outsI, List.foldl_cons]
  have e1 : patch1 out lz (pre ++ waysI g sz (k + 1) pre.length ++ suf) pre.length =
    (pre ++ (if lz then ⟨2, out, (pre.length + 1 : Nat), none⟩ else ⟨2, (pre.length + 1 : Nat), out, none⟩) :: ⟨4, 0, 0, none⟩ :: (g (pre.length + 2) ++ [⟨5, 0, 0, none⟩])) ++ waysI g sz k (pre.length + sz + 3) ++ suf := by
   unfold patch1
   rw [waysI, way1]
   simp only [List.cons_append, List.append_assoc]
   rw [modify_mid]
  rw [e1, patch_ways g sz lz out h k (pre.length + sz + 3) _ suf (by simp [h]; omega), waysA]
  simp only [List.cons_append, List.append_assoc, List.nil_append]
def genK : List Nd → Nat → List ActD
 | [], _ => []
 | n :: l, b => ⟨2, (b + 1 : Nat), (b + sizeA n + 2 : Nat), none⟩ :: (genA n (b + 1) ++ ⟨2, 0, 0, none⟩ :: genK l (b + sizeA n + 2))
def endsK : List Nd → Nat → List Nat
 | [], _ => []
 | n :: l, b => (b + sizeA n + 1) :: endsK l (b + sizeA n + 2)
theorem genK_snoc (n : Nd) : ∀ (l : List Nd) (b : Nat), genK (l ++ [n]) b = genK l b ++ (⟨2, (b + (sizeL l + 2 * l.length) + 1 : Nat), (b + (sizeL l + 2 * l.length) + sizeA n + 2 : Nat), none⟩ :: (genA n (b + (sizeL l + 2 * l.length) + 1) ++ [⟨2, 0, 0, none⟩]))
 | [], b => by simp [genK, sizeL]
 | m :: l, b => by
  have e : b + sizeA m + 2 + (sizeL l + 2 * l.length) = b + (sizeL (m :: l) + 2 * (m :: l).length) := by rw [sizeL, List.length_cons]; omega
  rw [List.cons_append, genK, genK_snoc n l, genK, e]
  simp only [List.cons_append, List.append_assoc]
theorem endsK_snoc (n : Nd) : ∀ (l : List Nd) (b : Nat), endsK (l ++ [n]) b = endsK l b ++ [b + (sizeL l + 2 * l.length) + sizeA n + 1]
 | [], b => by simp [endsK, sizeL]
 | m :: l, b => by
  have e : b + sizeA m + 2 + (sizeL l + 2 * l.length) = b + (sizeL (m :: l) + 2 * (m :: l).length) := by rw [sizeL, List.length_cons]; omega
  rw [List.cons_append, endsK, endsK_snoc n l, endsK, e]
  simp only [List.cons_append]
theorem endsK_len : ∀ (l : List Nd) (b : Nat), (endsK l b).length = l.length
 | [], b => rfl
 | m :: l, b => by rw [endsK, List.length_cons, endsK_len l, List.length_cons]
theorem genK_len : ∀ (l : List Nd) (b : Nat), (∀ m ∈ l, ∀ b, (genA m b).length = sizeA m) → (genK l b).length = sizeL l + 2 * l.length
 | [], b, h => rfl
 | n :: l, b, h => by
  have h1 := h n (List.mem_cons_self ..) (b + 1)
  have h2 := genK_len l (b + sizeA n + 2) (fun m hm => h m (List.mem_cons_of_mem _ hm))
  rw [genK, sizeL]
  simp only [List.length_cons, List.length_append]
  omega
theorem endsK_lt : ∀ (l : List Nd) (b f : Nat), f ∈ endsK l b → f < b + (sizeL l + 2 * l.length)
 | [], b, f, h => by cases h
 | n :: l, b, f, h => by
  rw [endsK] at h
  rw [sizeL, List.length_cons]
  rcases List.mem_cons.mp h with rfl | h
  · omega
  ·
   have := endsK_lt l _ f h
   omega
def patchE (e : Int) (l : List ActD) (f : Nat) : List ActD := l.modify f fun a => { a with x := e, y := -1 }
theorem patchE_len (e : Int) (l : List ActD) (f : Nat) : (patchE e l f).length = l.length := by simp [patchE]
theorem patchEs_len (e : Int) : ∀ (fs : List Nat) (l : List ActD), (fs.foldl (patchE e) l).length = l.length
 | [], l => rfl
 | f :: fs, l => by rw [List.foldl_cons, patchEs_len e fs, patchE_len]
theorem genC_cons (m : Nd) (r : List Nd) (b e : Nat) (h : r ≠ []) : genC (m :: r) b e = ⟨2, (b + 1 : Nat), (b + sizeA m + 2 : Nat), none⟩ :: (genA m (b + 1) ++ ⟨2, e, -1, none⟩ :: genC r (b + sizeA m + 2) e) := by
 cases r with
 | nil => exact absurd rfl h
 | cons x r => rw [genC]; intro h; cases h
theorem patch_genC (e : Nat) (n : Nd) : ∀ (l : List Nd) (b : Nat) (pre : List ActD), pre.length = b → (∀ m ∈ l, ∀ b, (genA m b).length = sizeA m) →
  (endsK l b).foldl (patchE e) (pre ++ genK l b ++ genA n (b + (sizeL l + 2 * l.length))) = pre ++ genC (l ++ [n]) b e
 | [], b, pre, hp, h => by simp [endsK, genK, genC, sizeL]
 | m :: l, b, pre, hp, h => by
  subst hp
  have hm := h m (List.mem_cons_self ..) (pre.length + 1)
  have e0 : pre.length + (sizeL (m :: l) + 2 * (m :: l).length) = pre.length + sizeA m + 2 + (sizeL l + 2 * l.length) := by rw [sizeL, List.length_cons]; omega
  rw [endsK, List.foldl_cons, e0]
  have e1 : patchE e (pre ++ genK (m :: l) pre.length ++ genA n (pre.length + sizeA m + 2 + (sizeL l + 2 * l.length))) (pre.length + sizeA m + 1) =
    (pre ++ ⟨2, (pre.length + 1 : Nat), (pre.length + sizeA m + 2 : Nat), none⟩ :: (genA m (pre.length + 1) ++ [⟨2, e, -1, none⟩])) ++ genK l (pre.length + sizeA m + 2) ++ genA n (pre.length + sizeA m + 2 + (sizeL l + 2 * l.length)) := by
   unfold patchE
   have e2 : pre ++ genK (m :: l) pre.length ++ genA n (pre.length + sizeA m + 2 + (sizeL l + 2 * l.length)) = (pre ++ ⟨2, (pre.length + 1 : Nat), (pre.length + sizeA m + 2 : Nat), none⟩ :: genA m (pre.length + 1)) ++ ⟨2, 0, 0, none⟩ :: (genK l (pre.length + sizeA m + 2) ++ genA n (pre.length + sizeA m + 2 + (sizeL l + 2 * l.length))) := by
    rw [genK]
    simp only [List.cons_append, List.append_assoc]
   have e3 : pre.length + sizeA m + 1 = (pre ++ ⟨2, (pre.length + 1 : Nat), (pre.length + sizeA m + 2 : Nat), none⟩ :: genA m (pre.length + 1)).length := by
    simp only [List.length_append, List.length_cons]
    omega
   rw [e2, e3, modify_mid]
   simp only [List.cons_append, List.append_assoc, List.nil_append]
  rw [e1, patch_genC e n l (pre.length + sizeA m + 2) _ (by simp only [List.length_append, List.length_cons, List.length_nil]; omega) (fun m hm => h m (List.mem_cons_of_mem _ hm)), List.cons_append, genC_cons m (l ++ [n]) _ _ (by simp)]
  simp only [List.cons_append, List.append_assoc, List.nil_append]
end Go.Proofs.YtdegdoilpamjjaaDoor
namespace Go.Proofs.YtdegdoilpamjjaaDoor
set_option linter.unusedVariables false
def Tgt (acts : List ActD) (lv : Nat → Nat) (d : Nat) (t : Int) : Prop := t < 0 ∨ (0 ≤ t ∧ t.toNat < acts.length ∧ d ≤ lv t.toNat)
theorem Tgt.up {acts : List ActD} {lv : Nat → Nat} {d d' : Nat} {t : Int} (h : Tgt acts lv d t) (hd : d' ≤ d) : Tgt acts lv d' t := by
 rcases h with h | ⟨h1, h2, h3⟩
 · exact .inl h
 · exact .inr ⟨h1, h2, by omega⟩
structure WfA (acts : List ActD) (deep : Nat) (lv : Nat → Nat) : Prop where
 pos : 0 < acts.length
 lvb : ∀ i, i < acts.length → lv i ≤ deep
 kind : ∀ i (h : i < acts.length), 0 ≤ acts[i].kind ∧ acts[i].kind ≤ 6
 take : ∀ i (h : i < acts.length), acts[i].kind = 0 → i + 1 < acts.length ∧ ∃ s, acts[i].s = some s ∧ (∀ c ∈ s.kinds, KindL c) ∧ s.ranges.length ≤ 1000000 ∧ s.kinds.length ≤ 1000000
 none : ∀ i (h : i < acts.length), acts[i].kind ≠ 0 → acts[i].s = none
 stand : ∀ i (h : i < acts.length), acts[i].kind = 1 → Tgt acts lv (lv i) (i + 1 : Nat)
 fork : ∀ i (h : i < acts.length), acts[i].kind = 2 → Tgt acts lv (lv i) acts[i].x ∧ Tgt acts lv (lv i) acts[i].y
 note : ∀ i (h : i < acts.length), acts[i].kind = 3 → Tgt acts lv (lv i) (i + 1 : Nat)
 enter : ∀ i (h : i < acts.length), acts[i].kind = 4 → Tgt acts lv (lv i + 1) (i + 1 : Nat)
 check : ∀ i (h : i < acts.length), acts[i].kind = 5 → Tgt acts lv 0 (i + 1 : Nat)
def marksP (at' : Nat) (seen : Nat → Nat) : Nat → Nat
 | 0 => 0
 | n + 1 => marksP at' seen n + if seen n = at' + 1 then 0 else 1
theorem marksP_le (at' : Nat) (seen : Nat → Nat) : ∀ n, marksP at' seen n ≤ n
 | 0 => Nat.le_refl _
 | n + 1 => by have := marksP_le at' seen n; rw [marksP]; split <;> omega
theorem marksP_same (at' : Nat) (seen seen' : Nat → Nat) : ∀ n, (∀ i, i < n → seen' i = seen i) → marksP at' seen' n = marksP at' seen n
 | 0, _ => rfl
 | n + 1, h => by rw [marksP, marksP, marksP_same at' seen seen' n (fun i hi => h i (by omega)), h n (by omega)]
theorem marksP_set (at' : Nat) (seen : Nat → Nat) (k : Nat) (hk : seen k ≠ at' + 1) : ∀ n, k < n → marksP at' (fun i => if i = k then at' + 1 else seen i) n + 1 = marksP at' seen n
 | n + 1, h => by
  rw [marksP, marksP]
  by_cases e : n = k
  ·
   subst e
   rw [if_pos (by simp), if_neg hk, marksP_same at' seen _ n (fun i hi => by simp; omega)]
  ·
   have := marksP_set at' seen k hk n (by omega)
   simp only [if_neg e]
   omega
def GoodT (acts : List ActD) (lv : Nat → Nat) (t : ToD) : Prop := Tgt acts lv t.idle t.act
theorem goOnP_zero (acts : List ActD) (deep : Nat) (stand : Int → Bool) (at' : Nat) (fr : Int) (f : Nat) (t : ToD) (seen : Nat → Nat) (th : List ThD) (st : List ToD) (h : t.act < 0) : goOnP acts deep stand at' fr f t seen th st = (seen, th, st) := by
 cases f with
 | zero => rw [goOnP]
 | succ f => rw [goOnP, if_pos h]
theorem idx_lt {a n i d : Nat} (ha : a < n) (hi : i ≤ d) : a * (d + 1) + i < n * (d + 1) := by
 have := Nat.mul_le_mul_right (d + 1) (show a + 1 ≤ n from ha)
 rw [Nat.add_mul, Nat.one_mul] at this
 omega
def markS (at' k : Nat) (seen : Nat → Nat) : Nat → Nat := fun i => if i = k then at' + 1 else seen i
theorem goOn_eq (acts : List ActD) (deep : Nat) (stand : Int → Bool) (at' : Nat) (fr : Int) (f j id : Nat) (nts : List (Int × Int)) (seen : Nat → Nat) (th : List ThD) (st : List ToD) (hj : j < acts.length) :
  goOnP acts deep stand at' fr (f + 1) ⟨(j : Int), id, nts⟩ seen th st = if seen (j * (deep + 1) + id) = at' + 1 then (seen, th, st) else
   if acts[j].kind = 0 ∨ acts[j].kind = 6 then (markS at' (j * (deep + 1) + id) seen, th ++ [⟨j, fr, nts⟩], st)
   else if acts[j].kind = 1 then (if stand acts[j].x then goOnP acts deep stand at' fr f ⟨(j : Int) + 1, id, nts⟩ (markS at' (j * (deep + 1) + id) seen) th st else (markS at' (j * (deep + 1) + id) seen, th, st))
   else if acts[j].kind = 2 then goOnP acts deep stand at' fr f ⟨acts[j].x, id, nts⟩ (markS at' (j * (deep + 1) + id) seen) th (⟨acts[j].y, id, nts⟩ :: st)
   else if acts[j].kind = 3 then goOnP acts deep stand at' fr f ⟨(j : Int) + 1, id, (acts[j].x, (at' : Int)) :: nts⟩ (markS at' (j * (deep + 1) + id) seen) th st
   else if acts[j].kind = 4 then goOnP acts deep stand at' fr f ⟨(j : Int) + 1, id + 1, nts⟩ (markS at' (j * (deep + 1) + id) seen) th st
   else (if 0 < id then (markS at' (j * (deep + 1) + id) seen, th, st) else goOnP acts deep stand at' fr f ⟨(j : Int) + 1, id, nts⟩ (markS at' (j * (deep + 1) + id) seen) th st) := by
 rw [goOnP]
 have e : acts.getD j ⟨6, 0, 0, none⟩ = acts[j] := by simp [hj]
 simp only [Int.toNat_natCast, e]
 rw [if_neg (by omega)]
 rfl
end Go.Proofs.YtdegdoilpamjjaaDoor
