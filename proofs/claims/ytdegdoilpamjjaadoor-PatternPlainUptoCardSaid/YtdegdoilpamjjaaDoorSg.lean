/- Plain law: decision trees over one int as lists of stretches on which they stand still; tables of rows searched by halves. No condition. -/
import Derived.Test.YtdegdoilpamjjaaDoorDt
import Derived.Test.YtdegdoilpamjjaaDoorGa
namespace Go.Proofs.YtdegdoilpamjjaaDoor
def SV.toI : SV → Int
  | .int n => n
  | .bool .tt => 1
  | _ => 0
def DT.int (x : Int) : DT → Int
  | .ret v => v.toI
  | .ite b t e => if b.den x then t.int x else e.int x
  | .fail => 0
def DT.isI : DT → Bool
  | .ret (.int _) => true
  | .ite _ t e => t.isI && e.isI
  | _ => false
def DT.isB : DT → Bool
  | .ret (.bool .tt) => true
  | .ret (.bool .ff) => true
  | .ite _ t e => t.isB && e.isB
  | _ => false
theorem DT.den_int (x : Int) (d : DT) (h : d.isI = true) : d.den x = .int .i64 (d.int x) := by
  induction d with
  | ret v => cases v <;> simp [DT.isI, DT.den, DT.int, SV.den, SV.toI] at *
  | ite b t e iht ihe =>
    simp only [DT.isI, Bool.and_eq_true] at h
    simp only [DT.den, DT.int]
    split
    · exact iht h.1
    · exact ihe h.2
  | fail => simp [DT.isI] at h
theorem DT.den_bool (x : Int) (d : DT) (h : d.isB = true) : d.den x = .bool (decide (d.int x = 1)) := by
  induction d with
  | ret v =>
    cases v with
    | bool b => cases b <;> simp [DT.isB, DT.den, DT.int, SV.den, SV.toI, BE.den] at *
    | _ => simp [DT.isB] at h
  | ite b t e iht ihe =>
    simp only [DT.isB, Bool.and_eq_true] at h
    simp only [DT.den, DT.int]
    split
    · exact iht h.1
    · exact ihe h.2
  | fail => simp [DT.isB] at h

/-- the stretches of a test -/
def BE.split : BE → Int → Int → List (Int × Int × Bool)
  | .tt, l, h => [(l, h, true)]
  | .ff, l, h => [(l, h, false)]
  | .eq k, l, h => if k < l || h < k then [(l, h, false)] else (if l < k then [(l, k - 1, false)] else []) ++ (k, k, true) :: (if k < h then [(k + 1, h, false)] else [])
  | .ge k, l, h => if k ≤ l then [(l, h, true)] else if h < k then [(l, h, false)] else [(l, k - 1, false), (k, h, true)]
  | .le k, l, h => if h ≤ k then [(l, h, true)] else if k < l then [(l, h, false)] else [(l, k, true), (k + 1, h, false)]
  | .not a, l, h => (a.split l h).map fun p => (p.1, p.2.1, !p.2.2)
  | .and a b, l, h => (a.split l h).flatMap fun p => if p.2.2 then b.split p.1 p.2.1 else [p]
  | .or a b, l, h => (a.split l h).flatMap fun p => if p.2.2 then [p] else b.split p.1 p.2.1
theorem BE.split_ok (b : BE) : ∀ (l h x : Int), l ≤ x → x ≤ h → ∃ p ∈ b.split l h, p.1 ≤ x ∧ x ≤ p.2.1 ∧ p.2.2 = b.den x := by
  induction b with
  | tt => intro l h x h1 h2; exact ⟨_, List.mem_singleton.2 rfl, h1, h2, rfl⟩
  | ff => intro l h x h1 h2; exact ⟨_, List.mem_singleton.2 rfl, h1, h2, rfl⟩
  | eq k =>
    intro l h x h1 h2
    unfold BE.split
    split
    · rename_i hk
      simp at hk
      exact ⟨_, List.mem_singleton.2 rfl, h1, h2, by simp [BE.den]; omega⟩
    · rename_i hk
      simp at hk
      by_cases e : x = k
      · exact ⟨(k, k, true), by simp, by simp; omega, by simp; omega, by simp [BE.den, e]⟩
      · by_cases e2 : x < k
        · have : l < k := by omega
          exact ⟨(l, k - 1, false), by simp [this], by simp; omega, by simp; omega, by simp [BE.den, e]⟩
        · have : k < h := by omega
          exact ⟨(k + 1, h, false), by simp [this], by simp; omega, by simp; omega, by simp [BE.den, e]⟩
  | ge k =>
    intro l h x h1 h2
    unfold BE.split
    split
    · exact ⟨_, List.mem_singleton.2 rfl, h1, h2, by simp [BE.den]; omega⟩
    · split
      · exact ⟨_, List.mem_singleton.2 rfl, h1, h2, by simp [BE.den]; omega⟩
      · by_cases e : k ≤ x
        · exact ⟨(k, h, true), by simp, by simp; omega, by simp; omega, by simp [BE.den, e]⟩
        · exact ⟨(l, k - 1, false), by simp, by simp; omega, by simp; omega, by simp [BE.den, e]⟩
  | le k =>
    intro l h x h1 h2
    unfold BE.split
    split
    · exact ⟨_, List.mem_singleton.2 rfl, h1, h2, by simp [BE.den]; omega⟩
    · split
      · exact ⟨_, List.mem_singleton.2 rfl, h1, h2, by simp [BE.den]; omega⟩
      · by_cases e : x ≤ k
        · exact ⟨(l, k, true), by simp, by simp; omega, by simp; omega, by simp [BE.den, e]⟩
        · exact ⟨(k + 1, h, false), by simp, by simp; omega, by simp; omega, by simp [BE.den, e]⟩
  | not a ih =>
    intro l h x h1 h2
    obtain ⟨p, hp, q1, q2, q3⟩ := ih l h x h1 h2
    exact ⟨(p.1, p.2.1, !p.2.2), List.mem_map.2 ⟨p, hp, rfl⟩, q1, q2, by simp [BE.den, q3]⟩
  | and a b iha ihb =>
    intro l h x h1 h2
    obtain ⟨p, hp, q1, q2, q3⟩ := iha l h x h1 h2
    by_cases e : p.2.2 = true
    · obtain ⟨r, hr, s1, s2, s3⟩ := ihb p.1 p.2.1 x q1 q2
      exact ⟨r, List.mem_flatMap.2 ⟨p, hp, by rw [if_pos e]; exact hr⟩, s1, s2, by rw [s3]; simp [BE.den, ← q3, e]⟩
    · exact ⟨p, List.mem_flatMap.2 ⟨p, hp, by rw [if_neg e]; exact List.mem_singleton.2 rfl⟩, q1, q2, by simp at e; simp [BE.den, ← q3, e]⟩
  | or a b iha ihb =>
    intro l h x h1 h2
    obtain ⟨p, hp, q1, q2, q3⟩ := iha l h x h1 h2
    by_cases e : p.2.2 = true
    · exact ⟨p, List.mem_flatMap.2 ⟨p, hp, by rw [if_pos e]; exact List.mem_singleton.2 rfl⟩, q1, q2, by simp [BE.den, ← q3, e]⟩
    · obtain ⟨r, hr, s1, s2, s3⟩ := ihb p.1 p.2.1 x q1 q2
      exact ⟨r, List.mem_flatMap.2 ⟨p, hp, by rw [if_neg e]; exact hr⟩, s1, s2, by rw [s3]; simp at e; simp [BE.den, ← q3, e]⟩

/-- a check at each stretch of a tree, in continuation form -/
def DT.each : DT → Int → Int → (Int → Int → Int → Bool) → Bool
  | .ret v, l, h, k => k l h v.toI
  | .ite b t e, l, h, k => (b.split l h).all fun p => if p.2.2 then t.each p.1 p.2.1 k else e.each p.1 p.2.1 k
  | .fail, l, h, k => k l h 0
theorem DT.each_ok (d : DT) : ∀ (l h : Int) (k : Int → Int → Int → Bool), d.each l h k = true → ∀ x, l ≤ x → x ≤ h → ∃ l' h', l' ≤ x ∧ x ≤ h' ∧ k l' h' (d.int x) = true := by
  induction d with
  | ret v => intro l h k hk x h1 h2; exact ⟨l, h, h1, h2, hk⟩
  | ite b t e iht ihe =>
    intro l h k hk x h1 h2
    obtain ⟨p, hp, q1, q2, q3⟩ := b.split_ok l h x h1 h2
    simp only [DT.each, List.all_eq_true] at hk
    have := hk p hp
    simp only [DT.int, ← q3]
    split at this
    · rename_i hb; rw [if_pos hb]; exact iht _ _ _ this x q1 q2
    · rename_i hb; rw [if_neg hb]; exact ihe _ _ _ this x q1 q2
  | fail => intro l h k hk x h1 h2; exact ⟨l, h, h1, h2, hk⟩

/-- below (above) all its numbers a tree stands still -/
def BE.lowB (m : Int) : BE → Bool
  | .tt => true
  | .ff => true
  | .eq k => decide (m < k)
  | .ge k => decide (m < k)
  | .le k => decide (m ≤ k)
  | .not a => a.lowB m
  | .and a b => a.lowB m && b.lowB m
  | .or a b => a.lowB m && b.lowB m
def BE.highB (m : Int) : BE → Bool
  | .tt => true
  | .ff => true
  | .eq k => decide (k < m)
  | .ge k => decide (k ≤ m)
  | .le k => decide (k < m)
  | .not a => a.highB m
  | .and a b => a.highB m && b.highB m
  | .or a b => a.highB m && b.highB m
def DT.lowB (m : Int) : DT → Bool
  | .ite b t e => b.lowB m && t.lowB m && e.lowB m
  | _ => true
def DT.highB (m : Int) : DT → Bool
  | .ite b t e => b.highB m && t.highB m && e.highB m
  | _ => true
theorem BE.lowB_den {m x : Int} (hx : x ≤ m) (b : BE) (h : b.lowB m = true) : b.den x = b.den m := by
  induction b with
  | tt => rfl
  | ff => rfl
  | eq k => simp [BE.lowB] at h; simp only [BE.den]; rw [Bool.eq_iff_iff]; simp; omega
  | ge k => simp [BE.lowB] at h; simp only [BE.den]; rw [Bool.eq_iff_iff]; simp; omega
  | le k => simp [BE.lowB] at h; simp only [BE.den]; rw [Bool.eq_iff_iff]; simp; omega
  | not a ih => simp only [BE.den]; rw [ih h]
  | and a b iha ihb => simp only [BE.lowB, Bool.and_eq_true] at h; simp only [BE.den]; rw [iha h.1, ihb h.2]
  | or a b iha ihb => simp only [BE.lowB, Bool.and_eq_true] at h; simp only [BE.den]; rw [iha h.1, ihb h.2]
theorem BE.highB_den {m x : Int} (hx : m ≤ x) (b : BE) (h : b.highB m = true) : b.den x = b.den m := by
  induction b with
  | tt => rfl
  | ff => rfl
  | eq k => simp [BE.highB] at h; simp only [BE.den]; rw [Bool.eq_iff_iff]; simp; omega
  | ge k => simp [BE.highB] at h; simp only [BE.den]; rw [Bool.eq_iff_iff]; simp; omega
  | le k => simp [BE.highB] at h; simp only [BE.den]; rw [Bool.eq_iff_iff]; simp; omega
  | not a ih => simp only [BE.den]; rw [ih h]
  | and a b iha ihb => simp only [BE.highB, Bool.and_eq_true] at h; simp only [BE.den]; rw [iha h.1, ihb h.2]
  | or a b iha ihb => simp only [BE.highB, Bool.and_eq_true] at h; simp only [BE.den]; rw [iha h.1, ihb h.2]
theorem DT.lowB_int {m x : Int} (hx : x ≤ m) (d : DT) (h : d.lowB m = true) : d.int x = d.int m := by
  induction d with
  | ret v => rfl
  | ite b t e iht ihe => simp only [DT.lowB, Bool.and_eq_true] at h; simp only [DT.int]; rw [BE.lowB_den hx b h.1.1, iht h.1.2, ihe h.2]
  | fail => rfl
theorem DT.highB_int {m x : Int} (hx : m ≤ x) (d : DT) (h : d.highB m = true) : d.int x = d.int m := by
  induction d with
  | ret v => rfl
  | ite b t e iht ihe => simp only [DT.highB, Bool.and_eq_true] at h; simp only [DT.int]; rw [BE.highB_den hx b h.1.1, iht h.1.2, ihe h.2]
  | fail => rfl

/-- a table's rows -/
abbrev Row := Int × Int × Int
def rowsC : Nat → List UInt8 → List Row
  | 0, _ => []
  | n + 1, l => (hexN (l.take 5), hexN ((l.drop 5).take 5), hexN ((l.drop 10).take 1)) :: rowsC n (l.drop 11)
theorem rowsC_get : ∀ (n : Nat) (l : List UInt8) (m : Nat), m < n → (rowsC n l).getD m (0, 0, 0) = (rowFst l m, rowLst l m, rowNum l m) := by
  intro n
  induction n with
  | zero => intro l m h; omega
  | succ n ih =>
    intro l m h
    cases m with
    | zero => simp [rowsC, rowFst, rowLst, rowNum]
    | succ m =>
      have := ih (l.drop 11) m (by omega)
      simp only [rowsC, List.getD_cons_succ, this, rowFst, rowLst, rowNum, List.drop_drop]
      simp only [Nat.add_mul, Nat.add_comm, Nat.add_left_comm, Nat.one_mul]
def soughtR : Nat → List Row → Int → Nat → Nat → Int
  | 0, _, _, _, _ => 0
  | f + 1, t, a, lo, hi =>
    if lo < hi then
      if a < (t.getD ((lo + hi) / 2) (0, 0, 0)).1 then soughtR f t a lo ((lo + hi) / 2)
      else if (t.getD ((lo + hi) / 2) (0, 0, 0)).2.1 < a then soughtR f t a ((lo + hi) / 2 + 1) hi
      else (t.getD ((lo + hi) / 2) (0, 0, 0)).2.2
    else 0
theorem soughtF_rows (n : Nat) (l : List UInt8) (a : Int) : ∀ (f lo hi : Nat), hi ≤ n → soughtF f l a lo hi = soughtR f (rowsC n l) a lo hi := by
  intro f
  induction f with
  | zero => intro lo hi _; rfl
  | succ f ih =>
    intro lo hi h
    unfold soughtF soughtR
    by_cases hlt : lo < hi
    · rw [if_pos hlt, if_pos hlt, rowsC_get n l _ (by omega)]
      simp only
      rw [ih lo _ (by omega), ih _ hi h]
    · rw [if_neg hlt, if_neg hlt]
def soughtD : Nat → List Row → Nat → Nat → DT
  | 0, _, _, _ => .ret (.int 0)
  | f + 1, t, lo, hi =>
    if lo < hi then
      .ite (.le ((t.getD ((lo + hi) / 2) (0, 0, 0)).1 - 1)) (soughtD f t lo ((lo + hi) / 2))
        (.ite (.ge ((t.getD ((lo + hi) / 2) (0, 0, 0)).2.1 + 1)) (soughtD f t ((lo + hi) / 2 + 1) hi)
          (.ret (.int (t.getD ((lo + hi) / 2) (0, 0, 0)).2.2)))
    else .ret (.int 0)
theorem soughtD_int (t : List Row) (a : Int) : ∀ (f lo hi : Nat), (soughtD f t lo hi).int a = soughtR f t a lo hi := by
  intro f
  induction f with
  | zero => intro lo hi; rfl
  | succ f ih =>
    intro lo hi
    unfold soughtD soughtR
    by_cases hlt : lo < hi
    · rw [if_pos hlt, if_pos hlt]
      simp only [DT.int, BE.den, ih, decide_eq_true_eq, SV.toI]
      congr 1
      exact propext ⟨fun h => by omega, fun h => by omega⟩
    · rw [if_neg hlt, if_neg hlt]; rfl
/-- what a table says of a scalar -/
def sot (t : List Row) (a : Int) : Int := soughtR t.length t a 0 t.length
def sotD (t : List Row) : DT := soughtD t.length t 0 t.length
theorem sotD_int (t : List Row) (a : Int) : (sotD t).int a = sot t a := soughtD_int _ _ _ _ _
theorem soughtF_sot {n : Nat} {l : List UInt8} {t : List Row} (h : rowsC n l = t) (hn : t.length = n) (a : Int) : soughtF n l a 0 n = sot t a := by
  unfold sot; rw [soughtF_rows n l a n 0 n (Nat.le_refl _), h, hn]
end Go.Proofs.YtdegdoilpamjjaaDoor
