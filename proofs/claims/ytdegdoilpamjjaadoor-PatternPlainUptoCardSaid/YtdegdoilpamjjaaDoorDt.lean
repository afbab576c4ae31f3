/- A symbolic run of code that compares one int with constants and answers constants: its decision tree, and that the call answers what the tree says. No condition. -/
import Derived.WalkKit
namespace Go.Proofs.YtdegdoilpamjjaaDoor
/-- tests on one int -/
inductive BE where
  | tt | ff
  | eq (k : Int) | ge (k : Int) | le (k : Int)
  | not (a : BE) | and (a b : BE) | or (a b : BE)
  deriving DecidableEq
def BE.den (x : Int) : BE → Bool
  | .tt => true
  | .ff => false
  | .eq k => x == k
  | .ge k => decide (k ≤ x)
  | .le k => decide (x ≤ k)
  | .not a => !a.den x
  | .and a b => a.den x && b.den x
  | .or a b => a.den x || b.den x
inductive SV where
  | x | int (n : Int) | bool (b : BE)
def SV.den (x : Int) : SV → Value
  | .x => .int .i64 x
  | .int n => .int .i64 n
  | .bool b => .bool (b.den x)
structure En where
  c : BE
  v : SV
abbrev Env := List (Nat × En)
def look (e : Env) (t : Nat) : Option En :=
  match e with
  | [] => none
  | (u, v) :: r => if u == t then some v else look r t
inductive DT where
  | ret (v : SV)
  | ite (b : BE) (t e : DT)
  | fail
def DT.sat (x : Int) (R : Value → Prop) : DT → Prop
  | .ret v => R (v.den x)
  | .ite b t e => if b.den x then t.sat x R else e.sat x R
  | .fail => False
def DT.ok : DT → Bool
  | .ret _ => true
  | .ite _ t e => t.ok && e.ok
  | .fail => false
def DT.den (x : Int) : DT → Value
  | .ret v => v.den x
  | .ite b t e => if b.den x then t.den x else e.den x
  | .fail => undef
theorem DT.sat_den (x : Int) (d : DT) (h : d.ok = true) : d.sat x (fun v => v = d.den x) := by
  induction d with
  | ret v => rfl
  | ite b t e iht ihe =>
    simp only [DT.ok, Bool.and_eq_true] at h
    simp only [DT.sat, DT.den]
    split
    · exact iht h.1
    · exact ihe h.2
  | fail => simp [DT.ok] at h

structure Mods (n : Nat) (env : Env) (a : Act) (x : Int) : Prop where
  defers : a.defers = []
  size : a.tmps.size = n
  arg : a.tmps[0]? = some (.int .i64 x)
  rest : ∀ t e, look env t = some e → e.c.den x = true → a.tmps[t]? = some (e.v.den x)

def opnd (env : Env) : Operand → Option En
  | .tmp t => if t == 0 then some ⟨.tt, .x⟩ else look env t
  | .const (.int .i64 n) => some ⟨.tt, .int n⟩
  | .const (.bool b) => some ⟨.tt, .bool (if b then .tt else .ff)⟩
  | _ => none

/-- an operand under a guard -/
def under (env : Env) (g : BE) (o : Operand) : Option SV :=
  match opnd env o with
  | some e => if e.c = .tt ∨ e.c = g then some e.v else none
  | none => none

def cmpV (a b : Option SV) (f : Int → BE) : Option SV :=
  match a, b with
  | some .x, some (.int k) => some (.bool (f k))
  | _, _ => none
theorem cmpV_inv {a b : Option SV} {f : Int → BE} {v : SV} (h : cmpV a b f = some v) : ∃ k, a = some .x ∧ b = some (.int k) ∧ v = .bool (f k) := by
  unfold cmpV at h
  split at h
  · rename_i k; simp at h; exact ⟨k, rfl, rfl, h.symm⟩
  · simp at h
def pickV (env : Env) (a b : Operand) : Option SV → Option SV
  | some (.bool gc) => match under env gc a, under env (.not gc) b with
      | some (.bool va), some (.bool .ff) => some (.bool (.and gc va))
      | some (.bool .tt), some (.bool vb) => some (.bool (.or gc vb))
      | _, _ => none
  | _ => none
def notV : Option SV → Option SV
  | some (.bool b) => some (.bool (.not b))
  | _ => none
def opVal (env : Env) (g : BE) : Op → Option SV
  | .move y => under env g y
  | .assign y => under env g y
  | .binOp .eql _ y z _ => cmpV (under env g y) (under env g z) .eq
  | .binOp .geq _ y z _ => cmpV (under env g y) (under env g z) .ge
  | .binOp .leq _ y z _ => cmpV (under env g y) (under env g z) .le
  | .binOp .gtr _ y z _ => cmpV (under env g y) (under env g z) fun k => .ge (k + 1)
  | .binOp .lss _ y z _ => cmpV (under env g y) (under env g z) fun k => .le (k - 1)
  | .pick c a b => pickV env a b (under env g c)
  | .unOp .not _ y => notV (under env g y)
  | _ => none

theorem opnd_ok {n : Nat} {env : Env} {a : Act} {x : Int} (m : Mods n env a x) {o : Operand} {e : En} (h : opnd env o = some e) (hc : e.c.den x = true) : a.eval o = e.v.den x := by
  cases o with
  | tmp t =>
    simp only [opnd] at h
    split at h
    · rename_i h0; simp at h0; subst h0; simp at h; subst h
      simp [Act.eval, SV.den, Array.getD_eq_getD_getElem?, m.arg]
    · simp [Act.eval, Array.getD_eq_getD_getElem?, m.rest t e h hc]
  | const v =>
    cases v with
    | int k z =>
      cases k <;> simp [opnd] at h
      subst h; rfl
    | bool b => simp [opnd] at h; subst h; cases b <;> rfl
    | _ => simp [opnd] at h
  | global g => simp [opnd] at h
  | func f => simp [opnd] at h

theorem under_ok {n : Nat} {env : Env} {a : Act} {x : Int} (m : Mods n env a x) {g : BE} (hg : g.den x = true) {o : Operand} {v : SV} (h : under env g o = some v) : a.eval o = v.den x := by
  unfold under at h
  split at h
  · rename_i e he
    split at h
    · rename_i hc
      simp at h; subst h
      refine opnd_ok m he ?_
      rcases hc with hc | hc <;> rw [hc]
      · rfl
      · exact hg
    · simp at h
  · simp at h

theorem cmp_val {o : Oper} {a : Act} {P : Program} {w : World} {x k : Int} (t y z t') (b : BinOp) (B : Bool) (ho : o.op = .binOp b t y z t') (e1 : a.eval y = .int .i64 x) (e2 : a.eval z = .int .i64 k)
    (hb : binOp b t (.int .i64 x) (.int .i64 k) = pure (.bool B)) : (execOp a.eval o).run P w = .ok (.value (.bool B)) w := by
  simp [execOp, ho, e1, e2, eqGuard_at_int, hb]
theorem opVal_ok {n : Nat} {env : Env} {a : Act} {x : Int} (m : Mods n env a x) {g : BE} (hg : g.den x = true) {o : Oper} {v : SV} (h : opVal env g o.op = some v) (P : Program) (w : World) :
    (execOp a.eval o).run P w = .ok (.value (v.den x)) w := by
  generalize ho : o.op = op at h
  unfold opVal at h
  split at h
  · simp only [execOp, ho, under_ok m hg h, Sem.run_pure]
  · simp only [execOp, ho, under_ok m hg h, Sem.run_pure]
  · obtain ⟨k, hy, hz, rfl⟩ := cmpV_inv h
    exact cmp_val _ _ _ _ _ _ ho (under_ok m hg hy) (under_ok m hg hz) (by rw [binOp_eql]; rfl)
  · obtain ⟨k, hy, hz, rfl⟩ := cmpV_inv h
    exact cmp_val _ _ _ _ _ _ ho (under_ok m hg hy) (under_ok m hg hz) (by rw [binOp_geq]; rfl)
  · obtain ⟨k, hy, hz, rfl⟩ := cmpV_inv h
    exact cmp_val _ _ _ _ _ _ ho (under_ok m hg hy) (under_ok m hg hz) (by rw [binOp_leq]; rfl)
  · obtain ⟨k, hy, hz, rfl⟩ := cmpV_inv h
    exact cmp_val _ _ _ _ _ _ ho (under_ok m hg hy) (under_ok m hg hz) (by rw [binOp_gtr]; exact congrArg (fun b => (pure (Value.bool b) : Sem Value)) (by rw [Bool.eq_iff_iff]; simp [BE.den]; omega))
  · obtain ⟨k, hy, hz, rfl⟩ := cmpV_inv h
    exact cmp_val _ _ _ _ _ _ ho (under_ok m hg hy) (under_ok m hg hz) (by rw [binOp_lss]; exact congrArg (fun b => (pure (Value.bool b) : Sem Value)) (by rw [Bool.eq_iff_iff]; simp [BE.den]; omega))
  · rename_i c p q
    unfold pickV at h
    split at h
    · rename_i gc hgc
      have ec := under_ok m hg hgc
      split at h
      · rename_i va hva hvb
        simp at h; subst h
        by_cases hb : gc.den x = true
        · have ea := under_ok m hb hva
          simp [execOp, ho, ec, SV.den, asBool, hb, ea, BE.den]
        · have hn : (BE.not gc).den x = true := by simp [BE.den, hb]
          have eb := under_ok m hn hvb
          simp [execOp, ho, ec, SV.den, asBool, hb, eb, BE.den]
      · rename_i vb hva hvb
        simp at h; subst h
        by_cases hb : gc.den x = true
        · have ea := under_ok m hb hva
          simp [execOp, ho, ec, SV.den, asBool, hb, ea, BE.den]
        · have hn : (BE.not gc).den x = true := by simp [BE.den, hb]
          have eb := under_ok m hn hvb
          simp [execOp, ho, ec, SV.den, asBool, hb, eb, BE.den]
      · simp at h
    · simp at h
  · rename_i y
    unfold notV at h
    split at h
    · rename_i b hy
      have e1 := under_ok m hg hy
      simp at h; subst h
      simp [execOp, ho, e1, SV.den, BE.den]
      rfl
    · simp at h
  · simp at h
/-- one operation: its guard, its value -/
def guardBE (ops : Array Oper) (env : Env) (o : Oper) : Option BE :=
  match o.guard with
  | none => some .tt
  | some (j, want) => match (ops[j]?).bind (·.dst) with
    | some d => if d == 0 then none else match look env d with
      | some ⟨.tt, .bool b⟩ => some (if want then b else .not b)
      | _ => none
    | none => none
def runOps (n : Nat) (ops : Array Oper) : List Oper → Env → Option Env
  | [], env => some env
  | o :: rest, env =>
    match guardBE ops env o, o.dst with
    | some g, some d => if d == 0 || Nat.ble n d then none else match opVal env g o.op with
      | some v => runOps n ops rest ((d, ⟨g, v⟩) :: env)
      | none => none
    | _, _ => none

theorem guardBE_ok {n : Nat} {env : Env} {a : Act} {x : Int} (m : Mods n env a x) {ops : Array Oper} {o : Oper} {g : BE} (h : guardBE ops env o = some g) :
    Region.wanted o (yielded ops a.tmps) = g.den x := by
  unfold guardBE at h
  split at h
  · rename_i hg; simp at h; subst h; simp [Region.wanted, hg, BE.den]
  · rename_i j want hg
    split at h
    · rename_i d hd
      split at h
      · simp at h
      · split at h
        · rename_i b hl
          simp at h; subst h
          have := m.rest d _ hl rfl
          simp only [SV.den] at this
          simp only [Region.wanted, hg, yielded, hd, Option.bind_some, this]
          cases want <;> cases hb : BE.den x b <;> simp [BE.den, hb]
        · simp at h
    · simp at h

theorem Mods.put {n : Nat} {env : Env} {a : Act} {x : Int} (m : Mods n env a x) {d : Nat} {e : En} {v : Value} (h0 : d ≠ 0) (hn : d < n) (hv : e.c.den x = true → v = e.v.den x) :
    Mods n ((d, e) :: env) (a.put (some d) v) x := by
  refine ⟨m.defers, by simp [Act.put, m.size], ?_, ?_⟩
  · simp only [Act.put]
    rw [Array.getElem?_setIfInBounds_ne h0]; exact m.arg
  · intro t e' hl hc
    simp only [look] at hl
    simp only [Act.put]
    split at hl
    · rename_i ht
      simp at ht hl; subst ht; subst hl
      rw [Array.getElem?_setIfInBounds_self_of_lt (by rw [m.size]; exact hn), hv hc]
    · rename_i ht
      simp at ht
      rw [Array.getElem?_setIfInBounds_ne ht]; exact m.rest t e' hl hc

theorem runOps_ok {P : Program} {n : Nat} {ops : Array Oper} {x : Int} {w : World} {Q : Exit → Act → World → Prop} : ∀ (l : List Oper) (env env' : Env) (a : Act), runOps n ops l env = some env' → Mods n env a x →
    (∀ a', Mods n env' a' x → Q .normal a' w) → wpList P ops Q l a w := by
  intro l
  induction l with
  | nil => intro env env' a h m hq; simp [runOps] at h; subst h; exact hq a m
  | cons o rest ih =>
    intro env env' a h m hq
    simp only [runOps] at h
    split at h
    · rename_i g d hg hd
      split at h
      · simp at h
      · rename_i hdn
        simp only [Bool.or_eq_true, not_or, beq_iff_eq, Bool.not_eq_true] at hdn
        have hn : d < n := by
          have := hdn.2
          rw [Nat.not_le.symm]
          intro hle
          rw [Nat.ble_eq_true_of_le hle] at this
          simp at this
        split at h
        · rename_i v hv
          have hw := guardBE_ok m hg
          unfold wpList
          rw [hw]
          split
          · rename_i hgt
            left
            unfold Oper.wp
            rw [opVal_ok m hgt hv P w, Oper.upon_value, hd]
            exact ih _ _ _ h (m.put hdn.1 hn fun _ => rfl) hq
          · rename_i hgf
            rw [hd]
            exact ih _ _ _ h (m.put hdn.1 hn fun hc => absurd hc hgf) hq
        · simp at h
    · simp at h

def sx (n r : Nat) : Code → Env → (Env → DT) → (Nat → Env → DT) → DT
  | .skip, env, k, _ => k env
  | .region _ ops false, env, k, _ => match runOps n ops ops.toList env with
    | some env' => k env'
    | none => .fail
  | .seq a b, env, k, kx => sx n r a env (fun e => sx n r b e k kx) kx
  | .cond (.tmp t) a b, env, k, kx => if t == 0 || Nat.ble n t then .fail else match look env t with
    | some ⟨.tt, .bool .tt⟩ => sx n r a env k kx
    | some ⟨.tt, .bool .ff⟩ => sx n r b env k kx
    | some ⟨.tt, .bool be⟩ => .ite be (sx n r a ((t, ⟨.tt, .bool .tt⟩) :: env) k kx) (sx n r b ((t, ⟨.tt, .bool .ff⟩) :: env) k kx)
    | _ => .fail
  | .block id body, env, k, kx => sx n r body env k (fun i e => if i == id then k e else kx i e)
  | .exit id, env, _, kx => kx id env
  | .ret, env, _, _ => if r == 0 then .fail else match look env r with
    | some ⟨.tt, v⟩ => .ret v
    | _ => .fail
  | _, _, _, _ => .fail

theorem Mods.learn {n : Nat} {env : Env} {a : Act} {x : Int} (m : Mods n env a x) {t : Nat} {be : BE} {b : Bool} (hl : look env t = some ⟨.tt, .bool be⟩) (hb : be.den x = b) :
    Mods n ((t, ⟨.tt, .bool (if b then .tt else .ff)⟩) :: env) a x := by
  refine ⟨m.defers, m.size, m.arg, ?_⟩
  intro u e hu hc
  simp only [look] at hu
  split at hu
  · rename_i ht
    simp at ht hu; subst ht; subst hu
    rw [m.rest _ _ hl rfl]
    cases b <;> simp [SV.den, BE.den, hb]
  · exact m.rest u e hu hc

theorem sx_ok {P : Program} {n r : Nat} {x : Int} {w : World} {R : Value → Prop} : ∀ (c : Code) (env : Env) (k : Env → DT) (kx : Nat → Env → DT) (a : Act) (Q : Exit → Act → World → Prop),
    Mods n env a x → (∀ env' a', Mods n env' a' x → (k env').sat x R → Q .normal a' w) → (∀ id env' a', Mods n env' a' x → (kx id env').sat x R → Q (.exit id) a' w) →
    (∀ a' v, a'.defers = [] → a'.tmps[r]? = some v → R v → Q .ret a' w) → (sx n r c env k kx).sat x R → c.wp P Q a w := by
  intro c
  induction c with
  | skip => intro env k kx a Q m hk _ _ h; exact wp_skip (hk _ _ m h)
  | region id ops draw =>
    intro env k kx a Q m hk _ _ h
    cases draw with
    | true => simp [sx, DT.sat] at h
    | false =>
      simp only [sx] at h
      split at h
      · rename_i env' he
        exact wp_region_list (runOps_ok _ _ _ _ he m fun a' m' => hk _ _ m' h)
      · simp [DT.sat] at h
  | seq c d ihc ihd =>
    intro env k kx a Q m hk hx hr h
    refine wp_seq (ihc env _ kx a _ m ?_ hx hr h)
    intro env' a' m' h'
    exact ihd env' k kx a' Q m' hk hx hr h'
  | cond o c d ihc ihd =>
    intro env k kx a Q m hk hx hr h
    cases o with
    | tmp t =>
      simp only [sx] at h
      split at h
      · simp [DT.sat] at h
      · split at h
        · rename_i hl
          refine wp_cond (t := true) ?_ (ihc env k kx a Q m hk hx hr h)
          have := m.rest t _ hl rfl
          simp [Act.eval, Array.getD_eq_getD_getElem?, this, SV.den, BE.den]
        · rename_i hl
          refine wp_cond (t := false) ?_ (ihd env k kx a Q m hk hx hr h)
          have := m.rest t _ hl rfl
          simp [Act.eval, Array.getD_eq_getD_getElem?, this, SV.den, BE.den]
        · rename_i be _ _ hl
          have hv : a.eval (.tmp t) = .bool (be.den x) := by
            have := m.rest t _ hl rfl
            simp [Act.eval, Array.getD_eq_getD_getElem?, this, SV.den]
          refine wp_cond hv ?_
          simp only [DT.sat] at h
          split at h
          · rename_i hb
            rw [if_pos hb]
            exact ihc _ k kx a Q (m.learn (b := true) hl hb) hk hx hr h
          · rename_i hb
            rw [if_neg hb]
            exact ihd _ k kx a Q (m.learn (b := false) hl (by simpa using hb)) hk hx hr h
        · simp [DT.sat] at h
    | const v => simp [sx, DT.sat] at h
    | global g => simp [sx, DT.sat] at h
    | func f => simp [sx, DT.sat] at h
  | block id body ih =>
    intro env k kx a Q m hk hx hr h
    refine wp_block (ih env k _ a _ m hk ?_ hr h)
    intro id' env' a' m' h'
    simp only [Exit.inBlock]
    by_cases hi : id' = id
    · subst hi
      simp only [beq_self_eq_true, if_true] at h'
      rw [if_pos rfl]; exact hk _ _ m' h'
    · rw [if_neg hi]
      have : (id' == id) = false := by simp [hi]
      simp only [this] at h'
      exact hx _ _ _ m' h'
  | exit id => intro env k kx a Q m _ hx _ h; exact wp_exit (hx _ _ _ m h)
  | ret =>
    intro env k kx a Q m _ _ hr h
    simp only [sx] at h
    split at h
    · simp [DT.sat] at h
    · split at h
      · rename_i v hl
        exact wp_ret (hr _ _ m.defers (m.rest _ _ hl rfl) h)
      · simp [DT.sat] at h
  | _ => intro env k kx a Q m _ _ _ h; simp [sx, DT.sat] at h

/-- the tree of a function of one int -/
def sxFn (fn : Func) : DT :=
  match fn.body, fn.results.toList with
  | some c, [.tmp r] => sx fn.ntmps r c [] (fun _ => .fail) (fun _ _ => .fail)
  | _, _ => .fail
theorem calls_of_sx {P : Program} {f : FuncId} {fn : Func} (hf : P.funcs[f]? = some fn) (hn : 0 < fn.ntmps) (hok : (sxFn fn).ok = true) (x : Int) (w : World) :
    Calls P f #[.int .i64 x] w fun e w' => e = .returned ((sxFn fn).den x) ∧ w = w' := by
  have hs := DT.sat_den x _ hok
  revert hs
  generalize (sxFn fn).den x = V
  intro hs
  unfold sxFn at hs
  split at hs
  · rename_i c r hb hr
    have hr' : fn.results = #[.tmp r] := by rw [← Array.toList_inj, hr]
    refine calls_of_wp hf hb ?_
    refine sx_ok (R := fun v => v = V) c [] _ _ _ _ ?_ ?_ ?_ ?_ hs
    · refine ⟨rfl, by simp; omega, by rw [Array.getElem?_append_left (by simp)]; rfl, ?_⟩
      intro t e h; simp [look] at h
    · intro env' a' _ h; simp [DT.sat] at h
    · intro id env' a' _ h; simp [DT.sat] at h
    · intro a' v hd hv he
      refine bodyPost_ret (results_tmp hr' _ _ _) hd ⟨?_, rfl⟩
      rw [Array.getD_eq_getD_getElem?, hv, he]; rfl
  · simp [DT.sat] at hs
end Go.Proofs.YtdegdoilpamjjaaDoor
