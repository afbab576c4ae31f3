/- Contract of the pattern's reader: class. Condition: no more than 2^30 ints. -/
import Derived.Test.YtdegdoilpamjjaaDoorCAf
namespace Go.Proofs.YtdegdoilpamjjaaDoor
open Go.RowKit
set_option linter.unusedVariables false
set_option linter.unusedSimpArgs false
theorem ClS.drewN {w0 w : World} {rb : Nat} {sl : Option Addr} {n c : Nat} {src : List Int} {fold : Bool} {sb : Nat} {s : RS} {nt : Bool} {rs : List (Int × Int)} {ks : List Int} {s1 : Option Addr} {n1 c1 : Nat} {s2 : Option Addr} {n2 c2 : Nat} (h : ClS w0 w rb sl n c src fold sb s nt rs ks s1 n1 c1 s2 n2 c2) (m : Nat) : ClS w0 (w.drewN m) rb sl n c src fold sb s nt rs ks s1 n1 c1 s2 n2 c2 :=
 h.moved (touch_drewN (Touch.refl _ _)) (h.rd.drewN m)
theorem ClS.step {w0 w : World} {rb : Nat} {sl : Option Addr} {n c : Nat} {src : List Int} {fold : Bool} {sb : Nat} {s : RS} {nt : Bool} {rs : List (Int × Int)} {ks : List Int} {s1 : Option Addr} {n1 c1 : Nat} {s2 : Option Addr} {n2 c2 : Nat} (h : ClS w0 w rb sl n c src fold sb s nt rs ks s1 n1 c1 s2 n2 c2) (k : Nat) (hk : s.at' + k ≤ n) :
  ClS w0 (w.setCell ⟨rb, 1, none⟩ (.int .i64 ((s.at' + k : Nat) : Int))) rb sl n c src fold sb { s with at' := s.at' + k } nt rs ks s1 n1 c1 s2 n2 c2 :=
 h.moved (Touch.setCell (fun b => b = rb) w (p := ⟨rb, 1, none⟩) rfl _) (h.rd.step k hk)
theorem ClS.neg {w0 w : World} {rb : Nat} {sl : Option Addr} {n c : Nat} {src : List Int} {fold : Bool} {sb : Nat} {s s0 : RS} {nt : Bool} {rs : List (Int × Int)} {ks : List Int} {s1 : Option Addr} {n1 c1 : Nat} {s2 : Option Addr} {n2 c2 : Nat} (h0 : RdM w0 rb sl n c src s0 fold) (h : ClS w0 w rb sl n c src fold sb s nt rs ks s1 n1 c1 s2 n2 c2) (x : Bool) :
  ClS w0 (w.setCell ⟨sb, 2, none⟩ (.bool x)) rb sl n c src fold sb s x rs ks s1 n1 c1 s2 n2 c2 := by
 have hb4 : Below w0.heap.size w (w.setCell ⟨sb, 2, none⟩ (.bool x)) := (Below.refl _ _).setCell (p := ⟨sb, 2, none⟩) h.sge _
 refine ⟨RdM.oth (T := 0) h0 h.rd h.tch hb4, touch_far h.tch hb4, h.sge, by rw [block_set _ h.blk]; rfl, own_kept h.own1 fun b hb => ?_, own_kept h.own2 fun b hb => ?_⟩
 ·
  obtain ⟨cs, h1⟩ := own_type h.own1 hb
  exact Below.heap_setCell _ ⟨sb, 2, none⟩ _ _ (type_ne h1 h.blk (by decide))
 ·
  obtain ⟨cs, h1⟩ := own_type h.own2 hb
  exact Below.heap_setCell _ ⟨sb, 2, none⟩ _ _ (type_ne h1 h.blk (by decide))
theorem ClS.begin (w : World) (rb : Nat) (sl : Option Addr) (n c : Nat) (src : List Int) (fold : Bool) (s : RS) (h : RdM w rb sl n c src s fold) (o : Obj) (ho : o = .cells #[.slice none 0 0, .slice none 0 0, .bool false, .bool fold] 135 (0, 0)) :
  ClS w (w.alloc o) rb sl n c src fold w.heap.size s false [] [] none 0 0 none 0 0 := by
 subst ho
 exact ⟨h.later (below_newJ _ _), Touch.of (below_newJ _ _), Nat.le_refl _, one_new _ _, World.ownsRow_nil _ _ _ _, World.ownsRow_nil _ _ _ _⟩
theorem eqIn_nilK (d : Nat) (w : World) : (Op.equalIn (d + 1) 97 .nilFunc .nilFunc).run Tryd.prog w = .ok true w := by
 simp [Op.equalIn, run_underlying Tryd.underlying97]
theorem eqIn_fnK (d : Nat) (g : FuncId) (w : World) : (Op.equalIn (d + 1) 97 (.func (.func g) #[] #[]) .nilFunc).run Tryd.prog w = .ok false w := by
 simp [Op.equalIn, run_underlying Tryd.underlying97]
theorem eq_nilK (w : World) : (Op.equal 97 .nilFunc .nilFunc).run Tryd.prog w = .ok true w := eqIn_nilK 9999 w
theorem eq_fnK (g : FuncId) (w : World) : (Op.equal 97 (.func (.func g) #[] #[]) .nilFunc).run Tryd.prog w = .ok false w := eqIn_fnK 9999 g w
theorem neq_nilK (w : World) : (binOp .neq 97 .nilFunc .nilFunc).run Tryd.prog w = .ok (.bool false) w := by
 simp only [binOp]
 simp [eq_nilK]
theorem neq_fnK (g : FuncId) (w : World) : (binOp .neq 97 (.func (.func g) #[] #[]) .nilFunc).run Tryd.prog w = .ok (.bool true) w := by
 simp only [binOp]
 simp [eq_fnK]
theorem wpList_push_span {w : World} {ops : Array Oper} {rest : List Oper} {o : Oper} {a : Act} {Q : Exit → Act → World → Prop} (x : Int × Int) (hgd : o.guard = none) (s y : Operand)
  (ho : o.op = .call { callee := .builtin .append, args := #[s, y], argTypes := #[132, 132] })
  (base : Nat) (v : Value) (n : Nat) (xs : List Value) (hs : a.eval s = v) (hy : a.eval y = .slice (some ⟨w.heap.size, 0, none⟩) 1 1) (hown : w.ownsRow base 144 2 v n xs) (hn : n < 1000000) (hbase : base ≤ w.heap.size)
  (h : ∀ s' c' w', w'.ownsRow base 144 2 (.slice s' (n + 1) c') (n + 1) (xs ++ [.int .i64 x.1, .int .i64 x.2]) → Below base w w' → Oth 144 w w' → wpList Tryd.prog ops Q rest (a.put o.dst (.slice s' (n + 1) c')) w') :
  wpList Tryd.prog ops Q (o :: rest) a (w.alloc (.cells #[.int .i64 x.1, .int .i64 x.2] 144)) :=
 wpList_push_e Tryd.underlying132 Tryd.infoSpan rfl (by decide) (by decide) [.int .i64 x.1, .int .i64 x.2] (by intro u hu; simp only [List.mem_cons, List.not_mem_nil, or_false] at hu; rcases hu with rfl | rfl <;> rfl) rfl hgd s y ho base v n xs hs hy hown hn hbase h
theorem wpList_push_kind {w : World} {ops : Array Oper} {rest : List Oper} {o : Oper} {a : Act} {Q : Exit → Act → World → Prop} (u : Value) (hu : u.oneCell' = true) (hgd : o.guard = none) (s y : Operand)
  (ho : o.op = .call { callee := .builtin .append, args := #[s, y], argTypes := #[133, 133] })
  (base : Nat) (v : Value) (n : Nat) (xs : List Value) (hs : a.eval s = v) (hy : a.eval y = .slice (some ⟨w.heap.size, 0, none⟩) 1 1) (hown : w.ownsRow base 97 1 v n xs) (hn : n < 1000000) (hbase : base ≤ w.heap.size)
  (h : ∀ s' c' w', w'.ownsRow base 97 1 (.slice s' (n + 1) c') (n + 1) (xs ++ [u]) → Below base w w' → Oth 97 w w' → wpList Tryd.prog ops Q rest (a.put o.dst (.slice s' (n + 1) c')) w') :
  wpList Tryd.prog ops Q (o :: rest) a (w.alloc (.cells #[u] 97)) :=
 wpList_push_e Tryd.underlying133 Tryd.infoKind rfl (by decide) (by decide) [u] (by intro x hx; rw [List.mem_singleton] at hx; subst hx; exact hu) rfl hgd s y ho base v n xs hs hy hown hn hbase h
def clsR (nt fold : Bool) : RR (List (Int × Int) × List Int) → RR Nd
 | .error e => .error e
 | .ok ((rs, ks), s1) => .ok (.set rs ks nt fold, s1)
def clsH (src : List Int) (f : Nat) (rs : List (Int × Int)) (ks : List Int) (lo : Int) : RR (Int × Option Int) → RR (List (Int × Int) × List Int)
 | .error e => .error e
 | .ok ((_, some _), s2) => .error (s2.at' - 1)
 | .ok ((hi, none), s2) => if 0 ≤ lo ∧ lo ≤ hi then classR src f false (rs ++ [(lo, hi)]) ks s2 else if rawB lo = true ∧ rawB hi = true ∧ hi ≤ lo then classR src f false (rs ++ [(hi, lo)]) ks s2 else .error (s2.at' - 1)
def clsB (src : List Int) (f : Nat) (rs : List (Int × Int)) (ks : List Int) : RR (Int × Option Int) → RR (List (Int × Int) × List Int)
 | .error e => .error e
 | .ok ((_, some k), s1) => classR src f false rs (ks ++ [k]) s1
 | .ok ((lo, none), s1) => if pk src s1.at' 0 = 45 ∧ s1.at' + 1 < src.length ∧ pk src s1.at' 1 ≠ 93 then clsH src f rs ks lo (signP src { s1 with at' := s1.at' + 1 }) else classR src f false (rs ++ [(lo, lo)]) ks s1
theorem classR_step (src : List Int) (f : Nat) (first : Bool) (rs : List (Int × Int)) (ks : List Int) (s : RS) :
  classR src (f + 1) first rs ks s = if first = false ∧ pk src s.at' 0 = 93 then .ok ((rs, ks), { s with at' := s.at' + 1 }) else clsB src f rs ks (signP src s) := by
 rw [classR]
 split
 · rfl
 ·
  rcases signP src s with e | ⟨⟨lo, _ | k⟩, s1⟩
  · rfl
  ·
   have e : clsB src f rs ks (.ok ((lo, none), s1)) = (if pk src s1.at' 0 = 45 ∧ s1.at' + 1 < src.length ∧ pk src s1.at' 1 ≠ 93 then clsH src f rs ks lo (signP src { s1 with at' := s1.at' + 1 }) else classR src f false (rs ++ [(lo, lo)]) ks s1) := rfl
   rw [e]
   by_cases hc : pk src s1.at' 0 = 45 ∧ s1.at' + 1 < src.length ∧ pk src s1.at' 1 ≠ 93
   ·
    rw [if_pos hc]
    refine (if_pos hc).trans ?_
    rcases signP src { s1 with at' := s1.at' + 1 } with e | ⟨⟨hi, _ | k⟩, s2⟩ <;> rfl
   ·
    rw [if_neg hc]
    exact if_neg hc
  · rfl
theorem classP_eq (src : List Int) (fold : Bool) (s : RS) : classP src fold s = clsR (decide (pk src s.at' 0 = 94)) fold (classR src (src.length + 2) true [] [] (if decide (pk src s.at' 0 = 94) = true then { s with at' := s.at' + 1 } else s)) := by
 unfold classP
 simp only
 rcases classR src (src.length + 2) true [] [] (if decide (pk src s.at' 0 = 94) = true then { s with at' := s.at' + 1 } else s) with e | ⟨⟨rs, ks⟩, s1⟩ <;> rfl
def RelC (w0 wr : World) (rb : Nat) (sl : Option Addr) (n c : Nat) (src : List Int) (fold : Bool) (sb : Nat) (nt : Bool) (R0 : RR (List (Int × Int) × List Int)) (gg : Nat) (fv : Value) : Prop :=
 ∃ (first : Bool) (s : RS) (rs : List (Int × Int)) (ks : List Int) (s1 : Option Addr) (n1 c1 : Nat) (s2 : Option Addr) (n2 c2 : Nat), fv = .bool first ∧ ClS w0 wr rb sl n c src fold sb s nt rs ks s1 n1 c1 s2 n2 c2 ∧ classR src gg first rs ks s = R0 ∧ n + 1 ≤ gg + s.at' ∧ n1 ≤ s.at' ∧ n2 ≤ s.at'
set_option maxRecDepth 100000 in
set_option maxHeartbeats 16000000 in
theorem class_c (rb : Nat) (sl : Option Addr) (n c : Nat) (src : List Int) (s : RS) (fold : Bool) (w : World) (h : RdM w rb sl n c src s fold) (hn : n < 900000) :
  Calls Tryd.prog 81 #[.pointer (some ⟨rb, 0, none⟩)] w (RdP w rb sl n c src fold (classP src fold s) (fun x w' v => NdR w' w.heap.size w'.heap.size v x)) := by
 obtain ⟨RR, hRR⟩ : ∃ RR, classP src fold s = RR := ⟨_, rfl⟩
 rw [hRR]
 have HRR := Lib.hid hRR
 have b3 : w.cell? ⟨rb, 3, none⟩ = some (.bool fold) := block_cell h.blk
 have hbg := ClS.begin w rb sl n c src fold s h _ rfl
 have HBG := Lib.hid hbg
 have HR0 := Lib.hid h
 have hlen := h.len
 have nq0 := neq_nilK
 have nq1 := neq_fnK
 clear hRR hbg h
 go_enter Tryd.func81, Tryd.ntmps81
 go_wp2_with fail
 clear b3
 generalize w.alloc (.cells #[.slice none 0 0, .slice none 0 0, .bool false, .bool fold] 135) = w1 at HBG ⊢
 refine (peek_c rb sl n c src s fold 0 _ HBG.out.rd (by decide)).mono ?_
 rintro e w2 ⟨rfl, m, rfl⟩
 have HBH := Lib.hid (HBG.out.drewN m)
 clear HBG
 generalize World.drewN w1 m = w2 at HBH ⊢
 obtain ⟨sb, hsb⟩ : ∃ sb, w.heap.size = sb := ⟨_, rfl⟩
 have HSB := Lib.hid hsb
 rw [hsb] at HBH ⊢
 clear hsb
 rw [show pk src s.at' 0 = pk src s.at' 0 from rfl]
 go_upto_if 16 with (fail)
 go_cut [] from 17 to 26 (fun wc => ∃ S, S = (if decide (pk src s.at' 0 = 94) = true then { s with at' := s.at' + 1 } else s) ∧ ClS w wc rb sl n c src fold sb S (decide (pk src s.at' 0 = 94)) [] [] none 0 0 none 0 0)
 case first =>
  by_cases h94 : pk src s.at' 0 = 94
  ·
   have hlt := pk_lt (show pk src s.at' 0 ≠ -4611686018427387904 from by rw [h94]; decide)
   have e94 : (pk src s.at' 0 == 94) = true := by rw [h94]; rfl
   have H94 := Lib.hid (show decide (pk src s.at' 0 = 94) = true from decide_eq_true h94)
   clear h94
   have b1 : w2.cell? ⟨rb, 1, none⟩ = some (.int .i64 s.at') := block_cell HBH.out.rd.blk
   have f1 : w2.frozen? ⟨rb, 1, none⟩ = false := block_free HBH.out.rd.blk
   have q3 : IntKind.i64.wrap ((s.at' : Int) + 1) = ((s.at' + 1 : Nat) : Int) := by rw [IntKind.wrap_i64]; omega
   have HB3 := Lib.hid (HBH.out.step 1 (by omega))
   go_upto_region 4 with (fail)
   rw [show ((s.at' : Int) + 1) = ((s.at' + 1 : Nat) : Int) from by omega]
   generalize World.setCell _ _ _ = w3 at HB3 ⊢
   clear b1 f1 q3 HBH
   have z2 : w3.cell? ⟨sb, 2, none⟩ = some (.bool false) := block_cell HB3.out.blk
   have z2f : w3.frozen? ⟨sb, 2, none⟩ = false := block_free HB3.out.blk
   have HB4 := Lib.hid (ClS.neg HR0.out HB3.out true)
   have HB5 := Lib.hid (show ClS w (w3.setCell ⟨sb, 2, none⟩ (.bool true)) rb sl n c src fold sb (if decide (pk src s.at' 0 = 94) = true then { s with at' := s.at' + 1 } else s) (decide (pk src s.at' 0 = 94)) [] [] none 0 0 none 0 0 from by rw [H94.out]; exact HB4.out)
   go_wp2
   go_meet
   exact ⟨_, rfl, HB5.out⟩
  ·
   have n94 : (pk src s.at' 0 == 94) = false := by rw [beq_eq_false_iff_ne]; exact h94
   have H94 := Lib.hid (show decide (pk src s.at' 0 = 94) = false from decide_eq_false h94)
   have HB4 := Lib.hid (show ClS w w2 rb sl n c src fold sb (if decide (pk src s.at' 0 = 94) = true then { s with at' := s.at' + 1 } else s) (decide (pk src s.at' 0 = 94)) [] [] none 0 0 none 0 0 from by rw [H94.out]; exact HBH.out)
   clear h94
   go_wp2
   go_meet
   exact ⟨_, rfl, HB4.out⟩
 case rest =>
  obtain ⟨S0, hS0, hcl0⟩ := hcut
  have HCL0 := Lib.hid hcl0
  obtain ⟨nt, hnt⟩ : ∃ nt, decide (pk src s.at' 0 = 94) = nt := ⟨_, rfl⟩
  obtain ⟨R0, hR0⟩ : ∃ R0, classR src (src.length + 2) true [] [] S0 = R0 := ⟨_, rfl⟩
  have HRC := Lib.hid (show RR = clsR nt fold R0 from by rw [← HRR.out, classP_eq, ← hS0, hnt, hR0])
  rw [hnt] at HCL0
  have HR00 := Lib.hid hR0
  clear hR0 hcl0 hS0 hnt HBH
  go_wp2_with fail
  go_loopg [4] (src.length + 2) (fun gg fv wr => RelC w wr rb sl n c src fold sb nt R0 gg fv)
  case atStart => exact ⟨true, S0, [], [], none, 0, 0, none, 0, 0, rfl, HCL0.out, HR00.out, by omega, Nat.zero_le _, Nat.zero_le _⟩
  case round =>
   clear HCL0 HR00
   obtain ⟨first, s, rs, ks, s1, n1, c1, s2, n2, c2, rfl, hcl, hcr, hgn, hn1, hn2⟩ := hrel
   have hat := hcl.rd.at'
   obtain ⟨f, rfl⟩ : ∃ f, gk = f + 1 := ⟨gk - 1, by omega⟩
   rw [classR_step] at hcr
   have HCL := Lib.hid hcl
   clear hcl
   cases first with
   | true =>
    have HSG := Lib.hid (show clsB src f rs ks (signP src s) = R0 from by rw [← hcr, if_neg (fun h => by cases h.1)])
    have HC5 := HCL
    clear hcr HCL
    go_wp2_with fail
    refine (sign_c rb sl n c src s fold _ HC5.out.rd).mono ?_
    generalize hsg : signP src s = SG at HSG
    rintro e w6 ⟨ht6, h6⟩
    have HT6 := Lib.hid ht6
    clear ht6
    cases SG with
    | error kk =>
     simp only at h6
     subst h6
     have hres : RR = .error kk := by rw [HRC.out, ← HSG.out]; rfl
     have HRES := Lib.hid hres
     clear hres
     go_wp2
     refine ⟨rfl, HC5.out.tch.trans HT6.out (fun x hx => .inl hx), ?_⟩
     rw [HRES.out]
     try rfl
    | ok q =>
     obtain ⟨⟨lo, kk⟩, s6⟩ := q
     obtain ⟨⟨v, hv1, hv2⟩, hr6⟩ := h6
     have hmore := (sign_more hsg).1
     have hat6 := hr6.at'
     have HC6 := Lib.hid (HC5.out.moved HT6.out hr6)
     clear HC5 HT6 hr6 hsg
     cases kk with
     | some k =>
      obtain ⟨fn, hfn⟩ : ∃ fn, kindV k = .func (.func fn) #[] #[] := ⟨_, rfl⟩
      rw [show signV (lo, some k) = #[.int .i64 lo, .func (.func fn) #[] #[]] from by show #[.int .i64 lo, kindV k] = _; rw [hfn]] at hv2
      subst hv2 hv1
      have HFN := Lib.hid hfn
      have k1 : w6.cell? ⟨sb, 1, none⟩ = some (.slice s2 n2 c2) := block_cell HC6.out.blk
      clear hfn
      go_wp2_with (first
       | (at_builtin; refine wpList_push_kind (.func (.func fn) #[] #[]) rfl rfl _ _ rfl w.heap.size (.slice s2 n2 c2) n2 (kindsV ks) rfl rfl HC6.out.own2 (by omega) HC6.out.tch.size ?_; intro s' c' w7 ho hb7 hoth; have b7 := hoth _ _ _ HC6.out.blk (by decide); have z1 : w7.cell? ⟨sb, 1, none⟩ = some (.slice s2 n2 c2) := block_cell b7; have z2 : w7.frozen? ⟨sb, 1, none⟩ = false := block_free b7; have HC7 := Lib.hid (ClS.kind (x := k) HR0.out HC6.out (by rw [HFN.out]; exact ho) hb7 hoth); clear b7 ho hb7 hoth))
      generalize w7.setCell ⟨sb, 1, none⟩ (.slice s' (n2 + 1) c') = w8 at HC7 ⊢
      clear z1 z2 k1
      try go_wp2
      go_roundg f
      case measure => omega
      case rel => exact ⟨false, s6, rs, ks ++ [k], s1, n1, c1, s', n2 + 1, c', rfl, HC7.out, HSG.out, by omega, by omega, by omega⟩
     | none =>
      rw [show signV (lo, none) = #[.int .i64 lo, .nilFunc] from rfl] at hv2
      subst hv2 hv1
      go_upto_region 12 with (fail)
      go_cut [71] from 51 to 71 (fun gv wc => ∃ G : Bool, gv = .bool G ∧ G = decide (pk src s6.at' 0 = 45 ∧ s6.at' + 1 < src.length ∧ pk src s6.at' 1 ≠ 93) ∧ ClS w wc rb sl n c src fold sb s6 nt rs ks s1 n1 c1 s2 n2 c2)
      case first =>
       have HPK : Hid (∀ m, Calls Tryd.prog 68 #[.pointer (some ⟨rb, 0, none⟩), .int .i64 0] (w6.drewN m) fun e w' => e = .returned (.int .i64 (pk src s6.at' 0)) ∧ ∃ m', w' = (w6.drewN m).drewN m') := Lib.hid (fun m => peek_c rb sl n c src s6 fold 0 (w6.drewN m) (HC6.out.rd.drewN m) (by decide))
       have HPL : Hid (∀ m, Calls Tryd.prog 68 #[.pointer (some ⟨rb, 0, none⟩), .int .i64 1] (w6.drewN m) fun e w' => e = .returned (.int .i64 (pk src s6.at' 1)) ∧ ∃ m', w' = (w6.drewN m).drewN m') := Lib.hid (fun m => peek_c rb sl n c src s6 fold 1 (w6.drewN m) (HC6.out.rd.drewN m) (by decide))
       have b0 : w6.cell? ⟨rb, 0, none⟩ = some (.slice sl n c) := block_cell HC6.out.rd.blk
       have b1 : w6.cell? ⟨rb, 1, none⟩ = some (.int .i64 s6.at') := block_cell HC6.out.rd.blk
       have q3 : IntKind.i64.wrap ((s6.at' : Int) + 1) = (s6.at' : Int) + 1 := by have := HC6.out.rd.n30; rw [IntKind.wrap_i64]; omega
       by_cases hG : pk src s6.at' 0 = 45 ∧ s6.at' + 1 < src.length ∧ pk src s6.at' 1 ≠ 93
       ·
        have hfin : ∀ m, ∃ G : Bool, Value.bool true = .bool G ∧ G = decide (pk src s6.at' 0 = 45 ∧ s6.at' + 1 < src.length ∧ pk src s6.at' 1 ≠ 93) ∧ ClS w (w6.drewN m) rb sl n c src fold sb s6 nt rs ks s1 n1 c1 s2 n2 c2 := fun m => ⟨true, rfl, (decide_eq_true hG).symm, HC6.out.drewN m⟩
        have HFIN := Lib.hid hfin
        obtain ⟨g1, g2, g3⟩ := hG
        have u1 : ((s6.at' : Int) + 1) < (n : Int) := by omega
        have u3 : (pk src s6.at' 1 != 93) = true := by rw [bne_iff_ne]; exact g3
        have u4 : (pk src s6.at' 1 == 93) = false := by rw [beq_eq_false_iff_ne]; exact g3
        rw [g1] at HPK
        generalize pk src s6.at' 1 = p1 at HPL u3 u4
        clear g1 g3 hfin HC6
        go_wp2_with fail
        go_quiet (first | (go_at_call 68; first | with_reducible exact Calls.quiet_of (HPK.out _) | with_reducible exact Calls.quiet_of (HPL.out _)))
        go_wp2
        go_meet
        exact HFIN.out _
       ·
        have HGG := Lib.hid hG
        have hfin : ∀ m, ∃ G : Bool, Value.bool false = .bool G ∧ G = decide (pk src s6.at' 0 = 45 ∧ s6.at' + 1 < src.length ∧ pk src s6.at' 1 ≠ 93) ∧ ClS w (w6.drewN m) rb sl n c src fold sb s6 nt rs ks s1 n1 c1 s2 n2 c2 := fun m => ⟨false, rfl, (decide_eq_false hG).symm, HC6.out.drewN m⟩
        have HFIN := Lib.hid hfin
        clear hG hfin HC6
        by_cases g1 : pk src s6.at' 0 = 45
        ·
         by_cases g2 : s6.at' + 1 < n
         ·
          have g3 : pk src s6.at' 1 = 93 := Classical.byContradiction fun h => HGG.out ⟨g1, by omega, h⟩
          have u1 : ((s6.at' : Int) + 1) < (n : Int) := by omega
          rw [g1] at HPK
          rw [g3] at HPL
          clear g1 g3 HGG
          go_wp2_with fail
          go_quiet (first | (go_at_call 68; first | with_reducible exact Calls.quiet_of (HPK.out _) | with_reducible exact Calls.quiet_of (HPL.out _)))
          go_wp2
          go_meet
          exact HFIN.out _
         ·
          have u1 : decide (((s6.at' : Int) + 1) < (n : Int)) = false := decide_eq_false (by omega)
          have u1b : decide (s6.at' + 1 < n) = false := decide_eq_false g2
          rw [g1] at HPK
          clear g1 HGG
          go_wp2_with fail
          go_quiet (first | (go_at_call 68; first | with_reducible exact Calls.quiet_of (HPK.out _) | with_reducible exact Calls.quiet_of (HPL.out _)))
          go_wp2
          go_meet
          exact HFIN.out _
        ·
         have u0 : (pk src s6.at' 0 == 45) = false := by rw [beq_eq_false_iff_ne]; exact g1
         generalize pk src s6.at' 0 = p0 at HPK u0
         clear g1 HGG
         go_wp2_with fail
         go_quiet (first | (go_at_call 68; first | with_reducible exact Calls.quiet_of (HPK.out _) | with_reducible exact Calls.quiet_of (HPL.out _)))
         go_wp2
         go_meet
         exact HFIN.out _
      case rest =>
       obtain ⟨G, rfl, hG, hc6⟩ := hcut
       clear HC6
       have HC6 := Lib.hid hc6
       have HGD := Lib.hid hG
       clear hc6 hG
       go_upto_if 71 with (fail)
       go_cut [5, 7] from 72 to 119 (fun lv hv wd => ∃ (a b : Int) (S7 : RS), lv = .int .i64 a ∧ hv = .int .i64 b ∧ ClS w wd rb sl n c src fold sb S7 nt rs ks s1 n1 c1 s2 n2 c2 ∧ classR src f false (rs ++ [(a, b)]) ks S7 = R0 ∧ s6.at' ≤ S7.at')
       case first =>
        cases G with
        | false =>
         have hG : ¬ (pk src s6.at' 0 = 45 ∧ s6.at' + 1 < src.length ∧ pk src s6.at' 1 ≠ 93) := of_decide_eq_false HGD.out.symm
         have HSH := Lib.hid (show classR src f false (rs ++ [(lo, lo)]) ks s6 = R0 from by rw [← HSG.out]; exact (if_neg hG).symm)
         clear hG
         go_wp2
         go_meet
         exact ⟨lo, lo, s6, rfl, rfl, HC6.out, HSH.out, Nat.le_refl _⟩
        | true =>
         have hG : pk src s6.at' 0 = 45 ∧ s6.at' + 1 < src.length ∧ pk src s6.at' 1 ≠ 93 := of_decide_eq_true HGD.out.symm
         have HSH := Lib.hid (show clsH src f rs ks lo (signP src { s6 with at' := s6.at' + 1 }) = R0 from by rw [← HSG.out]; exact (if_pos hG).symm)
         have g2 := hG.2.1
         clear hG
         have b1 : wc.cell? ⟨rb, 1, none⟩ = some (.int .i64 s6.at') := block_cell HC6.out.rd.blk
         have f1 : wc.frozen? ⟨rb, 1, none⟩ = false := block_free HC6.out.rd.blk
         have hlen7 := HC6.out.rd.len
         have q3 : IntKind.i64.wrap ((s6.at' : Int) + 1) = ((s6.at' + 1 : Nat) : Int) := by have := HC6.out.rd.n30; rw [IntKind.wrap_i64]; omega
         have HC8 := Lib.hid (HC6.out.step 1 (by omega))
         go_upto_region 14 with (fail)
         rw [show ((s6.at' : Int) + 1) = ((s6.at' + 1 : Nat) : Int) from by omega]
         generalize World.setCell _ _ _ = w8 at HC8 ⊢
         clear b1 f1 q3 HC6
         go_wp2_with fail
         refine (sign_c rb sl n c src _ fold _ HC8.out.rd).mono ?_
         generalize hsg2 : signP src { s6 with at' := s6.at' + 1 } = SG2 at HSH
         rintro e w9 ⟨ht9, h9⟩
         have HT9 := Lib.hid ht9
         clear ht9
         cases SG2 with
         | error kk =>
          simp only at h9
          subst h9
          have hres : RR = .error kk := by rw [HRC.out, ← HSH.out]; rfl
          have HRES := Lib.hid hres
          clear hres
          go_wp2
          refine ⟨rfl, HC8.out.tch.trans HT9.out (fun x hx => .inl hx), ?_⟩
          rw [HRES.out]
          try rfl
         | ok q =>
          obtain ⟨⟨hi, kk⟩, s9⟩ := q
          obtain ⟨⟨v, hv1, hv2⟩, hr9⟩ := h9
          have hmore9 := (sign_more hsg2).1
          have hat9 := hr9.at'
          have HC9 := Lib.hid (HC8.out.moved HT9.out hr9)
          have b1 : w9.cell? ⟨rb, 1, none⟩ = some (.int .i64 s9.at') := block_cell hr9.blk
          have q7 : IntKind.i64.wrap ((s9.at' : Int) - 1) = ((s9.at' - 1 : Nat) : Int) := by have := hr9.n30; have h3 : s6.at' + 1 + 1 ≤ s9.at' := hmore9; rw [IntKind.wrap_i64]; omega
          have hle9 : s6.at' ≤ s9.at' := by have h3 : s6.at' + 1 + 1 ≤ s9.at' := hmore9; omega
          clear HC8 HT9 hr9 hsg2 hmore9
          cases kk with
          | some k =>
           obtain ⟨fn, hfn⟩ : ∃ fn, kindV k = .func (.func fn) #[] #[] := ⟨_, rfl⟩
           rw [show signV (hi, some k) = #[.int .i64 hi, .func (.func fn) #[] #[]] from by show #[.int .i64 hi, kindV k] = _; rw [hfn]] at hv2
           subst hv2 hv1
           have hres : RR = .error (s9.at' - 1) := by rw [HRC.out, ← HSH.out]; rfl
           have HRES := Lib.hid hres
           clear hres hfn
           go_wp2
           refine ⟨rfl, HC9.out.tch, ?_⟩
           rw [HRES.out]
           try rfl
          | none =>
           rw [show signV (hi, none) = #[.int .i64 hi, .nilFunc] from rfl] at hv2
           subst hv2 hv1
           by_cases hA : 0 ≤ lo ∧ lo ≤ hi
           ·
            have HSA := Lib.hid (show classR src f false (rs ++ [(lo, hi)]) ks s9 = R0 from by rw [← HSH.out]; exact (if_pos hA).symm)
            obtain ⟨a1, a2⟩ := hA
            clear b1 q7
            go_wp2
            go_meet
            exact ⟨lo, hi, s9, rfl, rfl, HC9.out, HSA.out, hle9⟩
           ·
            have hSA : (if rawB lo = true ∧ rawB hi = true ∧ hi ≤ lo then classR src f false (rs ++ [(hi, lo)]) ks s9 else .error (s9.at' - 1)) = R0 := by rw [← HSH.out]; exact (if_neg hA).symm
            have HSA := Lib.hid hSA
            clear hSA
            by_cases h0 : 0 ≤ lo
            ·
             have h1 : ¬ lo ≤ hi := fun h => hA ⟨h0, h⟩
             clear hA
             go_wp2_with fail
             refine (raw_c lo _).mono ?_
             rintro e wq ⟨rfl, hq⟩
             subst hq
             cases hd1 : rawB lo with
             | false =>
              have HRES := Lib.hid (show RR = .error (s9.at' - 1) from by rw [HRC.out, ← HSA.out, if_neg (fun h => by rw [hd1] at h; cases h.1)]; try rfl)
              go_wp2
              refine ⟨rfl, HC9.out.tch, ?_⟩
              rw [HRES.out]
              try rfl
             | true =>
              go_wp2_with fail
              refine (raw_c hi _).mono ?_
              rintro e wq ⟨rfl, hq⟩
              subst hq
              cases hd2 : rawB hi with
              | false =>
               have HRES := Lib.hid (show RR = .error (s9.at' - 1) from by rw [HRC.out, ← HSA.out, if_neg (fun h => by rw [hd2] at h; cases h.2.1)]; try rfl)
               go_wp2
               refine ⟨rfl, HC9.out.tch, ?_⟩
               rw [HRES.out]
               try rfl
              | true =>
               by_cases hle : hi ≤ lo
               ·
                have HSB2 := Lib.hid (show classR src f false (rs ++ [(hi, lo)]) ks s9 = R0 from by rw [← HSA.out, if_pos ⟨hd1, hd2, hle⟩])
                clear hd1 hd2
                go_wp2
                go_meet
                exact ⟨hi, lo, s9, rfl, rfl, HC9.out, HSB2.out, hle9⟩
               · exact absurd (show hi ≤ lo by omega) hle
            ·
             clear hA
             go_wp2_with fail
             refine (raw_c lo _).mono ?_
             rintro e wq ⟨rfl, hq⟩
             subst hq
             cases hd1 : rawB lo with
             | false =>
              have HRES := Lib.hid (show RR = .error (s9.at' - 1) from by rw [HRC.out, ← HSA.out, if_neg (fun h => by rw [hd1] at h; cases h.1)]; try rfl)
              go_wp2
              refine ⟨rfl, HC9.out.tch, ?_⟩
              rw [HRES.out]
              try rfl
             | true =>
              go_wp2_with fail
              refine (raw_c hi _).mono ?_
              rintro e wq ⟨rfl, hq⟩
              subst hq
              cases hd2 : rawB hi with
              | false =>
               have HRES := Lib.hid (show RR = .error (s9.at' - 1) from by rw [HRC.out, ← HSA.out, if_neg (fun h => by rw [hd2] at h; cases h.2.1)]; try rfl)
               go_wp2
               refine ⟨rfl, HC9.out.tch, ?_⟩
               rw [HRES.out]
               try rfl
              | true =>
               by_cases hle : hi ≤ lo
               ·
                have HSB2 := Lib.hid (show classR src f false (rs ++ [(hi, lo)]) ks s9 = R0 from by rw [← HSA.out, if_pos ⟨hd1, hd2, hle⟩])
                clear hd1 hd2
                go_wp2
                go_meet
                exact ⟨hi, lo, s9, rfl, rfl, HC9.out, HSB2.out, hle9⟩
               ·
                have HRES := Lib.hid (show RR = .error (s9.at' - 1) from by rw [HRC.out, ← HSA.out, if_neg (fun h => hle h.2.2)]; try rfl)
                go_wp2
                refine ⟨rfl, HC9.out.tch, ?_⟩
                rw [HRES.out]
                try rfl
       case rest =>
        obtain ⟨a, b, S7, rfl, rfl, hc7, hcr7, hs7⟩ := hcut
        have HC7 := Lib.hid hc7
        have HR7 := Lib.hid hcr7
        have hat7 := hc7.rd.at'
        clear hc7 hcr7 HC6 HSG HGD
        have k1 : wc.cell? ⟨sb, 0, none⟩ = some (.slice s1 n1 c1) := block_cell HC7.out.blk
        go_wp2_with (first
         | (at_builtin; go_loud (refine wpList_push_span (a, b) rfl _ _ rfl w.heap.size (.slice s1 n1 c1) n1 (spanV rs) rfl rfl HC7.out.own1 (by omega) HC7.out.tch.size ?_); intro s' c' w7 ho hb7 hoth; have b7 := hoth _ _ _ HC7.out.blk (by decide); have z1 : w7.cell? ⟨sb, 0, none⟩ = some (.slice s1 n1 c1) := block_cell b7; have z2 : w7.frozen? ⟨sb, 0, none⟩ = false := block_free b7; have HC8 := Lib.hid (ClS.span (x := (a, b)) HR0.out HC7.out ho hb7 hoth); clear b7 ho hb7 hoth))
        generalize w7.setCell ⟨sb, 0, none⟩ (.slice s' (n1 + 1) c') = w8 at HC8 ⊢
        clear z1 z2 k1
        try go_wp2
        go_roundg f
        case measure => omega
        case rel => exact ⟨false, S7, rs ++ [(a, b)], ks, s', n1 + 1, c', s2, n2, c2, rfl, HC8.out, HR7.out, by omega, by omega, by omega⟩
   | false =>
    go_wp2_with fail
    refine (peek_c rb sl n c src s fold 0 _ HCL.out.rd (by decide)).mono ?_
    rintro e w5 ⟨rfl, m, rfl⟩
    have HC5 := Lib.hid (HCL.out.drewN m)
    clear HCL
    generalize World.drewN wr m = w5 at HC5 ⊢
    by_cases h93 : pk src s.at' 0 = 93
    ·
     have hlt := pk_lt (show pk src s.at' 0 ≠ -4611686018427387904 from by rw [h93]; decide)
     have hres : RR = .ok (.set rs ks nt fold, { s with at' := s.at' + 1 }) := by rw [HRC.out, ← hcr]; simp only [h93, and_self, if_true, true_and]; rfl
     have HRES := Lib.hid hres
     rw [h93]
     clear hres h93 hcr
     have b1 : w5.cell? ⟨rb, 1, none⟩ = some (.int .i64 s.at') := block_cell HC5.out.rd.blk
     have f1 : w5.frozen? ⟨rb, 1, none⟩ = false := block_free HC5.out.rd.blk
     have q3 : IntKind.i64.wrap ((s.at' : Int) + 1) = ((s.at' + 1 : Nat) : Int) := by rw [IntKind.wrap_i64]; omega
     have HB6 := Lib.hid (HC5.out.step 1 (by omega))
     go_upto_region 23 with (fail)
     rw [show ((s.at' : Int) + 1) = ((s.at' + 1 : Nat) : Int) from by omega]
     generalize World.setCell _ _ _ = w6 at HB6 ⊢
     clear b1 f1 q3 HC5
     go_wp2
     go_ret
     refine ⟨HB6.out.tch, ?_⟩
     rw [HRES.out]
     exact ⟨⟨_, rfl, HB6.out.node⟩, HB6.out.rd⟩
    ·
     have HSG := Lib.hid (show clsB src f rs ks (signP src s) = R0 from by rw [← hcr, if_neg (fun h => h93 h.2)])
     have n93 : (pk src s.at' 0 != 93) = true := by rw [bne_iff_ne]; exact h93
     generalize pk src s.at' 0 = p0 at n93 ⊢
     clear h93 hcr
     go_wp2_with fail
     refine (sign_c rb sl n c src s fold _ HC5.out.rd).mono ?_
     generalize hsg : signP src s = SG at HSG
     rintro e w6 ⟨ht6, h6⟩
     have HT6 := Lib.hid ht6
     clear ht6
     cases SG with
     | error kk =>
      simp only at h6
      subst h6
      have hres : RR = .error kk := by rw [HRC.out, ← HSG.out]; rfl
      have HRES := Lib.hid hres
      clear hres
      go_wp2
      refine ⟨rfl, HC5.out.tch.trans HT6.out (fun x hx => .inl hx), ?_⟩
      rw [HRES.out]
      try rfl
     | ok q =>
      obtain ⟨⟨lo, kk⟩, s6⟩ := q
      obtain ⟨⟨v, hv1, hv2⟩, hr6⟩ := h6
      have hmore := (sign_more hsg).1
      have hat6 := hr6.at'
      have HC6 := Lib.hid (HC5.out.moved HT6.out hr6)
      clear HC5 HT6 hr6 hsg
      cases kk with
      | some k =>
       obtain ⟨fn, hfn⟩ : ∃ fn, kindV k = .func (.func fn) #[] #[] := ⟨_, rfl⟩
       rw [show signV (lo, some k) = #[.int .i64 lo, .func (.func fn) #[] #[]] from by show #[.int .i64 lo, kindV k] = _; rw [hfn]] at hv2
       subst hv2 hv1
       have HFN := Lib.hid hfn
       have k1 : w6.cell? ⟨sb, 1, none⟩ = some (.slice s2 n2 c2) := block_cell HC6.out.blk
       clear hfn
       go_wp2_with (first
        | (at_builtin; refine wpList_push_kind (.func (.func fn) #[] #[]) rfl rfl _ _ rfl w.heap.size (.slice s2 n2 c2) n2 (kindsV ks) rfl rfl HC6.out.own2 (by omega) HC6.out.tch.size ?_; intro s' c' w7 ho hb7 hoth; have b7 := hoth _ _ _ HC6.out.blk (by decide); have z1 : w7.cell? ⟨sb, 1, none⟩ = some (.slice s2 n2 c2) := block_cell b7; have z2 : w7.frozen? ⟨sb, 1, none⟩ = false := block_free b7; have HC7 := Lib.hid (ClS.kind (x := k) HR0.out HC6.out (by rw [HFN.out]; exact ho) hb7 hoth); clear b7 ho hb7 hoth))
       generalize w7.setCell ⟨sb, 1, none⟩ (.slice s' (n2 + 1) c') = w8 at HC7 ⊢
       clear z1 z2 k1
       try go_wp2
       go_roundg f
       case measure => omega
       case rel => exact ⟨false, s6, rs, ks ++ [k], s1, n1, c1, s', n2 + 1, c', rfl, HC7.out, HSG.out, by omega, by omega, by omega⟩
      | none =>
       rw [show signV (lo, none) = #[.int .i64 lo, .nilFunc] from rfl] at hv2
       subst hv2 hv1
       go_upto_region 12 with (fail)
       go_cut [71] from 51 to 71 (fun gv wc => ∃ G : Bool, gv = .bool G ∧ G = decide (pk src s6.at' 0 = 45 ∧ s6.at' + 1 < src.length ∧ pk src s6.at' 1 ≠ 93) ∧ ClS w wc rb sl n c src fold sb s6 nt rs ks s1 n1 c1 s2 n2 c2)
       case first =>
        have HPK : Hid (∀ m, Calls Tryd.prog 68 #[.pointer (some ⟨rb, 0, none⟩), .int .i64 0] (w6.drewN m) fun e w' => e = .returned (.int .i64 (pk src s6.at' 0)) ∧ ∃ m', w' = (w6.drewN m).drewN m') := Lib.hid (fun m => peek_c rb sl n c src s6 fold 0 (w6.drewN m) (HC6.out.rd.drewN m) (by decide))
        have HPL : Hid (∀ m, Calls Tryd.prog 68 #[.pointer (some ⟨rb, 0, none⟩), .int .i64 1] (w6.drewN m) fun e w' => e = .returned (.int .i64 (pk src s6.at' 1)) ∧ ∃ m', w' = (w6.drewN m).drewN m') := Lib.hid (fun m => peek_c rb sl n c src s6 fold 1 (w6.drewN m) (HC6.out.rd.drewN m) (by decide))
        have b0 : w6.cell? ⟨rb, 0, none⟩ = some (.slice sl n c) := block_cell HC6.out.rd.blk
        have b1 : w6.cell? ⟨rb, 1, none⟩ = some (.int .i64 s6.at') := block_cell HC6.out.rd.blk
        have q3 : IntKind.i64.wrap ((s6.at' : Int) + 1) = (s6.at' : Int) + 1 := by have := HC6.out.rd.n30; rw [IntKind.wrap_i64]; omega
        by_cases hG : pk src s6.at' 0 = 45 ∧ s6.at' + 1 < src.length ∧ pk src s6.at' 1 ≠ 93
        ·
         have hfin : ∀ m, ∃ G : Bool, Value.bool true = .bool G ∧ G = decide (pk src s6.at' 0 = 45 ∧ s6.at' + 1 < src.length ∧ pk src s6.at' 1 ≠ 93) ∧ ClS w (w6.drewN m) rb sl n c src fold sb s6 nt rs ks s1 n1 c1 s2 n2 c2 := fun m => ⟨true, rfl, (decide_eq_true hG).symm, HC6.out.drewN m⟩
         have HFIN := Lib.hid hfin
         obtain ⟨g1, g2, g3⟩ := hG
         have u1 : ((s6.at' : Int) + 1) < (n : Int) := by omega
         have u3 : (pk src s6.at' 1 != 93) = true := by rw [bne_iff_ne]; exact g3
         have u4 : (pk src s6.at' 1 == 93) = false := by rw [beq_eq_false_iff_ne]; exact g3
         rw [g1] at HPK
         generalize pk src s6.at' 1 = p1 at HPL u3 u4
         clear g1 g3 hfin HC6
         go_wp2_with fail
         go_quiet (first | (go_at_call 68; first | with_reducible exact Calls.quiet_of (HPK.out _) | with_reducible exact Calls.quiet_of (HPL.out _)))
         go_wp2
         go_meet
         exact HFIN.out _
        ·
         have HGG := Lib.hid hG
         have hfin : ∀ m, ∃ G : Bool, Value.bool false = .bool G ∧ G = decide (pk src s6.at' 0 = 45 ∧ s6.at' + 1 < src.length ∧ pk src s6.at' 1 ≠ 93) ∧ ClS w (w6.drewN m) rb sl n c src fold sb s6 nt rs ks s1 n1 c1 s2 n2 c2 := fun m => ⟨false, rfl, (decide_eq_false hG).symm, HC6.out.drewN m⟩
         have HFIN := Lib.hid hfin
         clear hG hfin HC6
         by_cases g1 : pk src s6.at' 0 = 45
         ·
          by_cases g2 : s6.at' + 1 < n
          ·
           have g3 : pk src s6.at' 1 = 93 := Classical.byContradiction fun h => HGG.out ⟨g1, by omega, h⟩
           have u1 : ((s6.at' : Int) + 1) < (n : Int) := by omega
           rw [g1] at HPK
           rw [g3] at HPL
           clear g1 g3 HGG
           go_wp2_with fail
           go_quiet (first | (go_at_call 68; first | with_reducible exact Calls.quiet_of (HPK.out _) | with_reducible exact Calls.quiet_of (HPL.out _)))
           go_wp2
           go_meet
           exact HFIN.out _
          ·
           have u1 : decide (((s6.at' : Int) + 1) < (n : Int)) = false := decide_eq_false (by omega)
           have u1b : decide (s6.at' + 1 < n) = false := decide_eq_false g2
           rw [g1] at HPK
           clear g1 HGG
           go_wp2_with fail
           go_quiet (first | (go_at_call 68; first | with_reducible exact Calls.quiet_of (HPK.out _) | with_reducible exact Calls.quiet_of (HPL.out _)))
           go_wp2
           go_meet
           exact HFIN.out _
         ·
          have u0 : (pk src s6.at' 0 == 45) = false := by rw [beq_eq_false_iff_ne]; exact g1
          generalize pk src s6.at' 0 = p0 at HPK u0
          clear g1 HGG
          go_wp2_with fail
          go_quiet (first | (go_at_call 68; first | with_reducible exact Calls.quiet_of (HPK.out _) | with_reducible exact Calls.quiet_of (HPL.out _)))
          go_wp2
          go_meet
          exact HFIN.out _
       case rest =>
        obtain ⟨G, rfl, hG, hc6⟩ := hcut
        clear HC6
        have HC6 := Lib.hid hc6
        have HGD := Lib.hid hG
        clear hc6 hG
        go_upto_if 71 with (fail)
        go_cut [5, 7] from 72 to 119 (fun lv hv wd => ∃ (a b : Int) (S7 : RS), lv = .int .i64 a ∧ hv = .int .i64 b ∧ ClS w wd rb sl n c src fold sb S7 nt rs ks s1 n1 c1 s2 n2 c2 ∧ classR src f false (rs ++ [(a, b)]) ks S7 = R0 ∧ s6.at' ≤ S7.at')
        case first =>
         cases G with
         | false =>
          have hG : ¬ (pk src s6.at' 0 = 45 ∧ s6.at' + 1 < src.length ∧ pk src s6.at' 1 ≠ 93) := of_decide_eq_false HGD.out.symm
          have HSH := Lib.hid (show classR src f false (rs ++ [(lo, lo)]) ks s6 = R0 from by rw [← HSG.out]; exact (if_neg hG).symm)
          clear hG
          go_wp2
          go_meet
          exact ⟨lo, lo, s6, rfl, rfl, HC6.out, HSH.out, Nat.le_refl _⟩
         | true =>
          have hG : pk src s6.at' 0 = 45 ∧ s6.at' + 1 < src.length ∧ pk src s6.at' 1 ≠ 93 := of_decide_eq_true HGD.out.symm
          have HSH := Lib.hid (show clsH src f rs ks lo (signP src { s6 with at' := s6.at' + 1 }) = R0 from by rw [← HSG.out]; exact (if_pos hG).symm)
          have g2 := hG.2.1
          clear hG
          have b1 : wc.cell? ⟨rb, 1, none⟩ = some (.int .i64 s6.at') := block_cell HC6.out.rd.blk
          have f1 : wc.frozen? ⟨rb, 1, none⟩ = false := block_free HC6.out.rd.blk
          have hlen7 := HC6.out.rd.len
          have q3 : IntKind.i64.wrap ((s6.at' : Int) + 1) = ((s6.at' + 1 : Nat) : Int) := by have := HC6.out.rd.n30; rw [IntKind.wrap_i64]; omega
          have HC8 := Lib.hid (HC6.out.step 1 (by omega))
          go_upto_region 14 with (fail)
          rw [show ((s6.at' : Int) + 1) = ((s6.at' + 1 : Nat) : Int) from by omega]
          generalize World.setCell _ _ _ = w8 at HC8 ⊢
          clear b1 f1 q3 HC6
          go_wp2_with fail
          refine (sign_c rb sl n c src _ fold _ HC8.out.rd).mono ?_
          generalize hsg2 : signP src { s6 with at' := s6.at' + 1 } = SG2 at HSH
          rintro e w9 ⟨ht9, h9⟩
          have HT9 := Lib.hid ht9
          clear ht9
          cases SG2 with
          | error kk =>
           simp only at h9
           subst h9
           have hres : RR = .error kk := by rw [HRC.out, ← HSH.out]; rfl
           have HRES := Lib.hid hres
           clear hres
           go_wp2
           refine ⟨rfl, HC8.out.tch.trans HT9.out (fun x hx => .inl hx), ?_⟩
           rw [HRES.out]
           try rfl
          | ok q =>
           obtain ⟨⟨hi, kk⟩, s9⟩ := q
           obtain ⟨⟨v, hv1, hv2⟩, hr9⟩ := h9
           have hmore9 := (sign_more hsg2).1
           have hat9 := hr9.at'
           have HC9 := Lib.hid (HC8.out.moved HT9.out hr9)
           have b1 : w9.cell? ⟨rb, 1, none⟩ = some (.int .i64 s9.at') := block_cell hr9.blk
           have q7 : IntKind.i64.wrap ((s9.at' : Int) - 1) = ((s9.at' - 1 : Nat) : Int) := by have := hr9.n30; have h3 : s6.at' + 1 + 1 ≤ s9.at' := hmore9; rw [IntKind.wrap_i64]; omega
           have hle9 : s6.at' ≤ s9.at' := by have h3 : s6.at' + 1 + 1 ≤ s9.at' := hmore9; omega
           clear HC8 HT9 hr9 hsg2 hmore9
           cases kk with
           | some k =>
            obtain ⟨fn, hfn⟩ : ∃ fn, kindV k = .func (.func fn) #[] #[] := ⟨_, rfl⟩
            rw [show signV (hi, some k) = #[.int .i64 hi, .func (.func fn) #[] #[]] from by show #[.int .i64 hi, kindV k] = _; rw [hfn]] at hv2
            subst hv2 hv1
            have hres : RR = .error (s9.at' - 1) := by rw [HRC.out, ← HSH.out]; rfl
            have HRES := Lib.hid hres
            clear hres hfn
            go_wp2
            refine ⟨rfl, HC9.out.tch, ?_⟩
            rw [HRES.out]
            try rfl
           | none =>
            rw [show signV (hi, none) = #[.int .i64 hi, .nilFunc] from rfl] at hv2
            subst hv2 hv1
            by_cases hA : 0 ≤ lo ∧ lo ≤ hi
            ·
             have HSA := Lib.hid (show classR src f false (rs ++ [(lo, hi)]) ks s9 = R0 from by rw [← HSH.out]; exact (if_pos hA).symm)
             obtain ⟨a1, a2⟩ := hA
             clear b1 q7
             go_wp2
             go_meet
             exact ⟨lo, hi, s9, rfl, rfl, HC9.out, HSA.out, hle9⟩
            ·
             have hSA : (if rawB lo = true ∧ rawB hi = true ∧ hi ≤ lo then classR src f false (rs ++ [(hi, lo)]) ks s9 else .error (s9.at' - 1)) = R0 := by rw [← HSH.out]; exact (if_neg hA).symm
             have HSA := Lib.hid hSA
             clear hSA
             by_cases h0 : 0 ≤ lo
             ·
              have h1 : ¬ lo ≤ hi := fun h => hA ⟨h0, h⟩
              clear hA
              go_wp2_with fail
              refine (raw_c lo _).mono ?_
              rintro e wq ⟨rfl, hq⟩
              subst hq
              cases hd1 : rawB lo with
              | false =>
               have HRES := Lib.hid (show RR = .error (s9.at' - 1) from by rw [HRC.out, ← HSA.out, if_neg (fun h => by rw [hd1] at h; cases h.1)]; try rfl)
               go_wp2
               refine ⟨rfl, HC9.out.tch, ?_⟩
               rw [HRES.out]
               try rfl
              | true =>
               go_wp2_with fail
               refine (raw_c hi _).mono ?_
               rintro e wq ⟨rfl, hq⟩
               subst hq
               cases hd2 : rawB hi with
               | false =>
                have HRES := Lib.hid (show RR = .error (s9.at' - 1) from by rw [HRC.out, ← HSA.out, if_neg (fun h => by rw [hd2] at h; cases h.2.1)]; try rfl)
                go_wp2
                refine ⟨rfl, HC9.out.tch, ?_⟩
                rw [HRES.out]
                try rfl
               | true =>
                by_cases hle : hi ≤ lo
                ·
                 have HSB2 := Lib.hid (show classR src f false (rs ++ [(hi, lo)]) ks s9 = R0 from by rw [← HSA.out, if_pos ⟨hd1, hd2, hle⟩])
                 clear hd1 hd2
                 go_wp2
                 go_meet
                 exact ⟨hi, lo, s9, rfl, rfl, HC9.out, HSB2.out, hle9⟩
                · exact absurd (show hi ≤ lo by omega) hle
             ·
              clear hA
              go_wp2_with fail
              refine (raw_c lo _).mono ?_
              rintro e wq ⟨rfl, hq⟩
              subst hq
              cases hd1 : rawB lo with
              | false =>
               have HRES := Lib.hid (show RR = .error (s9.at' - 1) from by rw [HRC.out, ← HSA.out, if_neg (fun h => by rw [hd1] at h; cases h.1)]; try rfl)
               go_wp2
               refine ⟨rfl, HC9.out.tch, ?_⟩
               rw [HRES.out]
               try rfl
              | true =>
               go_wp2_with fail
               refine (raw_c hi _).mono ?_
               rintro e wq ⟨rfl, hq⟩
               subst hq
               cases hd2 : rawB hi with
               | false =>
                have HRES := Lib.hid (show RR = .error (s9.at' - 1) from by rw [HRC.out, ← HSA.out, if_neg (fun h => by rw [hd2] at h; cases h.2.1)]; try rfl)
                go_wp2
                refine ⟨rfl, HC9.out.tch, ?_⟩
                rw [HRES.out]
                try rfl
               | true =>
                by_cases hle : hi ≤ lo
                ·
                 have HSB2 := Lib.hid (show classR src f false (rs ++ [(hi, lo)]) ks s9 = R0 from by rw [← HSA.out, if_pos ⟨hd1, hd2, hle⟩])
                 clear hd1 hd2
                 go_wp2
                 go_meet
                 exact ⟨hi, lo, s9, rfl, rfl, HC9.out, HSB2.out, hle9⟩
                ·
                 have HRES := Lib.hid (show RR = .error (s9.at' - 1) from by rw [HRC.out, ← HSA.out, if_neg (fun h => hle h.2.2)]; try rfl)
                 go_wp2
                 refine ⟨rfl, HC9.out.tch, ?_⟩
                 rw [HRES.out]
                 try rfl
        case rest =>
         obtain ⟨a, b, S7, rfl, rfl, hc7, hcr7, hs7⟩ := hcut
         have HC7 := Lib.hid hc7
         have HR7 := Lib.hid hcr7
         have hat7 := hc7.rd.at'
         clear hc7 hcr7 HC6 HSG HGD
         have k1 : wc.cell? ⟨sb, 0, none⟩ = some (.slice s1 n1 c1) := block_cell HC7.out.blk
         go_wp2_with (first
          | (at_builtin; go_loud (refine wpList_push_span (a, b) rfl _ _ rfl w.heap.size (.slice s1 n1 c1) n1 (spanV rs) rfl rfl HC7.out.own1 (by omega) HC7.out.tch.size ?_); intro s' c' w7 ho hb7 hoth; have b7 := hoth _ _ _ HC7.out.blk (by decide); have z1 : w7.cell? ⟨sb, 0, none⟩ = some (.slice s1 n1 c1) := block_cell b7; have z2 : w7.frozen? ⟨sb, 0, none⟩ = false := block_free b7; have HC8 := Lib.hid (ClS.span (x := (a, b)) HR0.out HC7.out ho hb7 hoth); clear b7 ho hb7 hoth))
         generalize w7.setCell ⟨sb, 0, none⟩ (.slice s' (n1 + 1) c') = w8 at HC8 ⊢
         clear z1 z2 k1
         try go_wp2
         go_roundg f
         case measure => omega
         case rel => exact ⟨false, S7, rs ++ [(a, b)], ks, s', n1 + 1, c', s2, n2, c2, rfl, HC8.out, HR7.out, by omega, by omega, by omega⟩
end Go.Proofs.YtdegdoilpamjjaaDoor
