/- Contract of the pattern's reader at a quoted list: pattern. Condition: no more than 2^30 ints. -/
import Derived.Test.YtdegdoilpamjjaaDoorQc
namespace Go.Proofs.YtdegdoilpamjjaaDoor
open Go.RowKit
set_option linter.unusedVariables false
set_option linter.unusedSimpArgs false
theorem Tryd.infoNode : (Tryd.prog.info? 74).map (fun i => (i.zero, i.size, i.bytes)) = some (some .nilIface, 1, 16) := by kernel_rfl
/-- an append of one node -/
theorem wpList_push_node {w : World} {ops : Array Oper} {rest : List Oper} {o : Oper} {a : Act} {Q : Exit → Act → World → Prop} (u : Value) (hu : u.oneCell' = true) (hgd : o.guard = none) (s y : Operand)
    (ho : o.op = .call { callee := .builtin .append, args := #[s, y], argTypes := #[112, 112] })
    (base : Nat) (v : Value) (n : Nat) (xs : List Value) (hs : a.eval s = v) (hy : a.eval y = .slice (some ⟨w.heap.size, 0, none⟩) 1 1) (hown : w.ownsRow base 74 1 v n xs) (hn : n < 1000000) (hbase : base ≤ w.heap.size)
    (h : ∀ s' c' w', w'.ownsRow base 74 1 (.slice s' (n + 1) c') (n + 1) (xs ++ [u]) → Below base w w' → Oth 74 w w' → wpList Tryd.prog ops Q rest (a.put o.dst (.slice s' (n + 1) c')) w') :
    wpList Tryd.prog ops Q (o :: rest) a (w.alloc (.cells #[u] 74)) :=
  wpList_push_e Tryd.underlying112 Tryd.infoNode rfl (by decide) (by decide) [u] (by intro x hx; rw [List.mem_singleton] at hx; subst hx; exact hu) rfl hgd s y ho base v n xs hs hy hown hn hbase h
theorem RdM.re {w0 w : World} {rb : Nat} {sl : Option Addr} {n c : Nat} {src : List Int} {s0 s : RS} {fold : Bool} (h : RdM w0 rb sl n c src s0 fold) (ht : Touch (fun b => b = rb) w0 w) (hb : RdB w rb sl n c s fold) (ha : s.at' ≤ n) : RdM w rb sl n c src s fold := by
  refine ⟨hb, h.len, ?_, h.ne, ha, h.n30⟩
  rcases h.src with h0 | ⟨b', o', e, hb', hc'⟩
  · exact .inl h0
  · exact .inr ⟨b', o', e, Nat.lt_of_lt_of_le hb' ht.size, fun i hi => (World.cell?_of_block (w := w0) (ht.block b' hb' (h.ne _ e))).trans (hc' i hi)⟩
theorem touch_far {w0 a b : World} {rb : Nat} (h : Touch (fun b => b = rb) w0 a) (k : Below w0.heap.size a b) : Touch (fun b => b = rb) w0 b :=
  h.trans (O' := fun x => w0.heap.size ≤ x) ⟨k.os, k.tape, k.output, k.size, fun x hx hn => k.block x (by omega)⟩ (fun x hx => .inr hx)
/-- while a row is read -/
structure PatS (w0 w : World) (rb : Nat) (sl : Option Addr) (n c : Nat) (fold : Bool) (l : List Int) (cb mb k : Nat) (sM : Option Addr) (cM : Nat) (vs : List Value) : Prop where
  blk : RdB w rb sl n c ⟨posQ l k, 0⟩ fold
  tch : Touch (fun b => b = rb) w0 w
  cge : w0.heap.size ≤ cb
  mge : w0.heap.size ≤ mb
  cblk : w.heap[cb]? = some (.cells #[.slice none 0 0] 114 (0, 0))
  mblk : w.heap[mb]? = some (.cells #[.slice sM k cM] 117 (0, 0))
  own : w.ownsRow w0.heap.size 74 1 (.slice sM k cM) k vs
  sets : ∀ i (hi : i < vs.length) (hj : i < l.length), SetN w fold vs[i] l[i]
theorem PatS.len {w0 w : World} {rb : Nat} {sl : Option Addr} {n c : Nat} {fold : Bool} {l : List Int} {cb mb k : Nat} {sM : Option Addr} {cM : Nat} {vs : List Value} (h : PatS w0 w rb sl n c fold l cb mb k sM cM vs) : vs.length = k := by
  rw [h.own.1, Nat.mul_one]
/-- behind a member -/
theorem PatS.read {w0 w w2 : World} {rb : Nat} {sl : Option Addr} {n c : Nat} {fold : Bool} {l : List Int} {cb mb k : Nat} {sM : Option Addr} {cM : Nat} {vs : List Value} (h : PatS w0 w rb sl n c fold l cb mb k sM cM vs) (ht : Touch (fun b => b = rb) w w2) :
    w2.heap[cb]? = some (.cells #[.slice none 0 0] 114 (0, 0)) ∧ w2.heap[mb]? = some (.cells #[.slice sM k cM] 117 (0, 0)) ∧ w2.ownsRow w0.heap.size 74 1 (.slice sM k cM) k vs ∧ KeepS w w2 ∧ Touch (fun b => b = rb) w0 w2 := by
  refine ⟨(ht.block _ (heap_lt h.cblk) (type_ne h.cblk h.blk (by decide))).trans h.cblk, (ht.block _ (heap_lt h.mblk) (type_ne h.mblk h.blk (by decide))).trans h.mblk, ?_, KeepS.touch ht h.blk (by decide) (by decide), h.tch.trans ht (fun x hx => .inl hx)⟩
  refine own_kept h.own fun b hb => ?_
  obtain ⟨cs, h1⟩ := own_type h.own hb
  exact ht.block _ (heap_lt h1) (type_ne h1 h.blk (by decide))
theorem PatS.push {w0 w w2 w3 : World} {rb : Nat} {sl : Option Addr} {n c : Nat} {fold : Bool} {l : List Int} {cb mb k : Nat} {sM : Option Addr} {cM : Nat} {vs : List Value} (h : PatS w0 w rb sl n c fold l cb mb k sM cM vs) (ht : Touch (fun b => b = rb) w w2) {v : Value}
    (hr : RdB w2 rb sl n c ⟨posQ l (k + 1), 0⟩ fold) (hk : k < l.length) (hv : SetN w2 fold v l[k]) {s' : Option Addr} {c' : Nat} (ho : w3.ownsRow w0.heap.size 74 1 (.slice s' (k + 1) c') (k + 1) (vs ++ [v])) (hb : Below w0.heap.size w2 w3) (hoth : Oth 74 w2 w3) :
    PatS w0 (w3.setCell ⟨mb, 0, none⟩ (.slice s' (k + 1) c')) rb sl n c fold l cb mb (k + 1) s' c' (vs ++ [v]) := by
  obtain ⟨p1, p2, p3, p4, p5⟩ := h.read ht
  have m3 := hoth _ _ _ p2 (by decide)
  have c3 := hoth _ _ _ p1 (by decide)
  have r3 := hoth _ _ _ hr (by decide)
  have k3 : KeepS w2 w3 := KeepS.oth hoth (by decide) (by decide)
  have k4 : KeepS w3 (w3.setCell ⟨mb, 0, none⟩ (.slice s' (k + 1) c')) := KeepS.setCell _ m3 (by decide) (by decide)
  have hm : ∀ x, x ≠ mb → (w3.setCell ⟨mb, 0, none⟩ (.slice s' (k + 1) c')).heap[x]? = w3.heap[x]? := fun x hx => Below.heap_setCell _ _ _ _ hx
  refine ⟨(hm rb (type_ne r3 m3 (by decide))).trans r3, ?_, h.cge, h.mge, (hm cb (type_ne c3 m3 (by decide))).trans c3, ?_, ?_, ?_⟩
  · exact (touch_far p5 hb).trans (Touch.setCell (fun b => b = mb) w3 (p := ⟨mb, 0, none⟩) rfl _) (fun x hx => .inr (by rw [hx]; exact h.mge))
  · rw [block_set _ m3]; rfl
  · refine own_kept ho fun b hb => ?_
    obtain ⟨cs, h1⟩ := own_type ho hb
    exact hm b (type_ne h1 m3 (by decide))
  · intro i hi hj
    by_cases e : i < vs.length
    · rw [List.getElem_append_left e]
      exact (((h.sets i e hj).keep p4).keep k3).keep k4
    · have hl := h.len
      rw [List.length_append, List.length_singleton] at hi
      obtain rfl : i = vs.length := by omega
      rw [List.getElem_append_right (Nat.le_refl _)]
      have e2 : l[vs.length]'hj = l[k] := by congr 1
      rw [e2]
      simpa using (hv.keep k3).keep k4
/-- what pattern leaves -/
structure PatE (w0 w : World) (rb : Nat) (sl : Option Addr) (n c : Nat) (fold : Bool) (l : List Int) (cb mb : Nat) (sR : Option Addr) (cR : Nat) (sM : Option Addr) (cM : Nat) (vs : List Value) : Prop where
  blk : RdB w rb sl n c ⟨(qd l).length, 0⟩ fold
  tch : Touch (fun b => b = rb) w0 w
  cblk : w.heap[cb]? = some (.cells #[.slice sR 1 cR] 114 (0, 0))
  mblk : w.heap[mb]? = some (.cells #[.slice sM l.length cM] 117 (0, 0))
  ownR : w.ownsRow w0.heap.size 74 1 (.slice sR 1 cR) 1 [.iface 115 (.pointer (some ⟨mb, 0, none⟩))]
  own : w.ownsRow w0.heap.size 74 1 (.slice sM l.length cM) l.length vs
  sets : ∀ i (hi : i < vs.length) (hj : i < l.length), SetN w fold vs[i] l[i]
theorem PatS.done {w0 w w3 : World} {rb : Nat} {sl : Option Addr} {n c : Nat} {fold : Bool} {l : List Int} {cb mb : Nat} {sM : Option Addr} {cM : Nat} {vs : List Value} (h : PatS w0 w rb sl n c fold l cb mb l.length sM cM vs)
    {s' : Option Addr} {c' : Nat} (ho : w3.ownsRow w.heap.size 74 1 (.slice s' 1 c') 1 [.iface 115 (.pointer (some ⟨mb, 0, none⟩))]) (hb : Below w.heap.size w w3) :
    PatE w0 (w3.setCell ⟨cb, 0, none⟩ (.slice s' 1 c')) rb sl n c fold l cb mb s' c' sM cM vs := by
  have hz := h.tch.size
  have hk : ∀ {b : Nat} {o : Obj}, w.heap[b]? = some o → w3.heap[b]? = some o := fun {b o} h1 => (hb.block b (heap_lt h1)).trans h1
  have m3 := hk h.mblk
  have c3 := hk h.cblk
  have r3 := hk h.blk
  have k3 : KeepS w w3 := KeepS.below hb
  have k4 : KeepS w3 (w3.setCell ⟨cb, 0, none⟩ (.slice s' 1 c')) := KeepS.setCell _ c3 (by decide) (by decide)
  have hm : ∀ x, x ≠ cb → (w3.setCell ⟨cb, 0, none⟩ (.slice s' 1 c')).heap[x]? = w3.heap[x]? := fun x hx => Below.heap_setCell _ _ _ _ hx
  have ho3 := own_later h.own hb
  refine ⟨?_, ?_, ?_, (hm mb (type_ne m3 c3 (by decide))).trans m3, ?_, ?_, fun i hi hj => ((h.sets i hi hj).keep k3).keep k4⟩
  · rw [← posQ_all]; exact (hm rb (type_ne r3 c3 (by decide))).trans r3
  · exact (touch_far h.tch (hb.mono hz)).trans (Touch.setCell (fun b => b = cb) w3 (p := ⟨cb, 0, none⟩) rfl _) (fun x hx => .inr (by rw [hx]; exact h.cge))
  · rw [block_set _ c3]; rfl
  · refine own_mono (own_kept ho fun b hb => ?_) hz
    obtain ⟨cs, h1⟩ := own_type ho hb
    exact hm b (type_ne h1 c3 (by decide))
  · refine own_kept ho3 fun b hb => ?_
    obtain ⟨cs, h1⟩ := own_type ho3 hb
    exact hm b (type_ne h1 c3 (by decide))
theorem PatE.drewN {w0 w : World} {rb : Nat} {sl : Option Addr} {n c : Nat} {fold : Bool} {l : List Int} {cb mb : Nat} {sR : Option Addr} {cR : Nat} {sM : Option Addr} {cM : Nat} {vs : List Value} (h : PatE w0 w rb sl n c fold l cb mb sR cR sM cM vs) (m : Nat) : PatE w0 (w.drewN m) rb sl n c fold l cb mb sR cR sM cM vs :=
  ⟨h.blk, touch_drewN h.tch, h.cblk, h.mblk, h.ownR, h.own, h.sets⟩
theorem PatS.begin (w0 w1 : World) (rb : Nat) (sl : Option Addr) (n c : Nat) (fold : Bool) (l : List Int) (hr : RdB w0 rb sl n c ⟨0, 0⟩ fold) (hw1 : w0.alloc (.cells #[.slice none 0 0] 114) = w1) (o : Obj) (ho : o = .cells #[.slice none 0 0] 117) :
    PatS w0 (w1.alloc o) rb sl n c fold l w0.heap.size (w0.heap.size + 1) 0 none 0 [] := by
  have hb1 := below_newJ w0 (.cells #[.slice none 0 0] 114)
  have hz := size_new w0 (.cells #[.slice none 0 0] 114)
  have h1 := one_new w0 (.cells #[.slice none 0 0] 114)
  rw [hw1] at hb1 hz h1
  clear hw1
  have h2 := one_new w1 o
  have h1' := at_new o h1
  have hb2 := hb1.alloc (by omega) o
  subst ho
  rw [hz] at h2
  exact ⟨(hb2.block _ (heap_lt hr)).trans hr, Touch.of hb2, Nat.le_refl _, by omega, h1', h2, World.ownsRow_nil _ _ _ 1, fun i hi => absurd hi (by simp)⟩
theorem PatS.drewN {w0 w : World} {rb : Nat} {sl : Option Addr} {n c : Nat} {fold : Bool} {l : List Int} {cb mb k : Nat} {sM : Option Addr} {cM : Nat} {vs : List Value} (h : PatS w0 w rb sl n c fold l cb mb k sM cM vs) (m : Nat) : PatS w0 (w.drewN m) rb sl n c fold l cb mb k sM cM vs :=
  ⟨h.blk, touch_drewN h.tch, h.cge, h.mge, h.cblk, h.mblk, h.own, h.sets⟩
set_option maxRecDepth 100000 in
set_option maxHeartbeats 8000000 in
theorem pattern_q (rb : Nat) (sl : Option Addr) (n c : Nat) (l : List Int) (fold : Bool) (w : World) (h : RdM w rb sl n c (qd l) ⟨0, 0⟩ fold) (hl : l.length < 100000) :
    Calls Tryd.prog 35 #[.pointer (some ⟨rb, 0, none⟩)] w fun e w' => ∃ cb mb sR cR sM cM vs, e = .returned (.iface 111 (.pointer (some ⟨cb, 0, none⟩))) ∧ PatE w w' rb sl n c fold l cb mb sR cR sM cM vs := by
  have HRD := Lib.hid h
  have hlen := h.len
  have hn30 := h.n30
  have hb0 := PatS.begin w _ rb sl n c fold l h.blk rfl _ rfl
  have HB0 := Lib.hid hb0
  clear h hb0
  go_enter Tryd.func35, Tryd.ntmps35
  go_wp2_with fail
  go_loopg [4] 1 (fun gg mv wr => gg = 1 ∧ wr = w.alloc (.cells #[.slice none 0 0] 114))
  case atStart => exact ⟨rfl, rfl⟩
  case round =>
    obtain ⟨rfl, rfl⟩ := hrel
    go_wp2_with fail
    generalize (w.alloc (.cells #[.slice none 0 0] 114)).alloc (.cells #[.slice none 0 0] 117) = w1 at HB0 ⊢
    go_loopg [] l.length (fun gg wr => ∃ (k : Nat) (sM : Option Addr) (cM : Nat) (vs : List Value), k + gg = l.length ∧ PatS w wr rb sl n c fold l w.heap.size (w.heap.size + 1) k sM cM vs)
    case atStart => exact ⟨0, none, 0, [], by omega, HB0.out⟩
    case round =>
      obtain ⟨k, sM, cM, vs, hk, hps⟩ := hrel
      have HPS := Lib.hid hps
      clear hps HB0
      have hRd : RdM wr rb sl n c (qd l) ⟨posQ l k, 0⟩ fold := HRD.out.re HPS.out.tch HPS.out.blk (by
        rw [← hlen]
        by_cases e : k < l.length
        · exact Nat.le_trans (Nat.le_add_right _ _) (posQ_lt l e)
        · obtain rfl : k = l.length := by omega
          rw [posQ_all]; exact Nat.le_refl _)
      have HR := Lib.hid hRd
      clear hRd
      have b0 : wr.cell? ⟨rb, 0, none⟩ = some (.slice sl n c) := block_cell HPS.out.blk
      have b1 : wr.cell? ⟨rb, 1, none⟩ = some (.int .i64 (posQ l k)) := block_cell HPS.out.blk
      by_cases hlt : k < l.length
      · have HQE := Lib.hid (qd_QE l (k := k) (Nat.le_of_lt hlt))
        have HQE2 := Lib.hid (qd_QE l (k := k + 1) hlt)
        have hqp := qd_QP l hlt
        have HLT := Lib.hid hlt
        obtain ⟨x, hx⟩ : ∃ x, l[k]'HLT.out = x := ⟨_, rfl⟩
        rw [hx] at hqp
        have HX := Lib.hid hx
        have HQP := Lib.hid hqp
        clear hqp hx
        have HX1 : Hid (∀ m, Calls Tryd.prog 53 #[.pointer (some ⟨rb, 0, none⟩), .int .i64 124] (wr.drewN m) fun e w' => e = .returned (.bool false) ∧ ∃ m', w' = (wr.drewN m).drewN m') := Lib.hid (fun m => by
          have := escaped_c rb sl n c (qd l) ⟨posQ l k, 0⟩ fold 124 (wr.drewN m) (HR.out.drewN m)
          rw [HQE.out.no 124 rfl] at this
          exact this)
        have HX2 : Hid (∀ m, Calls Tryd.prog 53 #[.pointer (some ⟨rb, 0, none⟩), .int .i64 41] (wr.drewN m) fun e w' => e = .returned (.bool false) ∧ ∃ m', w' = (wr.drewN m).drewN m') := Lib.hid (fun m => by
          have := escaped_c rb sl n c (qd l) ⟨posQ l k, 0⟩ fold 41 (wr.drewN m) (HR.out.drewN m)
          rw [HQE.out.no 41 rfl] at this
          exact this)
        obtain ⟨p, hp⟩ : ∃ p, posQ l k = p := ⟨_, rfl⟩
        have q1 : (p : Int) < (n : Int) := by have := posQ_lt l hlt; have := (qc_pos l[k]).1; omega
        rw [hp] at b1
        have HP := Lib.hid hp
        have HK := Lib.hid hk
        clear hp hk hlt
        go_wp2_with fail
        go_quiet (first | (go_at_call 53; first | with_reducible exact Calls.quiet_of (HX1.out _) | with_reducible exact Calls.quiet_of (HX2.out _)))
        go_wp2_with fail
        have HPSq := Lib.hid (HPS.out.drewN nq)
        have HRq := Lib.hid (HR.out.drewN nq)
        clear HPS HR HX1 HX2 b0 b1
        generalize World.drewN wr nq = w2 at HPSq HRq ⊢
        have hd := (Below.refl w2.heap.size w2).drew
        have HRd := Lib.hid (HRq.out.later hd)
        have HTd := Lib.hid (Touch.of (O := fun b => b = rb) hd)
        have k0 : w2.drew.cell? ⟨w.heap.size + 1, 0, none⟩ = some (.slice sM k cM) := block_cell ((hd.block _ (heap_lt HPSq.out.mblk)).trans HPSq.out.mblk)
        clear hd
        go_region_law (first
          | (go_simp; go_at_call 54; refine (member_q rb sl n c (qd l) ⟨posQ l k, 0⟩ fold x (posQ l (k + 1)) _ HRd.out HQP.out HQE.out HQE2.out).mono ?_; rintro e w3 ⟨v, rfl, hs, ht, hr3⟩; obtain ⟨bs, gs, rfl, hs1, hs2⟩ := hs; have HS1 := Lib.hid hs1; have HS2 := Lib.hid hs2; have HR3 := Lib.hid hr3; have HT3 := Lib.hid (HTd.out.trans ht (fun x hx => .inl hx)); have m3 := (HPSq.out.read HT3.out).2.1; have k1 : w3.cell? ⟨w.heap.size + 1, 0, none⟩ = some (.slice sM k cM) := block_cell m3; have k2 : (w3.alloc (.cells #[.iface 78 (.pointer (some ⟨bs, 0, none⟩))] 74)).cell? ⟨w.heap.size + 1, 0, none⟩ = some (.slice sM k cM) := block_cell (at_new _ m3); have M3 := Lib.hid m3; clear hs1 hs2 hr3 ht m3)
          | (refine step_push_e Tryd.underlying112 Tryd.infoNode rfl (by decide) (by decide) [.iface 78 (.pointer (some ⟨bs, 0, none⟩))] (by intro u hu; rw [List.mem_singleton] at hu; subst hu; rfl) rfl ?_ (.tmp 33) (.tmp 36) ?_ w.heap.size (.slice sM k cM) k vs ?_ ?_ (HPSq.out.read HT3.out).2.2.1 (by have := HK.out; omega) (HPSq.out.read HT3.out).2.2.2.2.size ?_; rfl; rfl; simp [Act.eval]; simp [Act.eval]; intro s' c' w4 ho hb4 hoth; have m4 := hoth _ _ _ M3.out (by decide); have k3 : w4.cell? ⟨w.heap.size + 1, 0, none⟩ = some (.slice sM k cM) := block_cell m4; have k4 : w4.frozen? ⟨w.heap.size + 1, 0, none⟩ = false := block_free m4; have HP4 := Lib.hid (HPSq.out.push HT3.out HR3.out.blk HLT.out (by rw [HX.out]; exact ⟨bs, gs, rfl, HS1.out, HS2.out⟩) ho hb4 hoth); clear m4 ho hb4 hoth))
        all_goals
          generalize w4.setCell ⟨w.heap.size + 1, 0, none⟩ (.slice s' (k + 1) c') = w5 at HP4 ⊢
          clear k0 k1 k2 k3 k4
          go_wp2
          go_roundg (gk - 1)
          case measure => have := HK.out; have := HLT.out; omega
          case rel => exact ⟨k + 1, s', c', _, by have := HK.out; have := HLT.out; omega, HP4.out⟩
      · obtain rfl : k = l.length := by omega
        have HQE := Lib.hid (qd_QE l (k := l.length) (Nat.le_refl _))
        have hpn : posQ l l.length = n := by rw [posQ_all]; exact hlen
        have q1 : decide (((posQ l l.length : Nat) : Int) < (n : Int)) = false := decide_eq_false (by omega)
        have q1b : decide (posQ l l.length < n) = false := decide_eq_false (by omega)
        have HK := Lib.hid hk
        clear hlt hpn hk
        obtain ⟨p, hp⟩ : ∃ p, posQ l l.length = p := ⟨_, rfl⟩
        rw [hp] at b1 q1 q1b
        clear hp
        obtain ⟨k, hk⟩ : ∃ k, l.length = k := ⟨_, rfl⟩
        have HLK := Lib.hid hk
        clear hk
        go_wp2_with fail
        go_quiet (fail)
        have HPSq := Lib.hid (HPS.out.drewN nq)
        have HRq := Lib.hid (HR.out.drewN nq)
        clear HPS HR b0 b1
        generalize World.drewN wr nq = w2 at HPSq HRq ⊢
        have c0 : w2.cell? ⟨w.heap.size, 0, none⟩ = some (.slice none 0 0) := block_cell HPSq.out.cblk
        go_wp2_with (first | (at_builtin; refine wpList_push_node (.iface 115 (.pointer (some ⟨w.heap.size + 1, 0, none⟩))) rfl rfl _ _ rfl w2.heap.size (.slice none 0 0) 0 [] rfl rfl (World.ownsRow_nil _ _ _ _) (by omega) (Nat.le_refl _) ?_; intro s' c' w3 ho hb3 hoth; have HP3 := Lib.hid (HPSq.out.done ho hb3); have c3 : w3.cell? ⟨w.heap.size, 0, none⟩ = some (.slice none 0 0) := block_cell ((hb3.block _ (heap_lt HPSq.out.cblk)).trans HPSq.out.cblk); have f3 : w3.frozen? ⟨w.heap.size, 0, none⟩ = false := block_free ((hb3.block _ (heap_lt HPSq.out.cblk)).trans HPSq.out.cblk); clear ho hb3 hoth))
        generalize w3.setCell ⟨w.heap.size, 0, none⟩ (.slice s' 1 c') = w4 at HP3 ⊢
        have HR4 := Lib.hid (HRD.out.re HP3.out.tch HP3.out.blk (by rw [hlen]; exact Nat.le_refl _))
        refine (escaped_c rb sl n c (qd l) ⟨(qd l).length, 0⟩ fold 124 _ HR4.out).mono ?_
        rintro e w5 ⟨rfl, m, rfl⟩
        rw [show escB (qd l) (qd l).length 124 = false from by rw [← posQ_all]; exact HQE.out.no 124 rfl]
        clear c0 c3 f3
        go_wp2
        go_ret
        exact ⟨_, _, _, _, _, _, _, rfl, HP3.out.drewN m⟩
end Go.Proofs.YtdegdoilpamjjaaDoor
