/- Contract: compile of a choice: the walk. -/
import Derived.BigRegion
import Derived.Test.YtdegdoilpamjjaaDoorCAn
namespace Go.Proofs.YtdegdoilpamjjaaDoor
open Go.RowKit
set_option linter.unusedVariables false
set_option linter.unusedSimpArgs false
set_option maxRecDepth 100000 in
set_option maxHeartbeats 16000000 in
theorem compile_choice_g (B E base pb : Nat) (groups : Int) (ns : List Nd) (h0 : 0 < ns.length) (hG : ∀ m ∈ ns, GoodN m) (hlen : ns.length ≤ 1000000) (ih : ∀ m ∈ ns, CompK B E base pb groups m) : CompK B E base pb groups (.choice ns) := by
 intro v w l dp d hn hp hsz hd hbase
 obtain ⟨M, hM, hmx, b2, f2, h1, h2, h3⟩ := hp.start d hbase
 have hle := hp.le
 have HP := Lib.hid h1
 have HF := Lib.hid h2
 have HZ := Lib.hid h3
 rw [sizeA] at hsz
 rw [deepA] at hd ⊢
 rw [genA]
 have HMM := Lib.hid hM
 clear hM
 cases hn with
 | choice b v1 vs _ hb hE h hsl hl hnn hcap =>
 obtain ⟨sl, c, rfl, hcp⟩ := hcap
 obtain ⟨sl', c', e, hsl2⟩ := hsl.at'
 obtain ⟨e1, -, e3⟩ := Value.slice.inj e
 subst e1 e3
 obtain ⟨g, off, rfl⟩ := hsl2 (by omega)
 obtain ⟨m, hm⟩ : ∃ m, vs.length = m + 1 := ⟨vs.length - 1, by omega⟩
 rw [hm] at h hcp hsl e
 have e0 : (w.setCell ⟨pb, 2, none⟩ (.int .i64 M)).cell? ⟨b, 0, none⟩ = some (.slice (some ⟨g, off, none⟩) (m + 1) c) := block_cell (h2.blk h (by omega))
 have HB := Lib.hid (h2.blk h (by omega))
 have HS := Lib.hid (h2.slr hsl hle)
 have HN := Lib.hid (fun i hi hj => h2.node (hnn i hi hj) hle)
 have HL := Lib.hid hl
 have HI := Lib.hid ih
 have HG := Lib.hid hG
 have HM := Lib.hid hm
 have hbE : b < base := by omega
 clear h h1 h2 h3 hp hsl hnn hl ih hsl2 hG hm e
 have as1 := as_choice_set
 have as2 := as_choice_edge
 have as3 := as_choice_row
 have as4 := as_choice_choice
 have hc1 : m ≤ c := by omega
 have hc2 : (m : Int) ≤ (c : Int) := by omega
 have hc3 : (0 : Int) ≤ (m : Int) := by omega
 have q0 : IntKind.i64.wrap (m : Int) = (m : Int) := by rw [IntKind.wrap_i64]; have := HL.out; have := HM.out; omega
 go_enter Tryd.func36, Tryd.ntmps36
 go_upto_region 18 with (fail)
 generalize w.setCell ⟨pb, 2, none⟩ (.int .i64 M) = w1 at HP HF HZ HS HN HB e0 ⊢
 go_quiet (fail)
 have HWn := Lib.hid (show Below w1.heap.size w1 (w1.drewN nq) from below_drewN (Below.refl _ _))
 have HP1 := Lib.hid (HP.out.later HZ.out HWn.out)
 have HF1 := Lib.hid (FrA.new HWn.out HZ.out)
 have HE0 := Lib.hid (show (w1.drewN nq).heap[b]? = _ from HB.out)
 have hzq : (w1.drewN nq).heap.size = w1.heap.size := rfl
 have HZQ := Lib.hid hzq
 clear hzq e0
 go_wp2_with fail
 generalize w1.drewN nq = w2 at HWn HP1 HF1 HE0 HZQ ⊢
 go_loopg [12, 79] m (fun gg ov iv wr => ∃ (k : Nat) (sO : Option Addr) (cO : Nat), k + gg = m ∧ ov = .slice sO k cO ∧ iv = .int .i64 k ∧ FrA base w1 wr ∧ PaG wr B E base pb groups (max M (deepL d (ns.take k))) (l ++ genK (ns.take k) l.length) ∧ wr.ownsRow w1.heap.size 3 1 (.slice sO k cO) k (endsV (endsK (ns.take k) l.length)))
 case atStart =>
  refine ⟨0, none, 0, by omega, rfl, rfl, HF1.out, ?_, World.ownsRow_nil _ _ _ _⟩
  have e : max M (deepL d (ns.take 0)) = M := by rw [List.take_zero, deepL, HMM.out]; omega
  rw [e]
  simpa [genK] using HP1.out
 case round =>
  obtain ⟨k, sO, cO, hk, rfl, rfl, hf, hp, ho⟩ := hrel
  have HO := Lib.hid ho
  by_cases hlt : k < m
  ·
   have hkv : k < vs.length := by rw [HM.out]; omega
   have hkn : k < ns.length := by rw [← HL.out]; exact hkv
   have c0 := (FrA.slr hf HS.out hle).cell1 hkv
   have HNK := Lib.hid (hf.node (HN.out k hkv hkn) hle)
   have hst := sizeL_take ns k hkn
   have hgl : (l ++ genK (ns.take k) l.length).length = l.length + (sizeL (ns.take k) + 2 * k) := by
    rw [List.length_append, genK_len _ _ (fun m hm b => genA_len (HG.out m (List.mem_of_mem_take hm)) b), List.length_take, Nat.min_eq_left (by omega)]
   obtain ⟨F, hF⟩ : ∃ F, (l ++ genK (ns.take k) l.length).length = F := ⟨_, rfl⟩
   have hFs : F + sizeA ns[k] + 2 < 100000000 := by have := HL.out; have := HM.out; omega
   have hmem : ns[k] ∈ ns := List.getElem_mem _
   have e1 : l ++ genK (ns.take (k + 1)) l.length = (l ++ genK (ns.take k) l.length) ++ (⟨2, (F + 1 : Nat), (F + sizeA ns[k] + 2 : Nat), none⟩ :: (genA ns[k] (F + 1) ++ [⟨2, 0, 0, none⟩])) := by
    rw [List.take_succ_eq_append_getElem hkn, genK_snoc, List.append_assoc, ← hF, hgl, List.length_take, Nat.min_eq_left (by omega)]
   have e2 : deepL d (ns.take (k + 1)) = max (deepL d (ns.take k)) (deepA d ns[k]) := by rw [List.take_succ_eq_append_getElem hkn, deepL_snoc]
   have e3 : endsK (ns.take (k + 1)) l.length = endsK (ns.take k) l.length ++ [F + sizeA ns[k] + 1] := by
    rw [List.take_succ_eq_append_getElem hkn, endsK_snoc, ← hF, hgl, List.length_take, Nat.min_eq_left (by omega)]
   have hdm := deepL_mem d ns ns[k] hmem
   have hdm2 : deepA d ns[k] < 1000000 := by omega
   have hgA := genA_len (HG.out ns[k] hmem)
   have HIK := Lib.hid (HI.out ns[k] hmem)
   have HE1 := Lib.hid e1
   have HE2 := Lib.hid e2
   have HE3 := Lib.hid e3
   have HFF := Lib.hid hF
   have HGA := Lib.hid hgA
   have HFr := Lib.hid hf
   have HPr := Lib.hid hp
   have HK := Lib.hid hk
   have HLT := Lib.hid hlt
   have q1 : (k : Int) < (m : Int) := by omega
   have q2 : (0 : Int) ≤ (k : Int) := by omega
   have q3 : IntKind.i64.wrap ((k : Int) + 1) = ((k + 1 : Nat) : Int) := by rw [IntKind.wrap_i64]; have := HL.out; have := HM.out; omega
   generalize vs[k] = vk at c0 HNK
   generalize ns[k] = nk at HNK hFs hdm2 HIK HE1 HE2 HE3 HGA
   clear hf hp ho hst hgl hF hmem e1 e2 e3 hdm hgA hk hlt hsz hd HS HN HI HG hkv hkn
   generalize l ++ genK (ns.take k) l.length = X at HE1 HFF HPr
   go_wp2_with fail
   refine (emit_g wr B E base pb groups _ X HPr.out ⟨2, 0, 0, none⟩ none rfl (by rw [HFF.out]; omega) (Nat.le_trans HZ.out HFr.out.below.size)).mono ?_
   rintro e w3 ⟨rfl, hf, hp⟩
   rw [HFF.out]
   have hlen1 : (X ++ [(⟨2, 0, 0, none⟩ : ActD)]).length = F + 1 := by rw [List.length_append, HFF.out]; rfl
   obtain ⟨g2, c2, y0, fz, hne, hcl, hX, -, -, -⟩ := hp.open' (by omega)
   rw [hlen1] at y0
   obtain ⟨u2, y2⟩ : ∃ u, w3.cell? ⟨g2, F * 4 + 1, none⟩ = some (.int .i64 u) := ⟨_, (hcl F (by omega)).1⟩
   have y1 := fz (F * 4 + 1)
   have HX := Lib.hid (hX F ((F : Int) + 1))
   have HF3 := Lib.hid (HFr.out.trans hf)
   have HO3 := Lib.hid (hf.ownT (by decide) (by decide) HO.out)
   have HN3 := Lib.hid (hf.node HNK.out hle)
   have r1 : (F : Int) < (F : Int) + 1 := by omega
   have r2 : (0 : Int) ≤ (F : Int) := by omega
   clear hf hp fz hne hX c0 hcl HFr HO HNK HPr
   go_upto_region 22 with (fail)
   go_region
   obtain ⟨hp4, hf4⟩ := HX.out
   rw [modify_last X _ F _ HFF.out.symm] at hp4
   have hbd := (Below.refl (w3.setCell ⟨g2, F * 4 + 1, none⟩ (.int .i64 ((F : Int) + 1))).heap.size (w3.setCell ⟨g2, F * 4 + 1, none⟩ (.int .i64 ((F : Int) + 1)))).drew
   have hz4 : base ≤ (w3.setCell ⟨g2, F * 4 + 1, none⟩ (.int .i64 ((F : Int) + 1))).heap.size := Nat.le_trans (Nat.le_trans HZ.out HF3.out.below.size) hf4.below.size
   have HP4 := Lib.hid (hp4.later hz4 hbd)
   have hf5 := hf4.trans (FrA.new hbd hz4)
   have HF4 := Lib.hid (HF3.out.trans hf5)
   have HO4 := Lib.hid (hf5.ownT (by decide) (by decide) HO3.out)
   have HN4 := Lib.hid (hf5.node HN3.out hle)
   have HZ4 := Lib.hid (show base ≤ (w3.setCell ⟨g2, F * 4 + 1, none⟩ (.int .i64 ((F : Int) + 1))).drew.heap.size from hz4)
   clear hp4 hf4 hbd hz4 hf5 HX HF3 HO3 HN3 y0 y1 y2 r1
   generalize (w3.setCell ⟨g2, F * 4 + 1, none⟩ (.int .i64 ((F : Int) + 1))).drew = w4 at HP4 HF4 HO4 HN4 HZ4 ⊢
   have hlen2 : (X ++ [(⟨2, (F : Int) + 1, 0, none⟩ : ActD)]).length = F + 1 := by rw [List.length_append, HFF.out]; rfl
   have hcall := HIK.out vk w4 _ _ d HN4.out HP4.out (by rw [hlen2]; omega) hdm2 HZ4.out
   rw [hlen2, Nat.max_assoc, ← HE2.out, List.append_assoc] at hcall
   have HC := Lib.hid hcall
   clear hcall hlen2 HP4
   go_wp2_with fail
   refine HC.out.mono ?_
   rintro e w5 ⟨rfl, hf, hp⟩
   have HF5 := Lib.hid (HF4.out.trans hf)
   have HO5 := Lib.hid (hf.ownT (by decide) (by decide) HO4.out)
   have HZ5 := Lib.hid (Nat.le_trans HZ4.out hf.below.size)
   have HP5 := Lib.hid hp
   have hlen3 : (X ++ ([(⟨2, (F : Int) + 1, 0, none⟩ : ActD)] ++ genA nk (F + 1))).length = F + 1 + sizeA nk := by simp only [List.length_append, HFF.out, HGA.out, List.length_cons, List.length_nil]; omega
   have HL3 := Lib.hid hlen3
   clear hf hp HC HF4 HO4 HN4 HZ4 hlen3
   go_wp2_with fail
   refine (emit_g w5 B E base pb groups _ _ HP5.out ⟨2, 0, 0, none⟩ none rfl (by rw [HL3.out]; omega) HZ5.out).mono ?_
   rintro e w6 ⟨rfl, hf, hp⟩
   rw [HL3.out]
   have HF6 := Lib.hid (HF5.out.trans hf)
   have HO6 := Lib.hid (hf.ownT (by decide) (by decide) HO5.out)
   have HP6 := Lib.hid hp
   clear hf hp HF5 HO5 HZ5 HP5
   obtain ⟨G, hG⟩ : ∃ G, F + 1 + sizeA nk = G := ⟨_, rfl⟩
   rw [hG]
   have HGG := Lib.hid hG
   clear hG
   go_upto_region 25 with (first | (at_builtin; refine wpList_push_g (w := w6) Tryd.underlying22 Tryd.infoInt rfl (by decide) (by decide) [.int .i64 G] (by intro u hu; rcases List.mem_singleton.mp hu with rfl; rfl) rfl rfl _ _ rfl w1.heap.size (.slice sO k cO) k _ rfl rfl HO6.out (by have := HLT.out; have := HM.out; have := HL.out; omega) HF6.out.below.size ?_; intro s2 c2' w7 hq; have HF7 := Lib.hid (HF6.out.pushNew (Nat.le_refl _) HZ.out HO6.out hq); have HP7 := Lib.hid (HP6.out.oth (hq.2.1.mono HZ.out) (by decide) (by decide) hq.2.2.1); have HO7 := Lib.hid hq.1; clear hq))
   have hlen4 : (X ++ ([(⟨2, (F : Int) + 1, 0, none⟩ : ActD)] ++ genA nk (F + 1)) ++ [(⟨2, 0, 0, none⟩ : ActD)]).length = G + 1 := by rw [List.length_append, HL3.out, HGG.out]; rfl
   have hFG : F < G + 1 := by have := HGG.out; omega
   have hGE : (G : Int) + 1 = ((F + sizeA nk + 2 : Nat) : Int) := by have := HGG.out; omega
   have hmodY : (X ++ ([(⟨2, (F : Int) + 1, 0, none⟩ : ActD)] ++ genA nk (F + 1)) ++ [(⟨2, 0, 0, none⟩ : ActD)]).modify F (fun a => { a with y := (G : Int) + 1 }) = l ++ genK (ns.take (k + 1)) l.length := by
    rw [HE1.out, hGE]
    simp only [List.append_assoc, List.cons_append, List.nil_append]
    have := modify_mid X (⟨2, (F : Int) + 1, 0, none⟩ : ActD) (genA nk (F + 1) ++ [(⟨2, 0, 0, none⟩ : ActD)]) (fun a => { a with y := ((F + sizeA nk + 2 : Nat) : Int) })
    rw [HFF.out] at this
    exact this
   obtain ⟨g3, c3, y0, fz, hne, hcl, -, hY, -, -⟩ := HP7.out.open' (by omega)
   rw [hlen4] at y0
   obtain ⟨u2, y2⟩ : ∃ u, w7.cell? ⟨g3, F * 4 + 2, none⟩ = some (.int .i64 u) := ⟨_, (hcl F (by omega)).2⟩
   have y1 := fz (F * 4 + 2)
   have HY := Lib.hid (hY F ((G : Int) + 1))
   have HMY := Lib.hid hmodY
   have r1 : (F : Int) < (G : Int) + 1 := by omega
   have e5 : endsV (endsK (ns.take (k + 1)) l.length) = endsV (endsK (ns.take k) l.length) ++ [.int .i64 G] := by
    rw [HE3.out, endsV_app, show F + sizeA nk + 1 = G from by have := HGG.out; omega]; rfl
   have HE5 := Lib.hid e5
   clear fz hne hcl hY hlen4 hFG hGE hmodY e5 HP7 HP6 HO6 HF6
   go_region
   obtain ⟨hp4, hf4⟩ := HY.out
   rw [HMY.out] at hp4
   have hbd := (Below.refl (w7.setCell ⟨g3, F * 4 + 2, none⟩ (.int .i64 ((G : Int) + 1))).heap.size (w7.setCell ⟨g3, F * 4 + 2, none⟩ (.int .i64 ((G : Int) + 1)))).drew
   have hz4 : base ≤ (w7.setCell ⟨g3, F * 4 + 2, none⟩ (.int .i64 ((G : Int) + 1))).heap.size := Nat.le_trans (Nat.le_trans HZ.out HF7.out.below.size) hf4.below.size
   have HP8 := Lib.hid (hp4.later hz4 hbd)
   have hf5 := hf4.trans (FrA.new hbd hz4)
   have HF8 := Lib.hid (HF7.out.trans hf5)
   have HO8 := Lib.hid (hf5.ownT (by decide) (by decide) HO7.out)
   clear hp4 hf4 hbd hz4 hf5 HY HF7 HO7 y0 y1 y2 r1
   generalize (w7.setCell ⟨g3, F * 4 + 2, none⟩ (.int .i64 ((G : Int) + 1))).drew = w8 at HP8 HF8 HO8 ⊢
   go_wp2
   go_roundg (gk - 1)
   case measure => have := HK.out; have := HLT.out; omega
   case rel => exact ⟨k + 1, s2, c2', by have := HK.out; have := HLT.out; omega, rfl, by go_num, HF8.out, HP8.out, by rw [HE5.out]; exact HO8.out⟩
  ·
   obtain rfl : k = m := by omega
   have hnm : ns.length = k + 1 := by rw [← HL.out, HM.out]
   have hkv : k < vs.length := by rw [HM.out]; omega
   have hkn : k < ns.length := by omega
   have hgl : (l ++ genK (ns.take k) l.length).length = l.length + (sizeL (ns.take k) + 2 * k) := by
    rw [List.length_append, genK_len _ _ (fun m hm b => genA_len (HG.out m (List.mem_of_mem_take hm)) b), List.length_take, Nat.min_eq_left (by omega)]
   have hmem : ns[k] ∈ ns := List.getElem_mem _
   have hnt : ns = ns.take k ++ [ns[k]] := by
    have := List.take_succ_eq_append_getElem hkn
    rw [List.take_of_length_le (by omega)] at this
    exact this
   have hsz2 : sizeL ns = sizeL (ns.take k) + sizeA ns[k] := by
    have := congrArg sizeL hnt
    rw [sizeL_app, sizeL_one] at this
    exact this
   have hdd : deepL d ns = max (deepL d (ns.take k)) (deepA d ns[k]) := by
    have := congrArg (deepL d) hnt
    rw [deepL_snoc] at this
    exact this
   have hpg := patch_genC (l.length + (sizeL ns + 2 * (ns.length - 1))) ns[k] (ns.take k) l.length l rfl (fun m hm b => genA_len (HG.out m (List.mem_of_mem_take hm)) b)
   rw [← hnt, List.length_take, Nat.min_eq_left (by omega)] at hpg
   have hT : l.length + (sizeL ns + 2 * (ns.length - 1)) = l.length + (sizeL (ns.take k) + 2 * k) + sizeA ns[k] := by omega
   obtain ⟨F, hF⟩ : ∃ F, l.length + (sizeL (ns.take k) + 2 * k) = F := ⟨_, rfl⟩
   obtain ⟨T, hTT⟩ : ∃ T, l.length + (sizeL ns + 2 * (ns.length - 1)) = T := ⟨_, rfl⟩
   rw [hTT] at hpg
   have HTT := Lib.hid hTT
   rw [hTT, hF] at hT
   rw [hF] at hpg hgl
   have helt := fun f hf => endsK_lt (ns.take k) l.length f hf
   rw [List.length_take, Nat.min_eq_left (by omega), hF] at helt
   have hel : (endsK (ns.take k) l.length).length = k := by rw [endsK_len, List.length_take, Nat.min_eq_left (by omega)]
   have hTs : T < 100000000 := by omega
   have hdm := deepL_mem d ns ns[k] hmem
   have hdm2 : deepA d ns[k] < 1000000 := by omega
   have hgA := genA_len (HG.out ns[k] hmem)
   have d0 : wr.drew.cell? ⟨g, off + k, none⟩ = some vs[k] := (FrA.slr hf HS.out hle).cell1 hkv
   have d1 : wr.drew.cell? ⟨b, 0, none⟩ = some (.slice (some ⟨g, off, none⟩) (k + 1) c) := block_cell (hf.blk HB.out hbE)
   have hbd := (Below.refl wr.heap.size wr).drew
   have hzr := Nat.le_trans HZ.out hf.below.size
   have hfd := FrA.new hbd hzr
   have hcall := (HI.out ns[k] hmem) vs[k] wr.drew _ _ d (hfd.node (hf.node (HN.out k hkv hkn) hle) hle) (hp.later hzr hbd) (by rw [hgl]; omega) hdm2 hzr
   rw [hgl, Nat.max_assoc, ← hdd] at hcall
   have HC := Lib.hid hcall
   have HFd := Lib.hid (hf.trans hfd)
   have HOd := Lib.hid (hfd.ownT (by decide) (by decide) ho)
   have HPG := Lib.hid hpg
   have HEL := Lib.hid hel
   have HLT := Lib.hid helt
   have HT := Lib.hid hT
   have HGL := Lib.hid hgl
   have HGA := Lib.hid hgA
   have HDD := Lib.hid (deepL_le d ns)
   have HK6 := Lib.hid (show k ≤ 1000000 by omega)
   have r1 : (k : Int) < (k : Int) + 1 := by omega
   have r2 : (0 : Int) ≤ (k : Int) := by omega
   generalize vs[k] = vk at d0 HC
   generalize ns[k] = nk at HC HPG HGA HT
   clear hdm2 hf hp ho hcall hfd hzr hbd hgA hdm hel helt hT hF hTT hgl hpg hdd hsz2 hnt hmem hkn hkv hnm HS HN HI HG HB HL HM HF1 HE0 hsz hd
   generalize endsK (ns.take k) l.length = es at HPG HEL HLT HOd HO
   generalize l ++ genK (ns.take k) l.length = X at HC HPG HGL
   go_wp2_with fail
   go_region_law (first
    | (go_simp; go_at_call 36; refine HC.out.mono ?_; rintro e w3 ⟨rfl, hf, hp⟩; have HF3 := Lib.hid (HFd.out.trans hf); have HO3 := Lib.hid (hf.ownT (by decide) (by decide) HOd.out); have HP3 := Lib.hid hp; clear hf hp))
   all_goals
    have hZl : (X ++ genA nk F).length = T := by rw [List.length_append, HGL.out, HGA.out, HT.out]
    have HZL := Lib.hid hZl
    clear d0 d1 HC HFd HOd HO HGL HGA hZl
    go_wp2_with fail
    go_loopg [138] k (fun gg iv wr => ∃ (j : Nat), j + gg = k ∧ iv = .int .i64 j ∧ FrA base w1 wr ∧ PaG wr B E base pb groups (max M (deepL d ns)) ((es.take j).foldl (patchE T) (X ++ genA nk F)) ∧ wr.ownsRow w1.heap.size 3 1 (.slice sO k cO) k (endsV es))
    case atStart => exact ⟨0, by omega, rfl, HF3.out, HP3.out, HO3.out⟩
    case round =>
     obtain ⟨j, hj, rfl, hf, hp, ho⟩ := hrel
     clear HF3 HP3 HO3
     by_cases hlt : j < k
     ·
      obtain ⟨go, c2, e1, hl2, hcell⟩ := own_block ho (by omega)
      obtain ⟨rfl, -, -⟩ := Value.slice.inj e1
      have hje : j < es.length := by rw [HEL.out]; exact hlt
      have o0 := hcell j (by rw [endsV_len]; exact hje)
      rw [Nat.zero_add] at o0
      have o1 : wr.cell? ⟨go, j, none⟩ = some (.int .i64 (es[j] : Int)) := by
       rw [o0]
       have := endsV_at es j hje
       rw [List.getElem?_eq_getElem (by rw [endsV_len]; exact hje)] at this
       exact this
      have hfl := HLT.out es[j] (List.getElem_mem _)
      have hft : es[j] < T := by have := HT.out; omega
      have htk : (es.take (j + 1)).foldl (patchE T) (X ++ genA nk F) = patchE T ((es.take j).foldl (patchE T) (X ++ genA nk F)) es[j] := by
       rw [List.take_succ_eq_append_getElem hje, List.foldl_append]; rfl
      have hlenp : ((es.take j).foldl (patchE T) (X ++ genA nk F)).length = T := by rw [patchEs_len]; exact HZL.out
      obtain ⟨g3, c3, y0, fz, hne, hcl, -, -, hXY, hYX⟩ := hp.open' (by omega)
      rw [hlenp] at y0
      generalize es[j] = f at o1 hfl hft htk
      obtain ⟨u1, y1⟩ : ∃ u, wr.cell? ⟨g3, f * 4 + 1, none⟩ = some (.int .i64 u) := ⟨_, (hcl f (by omega)).1⟩
      obtain ⟨u2, y2⟩ : ∃ u, wr.cell? ⟨g3, f * 4 + 2, none⟩ = some (.int .i64 u) := ⟨_, (hcl f (by omega)).2⟩
      have z1 := fz (f * 4 + 1)
      have z2 := fz (f * 4 + 2)
      have q4 : (j : Int) < (k : Int) := by omega
      have q5 : (0 : Int) ≤ (j : Int) := by omega
      have q6 : IntKind.i64.wrap ((j : Int) + 1) = ((j + 1 : Nat) : Int) := by rw [IntKind.wrap_i64]; have := HK6.out; omega
      have q7 : (f : Int) < (T : Int) := by omega
      have q8 : (0 : Int) ≤ (f : Int) := by omega
      have HF4 := Lib.hid hf
      have HO4 := Lib.hid ho
      have HXY := Lib.hid (hXY f (T : Int) (-1))
      have HYX := Lib.hid (hYX f (T : Int) (-1))
      have HTK := Lib.hid htk
      have HJ := Lib.hid hj
      have HLJ := Lib.hid hlt
      clear hf hp ho e1 hl2 hcell o0 hje htk hlenp fz hne hcl hXY hYX hfl hft hj hlt
      go_upto_region 31 with (fail)
      go_region
      obtain ⟨hp4, hf4⟩ := HXY.out
      have hpe : PaG ((wr.setCell ⟨g3, f * 4 + 1, none⟩ (.int .i64 (T : Int))).setCell ⟨g3, f * 4 + 2, none⟩ (.int .i64 (-1))) B E base pb groups (max M (deepL d ns)) ((es.take (j + 1)).foldl (patchE T) (X ++ genA nk F)) := by
       rw [HTK.out]
       exact hp4
      generalize (wr.setCell ⟨g3, f * 4 + 1, none⟩ (.int .i64 (T : Int))).setCell ⟨g3, f * 4 + 2, none⟩ (.int .i64 (-1)) = w6 at hf4 hpe ⊢
      have hbd := (Below.refl w6.heap.size w6).drew
      have hz4 : base ≤ w6.heap.size := Nat.le_trans (Nat.le_trans HZ.out HF4.out.below.size) hf4.below.size
      have HP6 := Lib.hid (hpe.later hz4 hbd)
      have hf5 := hf4.trans (FrA.new hbd hz4)
      have HF6 := Lib.hid (HF4.out.trans hf5)
      have HO6 := Lib.hid (hf5.ownT (by decide) (by decide) HO4.out)
      clear hp4 hf4 hbd hz4 hf5 hpe HXY HYX HF4 HO4 y0 y1 y2 z1 z2
      go_wp2
      go_roundg (gk - 1)
      case measure => have := HJ.out; have := HLJ.out; omega
      case rel => exact ⟨j + 1, by have := HJ.out; have := HLJ.out; omega, by go_num, HF6.out, HP6.out, HO6.out⟩
     ·
      obtain rfl : j = k := by omega
      have HF5 := Lib.hid hf
      have HP5 := Lib.hid hp
      clear hf hp ho hj
      go_wp2
      go_end0
      refine ⟨rfl, HF.out.trans HF5.out, ?_⟩
      rw [HTT.out]
      have := HP5.out
      rw [List.take_of_length_le (by rw [HEL.out]; exact Nat.le_refl _), HPG.out, HMM.out, show max (max dp d) (deepL d ns) = max dp (deepL d ns) from by have := HDD.out; omega] at this
      exact this
end Go.Proofs.YtdegdoilpamjjaaDoor
