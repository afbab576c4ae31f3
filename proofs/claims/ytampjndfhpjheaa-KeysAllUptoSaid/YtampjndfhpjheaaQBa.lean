/- Contracts: the document's lists of rows: motions, objects, everywhere, normal, selected, operators (printed by gen_eb.py). No condition. Plain: what the document reads is what the reader reads, of keys of which no earlier one ends a command. No program. -/
import Derived.Great.BuildSlice
import Derived.Deep.DeepCutAuto
import Derived.Deep.RegionHeld3
import Derived.Test.YtampjndfhpjheaaQAe
import Derived.Test.YtampjndfhpjheaaQAz
namespace Go.Proofs.Ytampjndfhpjheaa
open Go.RowKit
set_option linter.unusedVariables false
set_option linter.unusedSimpArgs false
def strC (S : List ByteArray) : Array Value := (S.map Value.string).toArray
def intC (M : List Int) : Array Value := (M.map (Value.int .i64)).toArray
theorem str_at {w : World} {b k : Nat} {S : List ByteArray} {t : TypeId} (h : w.heap[b]? = some (.cells (strC S) t (0, 0))) (hk : k < S.length) : w.cell? ⟨b, k, none⟩ = some (.string S[k]) := by
 rw [block_cell h]; simp [strC, hk]
theorem int_at {w : World} {b k : Nat} {M : List Int} {t : TypeId} (h : w.heap[b]? = some (.cells (intC M) t (0, 0))) (hk : k < M.length) : w.cell? ⟨b, k, none⟩ = some (.int .i64 M[k]) := by
 rw [block_cell h]; simp [intC, hk]
theorem arr_new (w : World) (old cells : Array Value) (t : TypeId) : ((w.alloc (.cells old t)).setRow w.heap.size cells).heap[w.heap.size]? = some (.cells cells t (0, 0)) ∧ Below w.heap.size w ((w.alloc (.cells old t)).setRow w.heap.size cells) :=
 ⟨setRow_heap _ _ _ _ _ _ (one_new w _), below_setRow (below_new2 w _) (Nat.le_refl _) _⟩
def ListIs (R : Rows) (w : World) (e : Ending) (w' : World) : Prop := ∃ s c L, e = .returned (.slice s R.length c) ∧ L.map DR.row = R ∧ RL w' w.heap.size (.slice s R.length c) L ∧ Below w.heap.size w w'
def Grows (R : Rows) (base : Nat) (v : Value) (w : World) : Prop := ∃ s c L, v = .slice s R.length c ∧ L.map DR.row = R ∧ RL w base v L
theorem Grows.nil (w : World) (base : Nat) : Grows [] base (.slice none 0 0) w := ⟨none, 0, [], rfl, rfl, RL.nil w base⟩
theorem Grows.later {R : Rows} {base : Nat} {v : Value} {w w' : World} (h : Grows R base v w) (hb : Below w.heap.size w w') : Grows R base v w' := by
 obtain ⟨s, c, L, h1, h2, h3⟩ := h
 exact ⟨s, c, L, h1, h2, h3.later hb⟩
theorem Grows.is {R : Rows} {w w' : World} {v : Value} (h : Grows R w.heap.size v w') (hb : Below w.heap.size w w') : ListIs R w (.returned v) w' := by
 obtain ⟨s, c, L, h1, h2, h3⟩ := h
 subst h1
 exact ⟨s, c, L, rfl, h2, h3, hb⟩
theorem grows_push {w : World} {ops : Array Oper} {o : Oper} {a : Act} {K : Act → World → Prop} {Q : Exit → Act → World → Prop} {E : Prop} (x : DR) (R : Rows) (hg : o.guard = none) (s y : Operand)
  (hop : o.op = .call { callee := .builtin .append, args := #[s, y], argTypes := #[95, 95] })
  (base : Nat) (v : Value) (hs : a.eval s = v) (hy : a.eval y = .slice (some ⟨w.heap.size, 0, none⟩) 1 1) (hown : Grows R base v w) (hx : KOk w x.q) (hj : R.length < 1000000) (hbase : base ≤ w.heap.size)
  (h : ∀ s' n' c' w', Grows (R ++ [x.row]) base (.slice s' n' c') w' → Below base w w' → (∀ (b : Nat) (cs : Array Value) (t : TypeId), w.heap[b]? = some (.cells cs t (0, 0)) → t ≠ 103 → w'.heap[b]? = some (.cells cs t (0, 0))) → K (a.put o.dst (.slice s' n' c')) w') :
  if Region.wanted o (yielded ops a.tmps) = true then Oper.wp Try.prog o a (w.alloc (.cells x.cells.toArray 103)) K Q else E := by
 obtain ⟨s0, c0, L, h1, h2, h3⟩ := hown
 have hl : L.length = R.length := by rw [← h2, List.length_map]
 refine step_push_r x hg s y hop base v L hs hy h3 hx (by omega) hbase ?_
 intro s' c' w' p1 p2 p3
 rw [hl] at p1 ⊢
 exact h s' _ c' w' ⟨s', c', _, by rw [List.length_append]; rfl, by rw [List.map_append, h2]; rfl, p1⟩ p2 p3
theorem grows_pushL {w : World} {ops : Array Oper} {rest : List Oper} {o : Oper} {a : Act} {Q : Exit → Act → World → Prop} (x : DR) (R : Rows) (hg : o.guard = none) (s y : Operand)
  (hop : o.op = .call { callee := .builtin .append, args := #[s, y], argTypes := #[95, 95] })
  (base : Nat) (v : Value) (hs : a.eval s = v) (hy : a.eval y = .slice (some ⟨w.heap.size, 0, none⟩) 1 1) (hown : Grows R base v w) (hx : KOk w x.q) (hj : R.length < 1000000) (hbase : base ≤ w.heap.size)
  (h : ∀ s' n' c' w', Grows (R ++ [x.row]) base (.slice s' n' c') w' → Below base w w' → (∀ (b : Nat) (cs : Array Value) (t : TypeId), w.heap[b]? = some (.cells cs t (0, 0)) → t ≠ 103 → w'.heap[b]? = some (.cells cs t (0, 0))) → wpList Try.prog ops Q rest (a.put o.dst (.slice s' n' c')) w') :
  wpList Try.prog ops Q (o :: rest) a (w.alloc (.cells x.cells.toArray 103)) := by
 obtain ⟨s0, c0, L, h1, h2, h3⟩ := hown
 have hl : L.length = R.length := by rw [← h2, List.length_map]
 refine wpList_push_r x hg s y hop base v L hs hy h3 hx (by omega) hbase ?_
 intro s' c' w' p1 p2 p3
 rw [hl] at p1 ⊢
 exact h s' _ c' w' ⟨s', c', _, by rw [List.length_append]; rfl, by rw [List.map_append, h2]; rfl, p1⟩ p2 p3
def mot1S : List ByteArray := [⟨#[104]⟩, ⟨#[8]⟩, ⟨#[108]⟩, ⟨#[32]⟩, ⟨#[48]⟩, ⟨#[94]⟩, ⟨#[36]⟩, ⟨#[124]⟩, ⟨#[106]⟩, ⟨#[107]⟩, ⟨#[43]⟩, ⟨#[13]⟩, ⟨#[45]⟩, ⟨#[95]⟩, ⟨#[71]⟩, ⟨#[103, 103]⟩, ⟨#[119]⟩, ⟨#[98]⟩, ⟨#[101]⟩, ⟨#[103, 101]⟩, ⟨#[87]⟩, ⟨#[66]⟩, ⟨#[69]⟩, ⟨#[103, 69]⟩, ⟨#[125]⟩, ⟨#[123]⟩, ⟨#[59]⟩, ⟨#[44]⟩, ⟨#[47]⟩, ⟨#[63]⟩, ⟨#[110]⟩, ⟨#[78]⟩, ⟨#[42]⟩, ⟨#[35]⟩, ⟨#[72]⟩, ⟨#[77]⟩, ⟨#[76]⟩]
def mot1M : List Int := [1, 1, 2, 2, 3, 4, 5, 6, 11, 12, 13, 13, 14, 15, 16, 17, 21, 22, 23, 24, 25, 26, 27, 28, 31, 32, 41, 42, 43, 44, 45, 46, 47, 48, 51, 52, 53]
def mot2S : List ByteArray := [⟨#[102]⟩, ⟨#[70]⟩, ⟨#[116]⟩, ⟨#[84]⟩, ⟨#[96]⟩, ⟨#[39]⟩]
def mot2M : List Int := [7, 8, 9, 10, 49, 50]
def rowA (more : Bool) (v : Nat → Int) (m : Nat → Int) (S : List ByteArray) (k : Nat) : List Int × Bd := (bs (S.getD k ⟨#[]⟩), ⟨v k, m k, 0, more, []⟩)
def rowsA (more : Bool) (v : Nat → Int) (m : Nat → Int) (S : List ByteArray) (k : Nat) : Rows := (List.range k).map (rowA more v m S)
theorem rowsA_succ (more : Bool) (v m : Nat → Int) (S : List ByteArray) (k : Nat) : rowsA more v m S (k + 1) = rowsA more v m S k ++ [rowA more v m S k] := by
 unfold rowsA; rw [List.range_succ, List.map_append]; rfl
theorem rowsA_len (more : Bool) (v m : Nat → Int) (S : List ByteArray) (k : Nat) : (rowsA more v m S k).length = k := by simp [rowsA]
theorem getD_at {α : Type} {l : List α} {k : Nat} (h : k < l.length) (d : α) : l.getD k d = l[k] := by
 rw [List.getD_eq_getElem?_getD, List.getElem?_eq_getElem h]; rfl
theorem all_size {S : List ByteArray} (h : (S.all fun s => decide (0 < s.size ∧ s.size < 1000)) = true) {k : Nat} (hk : k < S.length) : 0 < S[k].size ∧ S[k].size < 1000 := by
 have := List.all_eq_true.1 h _ (List.getElem_mem hk)
 simpa using this
theorem rowsA_next (more : Bool) (v m : Nat → Int) (S : List ByteArray) (k : Nat) (hk : k < S.length) {a b : Int} (hv : v k = a) (hm : m k = b) : rowsA more v m S (k + 1) = rowsA more v m S k ++ [(bs S[k], ⟨a, b, 0, more, []⟩)] := by
 rw [rowsA_succ]; unfold rowA; rw [getD_at hk, hv, hm]
theorem mot_all : rowsA false (fun _ => 1) (mot1M.getD · 0) mot1S 37 ++ [([37], ⟨1, 33, 0, false, []⟩)] ++ rowsA true (fun _ => 1) (mot2M.getD · 0) mot2S 6 = motD := by decide +kernel
def eve1S : List ByteArray := [⟨#[112]⟩, ⟨#[80]⟩, ⟨#[74]⟩, ⟨#[103, 74]⟩, ⟨#[118]⟩, ⟨#[86]⟩, ⟨#[58]⟩, ⟨#[122, 116]⟩, ⟨#[122, 122]⟩, ⟨#[122, 98]⟩, ⟨#[6]⟩, ⟨#[2]⟩, ⟨#[4]⟩, ⟨#[21]⟩, ⟨#[5]⟩, ⟨#[25]⟩]
def eve1V : List Int := [18, 19, 20, 21, 26, 27, 31, 38, 39, 40, 32, 33, 34, 35, 36, 37]
def eve2S : List ByteArray := [⟨#[114]⟩, ⟨#[113]⟩, ⟨#[64]⟩, ⟨#[109]⟩]
def eve2V : List Int := [16, 28, 29, 30]
def nor1S : List ByteArray := [⟨#[120]⟩, ⟨#[88]⟩, ⟨#[68]⟩, ⟨#[115]⟩, ⟨#[83]⟩, ⟨#[67]⟩, ⟨#[89]⟩, ⟨#[105]⟩, ⟨#[97]⟩, ⟨#[73]⟩, ⟨#[65]⟩, ⟨#[111]⟩, ⟨#[79]⟩, ⟨#[82]⟩, ⟨#[126]⟩, ⟨#[117]⟩, ⟨#[18]⟩, ⟨#[46]⟩, ⟨#[38]⟩, ⟨#[103, 118]⟩, ⟨#[90, 90]⟩, ⟨#[90, 81]⟩]
def nor1V : List Int := [2, 2, 2, 3, 3, 3, 4, 10, 11, 12, 13, 14, 15, 17, 22, 23, 24, 25, 43, 44, 41, 42]
def nor1M : List Int := [2, 1, 5, 2, 60, 5, 60, 0, 0, 0, 0, 0, 0, 0, 0, 0, 0, 0, 0, 0, 0, 0]
def sel1S : List ByteArray := [⟨#[100]⟩, ⟨#[120]⟩, ⟨#[99]⟩, ⟨#[115]⟩, ⟨#[121]⟩, ⟨#[62]⟩, ⟨#[60]⟩, ⟨#[85]⟩, ⟨#[103, 85]⟩, ⟨#[117]⟩, ⟨#[103, 117]⟩, ⟨#[126]⟩, ⟨#[103, 126]⟩, ⟨#[111]⟩]
def sel1V : List Int := [2, 2, 3, 3, 4, 8, 9, 5, 5, 6, 6, 7, 7, 45]
def opr1S : List ByteArray := [⟨#[100]⟩, ⟨#[99]⟩, ⟨#[121]⟩, ⟨#[62]⟩, ⟨#[60]⟩, ⟨#[103, 85]⟩, ⟨#[103, 117]⟩, ⟨#[103, 126]⟩]
def opr1V : List Int := [2, 3, 4, 8, 9, 5, 6, 7]
theorem eve_all : rowsA false (eve1V.getD · 0) (fun _ => 0) eve1S 16 ++ rowsA true (eve2V.getD · 0) (fun _ => 0) eve2S 4 = eveD := by decide +kernel
theorem nor_all : rowsA false (nor1V.getD · 0) (nor1M.getD · 0) nor1S 22 = norD := by decide +kernel
theorem sel_all : rowsA false (sel1V.getD · 0) (fun _ => 0) sel1S 14 = selD := by decide +kernel
def oprD0 : Rows := rowsA false (opr1V.getD · 0) (fun _ => 0) opr1S 8
theorem row5_at {w : World} {b : Nat} {o0 o1 o2 o3 o4 a0 a1 a2 a3 a4 : Value} (h : w.heap[b]? = some (.cells #[o0, o1, o2, o3, o4] 103 (0, 0))) :
  (((((w.setCell ⟨b, 0, none⟩ a0).setCell ⟨b, 1, none⟩ a1).setCell ⟨b, 2, none⟩ a2).setCell ⟨b, 3, none⟩ a3).setCell ⟨b, 4, none⟩ a4).heap[b]? = some (.cells #[a0, a1, a2, a3, a4] 103 (0, 0)) :=
 block_set _ (block_set _ (block_set _ (block_set _ (block_set _ h))))
theorem row5_below {w0 w : World} {B b : Nat} {a0 a1 a2 a3 a4 : Value} (h : Below B w0 w) (hb : B ≤ b) :
  Below B w0 (((((w.setCell ⟨b, 0, none⟩ a0).setCell ⟨b, 1, none⟩ a1).setCell ⟨b, 2, none⟩ a2).setCell ⟨b, 3, none⟩ a3).setCell ⟨b, 4, none⟩ a4) :=
 ((((h.setCell hb _).setCell hb _).setCell hb _).setCell hb _).setCell hb _
theorem row5_other {w : World} {b c : Nat} {a0 a1 a2 a3 a4 : Value} (h : c ≠ b) :
  (((((w.setCell ⟨b, 0, none⟩ a0).setCell ⟨b, 1, none⟩ a1).setCell ⟨b, 2, none⟩ a2).setCell ⟨b, 3, none⟩ a3).setCell ⟨b, 4, none⟩ a4).heap[c]? = w.heap[c]? := by
 rw [Below.heap_setCell _ _ _ _ h, Below.heap_setCell _ _ _ _ h, Below.heap_setCell _ _ _ _ h, Below.heap_setCell _ _ _ _ h, Below.heap_setCell _ _ _ _ h]
theorem row_fin1 {w w5 : World} {g c : Nat} {k : List Int} {n : Nat} {o0 o1 o2 o3 o4 : Value} (a0 a1 a2 a3 a4 : Value) (h5 : Below w.heap.size w w5) (hk : w5.heap[w.heap.size]? = some (.cells #[o0, o1, o2, o3, o4] 103 (0, 0))) (hq : KOk w5 ⟨g, 0, n, c, k⟩) :
  (((((w5.setCell ⟨w.heap.size, 0, none⟩ a0).setCell ⟨w.heap.size, 1, none⟩ a1).setCell ⟨w.heap.size, 2, none⟩ a2).setCell ⟨w.heap.size, 3, none⟩ a3).setCell ⟨w.heap.size, 4, none⟩ a4).heap[w.heap.size]? = some (.cells #[a0, a1, a2, a3, a4] 103 (0, 0)) ∧
  KOk (((((w5.setCell ⟨w.heap.size, 0, none⟩ a0).setCell ⟨w.heap.size, 1, none⟩ a1).setCell ⟨w.heap.size, 2, none⟩ a2).setCell ⟨w.heap.size, 3, none⟩ a3).setCell ⟨w.heap.size, 4, none⟩ a4) ⟨g, 0, n, c, k⟩ ∧
  Below w.heap.size w (((((w5.setCell ⟨w.heap.size, 0, none⟩ a0).setCell ⟨w.heap.size, 1, none⟩ a1).setCell ⟨w.heap.size, 2, none⟩ a2).setCell ⟨w.heap.size, 3, none⟩ a3).setCell ⟨w.heap.size, 4, none⟩ a4) := by
 refine ⟨row5_at hk, hq.kept (row5_other ?_), row5_below h5 (Nat.le_refl _)⟩
 obtain ⟨cs, h1⟩ := hq.type
 exact type_ne h1 hk (by decide)
theorem row_fin2 {w w5 : World} {g c : Nat} {k : List Int} {n : Nat} (a0 a1 a2 a3 a4 : Value) (h5 : Below w.heap.size w w5) (hq : KOk w5 ⟨g, 0, n, c, k⟩) :
  (w5.alloc (.cells #[a0, a1, a2, a3, a4] 103)).heap[w5.heap.size]? = some (.cells #[a0, a1, a2, a3, a4] 103 (0, 0)) ∧ KOk (w5.alloc (.cells #[a0, a1, a2, a3, a4] 103)) ⟨g, 0, n, c, k⟩ ∧ Below w.heap.size w (w5.alloc (.cells #[a0, a1, a2, a3, a4] 103)) :=
 ⟨one_new w5 _, hq.kept ((below_new2 w5 _).block _ hq.lt), h5.trans ((below_new2 w5 _).mono h5.size)⟩
set_option maxRecDepth 100000 in
set_option maxHeartbeats 8000000 in
theorem dopr_c (w : World) : Calls Try.prog 54 #[] w (ListIs oprD0 w) := by
 go_enter Try.func54, Try.ntmps54
 have HL := Lib.hid (Below.refl w.heap.size w)
 go_upto_region 1 with (fail)
 go_upto_region 2 with (first
  | (refine wpList_buildTo rfl 156 _ rfl _ rfl (strC opr1S) (by kernel_rfl) ?_)
  | (refine wpList_store_rowTo rfl 156 _ _ rfl rfl w.heap.size (strC opr1S) rfl rfl _ _ (one_new _ _) (by kernel_rfl) (by kernel_rfl) (by kernel_rfl) ?_)
  | fail)
 generalize hw : (w.alloc _).setRow w.heap.size (strC opr1S) = y1
 have hA1 : y1.heap[w.heap.size]? = some (.cells (strC opr1S) 156 (0, 0)) := by rw [← hw]; exact (arr_new _ _ _ _).1
 have hbA1 : Below w.heap.size w y1 := by rw [← hw]; exact (arr_new _ _ _ _).2
 clear hw
 have hlA1 := heap_lt hA1
 replace HL := Lib.hid (HL.out.trans (hbA1.mono HL.out.size))
 have HA1 := Lib.hid hA1
 clear hA1 hbA1
 go_upto_region 3 with (first
  | (refine wpList_buildTo rfl 157 _ rfl _ rfl (intC opr1V) (by kernel_rfl) ?_)
  | (refine wpList_store_rowTo rfl 157 _ _ rfl rfl y1.heap.size (intC opr1V) rfl rfl _ _ (one_new _ _) (by kernel_rfl) (by kernel_rfl) (by kernel_rfl) ?_)
  | fail)
 generalize hw : (y1.alloc _).setRow y1.heap.size (intC opr1V) = y2
 have hA2 : y2.heap[y1.heap.size]? = some (.cells (intC opr1V) 157 (0, 0)) := by rw [← hw]; exact (arr_new _ _ _ _).1
 have hbA2 : Below y1.heap.size y1 y2 := by rw [← hw]; exact (arr_new _ _ _ _).2
 clear hw
 have hlA2 := heap_lt hA2
 replace HA1 := Lib.hid ((hbA2.block _ (heap_lt HA1.out)).trans HA1.out)
 replace HL := Lib.hid (HL.out.trans (hbA2.mono HL.out.size))
 have HA2 := Lib.hid hA2
 clear hA2 hbA2
 go_wp2_with fail
 go_loopg [3, 4] 8 (fun gg lv iv wr => ∃ (k n : Nat) (s : Option Addr) (c : Nat), k + gg = 8 ∧ lv = .slice s n c ∧ iv = .int .i64 k ∧ Grows (rowsA false (opr1V.getD · 0) (fun _ => 0) opr1S k) w.heap.size (.slice s n c) wr ∧ wr.heap[w.heap.size]? = some (.cells (strC opr1S) 156 (0, 0)) ∧ wr.heap[y1.heap.size]? = some (.cells (intC opr1V) 157 (0, 0)) ∧ Below w.heap.size w wr)
 case atStart => exact ⟨0, _, _, _, rfl, rfl, rfl, by first | exact Grows.nil _ _ | (simpa [rowsA] using HG.out), HA1.out, HA2.out, HL.out⟩
 case round =>
  try clear HG
  clear HL HA1 HA2
  obtain ⟨k, n, s, c, hk, rfl, rfl, hgr, hA1, hA2, hbl⟩ := hrel
  by_cases hlt : k < 8
  ·
   skip
   have e0 : k < opr1S.length := hlt
   have c0 := str_at hA1 e0
   have k0 : (strC opr1S)[k]? = some (.string opr1S[k]) := by rw [← block_cell hA1]; exact c0
   have hz : 0 < opr1S[k].size ∧ opr1S[k].size < 1000 := all_size (by decide +kernel) e0
   have e1 : k < opr1V.length := hlt
   have c1 := int_at hA2 e1
   have k1 : (intC opr1V)[k]? = some (.int .i64 opr1V[k]) := by rw [← block_cell hA2]; exact c1
   have hrow : rowsA false (opr1V.getD · 0) (fun _ => 0) opr1S (k + 1) = (rowsA false (opr1V.getD · 0) (fun _ => 0) opr1S k) ++ ([(bs (opr1S[k]'e0), ⟨(opr1V[k]'e1), 0, 0, false, []⟩)] : Rows) := by rw [rowsA_next false (opr1V.getD · 0) (fun _ => 0) opr1S k e0 (a := (opr1V[k]'e1)) (b := 0) (getD_at e1 0) (rfl)]
   generalize opr1S[k] = st at *
   generalize opr1V[k] = mv1 at *
   have hd := (Below.refl wr.heap.size wr).drew
   have HG := Lib.hid (hgr.later hd)
   have HA1 := Lib.hid (show wr.drew.heap[w.heap.size]? = _ from hA1)
   have HA2 := Lib.hid (show wr.drew.heap[y1.heap.size]? = _ from hA2)
   have HL := Lib.hid hbl.drew
   have HR := Lib.hid hrow
   have hlen : (rowsA false (opr1V.getD · 0) (fun _ => 0) opr1S k).length < 1000 := by simp only [List.length_append, rowsA_len, List.length_cons, List.length_nil]; first | omega | (have : eveD.length < 500 := by decide +kernel); omega
   have HLEN := Lib.hid hlen
   clear hd hgr hbl hrow hlen hA1 hA2
   have q1 : (k : Int) < 8 := by omega
   have q2 : (0 : Int) ≤ (k : Int) := by omega
   go_wp2_with fail
   go_region_held3 (fun w' => w'.cell? ⟨w.heap.size, k, none⟩ = some (.string st) ∧ w'.cell? ⟨y1.heap.size, k, none⟩ = some (.int .i64 mv1))
    (first | exact ⟨c0, c1⟩ | exact ⟨(block_cell hA17).trans k0, (block_cell hA27).trans k1⟩ | exact ⟨(block_cell hA15).trans k0, (block_cell hA25).trans k1⟩ | go_keep)
    (first
     | (refine (one_c st mv1 0 _ hz.1 hz.2).mono ?_; rintro e w5 ⟨g5, c5, rfl, hk5, hb5⟩; have hA15 := (hb5.block _ (heap_lt HA1.out)).trans HA1.out; have hA25 := (hb5.block _ (heap_lt HA2.out)).trans HA2.out)
     | (refine grows_push ⟨⟨g5, 0, st.size, c5, bs st⟩, ⟨mv1, 0, 0, false, []⟩⟩ _ rfl _ _ rfl w.heap.size _ rfl rfl (HG.out.later hb5) hk5 (by have := HLEN.out; omega) (HL.out.trans (hb5.mono HL.out.size)).size ?_; intro s7 n7 c7 w7 hg7 hb7 ho7; have hA17 := ho7 _ _ _ hA15 (by decide); have hA27 := ho7 _ _ _ hA25 (by decide)))
   rename_i hheld
   have HG7 := Lib.hid hg7
   have HA17 := Lib.hid hA17
   have HA27 := Lib.hid hA27
   have HL7 := Lib.hid ((HL.out.trans (hb5.mono HL.out.size)).trans hb7)
   clear hheld hg7 hb7 ho7 hb5 hk5 HG HL hA17 hA15 HA1 c0 k0 hA27 hA25 HA2 c1 k1
   go_wp2
   go_roundg (gk - 1)
   case measure => omega
   case rel => exact ⟨k + 1, _, s7, c7, by omega, rfl, by go_num, by rw [HR.out]; exact HG7.out, HA17.out, HA27.out, HL7.out⟩
  ·
   skip
   obtain rfl : k = 8 := by omega
   clear hA1 hA2
   obtain ⟨wz, hwo⟩ : ∃ wz, wz = wr := ⟨_, rfl⟩
   subst hwo
   have HG := Lib.hid hgr
   have HL := Lib.hid hbl
   clear hgr hbl
   go_wp2
   go_ret
   exact Grows.is HG.out HL.out
end Go.Proofs.Ytampjndfhpjheaa
namespace Go.Proofs.Ytampjndfhpjheaa
set_option linter.unusedVariables false
theorem prefs_tok {ts : List Tok} (h : okT false ts) : prefsD (flatT ts) = ((effs (0, 0) ts).1, (effs (0, 0) ts).2, true, false) := by
 obtain ⟨f', h1, h2⟩ := prefx_of ts ((flatT ts).length + 1) 0 0 [] h (fun _ x t e => by cases e) (by rw [List.append_nil]; omega)
 obtain ⟨g, rfl⟩ : ∃ g, f' = g + 1 := ⟨f' - 1, by simp at h1; omega⟩
 rw [List.append_nil] at h2
 exact h2
theorem prefs_q {ts : List Tok} (h : okT false ts) : (prefsD (flatT ts ++ [34])).2.2 = (false, true) := by
 obtain ⟨f', h1, h2⟩ := prefx_of ts ((flatT ts ++ [34]).length + 1) 0 0 [34] h (fun _ x t e => by injection e with e1 _; rw [← e1]; rfl) (by omega)
 obtain ⟨g, rfl⟩ : ∃ g, f' = g + 1 := ⟨f' - 1, by simp at h1; omega⟩
 unfold prefsD
 rw [h2]
 simp only [prefxD, if_true]
theorem prefs_head {ts : List Tok} {rest : List Int} (h : okT false ts) (hh : Head (endN false ts) rest) : (prefsD (flatT ts ++ rest)).2.2 = (false, false) := by
 obtain ⟨x, t, rfl, hx, hd, he⟩ := hh
 obtain ⟨f', h1, h2⟩ := prefx_of ts ((flatT ts ++ x :: t).length + 1) 0 0 (x :: t) h (fun e y v e2 => by injection e2 with e1 _; rw [← e1]; exact he e) (by omega)
 obtain ⟨g, rfl⟩ : ∃ g, f' = g + 1 := ⟨f' - 1, by simp at h1; omega⟩
 unfold prefsD
 rw [h2]
 unfold prefxD
 rw [if_neg hx, if_neg (by rw [hd]; decide)]
theorem prefs_z {ts : List Tok} {u : List Int} (h : okT false ts) : (prefsD (flatT ts ++ 34 :: 0 :: u)).2.2 = (false, false) := by
 obtain ⟨f', h1, h2⟩ := prefx_of ts ((flatT ts ++ 34 :: 0 :: u).length + 1) 0 0 (34 :: 0 :: u) h (fun _ x t e => by injection e with e1 _; rw [← e1]; rfl) (by omega)
 obtain ⟨g, rfl⟩ : ∃ g, f' = g + 1 := ⟨f' - 1, by simp at h1; omega⟩
 unfold prefsD
 rw [h2]
 simp only [prefxD, if_true]
theorem prefs_inv {q : List Int} (h : (prefsD q).2.2.1 = true) : ∃ ts, okT false ts ∧ q = flatT ts := by
 rcases pref_inv (q.length + 1) 0 0 q (Nat.lt_succ_self _) with ⟨ts, rest, hk, rfl, hh, _⟩ | ⟨ts, hk, e, _⟩ | ⟨ts, u, hk, rfl, _⟩
 · rw [prefs_head hk hh] at h; cases h
 ·
  rcases e with rfl | rfl
  · exact ⟨ts, hk, rfl⟩
  · rw [prefs_q hk] at h; cases h
 · rw [prefs_z hk] at h; cases h
theorem flat_snoc (ts : List Tok) (a : Tok) : flatT (ts ++ [a]) = flatT ts ++ a.keys := by
 induction ts with
 | nil => simp [flatT]
 | cons b ts ih => simp only [List.cons_append, flatT, ih, List.append_assoc]
theorem okT_snoc : ∀ (ts : List Tok) (b : Bool) (a : Tok), okT b (ts ++ [a]) → okT b ts ∧ (∀ ds, a = .num ds → okNum ds ∧ ∀ es, okNum es → okT b (ts ++ [.num es]))
 | [], b, a, h => ⟨trivial, fun ds e => by subst e; exact ⟨h.2.1, fun es he => ⟨h.1, he, trivial⟩⟩⟩
 | .num x :: ts, b, a, h => by
  obtain ⟨h1, h2, h3⟩ := h
  obtain ⟨h4, h5⟩ := okT_snoc ts true a h3
  exact ⟨⟨h1, h2, h4⟩, fun ds e => ⟨(h5 ds e).1, fun es he => ⟨h1, h2, (h5 ds e).2 es he⟩⟩⟩
 | .reg y :: ts, b, a, h => by
  obtain ⟨h1, h3⟩ := h
  obtain ⟨h4, h5⟩ := okT_snoc ts false a h3
  exact ⟨⟨h1, h4⟩, fun ds e => ⟨(h5 ds e).1, fun es he => ⟨h1, (h5 ds e).2 es he⟩⟩⟩
theorem endN_snoc : ∀ (ts : List Tok) (b : Bool) (a : Tok), endN b (ts ++ [a]) = match a with | .num _ => true | .reg _ => false
 | [], b, a => by cases a <;> rfl
 | .num x :: ts, b, a => endN_snoc ts true a
 | .reg y :: ts, b, a => endN_snoc ts false a
theorem ends_tok {ts : List Tok} (h : okT false ts) (hne : ts ≠ []) : endsD (flatT ts) = endN false ts := by
 obtain ⟨ts0, a, rfl⟩ : ∃ ts0 a, ts = ts0 ++ [a] := ⟨ts.dropLast, ts.getLast hne, (List.dropLast_concat_getLast hne).symm⟩
 rw [endN_snoc, flat_snoc]
 obtain ⟨h1, h2⟩ := okT_snoc ts0 false a h
 cases a with
 | reg y =>
  unfold endsD
  have e : flatT ts0 ++ (Tok.reg y).keys = (flatT ts0 ++ [34]) ++ [y] := by simp [Tok.keys]
  rw [e, List.dropLast_concat, prefs_q h1, Bool.and_false]
 | num ds =>
  obtain ⟨h3, h4⟩ := h2 ds rfl
  have hds : ds ≠ [] := fun e => by have := h3.pos; rw [e] at this; simp at this
  obtain ⟨es, z, rfl⟩ : ∃ es z, ds = es ++ [z] := ⟨ds.dropLast, ds.getLast hds, (List.dropLast_concat_getLast hds).symm⟩
  have e : flatT ts0 ++ (Tok.num (es ++ [z])).keys = (flatT ts0 ++ es) ++ [z] := by simp [Tok.keys]
  have hz : digB z = true := h3.digs z (by simp)
  have hp : (prefsD (flatT ts0 ++ es)).2.2.1 = true := by
   rcases h3.pre (List.prefix_append es [z]) with rfl | h5
   · rw [List.append_nil, prefs_tok h1]
   ·
    have := prefs_tok (h4 es h5)
    rw [flat_snoc] at this
    rw [show flatT ts0 ++ es = flatT ts0 ++ (Tok.num es).keys from rfl, this]
  unfold endsD
  rw [e, List.dropLast_concat, hp, Bool.and_true]
  have hl : ((flatT ts0 ++ es) ++ [z]).getLastD 0 = z := by simp
  rw [hl, hz]
theorem flat_ne {ts : List Tok} (h : okT false ts) (hne : ts ≠ []) : flatT ts ≠ [] := by
 cases ts with
 | nil => exact absurd rfl hne
 | cons a ts =>
  cases a with
  | reg y => simp [flatT, Tok.keys]
  | num ds =>
   have := h.2.1.pos
   intro e
   have e2 : ds ++ flatT ts = [] := e
   rw [(List.append_eq_nil_iff.1 e2).1] at this
   simp at this
theorem cond_tok {ts : List Tok} (h : okT false ts) {x : Int} : condD (flatT ts) x = true ↔ (endN false ts = true → digB x = false) := by
 unfold condD
 rw [prefs_tok h]
 by_cases hne : ts = []
 ·
  subst hne
  constructor
  · intro _ e; cases e
  · intro _; rfl
 ·
  rw [ends_tok h hne, decide_eq_true (flat_ne h hne)]
  cases endN false ts <;> cases digB x <;> simp
theorem first_1 {sel : Bool} {x : Int} {t k d k' a : List Int} {b b' : Bd} (h : TextP (topT sel) (x :: t) k d k' a b b') : x ≠ 34 ∧ dig1B x = false := by
 obtain ⟨y, u, e, h1, h34⟩ := df_of (top_df sel) h.mem
 have h2 := h.eq
 rw [e] at h2
 injection h2 with e1 _
 rw [e1]; exact ⟨h34, h1⟩
theorem first_0 {sel : Bool} {reg cnt x : Int} {t : List Int} (h : (rowP (topT sel) reg cnt (x :: t)).1 = 0) : x ≠ 34 ∧ dig1B x = false := by
 by_cases h1 : (lookG (topT sel) (x :: t)).1 = 1
 ·
  obtain ⟨k, b, h1⟩ := look_1 h1
  obtain ⟨hm, v, hv⟩ := look_inv h1
  obtain ⟨y, u, e, h2, h34⟩ := df_of (top_df sel) hm
  rw [e] at hv
  injection hv with e1 _
  rw [← e1]; exact ⟨h34, h2⟩
 ·
  rw [row_not rfl h1] at h
  obtain ⟨⟨k, b⟩, hm, ⟨v, hv⟩, _⟩ := look_0 h (by simp)
  obtain ⟨y, u, e, h2, h34⟩ := df_of (top_df sel) hm
  simp only at hv
  rw [e] at hv
  injection hv with e1 _
  rw [e1]; exact ⟨h34, h2⟩
theorem readD_1 {sel : Bool} {l : List Int} (h : (readD sel l).1 = 1) : ∃ ts t k d k' a b b', Form sel l ts t k d k' a b b' ∧ readD sel l = (1, cmdOf (effs (0, 0) ts).1 (cntD (effs (0, 0) ts).2 d) b.verb b' a) := by
 unfold readD at *
 obtain ⟨q, x, t, e, hc, hm, hv⟩ := scan_1 l [] _ (by split <;> decide) h
 rw [hv]
 have hok : (prefsD q).2.2.1 = true := by
  unfold condD at hc
  rw [Bool.and_eq_true] at hc; exact hc.1
 obtain ⟨ts, hk, rfl⟩ := prefs_inv hok
 unfold docAt at *
 rw [prefs_tok hk] at hm ⊢
 obtain ⟨k, d, k', a, b, b', ht, hr⟩ := docRow_1 (docT sel) hm
 have hf := first_1 ht
 exact ⟨ts, x :: t, k, d, k', a, b, b', ⟨hk, ⟨x, t, rfl, hf.1, hf.2, (cond_tok hk).1 hc⟩, ht, e⟩, hr⟩
theorem readD_of {sel : Bool} {l : List Int} {ts : List Tok} {t k d k' a : List Int} {b b' : Bd} (h : Form sel l ts t k d k' a b b') : (readD sel l).1 = 1 := by
 unfold readD
 obtain ⟨x, u, rfl, h34, hd, he⟩ := h.head
 have hs := scan_hit (sel := sel) (flatT ts) [] (if (prefsD l).2.2.1 = true ∨ (prefsD l).2.2.2 = true then 0 else 2) x u ((cond_tok h.ok).2 he) (docRow_of (docT sel) (top_ut sel) h.text)
 rw [← h.eq] at hs
 exact hs
theorem readD_0 {sel : Bool} {l : List Int} (h : (readD sel l).1 = 0) : (readP sel l).1 = 0 := by
 unfold readD at h
 rcases scan_0 l [] _ h with h | ⟨q, x, t, e, hc, hm⟩
 ·
  have h2 : (prefsD l).2.2.1 = true ∨ (prefsD l).2.2.2 = true := by
   split at h
   · assumption
   · cases h
  rcases pref_inv (l.length + 1) 0 0 l (Nat.lt_succ_self _) with ⟨ts, rest, hk, rfl, hh, _⟩ | ⟨ts, hk, e, hp⟩ | ⟨ts, u, hk, rfl, _⟩
  · rw [prefs_head hk hh] at h2; rcases h2 with h2 | h2 <;> cases h2
  · unfold readP; rw [hp]; rfl
  · rw [prefs_z hk] at h2; rcases h2 with h2 | h2 <;> cases h2
 ·
  have hok : (prefsD q).2.2.1 = true := by
   unfold condD at hc
   rw [Bool.and_eq_true] at hc; exact hc.1
  obtain ⟨ts, hk, rfl⟩ := prefs_inv hok
  unfold docAt at hm
  rw [prefs_tok hk] at hm
  have hr := docRow_0 (docT sel) (top_pf sel) (top_ut sel) hm
  have hf := first_0 hr
  have e : l = flatT ts ++ x :: t := e
  subst e
  have := pref_of ts ((flatT ts ++ x :: t).length + 1) 0 0 (x :: t) hk ⟨x, t, rfl, hf.1, hf.2, (cond_tok hk).1 hc⟩ (Nat.lt_succ_self _)
  rw [read_row' this]
  exact hr
theorem readD_more {sel : Bool} {l : List Int} (h : (readP sel l).1 = 0) : (readD sel l).1 = 0 := by
 have hn1 : (readD sel l).1 ≠ 1 := fun e => by
  obtain ⟨ts, t, k, d, k', a, b, b', hf, _⟩ := readD_1 e
  have := hf.read []
  rw [List.append_nil] at this
  rw [this] at h; cases h
 refine Or.resolve_right ?_ hn1
 unfold readD
 rcases pref_inv (l.length + 1) 0 0 l (Nat.lt_succ_self _) with ⟨ts, rest, hk, rfl, hh, hp⟩ | ⟨ts, hk, e, hp⟩ | ⟨ts, u, hk, rfl, hp⟩
 ·
  rw [read_row' hp] at h
  obtain ⟨x, u, rfl, h34, hd, he⟩ := hh
  have hm := docRow_more (docT sel) (top_pf sel) (top_ut sel) (by simp) h
  exact scan_hit0 (flatT ts) [] _ x u ((cond_tok hk).2 he) (by unfold docAt; rw [List.nil_append, prefs_tok hk]; exact hm)
 ·
  rw [if_pos]
  · exact scan_s0 _ _
  ·
   rcases e with rfl | rfl
   · rw [prefs_tok hk]; exact .inl rfl
   · rw [prefs_q hk]; exact .inr rfl
 ·
  unfold readP at h
  rw [hp] at h; cases h
theorem scan_3 {sel : Bool} : ∀ (r p : List Int) (say : Nat), (say = 0 ∨ say = 2) → (scanD sel p r say).1 = 1 ∨ scanD sel p r say = (0, cmd0) ∨ scanD sel p r say = (2, cmd0)
 | [], p, say, h => by rcases h with rfl | rfl; exact .inr (.inl rfl); exact .inr (.inr rfl)
 | x :: t, p, say, h => by
  unfold scanD
  by_cases hc : condD p x = true
  ·
   rw [if_pos hc]
   by_cases hm : (docAt sel p (x :: t)).1 = 1
   · rw [if_pos hm]; exact .inl hm
   · rw [if_neg hm]; exact scan_3 t _ _ (by split; exact .inl rfl; exact h)
  · rw [if_neg hc]; exact scan_3 t _ _ h
theorem readD_3 {sel : Bool} {l : List Int} : (readD sel l).1 = 1 ∨ readD sel l = (0, cmd0) ∨ readD sel l = (2, cmd0) := by
 unfold readD
 exact scan_3 l [] _ (by split; exact .inl rfl; exact .inr rfl)
theorem look_3 {T : Rows} {l : List Int} : (lookG T l).1 = 1 ∨ (lookG T l).1 = 0 ∨ (lookG T l).1 = 2 := by
 unfold lookG
 split
 · exact .inl rfl
 ·
  split
  · exact .inr (.inl rfl)
  · exact .inr (.inr rfl)
theorem fin_3 {reg cnt v : Int} {b : Bd} {u : List Int} : (finP reg cnt v b u).1 = 1 ∨ finP reg cnt v b u = (0, cmd0) := by
 unfold finP
 cases b.more
 · exact .inl rfl
 ·
  cases u
  · exact .inr rfl
  · exact .inl rfl
theorem rowP_3d {T : Rows} {reg cnt : Int} {l : List Int} : (rowP T reg cnt l).1 = 1 ∨ rowP T reg cnt l = (0, cmd0) ∨ rowP T reg cnt l = (2, cmd0) := by
 rcases look_3 (T := T) (l := l) with h | h | h
 ·
  obtain ⟨k, b, h⟩ := look_1 h
  by_cases ho : b.own = []
  ·
   rw [row_plain h ho]
   rcases fin_3 (reg := reg) (cnt := cnt) (v := b.verb) (b := b) (u := l.drop k.length) with h1 | h1
   · exact .inl h1
   · exact .inr (.inl h1)
  ·
   by_cases h0 : (numP cnt (l.drop k.length)).2 = []
   · exact .inr (.inl (row_own0 h ho (s := 0) (by rw [h0, beh_nil]) (by decide)))
   ·
    have hb := beh_look b.own h0
    rcases look_3 (T := UT b.own) (l := (numP cnt (l.drop k.length)).2) with h1 | h1 | h1
    ·
     obtain ⟨k', b', h1⟩ := look_1 h1
     rw [row_own1 h ho (hb.trans h1)]
     rcases fin_3 (reg := reg) (cnt := (numP cnt (l.drop k.length)).1) (v := b.verb) (b := b') (u := (numP cnt (l.drop k.length)).2.drop k'.length) with h2 | h2
     · exact .inl h2
     · exact .inr (.inl h2)
    · exact .inr (.inl (row_own0 h ho (s := 0) (by rw [hb, h1]) (by decide)))
    · exact .inr (.inr (row_own0 h ho (s := 2) (by rw [hb, h1]) (by decide)))
 · exact .inr (.inl (row_not h (by decide)))
 · exact .inr (.inr (row_not h (by decide)))
theorem readP_3d {sel : Bool} {l : List Int} : (readP sel l).1 = 1 ∨ readP sel l = (0, cmd0) ∨ readP sel l = (2, cmd0) := by
 rcases pref_inv (l.length + 1) 0 0 l (Nat.lt_succ_self _) with ⟨ts, rest, hk, e, hh, hp⟩ | ⟨ts, hk, e, hp⟩ | ⟨ts, u, hk, e, hp⟩
 · rw [read_row' hp]; exact rowP_3d
 · refine .inr (.inl ?_); unfold readP; rw [hp]; rfl
 · refine .inr (.inr ?_); unfold readP; rw [hp]; rfl
theorem read_law {sel : Bool} {l : List Int} (hm : ∀ q, q <+: l → q.length < l.length → q ≠ [] → (readP sel q).1 ≠ 1) : readD sel l = readP sel l := by
 have hF : ∀ {ts t k d k' a b b'}, Form sel l ts t k d k' a b b' → readP sel l = (1, cmdOf (effs (0, 0) ts).1 (cntD (effs (0, 0) ts).2 d) b.verb b' a) := fun hf => by
  have := hf.read []
  rw [List.append_nil] at this
  exact this
 rcases readP_3d (sel := sel) (l := l) with h | h | h
 ·
  obtain ⟨p, s, ts, t, k, d, k', a, b, b', hl, hf⟩ := form_inv h
  have hs : s = [] := by
   by_cases h0 : s = []
   · exact h0
   ·
    exfalso
    have hpne : p ≠ [] := by
     obtain ⟨x, u, e, _⟩ := df_of (top_df _) hf.text.mem
     rw [hf.eq, hf.text.eq, e]
     simp
    refine hm p ⟨s, hl.symm⟩ (by rw [hl, List.length_append]; have := List.length_pos_iff.2 h0; omega) hpne ?_
    have h2 := hf.read []
    rw [List.append_nil] at h2
    rw [h2]
  subst hs
  rw [List.append_nil] at hl
  subst hl
  obtain ⟨ts2, t2, k2, d2, k2', a2, b2, b2', hf2, hv⟩ := readD_1 (readD_of hf)
  rw [hv, hF hf2]
 ·
  have h1 := readD_more (sel := sel) (l := l) (by rw [h])
  rcases readD_3 (sel := sel) (l := l) with h2 | h2 | h2
  · rw [h2] at h1; cases h1
  · rw [h2, h]
  · rw [h2] at h1; cases h1
 ·
  rcases readD_3 (sel := sel) (l := l) with h2 | h2 | h2
  ·
   obtain ⟨ts2, t2, k2, d2, k2', a2, b2, b2', hf2, hv⟩ := readD_1 h2
   rw [hF hf2] at h; cases h
  ·
   have h1 := readD_0 (sel := sel) (l := l) (by rw [h2])
   rw [h] at h1; cases h1
  · rw [h2, h]
end Go.Proofs.Ytampjndfhpjheaa
