/- parts, called through an interface: what answers for each of the six types; a walk above a type not known (group, number 0). -/
import Derived.Test.YtdegdoilpamjjaaDoorJp
namespace Go.Proofs.YtdegdoilpamjjaaDoor
open Go.RowKit
set_option linter.unusedVariables false
set_option maxRecDepth 100000 in
set_option maxHeartbeats 2000000 in
theorem parts_group1 (b : Nat) (t : TypeId) (p : Value) (f : FuncId) (q : Value) (k : Int) (w : World) (h : w.heap[b]? = some (.cells #[.iface t p, .int .i64 0] 123 (0, 0)))
    (hm : ∀ w, Sem.run Tryd.prog (method 279 t p "copyist/pattern.parts") w = .ok (f, q) w)
    (hf : ∀ w, Sem.run Tryd.prog (callFunc f #[q]) w = .ok (.enter f #[q]) w)
    (hc : ∀ w, Calls Tryd.prog f #[q] w fun e w' => e = .returned (.int .i64 k) ∧ ∃ m, w' = w.drewN m) : Calls Tryd.prog 132 #[.pointer (some ⟨b, 0, none⟩)] w fun e w' => e = .returned (.int .i64 k) ∧ ∃ m, w' = w.drewN m := by
  have b0 : w.cell? ⟨b, 0, none⟩ = some (.iface t p) := block_cell h
  have b1 : w.cell? ⟨b, 1, none⟩ = some (.int .i64 0) := block_cell h
  go_enter Tryd.func132, Tryd.ntmps132
  go_wp2_with fail
  first | rw [hf, Oper.upon_enter] | rw [Oper.upon_enter] | skip
  refine (hc _).mono ?_
  rintro e w2 ⟨rfl, m, rfl⟩
  go_wp2
  go_ret
  exact ⟨rfl, _, rfl⟩
set_option maxRecDepth 100000 in
theorem parts_m_set (p : Value) (w : World) : Sem.run Tryd.prog (method 279 78 p "copyist/pattern.parts") w = .ok (126, p) w := rfl
set_option maxRecDepth 100000 in
theorem parts_f_set (q : Value) (w : World) : Sem.run Tryd.prog (callFunc 126 #[q]) w = .ok (.enter 126 #[q]) w := rfl
set_option maxRecDepth 100000 in
theorem parts_m_edge (p : Value) (w : World) : Sem.run Tryd.prog (method 279 118 p "copyist/pattern.parts") w = .ok (131, p) w := rfl
set_option maxRecDepth 100000 in
theorem parts_f_edge (q : Value) (w : World) : Sem.run Tryd.prog (callFunc 131 #[q]) w = .ok (.enter 131 #[q]) w := rfl
set_option maxRecDepth 100000 in
theorem parts_m_row (p : Value) (w : World) : Sem.run Tryd.prog (method 279 115 p "copyist/pattern.parts") w = .ok (130, p) w := rfl
set_option maxRecDepth 100000 in
theorem parts_f_row (q : Value) (w : World) : Sem.run Tryd.prog (callFunc 130 #[q]) w = .ok (.enter 130 #[q]) w := rfl
set_option maxRecDepth 100000 in
theorem parts_m_choice (p : Value) (w : World) : Sem.run Tryd.prog (method 279 111 p "copyist/pattern.parts") w = .ok (127, p) w := rfl
set_option maxRecDepth 100000 in
theorem parts_f_choice (q : Value) (w : World) : Sem.run Tryd.prog (callFunc 127 #[q]) w = .ok (.enter 127 #[q]) w := rfl
set_option maxRecDepth 100000 in
theorem parts_m_group (p : Value) (w : World) : Sem.run Tryd.prog (method 279 121 p "copyist/pattern.parts") w = .ok (132, p) w := rfl
set_option maxRecDepth 100000 in
theorem parts_f_group (q : Value) (w : World) : Sem.run Tryd.prog (callFunc 132 #[q]) w = .ok (.enter 132 #[q]) w := rfl
set_option maxRecDepth 100000 in
theorem parts_m_again (p : Value) (w : World) : Sem.run Tryd.prog (method 279 124 p "copyist/pattern.parts") w = .ok (133, p) w := rfl
set_option maxRecDepth 100000 in
theorem parts_f_again (q : Value) (w : World) : Sem.run Tryd.prog (callFunc 133 #[q]) w = .ok (.enter 133 #[q]) w := rfl
end Go.Proofs.YtdegdoilpamjjaaDoor
