/- Contracts: parts of a node (lid, set, edge). No condition. -/
import Derived.Test.YtdegdoilpamjjaaDoorJo
namespace Go.Proofs.YtdegdoilpamjjaaDoor
open Go.RowKit
set_option linter.unusedVariables false
set_option linter.unusedSimpArgs false
theorem lid_c (n : Int) (w : World) : Calls Tryd.prog 128 #[.int .i64 n] w fun e w' => e = .returned (.int .i64 (lidP n)) ∧ w' = w := by
  obtain ⟨m, hm⟩ : ∃ m, lidP n = m := ⟨_, rfl⟩
  rw [hm]
  have hm1 : (if 4097 < n then 4097 else n) = m := by rw [← hm]; unfold lidP; split <;> omega
  clear hm
  go_enter Tryd.func128, Tryd.ntmps128
  go_wp2
  go_ret
  first | exact ⟨rfl, rfl⟩ | (rw [← hm1]; exact ⟨rfl, rfl⟩)
theorem parts_set (v : Value) (w : World) : Calls Tryd.prog 126 #[v] w fun e w' => e = .returned (.int .i64 1) ∧ w' = w := by
  go_enter Tryd.func126, Tryd.ntmps126
  go_wp2
  go_ret
  exact ⟨rfl, rfl⟩
theorem parts_edge (v : Value) (w : World) : Calls Tryd.prog 131 #[v] w fun e w' => e = .returned (.int .i64 1) ∧ w' = w := by
  go_enter Tryd.func131, Tryd.ntmps131
  go_wp2
  go_ret
  exact ⟨rfl, rfl⟩
end Go.Proofs.YtdegdoilpamjjaaDoor
