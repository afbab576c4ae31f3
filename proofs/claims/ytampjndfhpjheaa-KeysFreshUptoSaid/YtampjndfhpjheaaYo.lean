/- Contracts: the functions that tell the lines of the tables. No condition. -/
import Derived.Test.YtampjndfhpjheaaYl
namespace Go.Proofs.Ytampjndfhpjheaa
open Go.RowKit
theorem ascii_of {M : List LineM} (h : M.all (fun x => decide (x.1.size < 1000) && x.1.data.toList.all (fun b => decide (b.toNat < 128))) = true) : Ascii M := by
  intro x hx
  have := List.all_eq_true.1 h x hx
  rw [Bool.and_eq_true, decide_eq_true_eq, List.all_eq_true] at this
  refine ⟨this.1, fun k hk => ?_⟩
  have h2 := this.2 (x.1[k]'hk) (by
    have : x.1[k]'hk = x.1.data.toList[k]'(by simpa using hk) := rfl
    rw [this]; exact List.getElem_mem _)
  simpa using h2

def motionsM : List LineM := [
  (⟨#[104, 32, 8]⟩, 0, 1, 0),
  (⟨#[108, 32, 115, 112, 97, 99, 101]⟩, 0, 2, 0),
  (⟨#[48]⟩, 0, 3, 0),
  (⟨#[94]⟩, 0, 4, 0),
  (⟨#[36]⟩, 0, 5, 0),
  (⟨#[124]⟩, 0, 6, 0),
  (⟨#[106]⟩, 0, 11, 0),
  (⟨#[107]⟩, 0, 12, 0),
  (⟨#[43, 32, 13]⟩, 0, 13, 0),
  (⟨#[45]⟩, 0, 14, 0),
  (⟨#[95]⟩, 0, 15, 0),
  (⟨#[71]⟩, 0, 16, 0),
  (⟨#[103, 103]⟩, 0, 17, 0),
  (⟨#[119]⟩, 0, 21, 0),
  (⟨#[98]⟩, 0, 22, 0),
  (⟨#[101]⟩, 0, 23, 0),
  (⟨#[103, 101]⟩, 0, 24, 0),
  (⟨#[87]⟩, 0, 25, 0),
  (⟨#[66]⟩, 0, 26, 0),
  (⟨#[69]⟩, 0, 27, 0),
  (⟨#[103, 69]⟩, 0, 28, 0),
  (⟨#[125]⟩, 0, 31, 0),
  (⟨#[123]⟩, 0, 32, 0),
  (⟨#[59]⟩, 0, 41, 0),
  (⟨#[44]⟩, 0, 42, 0),
  (⟨#[47]⟩, 0, 43, 0),
  (⟨#[63]⟩, 0, 44, 0),
  (⟨#[110]⟩, 0, 45, 0),
  (⟨#[78]⟩, 0, 46, 0),
  (⟨#[42]⟩, 0, 47, 0),
  (⟨#[35]⟩, 0, 48, 0),
  (⟨#[72]⟩, 0, 51, 0),
  (⟨#[77]⟩, 0, 52, 0),
  (⟨#[76]⟩, 0, 53, 0),
  (⟨#[37]⟩, 0, 33, 0)]
theorem motions_l : linesOf motionsM = motionsL := rfl
theorem motions_a : Ascii motionsM := ascii_of (by decide +kernel)
set_option maxRecDepth 100000 in
set_option maxHeartbeats 8000000 in
theorem motions_c (w : World) :
    Calls Try.prog 64 #[] w fun e w' => e = .returned (.slice (some ⟨w.heap.size, 0, none⟩) 35 35) ∧ w' = w.alloc (.cells (linesC motionsM).toArray 129) := by
  go_enter Try.func64, Try.ntmps64
  go_wp2
  go_ret
  exact ⟨rfl, rfl⟩
end Go.Proofs.Ytampjndfhpjheaa
