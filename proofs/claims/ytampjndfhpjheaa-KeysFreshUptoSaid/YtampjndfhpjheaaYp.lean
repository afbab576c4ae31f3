/- Contracts: the functions that tell the lines of the tables. No condition. -/
import Derived.Test.YtampjndfhpjheaaYo
namespace Go.Proofs.Ytampjndfhpjheaa
open Go.RowKit

def seeksM : List LineM := [
  (⟨#[102]⟩, 0, 7, 0),
  (⟨#[70]⟩, 0, 8, 0),
  (⟨#[116]⟩, 0, 9, 0),
  (⟨#[84]⟩, 0, 10, 0),
  (⟨#[96]⟩, 0, 49, 0),
  (⟨#[39]⟩, 0, 50, 0)]
theorem seeks_l : linesOf seeksM = seeksL := rfl
theorem seeks_a : Ascii seeksM := ascii_of (by decide +kernel)
set_option maxRecDepth 100000 in
set_option maxHeartbeats 8000000 in
theorem seeks_c (w : World) :
    Calls Try.prog 65 #[] w fun e w' => e = .returned (.slice (some ⟨w.heap.size, 0, none⟩) 6 6) ∧ w' = w.alloc (.cells (linesC seeksM).toArray 129) := by
  go_enter Try.func65, Try.ntmps65
  go_wp2
  go_ret
  exact ⟨rfl, rfl⟩
def objectsM : List LineM := [
  (⟨#[119]⟩, 0, 61, 0),
  (⟨#[87]⟩, 0, 63, 0),
  (⟨#[112]⟩, 0, 69, 0),
  (⟨#[34]⟩, 0, 65, 34),
  (⟨#[39]⟩, 0, 65, 39),
  (⟨#[96]⟩, 0, 65, 96),
  (⟨#[40, 32, 41, 32, 98]⟩, 0, 67, 40),
  (⟨#[91, 32, 93]⟩, 0, 67, 91),
  (⟨#[123, 32, 125, 32, 66]⟩, 0, 67, 123),
  (⟨#[60, 32, 62]⟩, 0, 67, 60)]
theorem objects_l : linesOf objectsM = objectsL := rfl
theorem objects_a : Ascii objectsM := ascii_of (by decide +kernel)
set_option maxRecDepth 100000 in
set_option maxHeartbeats 8000000 in
theorem objects_c (w : World) :
    Calls Try.prog 76 #[] w fun e w' => e = .returned (.slice (some ⟨w.heap.size, 0, none⟩) 10 10) ∧ w' = w.alloc (.cells (linesC objectsM).toArray 129) := by
  go_enter Try.func76, Try.ntmps76
  go_wp2
  go_ret
  exact ⟨rfl, rfl⟩
def operatorsM : List LineM := [
  (⟨#[100]⟩, 2, 0, 0),
  (⟨#[99]⟩, 3, 0, 0),
  (⟨#[121]⟩, 4, 0, 0),
  (⟨#[62]⟩, 8, 0, 0),
  (⟨#[60]⟩, 9, 0, 0),
  (⟨#[103, 85]⟩, 5, 0, 0),
  (⟨#[103, 117]⟩, 6, 0, 0),
  (⟨#[103, 126]⟩, 7, 0, 0)]
theorem operators_l : linesOf operatorsM = operatorsL := rfl
theorem operators_a : Ascii operatorsM := ascii_of (by decide +kernel)
set_option maxRecDepth 100000 in
set_option maxHeartbeats 8000000 in
theorem operators_c (w : World) :
    Calls Try.prog 78 #[] w fun e w' => e = .returned (.slice (some ⟨w.heap.size, 0, none⟩) 8 8) ∧ w' = w.alloc (.cells (linesC operatorsM).toArray 129) := by
  go_enter Try.func78, Try.ntmps78
  go_wp2
  go_ret
  exact ⟨rfl, rfl⟩
def scrollsM : List LineM := [
  (⟨#[122, 116]⟩, 38, 0, 0),
  (⟨#[122, 122]⟩, 39, 0, 0),
  (⟨#[122, 98]⟩, 40, 0, 0),
  (⟨#[6]⟩, 32, 0, 0),
  (⟨#[2]⟩, 33, 0, 0),
  (⟨#[4]⟩, 34, 0, 0),
  (⟨#[21]⟩, 35, 0, 0),
  (⟨#[5]⟩, 36, 0, 0),
  (⟨#[25]⟩, 37, 0, 0)]
theorem scrolls_l : linesOf scrollsM = scrollsL := rfl
theorem scrolls_a : Ascii scrollsM := ascii_of (by decide +kernel)
set_option maxRecDepth 100000 in
set_option maxHeartbeats 8000000 in
theorem scrolls_c (w : World) :
    Calls Try.prog 69 #[] w fun e w' => e = .returned (.slice (some ⟨w.heap.size, 0, none⟩) 9 9) ∧ w' = w.alloc (.cells (linesC scrollsM).toArray 129) := by
  go_enter Try.func69, Try.ntmps69
  go_wp2
  go_ret
  exact ⟨rfl, rfl⟩
def namedM : List LineM := [
  (⟨#[114]⟩, 16, 0, 0),
  (⟨#[113]⟩, 28, 0, 0),
  (⟨#[64]⟩, 29, 0, 0),
  (⟨#[109]⟩, 30, 0, 0)]
theorem named_l : linesOf namedM = namedL := rfl
theorem named_a : Ascii namedM := ascii_of (by decide +kernel)
set_option maxRecDepth 100000 in
set_option maxHeartbeats 8000000 in
theorem named_c (w : World) :
    Calls Try.prog 71 #[] w fun e w' => e = .returned (.slice (some ⟨w.heap.size, 0, none⟩) 4 4) ∧ w' = w.alloc (.cells (linesC namedM).toArray 129) := by
  go_enter Try.func71, Try.ntmps71
  go_wp2
  go_ret
  exact ⟨rfl, rfl⟩
def bothM : List LineM := [
  (⟨#[112]⟩, 18, 0, 0),
  (⟨#[80]⟩, 19, 0, 0),
  (⟨#[74]⟩, 20, 0, 0),
  (⟨#[103, 74]⟩, 21, 0, 0),
  (⟨#[118]⟩, 26, 0, 0),
  (⟨#[86]⟩, 27, 0, 0),
  (⟨#[58]⟩, 31, 0, 0)]
theorem both_l : linesOf bothM = bothL := rfl
theorem both_a : Ascii bothM := ascii_of (by decide +kernel)
set_option maxRecDepth 100000 in
set_option maxHeartbeats 8000000 in
theorem both_c (w : World) :
    Calls Try.prog 70 #[] w fun e w' => e = .returned (.slice (some ⟨w.heap.size, 0, none⟩) 7 7) ∧ w' = w.alloc (.cells (linesC bothM).toArray 129) := by
  go_enter Try.func70, Try.ntmps70
  go_wp2
  go_ret
  exact ⟨rfl, rfl⟩
def ofNormalM : List LineM := [
  (⟨#[120]⟩, 2, 2, 0),
  (⟨#[88]⟩, 2, 1, 0),
  (⟨#[68]⟩, 2, 5, 0),
  (⟨#[115]⟩, 3, 2, 0),
  (⟨#[83]⟩, 3, 60, 0),
  (⟨#[67]⟩, 3, 5, 0),
  (⟨#[89]⟩, 4, 60, 0),
  (⟨#[105]⟩, 10, 0, 0),
  (⟨#[97]⟩, 11, 0, 0),
  (⟨#[73]⟩, 12, 0, 0),
  (⟨#[65]⟩, 13, 0, 0),
  (⟨#[111]⟩, 14, 0, 0),
  (⟨#[79]⟩, 15, 0, 0),
  (⟨#[82]⟩, 17, 0, 0),
  (⟨#[126]⟩, 22, 0, 0),
  (⟨#[117]⟩, 23, 0, 0),
  (⟨#[18]⟩, 24, 0, 0),
  (⟨#[46]⟩, 25, 0, 0),
  (⟨#[38]⟩, 43, 0, 0),
  (⟨#[103, 118]⟩, 44, 0, 0),
  (⟨#[90, 90]⟩, 41, 0, 0),
  (⟨#[90, 81]⟩, 42, 0, 0)]
theorem ofNormal_l : linesOf ofNormalM = ofNormalL := rfl
theorem ofNormal_a : Ascii ofNormalM := ascii_of (by decide +kernel)
set_option maxRecDepth 100000 in
set_option maxHeartbeats 8000000 in
theorem ofNormal_c (w : World) :
    Calls Try.prog 74 #[] w fun e w' => e = .returned (.slice (some ⟨w.heap.size, 0, none⟩) 22 22) ∧ w' = w.alloc (.cells (linesC ofNormalM).toArray 129) := by
  go_enter Try.func74, Try.ntmps74
  go_wp2
  go_ret
  exact ⟨rfl, rfl⟩
def ofSelectionM : List LineM := [
  (⟨#[100, 32, 120]⟩, 2, 0, 0),
  (⟨#[99, 32, 115]⟩, 3, 0, 0),
  (⟨#[121]⟩, 4, 0, 0),
  (⟨#[62]⟩, 8, 0, 0),
  (⟨#[60]⟩, 9, 0, 0),
  (⟨#[85, 32, 103, 85]⟩, 5, 0, 0),
  (⟨#[117, 32, 103, 117]⟩, 6, 0, 0),
  (⟨#[126, 32, 103, 126]⟩, 7, 0, 0),
  (⟨#[111]⟩, 45, 0, 0)]
theorem ofSelection_l : linesOf ofSelectionM = ofSelectionL := rfl
theorem ofSelection_a : Ascii ofSelectionM := ascii_of (by decide +kernel)
set_option maxRecDepth 100000 in
set_option maxHeartbeats 8000000 in
theorem ofSelection_c (w : World) :
    Calls Try.prog 75 #[] w fun e w' => e = .returned (.slice (some ⟨w.heap.size, 0, none⟩) 9 9) ∧ w' = w.alloc (.cells (linesC ofSelectionM).toArray 129) := by
  go_enter Try.func75, Try.ntmps75
  go_wp2
  go_ret
  exact ⟨rfl, rfl⟩
end Go.Proofs.Ytampjndfhpjheaa
