/- The contract of tagged. -/
import Derived.Test.YtampjndfhpjheaaTj
import Derived.Test.YtampjndfhpjheaaTl
namespace Go.Proofs.Ytampjndfhpjheaa
open Go.RowKit
set_option maxRecDepth 100000 in
set_option maxHeartbeats 2000000 in
theorem tagged_c (n : Int) (w : World) :
    Calls Try.prog 34 #[.int .i64 n] w fun e w' => e = .returned (.agg #[.int .i64 n, .string (tagS n)]) ∧ Below w.heap.size w w' := by
  by_cases h0 : n = 0
  · subst h0
    go_enter Try.func34, Try.ntmps34
    go_wp2
    exact bodyPost_ret (v := .agg #[.int .i64 0, .string (tagS 0)]) (by simp [results, Try.results34, go_sem, tagS]) rfl ⟨rfl, below_new2 _ _⟩
  · have z0 : (n == 0) = false := by simpa using h0
    have H0 := Lib.hid h0
    clear h0
    go_enter Try.func34, Try.ntmps34
    have hcv := run_convert_bytes_arg (P := Try.prog) ((w.alloc (.cells #[.int .i64 0, .string ⟨#[]⟩] 78)).alloc (.cells #[.int .u8 (n % 256), .int .u8 (n / 256 % 256)] 5)) 111 5 Try.underlying111 Try.underlying5 (w.heap.size + 1) 0 2 2 [n % 256, n / 256 % 256] rfl (by
      intro i hi
      have e : (w.alloc (.cells #[.int .i64 0, .string ⟨#[]⟩] 78)).heap.size = w.heap.size + 1 := by simp
      have h1 := one_new (w.alloc (.cells #[.int .i64 0, .string ⟨#[]⟩] 78)) (.cells #[.int .u8 (n % 256), .int .u8 (n / 256 % 256)] 5)
      rw [e] at h1
      rw [block_cell h1]
      have : i = 0 ∨ i = 1 := by omega
      rcases this with rfl | rfl <;> rfl) 9 Try.underlying9
    have htag : strOfNums [n % 256, n / 256 % 256] = tagS n := by unfold tagS; rw [if_neg H0.out]
    rw [htag] at hcv
    clear htag
    go_wp2
    exact bodyPost_ret (v := .agg #[.int .i64 n, .string (tagS n)]) (by simp [results, Try.results34, go_sem]) rfl ⟨rfl, ((Below.refl _ _).alloc (Nat.le_refl _) _).alloc (by simp) _⟩
end Go.Proofs.Ytampjndfhpjheaa
