/- The walks of the reference's Sum, Uint, Text and Texts; Sum of any slice. No condition beyond lengths that memory allows. -/
import Derived.Test.YtbfpjldincnihaaEncode
namespace Go.Proofs.Ytbfpjldincnihaa
open Go.RowKit
set_option linter.unusedVariables false
set_option linter.unusedSimpArgs false

theorem sum_nil (a : Option Addr) (cap : Nat) (w : World) : Calls Try.prog 34 #[.slice a 0 cap] w fun e w' => e = .returned (.int .u32 (sumP [])) ∧ w = w' := by
  go_enter Try.func34, Try.ntmps34
  go_wp2
  go_loop [3, 8] (fun x i => i = .int .i64 0 ∧ x = .int .u32 (full : Nat)) (fun _ i => 0)
  case atStart => exact ⟨rfl, rfl⟩
  case round =>
    obtain ⟨rfl, rfl⟩ := hrel
    go_wp2
    go_ret
    exact ⟨ret_int (full_xor full word_full), rfl⟩
theorem sum_any (v : Value) (l : List UInt8) (w : World) (h : IsB w v l) : Calls Try.prog 34 #[v] w fun e w' => e = .returned (.int .u32 (sumP l)) ∧ w = w' := by
  have hm := h.len
  rcases h with ⟨rfl, a, cap, rfl, _⟩ | ⟨h0, b, off, cap, rfl, h1, h2, h3⟩
  · exact sum_nil a cap w
  · exact sum_some b off cap l w (by unfold maxLen at hm; omega) h3

end Go.Proofs.Ytbfpjldincnihaa
