/- The walk of the law ClocksNil. -/
import Derived.Test.YtkpigklcbigfdaaClk
namespace Go.Proofs.Ytkpigklcbigfdaa.Clk
set_option linter.unusedVariables false
set_option linter.unusedSimpArgs false
open Go.RowKit Go.Proofs.YtkpigklcbigfdaaW.PrintWords Go.Proofs.YtkpigklcbigfdaaW.PrintLast Go.Proofs.YtkpigklcbigfdaaW.PrintMore
theorem nil_walk (i d : Int) (W : World) : Calls Try.prog 6 #[.int .i64 i, .int .i64 d] W fun e w' => e = .returned (.bool true) ∧ Below W.heap.size W w' := by
  go_enter Try.func6, Try.ntmps6
  go_wp2_with (first | (go_at_call 8; refine (awake_calls _).mono ?_; rintro e w1 ⟨rfl, hb1⟩) | (go_at_call 10; refine (tick_nil _ _ _).mono ?_; rintro e w2 ⟨rfl, rfl⟩) | (go_at_call 11; refine (now_nil _ _).mono ?_; rintro e w3 ⟨rfl, rfl⟩))
  go_ret
  exact ⟨rfl, hb1⟩
end Go.Proofs.Ytkpigklcbigfdaa.Clk
