/- A nil device. -/
import Derived.Test.YtcbglojjbgenlaaMedKey
namespace Go.Proofs.Ytcbglojjbgenlaa
open Go.RowKit
set_option linter.unusedSimpArgs false
set_option linter.unusedVariables false
attribute [local go_sem ↓] Go.wp_at_zero Go.wp_at_succ

theorem nil_closed (w : World) : Calls Try.prog 34 #[.pointer none] w fun e w' => e = .returned (.int .i64 1) ∧ w' = w := by
  go_enter Try.func34, Try.ntmps34
  go_wp2
  first | (go_ret; exact ⟨rfl, rfl⟩) | (go_end0; exact ⟨rfl, rfl⟩)

theorem nil_up (w : World) : Calls Try.prog 7 #[.pointer none] w fun e w' => e = .returned (.tuple #[]) ∧ w' = w := by
  go_enter Try.func7, Try.ntmps7
  go_wp2
  first | (go_ret; exact ⟨rfl, rfl⟩) | (go_end0; exact ⟨rfl, rfl⟩)

theorem nil_down (w : World) : Calls Try.prog 19 #[.pointer none] w fun e w' => e = .returned (.bool false) ∧ w' = w := by
  go_enter Try.func19, Try.ntmps19
  go_wp2
  first | (go_ret; exact ⟨rfl, rfl⟩) | (go_end0; exact ⟨rfl, rfl⟩)

theorem nil_choose (va : Value) (w : World) : Calls Try.prog 18 #[.pointer none, va] w fun e w' => e = .returned (.int .i64 1) ∧ w' = w := by
  go_enter Try.func18, Try.ntmps18
  go_wp2
  first | (go_ret; exact ⟨rfl, rfl⟩) | (go_end0; exact ⟨rfl, rfl⟩)

theorem nil_accesses (w : World) : Calls Try.prog 20 #[.pointer none] w fun e w' => e = .returned (.slice none 0 0) ∧ w' = w := by
  go_enter Try.func20, Try.ntmps20
  go_wp2
  first | (go_ret; exact ⟨rfl, rfl⟩) | (go_end0; exact ⟨rfl, rfl⟩)

theorem nil_setReg (cs : Array Value) (w : World) : Calls Try.prog 17 #[.pointer none, .agg cs] w fun e w' => e = .returned (.int .i64 1) ∧ Below w.heap.size w w' := by
  go_enter Try.func17, Try.ntmps17
  go_wp2_with (go_at_call 34; refine (nil_closed _).mono ?_; rintro e w' ⟨rfl, rfl⟩)
  first | (go_ret; exact ⟨rfl, by (repeat (first | exact Below.refl _ _ | refine bg_al ?_ | refine bg_gr ?_ | refine bg_drn ?_ | refine bg_dr ?_ | assumption))⟩) | (go_end0; exact ⟨rfl, by (repeat (first | exact Below.refl _ _ | refine bg_al ?_ | refine bg_gr ?_ | refine bg_drn ?_ | refine bg_dr ?_ | assumption))⟩)

end Go.Proofs.Ytcbglojjbgenlaa
