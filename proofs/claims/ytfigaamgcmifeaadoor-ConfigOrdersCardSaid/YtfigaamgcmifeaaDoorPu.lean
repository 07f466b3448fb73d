/- purse: a part that is whole; a purse that may be; its text. -/
import Derived.Test.YtfigaamgcmifeaaDoorFr
namespace Go.Proofs.YtfigaamgcmifeaaDoor
open Go.RowKit Go.Lib Go.Proofs.YtfigaamgcmifeaaDoorW.PrintWords
set_option linter.unusedVariables false

/-- A float that is a whole number within the bounds. -/
structure WholeF (f : Nat) (n : Int) : Prop where
  pos : FloatKind.f64.format.order f 0 = some Ordering.gt
  low : FloatKind.f64.format.order f 4787326403894837248 = some Ordering.lt
  self : FloatKind.f64.format.order f f = some Ordering.eq
  conv : ∀ w : World, (convert 106 2 (.float .f64 f)).run Tryd.prog w = .ok (.int .i64 n) w
  back : floatOfInt .f64 n = f

theorem whole3 : WholeF 4613937818241073152 3 := ⟨by kernel_rfl, by kernel_rfl, by kernel_rfl, fun w => by kernel_rfl, by kernel_rfl⟩
theorem whole100 : WholeF 4636737291354636288 100 := ⟨by kernel_rfl, by kernel_rfl, by kernel_rfl, fun w => by kernel_rfl, by kernel_rfl⟩

set_option maxRecDepth 100000 in
set_option maxHeartbeats 4000000 in
theorem whole_calls (f : Nat) (n : Int) (h : WholeF f n) (w : World) :
    Calls Tryd.prog 53 #[.float .f64 f] w fun e w' => e = .returned (.bool true) ∧ w = w' := by
  obtain ⟨h1, h2, h3, h4, h5⟩ := h
  go_enter Tryd.func53, Tryd.ntmps53
  go_wp2
  go_ret
  exact ⟨rfl, rfl⟩

theorem purseRight_calls (f g : Nat) (n m : Int) (h : WholeF f n) (k : WholeF g m) (w : World) :
    Calls Tryd.prog 27 #[.complex .f64 f g] w fun e w' => e = .returned (.bool true) ∧ w = w' := by
  have c1 := whole_calls f n h w
  have c2 := whole_calls g m k w
  go_enter Tryd.func27, Tryd.ntmps27
  go_wp2_with (first
    | (go_at_call 53; refine c1.mono ?_; clear c1; rintro e w' ⟨rfl, rfl⟩)
    | (go_at_call 53; refine c2.mono ?_; rintro e w' ⟨rfl, rfl⟩))
  go_ret
  exact ⟨rfl, rfl⟩
end Go.Proofs.YtfigaamgcmifeaaDoor
