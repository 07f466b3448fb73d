/- fixed is true. -/
import Derived.Test.YtfigaamgcmifeaaDoorFi
import Derived.Test.YtfigaamgcmifeaaDoorPr
namespace Go.Proofs.YtfigaamgcmifeaaDoor
open Go.RowKit Go.Lib Go.Proofs.YtfigaamgcmifeaaDoorW.PrintWords
set_option linter.unusedVariables false

theorem itoa_3 : Lib.itoa 3 = [51] := by rw [show (3 : Int) = ((3 : Nat) : Int) from rfl, Lib.itoa_nonneg, Lib.decDigits_one (by decide)]; rfl
theorem itoa_100 : Lib.itoa 100 = [49, 48, 48] := by
  rw [show (100 : Int) = ((100 : Nat) : Int) from rfl, Lib.itoa_nonneg, Lib.decDigits, dif_neg (by decide)]
  show Lib.decDigits 10 ++ [48] = _
  rw [Lib.decDigits_two (by decide) (by decide)]; rfl
theorem fx_print : strB (printT fxS [(0, 1)] 3 100) = fx1 := by
  have e1 : Lib.decDigits 1 = [49] := by rw [Lib.decDigits_one (by decide)]; rfl
  have e0 : Lib.decDigits 0 = [48] := by rw [Lib.decDigits_one (by decide)]; rfl
  have e9 : Lib.decDigits 9 = [57] := by rw [Lib.decDigits_one (by decide)]; rfl
  have ep : predsT fxS.preds = lineT [wPred, xP, strB [49], strB [48]] := by
    show lineT [wPred, xP, strB (Lib.decDigits 1), strB (Lib.decDigits 0)] ++ [] = _
    rw [e1, e0, List.append_nil]
  have eb : lineT [wBound, strB (Lib.decDigits fxS.bound.toNat)] = lineT [wBound, strB [57]] := by
    show lineT [wBound, strB (Lib.decDigits 9)] = _
    rw [e9]
  have eq : purseT 3 100 = [51] ++ [32] ++ [49, 48, 48] := by rw [purseT, itoa_3, itoa_100]
  unfold printT
  rw [ep, eb, eq]
  rfl
def fxSt (a : Nat) : Nat := if a = 0 then 2 else 0
theorem fxPrint (v : Value) (w : World) (hc : Cfg w v fxS [3, 2]) (hE : Env w) :
    Calls Tryd.prog 14 #[v] w fun e w' => e = .returned (.tuple #[.string fx1, .int .i64 0]) ∧ Below w.heap.size w w' := by
  have h := Print_calls v fxS [3, 2] 3 100 fxSt [(0, 1)] w hc fx_good (fun a ha => by
      match a, ha with
      | 0, _ => exact ⟨by decide, by decide, fun k hk => by
          have : k = 1 := by
            match k, hk with
            | 0, h => exact absurd h (by decide)
            | 1, _ => rfl
            | k + 2, h =>
              rw [show fxSt 0 = 2 from rfl, Nat.testBit_lt_two_pow (Nat.lt_of_lt_of_le (by decide : 2 < 2 ^ 2) (Nat.pow_le_pow_right (by decide) (by omega)))] at h
              cases h
          subst this
          decide⟩
      | 1, _ => exact ⟨by decide, by decide, fun k hk => by
          rw [show fxSt 1 = 0 from rfl, Nat.zero_testBit] at hk
          cases hk⟩) (by decide) (by decide) (by decide) (by decide) (by decide) (by decide) (by decide) (by decide) (by decide) (by decide) (by decide) (by decide) (by decide) (by decide) (by rw [itoa_3, itoa_100]; decide) hE.pow hE.tab
  rw [fx_print] at h
  exact h
theorem fixed_true (w : World) (hE : Env w) : Calls Tryd.prog 5 #[] w fun e w' => e = .returned (.bool true) ∧ Below w.heap.size w w' :=
  fixed_calls w hE fxPrint
end Go.Proofs.YtfigaamgcmifeaaDoor
