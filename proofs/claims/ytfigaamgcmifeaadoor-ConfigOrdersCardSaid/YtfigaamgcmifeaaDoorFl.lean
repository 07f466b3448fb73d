/- A whole number as a float is like itself; so are the parts of whatever purse is read. -/
import Derived.Test.YtfigaamgcmifeaaDoorOd
namespace Go.Proofs.YtfigaamgcmifeaaDoor
open Go.RowKit Go.Lib Go.Proofs.YtfigaamgcmifeaaDoorW.PrintWords
set_option linter.unusedVariables false

theorem word_self (neg : Bool) (r : Nat) (h : r ≤ 9218868437227405312) : FloatKind.f64.format.order (Ieee.double.word neg r) (Ieee.double.word neg r) = some .eq := by
  have e1 : Ieee.double.signWeight = 9223372036854775808 := by decide
  have e2 : Ieee.double.infRung = 9218868437227405312 := by decide
  have hm : (Ieee.double.word neg r) % 9223372036854775808 = r := by
    unfold Ieee.Format.word
    rw [e1]
    cases neg <;> simp <;> omega
  show (Ieee.double.read _).order (Ieee.double.read _) = _
  have hs : ∀ d : Ieee.Datum, d.isNaN = false → d.order d = some .eq := by
    intro d hd
    cases d with
    | nan _ _ => cases hd
    | infinity s => cases s <;> rfl
    | number s m i => simp [Ieee.Datum.order, compare, compareOfLessAndEq]
  apply hs
  unfold Ieee.Format.read
  simp only [e1, e2, hm]
  split
  · rfl
  · split
    · rfl
    · split
      · rfl
      · omega
theorem float_self (n : Int) : FloatKind.f64.format.order (floatOfInt .f64 n) (floatOfInt .f64 n) = some .eq := by
  have e2 : Ieee.double.infRung = 9218868437227405312 := by decide
  have key : ∀ (neg : Bool) (m : Nat) (p : Int), ∃ r, r ≤ 9218868437227405312 ∧ Ieee.double.nearest neg m p = Ieee.double.word neg r := by
    intro neg m p
    unfold Ieee.Format.nearest
    split
    · exact ⟨0, by omega, rfl⟩
    · exact ⟨_, by rw [← e2]; exact Nat.min_le_right _ _, rfl⟩
  obtain ⟨r, h1, h2⟩ := key (decide (n < 0)) n.natAbs 0
  have e : floatOfInt .f64 n = Ieee.double.nearest (decide (n < 0)) n.natAbs 0 := rfl
  rw [e, h2]
  exact word_self _ _ h1
theorem zero_self : FloatKind.f64.format.order 0 0 = some .eq := word_self false 0 (by decide)

/-- The purse's parts are like themselves. -/
structure Flt (s : St) : Prop where
  re : FloatKind.f64.format.order s.re s.re = some .eq
  im : FloatKind.f64.format.order s.im s.im = some .eq
theorem Flt.none : Flt St.none := ⟨zero_self, zero_self⟩
theorem Flt.doS {s : St} (h : Flt s) (k : Kn) (ns : List ByteArray) (nums : List Int) : Flt (doS k s ns nums).2 := by
  cases k
  · show Flt (labelS s _).2
    unfold labelS
    split
    · exact h
    · split
      · exact h
      · exact ⟨h.re, h.im⟩
  · show Flt (aboveS s _ _).2
    unfold aboveS
    split
    · exact h
    · exact ⟨h.re, h.im⟩
  · show Flt (userS s _ _).2
    unfold userS
    split
    · exact h
    · split
      · exact h
      · exact ⟨h.re, h.im⟩
  · show Flt (predS s _ _ _).2
    unfold predS
    split
    · exact h
    · split
      · exact h
      · exact ⟨h.re, h.im⟩
  · show Flt (limitS s _).2
    unfold limitS
    split
    · exact h
    · exact ⟨h.re, h.im⟩
  · show Flt (purseS s _ _).2
    unfold purseS
    split
    · exact h
    · exact ⟨float_self _, float_self _⟩
theorem Flt.line {s : St} (h : Flt s) (ws : List ByteArray) : Flt (lineS s ws).2 := by
  cases ws with
  | nil => exact h
  | cons w0 rest =>
    unfold lineS
    repeat' split
    all_goals first | exact h | exact h.doS _ _ _
theorem Flt.run {s : St} (h : Flt s) : ∀ (l : List ByteArray) (i : Nat), Flt (runS s i l).1
  | [], _ => h
  | x :: rest, i => by
    unfold runS
    split
    · exact Flt.run (h.line _) rest _
    · exact h.line _
theorem parse_flt (t : ByteArray) : Flt (parseS t).st := by
  unfold parseS
  split
  · exact Flt.none
  · split
    · unfold closeS
      split
      · exact Flt.none
      · split
        · exact Flt.none.run _ _
        · exact Flt.none
    · exact Flt.none
end Go.Proofs.YtfigaamgcmifeaaDoor
