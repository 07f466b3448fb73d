/- What the examples' texts read as. -/
import Derived.Test.YtfigaamgcmifeaaDoorOd
import Derived.Test.YtfigaamgcmifeaaDoorCr
namespace Go.Proofs.YtfigaamgcmifeaaDoor
open Go.RowKit Go.Lib Go.Proofs.YtfigaamgcmifeaaDoorW.PrintWords
set_option linter.unusedVariables false

def fx1 : ByteArray := ⟨#[108, 97, 98, 101, 108, 32, 108, 111, 119, 10, 108, 97, 98, 101, 108, 32, 104, 105, 103, 104, 10, 97, 98, 111, 118, 101, 32, 104, 105, 103, 104, 32, 108, 111, 119, 10, 117, 115, 101, 114, 32, 97, 110, 110, 32, 108, 111, 119, 10, 112, 114, 101, 100, 32, 112, 32, 49, 32, 48, 10, 98, 111, 117, 110, 100, 32, 57, 10, 112, 117, 114, 115, 101, 32, 51, 32, 49, 48, 48, 10]⟩
def fx2 : ByteArray := ⟨#[117, 115, 101, 114, 32, 97, 110, 110, 32, 108, 111, 119]⟩
def fx3 : ByteArray := ⟨#[]⟩
def xLow : ByteArray := ⟨#[108, 111, 119]⟩
def xHigh : ByteArray := ⟨#[104, 105, 103, 104]⟩
def xAnn : ByteArray := ⟨#[97, 110, 110]⟩
def xP : ByteArray := ⟨#[112]⟩
def fxS : St := ⟨[xLow, xHigh], [(xAnn, 0)], [(xP, 1, 0)], 9, 4613937818241073152, 4636737291354636288, [(0, 1)], true, true⟩
set_option maxRecDepth 100000 in
theorem fx1_run : runS St.none 0 (linesB fx1) = (fxS, 0, 0) := by
  rw [runS_words, lines_words]
  kernel_rfl
set_option maxRecDepth 100000 in
theorem fx2_run : (runS St.none 0 (linesB fx2)).2 = (1, 8) := by
  rw [runS_words, lines_words]
  kernel_rfl
set_option maxRecDepth 100000 in
theorem fx3_run : runS St.none 0 (linesB fx3) = (St.none, 0, 0) := by
  rw [runS_words, lines_words]
  kernel_rfl
theorem fx_right : rightB [3, 2] = true := by decide
theorem fx_build : buildS 2 [(0, 1)] = [3, 2] := by decide
theorem fx1_parse : parseS fx1 = ⟨fxS, [3, 2], 0, 0⟩ := by
  unfold parseS
  rw [if_neg (by decide), fx1_run, if_pos rfl]
  unfold closeS
  have e : buildS fxS.labels.length fxS.pairs = [3, 2] := fx_build
  rw [if_neg (by rintro (h | h | h) <;> cases h), e, fx_right, if_pos rfl]
theorem fx2_parse : parseS fx2 = .bad 1 8 := by
  unfold parseS
  rw [if_neg (by decide), fx2_run]
  rfl
theorem fx3_parse : parseS fx3 = .bad 0 7 := by
  unfold parseS
  rw [if_neg (by decide), fx3_run]
  rfl

theorem fx_fresh : freshP [xLow, xHigh] := by
  intro i x h
  match i, h with
  | 0, h => obtain rfl : xLow = x := by simpa using h
            exact ⟨by kernel_rfl, by decide, by decide⟩
  | 1, h => obtain rfl : xHigh = x := by simpa using h
            exact ⟨by kernel_rfl, by decide, by decide⟩
  | n + 2, h => simp at h
theorem fx_fresh1 (y : ByteArray) (hy : nameB y = true) (hz : y.size ≤ 65536) : freshP [y] := by
  intro i x h
  match i, h with
  | 0, h => obtain rfl : y = x := by simpa using h
            exact ⟨hy, by simp [idxS], hz⟩
  | n + 1, h => simp at h
theorem fx_good : GoodCfg fxS [3, 2] 3 100 where
  l1 := by decide
  l2 := by decide
  l3 := by decide
  l4 := by decide
  up := rfl
  right := fx_right
  lt := by decide
  users := by intro u hu; obtain rfl : u = (xAnn, 0) := by simpa [fxS] using hu
              decide
  preds := by intro u hu; obtain rfl : u = (xP, 1, 0) := by simpa [fxS] using hu
              decide
  fl := fx_fresh
  fu := fx_fresh1 xAnn (by kernel_rfl) (by decide)
  fp := fx_fresh1 xP (by kernel_rfl) (by decide)
  b1 := by decide
  b2 := by decide
  re := whole3
  im := whole100
end Go.Proofs.YtfigaamgcmifeaaDoor
