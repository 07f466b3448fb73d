/- config.Print's line. -/
import Derived.Test.YtfigaamgcmifeaaDoorPt
import Derived.Lib.Builder
import Derived.Shelf.Strings.BuilderK
namespace Go.Proofs.YtfigaamgcmifeaaDoor
open Go.RowKit Go.Lib Go.Proofs.YtfigaamgcmifeaaDoorW.PrintWords
set_option linter.unusedVariables false

/-- A line's text. -/
def lineT (xs : List ByteArray) : List UInt8 := Lib.join (xs.map (·.data.toList)) [32] ++ [10]

theorem isb_below {B b : Nat} {bs : List Value} {w w1 : World} (h : Lib.IsBuilderF 70 5 B b bs w) (hb : Below w.heap.size w w1) : Lib.IsBuilderF 70 5 B b bs w1 := by
  have key : ∀ p, Lib.BuilderAtF 70 5 B b p bs w → Lib.BuilderAtF 70 5 B b p bs w1 := by
    rintro p ⟨hB, v, hbk, hown, hne⟩
    refine ⟨hB, v, (hb.block b (Array.getElem?_eq_some_iff.1 hbk).1).trans hbk, hown.kept (grown_of_below hb none) ?_, hne⟩
    cases v.ownBlock with
    | none => exact .inl rfl
    | some k => exact .inr (by simp)
  exact h.elim (fun x => .inl (key _ x)) (fun x => .inr (key _ x))
theorem others_below {e : TypeId} {b : Option Nat} {w w1 : World} (hb : Below w.heap.size w w1) : Lib.OthersKept e b w w1 :=
  fun k o hk _ _ => (hb.block k (Array.getElem?_eq_some_iff.1 hk).1).trans hk

theorem write_calls (B b : Nat) (bs : List UInt8) (s : ByteArray) (w : World) (h : Lib.IsBuilderF 70 5 B b (Lib.byteCells bs) w) (hlen : bs.length + s.size ≤ 140737488355328) (hBw : B ≤ w.heap.size) :
    Calls Tryd.prog 29 #[.pointer (some ⟨b, 0, none⟩), .string s] w fun e w' => e = .returned (.tuple #[.int .i64 s.size, .nilIface]) ∧ Lib.IsBuilderF 70 5 B b (Lib.byteCells (bs ++ s.data.toList)) w' ∧ Below B w w' ∧ Lib.OthersKept 5 (some b) w w' := by
  refine (Any.Builder_WriteString_k { Tryd.lays156 with } Tryd.Builder_Extra_156 B b (Lib.byteCells bs) s w h (by rw [Lib.byteCells_length]; exact hlen) hBw).mono ?_
  rintro e w' ⟨rfl, h1, h2, h3⟩
  refine ⟨rfl, ?_, h2, h3⟩
  rw [Lib.byteCells_append, ← Lib.strCells_eq]
  exact .inr h1

set_option maxRecDepth 100000 in
set_option maxHeartbeats 4000000 in
theorem pline_calls (B b g o c : Nat) (xs : List ByteArray) (bs : List UInt8) (w : World) (hI : Lib.IsBuilderF 70 5 B b (Lib.byteCells bs) w)
    (hcells : ∀ (j : Nat) x, xs[j]? = some x → w.cell? ⟨g, o + j, none⟩ = some (.string x)) (hg : g < w.heap.size) (hN : xs.length ≤ 1000) (hc : xs.length ≤ c) (hsz : (lineT xs).length ≤ 1000000) (hbs : bs.length ≤ 1000000) (hBw : B ≤ w.heap.size) :
    Calls Tryd.prog 28 #[.slice (some ⟨g, o, none⟩) xs.length c, .pointer (some ⟨b, 0, none⟩)] w fun e w' => e = .returned (.tuple #[]) ∧ Lib.IsBuilderF 70 5 B b (Lib.byteCells (bs ++ lineT xs)) w' ∧ Below B w w' ∧ Lib.OthersKept 5 (some b) w w' := by
  have hj : (Lib.join (xs.map (·.data.toList)) [32]).length + 1 ≤ 1000000 := by unfold lineT at hsz; simpa using hsz
  have c1 := Tryd.strings_Join g o c xs ⟨#[32]⟩ w hcells hg (by omega) hc (by show (Lib.join _ [32]).length ≤ _; omega)
  have e1 : (Lib.join (xs.map (·.data.toList)) (⟨#[32]⟩ : ByteArray).data.toList) = Lib.join (xs.map (·.data.toList)) [32] := rfl
  rw [e1] at c1
  have hl : lineT xs = Lib.join (xs.map (·.data.toList)) [32] ++ [10] := rfl
  have Hl := Lib.hid hl
  clear hl
  generalize Lib.join (xs.map (·.data.toList)) [32] = J at *
  have hsz2 : ((⟨J.toArray⟩ : ByteArray) ++ (⟨#[10]⟩ : ByteArray)).size = J.length + 1 := by rw [ByteArray.size_append]; rfl
  have c2 := fun w1 h => write_calls B b bs (⟨J.toArray⟩ ++ ⟨#[10]⟩) w1 h (by rw [hsz2]; omega)
  clear hsz2
  have C2 := Lib.hid c2
  clear c2
  have l1 : (9223372036854775807 < J.length + 1) = False := eq_false (by omega)
  go_enter Tryd.func28, Tryd.ntmps28
  go_wp2_with (first
    | (go_at_call 30; refine c1.mono ?_; rintro e w1 ⟨rfl, hb1⟩)
    | (go_at_call 29; refine (C2.out _ (isb_below hI hb1) (Nat.le_trans hBw hb1.size)).mono ?_; rintro e w2 ⟨rfl, hi2, hb2, ho2⟩))
  go_end0
  refine ⟨rfl, ?_, (hb1.mono hBw).trans hb2, (others_below hb1).trans ho2⟩
  have e : ((⟨J.toArray⟩ : ByteArray) ++ (⟨#[10]⟩ : ByteArray)).data.toList = J ++ [10] := by simp [ByteArray.data_append]
  rw [e] at hi2
  rw [Hl.out]
  exact hi2
end Go.Proofs.YtfigaamgcmifeaaDoor
