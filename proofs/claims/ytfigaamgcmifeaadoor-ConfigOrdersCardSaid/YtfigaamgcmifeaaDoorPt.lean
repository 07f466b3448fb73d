/- purse.Text; a line written. -/
import Derived.Test.YtfigaamgcmifeaaDoorPu
import Derived.Lib.QuietBelow
import Derived.WalkSmall
namespace Go.Proofs.YtfigaamgcmifeaaDoor
open Go.RowKit Go.Lib Go.Proofs.YtfigaamgcmifeaaDoorW.PrintWords
set_option linter.unusedVariables false

theorem below_grown_row {w w1 : World} {k : Nat} {os : Array Obj} (h : w1 = Go.Sort.grow (w.drewN k) os) : Below w.heap.size w w1 := by
  subst h
  refine ⟨rfl, rfl, rfl, ?_, fun i hi => ?_⟩
  · show w.heap.size ≤ (w.heap ++ os).size
    simp
  · show (w.heap ++ os)[i]? = w.heap[i]?
    rw [Array.getElem?_append_left hi]

/-- The text of a purse of whole parts. -/
def purseT (n m : Int) : List UInt8 := Lib.itoa n ++ [32] ++ Lib.itoa m

abbrev PowTab (w : World) : Prop := Lib.TabIs Tryd.prog w "internal/strconv.uint64pow10" .u64 Lib.pow10Tab
theorem powName : Tryd.prog.globalNamed "internal/strconv.uint64pow10" = some 2 := by kernel_rfl
theorem PowTab.lt {w : World} (h : PowTab w) : 2 < w.heap.size := World.block_lt_of_cell? w _ (h.cell powName 0 (by decide))
theorem PowTab.below {w w1 : World} {B : Nat} (ht : PowTab w) (h : Below B w w1) (hB : 2 < B) : PowTab w1 := var?_below h powName hB ht

theorem fmt_calls (n : Int) (h0 : 0 ≤ n) (h1 : n ≤ 1099511627776) (w : World) (htab : PowTab w) :
    Calls Tryd.prog 57 #[.int .i64 n, .int .i64 10] w fun e w' => e = .returned (.string ⟨(Lib.itoa n).toArray⟩) ∧ Below w.heap.size w w' := by
  refine (Tryd.strconv_FormatInt_10 n (by omega) (by omega) w htab).mono ?_
  rintro e w' ⟨rfl, k, os, h⟩
  exact ⟨rfl, below_grown_row h⟩

set_option maxRecDepth 100000 in
set_option maxHeartbeats 4000000 in
theorem purseText_calls (f g : Nat) (n m : Int) (hf : WholeF f n) (hg : WholeF g m) (hn0 : 0 ≤ n) (hn1 : n ≤ 1099511627776) (hm0 : 0 ≤ m) (hm1 : m ≤ 1099511627776) (hl : (Lib.itoa n).length + 1 + (Lib.itoa m).length ≤ 1000) (w : World) (htab : PowTab w) :
    Calls Tryd.prog 33 #[.complex .f64 f g] w fun e w' => e = .returned (.tuple #[.string ⟨(purseT n m).toArray⟩, .bool true]) ∧ Below w.heap.size w w' := by
  have c0 := purseRight_calls f g n m hf hg w
  have c1 := fmt_calls n hn0 hn1
  have c2 := fmt_calls m hm0 hm1
  have h1 := hf.conv
  have h2 := hg.conv
  have Htab := Lib.hid htab
  have C2 := Lib.hid c2
  have l1 : (9223372036854775807 < (Lib.itoa n).length + 1) = False := eq_false (by omega)
  have l2 : (9223372036854775807 < (Lib.itoa n).length + 1 + (Lib.itoa m).length) = False := eq_false (by omega)
  clear c2 htab
  go_enter Tryd.func33, Tryd.ntmps33
  go_wp2_with (first
    | (go_at_call 27; refine c0.mono ?_; rintro e w' ⟨rfl, rfl⟩)
    | (go_at_call 57; refine (c1 _ Htab.out).mono ?_; clear c1; rintro e w1 ⟨rfl, hb1⟩)
    | (go_at_call 57; refine (C2.out _ (PowTab.below Htab.out hb1 (PowTab.lt Htab.out))).mono ?_; rintro e w2 ⟨rfl, hb2⟩))
  go_ret2
  refine ⟨?_, hb1.trans (hb2.mono hb1.size)⟩
  have e : (⟨(purseT n m).toArray⟩ : ByteArray) = ⟨(Lib.itoa n).toArray⟩ ++ ⟨#[32]⟩ ++ ⟨(Lib.itoa m).toArray⟩ := by
    apply ByteArray.ext
    simp [purseT, ByteArray.data_append]
  rw [e]
  rfl
end Go.Proofs.YtfigaamgcmifeaaDoor
