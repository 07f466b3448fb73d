/- config.fresh: names, none twice: where it is so. -/
import Derived.Test.YtfigaamgcmifeaaDoorPa
namespace Go.Proofs.YtfigaamgcmifeaaDoor
open Go.RowKit Go.Lib Go.Proofs.YtfigaamgcmifeaaDoorW.PrintWords
set_option linter.unusedVariables false

def freshP (l : List ByteArray) : Prop := ∀ (i : Nat) (x : ByteArray), l[i]? = some x → nameB x = true ∧ idxS (l.take i) x < 0 ∧ x.size ≤ 65536

set_option maxRecDepth 100000 in
set_option maxHeartbeats 4000000 in
theorem fresh_calls (A : Option Addr) (c : Nat) (l : List ByteArray) (w : World) (hC : Kd.C Kd.string w A l.length l) (hl : l.length ≤ 64) (hc : l.length ≤ c) (hf : freshP l) :
    Calls Tryd.prog 26 #[.slice A l.length c] w fun e w' => e = .returned (.bool true) ∧ Below w.heap.size w w' := by
  have Hf := Lib.hid hf
  clear hf
  go_enter Tryd.func26, Tryd.ntmps26
  go_wp2
  go_loopw [7] (fun p wr => ∃ k : Nat, p = .int .i64 (k : Int) ∧ k ≤ l.length ∧ Below w.heap.size w wr) (fun p _ => l.length - (intOf p).toNat)
  case atStart => exact ⟨0, rfl, by omega, Below.refl _ _⟩
  case round =>
    obtain ⟨k, rfl, hk, hB⟩ := hrel
    by_cases hkl : k < l.length
    · have hC2 := Kd.C_below hC hB
      obtain ⟨b, o, x, rfl, hx, hb, cx⟩ := C_str hC2 k hkl
      obtain ⟨hn, hi, hz⟩ := Hf.out k x hx
      have Hx := Lib.hid hx
      clear hx
      have hnm : Calls Tryd.prog 48 #[.string x] wr fun e w' => e = .returned (.bool true) ∧ wr = w' := by rw [← hn]; exact name_calls x wr (by omega)
      have htl : (l.take k).length = k := by rw [List.length_take]; omega
      have hcc := contains_calls (some ⟨b, o, none⟩) c (l.take k) x wr (Kd.C_take hC2 (by omega)) (by omega)
      rw [htl, decide_eq_false (by omega)] at hcc
      have hcut := print_cut (P := Tryd.prog)
      clear hi
      go_wp2_with (first
        | (go_at_call 48; refine hnm.mono ?_; rintro e w' ⟨rfl, rfl⟩)
        | (go_at_call 52; refine hcc.mono ?_; rintro e w' ⟨rfl, rfl⟩))
      refine ⟨⟨k + 1, rfl, by omega, hB⟩, by simp [intOf]; omega⟩
    · obtain rfl : k = l.length := by omega
      go_wp2
      go_ret
      exact ⟨rfl, hB⟩
end Go.Proofs.YtfigaamgcmifeaaDoor
