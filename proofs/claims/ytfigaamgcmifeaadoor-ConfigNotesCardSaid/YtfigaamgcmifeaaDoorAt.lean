/- poset.At, poset.has, config.Label: where the labels are in range. -/
import Derived.Test.YtfigaamgcmifeaaDoorBd
import Derived.Test.YtfigaamgcmifeaaDoorUs
import Derived.Outline
namespace Go.Proofs.YtfigaamgcmifeaaDoor
open Go.RowKit Go.Lib Go.Proofs.YtfigaamgcmifeaaDoorW.PrintWords
set_option linter.unusedVariables false

set_option maxRecDepth 100000 in
set_option maxHeartbeats 4000000 in
theorem Label_calls (vUp vU vP vB vC : Value) (A : Option Addr) (c : Nat) (l : List ByteArray) (x : ByteArray) (w : World) (hC : Kd.C Kd.string w A l.length l) (hb : l.length ≤ 9223372036854775807) :
    Calls Tryd.prog 10 #[.agg #[.slice A l.length c, vUp, vU, vP, vB, vC], .string x] w fun e w' => e = .returned (.tuple #[.int .i64 (max (idxS l x) 0), .bool (decide (0 ≤ idxS l x))]) ∧ Below w.heap.size w w' := by
  have hB := (Below.refl w.heap.size w).alloc (Nat.le_refl _) (.cells #[.slice A l.length c, vUp, vU, vP, vB, vC] 29)
  go_enter Tryd.func10, Tryd.ntmps10
  go_wp2_with (first
    | (go_at_call 23; refine (index_calls _ _ _ _ _ (Kd.C_below hC hB) hb).mono ?_; rintro e w' ⟨rfl, rfl⟩)
    | (go_at_call 22; refine (found_calls _ _).mono ?_; rintro e w' ⟨rfl, rfl⟩))
  go_ret2
  exact ⟨rfl, hB⟩

set_option maxRecDepth 100000 in
set_option maxHeartbeats 4000000 in
theorem has_calls (b o n c g : Nat) (us : List Nat) (x y : Nat) (hn : us.length = n) (h1 : 1 ≤ n) (h64 : n ≤ 64) (hcap : n ≤ c) (hlt : ∀ x ∈ us, x < 18446744073709551616) (hri : rightB us = true) (hx : x < n) (hy : y < n)
    (w : World) (hb : b < w.heap.size) (hb0 : 0 < w.heap.size) (hc : ∀ (k x : Nat), us[k]? = some x → w.cell? ⟨b, o + k, none⟩ = some (.int .u64 (x : Int))) (hT : TabAt 0 Lib.deBruijn64tab w)
    (c0 : w.cell? ⟨g, 0, none⟩ = some (.int .i64 (x : Int))) (c1 : w.cell? ⟨g, 1, none⟩ = some (.int .i64 (y : Int))) :
    Calls Tryd.prog 24 #[.slice (some ⟨b, o, none⟩) n c, .slice (some ⟨g, 0, none⟩) 2 2] w fun e w' => e = .returned (.bool true) ∧ Below w.heap.size w w' := by
  have cR := Right_calls b o n c us hn h1 h64 hcap hlt w hb hb0 hc hT
  rw [hri] at cR
  have CR := Lib.hid cR
  clear cR
  have q1 : ((x : Int) < 0) = False := eq_false (by omega)
  have q2 : (n ≤ x) = False := eq_false (by omega)
  have q3 : ((y : Int) < 0) = False := eq_false (by omega)
  have q4 : (n ≤ y) = False := eq_false (by omega)
  go_enter Tryd.func24, Tryd.ntmps24
  go_wp2
  go_loop [9] (fun p => ∃ k : Nat, p = .int .i64 (k : Int) ∧ k ≤ 2) (fun p => 2 - (intOf p).toNat)
  case atStart => exact ⟨0, rfl, by omega⟩
  case round =>
    obtain ⟨k, rfl, hk⟩ := hrel
    match k, hk with
    | 0, _ =>
      go_wp2
      go_round
      case rel => exact ⟨1, rfl, by omega⟩
      case measure => decide
    | 1, _ =>
      go_wp2
      go_round
      case rel => exact ⟨2, rfl, by omega⟩
      case measure => decide
    | 2, _ =>
      go_wp2_with (go_at_call 12; refine CR.out.mono ?_; rintro e w1 ⟨rfl, hb1⟩)
      go_ret
      exact ⟨rfl, hb1⟩

set_option maxRecDepth 100000 in
set_option maxHeartbeats 4000000 in
theorem At_calls (b o n c : Nat) (us : List Nat) (x y : Nat) (hn : us.length = n) (h1 : 1 ≤ n) (h64 : n ≤ 64) (hcap : n ≤ c) (hlt : ∀ x ∈ us, x < 18446744073709551616) (hri : rightB us = true) (hx : x < n) (hy : y < n) (hbit : (us.getD x 0).testBit y = true)
    (w : World) (hb : b < w.heap.size) (hb0 : 0 < w.heap.size) (hc : ∀ (k x : Nat), us[k]? = some x → w.cell? ⟨b, o + k, none⟩ = some (.int .u64 (x : Int))) (hT : TabAt 0 Lib.deBruijn64tab w) :
    Calls Tryd.prog 11 #[.slice (some ⟨b, o, none⟩) n c, .int .i64 (x : Int), .int .i64 (y : Int)] w fun e w' => e = .returned (.bool true) ∧ Below w.heap.size w w' := by
  have hslot := slot us w b o hc x (by omega)
  have hxl : us.getD x 0 < 18446744073709551616 := by
    rw [List.getD_eq_getElem?_getD, List.getElem?_eq_getElem (by omega)]
    exact hlt _ (List.getElem_mem _)
  have t82 := bit_is1 (us.getD x 0) y hxl
  rw [hbit] at t82
  have cH := fun g w1 (hB : Below w.heap.size w w1) => has_calls b o n c g us x y hn h1 h64 hcap hlt hri hx hy w1 (Nat.lt_of_lt_of_le hb hB.size) (Nat.lt_of_lt_of_le hb0 hB.size) (fun k z hz => pw_cell_below hB (hc k z hz)) (fun j hj => (hB.cell (p := ⟨0, j, none⟩) hb0).trans (hT j hj))
  have CH := Lib.hid cH
  clear cH hc hri hbit
  generalize us.getD x 0 = z at *
  have hB1 : Below w.heap.size w (w.alloc (.cells #[.int .i64 (x : Int), .int .i64 (y : Int)] 3)) := (Below.refl _ w).alloc (Nat.le_refl _) _
  have hnew := World.alloc_heap_new w (.cells #[.int .i64 (x : Int), .int .i64 (y : Int)] 3)
  have n0 := blk_cell hnew 0
  have n1 := blk_cell hnew 1
  simp only [List.getElem?_toArray, List.getElem?_cons_zero, List.getElem?_cons_succ] at n0 n1
  have C1 := Lib.hid (CH.out w.heap.size _ hB1 n0 n1)
  clear CH n0 n1 hnew
  go_enter Tryd.func11, Tryd.ntmps11
  go_wp2_with (go_at_call 24; refine C1.out.mono ?_; rintro e w1 ⟨rfl, hb1⟩; have hs1 := ((hB1.trans (hb1.mono hB1.size)).cell (p := ⟨b, o + x, none⟩) hb).trans hslot)
  go_ret
  exact ⟨rfl, hB1.trans (hb1.mono hB1.size)⟩
end Go.Proofs.YtfigaamgcmifeaaDoor
