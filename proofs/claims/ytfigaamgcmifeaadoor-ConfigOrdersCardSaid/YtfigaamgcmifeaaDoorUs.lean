/- User and Pred: where a name stands among a configuration's users, its predicates. -/
import Derived.Test.YtfigaamgcmifeaaDoorSl
namespace Go.Proofs.YtfigaamgcmifeaaDoor
open Go.RowKit Go.Proofs.YtfigaamgcmifeaaDoorW.PrintWords

set_option maxRecDepth 100000 in
set_option maxHeartbeats 1000000 in
theorem user1_calls (b : Nat) (y x : ByteArray) (n : Int) (w : World) (hx : w.cell? ⟨b, 0, none⟩ = some (.string x)) :
    Calls Tryd.prog 36 #[.agg #[.string y, .int .i64 n], .pointer (some ⟨b, 0, none⟩)] w fun e w' => e = .returned (.bool (y.toList == x.toList)) ∧ Below w.heap.size w w' := by
  go_enter Tryd.func36, Tryd.ntmps36
  have hx1 := al1 hx
  go_wp2
  go_ret
  exact ⟨rfl, (Below.refl _ _).alloc (Nat.le_refl _) _⟩

set_option maxRecDepth 100000 in
set_option maxHeartbeats 1000000 in
theorem userAt_calls (b : Nat) (A : Option Addr) (c : Nat) (l : List (ByteArray × Int)) (x : ByteArray) (w : World) (hx : w.cell? ⟨b, 0, none⟩ = some (.string x)) (hC : Kd.C kU w A l.length l) (hb : l.length ≤ 9223372036854775807) :
    Calls Tryd.prog 35 #[.slice A l.length c, .func (.func 36) #[] #[.pointer (some ⟨b, 0, none⟩)]] w fun e w' => e = .returned (.int .i64 (idxS (l.map Prod.fst) x)) ∧ Below w.heap.size w w' := by
  go_enter Tryd.func35, Tryd.ntmps35
  go_wp2
  go_loopw [5, 8] (fun _ i wr => ∃ k : Nat, k ≤ l.length ∧ i = .int .i64 k ∧ Aside0 (NotIn (l.map Prod.fst) x k) ∧ Below w.heap.size w wr) (fun _ i _ => l.length - (intOf i).toNat)
  case atStart => exact ⟨0, by omega, rfl, ⟨fun j y hj => by omega⟩, Below.refl _ _⟩
  case round =>
    obtain ⟨k, hk, rfl, hN, hB⟩ := hrel
    have hx1 : wr.cell? ⟨b, 0, none⟩ = some (.string x) := (hB.cell (World.block_lt_of_cell? w _ hx)).trans hx
    by_cases hlt : k < l.length
    · obtain ⟨bA, oA, y, n, hA, hy, hbA, hc0, hc1⟩ := C_user (Kd.C_below hC hB) k hlt
      subst hA
      have Hy := Lib.hid hy
      clear hy
      go_wp2_with (go_at_call 36; refine (user1_calls _ _ _ _ _ hx1).mono ?_; rintro e w1 ⟨rfl, hb1⟩)
      · have h1 : (y.toList == x.toList) = true := by assumption
        go_ret
        exact ⟨ret_int (idxS_at hN.out (by rw [List.getElem?_map, Hy.out, bs_eq.1 h1]; rfl)).symm, hB.trans (hb1.mono hB.size)⟩
      · have h1 : (y.toList == x.toList) = false := by assumption
        go_roundw
        case rel =>
          refine ⟨k + 1, by omega, by go_num, ⟨fun j z hj hz => ?_⟩, hB.trans (hb1.mono hB.size)⟩
          by_cases e : j = k
          · subst e
            rw [List.getElem?_map, Hy.out] at hz
            injection hz with hz
            subst hz
            exact bs_ne.1 h1
          · exact hN.out j z (by omega) hz
        case measure => simp [intOf]; omega
    · obtain rfl : k = l.length := by omega
      have Hn := Lib.hid (idxS_none (l := l.map Prod.fst) (x := x) (by rw [List.length_map]; exact hN.out))
      go_wp2
      go_ret
      exact ⟨ret_int Hn.out.symm, hB⟩

theorem max2_i (k k' : IntKind) (x y : Int) : Builtin.max2 (.int k x) (.int k' y) = pure (.int k (if x < y then y else x)) := by simp only [Builtin.max2, gt_iff_lt]
theorem max_2 (ats : Array TypeId) (ty : TypeId) (a b : Value) : Builtin.max_ ats ty #[a, b] = (Builtin.max2 a b >>= fun s => pure s) := by simp only [Builtin.max_, List.foldlM_cons, List.foldlM_nil]
attribute [local go_sem] max2_i max_2

set_option maxHeartbeats 1000000 in
theorem found_calls (n : Int) (w : World) :
    Calls Tryd.prog 22 #[.int .i64 n] w fun e w' => e = .returned (.tuple #[.int .i64 (max n 0), .bool (decide (0 ≤ n))]) ∧ w = w' := by
  by_cases h : n < 0
  · have He := Lib.hid (show max n 0 = 0 by omega)
    have Hd := Lib.hid (show decide (0 ≤ n) = false by simp; omega)
    go_enter Tryd.func22, Tryd.ntmps22
    go_wp2
    go_ret2
    exact ⟨by rw [He.out]; first | rfl | (rw [Hd.out]; rfl), rfl⟩
  · have He := Lib.hid (show max n 0 = n by omega)
    have Hd := Lib.hid (show decide (0 ≤ n) = true by simp; omega)
    go_enter Tryd.func22, Tryd.ntmps22
    go_wp2
    go_ret2
    exact ⟨by rw [He.out]; first | rfl | (rw [Hd.out]; rfl), rfl⟩

set_option maxRecDepth 100000 in
set_option maxHeartbeats 1000000 in
theorem user_calls (vL vUp vP vB vC : Value) (A : Option Addr) (c : Nat) (l : List (ByteArray × Int)) (x : ByteArray) (w : World) (hC : Kd.C kU w A l.length l) (hb : l.length ≤ 9223372036854775807) :
    Calls Tryd.prog 15 #[.agg #[vL, vUp, .slice A l.length c, vP, vB, vC], .string x] w fun e w' => e = .returned (.tuple #[.int .i64 (max (idxS (l.map Prod.fst) x) 0), .bool (decide (0 ≤ idxS (l.map Prod.fst) x))]) ∧ Below w.heap.size w w' := by
  go_enter Tryd.func15, Tryd.ntmps15
  go_wp2_with fail
  refine (userAt_calls _ _ _ l x _ ?_ ?_ hb).mono ?_
  · simp
  · exact Kd.C_below hC (((Below.refl _ _).alloc (Nat.le_refl _) _).alloc (by simp) _)
  rintro e w1 ⟨rfl, hb1⟩
  go_wp2_with (go_at_call 22; refine (found_calls _ _).mono ?_; rintro e w' ⟨rfl, rfl⟩)
  go_ret2
  exact ⟨rfl, (((Below.refl _ _).alloc (Nat.le_refl _) _).alloc (by simp) _).trans (hb1.mono (by simp; omega))⟩
set_option maxRecDepth 100000 in
set_option maxHeartbeats 1000000 in
theorem pred1_calls (b : Nat) (y x : ByteArray) (n m : Int) (w : World) (hx : w.cell? ⟨b, 0, none⟩ = some (.string x)) :
    Calls Tryd.prog 38 #[.agg #[.string y, .int .i64 n, .int .i64 m], .pointer (some ⟨b, 0, none⟩)] w fun e w' => e = .returned (.bool (y.toList == x.toList)) ∧ Below w.heap.size w w' := by
  go_enter Tryd.func38, Tryd.ntmps38
  have hx1 := al1 hx
  go_wp2
  go_ret
  exact ⟨rfl, (Below.refl _ _).alloc (Nat.le_refl _) _⟩

set_option maxRecDepth 100000 in
set_option maxHeartbeats 1000000 in
theorem predAt_calls (b : Nat) (A : Option Addr) (c : Nat) (l : List (ByteArray × (Int × Int))) (x : ByteArray) (w : World) (hx : w.cell? ⟨b, 0, none⟩ = some (.string x)) (hC : Kd.C kP w A l.length l) (hb : l.length ≤ 9223372036854775807) :
    Calls Tryd.prog 37 #[.slice A l.length c, .func (.func 38) #[] #[.pointer (some ⟨b, 0, none⟩)]] w fun e w' => e = .returned (.int .i64 (idxS (l.map Prod.fst) x)) ∧ Below w.heap.size w w' := by
  go_enter Tryd.func37, Tryd.ntmps37
  go_wp2
  go_loopw [5, 8] (fun _ i wr => ∃ k : Nat, k ≤ l.length ∧ i = .int .i64 k ∧ Aside0 (NotIn (l.map Prod.fst) x k) ∧ Below w.heap.size w wr) (fun _ i _ => l.length - (intOf i).toNat)
  case atStart => exact ⟨0, by omega, rfl, ⟨fun j y hj => by omega⟩, Below.refl _ _⟩
  case round =>
    obtain ⟨k, hk, rfl, hN, hB⟩ := hrel
    have hx1 : wr.cell? ⟨b, 0, none⟩ = some (.string x) := (hB.cell (World.block_lt_of_cell? w _ hx)).trans hx
    by_cases hlt : k < l.length
    · obtain ⟨bA, oA, y, n, m, hA, hy, hbA, hc0, hc1, hc2⟩ := C_pred (Kd.C_below hC hB) k hlt
      subst hA
      have Hy := Lib.hid hy
      clear hy
      go_wp2_with (go_at_call 38; refine (pred1_calls _ _ _ _ _ _ hx1).mono ?_; rintro e w1 ⟨rfl, hb1⟩)
      · have h1 : (y.toList == x.toList) = true := by assumption
        go_ret
        exact ⟨ret_int (idxS_at hN.out (by rw [List.getElem?_map, Hy.out, bs_eq.1 h1]; rfl)).symm, hB.trans (hb1.mono hB.size)⟩
      · have h1 : (y.toList == x.toList) = false := by assumption
        go_roundw
        case rel =>
          refine ⟨k + 1, by omega, by go_num, ⟨fun j z hj hz => ?_⟩, hB.trans (hb1.mono hB.size)⟩
          by_cases e : j = k
          · subst e
            rw [List.getElem?_map, Hy.out] at hz
            injection hz with hz
            subst hz
            exact bs_ne.1 h1
          · exact hN.out j z (by omega) hz
        case measure => simp [intOf]; omega
    · obtain rfl : k = l.length := by omega
      have Hn := Lib.hid (idxS_none (l := l.map Prod.fst) (x := x) (by rw [List.length_map]; exact hN.out))
      go_wp2
      go_ret
      exact ⟨ret_int Hn.out.symm, hB⟩

set_option maxRecDepth 100000 in
set_option maxHeartbeats 1000000 in
theorem pred_calls (vL vUp vU vB vC : Value) (A : Option Addr) (c : Nat) (l : List (ByteArray × (Int × Int))) (x : ByteArray) (w : World) (hC : Kd.C kP w A l.length l) (hb : l.length ≤ 9223372036854775807) :
    Calls Tryd.prog 16 #[.agg #[vL, vUp, vU, .slice A l.length c, vB, vC], .string x] w fun e w' => e = .returned (.tuple #[.int .i64 (max (idxS (l.map Prod.fst) x) 0), .bool (decide (0 ≤ idxS (l.map Prod.fst) x))]) ∧ Below w.heap.size w w' := by
  go_enter Tryd.func16, Tryd.ntmps16
  go_wp2_with fail
  refine (predAt_calls _ _ _ l x _ ?_ ?_ hb).mono ?_
  · simp
  · exact Kd.C_below hC (((Below.refl _ _).alloc (Nat.le_refl _) _).alloc (by simp) _)
  rintro e w1 ⟨rfl, hb1⟩
  go_wp2_with (go_at_call 22; refine (found_calls _ _).mono ?_; rintro e w' ⟨rfl, rfl⟩)
  go_ret2
  exact ⟨rfl, (((Below.refl _ _).alloc (Nat.le_refl _) _).alloc (by simp) _).trans (hb1.mono (by simp; omega))⟩
end Go.Proofs.YtfigaamgcmifeaaDoor
