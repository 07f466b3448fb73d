/- The reference's Masks and Same: where both are alike. -/
import Derived.Test.YtfigaamgcmifeaaDoorAt
import Derived.Test.YtfigaamgcmifeaaDoorPa

namespace Go.Proofs.YtfigaamgcmifeaaDoor
open Go.RowKit Go.Lib Go.Proofs.YtfigaamgcmifeaaDoorW.PrintWords
set_option linter.unusedVariables false

set_option maxRecDepth 100000 in
set_option maxHeartbeats 4000000 in
theorem Masks_calls (A B : Option Addr) (c d : Nat) (L : List Nat) (w : World) (hl : L.length ≤ 64)
    (hA : ∀ k x, L[k]? = some x → ∃ b o, A = some ⟨b, o, none⟩ ∧ w.cell? ⟨b, o + k, none⟩ = some (.int .u64 ((x : Nat) : Int)))
    (hB : ∀ k x, L[k]? = some x → ∃ b o, B = some ⟨b, o, none⟩ ∧ w.cell? ⟨b, o + k, none⟩ = some (.int .u64 ((x : Nat) : Int))) :
    Calls Tryd.prog 21 #[.slice A L.length c, .slice B L.length d] w fun e w' => e = .returned (.bool true) ∧ Below w.heap.size w w' := by
  have HA := Lib.hid hA
  have HB := Lib.hid hB
  clear hA hB
  go_enter Tryd.func21, Tryd.ntmps21
  go_wp2
  go_loopw [5] (fun p wr => ∃ k : Nat, p = .int .i64 (k : Int) ∧ k ≤ L.length ∧ Below w.heap.size w wr) (fun p _ => L.length - (intOf p).toNat)
  case atStart => exact ⟨0, rfl, by omega, Below.refl _ _⟩
  case round =>
    obtain ⟨k, rfl, hk, hB⟩ := hrel
    by_cases hkl : k < L.length
    · have hx : L[k]? = some (L[k]'hkl) := List.getElem?_eq_getElem hkl
      obtain ⟨b, o, rfl, hc1⟩ := HA.out k _ hx
      obtain ⟨b', o', rfl, hc2⟩ := HB.out k _ hx
      have k1 := (hB.cell (World.block_lt_of_cell? w _ hc1)).trans hc1
      have k2 := (hB.cell (World.block_lt_of_cell? w _ hc2)).trans hc2
      clear hx hc1 hc2
      generalize L[k]'hkl = x at *
      go_wp2_with fail
      go_quiet (fail)
      go_wp2
      refine ⟨⟨k + 1, rfl, by omega, ?_⟩, by simp [intOf]; omega⟩
      exact pw_below_drewN hB _
    · obtain rfl : k = L.length := by omega
      go_wp2
      go_ret
      exact ⟨rfl, hB⟩

set_option maxRecDepth 100000 in
set_option maxHeartbeats 8000000 in
theorem Same_calls (va vb : Value) (s : St) (L : List Nat) (w : World) (ha : Cfg w va s L) (hb : Cfg w vb s L) (hl : L.length ≤ 64)
    (hre : FloatKind.f64.format.order s.re s.re = some .eq) (him : FloatKind.f64.format.order s.im s.im = some .eq) (l1 : s.labels.length ≤ 64) (l2 : s.users.length ≤ 16) (l3 : s.preds.length ≤ 32) :
    Calls Tryd.prog 7 #[va, vb] w fun e w' => e = .returned (.bool true) ∧ Below w.heap.size w w' := by
  obtain ⟨A1, c1, A2, c2, A3, c3, A4, c4, rfl, hC1, hc1, hC2, hc2, hC3, hC4⟩ := ha
  obtain ⟨B1, d1, B2, d2, B3, d3, B4, d4, rfl, hD1, hd1, hD2, hd2, hD3, hD4⟩ := hb
  obtain ⟨W0, hW0⟩ : ∃ W0, w.alloc (.cells #[.slice A1 s.labels.length c1, .slice A2 L.length c2, .slice A3 s.users.length c3, .slice A4 s.preds.length c4, .int .i64 s.bound, .complex .f64 s.re s.im] 29) = W0 := ⟨_, rfl⟩
  have hB0 : Below w.heap.size w W0 := by rw [← hW0]; exact (Below.refl _ w).alloc (Nat.le_refl _) _
  have hs0 : W0.heap.size = w.heap.size + 1 := by rw [← hW0]; simp
  have hG := World.alloc_heap_new w (.cells #[.slice A1 s.labels.length c1, .slice A2 L.length c2, .slice A3 s.users.length c3, .slice A4 s.preds.length c4, .int .i64 s.bound, .complex .f64 s.re s.im] 29)
  rw [hW0] at hG
  obtain ⟨W1, hW1⟩ : ∃ W1, W0.alloc (.cells #[.slice B1 s.labels.length d1, .slice B2 L.length d2, .slice B3 s.users.length d3, .slice B4 s.preds.length d4, .int .i64 s.bound, .complex .f64 s.re s.im] 29) = W1 := ⟨_, rfl⟩
  have hB1 : Below W0.heap.size W0 W1 := by rw [← hW1]; exact (Below.refl _ W0).alloc (Nat.le_refl _) _
  have hs1 : W1.heap.size = W0.heap.size + 1 := by rw [← hW1]; simp
  have hH := World.alloc_heap_new W0 (.cells #[.slice B1 s.labels.length d1, .slice B2 L.length d2, .slice B3 s.users.length d3, .slice B4 s.preds.length d4, .int .i64 s.bound, .complex .f64 s.re s.im] 29)
  rw [hW1] at hH
  have hG1 := (hB1.block w.heap.size (by omega)).trans hG
  have hBw : Below w.heap.size w W1 := hB0.trans (hB1.mono (by omega))
  rw [hs0] at hH
  obtain ⟨⟨a0, a1, a2, a3, a4, a5⟩, _⟩ := six hG1
  obtain ⟨⟨b0, b1, b2, b3, b4, b5⟩, _⟩ := six hH
  have cM := Masks_calls A2 B2 c2 d2 L W1 hl (fun k x hx => by obtain ⟨b, o, e, hcell⟩ := hC2 k x hx; exact ⟨b, o, e, pw_cell_below hBw hcell⟩) (fun k x hx => by obtain ⟨b, o, e, hcell⟩ := hD2 k x hx; exact ⟨b, o, e, pw_cell_below hBw hcell⟩)
  have CM := Lib.hid cM
  clear cM hC2 hD2 hG1 hH hG
  have HC1 := Lib.hid (Kd.C_below hC1 hBw)
  have HD1 := Lib.hid (Kd.C_below hD1 hBw)
  have HC3 := Lib.hid (Kd.C_below hC3 hBw)
  have HD3 := Lib.hid (Kd.C_below hD3 hBw)
  have HC4 := Lib.hid (Kd.C_below hC4 hBw)
  have HD4 := Lib.hid (Kd.C_below hD4 hBw)
  clear hC1 hD1 hC3 hD3 hC4 hD4
  have hwW : w.heap.size < W1.heap.size := by omega
  have hwW' : w.heap.size + 1 < W1.heap.size := by omega
  generalize hnl : s.labels.length = nl at *
  generalize hnu : s.users.length = nu at *
  generalize hnp : s.preds.length = np at *
  go_enter Tryd.func7, Tryd.ntmps7
  go_wp2_with (go_at_call 21; refine CM.out.mono ?_; rintro e w1 ⟨rfl, hb1⟩; have a0' := (hb1.cell (p := ⟨w.heap.size, 0, none⟩) hwW).trans a0; have a2' := (hb1.cell (p := ⟨w.heap.size, 2, none⟩) hwW).trans a2; have a3' := (hb1.cell (p := ⟨w.heap.size, 3, none⟩) hwW).trans a3; have a4' := (hb1.cell (p := ⟨w.heap.size, 4, none⟩) hwW).trans a4; have a5' := (hb1.cell (p := ⟨w.heap.size, 5, none⟩) hwW).trans a5; have b0' := (hb1.cell (p := ⟨w.heap.size + 1, 0, none⟩) hwW').trans b0; have b2' := (hb1.cell (p := ⟨w.heap.size + 1, 2, none⟩) hwW').trans b2; have b3' := (hb1.cell (p := ⟨w.heap.size + 1, 3, none⟩) hwW').trans b3; have b4' := (hb1.cell (p := ⟨w.heap.size + 1, 4, none⟩) hwW').trans b4; have b5' := (hb1.cell (p := ⟨w.heap.size + 1, 5, none⟩) hwW').trans b5)
  clear hW0 hW1 a0 a1 a2 a3 a4 a5 b0 b1 b2 b3 b4 b5
  have HL := Lib.hid hb1
  have hsz1 := hb1.size
  clear hb1
  go_loopw [5] (fun p wr => ∃ k : Nat, p = .int .i64 (k : Int) ∧ k ≤ nl ∧ Below w1.heap.size w1 wr) (fun p _ => nl - (intOf p).toNat)
  case atStart => exact ⟨0, rfl, by omega, Below.refl _ _⟩
  case round =>
    obtain ⟨k, rfl, hk, hB⟩ := hrel
    have hBW := HL.out.trans (hB.mono hsz1)
    have e0 := (hB.cell (p := ⟨w.heap.size, 0, none⟩) (Nat.lt_of_lt_of_le hwW hsz1)).trans a0'
    have f0 := (hB.cell (p := ⟨w.heap.size + 1, 0, none⟩) (Nat.lt_of_lt_of_le hwW' hsz1)).trans b0'
    by_cases hkl : k < nl
    · obtain ⟨ba, oa, x, rfl, hx, hba, cx⟩ := C_str (Kd.C_below HC1.out hBW) k hkl
      obtain ⟨bb, ob, y, rfl, hy, hbb, cy⟩ := C_str (Kd.C_below HD1.out hBW) k hkl
      obtain rfl : x = y := Option.some.inj (hx.symm.trans hy)
      clear hx hy
      go_wp2_with fail
      go_quiet (fail)
      go_wp2
      refine ⟨⟨k + 1, rfl, by omega, ?_⟩, by simp [intOf]; omega⟩
      exact pw_below_drewN hB _
    · obtain rfl : k = nl := by omega
      have e2 := (hB.cell (p := ⟨w.heap.size, 2, none⟩) (Nat.lt_of_lt_of_le hwW hsz1)).trans a2'
      have f2 := (hB.cell (p := ⟨w.heap.size + 1, 2, none⟩) (Nat.lt_of_lt_of_le hwW' hsz1)).trans b2'
      have e3 := (hB.cell (p := ⟨w.heap.size, 3, none⟩) (Nat.lt_of_lt_of_le hwW hsz1)).trans a3'
      have f3 := (hB.cell (p := ⟨w.heap.size + 1, 3, none⟩) (Nat.lt_of_lt_of_le hwW' hsz1)).trans b3'
      have hsz2 : w1.heap.size ≤ wr.heap.size := hB.size
      go_wp2
      clear hB a0' a2' a3' a4' a5' b0' b2' b3' b4' b5' e0 f0
      obtain ⟨w2, hw2⟩ : ∃ w2, wr = w2 := ⟨_, rfl⟩
      subst hw2
      have HL2 := Lib.hid hBW
      clear hBW
      have hw2 : w.heap.size < wr.heap.size := by omega
      have hw2' : w.heap.size + 1 < wr.heap.size := by omega
      have hWW : W1.heap.size ≤ wr.heap.size := by omega
      go_loopw [6] (fun p wq => ∃ k : Nat, p = .int .i64 (k : Int) ∧ k ≤ nu ∧ Below wr.heap.size wr wq) (fun p _ => nu - (intOf p).toNat)
      case atStart => exact ⟨0, rfl, by omega, Below.refl _ _⟩
      case round =>
        rename_i wq
        obtain ⟨j, rfl, hj, hB⟩ := hrel
        have hBW := HL2.out.trans (hB.mono hWW)
        have g2 := (hB.cell (p := ⟨w.heap.size, 2, none⟩) hw2).trans e2
        have h2 := (hB.cell (p := ⟨w.heap.size + 1, 2, none⟩) hw2').trans f2
        by_cases hjl : j < nu
        · obtain ⟨ba, oa, x, m, rfl, hx, hba, cx, cm⟩ := C_user (Kd.C_below HC3.out hBW) j hjl
          obtain ⟨bb, ob, y, n, rfl, hy, hbb, cy, cn⟩ := C_user (Kd.C_below HD3.out hBW) j hjl
          have hxy := Option.some.inj (hx.symm.trans hy)
          injection hxy with h8 h9
          subst h8 h9
          clear hx hy
          go_wp2_with fail
          go_quiet (fail)
          go_wp2
          refine ⟨⟨j + 1, rfl, by omega, ?_⟩, by simp [intOf]; omega⟩
          exact pw_below_drewN hB _
        · obtain rfl : j = nu := by omega
          have g3 := (hB.cell (p := ⟨w.heap.size, 3, none⟩) hw2).trans e3
          have h3 := (hB.cell (p := ⟨w.heap.size + 1, 3, none⟩) hw2').trans f3
          have hsz3 := hB.size
          go_wp2
          clear hB e2 f2 e3 f3 g2 h2
          have HL3 := Lib.hid hBW
          clear hBW
          have hw3 : w.heap.size < wr.heap.size := by omega
          have hw3' : w.heap.size + 1 < wr.heap.size := by omega
          have hWW3 : W1.heap.size ≤ wr.heap.size := by omega
          go_loopw [7] (fun p wq => ∃ k : Nat, p = .int .i64 (k : Int) ∧ k ≤ np ∧ Below wr.heap.size wr wq) (fun p _ => np - (intOf p).toNat)
          case atStart => exact ⟨0, rfl, by omega, Below.refl _ _⟩
          case round =>
            obtain ⟨i, rfl, hi, hB⟩ := hrel
            have hBW := HL3.out.trans (hB.mono hWW3)
            have p3 := (hB.cell (p := ⟨w.heap.size, 3, none⟩) hw3).trans g3
            have q3 := (hB.cell (p := ⟨w.heap.size + 1, 3, none⟩) hw3').trans h3
            by_cases hil : i < np
            · obtain ⟨ba, oa, x, m, m', rfl, hx, hba, cx, cm, cm'⟩ := C_pred (Kd.C_below HC4.out hBW) i hil
              obtain ⟨bb, ob, y, n, n', rfl, hy, hbb, cy, cn, cn'⟩ := C_pred (Kd.C_below HD4.out hBW) i hil
              have hxy := Option.some.inj (hx.symm.trans hy)
              injection hxy with h8 h9
              injection h9 with h9 h10
              subst h8 h9 h10
              clear hx hy
              go_wp2_with fail
              go_quiet (fail)
              go_wp2
              refine ⟨⟨i + 1, rfl, by omega, ?_⟩, by simp [intOf]; omega⟩
              exact pw_below_drewN hB _
            · obtain rfl : i = np := by omega
              have hBz : Below w.heap.size w wr := hBw.trans (hBW.mono (by omega))
              go_wp2
              go_ret
              exact ⟨rfl, hBz⟩
end Go.Proofs.YtfigaamgcmifeaaDoor
