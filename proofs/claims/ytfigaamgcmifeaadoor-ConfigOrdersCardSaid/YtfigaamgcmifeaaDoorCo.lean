/- ConfigOrders: what is said to be above is above. -/
import Derived.Test.YtfigaamgcmifeaaDoorCn
import Derived.Test.YtfigaamgcmifeaaDoorLw
namespace Go.Proofs.YtfigaamgcmifeaaDoor
open Go.RowKit Go.Lib Go.Proofs.YtfigaamgcmifeaaDoorW.PrintWords
set_option linter.unusedVariables false

attribute [local go_sem] run_store_complex

theorem words3 {w : World} {base : Nat} {ok : Nat → Prop} {v : Value} {x0 x1 x2 : ByteArray} (h : Kd.R Kd.string 9 w base ok v [x0, x1, x2]) :
    ∃ b o c, v = .slice (some ⟨b, o, none⟩) 3 c ∧ 3 ≤ c ∧ b < w.heap.size ∧ w.cell? ⟨b, o, none⟩ = some (.string x0) ∧ w.cell? ⟨b, o + 1, none⟩ = some (.string x1) ∧ w.cell? ⟨b, o + 2, none⟩ = some (.string x2) := by
  obtain ⟨A, c, rfl, hc, hC⟩ := Kd.R_reads h
  have hC : Kd.C Kd.string w A 3 [x0, x1, x2] := hC
  obtain ⟨b, o, z0, rfl, h0, hb, c0⟩ := C_str hC 0 (by omega)
  obtain ⟨b1, o1, z1, e1, h1, _, c1⟩ := C_str hC 1 (by omega)
  obtain ⟨b2, o2, z2, e2, h2, _, c2⟩ := C_str hC 2 (by omega)
  injection e1 with e1
  injection e1 with e1 e1'
  subst e1 e1'
  injection e2 with e2
  injection e2 with e2 e2'
  subst e2 e2'
  injection h0 with h0
  injection h1 with h1
  injection h2 with h2
  subst h0 h1 h2
  exact ⟨b, o, c, rfl, hc, hb, c0, c1, c2⟩
theorem above_bytes : Kn.above.name.toList = [97, 98, 111, 118, 101] := by kernel_rfl
theorem lines_un (s : ByteArray) : (bl [] s.data.toList).map unB = linesB s := by
  rw [← linesB_bytes, List.map_map]
  conv => rhs; rw [← List.map_id (linesB s)]
  exact List.map_congr_left fun x _ => unB_data x

set_option maxRecDepth 100000 in
set_option maxHeartbeats 8000000 in
theorem orders_calls (t : ByteArray) (w : World) (hE : Env w) (ht : t.size ≤ 9223372036854775807) :
    Calls Tryd.prog 4 #[.string t] w fun e w' => e = .returned (.bool true) ∧ Below w.heap.size w w' := by
  have hf := fixed_true w hE
  have HE := Lib.hid hE
  clear hE
  have hP := fun w1 (h : Env w1) => Parse_env t h
  unfold ParseP at hP
  by_cases h0 : (parseS t).err = 0
  · obtain ⟨s1, s2, s3, s4, s5, s6⟩ := parse_size t h0
    have hA := parse_above t h0
    rw [h0] at hP
    generalize (parseS t).st = S at *
    generalize (parseS t).up = L at *
    generalize (parseS t).line = ln at *
    have HPP := Lib.hid hP
    have HA := Lib.hid hA
    clear hP hA h0
    have hLn := fun w1 => Lines_calls t w1 s6
    have HLn := Lib.hid hLn
    clear hLn
    go_enter Tryd.func4, Tryd.ntmps4
    go_wp2_with (first
      | (go_at_call 5; refine hf.mono ?_; clear hf; rintro e w1 ⟨rfl, hb1⟩; have HE1 := Lib.hid (HE.out.below hb1))
      | (go_at_call 6; refine (HPP.out _ HE1.out).mono ?_; clear HPP; rintro e wA ⟨hbA, va, rfl, hca⟩; have HCA := Lib.hid hca; obtain ⟨A1, c1, A2, c2, A3, c3, A4, c4, rfl, -⟩ := hca; have HEA := Lib.hid ((HE1.out.below hbA).alloc (.cells #[.slice A1 S.labels.length c1, .slice A2 L.length c2, .slice A3 S.users.length c3, .slice A4 S.preds.length c4, .int .i64 S.bound, .complex .f64 S.re S.im] 29)))
      | (go_at_call 8; refine (HLn.out _).mono ?_; clear HLn; rintro e wB ⟨vl, rfl, hRl, hbB⟩))
    have HGB := Lib.hid (blk1 hbB)
    have HBA := Lib.hid (bel1 hbB)
    have HEB := Lib.hid ((HE1.out.below hbA).below HBA.out)
    have HBW := Lib.hid (bel_then (bel_then hb1 hbA) HBA.out)
    have hszA : wA.heap.size < wB.heap.size := blk_lt HGB.out
    clear hbB hb1 hbA
    rw [lines_un] at hRl
    obtain ⟨AL, cL, rfl, hcL, hCL⟩ := Kd.R_reads hRl
    have HCL := Lib.hid hCL
    clear hRl hCL
    have HC := Lib.hid (HCA.out.below HBA.out)
    obtain ⟨A1', c1', A2', c2', A3', c3', A4', c4', he, hC1, hc1, hC2, hc2, -, -⟩ := HC.out
    injection he with he
    simp only [Array.mk.injEq, List.cons.injEq, Value.slice.injEq, and_true, true_and] at he
    obtain ⟨⟨rfl, rfl⟩, ⟨rfl, rfl⟩, ⟨rfl, rfl⟩, ⟨rfl, rfl⟩⟩ := he
    obtain ⟨b2, o2, rfl, hb2, hU⟩ := up_open hC2 (by omega)
    have hz : ∀ x ∈ linesB t, x.size ≤ 65536 := fun x hx => Nat.le_trans (linesB_size t x hx) s6
    have hll : (linesB t).length ≤ 65537 := by have := (linesB_length t).1; omega
    have hA' : ∀ x' ∈ linesB t, ∀ x y : ByteArray, (bw [] x'.data.toList).map unB = [Kn.above.name, x, y] → 0 ≤ idxS S.labels x ∧ 0 ≤ idxS S.labels y ∧ (L.getD (idxS S.labels y).toNat 0).testBit (idxS S.labels x).toNat = true := fun x' hx' x y h =>
      HA.out x'.data.toList (by rw [← linesB_bytes]; exact List.mem_map_of_mem hx') x y h
    have HA' := Lib.hid hA'
    have Hz := Lib.hid hz
    have HU := Lib.hid hU
    have HC1 := Lib.hid hC1
    clear hA' HA hz hU hC2 hC1 HC HCA HE HE1 HEA
    generalize linesB t = LL at *
    generalize hnl : S.labels.length = nl at *
    generalize hnu : S.users.length = nu at *
    generalize hnp : S.preds.length = np at *
    go_loopw [7] (fun p wr => ∃ k : Nat, p = .int .i64 (k : Int) ∧ k ≤ LL.length ∧ Below wB.heap.size wB wr) (fun p _ => LL.length - (intOf p).toNat)
    case atStart => exact ⟨0, rfl, by omega, Below.refl _ _⟩
    case round =>
      obtain ⟨k, rfl, hk, hB⟩ := hrel
      by_cases hkl : k < LL.length
      · obtain ⟨bx, ox, x, rfl, hx, hbx, cx⟩ := C_str (Kd.C_below HCL.out hB) k hkl
        have hxm := List.mem_of_getElem? hx
        have hW := Words_calls x wr (Hz.out x hxm)
        have HX := Lib.hid (HA'.out x hxm)
        clear hx hxm
        generalize (bw [] x.data.toList).map unB = ws at *
        by_cases h3 : ws.length = 3
        · obtain ⟨x0, x1, x2, rfl⟩ : ∃ x0 x1 x2, ws = [x0, x1, x2] := by
            match ws, h3 with
            | [x0, x1, x2], _ => exact ⟨x0, x1, x2, rfl⟩
          by_cases hab : x0 = Kn.above.name
          · obtain ⟨i1, i2, i3⟩ := HX.out x1 x2 (by rw [hab])
            obtain ⟨n1, hn1⟩ := Int.eq_ofNat_of_zero_le i1
            obtain ⟨n2, hn2⟩ := Int.eq_ofNat_of_zero_le i2
            have m1 := idxS_hi S.labels x1
            have m2 := idxS_hi S.labels x2
            rw [hnl, hn1] at m1
            rw [hnl, hn2] at m2
            rw [hn1, hn2] at i3
            simp only [Int.toNat_natCast] at i3
            have cL1 : ∀ w1, Below wB.heap.size wB w1 → Calls Tryd.prog 10 #[.agg #[.slice A1 nl c1, .slice (some ⟨b2, o2, none⟩) nl c2, .slice A3 nu c3, .slice A4 np c4, .int .i64 S.bound, .complex .f64 S.re S.im], .string x1] w1 fun e w' => e = .returned (.tuple #[.int .i64 (n1 : Int), .bool true]) ∧ Below w1.heap.size w1 w' := fun w1 h => by
              have hh := Label_calls (.slice (some ⟨b2, o2, none⟩) nl c2) (.slice A3 nu c3) (.slice A4 np c4) (.int .i64 S.bound) (.complex .f64 S.re S.im) A1 c1 S.labels x1 w1 (by rw [hnl]; exact Kd.C_below HC1.out h) (by omega)
              rw [hn1, hnl, show max (n1 : Int) 0 = n1 by omega, decide_eq_true (by omega)] at hh
              exact hh
            have cL2 : ∀ w1, Below wB.heap.size wB w1 → Calls Tryd.prog 10 #[.agg #[.slice A1 nl c1, .slice (some ⟨b2, o2, none⟩) nl c2, .slice A3 nu c3, .slice A4 np c4, .int .i64 S.bound, .complex .f64 S.re S.im], .string x2] w1 fun e w' => e = .returned (.tuple #[.int .i64 (n2 : Int), .bool true]) ∧ Below w1.heap.size w1 w' := fun w1 h => by
              have hh := Label_calls (.slice (some ⟨b2, o2, none⟩) nl c2) (.slice A3 nu c3) (.slice A4 np c4) (.int .i64 S.bound) (.complex .f64 S.re S.im) A1 c1 S.labels x2 w1 (by rw [hnl]; exact Kd.C_below HC1.out h) (by omega)
              rw [hn2, hnl, show max (n2 : Int) 0 = n2 by omega, decide_eq_true (by omega)] at hh
              exact hh
            have cAt : ∀ w1, Below wB.heap.size wB w1 → Calls Tryd.prog 11 #[.slice (some ⟨b2, o2, none⟩) nl c2, .int .i64 (n2 : Int), .int .i64 (n1 : Int)] w1 fun e w' => e = .returned (.bool true) ∧ Below w1.heap.size w1 w' := fun w1 h =>
              At_calls b2 o2 nl c2 L n2 n1 s1 s3 s2 (by omega) s5 s4 (by omega) (by omega) i3 w1 (Nat.lt_of_lt_of_le hb2 h.size) (by have := (HEB.out.below h).lt; omega) (fun q z hq => pw_cell_below h (HU.out q z hq)) (HEB.out.below h).tab
            have CL1 := Lib.hid cL1
            have CL2 := Lib.hid cL2
            have CAt := Lib.hid cAt
            clear cL1 cL2 cAt hn1 hn2 i1 i2 i3
            have tq : (x0.toList == [97, 98, 111, 118, 101]) = true := by rw [hab, above_bytes]; rfl
            clear hab HX
            go_wp2_with (go_at_call 9; refine hW.mono ?_; clear hW; rintro e wC ⟨vw, rfl, hRw, hbC⟩; obtain ⟨bw, ow, cW, rfl, hcW, hbw, cw0, cw1, cw2⟩ := words3 hRw; clear hRw)
            have HGC := Lib.hid (blkB (blkB HGB.out hB) hbC)
            have hBC := bel_then hB hbC
            have hAC : wA.heap.size < wC.heap.size := blk_lt HGC.out
            have hWC : bw < wC.heap.size := hbw
            obtain ⟨⟨k0, k1, k2, k3, k4, k5⟩, _⟩ := six HGC.out
            go_region_held3 (fun w' => w'.cell? ⟨wA.heap.size, 0, none⟩ = some (.slice A1 nl c1) ∧ w'.cell? ⟨wA.heap.size, 1, none⟩ = some (.slice (some ⟨b2, o2, none⟩) nl c2) ∧ w'.cell? ⟨wA.heap.size, 2, none⟩ = some (.slice A3 nu c3) ∧ w'.cell? ⟨wA.heap.size, 3, none⟩ = some (.slice A4 np c4) ∧ w'.cell? ⟨wA.heap.size, 4, none⟩ = some (.int .i64 S.bound) ∧ w'.cell? ⟨wA.heap.size, 5, none⟩ = some (.complex .f64 S.re S.im) ∧ w'.cell? ⟨bw, ow + 1, none⟩ = some (.string x1))
              (first | go_keep | exact ⟨(hb3.cell (p := ⟨wA.heap.size, 0, none⟩) hAC).trans k0, (hb3.cell (p := ⟨wA.heap.size, 1, none⟩) hAC).trans k1, (hb3.cell (p := ⟨wA.heap.size, 2, none⟩) hAC).trans k2, (hb3.cell (p := ⟨wA.heap.size, 3, none⟩) hAC).trans k3, (hb3.cell (p := ⟨wA.heap.size, 4, none⟩) hAC).trans k4, (hb3.cell (p := ⟨wA.heap.size, 5, none⟩) hAC).trans k5, (hb3.cell (p := ⟨bw, ow + 1, none⟩) hWC).trans cw1⟩)
              ((go_at_call 10; refine (CL1.out _ (below_drew hBC)).mono ?_; rintro e w3 ⟨rfl, hb3⟩))
            have hb3' := undrew (n := 1) hb3
            have HGD := Lib.hid (blkB HGC.out hb3')
            have hBD := bel_then hBC hb3'
            have hAD : wA.heap.size < w3.heap.size := blk_lt HGD.out
            have hWD : bw < w3.heap.size := Nat.lt_of_lt_of_le hWC hb3'.size
            have cw2' := (hb3'.cell (p := ⟨bw, ow + 2, none⟩) hWC).trans cw2
            clear hb3 k0 k1 k2 k3 k4 k5
            obtain ⟨⟨k0, k1, k2, k3, k4, k5⟩, _⟩ := six HGD.out
            go_wp2
            go_region_held3 (fun w' => w'.cell? ⟨wA.heap.size, 0, none⟩ = some (.slice A1 nl c1) ∧ w'.cell? ⟨wA.heap.size, 1, none⟩ = some (.slice (some ⟨b2, o2, none⟩) nl c2) ∧ w'.cell? ⟨wA.heap.size, 2, none⟩ = some (.slice A3 nu c3) ∧ w'.cell? ⟨wA.heap.size, 3, none⟩ = some (.slice A4 np c4) ∧ w'.cell? ⟨wA.heap.size, 4, none⟩ = some (.int .i64 S.bound) ∧ w'.cell? ⟨wA.heap.size, 5, none⟩ = some (.complex .f64 S.re S.im) ∧ w'.cell? ⟨bw, ow + 2, none⟩ = some (.string x2))
              (first | go_keep | exact ⟨(hb4.cell (p := ⟨wA.heap.size, 0, none⟩) hAD).trans k0, (hb4.cell (p := ⟨wA.heap.size, 1, none⟩) hAD).trans k1, (hb4.cell (p := ⟨wA.heap.size, 2, none⟩) hAD).trans k2, (hb4.cell (p := ⟨wA.heap.size, 3, none⟩) hAD).trans k3, (hb4.cell (p := ⟨wA.heap.size, 4, none⟩) hAD).trans k4, (hb4.cell (p := ⟨wA.heap.size, 5, none⟩) hAD).trans k5, (hb4.cell (p := ⟨bw, ow + 2, none⟩) hWD).trans cw2'⟩)
              ((go_at_call 10; refine (CL2.out _ (below_drew hBD)).mono ?_; rintro e w4 ⟨rfl, hb4⟩))
            have hb4' := undrew (n := 1) hb4
            have HGF := Lib.hid (blkB HGD.out hb4')
            have hBF := bel_then hBD hb4'
            clear hb4 k0 k1 k2 k3 k4 k5
            obtain ⟨⟨k0, k1, k2, k3, k4, k5⟩, _⟩ := six HGF.out
            go_wp2_with (go_at_call 11; refine (CAt.out _ hBF).mono ?_; rintro e w5 ⟨rfl, hb5⟩)
            refine ⟨⟨k + 1, rfl, by omega, bel_then hBF hb5⟩, by simp [intOf]; omega⟩
          · have tq : (x0.toList == [97, 98, 111, 118, 101]) = false := by
              have := bs_ne.2 hab
              rw [above_bytes] at this
              exact this
            go_wp2_with (go_at_call 9; refine hW.mono ?_; rintro e wC ⟨vw, rfl, hRw, hbC⟩; obtain ⟨bw, ow, cW, rfl, hcW, hbw, cw0, cw1, cw2⟩ := words3 hRw; clear hRw)
            refine ⟨⟨k + 1, rfl, by omega, bel_then hB hbC⟩, by simp [intOf]; omega⟩
        · go_wp2_with (go_at_call 9; refine hW.mono ?_; rintro e wC ⟨vw, rfl, hRw, hbC⟩; obtain ⟨AW, cW, rfl, hcW, hCW⟩ := Kd.R_reads hRw; have t3 : ((ws.length : Int) != 3) = true := (by simp; omega))
          refine ⟨⟨k + 1, rfl, by omega, bel_then hB hbC⟩, by simp [intOf]; omega⟩
      · obtain rfl : k = LL.length := by omega
        have HGr := blkB HGB.out hB
        obtain ⟨⟨k0, k1, k2, k3, k4, k5⟩, _⟩ := six HGr
        have hEr := HEB.out.below hB
        have cR := Right_calls b2 o2 nl c2 L s1 s3 s2 (by omega) s5 wr (Nat.lt_of_lt_of_le hb2 hB.size) (by have := hEr.lt; omega) (fun q z hq => pw_cell_below hB (HU.out q z hq)) hEr.tab
        rw [s4] at cR
        go_wp2_with (go_at_call 12; refine cR.mono ?_; clear cR; rintro e wC ⟨rfl, hbC⟩; have HGc := blkB HGr hbC; clear k0 k1 k2 k3 k4 k5; obtain ⟨⟨k0, k1, k2, k3, k4, k5⟩, _⟩ := six HGc)
        go_ret
        exact ⟨rfl, bel_then HBW.out (bel_then hB hbC)⟩
  · generalize (parseS t).st = S at *
    generalize (parseS t).up = L at *
    generalize (parseS t).line = ln at *
    generalize (parseS t).err = er at *
    have HPP := Lib.hid hP
    clear hP
    have q1 : (er != 0) = true := by simpa using h0
    go_enter Tryd.func4, Tryd.ntmps4
    go_wp2_with (first
      | (go_at_call 5; refine hf.mono ?_; clear hf; rintro e w1 ⟨rfl, hb1⟩; have HE1 := Lib.hid (HE.out.below hb1))
      | (go_at_call 6; refine (HPP.out _ HE1.out).mono ?_; clear HPP; rintro e wA ⟨hbA, va, rfl, hca⟩; obtain ⟨A1, c1, A2, c2, A3, c3, A4, c4, rfl, -⟩ := hca))
    go_ret
    exact ⟨rfl, bel_alloc (bel_then hb1 hbA) _⟩
end Go.Proofs.YtfigaamgcmifeaaDoor
