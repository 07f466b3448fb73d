/- config.Right: where all is right. -/
import Derived.Test.YtfigaamgcmifeaaDoorPl
namespace Go.Proofs.YtfigaamgcmifeaaDoor
open Go.RowKit Go.Lib Go.Proofs.YtfigaamgcmifeaaDoorW.PrintWords
set_option linter.unusedVariables false

structure GoodCfg (s : St) (L : List Nat) (n m : Int) : Prop where
  l1 : 1 ≤ s.labels.length
  l2 : s.labels.length ≤ 64
  l3 : s.users.length ≤ 16
  l4 : s.preds.length ≤ 32
  up : L.length = s.labels.length
  right : rightB L = true
  lt : ∀ x ∈ L, x < 18446744073709551616
  users : ∀ u ∈ s.users, 0 ≤ u.2 ∧ u.2 < s.labels.length
  preds : ∀ p ∈ s.preds, 0 ≤ p.2.1 ∧ p.2.1 ≤ 4 ∧ 0 ≤ p.2.2 ∧ p.2.2 < 8
  fl : freshP s.labels
  fu : freshP (s.users.map Prod.fst)
  fp : freshP (s.preds.map Prod.fst)
  b1 : 1 ≤ s.bound
  b2 : s.bound ≤ 4096
  re : WholeF s.re n
  im : WholeF s.im m

theorem take_map_snoc {α : Type} {l : List (ByteArray × α)} {k : Nat} {x : ByteArray} {y : α} (h : l[k]? = some (x, y)) : (l.take (k + 1)).map Prod.fst = (l.take k).map Prod.fst ++ [x] := by
  rw [List.take_add_one, h]
  simp

set_option maxRecDepth 100000 in
set_option maxHeartbeats 8000000 in
theorem CRight_calls (v : Value) (s : St) (L : List Nat) (n m : Int) (w : World) (hc : Cfg w v s L) (hg : GoodCfg s L n m) (hT : TabAt 0 Lib.deBruijn64tab w) :
    Calls Tryd.prog 13 #[v] w fun e w' => e = .returned (.bool true) ∧ Below w.heap.size w w' := by
  obtain ⟨A1, c1, A2, c2, A3, c3, A4, c4, rfl, hC1, hc1, hC2, hc2, hC3, hC4⟩ := hc
  obtain ⟨l1, l2, l3, l4, hup, hri, hlt, hus, hps, fl, fu, fp, b1, b2, hre, him⟩ := hg
  have q1 : ((s.labels.length : Int) < 1) = False := eq_false (by omega)
  have q2 : ((64 : Int) < (s.labels.length : Int)) = False := eq_false (by omega)
  have q3 : ((16 : Int) < (s.users.length : Int)) = False := eq_false (by omega)
  have q4 : ((32 : Int) < (s.preds.length : Int)) = False := eq_false (by omega)
  have Hus := Lib.hid hus
  have Hps := Lib.hid hps
  have Hup := Lib.hid hup
  obtain ⟨b2', o2, rfl, hb2l, hC2⟩ := up_open hC2 (by omega)
  rw [hup] at hc2 ⊢
  clear hus hps hup
  have hlen : ∀ (l : List ByteArray), Kd.R Kd.string 9 w 0 (fun _ => True) (.slice none 0 0) [] := fun _ => Kd.R_nil ..
  have hG := World.alloc_heap_new w (.cells #[.slice A1 s.labels.length c1, .slice (some ⟨b2', o2, none⟩) s.labels.length c2, .slice A3 s.users.length c3, .slice A4 s.preds.length c4, .int .i64 s.bound, .complex .f64 s.re s.im] 29)
  have hB0 : Below w.heap.size w (w.alloc (.cells #[.slice A1 s.labels.length c1, .slice (some ⟨b2', o2, none⟩) s.labels.length c2, .slice A3 s.users.length c3, .slice A4 s.preds.length c4, .int .i64 s.bound, .complex .f64 s.re s.im] 29)) := (Below.refl _ w).alloc (Nat.le_refl _) _
  have hs0 : (w.alloc (.cells #[.slice A1 s.labels.length c1, .slice (some ⟨b2', o2, none⟩) s.labels.length c2, .slice A3 s.users.length c3, .slice A4 s.preds.length c4, .int .i64 s.bound, .complex .f64 s.re s.im] 29)).heap.size = w.heap.size + 1 := by simp
  obtain ⟨⟨c_0, c_1, c_2, c_3, c_4, c_5⟩, _⟩ := six hG
  generalize hnl : s.labels.length = nl at *
  generalize hnu : s.users.length = nu at *
  generalize hnp : s.preds.length = np at *
  go_enter Tryd.func13, Tryd.ntmps13
  go_wp2
  obtain ⟨W0, hW0⟩ : ∃ W0, w.alloc (.cells #[.slice A1 nl c1, .slice (some ⟨b2', o2, none⟩) nl c2, .slice A3 nu c3, .slice A4 np c4, .int .i64 s.bound, .complex .f64 s.re s.im] 29) = W0 := ⟨_, rfl⟩
  rw [hW0] at hG hB0 hs0 c_0 c_1 c_2 c_3 c_4 c_5 ⊢
  clear hW0
  have hC3' := Kd.C_below hC3 hB0
  go_loopw [3, 34] (fun a p wr => ∃ k : Nat, p = .int .i64 (k : Int) ∧ k ≤ nu ∧ Below (w.heap.size + 1) W0 wr ∧ Kd.R Kd.string 9 wr (w.heap.size + 1) (fun _ => True) a ((s.users.take k).map Prod.fst) ∧ w.heap.size + 1 ≤ wr.heap.size) (fun _ p _ => nu - (intOf p).toNat)
  case atStart => exact ⟨0, rfl, by omega, Below.refl _ _, Kd.R_nil .., by omega⟩
  case round =>
    obtain ⟨k, rfl, hk, hB, hR, hsz⟩ := hrel
    by_cases hkl : k < nu
    · obtain ⟨b, o, x, m0, rfl, hx, hb, cx, cm⟩ := C_user (Kd.C_below hC3' (by rw [hs0]; exact hB)) k hkl
      obtain ⟨hm0, hm1⟩ := Hus.out _ (List.mem_of_getElem? hx)
      simp only at hm0 hm1
      have hsn := take_map_snoc hx
      have Hsn := Lib.hid hsn
      have hlt : ((s.users.take k).map Prod.fst).length = k := by rw [List.length_map, List.length_take]; omega
      clear hsn hx
      have t1 : (m0 < 0) = False := eq_false (by omega)
      have t2 : ((nl : Int) ≤ m0) = False := eq_false (by omega)
      have k0 := (hB.cell (p := ⟨w.heap.size, 0, none⟩) (by show w.heap.size < _; omega)).trans c_0
      have k0' := al1 k0 (.cells #[.string x, .int .i64 m0] 56)
      generalize (s.users.take k).map Prod.fst = N at *
      obtain ⟨AN, cN, rfl⟩ := Kd.R_slice hR
      rw [hlt] at hR ⊢
      have hR1 := Kd.R_alloc hR (.cells #[.string x, .int .i64 m0] 56)
      have hB1 : Below (w.heap.size + 1) W0 (wr.alloc (.cells #[.string x, .int .i64 m0] 56)) := hB.alloc hsz _
      go_wp2_with (at_builtin; (refine Kd.R_append Kd.string (w0 := W0) (W := wr.alloc (.cells #[.string x, .int .i64 m0] 56)) (w.heap.size + 1) rfl (.tmp 49) (.tmp 52) 23 9 (.string ⟨#[]⟩) 16 rfl Tryd.underlying23 info_string rfl (by decide) (by decide) (.slice AN k cN) N x [.string x] (fun _ => True) (fun _ => False) rfl (by rw [World.size_alloc]; rfl) rfl (fun _ h => h.elim) (fun _ _ => trivial) hR1 hB1 (Nat.le_trans hsz (by simp)) (by omega) ?_; intro v1 w3 hown hB3 hgrow hat))
      refine ⟨⟨k + 1, rfl, by omega, hB3, by rw [Hsn.out]; exact hown, ?_⟩, by simp [intOf]; omega⟩
      have := hgrow.size
      simp at this
      omega
    · obtain rfl : k = nu := by omega
      rw [List.take_of_length_le (by omega)] at hR
      obtain ⟨AN, cN, rfl, hcN, hCN⟩ := Kd.R_reads hR
      have hnn : (s.users.map Prod.fst).length = k := by rw [List.length_map, hnu]
      rw [hnn] at hcN hCN ⊢
      have k3 := (hB.cell (p := ⟨w.heap.size, 3, none⟩) (by show w.heap.size < _; omega)).trans c_3
      clear hR
      go_wp2
      have HB := Lib.hid hB
      have hsz1 := hsz
      clear hB
      obtain ⟨W1, hW1⟩ : ∃ W1, wr = W1 := ⟨_, rfl⟩
      rw [hW1] at hCN HB hsz1 ⊢
      clear hW1
      have hB01 : Below w.heap.size w W1 := hB0.trans (HB.out.mono (by omega))
      have hC4' := Kd.C_below hC4 hB01
      go_loopw [4, 58] (fun a p wr => ∃ j : Nat, p = .int .i64 (j : Int) ∧ j ≤ np ∧ Below W1.heap.size W1 wr ∧ Kd.R Kd.string 9 wr W1.heap.size (fun _ => True) a ((s.preds.take j).map Prod.fst) ∧ W1.heap.size ≤ wr.heap.size) (fun _ p _ => np - (intOf p).toNat)
      case atStart => exact ⟨0, rfl, by omega, Below.refl _ _, Kd.R_nil .., by omega⟩
      case round =>
        obtain ⟨j, rfl, hj, hB, hR, hsz⟩ := hrel
        by_cases hjl : j < np
        · obtain ⟨b, o, x, m0, m1, rfl, hx, hb, cx, cm, cm1⟩ := C_pred (Kd.C_below hC4' hB) j hjl
          obtain ⟨hm0, hm1, hm2, hm3⟩ := Hps.out _ (List.mem_of_getElem? hx)
          simp only at hm0 hm1 hm2 hm3
          have hsn := take_map_snoc hx
          have Hsn := Lib.hid hsn
          have hlt : ((s.preds.take j).map Prod.fst).length = j := by rw [List.length_map, List.length_take]; omega
          clear hsn hx
          have t1 : (m0 < 0) = False := eq_false (by omega)
          have t2 : ((4 : Int) < m0) = False := eq_false (by omega)
          have t3 : (m1 < 0) = False := eq_false (by omega)
          have t4 : ((8 : Int) ≤ m1) = False := eq_false (by omega)
          generalize (s.preds.take j).map Prod.fst = N at *
          obtain ⟨AP, cP, rfl⟩ := Kd.R_slice hR
          rw [hlt] at hR ⊢
          have hR1 := Kd.R_alloc hR (.cells #[.string x, .int .i64 m0, .int .i64 m1] 58)
          have hB1 : Below W1.heap.size W1 (wr.alloc (.cells #[.string x, .int .i64 m0, .int .i64 m1] 58)) := hB.alloc hsz _
          go_wp2_with (at_builtin; (refine Kd.R_append Kd.string (w0 := W1) (W := wr.alloc (.cells #[.string x, .int .i64 m0, .int .i64 m1] 58)) W1.heap.size rfl (.tmp 80) (.tmp 83) 23 9 (.string ⟨#[]⟩) 16 rfl Tryd.underlying23 info_string rfl (by decide) (by decide) (.slice AP j cP) N x [.string x] (fun _ => True) (fun _ => False) rfl (by rw [World.size_alloc]; rfl) rfl (fun _ h => h.elim) (fun _ _ => trivial) hR1 hB1 (Nat.le_trans hsz (by simp)) (by omega) ?_; intro v1 w3 hown hB3 hgrow hat))
          refine ⟨⟨j + 1, rfl, by omega, hB3, by rw [Hsn.out]; exact hown, ?_⟩, by simp [intOf]; omega⟩
          have := hgrow.size
          simp at this
          omega
        · obtain rfl : j = np := by omega
          rw [List.take_of_length_le (by omega)] at hR
          obtain ⟨AP, cP, rfl, hcP, hCP⟩ := Kd.R_reads hR
          have hnq : (s.preds.map Prod.fst).length = j := by rw [List.length_map, hnp]
          rw [hnq] at hcP hCP ⊢
          clear hR
          have hBw : Below w.heap.size w wr := hB01.trans (hB.mono (by omega))
          have k0 := (hB.cell (p := ⟨w.heap.size, 0, none⟩) (by show w.heap.size < _; omega)).trans ((HB.out.cell (p := ⟨w.heap.size, 0, none⟩) (by show w.heap.size < _; omega)).trans c_0)
          have k1 := (hB.cell (p := ⟨w.heap.size, 1, none⟩) (by show w.heap.size < _; omega)).trans ((HB.out.cell (p := ⟨w.heap.size, 1, none⟩) (by show w.heap.size < _; omega)).trans c_1)
          have k4 := (hB.cell (p := ⟨w.heap.size, 4, none⟩) (by show w.heap.size < _; omega)).trans ((HB.out.cell (p := ⟨w.heap.size, 4, none⟩) (by show w.heap.size < _; omega)).trans c_4)
          have k5 := (hB.cell (p := ⟨w.heap.size, 5, none⟩) (by show w.heap.size < _; omega)).trans ((HB.out.cell (p := ⟨w.heap.size, 5, none⟩) (by show w.heap.size < _; omega)).trans c_5)
          have hwl : w.heap.size < wr.heap.size := by omega
          have f1 := fresh_calls A1 c1 s.labels wr (by rw [hnl]; exact Kd.C_below hC1 hBw) (by omega) (by omega) fl
          rw [hnl] at f1
          have f2 : ∀ w1, Below wr.heap.size wr w1 → Calls Tryd.prog 26 #[.slice AN k cN] w1 fun e w' => e = .returned (.bool true) ∧ Below w1.heap.size w1 w' := fun w1 h1 => by
            have := fresh_calls AN cN (s.users.map Prod.fst) w1 (by rw [hnn]; exact Kd.C_below (Kd.C_below hCN hB) h1) (by omega) (by omega) fu
            rw [hnn] at this
            exact this
          have f3 : ∀ w1, Below wr.heap.size wr w1 → Calls Tryd.prog 26 #[.slice AP j cP] w1 fun e w' => e = .returned (.bool true) ∧ Below w1.heap.size w1 w' := fun w1 h1 => by
            have := fresh_calls AP cP (s.preds.map Prod.fst) w1 (by rw [hnq]; exact Kd.C_below hCP h1) (by omega) (by omega) fp
            rw [hnq] at this
            exact this
          have f4 : ∀ w1, Below wr.heap.size wr w1 → Calls Tryd.prog 12 #[.slice (some ⟨b2', o2, none⟩) nl c2] w1 fun e w' => e = .returned (.bool true) ∧ Below w1.heap.size w1 w' := fun w1 h1 => by
            have hB1 : Below w.heap.size w w1 := hBw.trans (h1.mono (by omega))
            rw [← hri]
            exact Right_calls b2' o2 nl c2 L Hup.out (by omega) (by omega) hc2 hlt w1 (Nat.lt_of_lt_of_le hb2l hB1.size) (by have := hB1.size; omega) (fun q x hq => pw_cell_below hB1 (hC2 q x hq)) (fun i hi => (hB1.cell (p := ⟨0, i, none⟩) (by show 0 < _; omega)).trans (hT i hi))
          have f5 := fun w1 => purseRight_calls s.re s.im n m hre him w1
          have q5 : ((1 : Int) ≤ s.bound) = True := eq_true (by omega)
          have q6 : (s.bound ≤ (4096 : Int)) = True := eq_true (by omega)
          have F2 := Lib.hid f2
          have F3 := Lib.hid f3
          have F4 := Lib.hid f4
          have F5 := Lib.hid f5
          clear f2 f3 f4 f5
          go_wp2_with (first
            | (go_at_call 26; refine f1.mono ?_; clear f1; rintro e wa ⟨rfl, ha⟩)
            | (go_at_call 26; refine (F2.out _ ha).mono ?_; clear F2; rintro e wb ⟨rfl, hb⟩; have hab := ha.trans (hb.mono ha.size))
            | (go_at_call 26; refine (F3.out _ hab).mono ?_; clear F3; rintro e wc ⟨rfl, hcc⟩; have hac := hab.trans (hcc.mono hab.size); have e1 := (hac.cell (p := ⟨w.heap.size, 1, none⟩) hwl).trans k1; have e0 := (hac.cell (p := ⟨w.heap.size, 0, none⟩) hwl).trans k0)
            | (go_at_call 12; refine (F4.out _ hac).mono ?_; clear F4; rintro e wd ⟨rfl, hd⟩; have had := hac.trans (hd.mono hac.size); have e4 := (had.cell (p := ⟨w.heap.size, 4, none⟩) hwl).trans k4; have e5 := (had.cell (p := ⟨w.heap.size, 5, none⟩) hwl).trans k5)
            | (go_at_call 27; refine (F5.out _).mono ?_; clear F5; rintro e we ⟨rfl, rfl⟩))
          go_ret
          exact ⟨rfl, hBw.trans (had.mono (by omega))⟩
end Go.Proofs.YtfigaamgcmifeaaDoor
