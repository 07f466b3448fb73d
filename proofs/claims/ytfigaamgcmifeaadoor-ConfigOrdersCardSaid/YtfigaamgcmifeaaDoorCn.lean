/- ConfigNotes: lines that say nothing change nothing. -/
import Derived.Test.YtfigaamgcmifeaaDoorFc
import Derived.Test.YtfigaamgcmifeaaDoorFl
import Derived.Test.YtfigaamgcmifeaaDoorSm
import Derived.Test.YtfigaamgcmifeaaDoorLw
namespace Go.Proofs.YtfigaamgcmifeaaDoor
open Go.RowKit Go.Lib Go.Proofs.YtfigaamgcmifeaaDoorW.PrintWords
set_option linter.unusedVariables false

theorem runS_line : ∀ (l : List ByteArray) (s : St) (i : Nat), 0 ≤ (runS s i l).2.1 ∧ (runS s i l).2.1 ≤ (i : Int) + l.length
  | [], s, i => by simp [runS]
  | x :: rest, s, i => by
    unfold runS
    split
    · have := runS_line rest (lineS s (wordsB x)).2 (i + 1)
      simp only [List.length_cons]
      omega
    · simp only [List.length_cons]
      omega
theorem parse_line (t : ByteArray) : 0 ≤ (parseS t).line ∧ (parseS t).line ≤ 70000 := by
  unfold parseS
  by_cases h : 65536 < t.size
  · rw [if_pos h]; exact ⟨by decide, by decide⟩
  · rw [if_neg h]
    split
    · unfold closeS
      split
      · exact ⟨by decide, by decide⟩
      · split <;> exact ⟨by show (0 : Int) ≤ 0; omega, by show (0 : Int) ≤ 70000; omega⟩
    · have h1 := runS_line (linesB t) St.none 0
      have h2 := (linesB_length t).1
      show 0 ≤ (runS St.none 0 (linesB t)).2.1 ∧ (runS St.none 0 (linesB t)).2.1 ≤ 70000
      omega
theorem parse_wf (t : ByteArray) : (parseS t).st.labels.length ≤ 64 ∧ (parseS t).st.users.length ≤ 16 ∧ (parseS t).st.preds.length ≤ 32 ∧ (parseS t).up.length ≤ 64 := by
  have hb : ∀ i e, (Parsed.bad i e).st.labels.length ≤ 64 ∧ (Parsed.bad i e).st.users.length ≤ 16 ∧ (Parsed.bad i e).st.preds.length ≤ 32 ∧ (Parsed.bad i e).up.length ≤ 64 := fun i e => by
    simp [Parsed.bad, St.none]
  by_cases h : (parseS t).err = 0
  · obtain ⟨h1, h2, h3, h4, h5⟩ := parse_ok t h
    obtain ⟨a1, a2, a3, _⟩ := parse_size t h
    have hw := WF.none.run (linesB t) 0
    have e : (parseS t).st = (runS St.none 0 (linesB t)).1 := by rw [h2]
    rw [e] at a1 a2 ⊢
    exact ⟨hw.l1, hw.l2, hw.l3, by omega⟩
  · unfold parseS at h ⊢
    split
    · exact hb _ _
    · rename_i h1
      rw [if_neg h1] at h
      split
      · rename_i h2
        rw [if_pos h2] at h
        unfold closeS at h ⊢
        split
        · exact hb _ _
        · rename_i h3
          rw [if_neg h3] at h
          split
          · rename_i h4
            rw [if_pos h4] at h
            exact absurd rfl h
          · exact hb _ _
      · exact hb _ _

theorem wide_step (t : ByteArray) (k : Nat) (h : k < t.size) : wideL (t.data.toList.take (k + 1)) = wideL (t.data.toList.take k) ++ wideF t[k] := by
  rw [take_snoc t k h]
  unfold wideL
  rw [List.flatMap_append]
  simp
theorem ba_app (a b : ByteArray) : (a ++ b).data.toList = a.data.toList ++ b.data.toList := by simp [ByteArray.data_append]
attribute [local go_sem] run_store_complex

set_option maxRecDepth 100000 in
set_option maxHeartbeats 8000000 in
theorem notes_calls (t : ByteArray) (w : World) (hE : Env w) (ht : t.size ≤ 9223372036854775807) :
    Calls Tryd.prog 3 #[.string t] w fun e w' => e = .returned (.bool true) ∧ Below w.heap.size w w' := by
  have hf := fixed_true w hE
  have HE := Lib.hid hE
  clear hE
  go_enter Tryd.func3, Tryd.ntmps3
  by_cases hbig : 20000 < t.size
  · have q1 : ((20000 : Int) < (t.size : Int)) = True := eq_true (by omega)
    go_wp2_with (go_at_call 5; refine hf.mono ?_; rintro e w1 ⟨rfl, hb1⟩)
    go_ret
    exact ⟨rfl, hb1⟩
  · have q1 : ((20000 : Int) < (t.size : Int)) = False := eq_false (by omega)
    go_wp2_with (go_at_call 5; refine hf.mono ?_; rintro e w1 ⟨rfl, hb1⟩)
    have HB1 := Lib.hid hb1
    have HE1 := Lib.hid (HE.out.below hb1)
    clear hb1 hf
    have ht2 : t.size ≤ 20000 := by omega
    go_loopw [3, 4] (fun v p wr => ∃ (k : Nat) (W : ByteArray), v = .string W ∧ p = .int .i64 (k : Int) ∧ k ≤ t.size ∧ Aside0 (W.data.toList = wideL (t.data.toList.take k)) ∧ W.size ≤ 60000 ∧ Below w1.heap.size w1 wr) (fun _ p _ => t.size - (intOf p).toNat)
    case atStart => exact ⟨0, _, rfl, rfl, by omega, ⟨rfl⟩, by decide, Below.refl _ _⟩
    case round =>
      obtain ⟨k, W, rfl, rfl, hk, hW, hWs, hB⟩ := hrel
      by_cases hkl : k < t.size
      · have Hst := Lib.hid (wide_step t k hkl)
        have HW := Lib.hid hW.out
        have HB := Lib.hid hB
        clear hW hB
        by_cases h10 : t[k] = 10
        · have t1 : ((t[k].toNat : Int) == 10) = true := by rw [h10]; rfl
          have l1 : (9223372036854775807 < W.size + 3) = False := eq_false (by omega)
          have Hn : Hid ((W ++ (⟨#[32, 9, 10]⟩ : ByteArray)).data.toList = wideL (t.data.toList.take (k + 1))) := Lib.hid (by rw [ba_app, HW.out, Hst.out, h10]; rfl)
          have Hz : Hid ((W ++ (⟨#[32, 9, 10]⟩ : ByteArray)).size = W.size + 3) := Lib.hid (by rw [ByteArray.size_append]; rfl)
          clear h10
          by_cases h6 : 60000 < W.size + 3
          · have q6 : ((60000 : Int) < (W.size : Int) + 3) = True := eq_true (by omega)
            go_wp2
            go_ret
            exact ⟨rfl, bel_then HB1.out HB.out⟩
          · have q6 : ((60000 : Int) < (W.size : Int) + 3) = False := eq_false (by omega)
            go_wp2
            refine ⟨⟨k + 1, _, rfl, rfl, by omega, ⟨Hn.out⟩, by rw [Hz.out]; omega, HB.out⟩, by simp [intOf]; omega⟩
        · have t1 : ((t[k].toNat : Int) == 10) = false := by
            simp
            intro e
            exact h10 (UInt8.toNat_inj.1 (by show t[k].toNat = 10; omega))
          by_cases h32 : t[k] = 32
          · have t2 : ((t[k].toNat : Int) == 32) = true := by rw [h32]; rfl
            have l1 : (9223372036854775807 < W.size + 2) = False := eq_false (by omega)
            have Hn : Hid ((W ++ (⟨#[32, 9]⟩ : ByteArray)).data.toList = wideL (t.data.toList.take (k + 1))) := Lib.hid (by rw [ba_app, HW.out, Hst.out, h32]; rfl)
            have Hz : Hid ((W ++ (⟨#[32, 9]⟩ : ByteArray)).size = W.size + 2) := Lib.hid (by rw [ByteArray.size_append]; rfl)
            clear h10 h32
            by_cases h6 : 60000 < W.size + 2
            · have q6 : ((60000 : Int) < (W.size : Int) + 2) = True := eq_true (by omega)
              go_wp2
              go_ret
              exact ⟨rfl, bel_then HB1.out HB.out⟩
            · have q6 : ((60000 : Int) < (W.size : Int) + 2) = False := eq_false (by omega)
              go_wp2
              refine ⟨⟨k + 1, _, rfl, rfl, by omega, ⟨Hn.out⟩, by rw [Hz.out]; omega, HB.out⟩, by simp [intOf]; omega⟩
          · have t2 : ((t[k].toNat : Int) == 32) = false := by
              simp
              intro e
              exact h32 (UInt8.toNat_inj.1 (by show t[k].toNat = 32; omega))
            have l1 : (9223372036854775807 < W.size + 1) = False := eq_false (by omega)
            have hex : (t.extract k (k + 1)).data.toList = [t[k]] := by
              rw [extract_data, drop_at t k hkl]; simp
            have hexs : (t.extract k (k + 1)).size = 1 := by rw [← data_length, hex]; rfl
            have Hn : Hid ((W ++ t.extract k (k + 1)).data.toList = wideL (t.data.toList.take (k + 1))) := Lib.hid (by rw [ba_app, HW.out, Hst.out, hex]; simp [wideF, h10, h32])
            have Hz : Hid ((W ++ t.extract k (k + 1)).size = W.size + 1) := Lib.hid (by rw [ByteArray.size_append, hexs])
            clear h10 h32 hex
            by_cases h6 : 60000 < W.size + 1
            · have q6 : ((60000 : Int) < (W.size : Int) + 1) = True := eq_true (by omega)
              go_wp2
              go_ret
              exact ⟨rfl, bel_then HB1.out HB.out⟩
            · have q6 : ((60000 : Int) < (W.size : Int) + 1) = False := eq_false (by omega)
              go_wp2
              refine ⟨⟨k + 1, _, rfl, rfl, by omega, ⟨Hn.out⟩, by rw [Hz.out]; omega, HB.out⟩, by simp [intOf]; omega⟩
      · obtain rfl : k = t.size := by omega
        have hWt : W.data.toList = wideL t.data.toList := by
          rw [hW.out, List.take_of_length_le (by rw [data_length]; exact Nat.le_refl _)]
        have HE2 := Lib.hid (HE1.out.below hB)
        have HB2 := Lib.hid (bel_then HB1.out hB)
        have hP := fun w1 (h : Env w1) => Parse_env t h
        have hQ := fun w1 (h : Env w1) => Parse_env W h
        obtain ⟨e1, e2, e3, e4⟩ := parse_wide t W (by omega) (by omega) hWt
        obtain ⟨z1, z2, z3, z4⟩ := parse_wf t
        obtain ⟨f1, f2⟩ := parse_flt t
        obtain ⟨n1, n2⟩ := parse_line t
        unfold ParseP at hQ hP
        rw [e1, e2, e3] at hQ
        generalize (parseS t).st = S at *
        generalize (parseS t).up = L at *
        generalize (parseS t).err = er at *
        generalize (parseS t).line = ln at *
        generalize (parseS W).line = ln' at *
        have HPP := Lib.hid hP
        have HQ := Lib.hid hQ
        have He4 := Lib.hid e4
        clear hP hQ e1 e2 e3 e4 hW hWt
        have hwr : wrap64 (ln + 1) = ln + 1 := IntWalk.wrap64_in _ (by omega)
        have key : (er == 0) = true ∨ ((er == 0) = false ∧ (ln == 0) = true ∧ (ln' == 0) = true) ∨ ((er == 0) = false ∧ (ln == 0) = false ∧ (ln' == ln + 1) = true) ∨ ((er == 0) = false ∧ (ln == 0) = true ∧ (ln' == 0) = false ∧ (ln' == ln + 1) = true) := by
          simp only [beq_iff_eq, beq_eq_false_iff_ne]
          rcases He4.out with h | ⟨h, h'⟩ | h
          · exact .inl h
          · by_cases h0 : er = 0
            · exact .inl h0
            · exact .inr (.inl ⟨h0, h, h'⟩)
          · by_cases h0 : er = 0
            · exact .inl h0
            · by_cases h1 : ln = 0
              · exact .inr (.inr (.inr ⟨h0, h1, by omega, h⟩))
              · exact .inr (.inr (.inl ⟨h0, h1, h⟩))
        rcases key with t1 | ⟨t1, t2, t3⟩ | ⟨t1, t2, t3⟩ | ⟨t1, t2, t3, t4⟩
        all_goals go_wp2_with (first
          | (go_at_call 6; refine (HPP.out _ HE2.out).mono ?_; clear HPP; rintro e wA ⟨hbA, va, rfl, hca⟩; have HCA := Lib.hid hca; obtain ⟨A1, c1, A2, c2, A3, c3, A4, c4, rfl, -⟩ := hca; have HEA := Lib.hid ((HE2.out.below hbA).alloc (.cells #[.slice A1 S.labels.length c1, .slice A2 L.length c2, .slice A3 S.users.length c3, .slice A4 S.preds.length c4, .int .i64 S.bound, .complex .f64 S.re S.im] 29)))
          | (go_at_call 6; refine (HQ.out _ HEA.out).mono ?_; clear HQ; rintro e wB ⟨hbB, vb, rfl, hcb⟩; have HCB := Lib.hid hcb; obtain ⟨B1, d1, B2, d2, B3, d3, B4, d4, rfl, -⟩ := hcb; have HGA := Lib.hid (blk3 (p := (.cells #[.slice B1 S.labels.length d1, .slice B2 L.length d2, .slice B3 S.users.length d3, .slice B4 S.preds.length d4, .int .i64 S.bound, .complex .f64 S.re S.im] 29)) (blk1 hbB)); have hGB := World.alloc_heap_new wB (.cells #[.slice B1 S.labels.length d1, .slice B2 L.length d2, .slice B3 S.users.length d3, .slice B4 S.preds.length d4, .int .i64 S.bound, .complex .f64 S.re S.im] 29); have HBB := Lib.hid (bel_alloc (bel1 hbB) (.cells #[.slice B1 S.labels.length d1, .slice B2 L.length d2, .slice B3 S.users.length d3, .slice B4 S.preds.length d4, .int .i64 S.bound, .complex .f64 S.re S.im] 29)); have HBZ := Lib.hid (bel_alloc (Below.refl _ wB) (.cells #[.slice B1 S.labels.length d1, .slice B2 L.length d2, .slice B3 S.users.length d3, .slice B4 S.preds.length d4, .int .i64 S.bound, .complex .f64 S.re S.im] 29)); have HBW := Lib.hid (bel_then hbA HBB.out); clear hbB hbA; obtain ⟨⟨k0, k1, k2, k3, k4, k5⟩, _⟩ := six HGA.out; obtain ⟨⟨m0, m1, m2, m3, m4, m5⟩, _⟩ := six hGB)
          | (go_at_call 7; refine (Same_calls _ _ S L _ (HCA.out.below HBB.out) (HCB.out.below HBZ.out) z4 f1 f2 z1 z2 z3).mono ?_; rintro e wC ⟨rfl, hbC⟩))
        all_goals go_ret
        all_goals exact ⟨rfl, bel_then HB2.out (bel_then HBW.out hbC)⟩
end Go.Proofs.YtfigaamgcmifeaaDoor
