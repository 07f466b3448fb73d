/- The reader's methods pred, limit, purse. -/
import Derived.Test.YtfigaamgcmifeaaDoorRe
namespace Go.Proofs.YtfigaamgcmifeaaDoor
open Go.RowKit Go.Proofs.YtfigaamgcmifeaaDoorW.PrintWords
set_option linter.unusedVariables false

/-- 'pred NAME ARITY STRATUM' -/
def predS (s : St) (x : ByteArray) (n0 n1 : Int) : Int × St :=
  if 0 ≤ idxS (s.preds.map Prod.fst) x then (8, s) else if s.preds.length = 32 then (3, s) else (0, { s with preds := s.preds ++ [(x, n0, n1)] })

set_option maxRecDepth 100000 in
set_option maxHeartbeats 4000000 in
theorem predM_calls (r g n c h m d : Nat) (ok : Nat → Prop) (s : St) (x : ByteArray) (n0 n1 : Int) (w : World) (hR : Rdr w r ok s) (hl : s.preds.length ≤ 32) (hn : 1 ≤ n) (hm : 2 ≤ m)
    (hx : w.cell? ⟨g, 0, none⟩ = some (.string x)) (hy0 : w.cell? ⟨h, 0, none⟩ = some (.int .i64 n0)) (hy1 : w.cell? ⟨h, 1, none⟩ = some (.int .i64 n1)) :
    Calls Tryd.prog 42 #[.pointer (some ⟨r, 0, none⟩), .slice (some ⟨g, 0, none⟩) n c, .slice (some ⟨h, 0, none⟩) m d] w fun e w' =>
      e = .returned (.int .i64 (predS s x n0 n1).1) ∧ Rdr w' r (okN ok w) (predS s x n0 n1).2 ∧ Kp w w' r ok := by
  have hR0 := Lib.hid hR
  obtain ⟨vL, vU, vP, vE, hb, hL, hU, hP, hE⟩ := hR
  obtain ⟨A3, c3, rfl, hc3, hC3⟩ := Kd.R_reads hP
  have h0 : w.cell? ⟨r, 0, none⟩ = some vL := by simp [World.cell?, hb]
  have h1 : w.cell? ⟨r, 1, none⟩ = some (.slice none 0 0) := by simp [World.cell?, hb]
  have h2 : w.cell? ⟨r, 2, none⟩ = some vU := by simp [World.cell?, hb]
  have h3 : w.cell? ⟨r, 3, none⟩ = some (.slice A3 s.preds.length c3) := by simp [World.cell?, hb]
  have h4 : w.cell? ⟨r, 4, none⟩ = some (.int .i64 s.bound) := by simp [World.cell?, hb]
  have h5 : w.cell? ⟨r, 5, none⟩ = some (.complex .f64 s.re s.im) := by simp [World.cell?, hb]
  have hn0 : 0 < n := by omega
  have hn2 : (0 : Int) < (n : Int) := by omega
  have hm0 : 0 < m := by omega
  have hm1 : 1 < m := by omega
  have hm2 : (0 : Int) < (m : Int) := by omega
  have hm3 : (1 : Int) < (m : Int) := by omega
  have hrl : r < w.heap.size := World.block_lt_of_cell? w _ h0
  have hgl : g < w.heap.size := World.block_lt_of_cell? w _ hx
  have hhl : h < w.heap.size := World.block_lt_of_cell? w _ hy0
  have Hb := Lib.hid hb
  clear hb
  go_enter Tryd.func42, Tryd.ntmps42
  go_wp2
  go_region_held3 (fun w' => w'.cell? ⟨r, 0, none⟩ = some vL ∧ w'.cell? ⟨r, 1, none⟩ = some (.slice none 0 0) ∧ w'.cell? ⟨r, 2, none⟩ = some vU ∧ w'.cell? ⟨r, 3, none⟩ = some (.slice A3 s.preds.length c3) ∧ w'.cell? ⟨r, 4, none⟩ = some (.int .i64 s.bound) ∧ w'.cell? ⟨r, 5, none⟩ = some (.complex .f64 s.re s.im) ∧ w'.cell? ⟨g, 0, none⟩ = some (.string x)) (first | go_keep | exact ⟨(hb1.cell (p := ⟨r, 0, none⟩) hrl).trans h0, (hb1.cell (p := ⟨r, 1, none⟩) hrl).trans h1, (hb1.cell (p := ⟨r, 2, none⟩) hrl).trans h2, (hb1.cell (p := ⟨r, 3, none⟩) hrl).trans h3, (hb1.cell (p := ⟨r, 4, none⟩) hrl).trans h4, (hb1.cell (p := ⟨r, 5, none⟩) hrl).trans h5, (hb1.cell (p := ⟨g, 0, none⟩) hgl).trans hx⟩)
    ((go_at_call 16; refine (pred_calls _ _ _ _ _ _ _ s.preds _ _ (Kd.C_below hC3 (below_drew (Below.refl _ _))) (by omega)).mono ?_; rintro e w1 ⟨rfl, hb1⟩))
  have hbw := undrew (n := 1) hb1
  go_wp2
  · have he : predS s x n0 n1 = (8, s) := by rw [predS, if_pos (by first | assumption | omega)]
    go_ret
    exact ⟨ret_int (by rw [he]), by rw [he]; exact (hR0.out.alike hbw).1, (hR0.out.alike hbw).2⟩
  · have h16 : ((s.preds.length : Int) == 32) = true := by assumption
    have he : predS s x n0 n1 = (3, s) := by rw [predS, if_neg (by omega), if_pos (by have := beq_iff_eq.1 h16; omega)]
    go_ret
    exact ⟨ret_int (by rw [he]), by rw [he]; exact (hR0.out.alike hbw).1, (hR0.out.alike hbw).2⟩
  · have h16 : ((s.preds.length : Int) == 32) = false := by assumption
    have He := Lib.hid (show predS s x n0 n1 = (0, { s with preds := s.preds ++ [(x, n0, n1)] }) by rw [predS, if_neg (by omega), if_neg (by have := beq_eq_false_iff_ne.1 h16; omega)])
    have hP1 := Kd.R_below hP hbw
    have Hb1 := Lib.hid ((hbw.block r hrl).trans Hb.out)
    have hrl1 := Nat.lt_of_lt_of_le hrl hbw.size
    have hgl1 := Nat.lt_of_lt_of_le hgl hbw.size
    have hhl1 := Nat.lt_of_lt_of_le hhl hbw.size
    have k3 : w1.cell? ⟨r, 3, none⟩ = some (.slice A3 s.preds.length c3) := (hbw.cell (p := ⟨r, 3, none⟩) hrl).trans h3
    have kx : w1.cell? ⟨g, 0, none⟩ = some (.string x) := (hbw.cell (p := ⟨g, 0, none⟩) hgl).trans hx
    have ky0 : w1.cell? ⟨h, 0, none⟩ = some (.int .i64 n0) := (hbw.cell (p := ⟨h, 0, none⟩) hhl).trans hy0
    have ky1 : w1.cell? ⟨h, 1, none⟩ = some (.int .i64 n1) := (hbw.cell (p := ⟨h, 1, none⟩) hhl).trans hy1
    have kf3 : w1.frozen? ⟨r, 3, none⟩ = false := blk_frozen Hb1.out 3
    have HownR : some r ≠ (Value.slice A3 s.preds.length c3).ownBlock := Kd.R_ne hP1 Hb1.out (by decide)
    have hA3 : ∀ o, (w1.drew.alloc o).cell? ⟨r, 3, none⟩ = some (.slice A3 s.preds.length c3) := fun o => (World.cell?_alloc_lt _ _ _ hrl1).trans k3
    have hAx : ∀ o, (w1.drew.alloc o).cell? ⟨g, 0, none⟩ = some (.string x) := fun o => (World.cell?_alloc_lt _ _ _ hgl1).trans kx
    have hA3' : ∀ o, (w1.alloc o).cell? ⟨r, 3, none⟩ = some (.slice A3 s.preds.length c3) := fun o => (World.cell?_alloc_lt _ _ _ hrl1).trans k3
    go_region_law ((refine Kd.R_append_step kP (w0 := w1) (W := w1.drew) 0 (by simp [Region.wanted]) (.tmp 33) (.tmp 44) 26 58 (.agg #[.string ⟨#[]⟩, .int .i64 0, .int .i64 0]) 32 (by rfl) Tryd.underlying26 info_pred rfl (by decide) (by decide) _ s.preds (x, n0, n1) [.string x, .int .i64 n0, .int .i64 n1] (okN ok w1) (fun _ => False) (by rfl) (by rfl) ⟨[_], [_, _], rfl, rfl, [_], [_], rfl, rfl, rfl⟩ (fun _ h => h.elim) (fun k hk => .inr hk) (Kd.R_mono (Kd.R_drew hP1) (fun _ h => .inl h)) (below_drew (Below.refl _ _)) (by simp) (by omega) ?_; intro v1 w2 hown hB1 hgrow hat; have hc1 := (hgrow.cell_far ⟨r, 3, none⟩ (by simp; omega) HownR).trans (by simpa using k3); have hf1 := (hgrow.frozen_far ⟨r, 3, none⟩ (by simp; omega) HownR).trans (by simpa using kf3); obtain ⟨A1, c1, hv1⟩ := Kd.R_slice hown; rw [List.length_append, List.length_singleton] at hv1; subst hv1))
    all_goals
      go_wp2
      go_ret
      have hap := app_preds (nq := 1) Hb1.out (Kd.R_below hL hbw) (Kd.R_below hU hbw) hP1 (Kd.R_below hE hbw) hgrow hown
      exact ⟨ret_int (by rw [He.out]), by rw [He.out]; exact hap.1.mono fun k hk => hk.imp id fun h => Nat.le_trans hbw.size h, (Kp.of_below hbw).trans hap.2⟩

/-- 'bound N' -/
def limitS (s : St) (n0 : Int) : Int × St := if s.bnd = true then (8, s) else (0, { s with bnd := true, bound := n0 })

set_option maxRecDepth 100000 in
set_option maxHeartbeats 4000000 in
theorem limit_calls (r h m d : Nat) (ok : Nat → Prop) (s : St) (n0 : Int) (V : Value) (w : World) (hR : Rdr w r ok s) (hm : 1 ≤ m) (hy0 : w.cell? ⟨h, 0, none⟩ = some (.int .i64 n0)) :
    Calls Tryd.prog 43 #[.pointer (some ⟨r, 0, none⟩), V, .slice (some ⟨h, 0, none⟩) m d] w fun e w' =>
      e = .returned (.int .i64 (limitS s n0).1) ∧ Rdr w' r (okN ok w) (limitS s n0).2 ∧ Kp w w' r ok := by
  have hR0 := Lib.hid hR
  obtain ⟨vL, vU, vP, vE, hb, hL, hU, hP, hE⟩ := hR
  have h7 : w.cell? ⟨r, 7, none⟩ = some (.bool s.bnd) := by simp [World.cell?, hb]
  have h4 : w.cell? ⟨r, 4, none⟩ = some (.int .i64 s.bound) := by simp [World.cell?, hb]
  have hf4 : w.frozen? ⟨r, 4, none⟩ = false := blk_frozen hb 4
  have hf7 : w.frozen? ⟨r, 7, none⟩ = false := blk_frozen hb 7
  have hm0 : 0 < m := by omega
  have hm2 : (0 : Int) < (m : Int) := by omega
  clear hb
  go_enter Tryd.func43, Tryd.ntmps43
  go_wp2
  · have he : limitS s n0 = (8, s) := by rw [limitS, if_pos (by assumption)]
    go_ret
    exact ⟨ret_int (by rw [he]), by rw [he]; exact hR0.out.mono fun _ h => .inl h, Kp.refl _ _ _⟩
  · have he : limitS s n0 = (0, { s with bnd := true, bound := n0 }) := by rw [limitS, if_neg (by simp; assumption)]
    go_ret
    have h1 := hR0.out.plain 7 (.bool true) (by decide) { s with bnd := true } (fun _ _ _ _ => rfl) ⟨rfl, rfl, rfl, rfl⟩
    have h2 := h1.1.plain 4 (.int .i64 n0) (by decide) { s with bnd := true, bound := n0 } (fun _ _ _ _ => rfl) ⟨rfl, rfl, rfl, rfl⟩
    exact ⟨ret_int (by rw [he]), by rw [he]; exact h2.1.mono fun _ h => .inl h, h1.2.trans h2.2⟩

/-- 'purse N N' -/
def purseS (s : St) (n0 n1 : Int) : Int × St := if s.psd = true then (8, s) else (0, { s with psd := true, re := floatOfInt .f64 n0, im := floatOfInt .f64 n1 })

attribute [local go_sem] run_store_complex
set_option maxRecDepth 100000 in
set_option maxHeartbeats 4000000 in
theorem purse_calls (r h m d : Nat) (ok : Nat → Prop) (s : St) (n0 n1 : Int) (V : Value) (w : World) (hR : Rdr w r ok s) (hm : 2 ≤ m) (hy0 : w.cell? ⟨h, 0, none⟩ = some (.int .i64 n0)) (hy1 : w.cell? ⟨h, 1, none⟩ = some (.int .i64 n1)) :
    Calls Tryd.prog 44 #[.pointer (some ⟨r, 0, none⟩), V, .slice (some ⟨h, 0, none⟩) m d] w fun e w' =>
      e = .returned (.int .i64 (purseS s n0 n1).1) ∧ Rdr w' r (okN ok w) (purseS s n0 n1).2 ∧ Kp w w' r ok := by
  have hR0 := Lib.hid hR
  obtain ⟨vL, vU, vP, vE, hb, hL, hU, hP, hE⟩ := hR
  have h8 : w.cell? ⟨r, 8, none⟩ = some (.bool s.psd) := by simp [World.cell?, hb]
  have h5 : w.cell? ⟨r, 5, none⟩ = some (.complex .f64 s.re s.im) := by simp [World.cell?, hb]
  have hf5 : w.frozen? ⟨r, 5, none⟩ = false := blk_frozen hb 5
  have hf8 : w.frozen? ⟨r, 8, none⟩ = false := blk_frozen hb 8
  have hm0 : 0 < m := by omega
  have hm1 : 1 < m := by omega
  have hm2 : (0 : Int) < (m : Int) := by omega
  have hm3 : (1 : Int) < (m : Int) := by omega
  clear hb
  go_enter Tryd.func44, Tryd.ntmps44
  go_wp2
  · have he : purseS s n0 n1 = (8, s) := by rw [purseS, if_pos (by assumption)]
    go_ret
    exact ⟨ret_int (by rw [he]), by rw [he]; exact hR0.out.mono fun _ h => .inl h, Kp.refl _ _ _⟩
  · have He := Lib.hid (show purseS s n0 n1 = (0, { s with psd := true, re := floatOfInt .f64 n0, im := floatOfInt .f64 n1 }) by rw [purseS, if_neg (by simp; assumption)])
    go_region
    all_goals
      go_wp2
      go_ret
      have h1 := hR0.out.plain 8 (.bool true) (by decide) { s with psd := true } (fun _ _ _ _ => rfl) ⟨rfl, rfl, rfl, rfl⟩
      have h2 := h1.1.plain 5 (.complex .f64 (floatOfInt .f64 n0) (floatOfInt .f64 n1)) (by decide) { s with psd := true, re := floatOfInt .f64 n0, im := floatOfInt .f64 n1 } (fun _ _ _ _ => rfl) ⟨rfl, rfl, rfl, rfl⟩
      exact ⟨ret_int (by rw [He.out]), by rw [He.out]; exact (h2.1.drewN 1).mono fun _ h => .inl h, (h1.2.trans h2.2).trans (Kp.drewN _ _ _ 1)⟩

end Go.Proofs.YtfigaamgcmifeaaDoor
