/- The reader's other methods. -/
import Derived.Test.YtfigaamgcmifeaaDoorRd
import Derived.Test.YtfigaamgcmifeaaDoorUs
namespace Go.Proofs.YtfigaamgcmifeaaDoor
open Go.RowKit Go.Proofs.YtfigaamgcmifeaaDoorW.PrintWords

theorem info_pair : (Tryd.prog.info? 78).map (fun i => (i.zero, i.size, i.bytes)) = some (some (.agg #[.int .i64 0, .int .i64 0]), 2, 16) := by kernel_rfl
theorem info_user : (Tryd.prog.info? 56).map (fun i => (i.zero, i.size, i.bytes)) = some (some (.agg #[.string ⟨#[]⟩, .int .i64 0]), 2, 24) := by kernel_rfl
theorem info_pred : (Tryd.prog.info? 58).map (fun i => (i.zero, i.size, i.bytes)) = some (some (.agg #[.string ⟨#[]⟩, .int .i64 0, .int .i64 0]), 3, 32) := by kernel_rfl

/-- 'above B A' -/
def aboveS (s : St) (x0 x1 : ByteArray) : Int × St :=
  if idxS s.labels x1 < 0 ∨ idxS s.labels x0 < 0 then (8, s) else (0, { s with pairs := s.pairs ++ [(idxS s.labels x1, idxS s.labels x0)] })

set_option maxRecDepth 100000 in
set_option maxHeartbeats 2000000 in
theorem above_calls (r g n c : Nat) (ok : Nat → Prop) (s : St) (x0 x1 : ByteArray) (V : Value) (w : World) (hR : Rdr w r ok s) (hl : s.labels.length ≤ 64) (hp : s.pairs.length ≤ 100000) (hn : 2 ≤ n) (hx0 : w.cell? ⟨g, 0, none⟩ = some (.string x0)) (hx1 : w.cell? ⟨g, 1, none⟩ = some (.string x1)) :
    Calls Tryd.prog 40 #[.pointer (some ⟨r, 0, none⟩), .slice (some ⟨g, 0, none⟩) n c, V] w fun e w' =>
      e = .returned (.int .i64 (aboveS s x0 x1).1) ∧ Rdr w' r (okN ok w) (aboveS s x0 x1).2 ∧ Kp w w' r ok := by
  have hR0 := Lib.hid hR
  obtain ⟨vL, vU, vP, vE, hb, hL, hU, hP, hE⟩ := hR
  obtain ⟨A, c0, rfl, hc0, hC⟩ := Kd.R_reads hL
  obtain ⟨A6, c6, rfl, hc6, hC6⟩ := Kd.R_reads hE
  have h0 : w.cell? ⟨r, 0, none⟩ = some (.slice A s.labels.length c0) := by simp [World.cell?, hb]
  have h6 : w.cell? ⟨r, 6, none⟩ = some (.slice A6 s.pairs.length c6) := by simp [World.cell?, hb]
  have hf6 : w.frozen? ⟨r, 6, none⟩ = false := blk_frozen hb 6
  have hn0 : 0 < n := by omega
  have hn1 : 1 < n := by omega
  have hn2 : (0 : Int) < (n : Int) := by omega
  have hn3 : (1 : Int) < (n : Int) := by omega
  have hrl : r < w.heap.size := World.block_lt_of_cell? w _ h0
  have HownR : some r ≠ (Value.slice A6 s.pairs.length c6).ownBlock := Kd.R_ne hE hb (by decide)
  have hA6 : ∀ k o, ((w.drewN k).alloc o).cell? ⟨r, 6, none⟩ = some (.slice A6 s.pairs.length c6) := fun k o => (World.cell?_alloc_lt _ _ _ hrl).trans h6
  have Hb := Lib.hid hb
  clear hb
  by_cases ha : idxS s.labels x1 < 0 ∨ idxS s.labels x0 < 0
  · have He := Lib.hid (show aboveS s x0 x1 = (8, s) by rw [aboveS, if_pos ha])
    have ha' : idxS s.labels x1 < 0 ∨ (0 ≤ idxS s.labels x1 ∧ idxS s.labels x0 < 0) := by omega
    clear ha
    rcases ha' with ha1 | ⟨ha1, ha2⟩
    all_goals
      go_enter Tryd.func40, Tryd.ntmps40
      go_wp2
      go_quiet ((go_at_call 23; exact index_q hC (by omega) _))
      go_wp2
      go_ret
      exact ⟨ret_int (by rw [He.out]), by rw [He.out]; exact (hR0.out.drewN _).mono fun _ h => .inl h, Kp.drewN _ _ _ _⟩
  · have He := Lib.hid (show aboveS s x0 x1 = (0, { s with pairs := s.pairs ++ [(idxS s.labels x1, idxS s.labels x0)] }) by rw [aboveS, if_neg ha])
    have ha1 : 0 ≤ idxS s.labels x1 := by omega
    have ha2 : 0 ≤ idxS s.labels x0 := by omega
    clear ha
    go_enter Tryd.func40, Tryd.ntmps40
    go_wp2
    go_quiet ((go_at_call 23; exact index_q hC (by omega) _))
    go_wp2_with (at_builtin; refine Kd.R_append kE (w0 := w) 0 rfl (.tmp 37) (.tmp 41) 45 78 (.agg #[.int .i64 0, .int .i64 0]) 16 rfl Tryd.underlying45 info_pair rfl (by decide) (by decide) _ s.pairs (idxS s.labels x1, idxS s.labels x0) [.int .i64 (idxS s.labels x1), .int .i64 (idxS s.labels x0)] (okN ok w) (fun _ => False) rfl rfl ⟨_, _, rfl, rfl, rfl⟩ (fun _ h => h.elim) (fun k hk => .inr hk) (Kd.R_mono (Kd.R_drewN hE _) (fun _ h => .inl h)) (pw_below_drewN (Below.refl _ _) _) (by simp) (by omega) ?_; intro v1 w1 hown hB1 hgrow hat; have hc1 := (hgrow.cell_far ⟨r, 6, none⟩ (by simp; omega) HownR).trans (by simpa using h6); have hf1 := (hgrow.frozen_far ⟨r, 6, none⟩ (by simp; omega) HownR).trans (by simpa using hf6); obtain ⟨A1, c1, hv1⟩ := Kd.R_slice hown; rw [List.length_append, List.length_singleton] at hv1; subst hv1)
    go_ret
    exact ⟨ret_int (by rw [He.out]), by rw [He.out]; exact (app_pairs Hb.out hL hU hP hE hgrow hown).1, (app_pairs Hb.out hL hU hP hE hgrow hown).2⟩

/-- 'user NAME LABEL' -/
def userS (s : St) (x0 x1 : ByteArray) : Int × St :=
  if 0 ≤ idxS (s.users.map Prod.fst) x0 ∨ idxS s.labels x1 < 0 then (8, s) else if s.users.length = 16 then (3, s) else (0, { s with users := s.users ++ [(x0, idxS s.labels x1)] })

theorem Rdr.alike {w w' : World} {r : Nat} {ok : Nat → Prop} {s : St} (h : Rdr w r ok s) (hb : Below w.heap.size w w') : Rdr w' r (okN ok w) s ∧ Kp w w' r ok :=
  ⟨(h.below hb).mono fun _ h => .inl h, ⟨hb.os, hb.tape, hb.output, hb.size, fun i hi => absurd hi (by omega)⟩, fun k hk _ _ => hb.block k hk⟩

set_option maxRecDepth 100000 in
set_option maxHeartbeats 4000000 in
theorem userM_calls (r g n c : Nat) (ok : Nat → Prop) (s : St) (x0 x1 : ByteArray) (V : Value) (w : World) (hR : Rdr w r ok s) (hl : s.labels.length ≤ 64) (hu : s.users.length ≤ 16) (hn : 2 ≤ n) (hx0 : w.cell? ⟨g, 0, none⟩ = some (.string x0)) (hx1 : w.cell? ⟨g, 1, none⟩ = some (.string x1)) (hgo : ¬ ok g) :
    Calls Tryd.prog 41 #[.pointer (some ⟨r, 0, none⟩), .slice (some ⟨g, 0, none⟩) n c, V] w fun e w' =>
      e = .returned (.int .i64 (userS s x0 x1).1) ∧ Rdr w' r (okN ok w) (userS s x0 x1).2 ∧ Kp w w' r ok := by
  have hR0 := Lib.hid hR
  obtain ⟨vL, vU, vP, vE, hb, hL, hU, hP, hE⟩ := hR
  obtain ⟨A, c0, rfl, hc0, hC⟩ := Kd.R_reads hL
  obtain ⟨A2, c2, rfl, hc2, hC2⟩ := Kd.R_reads hU
  have h0 : w.cell? ⟨r, 0, none⟩ = some (.slice A s.labels.length c0) := by simp [World.cell?, hb]
  have h1 : w.cell? ⟨r, 1, none⟩ = some (.slice none 0 0) := by simp [World.cell?, hb]
  have h2 : w.cell? ⟨r, 2, none⟩ = some (.slice A2 s.users.length c2) := by simp [World.cell?, hb]
  have h3 : w.cell? ⟨r, 3, none⟩ = some vP := by simp [World.cell?, hb]
  have h4 : w.cell? ⟨r, 4, none⟩ = some (.int .i64 s.bound) := by simp [World.cell?, hb]
  have h5 : w.cell? ⟨r, 5, none⟩ = some (.complex .f64 s.re s.im) := by simp [World.cell?, hb]
  have hf2 : w.frozen? ⟨r, 2, none⟩ = false := blk_frozen hb 2
  have hn0 : 0 < n := by omega
  have hn1 : 1 < n := by omega
  have hn2 : (0 : Int) < (n : Int) := by omega
  have hn3 : (1 : Int) < (n : Int) := by omega
  have hrl : r < w.heap.size := World.block_lt_of_cell? w _ h0
  have hgl : g < w.heap.size := World.block_lt_of_cell? w _ hx0
  have Hb := Lib.hid hb
  clear hb
  go_enter Tryd.func41, Tryd.ntmps41
  go_wp2
  go_quiet ((go_at_call 23; exact index_q hC (by omega) _))
  go_wp2
  go_region_held3 (fun w' => w'.cell? ⟨r, 0, none⟩ = some (.slice A s.labels.length c0) ∧ w'.cell? ⟨r, 1, none⟩ = some (.slice none 0 0) ∧ w'.cell? ⟨r, 2, none⟩ = some (.slice A2 s.users.length c2) ∧ w'.cell? ⟨r, 3, none⟩ = some vP ∧ w'.cell? ⟨r, 4, none⟩ = some (.int .i64 s.bound) ∧ w'.cell? ⟨r, 5, none⟩ = some (.complex .f64 s.re s.im) ∧ w'.cell? ⟨g, 0, none⟩ = some (.string x0)) (first | go_keep | exact ⟨(hb1.cell (p := ⟨r, 0, none⟩) hrl).trans h0, (hb1.cell (p := ⟨r, 1, none⟩) hrl).trans h1, (hb1.cell (p := ⟨r, 2, none⟩) hrl).trans h2, (hb1.cell (p := ⟨r, 3, none⟩) hrl).trans h3, (hb1.cell (p := ⟨r, 4, none⟩) hrl).trans h4, (hb1.cell (p := ⟨r, 5, none⟩) hrl).trans h5, (hb1.cell (p := ⟨g, 0, none⟩) hgl).trans hx0⟩)
    ((go_at_call 15; refine (user_calls _ _ _ _ _ _ _ s.users _ _ (C_drewN hC2 _) (by omega)).mono ?_; rintro e w1 ⟨rfl, hb1⟩))
  have hbw := undrew hb1
  go_wp2
  · have he : userS s x0 x1 = (8, s) := by rw [userS, if_pos (by first | assumption | omega)]
    go_ret
    exact ⟨ret_int (by rw [he]), by rw [he]; exact (hR0.out.alike hbw).1, (hR0.out.alike hbw).2⟩
  · have h16 : ((s.users.length : Int) == 16) = true := by assumption
    have he : userS s x0 x1 = (3, s) := by rw [userS, if_neg (by omega), if_pos (by have := beq_iff_eq.1 h16; omega)]
    go_ret
    exact ⟨ret_int (by rw [he]), by rw [he]; exact (hR0.out.alike hbw).1, (hR0.out.alike hbw).2⟩
  · have h16 : ((s.users.length : Int) == 16) = false := by assumption
    have He := Lib.hid (show userS s x0 x1 = (0, { s with users := s.users ++ [(x0, idxS s.labels x1)] }) by rw [userS, if_neg (by omega), if_neg (by have := beq_eq_false_iff_ne.1 h16; omega)])
    have hU1 := Kd.R_below hU hbw
    have Hb1 := Lib.hid ((hbw.block r hrl).trans Hb.out)
    have hrl1 := Nat.lt_of_lt_of_le hrl hbw.size
    have hgl1 := Nat.lt_of_lt_of_le hgl hbw.size
    have k2 : w1.cell? ⟨r, 2, none⟩ = some (.slice A2 s.users.length c2) := (hbw.cell (p := ⟨r, 2, none⟩) hrl).trans h2
    have kx0 : w1.cell? ⟨g, 0, none⟩ = some (.string x0) := (hbw.cell (p := ⟨g, 0, none⟩) hgl).trans hx0
    have kf2 : w1.frozen? ⟨r, 2, none⟩ = false := blk_frozen Hb1.out 2
    have HownR : some r ≠ (Value.slice A2 s.users.length c2).ownBlock := Kd.R_ne hU1 Hb1.out (by decide)
    have hA2 : ∀ k o, ((w1.drewN k).alloc o).cell? ⟨r, 2, none⟩ = some (.slice A2 s.users.length c2) := fun k o => (World.cell?_alloc_lt _ _ _ hrl1).trans k2
    have hA0 : ∀ k o, ((w1.drewN k).alloc o).cell? ⟨g, 0, none⟩ = some (.string x0) := fun k o => (World.cell?_alloc_lt _ _ _ hgl1).trans kx0
    have hA2' : ∀ o, ((w1.drew).alloc o).cell? ⟨r, 2, none⟩ = some (.slice A2 s.users.length c2) := fun o => (World.cell?_alloc_lt _ _ _ hrl1).trans k2
    have hA0' : ∀ o, ((w1.drew).alloc o).cell? ⟨g, 0, none⟩ = some (.string x0) := fun o => (World.cell?_alloc_lt _ _ _ hgl1).trans kx0
    go_region_law ((refine Kd.R_append_step kU (w0 := w1) (W := w1.drew) 0 (by simp [Region.wanted]) (.tmp 47) (.tmp 53) 25 56 (.agg #[.string ⟨#[]⟩, .int .i64 0]) 24 (by rfl) Tryd.underlying25 info_user rfl (by decide) (by decide) _ s.users (x0, idxS s.labels x1) [.string x0, .int .i64 (idxS s.labels x1)] (okN ok w1) (fun _ => False) (by rfl) (by rfl) ⟨_, _, rfl, rfl, rfl⟩ (fun _ h => h.elim) (fun k hk => .inr hk) (Kd.R_mono (Kd.R_drew hU1) (fun _ h => .inl h)) (below_drew (Below.refl _ _)) (by simp) (by omega) ?_; intro v1 w2 hown hB1 hgrow hat; have hc1 := (hgrow.cell_far ⟨r, 2, none⟩ (by simp; omega) HownR).trans (by simpa using k2); have hf1 := (hgrow.frozen_far ⟨r, 2, none⟩ (by simp; omega) HownR).trans (by simpa using kf2); obtain ⟨A1, c1, hv1⟩ := Kd.R_slice hown; rw [List.length_append, List.length_singleton] at hv1; subst hv1))
    all_goals
      go_wp2
      go_ret
      have hap := app_users (nq := 1) Hb1.out (Kd.R_below hL hbw) hU1 (Kd.R_below hP hbw) (Kd.R_below hE hbw) hgrow hown
      exact ⟨ret_int (by rw [He.out]), by rw [He.out]; exact hap.1.mono fun k hk => hk.imp id fun h => Nat.le_trans hbw.size h, (Kp.of_below hbw).trans hap.2⟩
  · have he : userS s x0 x1 = (8, s) := by rw [userS, if_pos (by first | assumption | omega)]
    go_ret
    exact ⟨ret_int (by rw [he]), by rw [he]; exact (hR0.out.alike hbw).1, (hR0.out.alike hbw).2⟩
end Go.Proofs.YtfigaamgcmifeaaDoor
