/- The methods of the configuration's reader. -/
import Derived.Test.YtfigaamgcmifeaaDoorSl
import Derived.Deep.RegionLaw
namespace Go.Proofs.YtfigaamgcmifeaaDoor
open Go.RowKit Go.Proofs.YtfigaamgcmifeaaDoorW.PrintWords

theorem info_string : (Tryd.prog.info? 9).map (fun i => (i.zero, i.size, i.bytes)) = some (some (.string ⟨#[]⟩), 1, 16) := by kernel_rfl

/-- 'label NAME' -/
def labelS (s : St) (x : ByteArray) : Int × St :=
  if 0 ≤ idxS s.labels x then (8, s) else if s.labels.length = 64 then (3, s) else (0, { s with labels := s.labels ++ [x] })

/-- all that is new, and what was owned -/
abbrev okN (ok : Nat → Prop) (w : World) : Nat → Prop := fun k => ok k ∨ w.heap.size ≤ k

-- printed by gen_app.py
theorem app_labels {w w1 : World} {r nq : Nat} {ok : Nat → Prop} {s : St} {x : ByteArray} {vL vU vP vE v1 : Value}
    (hb : w.heap[r]? = some (.cells #[vL, .slice none 0 0, vU, vP, .int .i64 s.bound, .complex .f64 s.re s.im, vE, .bool s.bnd, .bool s.psd] 47 (0, 0)))
    (hL : Kd.R Kd.string 9 w 0 ok vL s.labels) (hU : Kd.R kU 56 w 0 ok vU s.users) (hP : Kd.R kP 58 w 0 ok vP s.preds) (hE : Kd.R kE 78 w 0 ok vE s.pairs)
    (hgrow : (w.drewN nq).grownBy w1 vL.ownBlock) (hown : Kd.R Kd.string 9 w1 0 (okN ok w) v1 (s.labels ++ [x])) :
    Rdr (w1.setCell ⟨r, 0, none⟩ v1) r (okN ok w) { s with labels := s.labels ++ [x] } ∧ Kp w (w1.setCell ⟨r, 0, none⟩ v1) r ok := by
  have hrl : r < w.heap.size := (Array.getElem?_eq_some_iff.1 hb).1
  have hb1 : w1.heap[r]? = _ := (hgrow.block r hrl (Kd.R_ne hL hb (by decide))).trans hb
  refine ⟨⟨v1, vU, vP, vE, blk_set hb1 0 _, Kd.R_set hown hb1 (by decide) 0 _, Kd.R_set (Kd.R_mono (Kd.R_over (Kd.R_drewN hU nq) (Kd.R_drewN hL nq) (by decide) hgrow) fun _ h => .inl h) hb1 (by decide) 0 _, Kd.R_set (Kd.R_mono (Kd.R_over (Kd.R_drewN hP nq) (Kd.R_drewN hL nq) (by decide) hgrow) fun _ h => .inl h) hb1 (by decide) 0 _, Kd.R_set (Kd.R_mono (Kd.R_over (Kd.R_drewN hE nq) (Kd.R_drewN hL nq) (by decide) hgrow) fun _ h => .inl h) hb1 (by decide) 0 _⟩, ?_⟩
  have hB : Below 0 w w1 := ⟨hgrow.os, hgrow.tape, hgrow.output, hgrow.size, fun i hi => absurd hi (by omega)⟩
  exact ⟨hB.setCell (p := ⟨r, 0, none⟩) (Nat.zero_le _) _, fun k hk ho hr => (Below.heap_setCell w1 ⟨r, 0, none⟩ _ k hr).trans (hgrow.block k hk (own_ok hL ho))⟩

theorem app_users {w w1 : World} {r nq : Nat} {ok : Nat → Prop} {s : St} {x : ByteArray × Int} {vL vU vP vE v1 : Value}
    (hb : w.heap[r]? = some (.cells #[vL, .slice none 0 0, vU, vP, .int .i64 s.bound, .complex .f64 s.re s.im, vE, .bool s.bnd, .bool s.psd] 47 (0, 0)))
    (hL : Kd.R Kd.string 9 w 0 ok vL s.labels) (hU : Kd.R kU 56 w 0 ok vU s.users) (hP : Kd.R kP 58 w 0 ok vP s.preds) (hE : Kd.R kE 78 w 0 ok vE s.pairs)
    (hgrow : (w.drewN nq).grownBy w1 vU.ownBlock) (hown : Kd.R kU 56 w1 0 (okN ok w) v1 (s.users ++ [x])) :
    Rdr (w1.setCell ⟨r, 2, none⟩ v1) r (okN ok w) { s with users := s.users ++ [x] } ∧ Kp w (w1.setCell ⟨r, 2, none⟩ v1) r ok := by
  have hrl : r < w.heap.size := (Array.getElem?_eq_some_iff.1 hb).1
  have hb1 : w1.heap[r]? = _ := (hgrow.block r hrl (Kd.R_ne hU hb (by decide))).trans hb
  refine ⟨⟨vL, v1, vP, vE, blk_set hb1 2 _, Kd.R_set (Kd.R_mono (Kd.R_over (Kd.R_drewN hL nq) (Kd.R_drewN hU nq) (by decide) hgrow) fun _ h => .inl h) hb1 (by decide) 2 _, Kd.R_set hown hb1 (by decide) 2 _, Kd.R_set (Kd.R_mono (Kd.R_over (Kd.R_drewN hP nq) (Kd.R_drewN hU nq) (by decide) hgrow) fun _ h => .inl h) hb1 (by decide) 2 _, Kd.R_set (Kd.R_mono (Kd.R_over (Kd.R_drewN hE nq) (Kd.R_drewN hU nq) (by decide) hgrow) fun _ h => .inl h) hb1 (by decide) 2 _⟩, ?_⟩
  have hB : Below 0 w w1 := ⟨hgrow.os, hgrow.tape, hgrow.output, hgrow.size, fun i hi => absurd hi (by omega)⟩
  exact ⟨hB.setCell (p := ⟨r, 2, none⟩) (Nat.zero_le _) _, fun k hk ho hr => (Below.heap_setCell w1 ⟨r, 2, none⟩ _ k hr).trans (hgrow.block k hk (own_ok hU ho))⟩

theorem app_preds {w w1 : World} {r nq : Nat} {ok : Nat → Prop} {s : St} {x : ByteArray × (Int × Int)} {vL vU vP vE v1 : Value}
    (hb : w.heap[r]? = some (.cells #[vL, .slice none 0 0, vU, vP, .int .i64 s.bound, .complex .f64 s.re s.im, vE, .bool s.bnd, .bool s.psd] 47 (0, 0)))
    (hL : Kd.R Kd.string 9 w 0 ok vL s.labels) (hU : Kd.R kU 56 w 0 ok vU s.users) (hP : Kd.R kP 58 w 0 ok vP s.preds) (hE : Kd.R kE 78 w 0 ok vE s.pairs)
    (hgrow : (w.drewN nq).grownBy w1 vP.ownBlock) (hown : Kd.R kP 58 w1 0 (okN ok w) v1 (s.preds ++ [x])) :
    Rdr (w1.setCell ⟨r, 3, none⟩ v1) r (okN ok w) { s with preds := s.preds ++ [x] } ∧ Kp w (w1.setCell ⟨r, 3, none⟩ v1) r ok := by
  have hrl : r < w.heap.size := (Array.getElem?_eq_some_iff.1 hb).1
  have hb1 : w1.heap[r]? = _ := (hgrow.block r hrl (Kd.R_ne hP hb (by decide))).trans hb
  refine ⟨⟨vL, vU, v1, vE, blk_set hb1 3 _, Kd.R_set (Kd.R_mono (Kd.R_over (Kd.R_drewN hL nq) (Kd.R_drewN hP nq) (by decide) hgrow) fun _ h => .inl h) hb1 (by decide) 3 _, Kd.R_set (Kd.R_mono (Kd.R_over (Kd.R_drewN hU nq) (Kd.R_drewN hP nq) (by decide) hgrow) fun _ h => .inl h) hb1 (by decide) 3 _, Kd.R_set hown hb1 (by decide) 3 _, Kd.R_set (Kd.R_mono (Kd.R_over (Kd.R_drewN hE nq) (Kd.R_drewN hP nq) (by decide) hgrow) fun _ h => .inl h) hb1 (by decide) 3 _⟩, ?_⟩
  have hB : Below 0 w w1 := ⟨hgrow.os, hgrow.tape, hgrow.output, hgrow.size, fun i hi => absurd hi (by omega)⟩
  exact ⟨hB.setCell (p := ⟨r, 3, none⟩) (Nat.zero_le _) _, fun k hk ho hr => (Below.heap_setCell w1 ⟨r, 3, none⟩ _ k hr).trans (hgrow.block k hk (own_ok hP ho))⟩

theorem app_pairs {w w1 : World} {r nq : Nat} {ok : Nat → Prop} {s : St} {x : Int × Int} {vL vU vP vE v1 : Value}
    (hb : w.heap[r]? = some (.cells #[vL, .slice none 0 0, vU, vP, .int .i64 s.bound, .complex .f64 s.re s.im, vE, .bool s.bnd, .bool s.psd] 47 (0, 0)))
    (hL : Kd.R Kd.string 9 w 0 ok vL s.labels) (hU : Kd.R kU 56 w 0 ok vU s.users) (hP : Kd.R kP 58 w 0 ok vP s.preds) (hE : Kd.R kE 78 w 0 ok vE s.pairs)
    (hgrow : (w.drewN nq).grownBy w1 vE.ownBlock) (hown : Kd.R kE 78 w1 0 (okN ok w) v1 (s.pairs ++ [x])) :
    Rdr (w1.setCell ⟨r, 6, none⟩ v1) r (okN ok w) { s with pairs := s.pairs ++ [x] } ∧ Kp w (w1.setCell ⟨r, 6, none⟩ v1) r ok := by
  have hrl : r < w.heap.size := (Array.getElem?_eq_some_iff.1 hb).1
  have hb1 : w1.heap[r]? = _ := (hgrow.block r hrl (Kd.R_ne hE hb (by decide))).trans hb
  refine ⟨⟨vL, vU, vP, v1, blk_set hb1 6 _, Kd.R_set (Kd.R_mono (Kd.R_over (Kd.R_drewN hL nq) (Kd.R_drewN hE nq) (by decide) hgrow) fun _ h => .inl h) hb1 (by decide) 6 _, Kd.R_set (Kd.R_mono (Kd.R_over (Kd.R_drewN hU nq) (Kd.R_drewN hE nq) (by decide) hgrow) fun _ h => .inl h) hb1 (by decide) 6 _, Kd.R_set (Kd.R_mono (Kd.R_over (Kd.R_drewN hP nq) (Kd.R_drewN hE nq) (by decide) hgrow) fun _ h => .inl h) hb1 (by decide) 6 _, Kd.R_set hown hb1 (by decide) 6 _⟩, ?_⟩
  have hB : Below 0 w w1 := ⟨hgrow.os, hgrow.tape, hgrow.output, hgrow.size, fun i hi => absurd hi (by omega)⟩
  exact ⟨hB.setCell (p := ⟨r, 6, none⟩) (Nat.zero_le _) _, fun k hk ho hr => (Below.heap_setCell w1 ⟨r, 6, none⟩ _ k hr).trans (hgrow.block k hk (own_ok hE ho))⟩

set_option maxRecDepth 100000 in
set_option maxHeartbeats 2000000 in
theorem label_calls (r g n c : Nat) (ok : Nat → Prop) (s : St) (x : ByteArray) (V : Value) (w : World) (hR : Rdr w r ok s) (hl : s.labels.length ≤ 64) (hn : 1 ≤ n) (hx : w.cell? ⟨g, 0, none⟩ = some (.string x)) (hgo : ¬ ok g) (hgr : g ≠ r) :
    Calls Tryd.prog 39 #[.pointer (some ⟨r, 0, none⟩), .slice (some ⟨g, 0, none⟩) n c, V] w fun e w' =>
      e = .returned (.int .i64 (labelS s x).1) ∧ Rdr w' r (okN ok w) (labelS s x).2 ∧ Kp w w' r ok := by
  have hR0 := Lib.hid hR
  obtain ⟨vL, vU, vP, vE, hb, hL, hU, hP, hE⟩ := hR
  obtain ⟨A, c0, rfl, hc0, hC⟩ := Kd.R_reads hL
  have h0 : w.cell? ⟨r, 0, none⟩ = some (.slice A s.labels.length c0) := by simp [World.cell?, hb]
  have hn0 : 0 < n := hn
  have hn1 : (0 : Int) < (n : Int) := by omega
  have Hb := Lib.hid hb
  clear hb
  by_cases hi : 0 ≤ idxS s.labels x
  · have He := Lib.hid (show labelS s x = (8, s) by rw [labelS, if_pos hi])
    go_enter Tryd.func39, Tryd.ntmps39
    go_wp2
    go_quiet ((go_at_call 52; exact contains_q hC (by omega) _))
    go_wp2
    go_ret
    exact ⟨ret_int (by rw [He.out]), by rw [He.out]; exact (hR0.out.drewN _).mono fun _ h => .inl h, Kp.drewN _ _ _ _⟩
  · have hi' : decide (0 ≤ idxS s.labels x) = false := by simpa using hi
    by_cases h64 : s.labels.length = 64
    · have h64' : ((s.labels.length : Int) == 64) = true := by simp [h64]
      have He := Lib.hid (show labelS s x = (3, s) by rw [labelS, if_neg hi, if_pos h64])
      clear h64
      go_enter Tryd.func39, Tryd.ntmps39
      go_wp2
      go_quiet ((go_at_call 52; exact contains_q hC (by omega) _))
      go_wp2
      go_ret
      exact ⟨ret_int (by rw [He.out]), by rw [He.out]; exact (hR0.out.drewN _).mono fun _ h => .inl h, Kp.drewN _ _ _ _⟩
    · have h64' : ((s.labels.length : Int) == 64) = false := by simp; omega
      have He := Lib.hid (show labelS s x = (0, { s with labels := s.labels ++ [x] }) by rw [labelS, if_neg hi, if_neg h64])
      go_enter Tryd.func39, Tryd.ntmps39
      go_wp2
      go_quiet ((go_at_call 52; exact contains_q hC (by omega) _))
      go_wp2
      have hrl : r < w.heap.size := World.block_lt_of_cell? w _ h0
      have hgl : g < w.heap.size := World.block_lt_of_cell? w _ hx
      have hA0 : ∀ k o, ((w.drewN k).alloc o).cell? ⟨r, 0, none⟩ = some (.slice A s.labels.length c0) := fun k o => (World.cell?_alloc_lt _ _ _ hrl).trans h0
      have hA1 : ∀ k o, ((w.drewN k).alloc o).cell? ⟨g, 0, none⟩ = some (.string x) := fun k o => (World.cell?_alloc_lt _ _ _ hgl).trans hx
      have hf0 : w.frozen? ⟨r, 0, none⟩ = false := blk_frozen Hb.out 0
      have Hown := own_ok hL hgo
      have HownR : some r ≠ (Value.slice A s.labels.length c0).ownBlock := Kd.R_ne hL Hb.out (by decide)
      go_region_law ((refine Kd.R_append_step Kd.string (w0 := w) 0 (by simp [Region.wanted]) (.tmp 28) (.tmp 32) 23 9 (.string ⟨#[]⟩) 16 (by rfl) Tryd.underlying23 info_string rfl (by decide) (by decide) _ s.labels x [.string x] (okN ok w) (fun _ => False) (by rfl) (by rfl) rfl (fun _ h => h.elim) (fun k hk => .inr hk) (Kd.R_mono (Kd.R_drewN hL _) (fun _ h => .inl h)) (pw_below_drewN (Below.refl _ _) _) (by simp) (by omega) ?_; intro v1 w1 hown hB1 hgrow hat; have hc1 := (hgrow.cell_far ⟨r, 0, none⟩ (by simp; omega) HownR).trans (by simpa using h0); have hf1 := (hgrow.frozen_far ⟨r, 0, none⟩ (by simp; omega) HownR).trans (by simpa using hf0); obtain ⟨A1, c1, hv1⟩ := Kd.R_slice hown; rw [List.length_append, List.length_singleton] at hv1; subst hv1))
      all_goals
        go_wp2
        go_ret
        refine ⟨ret_int (by rw [He.out]), ?_, ?_⟩
        · rw [He.out]
          exact (app_labels Hb.out hL hU hP hE hgrow hown).1
        · exact (app_labels Hb.out hL hU hP hE hgrow hown).2
end Go.Proofs.YtfigaamgcmifeaaDoor
