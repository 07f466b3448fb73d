/- slices.Index and slices.Contains of texts. -/
import Derived.Test.YtfigaamgcmifeaaDoorBa
namespace Go.Proofs.YtfigaamgcmifeaaDoor
open Go.RowKit Go.Proofs.YtfigaamgcmifeaaDoorW.PrintWords

theorem idxS_lo (l : List ByteArray) (x : ByteArray) : -1 ≤ idxS l x := by
  induction l with
  | nil => simp [idxS]
  | cons y ys ih => unfold idxS; split <;> (try split) <;> omega

theorem idxS_hi (l : List ByteArray) (x : ByteArray) : idxS l x < l.length := by
  induction l with
  | nil => simp [idxS]
  | cons y ys ih => unfold idxS; simp only [List.length_cons]; split <;> (try split) <;> omega

/-- none of the first k is x -/
def NotIn (l : List ByteArray) (x : ByteArray) (k : Nat) : Prop := ∀ j y, j < k → l[j]? = some y → y ≠ x

theorem idxS_at {l : List ByteArray} {x : ByteArray} {k : Nat} (h : NotIn l x k) (hk : l[k]? = some x) : idxS l x = k := by
  induction l generalizing k with
  | nil => simp at hk
  | cons y ys ih =>
    unfold idxS
    cases k with
    | zero => simp at hk; simp [hk]
    | succ k =>
      have h0 : y ≠ x := h 0 y (by omega) rfl
      have := ih (k := k) (fun j z hj hz => h (j + 1) z (by omega) (by simpa using hz)) (by simpa using hk)
      rw [if_neg h0, if_neg (by omega), this]
      omega

theorem idxS_none {l : List ByteArray} {x : ByteArray} (h : NotIn l x l.length) : idxS l x = -1 := by
  induction l with
  | nil => rfl
  | cons y ys ih =>
    have h0 : y ≠ x := h 0 y (by simp) rfl
    have := ih (fun j z hj hz => h (j + 1) z (by simp; omega) (by simpa using hz))
    unfold idxS
    rw [if_neg h0, if_pos (by omega)]

theorem C_str {w : World} {A : Option Addr} {n : Nat} {l : List ByteArray} (h : Kd.C Kd.string w A n l) (k : Nat) (hk : k < n) :
    ∃ b o x, A = some ⟨b, o, none⟩ ∧ l[k]? = some x ∧ b < w.heap.size ∧ w.cell? ⟨b, o + k, none⟩ = some (.string x) := by
  obtain ⟨b, o, x, c, e, hx, hK, hb, hc⟩ := C_open h (by decide) k hk
  have hK' : c = [.string x] := hK
  subst hK'
  exact ⟨b, o, x, e, hx, hb, by simpa [Kd.string, Kd.scalar] using hc 0 _ rfl⟩
theorem C_user {w : World} {A : Option Addr} {n : Nat} {l : List (ByteArray × Int)} (h : Kd.C kU w A n l) (k : Nat) (hk : k < n) :
    ∃ b o x m, A = some ⟨b, o, none⟩ ∧ l[k]? = some (x, m) ∧ b < w.heap.size ∧ w.cell? ⟨b, o + k * 2, none⟩ = some (.string x) ∧ w.cell? ⟨b, o + k * 2 + 1, none⟩ = some (.int .i64 m) := by
  obtain ⟨b, o, x, c, e, hx, hK, hb, hc⟩ := C_open h (by decide) k hk
  have hK' : c = [.string x.1] ++ [.int .i64 x.2] := by
    obtain ⟨c0, c1, e, h0, h1⟩ := hK
    rw [e, show c0 = _ from h0, show c1 = _ from h1]
  subst hK'
  exact ⟨b, o, x.1, x.2, e, hx, hb, hc 0 _ rfl, hc 1 _ rfl⟩
theorem C_pair {w : World} {A : Option Addr} {n : Nat} {l : List (Int × Int)} (h : Kd.C kE w A n l) (k : Nat) (hk : k < n) :
    ∃ b o x m, A = some ⟨b, o, none⟩ ∧ l[k]? = some (x, m) ∧ b < w.heap.size ∧ w.cell? ⟨b, o + k * 2, none⟩ = some (.int .i64 x) ∧ w.cell? ⟨b, o + k * 2 + 1, none⟩ = some (.int .i64 m) := by
  obtain ⟨b, o, x, c, e, hx, hK, hb, hc⟩ := C_open h (by decide) k hk
  have hK' : c = [.int .i64 x.1] ++ [.int .i64 x.2] := by
    obtain ⟨c0, c1, e, h0, h1⟩ := hK
    rw [e, show c0 = _ from h0, show c1 = _ from h1]
  subst hK'
  exact ⟨b, o, x.1, x.2, e, hx, hb, hc 0 _ rfl, hc 1 _ rfl⟩
theorem C_pred {w : World} {A : Option Addr} {n : Nat} {l : List (ByteArray × (Int × Int))} (h : Kd.C kP w A n l) (k : Nat) (hk : k < n) :
    ∃ b o x m s, A = some ⟨b, o, none⟩ ∧ l[k]? = some (x, m, s) ∧ b < w.heap.size ∧ w.cell? ⟨b, o + k * 3, none⟩ = some (.string x) ∧ w.cell? ⟨b, o + k * 3 + 1, none⟩ = some (.int .i64 m) ∧ w.cell? ⟨b, o + k * 3 + 2, none⟩ = some (.int .i64 s) := by
  obtain ⟨b, o, x, c, e, hx, hK, hb, hc⟩ := C_open h (by decide) k hk
  have hK' : c = [.string x.1] ++ ([.int .i64 x.2.1] ++ [.int .i64 x.2.2]) := by
    obtain ⟨c0, c1, e, h0, c2, c3, e', h2, h3⟩ := hK
    rw [e, show c0 = _ from h0, e', show c2 = _ from h2, show c3 = _ from h3]
  subst hK'
  exact ⟨b, o, x.1, x.2.1, x.2.2, e, hx, hb, hc 0 _ rfl, hc 1 _ rfl, hc 2 _ rfl⟩
theorem C_u64 {w : World} {A : Option Addr} {n : Nat} {l : List Int} (h : Kd.C (Kd.int .u64) w A n l) (k : Nat) (hk : k < n) :
    ∃ b o x, A = some ⟨b, o, none⟩ ∧ l[k]? = some x ∧ b < w.heap.size ∧ w.cell? ⟨b, o + k, none⟩ = some (.int .u64 x) := by
  obtain ⟨b, o, x, c, e, hx, hK, hb, hc⟩ := C_open h (by decide) k hk
  have hK' : c = [.int .u64 x] := hK
  subst hK'
  exact ⟨b, o, x, e, hx, hb, by simpa [Kd.int, Kd.scalar] using hc 0 _ rfl⟩

theorem C_drewN {α : Type} {d : Kd α} {w : World} {A : Option Addr} {n : Nat} {xs : List α} (h : Kd.C d w A n xs) (k : Nat) : Kd.C d (w.drewN k) A n xs := Kd.C_below h (pw_below_drewN (Below.refl _ _) k)
theorem bs_eq {x y : ByteArray} : (x.toList == y.toList) = true ↔ x = y := by
  rw [beq_iff_eq, ByteArray.toList_eq, ByteArray.toList_eq]
  constructor
  · intro h
    cases x with | mk a => cases y with | mk b => exact congrArg ByteArray.mk (Array.toList_inj.1 h)
  · rintro rfl; rfl
theorem bs_ne {x y : ByteArray} : (x.toList == y.toList) = false ↔ x ≠ y := by
  rw [← Bool.not_eq_true, bs_eq]

set_option maxHeartbeats 1000000 in
theorem index_calls (A : Option Addr) (c : Nat) (l : List ByteArray) (x : ByteArray) (w : World) (hC : Kd.C Kd.string w A l.length l) (hb : l.length ≤ 9223372036854775807) :
    Calls Tryd.prog 23 #[.slice A l.length c, .string x] w fun e w' => e = .returned (.int .i64 (idxS l x)) ∧ w = w' := by
  go_enter Tryd.func23, Tryd.ntmps23
  go_wp2
  go_loop [5, 8] (fun _ i => ∃ k : Nat, k ≤ l.length ∧ i = .int .i64 k ∧ Aside0 (NotIn l x k)) (fun _ i => l.length - (intOf i).toNat)
  case atStart => exact ⟨0, by omega, rfl, ⟨fun j y hj => by omega⟩⟩
  case round =>
    obtain ⟨k, hk, rfl, hN⟩ := hrel
    by_cases hlt : k < l.length
    · obtain ⟨bA, oA, y, hA, hy, hbA, hc⟩ := C_str hC k hlt
      subst hA
      have Hy := Lib.hid hy
      clear hy
      go_wp2
      · have h1 : (x.toList == y.toList) = true := by assumption
        go_ret
        exact ⟨ret_int (idxS_at hN.out (by rw [Hy.out, bs_eq.1 h1])).symm, rfl⟩
      · have h1 : (x.toList == y.toList) = false := by assumption
        go_round
        case rel =>
          refine ⟨k + 1, by omega, by go_num, ⟨fun j z hj hz => ?_⟩⟩
          by_cases e : j = k
          · subst e
            rw [Hy.out] at hz
            injection hz with hz
            subst hz
            exact (bs_ne.1 h1).symm
          · exact hN.out j z (by omega) hz
        case measure => simp [intOf]; omega
    · obtain rfl : k = l.length := by omega
      have Hn := Lib.hid (idxS_none hN.out)
      go_wp2
      go_ret
      exact ⟨ret_int Hn.out.symm, rfl⟩

theorem contains_calls (A : Option Addr) (c : Nat) (l : List ByteArray) (x : ByteArray) (w : World) (hC : Kd.C Kd.string w A l.length l) (hb : l.length ≤ 9223372036854775807) :
    Calls Tryd.prog 52 #[.slice A l.length c, .string x] w fun e w' => e = .returned (.bool (decide (0 ≤ idxS l x))) ∧ w = w' := by
  have hlo := idxS_lo l x
  go_enter Tryd.func52, Tryd.ntmps52
  go_wp2_with (go_at_call 23; refine (index_calls _ _ _ _ _ hC hb).mono ?_; rintro e w' ⟨rfl, rfl⟩)
  go_ret
  exact ⟨rfl, rfl⟩
theorem index_q {A : Option Addr} {c : Nat} {l : List ByteArray} {x : ByteArray} {w : World} (hC : Kd.C Kd.string w A l.length l) (hb : l.length ≤ 9223372036854775807) (n : Nat) :
    Calls Tryd.prog 23 #[.slice A l.length c, .string x] (w.drewN n) fun e w' => e = .returned (.int .i64 (idxS l x)) ∧ ∃ m, w' = w.drewN m :=
  (index_calls _ _ _ _ _ (C_drewN hC n) hb).mono fun _ _ ⟨he, hw⟩ => ⟨he, n, hw.symm⟩
theorem contains_q {A : Option Addr} {c : Nat} {l : List ByteArray} {x : ByteArray} {w : World} (hC : Kd.C Kd.string w A l.length l) (hb : l.length ≤ 9223372036854775807) (n : Nat) :
    Calls Tryd.prog 52 #[.slice A l.length c, .string x] (w.drewN n) fun e w' => e = .returned (.bool (decide (0 ≤ idxS l x))) ∧ ∃ m, w' = w.drewN m :=
  (contains_calls _ _ _ _ _ (C_drewN hC n) hb).mono fun _ _ ⟨he, hw⟩ => ⟨he, n, hw.symm⟩
end Go.Proofs.YtfigaamgcmifeaaDoor
