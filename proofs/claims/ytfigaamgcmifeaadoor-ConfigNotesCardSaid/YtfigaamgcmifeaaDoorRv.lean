/- value.Read: the value whose text it is. -/
import Derived.Test.YtfigaamgcmifeaaDoorNm
import Derived.Test.YtfigaamgcmifeaaDoorShelf
namespace Go.Proofs.YtfigaamgcmifeaaDoor
open Go.RowKit Go.Proofs.YtfigaamgcmifeaaDoorW.PrintWords
set_option linter.unusedVariables false

/-- the text behind a minus, and whether there is one -/
def dropB (s : ByteArray) : ByteArray := ⟨(Lib.trimPrefix s.data.toList [45]).toArray⟩
def negB (s : ByteArray) : Bool := Lib.hasPrefix s.data.toList [45]
def digitB (c : UInt8) : Bool := decide (48 ≤ c.toNat ∧ c.toNat ≤ 57)
def valL (l : List UInt8) : Nat := l.foldl (fun a c => 10 * a + (c.toNat - 48)) 0
/-- what the digits d say -/
def numR (neg : Bool) (d : ByteArray) : ByteArray × Int × Bool :=
  if d.size = 0 ∨ 19 < d.size then (⟨#[]⟩, 0, false)
  else if d.data.toList.head? = some 48 ∧ (neg = true ∨ 1 < d.size) then (⟨#[]⟩, 0, false)
  else if d.data.toList.all digitB = false then (⟨#[]⟩, 0, false)
  else if neg = true then (if valL d.data.toList ≤ 9223372036854775808 then (⟨#[]⟩, -(valL d.data.toList : Int), true) else (⟨#[]⟩, 0, false))
  else if valL d.data.toList < 9223372036854775808 then (⟨#[]⟩, (valL d.data.toList : Int), true) else (⟨#[]⟩, 0, false)
def readR (s : ByteArray) : ByteArray × Int × Bool := if nameB s then (s, 0, true) else numR (negB s) (dropB s)

theorem cutMinus_calls (s : ByteArray) (w : World) :
    Calls Tryd.prog 61 #[.string s, .string ⟨#[45]⟩] w fun e w' => e = .returned (.tuple #[.string (dropB s), .bool (negB s)]) ∧ w = w' :=
  (Tryd.strings_CutPrefix s ⟨#[45]⟩ w).mono fun _ _ ⟨he, hw⟩ => ⟨he, hw.symm⟩

theorem valL_snoc (l : List UInt8) (c : UInt8) : valL (l ++ [c]) = 10 * valL l + (c.toNat - 48) := by simp [valL]
theorem take_snoc (s : ByteArray) (k : Nat) (h : k < s.size) : s.data.toList.take (k + 1) = s.data.toList.take k ++ [s[k]] := by
  rw [List.take_succ_eq_append_getElem (by rw [data_length]; exact h)]; rfl
/-- the first k are digits, of the value u -/
structure Dig (d : ByteArray) (k u : Nat) : Prop where
  all : (d.data.toList.take k).all digitB = true
  val : u = valL (d.data.toList.take k)
  lt : u < 10 ^ k
theorem Dig.zero (d : ByteArray) : Dig d 0 0 := ⟨by simp, by simp [valL], by simp⟩
theorem Dig.succ {d : ByteArray} {k u : Nat} (h : Dig d k u) (hk : k < d.size) (h1 : 48 ≤ d[k].toNat) (h2 : d[k].toNat ≤ 57) : Dig d (k + 1) (10 * u + (d[k].toNat - 48)) := by
  refine ⟨?_, ?_, ?_⟩
  · rw [take_snoc d k hk, List.all_append, h.all]
    simp [digitB, h1, h2]
  · rw [take_snoc d k hk, valL_snoc, ← h.val]
  · have := h.lt
    rw [Nat.pow_succ]
    omega
theorem Dig.bad {d : ByteArray} {k : Nat} (hk : k < d.size) (h1 : d[k].toNat < 48 ∨ 57 < d[k].toNat) : d.data.toList.all digitB = false := by
  rw [List.all_eq_false]
  refine ⟨d[k], ?_, by simp [digitB]; omega⟩
  exact List.getElem_mem (l := d.data.toList) (by rw [data_length]; exact hk)
theorem Dig.bound {d : ByteArray} {k u : Nat} (h : Dig d k u) (hk : k ≤ 18) : u < 1000000000000000000 :=
  Nat.lt_of_lt_of_le h.lt (Nat.le_trans (Nat.pow_le_pow_right (by decide) hk) (by decide))
theorem Dig.bound' {d : ByteArray} {k u : Nat} (h : Dig d k u) (hk : k ≤ 19) : u < 10000000000000000000 :=
  Nat.lt_of_lt_of_le h.lt (Nat.le_trans (Nat.pow_le_pow_right (by decide) hk) (by decide))
def DigI (d : ByteArray) (k : Nat) (m : Int) : Prop := ∃ u : Nat, m = u ∧ Dig d k u
theorem DigI.nonneg {d : ByteArray} {k : Nat} {m : Int} (h : DigI d k m) : 0 ≤ m := by obtain ⟨u, rfl, _⟩ := h; omega
theorem DigI.bound {d : ByteArray} {k : Nat} {m : Int} (h : DigI d k m) (hk : k ≤ 18) : m < 1000000000000000000 := by obtain ⟨u, rfl, h⟩ := h; have := h.bound hk; omega
theorem DigI.bound' {d : ByteArray} {k : Nat} {m : Int} (h : DigI d k m) (hk : k ≤ 19) : m < 10000000000000000000 := by obtain ⟨u, rfl, h⟩ := h; have := h.bound' hk; omega
theorem DigI.succ {d : ByteArray} {k : Nat} {m : Int} (h : DigI d k m) (hk : k < d.size) (h1 : 48 ≤ d[k].toNat) (h2 : d[k].toNat ≤ 57) : DigI d (k + 1) (10 * m + ((d[k].toNat : Int) - 48)) := by
  obtain ⟨u, rfl, h⟩ := h
  exact ⟨_, by omega, h.succ hk h1 h2⟩
theorem Dig.done {d : ByteArray} {u : Nat} (h : Dig d d.size u) : d.data.toList.all digitB = true ∧ u = valL d.data.toList := by
  have h1 := h.all
  have h2 := h.val
  rw [List.take_of_length_le (by rw [data_length]; exact Nat.le_refl _)] at h1 h2
  exact ⟨h1, h2⟩

theorem DigI.done {d : ByteArray} {m : Int} (h : DigI d d.size m) : d.data.toList.all digitB = true ∧ m = (valL d.data.toList : Int) := by
  obtain ⟨u, rfl, h⟩ := h
  exact ⟨h.done.1, by rw [h.done.2]⟩

theorem neg_wrap {m : Int} (h0 : 0 ≤ m) (h1 : m ≤ 9223372036854775808) : wrap64 (IntKind.u64.wrap (-m)) = -m := by
  have e : IntKind.u64.wrap (-m) = (-m) % 18446744073709551616 := rfl
  rw [e]
  unfold wrap64
  omega

set_option maxRecDepth 100000 in
set_option maxHeartbeats 4000000 in
theorem read_calls (s : ByteArray) (w : World) (hs : s.size ≤ 9223372036854775807) :
    Calls Tryd.prog 49 #[.string s] w fun e w' => e = .returned (.tuple #[.agg #[.string (readR s).1, .int .i64 (readR s).2.1], .bool (readR s).2.2]) ∧ Below w.heap.size w w' := by
  by_cases hn : nameB s = true
  · have He := Lib.hid (show readR s = (s, 0, true) by rw [readR, if_pos hn])
    go_enter Tryd.func49, Tryd.ntmps49
    go_wp2_with (go_at_call 48; refine (name_calls _ _ hs).mono ?_; rintro e w' ⟨rfl, rfl⟩)
    exact bodyPost_ret (v := .tuple #[.agg #[.string s, .int .i64 0], .bool true]) (by simp [results, Tryd.results49, go_sem]) rfl ⟨by rw [He.out], (Below.refl _ _).alloc (Nat.le_refl _) _⟩
  have hn' : nameB s = false := by simpa using hn
  have He := Lib.hid (show readR s = numR (negB s) (dropB s) by rw [readR, if_neg hn])
  have hcut := cutMinus_calls s
  generalize dropB s = d at *
  generalize negB s = neg at *
  have Hcut := Lib.hid hcut
  clear hcut hn
  by_cases h0 : d.size = 0
  · have Hf := Lib.hid (show numR neg d = (⟨#[]⟩, 0, false) by rw [numR, if_pos (.inl h0)])
    have he : d.toList = [] := by rw [ByteArray.toList_eq]; exact List.eq_nil_of_length_eq_zero (by rw [data_length]; exact h0)
    clear h0
    go_enter Tryd.func49, Tryd.ntmps49
    go_wp2_with (first | (go_at_call 48; refine (name_calls _ _ hs).mono ?_; rintro e w' ⟨rfl, rfl⟩) | (go_at_call 61; refine (Hcut.out _).mono ?_; rintro e w' ⟨rfl, rfl⟩))
    exact bodyPost_ret (v := .tuple #[.agg #[.string ⟨#[]⟩, .int .i64 0], .bool false]) (by simp [results, Tryd.results49, go_sem]) rfl ⟨by rw [He.out, Hf.out], (Below.refl _ _).alloc (Nat.le_refl _) _⟩
  have he : d.toList.isEmpty = false := by rw [ByteArray.toList_eq, List.isEmpty_eq_false_iff]; intro h; exact h0 (by rw [← data_length, h]; rfl)
  by_cases h1 : 19 < d.size
  · have Hf := Lib.hid (show numR neg d = (⟨#[]⟩, 0, false) by rw [numR, if_pos (.inr h1)])
    go_enter Tryd.func49, Tryd.ntmps49
    go_wp2_with (first | (go_at_call 48; refine (name_calls _ _ hs).mono ?_; rintro e w' ⟨rfl, rfl⟩) | (go_at_call 61; refine (Hcut.out _).mono ?_; rintro e w' ⟨rfl, rfl⟩))
    exact bodyPost_ret (v := .tuple #[.agg #[.string ⟨#[]⟩, .int .i64 0], .bool false]) (by simp [results, Tryd.results49, go_sem]) rfl ⟨by rw [He.out, Hf.out], (Below.refl _ _).alloc (Nat.le_refl _) _⟩
  have hp : 0 < d.size := by omega
  have hhead : d.data.toList.head? = some d[0] := by
    rw [List.head?_eq_getElem?, List.getElem?_eq_getElem (by rw [data_length]; exact hp)]; rfl
  have h48 : d.data.toList.head? = some 48 ↔ d[0].toNat = 48 := by
    rw [hhead, Option.some.injEq, ← UInt8.toNat_inj]; rfl
  by_cases h2 : d[0].toNat = 48 ∧ (neg = true ∨ 1 < d.size)
  · have Hf := Lib.hid (show numR neg d = (⟨#[]⟩, 0, false) by rw [numR, if_neg (by omega), if_pos (by rw [h48]; exact h2)])
    have hz : ((d[0].toNat : Int) == 48) = true := by simp; omega
    have h3 := h2.2
    clear h2 h48 hhead
    cases neg with
    | true =>
      go_enter Tryd.func49, Tryd.ntmps49
      go_wp2_with (first | (go_at_call 48; refine (name_calls _ _ hs).mono ?_; rintro e w' ⟨rfl, rfl⟩) | (go_at_call 61; refine (Hcut.out _).mono ?_; rintro e w' ⟨rfl, rfl⟩))
      exact bodyPost_ret (v := .tuple #[.agg #[.string ⟨#[]⟩, .int .i64 0], .bool false]) (by simp [results, Tryd.results49, go_sem]) rfl ⟨by rw [He.out, Hf.out], (Below.refl _ _).alloc (Nat.le_refl _) _⟩
    | false =>
      have h4 : 1 < d.size := by simpa using h3
      clear h3
      go_enter Tryd.func49, Tryd.ntmps49
      go_wp2_with (first | (go_at_call 48; refine (name_calls _ _ hs).mono ?_; rintro e w' ⟨rfl, rfl⟩) | (go_at_call 61; refine (Hcut.out _).mono ?_; rintro e w' ⟨rfl, rfl⟩))
      exact bodyPost_ret (v := .tuple #[.agg #[.string ⟨#[]⟩, .int .i64 0], .bool false]) (by simp [results, Tryd.results49, go_sem]) rfl ⟨by rw [He.out, Hf.out], (Below.refl _ _).alloc (Nat.le_refl _) _⟩
  have Hd := Lib.hid (show numR neg d = (if d.data.toList.all digitB = false then (⟨#[]⟩, 0, false) else if neg = true then (if valL d.data.toList ≤ 9223372036854775808 then (⟨#[]⟩, -(valL d.data.toList : Int), true) else (⟨#[]⟩, 0, false))
      else if valL d.data.toList < 9223372036854775808 then (⟨#[]⟩, (valL d.data.toList : Int), true) else (⟨#[]⟩, 0, false)) by rw [numR, if_neg (by omega), if_neg (by rw [h48]; exact h2)])
  have hcase : ((d[0].toNat : Int) == 48) = false ∨ (((d[0].toNat : Int) == 48) = true ∧ neg = false ∧ d.size ≤ 1) := by
    by_cases hz : d[0].toNat = 48
    · right
      refine ⟨by simp; omega, ?_, ?_⟩
      · cases neg with
        | true => exact absurd ⟨hz, .inl rfl⟩ h2
        | false => rfl
      · have : ¬ 1 < d.size := fun h => h2 ⟨hz, .inr h⟩
        omega
    · left; simp; omega
  clear h2 h48 hhead
  have h19 : d.size ≤ 19 := by omega
  have h19' : (d.size : Int) ≤ 19 := by omega
  rcases hcase with hz | ⟨hz, rfl, h5⟩
  all_goals
    go_enter Tryd.func49, Tryd.ntmps49
    go_wp2_with (first | (go_at_call 48; refine (name_calls _ _ hs).mono ?_; rintro e w' ⟨rfl, rfl⟩) | (go_at_call 61; refine (Hcut.out _).mono ?_; rintro e w' ⟨rfl, rfl⟩))
    go_loop [6, 7, 40] (fun u _ i => ∃ (k : Nat) (m : Int), k ≤ d.size ∧ i = .int .i64 k ∧ u = .int .u64 m ∧ Aside0 (DigI d k m)) (fun _ _ i => d.size - (intOf i).toNat)
    case atStart => exact ⟨0, 0, by omega, rfl, rfl, ⟨0, rfl, Dig.zero d⟩⟩
    case round =>
      obtain ⟨k, m, hk, rfl, rfl, hD⟩ := hrel
      by_cases hlt : k < d.size
      · have hcl : d[k].toNat < 256 := d[k].toNat_lt
        have hm0 := hD.out.nonneg
        have hm' := hD.out.bound (by omega)
        by_cases hc1 : d[k].toNat < 48
        · have Hb := Lib.hid (Dig.bad hlt (.inl hc1))
          have d1 : (d[k].toNat : Int) < 48 := by omega
          go_wp2
          exact bodyPost_ret (v := .tuple #[.agg #[.string ⟨#[]⟩, .int .i64 0], .bool false]) (by simp [results, Tryd.results49, go_sem]) rfl ⟨by rw [He.out, Hd.out, if_pos Hb.out], (Below.refl _ _).alloc (Nat.le_refl _) _⟩
        · by_cases hc2 : 57 < d[k].toNat
          · have Hb := Lib.hid (Dig.bad hlt (.inr hc2))
            have d1 : (57 : Int) < (d[k].toNat : Int) := by omega
            have d2 : (48 : Int) ≤ (d[k].toNat : Int) := by omega
            go_wp2
            exact bodyPost_ret (v := .tuple #[.agg #[.string ⟨#[]⟩, .int .i64 0], .bool false]) (by simp [results, Tryd.results49, go_sem]) rfl ⟨by rw [He.out, Hd.out, if_pos Hb.out], (Below.refl _ _).alloc (Nat.le_refl _) _⟩
          · have Hs := Lib.hid (hD.out.succ hlt (by omega) (by omega))
            have d1 : (d[k].toNat : Int) ≤ 57 := by omega
            have d2 : (48 : Int) ≤ (d[k].toNat : Int) := by omega
            go_wp2
            go_round
            case rel => exact ⟨k + 1, 10 * m + ((d[k].toNat : Int) - 48), by omega, by go_num, by go_num, ⟨Hs.out⟩⟩
            case measure => simp [intOf]; omega
      · obtain rfl : k = d.size := by omega
        have hm0 := hD.out.nonneg
        have hm' := hD.out.bound' h19
        have Hx := Lib.hid hD.out.done
        go_wp2
        all_goals first
          | (have hx : neg = true := by assumption
             have hy : m ≤ 9223372036854775808 := by assumption
             have Hw := Lib.hid (neg_wrap hm0 hy)
             exact bodyPost_ret (v := .tuple #[.agg #[.string ⟨#[]⟩, .int .i64 (wrap64 (IntKind.u64.wrap (-m)))], .bool true]) (by simp [results, Tryd.results49, go_sem]) rfl ⟨by rw [He.out, Hd.out, if_neg (by rw [Hx.out.1]; decide), if_pos hx, if_pos (by have := Hx.out.2; omega), Hw.out, Hx.out.2], (Below.refl _ _).alloc (Nat.le_refl _) _⟩)
          | (have hx : neg = true := by assumption
             have hy : 9223372036854775808 < m := by assumption
             exact bodyPost_ret (v := .tuple #[.agg #[.string ⟨#[]⟩, .int .i64 0], .bool false]) (by simp [results, Tryd.results49, go_sem]) rfl ⟨by rw [He.out, Hd.out, if_neg (by rw [Hx.out.1]; decide), if_pos hx, if_neg (by have := Hx.out.2; omega)], (Below.refl _ _).alloc (Nat.le_refl _) _⟩)
          | (have hy : m < 9223372036854775808 := by assumption
             exact bodyPost_ret (v := .tuple #[.agg #[.string ⟨#[]⟩, .int .i64 m], .bool true]) (by simp [results, Tryd.results49, go_sem]) rfl ⟨by rw [He.out, Hd.out, if_neg (by rw [Hx.out.1]; decide), if_neg (by first | assumption | decide), if_pos (by have := Hx.out.2; omega), Hx.out.2], (Below.refl _ _).alloc (Nat.le_refl _) _⟩)
          | (have hy : 9223372036854775808 ≤ m := by assumption
             exact bodyPost_ret (v := .tuple #[.agg #[.string ⟨#[]⟩, .int .i64 0], .bool false]) (by simp [results, Tryd.results49, go_sem]) rfl ⟨by rw [He.out, Hd.out, if_neg (by rw [Hx.out.1]; decide), if_neg (by first | assumption | decide), if_neg (by have := Hx.out.2; omega)], (Below.refl _ _).alloc (Nat.le_refl _) _⟩)
end Go.Proofs.YtfigaamgcmifeaaDoor
