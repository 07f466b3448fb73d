/- value.Name: may a text be a name? -/
import Derived.Test.YtfigaamgcmifeaaDoorSl
namespace Go.Proofs.YtfigaamgcmifeaaDoor
open Go.RowKit Go.Proofs.YtfigaamgcmifeaaDoorW.PrintWords
set_option linter.unusedVariables false

def okAt (i c : Nat) : Bool := decide ((97 ≤ c ∧ c ≤ 122) ∨ (i ≠ 0 ∧ ((48 ≤ c ∧ c ≤ 57) ∨ c = 95)))
def nameL : Nat → List UInt8 → Bool
  | _, [] => true
  | i, c :: cs => okAt i c.toNat && nameL (i + 1) cs
def nameB (s : ByteArray) : Bool :=
  if s.toList = [110, 111, 116] then false else if s.toList = [115, 97, 121, 115] then false else if 16 < s.size then false else nameL 0 s.data.toList && !s.data.toList.isEmpty

set_option maxRecDepth 10000 in
theorem nameL_at (s : ByteArray) (k : Nat) (h : k < s.size) : nameL k (s.data.toList.drop k) = (okAt k s[k].toNat && nameL (k + 1) (s.data.toList.drop (k + 1))) := by
  rw [List.drop_eq_getElem_cons (by rw [data_length]; exact h)]
  rfl
theorem nameL_no {s : ByteArray} {k : Nat} (h : k < s.size) (ho : okAt k s[k].toNat = false) : nameL k (s.data.toList.drop k) = false := by rw [nameL_at s k h, ho]; rfl
theorem nameL_yes {s : ByteArray} {k : Nat} (h : k < s.size) (ho : okAt k s[k].toNat = true) : nameL k (s.data.toList.drop k) = nameL (k + 1) (s.data.toList.drop (k + 1)) := by rw [nameL_at s k h, ho]; rfl
theorem nameL_end (s : ByteArray) : nameL s.size (s.data.toList.drop s.size) = true := by
  rw [List.drop_of_length_le (by rw [data_length]; exact Nat.le_refl _)]
  rfl

set_option maxRecDepth 100000 in
set_option maxHeartbeats 4000000 in
theorem name_calls (s : ByteArray) (w : World) (hs : s.size ≤ 9223372036854775807) :
    Calls Tryd.prog 48 #[.string s] w fun e w' => e = .returned (.bool (nameB s)) ∧ w = w' := by
  by_cases h1 : s.toList = [110, 111, 116]
  · have He := Lib.hid (show nameB s = false by rw [nameB, if_pos h1])
    go_enter Tryd.func48, Tryd.ntmps48
    go_wp2
    go_ret
    exact ⟨ret_bool He.out.symm, rfl⟩
  by_cases h2 : s.toList = [115, 97, 121, 115]
  · have He := Lib.hid (show nameB s = false by rw [nameB, if_neg h1, if_pos h2])
    go_enter Tryd.func48, Tryd.ntmps48
    go_wp2
    go_ret
    exact ⟨ret_bool He.out.symm, rfl⟩
  by_cases h3 : 16 < s.size
  · have He := Lib.hid (show nameB s = false by rw [nameB, if_neg h1, if_neg h2, if_pos h3])
    have h1' : (s.toList == [110, 111, 116]) = false := by simpa using h1
    have h2' : (s.toList == [115, 97, 121, 115]) = false := by simpa using h2
    clear h1 h2
    go_enter Tryd.func48, Tryd.ntmps48
    go_wp2
    go_ret
    exact ⟨ret_bool He.out.symm, rfl⟩
  have He := Lib.hid (show nameB s = (nameL 0 s.data.toList && !s.data.toList.isEmpty) by rw [nameB, if_neg h1, if_neg h2, if_neg h3])
  have h1' : (s.toList == [110, 111, 116]) = false := by simpa using h1
  have h2' : (s.toList == [115, 97, 121, 115]) = false := by simpa using h2
  clear h1 h2
  have h3' : s.size ≤ 16 := by omega
  clear h3
  go_enter Tryd.func48, Tryd.ntmps48
  go_wp2
  go_loop [3, 4, 5, 19] (fun _ _ _ i => ∃ k : Nat, k ≤ s.size ∧ i = .int .i64 k ∧ Aside0 (nameL 0 s.data.toList = nameL k (s.data.toList.drop k))) (fun _ _ _ i => s.size - (intOf i).toNat)
  case atStart => exact ⟨0, by omega, rfl, ⟨rfl⟩⟩
  case round =>
    obtain ⟨k, hk, rfl, hN⟩ := hrel
    by_cases hlt : k < s.size
    · have hcl : s[k].toNat < 256 := s[k].toNat_lt
      have hcase : (97 ≤ s[k].toNat ∧ s[k].toNat ≤ 122) ∨ (k = 0 ∧ s[k].toNat < 97) ∨ (k = 0 ∧ 122 < s[k].toNat) ∨ (0 < k ∧ 48 ≤ s[k].toNat ∧ s[k].toNat ≤ 57) ∨ (0 < k ∧ s[k].toNat = 95) ∨ (0 < k ∧ s[k].toNat < 48) ∨ (0 < k ∧ 57 < s[k].toNat ∧ s[k].toNat < 97 ∧ s[k].toNat ≠ 95) ∨ (0 < k ∧ 122 < s[k].toNat) := by omega
      rcases hcase with ⟨c1, c2⟩ | ⟨rfl, c1⟩ | ⟨rfl, c1⟩ | ⟨k1, c1, c2⟩ | ⟨k1, c1⟩ | ⟨k1, c1⟩ | ⟨k1, c1, c2, c3⟩ | ⟨k1, c1⟩
      · have Ho := Lib.hid (nameL_yes hlt (by simp [okAt]; omega))
        have d1 : (97 : Int) ≤ (s[k].toNat : Int) := by omega
        have d2 : (s[k].toNat : Int) ≤ 122 := by omega
        go_wp2
        go_round
        case rel => exact ⟨k + 1, by omega, by go_num, ⟨hN.out.trans Ho.out⟩⟩
        case measure => simp [intOf]; omega
      · have Ho := Lib.hid (hN.out.trans (nameL_no hlt (by simp [okAt]; omega)))
        have d1 : (s[0].toNat : Int) < 97 := by omega
        go_wp2
        go_ret
        exact ⟨ret_bool (by rw [He.out, Ho.out]; rfl), rfl⟩
      · have Ho := Lib.hid (hN.out.trans (nameL_no hlt (by simp [okAt]; omega)))
        have d1 : (122 : Int) < (s[0].toNat : Int) := by omega
        have d2 : (97 : Int) ≤ (s[0].toNat : Int) := by omega
        have d5 : decide ((s[0].toNat : Int) ≤ 122) = false := by simp; omega
        go_wp2
        go_ret
        exact ⟨ret_bool (by rw [He.out, Ho.out]; rfl), rfl⟩
      · have Ho := Lib.hid (nameL_yes hlt (by simp [okAt]; omega))
        have d1 : (48 : Int) ≤ (s[k].toNat : Int) := by omega
        have d2 : (s[k].toNat : Int) ≤ 57 := by omega
        have d3 : ((k : Int) == 0) = false := by simp; omega
        go_wp2
        go_round
        case rel => exact ⟨k + 1, by omega, by go_num, ⟨hN.out.trans Ho.out⟩⟩
        case measure => simp [intOf]; omega
      · have Ho := Lib.hid (nameL_yes hlt (by simp [okAt]; omega))
        have d1 : (57 : Int) < (s[k].toNat : Int) := by omega
        have d2 : (s[k].toNat : Int) < 97 := by omega
        have d4 : ((s[k].toNat : Int) != 95) = false := by simp; omega
        have d3 : ((k : Int) == 0) = false := by simp; omega
        clear c1
        go_wp2
        go_round
        case rel => exact ⟨k + 1, by omega, by go_num, ⟨hN.out.trans Ho.out⟩⟩
        case measure => simp [intOf]; omega
      · have Ho := Lib.hid (hN.out.trans (nameL_no hlt (by simp [okAt]; omega)))
        have d1 : (s[k].toNat : Int) < 48 := by omega
        have d3 : ((k : Int) == 0) = false := by simp; omega
        have d4 : ((s[k].toNat : Int) != 95) = true := by simp; omega
        go_wp2
        go_ret
        exact ⟨ret_bool (by rw [He.out, Ho.out]; rfl), rfl⟩
      · have Ho := Lib.hid (hN.out.trans (nameL_no hlt (by simp [okAt]; omega)))
        have d1 : (57 : Int) < (s[k].toNat : Int) := by omega
        have d2 : (s[k].toNat : Int) < 97 := by omega
        have d3 : ((k : Int) == 0) = false := by simp; omega
        have d4 : ((s[k].toNat : Int) != 95) = true := by simp; omega
        go_wp2
        go_ret
        exact ⟨ret_bool (by rw [He.out, Ho.out]; rfl), rfl⟩
      · have Ho := Lib.hid (hN.out.trans (nameL_no hlt (by simp [okAt]; omega)))
        have d1 : (122 : Int) < (s[k].toNat : Int) := by omega
        have d2 : (57 : Int) < (s[k].toNat : Int) := by omega
        have d5 : decide ((s[k].toNat : Int) ≤ 122) = false := by simp; omega
        have d3 : ((k : Int) == 0) = false := by simp; omega
        have d4 : ((s[k].toNat : Int) != 95) = true := by simp; omega
        go_wp2
        go_ret
        exact ⟨ret_bool (by rw [He.out, Ho.out]; rfl), rfl⟩
    · obtain rfl : k = s.size := by omega
      have Hn := Lib.hid (hN.out.trans (nameL_end s))
      go_wp2
      go_ret
      exact ⟨ret_bool (by rw [He.out, Hn.out, ByteArray.toList_eq]; rfl), rfl⟩
end Go.Proofs.YtfigaamgcmifeaaDoor
