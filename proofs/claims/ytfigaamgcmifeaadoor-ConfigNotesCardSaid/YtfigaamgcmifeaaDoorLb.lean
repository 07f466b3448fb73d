/- A line's words; the short ways through 'line'. -/
import Derived.Test.YtfigaamgcmifeaaDoorLa
namespace Go.Proofs.YtfigaamgcmifeaaDoor
open Go.RowKit Go.Proofs.YtfigaamgcmifeaaDoorW.PrintWords
set_option linter.unusedVariables false

theorem blank_calls (x : Int) (w : World) :
    Calls Tryd.prog 47 #[.int .i32 x] w fun e w' => e = .returned (.bool (x == 32 || x == 9)) ∧ w = w' := by
  by_cases h : x = 32
  · have h1 : (x == 32) = true := by simp [h]
    clear h
    go_enter Tryd.func47, Tryd.ntmps47
    go_wp2
    go_ret
    exact ⟨ret_bool (by first | rfl | simp [h1]), rfl⟩
  · have h1 : (x == 32) = false := by simp [h]
    clear h
    go_enter Tryd.func47, Tryd.ntmps47
    go_wp2
    go_ret
    exact ⟨ret_bool (by first | rfl | simp [h1]), rfl⟩

theorem fields_calls (s : ByteArray) (w : World) (hs : s.size ≤ 4294967296) :
    Calls Tryd.prog 46 #[.string s, .func (.func 47) #[] #[]] w fun e w' =>
      ∃ g, e = .returned (.slice (some ⟨g, 0, none⟩) (wordsB s).length (wordsB s).length) ∧ w.heap.size ≤ g ∧
        Kd.R Kd.string 9 w' w.heap.size (fun _ => True) (.slice (some ⟨g, 0, none⟩) (wordsB s).length (wordsB s).length) (wordsB s) ∧ Below w.heap.size w w' := by
  refine (Tryd.strings_FieldsFunc 47 #[] (enters_of Tryd.func47 (by kernel_rfl) rfl) blankR s w hs ?_).mono ?_
  · intro W x hb
    refine (blank_calls x W).mono ?_
    rintro e w' ⟨rfl, rfl⟩
    refine ⟨?_, 0, rfl⟩
    have e1 : ((x : Int) == 32) = (x == 32) := by rw [Bool.eq_iff_iff]; simp; omega
    have e2 : ((x : Int) == 9) = (x == 9) := by rw [Bool.eq_iff_iff]; simp; omega
    rw [e1, e2]
    rfl
  · rintro e w' ⟨g, rfl, hg, hown, hb⟩
    exact ⟨g, rfl, hg, Kd.R_of_own hown (fun _ _ => trivial), hb⟩

set_option maxRecDepth 100000 in
set_option maxHeartbeats 2000000 in
theorem line_blank (r b : Nat) (s : ByteArray) (w : World) (hs : s.size ≤ 4294967296) (h : wordsB s = []) :
    Calls Tryd.prog 19 #[.pointer (some ⟨r, 0, none⟩), .string s, .map (some b)] w fun e w' => e = .returned (.int .i64 0) ∧ Below w.heap.size w w' := by
  have hf := fields_calls s
  generalize wordsB s = W at *
  subst h
  have Hf := Lib.hid hf
  clear hf
  go_enter Tryd.func19, Tryd.ntmps19
  go_wp2_with (go_at_call 46; refine (Hf.out _ hs).mono ?_; rintro e w1 ⟨g, rfl, hg, hR, hb⟩)
  go_ret
  exact ⟨rfl, hb⟩

/-- the cells of the words of a line -/
theorem R_cells {w : World} {base : Nat} {ok : Nat → Prop} {g n c : Nat} {l : List ByteArray} (h : Kd.R Kd.string 9 w base ok (.slice (some ⟨g, 0, none⟩) n c) l) (k : Nat) (x : ByteArray) (hx : l[k]? = some x) : w.cell? ⟨g, k, none⟩ = some (.string x) := by
  obtain ⟨hn, hc, hC⟩ := Kd.R_reads' h
  obtain ⟨hk, hx'⟩ := List.getElem?_eq_some_iff.1 hx
  obtain ⟨b, o, y, e, hy, _, hcell⟩ := C_str hC k hk
  injection e with e
  injection e with e1 e2
  subst e1 e2
  rw [hx] at hy
  injection hy with hy
  subst hy
  simpa using hcell

set_option maxRecDepth 100000 in
set_option maxHeartbeats 2000000 in
theorem line_note (r b : Nat) (s : ByteArray) (w : World) (hs : s.size ≤ 4294967296) (w0 : ByteArray) (rest : List ByteArray) (h : wordsB s = w0 :: rest) (h0 : w0.data.toList.head? = some 35) :
    Calls Tryd.prog 19 #[.pointer (some ⟨r, 0, none⟩), .string s, .map (some b)] w fun e w' => e = .returned (.int .i64 0) ∧ Below w.heap.size w w' := by
  have hf := fields_calls s
  generalize wordsB s = W at *
  subst h
  have Hf := Lib.hid hf
  clear hf
  have hp : 0 < w0.size := by
    rw [← data_length]
    cases hh : w0.data.toList with
    | nil => rw [hh] at h0; cases h0
    | cons a l => simp
  have hc : w0[0].toNat = 35 := by
    rw [List.head?_eq_getElem?, List.getElem?_eq_getElem (by rw [data_length]; exact hp), Option.some.injEq] at h0
    exact congrArg UInt8.toNat h0
  have hc' : ((w0[0].toNat : Int) == 35) = true := by simp; omega
  have hl : 0 < (w0 :: rest).length := by simp
  have hl' : (((w0 :: rest).length : Int) == 0) = false := by simp; omega
  clear hc h0
  generalize hW : (w0 :: rest).length = n at *
  have HW := Lib.hid hW
  clear hW
  go_enter Tryd.func19, Tryd.ntmps19
  go_wp2_with (go_at_call 46; refine (Hf.out _ hs).mono ?_; rintro e w1 ⟨g, rfl, hg, hR, hb⟩; have hc0 := R_cells hR 0 w0 rfl)
  go_ret
  exact ⟨rfl, hb⟩

end Go.Proofs.YtfigaamgcmifeaaDoor
