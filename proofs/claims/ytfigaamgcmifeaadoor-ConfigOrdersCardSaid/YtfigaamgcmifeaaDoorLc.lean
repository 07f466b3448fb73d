/- A line of an unknown kind, or of too many words. -/
import Derived.Test.YtfigaamgcmifeaaDoorLb
import Derived.Laws.EntriesVeiled
namespace Go.Proofs.YtfigaamgcmifeaaDoor
open Go.RowKit Go.Proofs.YtfigaamgcmifeaaDoorW.PrintWords
set_option linter.unusedVariables false

theorem not_hash {w0 : ByteArray} (hp : 0 < w0.size) (h0 : w0.data.toList.head? ≠ some 35) : ((w0[0].toNat : Int) == 35) = false := by
  have : w0[0].toNat ≠ 35 := fun e => h0 (by
    rw [List.head?_eq_getElem?, List.getElem?_eq_getElem (by rw [data_length]; exact hp), Option.some.injEq]
    exact UInt8.toNat_inj.1 e)
  simp; omega

theorem Kn.ws_pos (k : Kn) : 1 ≤ k.ws.size := by cases k <;> decide
theorem Kn.ws_le (k : Kn) : k.ws.size ≤ 3 := by cases k <;> decide

set_option maxRecDepth 100000 in
set_option maxHeartbeats 2000000 in
theorem line_unknown (r b : Nat) (s : ByteArray) (w : World) (hs : s.size ≤ 4294967296) (w0 : ByteArray) (rest : List ByteArray) (h : wordsB s = w0 :: rest) (hp : 0 < w0.size) (h0 : w0.data.toList.head? ≠ some 35)
    (hk : knOf w0 = none) (hbm : w.heap[b]? = some (.map kindsEs 6)) :
    Calls Tryd.prog 19 #[.pointer (some ⟨r, 0, none⟩), .string s, .map (some b)] w fun e w' => e = .returned (.int .i64 7) ∧ Below w.heap.size w w' := by
  have hf := fields_calls s
  generalize wordsB s = W at *
  subst h
  have Hf := Lib.hid hf
  have Hbm := Lib.hid hbm
  have Hk := Lib.hid hk
  have hbl : b < w.heap.size := (Array.getElem?_eq_some_iff.1 hbm).1
  clear hf hk hbm
  have hc' := not_hash hp h0
  have hl : 0 < (w0 :: rest).length := by simp
  have hl' : (((w0 :: rest).length : Int) == 0) = false := by simp; omega
  clear h0
  generalize hW : (w0 :: rest).length = n at *
  have HW := Lib.hid hW
  clear hW
  go_enter Tryd.func19, Tryd.ntmps19
  go_wp2_with (go_at_call 46; refine (Hf.out _ hs).mono ?_; rintro e w1 ⟨g, rfl, hg, hR, hb⟩; have hc0 := R_cells hR 0 w0 rfl; have hlk := lookup_kind w1 b w0 ((hb.block b hbl).trans Hbm.out); rw [Hk.out] at hlk)
  go_ret
  exact ⟨rfl, hb.alloc hb.size _⟩

set_option maxRecDepth 100000 in
set_option maxHeartbeats 2000000 in
theorem line_count (r b : Nat) (s : ByteArray) (w : World) (hs : s.size ≤ 4294967296) (w0 : ByteArray) (rest : List ByteArray) (h : wordsB s = w0 :: rest) (hp : 0 < w0.size) (h0 : w0.data.toList.head? ≠ some 35)
    (k : Kn) (hk : knOf w0 = some k) (hn : rest.length ≠ k.ws.size) (hbm : w.heap[b]? = some (.map kindsEs 6)) (hlen : rest.length ≤ 4294967296) :
    Calls Tryd.prog 19 #[.pointer (some ⟨r, 0, none⟩), .string s, .map (some b)] w fun e w' => e = .returned (.int .i64 7) ∧ Below w.heap.size w w' := by
  have hf := fields_calls s
  generalize wordsB s = W at *
  subst h
  have Hf := Lib.hid hf
  have Hbm := Lib.hid hbm
  have Hk := Lib.hid hk
  have hbl : b < w.heap.size := (Array.getElem?_eq_some_iff.1 hbm).1
  clear hf hk hbm
  have hc' := not_hash hp h0
  have hl : 0 < (w0 :: rest).length := by simp
  have hl' : (((w0 :: rest).length : Int) == 0) = false := by simp; omega
  have hws := k.ws_le
  have hneq : (((w0 :: rest).length : Int) != 1 + (k.ws.size : Int)) = true := by simp; omega
  have hnl : (w0 :: rest).length ≤ 4294967297 := by simp; omega
  clear h0 hn hlen
  generalize hW : (w0 :: rest).length = n at *
  have HW := Lib.hid hW
  clear hW
  go_enter Tryd.func19, Tryd.ntmps19
  go_wp2_with (go_at_call 46; refine (Hf.out _ hs).mono ?_; rintro e w1 ⟨g, rfl, hg, hR, hb⟩; have hc0 := R_cells hR 0 w0 rfl; have hlk := lookup_kind w1 b w0 ((hb.block b hbl).trans Hbm.out); rw [Hk.out] at hlk; simp only [Kn.cells] at hlk)
  go_ret
  exact ⟨rfl, hb.alloc hb.size _⟩

end Go.Proofs.YtfigaamgcmifeaaDoor
