/- The reference's Lines and Words. -/
import Derived.Test.YtfigaamgcmifeaaDoorNt
import Derived.Outline
namespace Go.Proofs.YtfigaamgcmifeaaDoor
open Go.RowKit Go.Lib Go.Proofs.YtfigaamgcmifeaaDoorW.PrintWords
set_option linter.unusedVariables false

theorem drop_at (s : ByteArray) (i : Nat) (h : i < s.size) : s.data.toList.drop i = s[i] :: s.data.toList.drop (i + 1) := by
  rw [List.drop_eq_getElem_cons (by rw [data_length]; exact h)]
  rfl
theorem drop_end (s : ByteArray) : s.data.toList.drop s.size = [] := List.drop_eq_nil_of_le (by rw [data_length]; exact Nat.le_refl _)
theorem piece_step (s : ByteArray) (f i : Nat) (h : i < s.size) (hf : f ≤ i) : pieceU s.data.toList f i ++ [s[i]] = pieceU s.data.toList f (i + 1) := by
  rw [← pieceU_grow s.data.toList f i 1 hf, drop_at s i h]
  rfl
theorem piece_self (l : List UInt8) (f : Nat) : pieceU l f f = [] := by simp [pieceU]
theorem extract_un (s : ByteArray) (f i : Nat) : s.extract f i = unB (pieceU s.data.toList f i) := by
  rw [← unB_data (s.extract f i), extract_data]
  rfl

/-- How far Lines has come. -/
def LinesAt (s : ByteArray) (f i : Nat) (ls : List (List UInt8)) : Prop :=
  (i ≤ s.size ∧ f ≤ i ∧ ls ++ bl (pieceU s.data.toList f i) (s.data.toList.drop i) = bl [] s.data.toList) ∨ (i = s.size + 1 ∧ ls = bl [] s.data.toList)
theorem LinesAt.len {s : ByteArray} {f i : Nat} {ls : List (List UInt8)} (h : LinesAt s f i ls) : ls.length ≤ s.size + 1 := by
  have h1 := bl_length s.data.toList []
  have e1 := data_length s
  rcases h with ⟨_, _, h⟩ | ⟨_, h⟩
  · rw [← h, List.length_append] at h1; omega
  · rw [← h] at h1; omega
theorem LinesAt.start (s : ByteArray) : LinesAt s 0 0 [] := .inl ⟨by omega, by omega, by rw [piece_self]; rfl⟩
theorem LinesAt.cut {s : ByteArray} {f i : Nat} {ls : List (List UInt8)} (h : LinesAt s f i ls) (hi : i < s.size) (h10 : s[i] = 10) : LinesAt s (i + 1) (i + 1) (ls ++ [pieceU s.data.toList f i]) := by
  rcases h with ⟨_, h2, h⟩ | ⟨h, _⟩
  · refine .inl ⟨by omega, by omega, ?_⟩
    rw [← h, drop_at s i hi, bl, if_pos h10, piece_self]
    simp
  · omega
theorem LinesAt.go {s : ByteArray} {f i : Nat} {ls : List (List UInt8)} (h : LinesAt s f i ls) (hi : i < s.size) (h10 : s[i] ≠ 10) : LinesAt s f (i + 1) ls := by
  rcases h with ⟨_, h2, h⟩ | ⟨h, _⟩
  · refine .inl ⟨by omega, by omega, ?_⟩
    rw [← h, drop_at s i hi, bl, if_neg h10, piece_step s f i hi h2]
  · omega
theorem LinesAt.last {s : ByteArray} {f : Nat} {ls : List (List UInt8)} (h : LinesAt s f s.size ls) : LinesAt s (s.size + 1) (s.size + 1) (ls ++ [pieceU s.data.toList f s.size]) := by
  rcases h with ⟨_, h2, h⟩ | ⟨h, _⟩
  · refine .inr ⟨rfl, ?_⟩
    rw [← h, drop_end, bl]
  · omega

set_option maxRecDepth 100000 in
set_option maxHeartbeats 4000000 in
theorem Lines_calls (s : ByteArray) (w : World) (hs : s.size ≤ 65536) :
    Calls Tryd.prog 8 #[.string s] w fun e w' => ∃ v, e = .returned v ∧ Kd.R Kd.string 9 w' w.heap.size (fun _ => True) v ((bl [] s.data.toList).map unB) ∧ Below w.heap.size w w' := by
  go_enter Tryd.func8, Tryd.ntmps8
  go_wp2
  go_loopw [3, 4, 5] (fun a f p wr => ∃ (g i : Nat) (ls : List (List UInt8)), f = .int .i64 (g : Int) ∧ p = .int .i64 (i : Int) ∧ i ≤ s.size + 1 ∧ Aside0 (LinesAt s g i ls) ∧ Below w.heap.size w wr ∧ w.heap.size ≤ wr.heap.size ∧ Kd.R Kd.string 9 wr w.heap.size (fun _ => True) a (ls.map unB))
    (fun _ _ p _ => s.size + 1 - (intOf p).toNat)
  case atStart => exact ⟨0, 0, [], rfl, rfl, by omega, ⟨LinesAt.start s⟩, Below.refl _ _, Nat.le_refl _, Kd.R_nil ..⟩
  case round =>
    obtain ⟨g, i, ls, rfl, rfl, hi, hL, hB, hsz, hR⟩ := hrel
    have hlen := hL.out.len
    have hmap : (ls.map unB).length = ls.length := List.length_map ..
    by_cases hend : i = s.size + 1
    · have hq : ls = bl [] s.data.toList := by
        rcases hL.out with ⟨h, _⟩ | ⟨_, h⟩
        · omega
        · exact h
      subst hend
      have t1 : ((s.size : Int) + 1 ≤ (s.size : Int)) = False := eq_false (by omega)
      go_wp2
      go_ret
      exact ⟨_, rfl, by rw [← hq]; exact hR, hB⟩
    · have hile : i ≤ s.size := by omega
      have hgi : g ≤ i := by
        rcases hL.out with ⟨_, h, _⟩ | ⟨h, _⟩ <;> omega
      have hmu : ((ls ++ [pieceU s.data.toList g i]).map unB) = ls.map unB ++ [s.extract g i] := by
        rw [List.map_append, extract_un]; rfl
      obtain ⟨AN, cN, rfl⟩ := Kd.R_slice hR
      rw [hmap] at hR ⊢
      have hR1 := Kd.R_alloc hR (.cells #[.string (s.extract g i)] 9)
      have hB1 : Below w.heap.size w (wr.alloc (.cells #[.string (s.extract g i)] 9)) := hB.alloc hsz _
      have Hmu := Lib.hid hmu
      clear hmu
      by_cases hlt : i < s.size
      · have t1 : ((i : Int) == (s.size : Int)) = false := by simp; omega
        by_cases h10 : s[i] = 10
        · have Ln := Lib.hid (hL.out.cut hlt h10)
          have t2 : ((s[i].toNat : Int) == 10) = true := by rw [h10]; rfl
          clear h10
          go_wp2_with (at_builtin; (refine Kd.R_append Kd.string (w0 := w) (W := wr) w.heap.size rfl (.tmp 22) (.tmp 27) 23 9 (.string ⟨#[]⟩) 16 rfl Tryd.underlying23 info_string rfl (by decide) (by decide) (.slice AN ls.length cN) (ls.map unB) (s.extract g i) [.string (s.extract g i)] (fun _ => True) (fun _ => False) rfl rfl rfl (fun _ h => h.elim) (fun _ _ => trivial) hR hB hsz (by omega) ?_; intro v1 w3 hown hB3 hgrow hat))
          refine ⟨⟨i + 1, i + 1, ls ++ [pieceU s.data.toList g i], rfl, rfl, by omega, ⟨Ln.out⟩, hB3, Nat.le_trans hsz hgrow.size, by rw [Hmu.out]; exact hown⟩, by simp [intOf]; omega⟩
        · have Ln := Lib.hid (hL.out.go hlt h10)
          have t2 : ((s[i].toNat : Int) == 10) = false := by
            simp
            intro e
            exact h10 (UInt8.toNat_inj.1 (by show s[i].toNat = 10; omega))
          clear h10
          go_wp2
          refine ⟨⟨g, i + 1, ls, rfl, rfl, by omega, ⟨Ln.out⟩, hB, hsz, hR⟩, by simp [intOf]; omega⟩
      · obtain rfl : i = s.size := by omega
        have Ln := Lib.hid hL.out.last
        go_wp2_with (at_builtin; (refine Kd.R_append Kd.string (w0 := w) (W := wr) w.heap.size rfl (.tmp 22) (.tmp 27) 23 9 (.string ⟨#[]⟩) 16 rfl Tryd.underlying23 info_string rfl (by decide) (by decide) (.slice AN ls.length cN) (ls.map unB) (s.extract g s.size) [.string (s.extract g s.size)] (fun _ => True) (fun _ => False) rfl rfl rfl (fun _ h => h.elim) (fun _ _ => trivial) hR hB hsz (by omega) ?_; intro v1 w3 hown hB3 hgrow hat))
        refine ⟨⟨s.size + 1, s.size + 1, ls ++ [pieceU s.data.toList g s.size], rfl, rfl, by omega, ⟨Ln.out⟩, hB3, Nat.le_trans hsz hgrow.size, by rw [Hmu.out]; exact hown⟩, by simp [intOf]⟩
/-- How far Words has come. -/
def WordsAt (s : ByteArray) (st : Option Nat) (i : Nat) (ls : List (List UInt8)) : Prop :=
  (i ≤ s.size ∧ (∀ a, st = some a → a < i) ∧ ls ++ bw (openPiece s.data.toList st i) (s.data.toList.drop i) = bw [] s.data.toList) ∨ (i = s.size + 1 ∧ st = none ∧ ls = bw [] s.data.toList)
def fromV : Option Nat → Int
  | none => -1
  | some a => a
theorem bw_length : ∀ (l cur : List UInt8), (bw cur l).length ≤ l.length + 1
  | [], cur => by
    rw [bw]
    split <;> simp
  | b :: t, cur => by
    rw [bw]
    split
    · split
      · have := bw_length t []; simp; omega
      · have := bw_length t []; simp; omega
    · have := bw_length t (cur ++ [b]); simp; omega
theorem WordsAt.len {s : ByteArray} {st : Option Nat} {i : Nat} {ls : List (List UInt8)} (h : WordsAt s st i ls) : ls.length ≤ s.size + 1 := by
  have h1 := bw_length s.data.toList []
  have e1 := data_length s
  rcases h with ⟨_, _, h⟩ | ⟨_, _, h⟩
  · rw [← h, List.length_append] at h1; omega
  · rw [← h] at h1; omega
theorem WordsAt.start (s : ByteArray) : WordsAt s none 0 [] := .inl ⟨by omega, fun a h => by (cases h), rfl⟩
theorem WordsAt.lt {s : ByteArray} {a i : Nat} {ls : List (List UInt8)} (h : WordsAt s (some a) i ls) : a < i := by
  rcases h with ⟨_, h2, _⟩ | ⟨_, h, _⟩
  · exact h2 a rfl
  · cases h
theorem WordsAt.skip {s : ByteArray} {i : Nat} {ls : List (List UInt8)} (h : WordsAt s none i ls) (hi : i < s.size) (hb : bk s[i] = true) : WordsAt s none (i + 1) ls := by
  rcases h with ⟨_, h2, h⟩ | ⟨h, _⟩
  · refine .inl ⟨by omega, fun a h => by (cases h), ?_⟩
    rw [← h, drop_at s i hi, bw_blank _ _ _ hb]
    rfl
  · omega
theorem WordsAt.cut {s : ByteArray} {a i : Nat} {ls : List (List UInt8)} (h : WordsAt s (some a) i ls) (hi : i < s.size) (hb : bk s[i] = true) : WordsAt s none (i + 1) (ls ++ [pieceU s.data.toList a i]) := by
  rcases h with ⟨_, h2, h⟩ | ⟨h, _⟩
  · refine .inl ⟨by omega, fun a h => by (cases h), ?_⟩
    have hne := pieceU_ne s.data.toList a i (h2 a rfl) (by rw [data_length]; omega)
    rw [← h, drop_at s i hi, bw_blank _ _ _ hb]
    simp [openPiece, hne]
  · omega
theorem WordsAt.open_ {s : ByteArray} {i : Nat} {ls : List (List UInt8)} (h : WordsAt s none i ls) (hi : i < s.size) (hb : bk s[i] = false) : WordsAt s (some i) (i + 1) ls := by
  rcases h with ⟨_, h2, h⟩ | ⟨h, _⟩
  · refine .inl ⟨by omega, fun a h => by (injection h with h; omega), ?_⟩
    have e := piece_step s i i hi (Nat.le_refl _)
    rw [piece_self] at e
    rw [← h, drop_at s i hi, bw_char _ _ _ hb]
    simp only [openPiece]
    rw [← e]
  · omega
theorem WordsAt.go {s : ByteArray} {a i : Nat} {ls : List (List UInt8)} (h : WordsAt s (some a) i ls) (hi : i < s.size) (hb : bk s[i] = false) : WordsAt s (some a) (i + 1) ls := by
  rcases h with ⟨_, h2, h⟩ | ⟨h, _⟩
  · have ha := h2 a rfl
    refine .inl ⟨by omega, fun a' h => by (injection h with h; omega), ?_⟩
    rw [← h, drop_at s i hi, bw_char _ _ _ hb]
    simp only [openPiece]
    rw [piece_step s a i hi (by omega)]
  · omega
theorem WordsAt.last0 {s : ByteArray} {ls : List (List UInt8)} (h : WordsAt s none s.size ls) : WordsAt s none (s.size + 1) ls := by
  rcases h with ⟨_, h2, h⟩ | ⟨h, _⟩
  · refine .inr ⟨rfl, rfl, ?_⟩
    rw [← h, drop_end]
    simp [openPiece, bw]
  · omega
theorem WordsAt.last1 {s : ByteArray} {a : Nat} {ls : List (List UInt8)} (h : WordsAt s (some a) s.size ls) : WordsAt s none (s.size + 1) (ls ++ [pieceU s.data.toList a s.size]) := by
  rcases h with ⟨_, h2, h⟩ | ⟨h, _⟩
  · refine .inr ⟨rfl, rfl, ?_⟩
    have hne := pieceU_ne s.data.toList a s.size (h2 a rfl) (by rw [data_length]; exact Nat.le_refl _)
    rw [← h, drop_end]
    simp [openPiece, bw, hne]
  · omega
theorem map_snoc (s : ByteArray) (ls : List (List UInt8)) (a i : Nat) : ((ls ++ [pieceU s.data.toList a i]).map unB) = ls.map unB ++ [s.extract a i] := by
  rw [List.map_append, extract_un]; rfl

set_option maxRecDepth 100000 in
set_option maxHeartbeats 4000000 in
theorem Words_calls (s : ByteArray) (w : World) (hs : s.size ≤ 65536) :
    Calls Tryd.prog 9 #[.string s] w fun e w' => ∃ v, e = .returned v ∧ Kd.R Kd.string 9 w' w.heap.size (fun _ => True) v ((bw [] s.data.toList).map unB) ∧ Below w.heap.size w w' := by
  go_enter Tryd.func9, Tryd.ntmps9
  go_wp2
  go_loopw [3, 4, 5] (fun v f p wr => ∃ (st : Option Nat) (i : Nat) (ls : List (List UInt8)), f = .int .i64 (fromV st) ∧ p = .int .i64 (i : Int) ∧ i ≤ s.size + 1 ∧ Aside0 (WordsAt s st i ls) ∧ Below w.heap.size w wr ∧ w.heap.size ≤ wr.heap.size ∧ Kd.R Kd.string 9 wr w.heap.size (fun _ => True) v (ls.map unB))
    (fun _ _ p _ => s.size + 1 - (intOf p).toNat)
  case atStart => exact ⟨none, 0, [], rfl, rfl, by omega, ⟨WordsAt.start s⟩, Below.refl _ _, Nat.le_refl _, Kd.R_nil ..⟩
  case round =>
    obtain ⟨st, i, ls, rfl, rfl, hi, hL, hB, hsz, hR⟩ := hrel
    have hlen := hL.out.len
    have hmap : (ls.map unB).length = ls.length := List.length_map ..
    by_cases hend : i = s.size + 1
    · have hq : ls = bw [] s.data.toList := by
        rcases hL.out with ⟨h, _⟩ | ⟨_, _, h⟩
        · omega
        · exact h
      subst hend
      have t1 : ((s.size : Int) + 1 ≤ (s.size : Int)) = False := eq_false (by omega)
      go_wp2
      go_ret
      exact ⟨_, rfl, by rw [← hq]; exact hR, hB⟩
    · have hile : i ≤ s.size := by omega
      obtain ⟨AN, cN, rfl⟩ := Kd.R_slice hR
      rw [hmap] at hR ⊢
      cases st with
      | none =>
        have e0 : fromV none = -1 := rfl
        rw [e0]
        by_cases hlt : i < s.size
        · have t1 : ((i : Int) == (s.size : Int)) = false := by simp; omega
          by_cases h32 : s[i] = 32
          · have Ln := Lib.hid (hL.out.skip hlt (by rw [h32]; rfl))
            have t2 : ((s[i].toNat : Int) == 32) = true := by rw [h32]; rfl
            clear h32
            go_wp2
            refine ⟨⟨none, i + 1, ls, rfl, rfl, by omega, ⟨Ln.out⟩, hB, hsz, hR⟩, by simp [intOf]; omega⟩
          · have t2 : ((s[i].toNat : Int) == 32) = false := by
              simp
              intro e
              exact h32 (UInt8.toNat_inj.1 (by show s[i].toNat = 32; omega))
            by_cases h9 : s[i] = 9
            · have Ln := Lib.hid (hL.out.skip hlt (by rw [h9]; rfl))
              have t3 : ((s[i].toNat : Int) == 9) = true := by rw [h9]; rfl
              clear h9 h32
              go_wp2
              refine ⟨⟨none, i + 1, ls, rfl, rfl, by omega, ⟨Ln.out⟩, hB, hsz, hR⟩, by simp [intOf]; omega⟩
            · have Ln := Lib.hid (hL.out.open_ hlt (by simp [bk, h32, h9]))
              have t3 : ((s[i].toNat : Int) == 9) = false := by
                simp
                intro e
                exact h9 (UInt8.toNat_inj.1 (by show s[i].toNat = 9; omega))
              clear h9 h32
              go_wp2
              refine ⟨⟨some i, i + 1, ls, rfl, rfl, by omega, ⟨Ln.out⟩, hB, hsz, hR⟩, by simp [intOf]; omega⟩
        · obtain rfl : i = s.size := by omega
          have Ln := Lib.hid hL.out.last0
          go_wp2
          refine ⟨⟨none, s.size + 1, ls, rfl, rfl, by omega, ⟨Ln.out⟩, hB, hsz, hR⟩, by simp [intOf]⟩
      | some a =>
        have e0 : fromV (some a) = (a : Int) := rfl
        rw [e0]
        have hai := hL.out.lt
        have Hmu := Lib.hid (map_snoc s ls a i)
        by_cases hlt : i < s.size
        · have t1 : ((i : Int) == (s.size : Int)) = false := by simp; omega
          by_cases h32 : s[i] = 32
          · have Ln := Lib.hid (hL.out.cut hlt (by rw [h32]; rfl))
            have t2 : ((s[i].toNat : Int) == 32) = true := by rw [h32]; rfl
            clear h32
            go_wp2_with (at_builtin; (refine Kd.R_append Kd.string (w0 := w) (W := wr) w.heap.size rfl (.tmp 34) (.tmp 39) 23 9 (.string ⟨#[]⟩) 16 rfl Tryd.underlying23 info_string rfl (by decide) (by decide) (.slice AN ls.length cN) (ls.map unB) (s.extract a i) [.string (s.extract a i)] (fun _ => True) (fun _ => False) rfl rfl rfl (fun _ h => h.elim) (fun _ _ => trivial) hR hB hsz (by omega) ?_; intro v1 w3 hown hB3 hgrow hat))
            refine ⟨⟨none, i + 1, ls ++ [pieceU s.data.toList a i], rfl, rfl, by omega, ⟨Ln.out⟩, hB3, Nat.le_trans hsz hgrow.size, by rw [Hmu.out]; exact hown⟩, by simp [intOf]; omega⟩
          · have t2 : ((s[i].toNat : Int) == 32) = false := by
              simp
              intro e
              exact h32 (UInt8.toNat_inj.1 (by show s[i].toNat = 32; omega))
            by_cases h9 : s[i] = 9
            · have Ln := Lib.hid (hL.out.cut hlt (by rw [h9]; rfl))
              have t3 : ((s[i].toNat : Int) == 9) = true := by rw [h9]; rfl
              clear h9 h32
              go_wp2_with (at_builtin; (refine Kd.R_append Kd.string (w0 := w) (W := wr) w.heap.size rfl (.tmp 34) (.tmp 39) 23 9 (.string ⟨#[]⟩) 16 rfl Tryd.underlying23 info_string rfl (by decide) (by decide) (.slice AN ls.length cN) (ls.map unB) (s.extract a i) [.string (s.extract a i)] (fun _ => True) (fun _ => False) rfl rfl rfl (fun _ h => h.elim) (fun _ _ => trivial) hR hB hsz (by omega) ?_; intro v1 w3 hown hB3 hgrow hat))
              refine ⟨⟨none, i + 1, ls ++ [pieceU s.data.toList a i], rfl, rfl, by omega, ⟨Ln.out⟩, hB3, Nat.le_trans hsz hgrow.size, by rw [Hmu.out]; exact hown⟩, by simp [intOf]; omega⟩
            · have Ln := Lib.hid (hL.out.go hlt (by simp [bk, h32, h9]))
              have t3 : ((s[i].toNat : Int) == 9) = false := by
                simp
                intro e
                exact h9 (UInt8.toNat_inj.1 (by show s[i].toNat = 9; omega))
              clear h9 h32
              go_wp2
              refine ⟨⟨some a, i + 1, ls, rfl, rfl, by omega, ⟨Ln.out⟩, hB, hsz, hR⟩, by simp [intOf]; omega⟩
        · obtain rfl : i = s.size := by omega
          have Ln := Lib.hid hL.out.last1
          go_wp2_with (at_builtin; (refine Kd.R_append Kd.string (w0 := w) (W := wr) w.heap.size rfl (.tmp 34) (.tmp 39) 23 9 (.string ⟨#[]⟩) 16 rfl Tryd.underlying23 info_string rfl (by decide) (by decide) (.slice AN ls.length cN) (ls.map unB) (s.extract a s.size) [.string (s.extract a s.size)] (fun _ => True) (fun _ => False) rfl rfl rfl (fun _ h => h.elim) (fun _ _ => trivial) hR hB hsz (by omega) ?_; intro v1 w3 hown hB3 hgrow hat))
          refine ⟨⟨none, s.size + 1, ls ++ [pieceU s.data.toList a s.size], rfl, rfl, by omega, ⟨Ln.out⟩, hB3, Nat.le_trans hsz hgrow.size, by rw [Hmu.out]; exact hown⟩, by simp [intOf]⟩
end Go.Proofs.YtfigaamgcmifeaaDoor
