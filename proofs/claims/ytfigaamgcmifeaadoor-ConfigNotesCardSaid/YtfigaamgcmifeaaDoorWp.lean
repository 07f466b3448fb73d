/- The words of a line, byte by byte. -/
import Derived.Test.YtfigaamgcmifeaaDoorLa
import Derived.Lib.FieldsP
import Derived.Laws.RangeAny
namespace Go.Proofs.YtfigaamgcmifeaaDoor
open Go.RowKit Go.Lib Go.Proofs.YtfigaamgcmifeaaDoorW.PrintWords
set_option linter.unusedVariables false

def bk (b : UInt8) : Bool := b == 32 || b == 9
/-- Words, with the one that is open. -/
def bw : List UInt8 → List UInt8 → List (List UInt8)
  | cur, [] => if cur = [] then [] else [cur]
  | cur, b :: t => if bk b then (if cur = [] then bw [] t else cur :: bw [] t) else bw (cur ++ [b]) t

theorem bw_run : ∀ (x cur l : List UInt8), (∀ b ∈ x, bk b = false) → bw cur (x ++ l) = bw (cur ++ x) l
  | [], cur, l, _ => by simp
  | b :: x, cur, l, h => by
    rw [List.cons_append, bw, h b (List.mem_cons_self)]
    simp only [Bool.false_eq_true, if_false]
    rw [bw_run x (cur ++ [b]) l (fun c hc => h c (List.mem_cons_of_mem _ hc))]
    simp

theorem bk_of (b : UInt8) : bk b = blankR b.toNat := by
  unfold bk blankR
  rw [Bool.eq_iff_iff]
  simp only [Bool.or_eq_true, beq_iff_eq]
  constructor
  · rintro (rfl | rfl)
    · exact .inl rfl
    · exact .inr rfl
  · rintro (h | h)
    · exact .inl (UInt8.toNat_inj.1 h)
    · exact .inr (UInt8.toNat_inj.1 h)
theorem bk_high (b : UInt8) (h : 128 ≤ b.toNat) : bk b = false := by
  rw [bk_of]
  unfold blankR
  simp
  omega

theorem decodeN_tail (n b0 b1 b2 b3 j : Nat) (hj : 1 ≤ j) (h : j < (decodeN n b0 b1 b2 b3).2) : (j = 1 ∧ b1 / 64 = 2) ∨ (j = 2 ∧ b2 / 64 = 2) ∨ (j = 3 ∧ b3 / 64 = 2) := by
  unfold decodeN at h
  repeat' split at h
  all_goals (simp only at h; omega)

theorem get_list (s : ByteArray) (i : Nat) (h : i < s.size) : s.data.toList[i]? = some (s.get! i) := by
  have e : s.get! i = s[i]'h := get_at s i h
  rw [e, List.getElem?_eq_getElem (by rw [data_length]; exact h)]
  rfl

theorem rune_run (s : ByteArray) (pos : Nat) (h : pos < s.size) (hwn : pos + (Utf8.decode s pos).2 ≤ s.size) (hb : blankR (Utf8.decode s pos).1 = false) :
    ∀ b ∈ (s.data.toList.drop pos).take (Utf8.decode s pos).2, bk b = false := by
  intro b hm
  obtain ⟨j, hj⟩ := List.mem_iff_getElem?.1 hm
  rw [List.getElem?_take] at hj
  split at hj
  · rename_i hjw
    rw [List.getElem?_drop, get_list s (pos + j) (by omega)] at hj
    injection hj with hj
    by_cases h0 : j = 0
    · subst h0
      have e : s.get! (pos + 0) = s[pos]'h := get_at s pos h
      rw [e] at hj
      by_cases ha : (s[pos]'h).toNat < 128
      · rw [decode_ascii s pos h ha] at hb
        rw [← hj, bk_of]; exact hb
      · rw [← hj]; exact bk_high _ (by omega)
    · rw [decode_at] at hjw
      rcases decodeN_tail _ _ _ _ _ j (by omega) hjw with ⟨rfl, hh⟩ | ⟨rfl, hh⟩ | ⟨rfl, hh⟩ <;> (rw [← hj]; exact bk_high _ (by omega))
  · cases hj
theorem rune_blank (s : ByteArray) (pos : Nat) (h : pos < s.size) (hb : blankR (Utf8.decode s pos).1 = true) :
    (Utf8.decode s pos).2 = 1 ∧ ∃ b, s.data.toList.drop pos = b :: s.data.toList.drop (pos + 1) ∧ bk b = true := by
  by_cases ha : (s[pos]'h).toNat < 128
  · rw [decode_ascii s pos h ha] at hb ⊢
    refine ⟨rfl, s[pos]'h, ?_, by rw [bk_of]; exact hb⟩
    rw [List.drop_eq_getElem_cons (by rw [data_length]; exact h)]
    rfl
  · have := (decode_high s pos h (by omega)).1
    unfold blankR at hb
    simp at hb
    omega

theorem spansP_bytes (s : ByteArray) : ∀ (f pos : Nat) (st : Option Nat) (acc : List (Nat × Nat)), s.size ≤ pos + f → pos ≤ s.size → (∀ a, st = some a → a < pos) →
    acc.map (fun p => pieceU s.data.toList p.1 p.2) ++ bw (openPiece s.data.toList st pos) (s.data.toList.drop pos) = (closeSpans s (spansFromP blankR s f pos st acc)).map (fun p => pieceU s.data.toList p.1 p.2)
  | 0, pos, st, acc, h, hp, hst => by
    obtain rfl : pos = s.size := by omega
    have hd : s.data.toList.drop s.size = [] := List.drop_eq_nil_of_le (by rw [← size_eq]; exact Nat.le_refl _)
    rw [hd, bw]
    cases st with
    | none => simp [spansFromP, closeSpans, openPiece]
    | some a =>
      have := pieceU_ne s.data.toList a s.size (hst a rfl) (by rw [← size_eq]; exact Nat.le_refl _)
      simp [spansFromP, closeSpans, openPiece, this]
  | f + 1, pos, st, acc, h, hp, hst => by
    by_cases hlt : pos < s.size
    · have hw := width_pos s pos
      have hwn : pos + (Utf8.decode s pos).2 ≤ s.size := by
        have := decodeN_le_n' (s.size - pos) (s.get! pos).toNat (s.get! (pos + 1)).toNat (s.get! (pos + 2)).toNat (s.get! (pos + 3)).toNat (by omega)
        rw [← decode_at] at this
        omega
      simp only [spansFromP, if_pos hlt]
      cases hsp : blankR (Utf8.decode s pos).1 with
      | true =>
        obtain ⟨h1, b, hdr, hbk⟩ := rune_blank s pos hlt hsp
        rw [h1] at hwn ⊢; rw [hdr]
        simp only [if_true]
        rw [bw, hbk]
        simp only [if_true]
        cases st with
        | none =>
          have ih := spansP_bytes s f (pos + 1) none acc (by omega) hwn (fun a h => by cases h)
          simpa [openPiece] using ih
        | some a =>
          have hpn := pieceU_ne s.data.toList a pos (hst a rfl) (by rw [← size_eq]; omega)
          have ih := spansP_bytes s f (pos + 1) none (acc ++ [(a, pos)]) (by omega) hwn (fun a h => by cases h)
          simpa [openPiece, hpn] using ih
      | false =>
        have hrun := rune_run s pos hlt hwn hsp
        simp only [Bool.false_eq_true, if_false]
        have hsplit : s.data.toList.drop pos = (s.data.toList.drop pos).take (Utf8.decode s pos).2 ++ s.data.toList.drop (pos + (Utf8.decode s pos).2) := by
          rw [← List.drop_drop, List.take_append_drop]
        rw [hsplit, bw_run _ _ _ hrun]
        cases st with
        | none =>
          have ih := spansP_bytes s f (pos + (Utf8.decode s pos).2) (some pos) acc (by omega) hwn (fun a h => by cases h; omega)
          have e : ([] : List UInt8) ++ (s.data.toList.drop pos).take (Utf8.decode s pos).2 = pieceU s.data.toList pos (pos + (Utf8.decode s pos).2) := by
            unfold pieceU
            rw [List.nil_append, Nat.add_sub_cancel_left]
          simp only [openPiece] at ih ⊢
          rw [e]
          exact ih
        | some a =>
          have ih := spansP_bytes s f (pos + (Utf8.decode s pos).2) (some a) acc (by omega) hwn (fun b h => by cases h; have := hst a rfl; omega)
          simp only [openPiece] at ih ⊢
          rw [pieceU_grow _ _ _ _ (Nat.le_of_lt (hst a rfl))]
          exact ih
    · obtain rfl : pos = s.size := by omega
      have hd : s.data.toList.drop s.size = [] := List.drop_eq_nil_of_le (by rw [← size_eq]; exact Nat.le_refl _)
      rw [hd, bw, spansFromP_end _ s _ _ _ _ hlt]
      cases st with
      | none => simp [closeSpans, openPiece]
      | some a =>
        have := pieceU_ne s.data.toList a s.size (hst a rfl) (by rw [← size_eq]; exact Nat.le_refl _)
        simp [closeSpans, openPiece, this]

/-- A line's words, byte by byte. -/
theorem wordsB_bytes (s : ByteArray) : (wordsB s).map (·.data.toList) = bw [] s.data.toList := by
  have h := spansP_bytes s s.size 0 none [] (by omega) (by omega) (fun a h => by cases h)
  simp only [List.map_nil, List.nil_append, openPiece, List.drop_zero] at h
  rw [h]
  unfold wordsB goFieldsP spansOfP
  rw [List.map_map]
  apply List.map_congr_left
  intro p _
  show (s.extract p.1 p.2).data.toList = _
  rw [extract_data]
  rfl

theorem bw_ne : ∀ (l cur : List UInt8), ∀ x ∈ bw cur l, x ≠ []
  | [], cur, x, h => by
    rw [bw] at h
    split at h
    · cases h
    · rw [List.mem_singleton] at h; subst h; assumption
  | b :: t, cur, x, h => by
    rw [bw] at h
    split at h
    · split at h
      · exact bw_ne t [] x h
      · rcases List.mem_cons.1 h with rfl | h
        · assumption
        · exact bw_ne t [] x h
    · exact bw_ne t _ x h
theorem bw_sum : ∀ (l cur : List UInt8), ((bw cur l).map List.length).sum ≤ cur.length + l.length
  | [], cur => by
    rw [bw]
    split <;> simp
  | b :: t, cur => by
    rw [bw]
    split
    · split
      · have := bw_sum t []; simp at this ⊢; omega
      · have := bw_sum t []; simp at this ⊢; omega
    · have := bw_sum t (cur ++ [b]); simp at this ⊢; omega
theorem sum_ge_mem : ∀ (l : List Nat) (x : Nat), x ∈ l → x ≤ l.sum
  | a :: l, x, h => by
    rcases List.mem_cons.1 h with rfl | h
    · simp
    · have := sum_ge_mem l x h; simp; omega
theorem sum_ge_len : ∀ (l : List (List UInt8)), (∀ x ∈ l, x ≠ []) → l.length ≤ (l.map List.length).sum
  | [], _ => by simp
  | a :: l, h => by
    have := sum_ge_len l (fun x hx => h x (List.mem_cons_of_mem _ hx))
    have ha : 0 < a.length := List.length_pos_iff.2 (h a List.mem_cons_self)
    simp only [List.length_cons, List.map_cons, List.sum_cons]
    omega
theorem wordsB_pos (s x : ByteArray) (h : x ∈ wordsB s) : 0 < x.size := by
  have : x.data.toList ∈ bw [] s.data.toList := by rw [← wordsB_bytes]; exact List.mem_map_of_mem h
  have := bw_ne _ _ _ this
  rw [← data_length]
  exact List.length_pos_iff.2 this
theorem wordsB_size (s x : ByteArray) (h : x ∈ wordsB s) : x.size ≤ s.size := by
  have hm : x.data.toList ∈ bw [] s.data.toList := by rw [← wordsB_bytes]; exact List.mem_map_of_mem h
  have h1 := sum_ge_mem _ _ (List.mem_map_of_mem (f := List.length) hm)
  have h2 := bw_sum s.data.toList []
  have e1 := data_length s
  have e2 := data_length x
  simp only [List.length_nil] at h2
  omega
theorem wordsB_length (s : ByteArray) : (wordsB s).length ≤ s.size := by
  have h1 := sum_ge_len (bw [] s.data.toList) (bw_ne _ _)
  have h2 := bw_sum s.data.toList []
  rw [← wordsB_bytes, List.length_map] at h1
  rw [wordsB_bytes] at h1
  have e : s.data.toList.length = s.size := data_length s
  simp only [List.length_nil] at h2
  omega

end Go.Proofs.YtfigaamgcmifeaaDoor
