/- Lines that say nothing, blanks about words: what is read stays the same, each line's number is one more. -/
import Derived.Test.YtfigaamgcmifeaaDoorLn
namespace Go.Proofs.YtfigaamgcmifeaaDoor
open Go.RowKit Go.Lib Go.Proofs.YtfigaamgcmifeaaDoorW.PrintWords
set_option linter.unusedVariables false

def unB (l : List UInt8) : ByteArray := ⟨l.toArray⟩
theorem unB_data (x : ByteArray) : unB x.data.toList = x := by cases x; rfl
theorem unB_toList (l : List UInt8) : (unB l).data.toList = l := rfl

theorem wordsB_un (s : ByteArray) : wordsB s = (bw [] s.data.toList).map unB := by
  rw [← wordsB_bytes, List.map_map]
  conv => lhs; rw [← List.map_id (wordsB s)]
  exact List.map_congr_left fun x _ => (unB_data x).symm
theorem lines_words (s : ByteArray) : (linesB s).map wordsB = (bl [] s.data.toList).map fun l => (bw [] l).map unB := by
  rw [← linesB_bytes, List.map_map]
  exact List.map_congr_left fun x _ => wordsB_un x

/-- Lines, each as its words. -/
def runW : St → Nat → List (List ByteArray) → St × Int × Int
  | s, _, [] => (s, 0, 0)
  | s, i, ws :: rest => if (lineS s ws).1 = 0 then runW (lineS s ws).2 (i + 1) rest else ((lineS s ws).2, (i : Int) + 1, (lineS s ws).1)
theorem runS_words : ∀ (l : List ByteArray) (s : St) (i : Nat), runS s i l = runW s i (l.map wordsB)
  | [], s, i => rfl
  | x :: rest, s, i => by
    rw [List.map_cons, runS, runW, runS_words rest]

theorem runW_shift : ∀ (l : List (List ByteArray)) (s : St) (i : Nat),
    (runW s (i + 1) l).1 = (runW s i l).1 ∧ (runW s (i + 1) l).2.2 = (runW s i l).2.2 ∧ ((runW s i l).2.2 = 0 ∨ (runW s (i + 1) l).2.1 = (runW s i l).2.1 + 1)
  | [], s, i => ⟨rfl, rfl, .inl rfl⟩
  | ws :: rest, s, i => by
    rw [runW, runW]
    split
    · exact runW_shift rest _ _
    · refine ⟨rfl, rfl, .inr ?_⟩
      simp only
      omega

/-- How the statement makes a byte wide. -/
def wideF (b : UInt8) : List UInt8 := if b = 10 then [32, 9, 10] else if b = 32 then [32, 9] else [b]
def noteL : List UInt8 := [35, 32, 97, 32, 110, 111, 116, 101]
def wideL (l : List UInt8) : List UInt8 := noteL ++ 10 :: l.flatMap wideF

theorem bw_blank (cur r : List UInt8) (b : UInt8) (h : bk b = true) : bw cur (b :: r) = if cur = [] then bw [] r else cur :: bw [] r := by
  rw [bw, if_pos h]
theorem bw_char (cur r : List UInt8) (b : UInt8) (h : bk b = false) : bw cur (b :: r) = bw (cur ++ [b]) r := by
  rw [bw, if_neg (by rw [h]; decide)]
theorem bw_wide (s : List UInt8) (hs : s = [] ∨ s = [32, 9]) : ∀ (l cur : List UInt8), (∀ b ∈ l, b ≠ 10) → bw cur (l.flatMap wideF ++ s) = bw cur l
  | [], cur, _ => by
    rcases hs with rfl | rfl
    · rfl
    · by_cases h : cur = []
      · subst h; rfl
      · simp [bw, bk, h]
  | b :: t, cur, h => by
    have h10 := h b List.mem_cons_self
    have ih := bw_wide s hs t
    have ht : ∀ c ∈ t, c ≠ 10 := fun c hc => h c (List.mem_cons_of_mem _ hc)
    by_cases h32 : b = 32
    · subst h32
      have e : ((32 : UInt8) :: t).flatMap wideF ++ s = 32 :: 9 :: (t.flatMap wideF ++ s) := by simp [wideF]
      have e9 : bw [] (9 :: (t.flatMap wideF ++ s)) = bw [] (t.flatMap wideF ++ s) := by rw [bw_blank _ _ _ rfl, if_pos rfl]
      rw [e, bw_blank cur _ 32 rfl, e9, bw_blank cur t 32 rfl, ih [] ht]
    · have e : (b :: t).flatMap wideF ++ s = b :: (t.flatMap wideF ++ s) := by simp [wideF, h10, h32]
      rw [e]
      cases hb : bk b with
      | true => rw [bw_blank _ _ _ hb, bw_blank _ _ _ hb, ih [] ht]
      | false => rw [bw_char _ _ _ hb, bw_char _ _ _ hb, ih _ ht]

theorem bl_wide : ∀ (l cur : List UInt8), (∀ b ∈ cur, b ≠ 10) → (bl (cur.flatMap wideF) (l.flatMap wideF)).map (bw []) = (bl cur l).map (bw [])
  | [], cur, h => by
    have := bw_wide [] (.inl rfl) cur [] h
    rw [List.append_nil] at this
    simp [bl, this]
  | b :: t, cur, h => by
    by_cases h10 : b = 10
    · subst h10
      have e : ((10 : UInt8) :: t).flatMap wideF = 32 :: 9 :: 10 :: t.flatMap wideF := by simp [wideF]
      have ih := bl_wide t [] (fun b hb => by cases hb)
      rw [List.flatMap_nil] at ih
      have h2 := bw_wide [32, 9] (.inr rfl) cur [] h
      rw [e, bl, if_neg (by decide), bl, if_neg (by decide), bl, if_pos rfl, bl, if_pos rfl, List.map_cons, List.map_cons, ih]
      have e2 : cur.flatMap wideF ++ [32] ++ [9] = cur.flatMap wideF ++ [32, 9] := by simp
      rw [e2, h2]
    · have hcur : ∀ c ∈ cur ++ [b], c ≠ 10 := by
        intro c hc
        rcases List.mem_append.1 hc with hc | hc
        · exact h c hc
        · rw [List.mem_singleton] at hc; subst hc; exact h10
      have ih := bl_wide t (cur ++ [b]) hcur
      rw [bl, if_neg h10, ← ih]
      by_cases h32 : b = 32
      · subst h32
        have e : ((32 : UInt8) :: t).flatMap wideF = 32 :: 9 :: t.flatMap wideF := by simp [wideF]
        rw [e, bl, if_neg (by decide), bl, if_neg (by decide)]
        congr 2
        simp [wideF]
      · have e : (b :: t).flatMap wideF = b :: t.flatMap wideF := by simp [wideF, h10, h32]
        rw [e, bl, if_neg h10]
        congr 2
        simp [wideF, h10, h32]

theorem note_line (s : St) : lineS s ((bw [] noteL).map unB) = (0, s) := by
  have e : (bw [] noteL).map unB = [unB [35], unB [97], unB [110, 111, 116, 101]] := by decide
  rw [e]
  rfl

theorem run_wide (t x : ByteArray) (e : x.data.toList = wideL t.data.toList) :
    (runS St.none 0 (linesB x)).1 = (runS St.none 0 (linesB t)).1 ∧ (runS St.none 0 (linesB x)).2.2 = (runS St.none 0 (linesB t)).2.2 ∧
      ((runS St.none 0 (linesB t)).2.2 = 0 ∨ (runS St.none 0 (linesB x)).2.1 = (runS St.none 0 (linesB t)).2.1 + 1) := by
  have hl : (linesB x).map wordsB = (bw [] noteL).map unB :: (linesB t).map wordsB := by
    rw [lines_words, lines_words, e]
    unfold wideL
    rw [bl_hit noteL [] _ (by decide), List.map_cons, List.nil_append]
    congr 1
    have := congrArg (List.map (List.map unB)) (bl_wide t.data.toList [] (fun b hb => by cases hb))
    rw [List.flatMap_nil, List.map_map, List.map_map] at this
    exact this
  rw [runS_words, runS_words, hl, runW, note_line]
  simp only [if_true]
  exact runW_shift _ _ 0

theorem parse_wide (t x : ByteArray) (ht : t.size ≤ 65536) (hx : x.size ≤ 65536) (e : x.data.toList = wideL t.data.toList) :
    (parseS x).st = (parseS t).st ∧ (parseS x).up = (parseS t).up ∧ (parseS x).err = (parseS t).err ∧
      ((parseS t).err = 0 ∨ ((parseS t).line = 0 ∧ (parseS x).line = 0) ∨ (parseS x).line = (parseS t).line + 1) := by
  obtain ⟨h1, h2, h3⟩ := run_wide t x e
  have ex : parseS x = if (runS St.none 0 (linesB t)).2.2 = 0 then closeS (runS St.none 0 (linesB t)).1 else .bad (runS St.none 0 (linesB x)).2.1 (runS St.none 0 (linesB t)).2.2 := by
    unfold parseS
    rw [if_neg (by omega), h1, h2]
  have et : parseS t = if (runS St.none 0 (linesB t)).2.2 = 0 then closeS (runS St.none 0 (linesB t)).1 else .bad (runS St.none 0 (linesB t)).2.1 (runS St.none 0 (linesB t)).2.2 := by
    unfold parseS
    rw [if_neg (by omega)]
  rw [ex, et]
  by_cases h0 : (runS St.none 0 (linesB t)).2.2 = 0
  · rw [if_pos h0, if_pos h0]
    refine ⟨rfl, rfl, rfl, ?_⟩
    unfold closeS
    split
    · exact .inr (.inl ⟨rfl, rfl⟩)
    · split
      · exact .inl rfl
      · exact .inr (.inl ⟨rfl, rfl⟩)
  · rw [if_neg h0, if_neg h0]
    refine ⟨rfl, rfl, rfl, .inr (.inr ?_)⟩
    rcases h3 with h3 | h3
    · exact absurd h3 h0
    · exact h3
end Go.Proofs.YtfigaamgcmifeaaDoor
