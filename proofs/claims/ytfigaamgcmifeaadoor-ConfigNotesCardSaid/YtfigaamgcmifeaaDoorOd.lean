/- What is said to be above stands above in the order that is made. -/
import Derived.Test.YtfigaamgcmifeaaDoorNt
namespace Go.Proofs.YtfigaamgcmifeaaDoor
open Go.RowKit Go.Lib Go.Proofs.YtfigaamgcmifeaaDoorW.PrintWords
set_option linter.unusedVariables false

/-- One state leads to another: no label, no pair is lost. -/
structure Leads (s s' : St) : Prop where
  labels : ∃ t, s'.labels = s.labels ++ t
  pairs : ∃ t, s'.pairs = s.pairs ++ t
theorem Leads.refl (s : St) : Leads s s := ⟨⟨[], by simp⟩, ⟨[], by simp⟩⟩
theorem Leads.trans {s s1 s2 : St} (h : Leads s s1) (k : Leads s1 s2) : Leads s s2 := by
  obtain ⟨⟨a, ha⟩, ⟨b, hb⟩⟩ := h
  obtain ⟨⟨c, hc⟩, ⟨d, hd⟩⟩ := k
  exact ⟨⟨a ++ c, by rw [hc, ha, List.append_assoc]⟩, ⟨b ++ d, by rw [hd, hb, List.append_assoc]⟩⟩
theorem Leads.doS (k : Kn) (s : St) (ns : List ByteArray) (nums : List Int) : Leads s (doS k s ns nums).2 := by
  cases k
  · show Leads s (labelS s _).2
    unfold labelS
    split
    · exact .refl s
    · split
      · exact .refl s
      · exact ⟨⟨_, rfl⟩, ⟨[], by simp⟩⟩
  · show Leads s (aboveS s _ _).2
    unfold aboveS
    split
    · exact .refl s
    · exact ⟨⟨[], by simp⟩, ⟨_, rfl⟩⟩
  · show Leads s (userS s _ _).2
    unfold userS
    split
    · exact .refl s
    · split
      · exact .refl s
      · exact ⟨⟨[], by simp⟩, ⟨[], by simp⟩⟩
  · show Leads s (predS s _ _ _).2
    unfold predS
    split
    · exact .refl s
    · split
      · exact .refl s
      · exact ⟨⟨[], by simp⟩, ⟨[], by simp⟩⟩
  · show Leads s (limitS s _).2
    unfold limitS
    split
    · exact .refl s
    · exact ⟨⟨[], by simp⟩, ⟨[], by simp⟩⟩
  · show Leads s (purseS s _ _).2
    unfold purseS
    split
    · exact .refl s
    · exact ⟨⟨[], by simp⟩, ⟨[], by simp⟩⟩
theorem Leads.line (s : St) (ws : List ByteArray) : Leads s (lineS s ws).2 := by
  cases ws with
  | nil => exact .refl s
  | cons w0 rest =>
    unfold lineS
    repeat' split
    all_goals first | exact .refl s | exact .doS _ _ _ _
theorem Leads.run : ∀ (l : List (List ByteArray)) (s : St) (i : Nat), Leads s (runW s i l).1
  | [], s, _ => .refl s
  | ws :: rest, s, i => by
    rw [runW]
    split
    · exact (Leads.line s ws).trans (Leads.run rest _ _)
    · exact Leads.line s ws

theorem idxS_app : ∀ (l t : List ByteArray) (x : ByteArray), 0 ≤ idxS l x → idxS (l ++ t) x = idxS l x
  | [], t, x, h => by simp [idxS] at h
  | y :: ys, t, x, h => by
    rw [List.cons_append]
    unfold idxS at h ⊢
    by_cases e : y = x
    · rw [if_pos e, if_pos e]
    · rw [if_neg e] at h ⊢
      rw [if_neg e]
      by_cases h2 : idxS ys x < 0
      · rw [if_pos h2] at h; omega
      · rw [idxS_app ys t x (by omega)]

/-- 'above NAME NAME', where no error comes. -/
theorem above_line (s : St) (x y : ByteArray) (h : (lineS s [Kn.above.name, x, y]).1 = 0) :
    0 ≤ idxS s.labels x ∧ 0 ≤ idxS s.labels y ∧ (lineS s [Kn.above.name, x, y]).2.pairs = s.pairs ++ [(idxS s.labels y, idxS s.labels x)] ∧ (lineS s [Kn.above.name, x, y]).2.labels = s.labels := by
  have e : lineS s [Kn.above.name, x, y] = match scan 0 0 0 [110, 110] [x, y] [] [] with | none => (7, s) | some (ns, nums) => doS .above s ns nums := rfl
  rw [e] at h ⊢
  have es : scan 0 0 0 [110, 110] [x, y] [] [] = if nameB x = true then (if nameB y = true then some ([x, y], []) else none) else none := by
    simp only [scan]
    rfl
  rw [es] at h ⊢
  by_cases hx : nameB x = true
  · rw [if_pos hx] at h ⊢
    by_cases hy : nameB y = true
    · rw [if_pos hy] at h ⊢
      have ed : doS .above s [x, y] [] = aboveS s x y := rfl
      simp only [ed] at h ⊢
      unfold aboveS at h ⊢
      by_cases hh : idxS s.labels y < 0 ∨ idxS s.labels x < 0
      · rw [if_pos hh] at h; simp at h
      · rw [if_neg hh]
        exact ⟨by omega, by omega, rfl, rfl⟩
    · rw [if_neg hy] at h; simp at h
  · rw [if_neg hx] at h; simp at h

theorem run_above (x y : ByteArray) : ∀ (l : List (List ByteArray)) (s : St) (i : Nat), (runW s i l).2.2 = 0 → [Kn.above.name, x, y] ∈ l →
    0 ≤ idxS (runW s i l).1.labels x ∧ 0 ≤ idxS (runW s i l).1.labels y ∧ (idxS (runW s i l).1.labels y, idxS (runW s i l).1.labels x) ∈ (runW s i l).1.pairs
  | [], s, i, _, hm => by cases hm
  | ws :: rest, s, i, h, hm => by
    rw [runW] at h ⊢
    by_cases h0 : (lineS s ws).1 = 0
    · rw [if_pos h0] at h ⊢
      rcases List.mem_cons.1 hm with rfl | hm
      · obtain ⟨h1, h2, h3, h4⟩ := above_line s x y h0
        obtain ⟨⟨t, ht⟩, ⟨q, hq⟩⟩ := Leads.run rest (lineS s [Kn.above.name, x, y]).2 (i + 1)
        rw [h4] at ht
        rw [h3] at hq
        rw [ht, idxS_app _ _ _ h1, idxS_app _ _ _ h2, hq]
        exact ⟨h1, h2, by simp⟩
      · exact run_above x y rest _ _ h hm
    · rw [if_neg h0] at h
      exact absurd h h0

/-- Bits that a list of masks has, the other has too. -/
def Up (L L' : List Nat) : Prop := L'.length = L.length ∧ ∀ i k, (L.getD i 0).testBit k = true → (L'.getD i 0).testBit k = true
theorem Up.refl (L : List Nat) : Up L L := ⟨rfl, fun _ _ h => h⟩
theorem Up.trans {A B C : List Nat} (h : Up A B) (k : Up B C) : Up A C := ⟨k.1.trans h.1, fun i j hh => k.2 i j (h.2 i j hh)⟩
theorem getD_set (L : List Nat) (i j x : Nat) : (L.set i x).getD j 0 = if i = j ∧ i < L.length then x else L.getD j 0 := by
  rw [List.getD_eq_getElem?_getD, List.getD_eq_getElem?_getD, List.getElem?_set]
  by_cases h : i = j
  · subst h
    by_cases hl : i < L.length
    · simp [hl]
    · simp [hl]
  · simp [h]
theorem Up.orAt (L : List Nat) (i x : Nat) : Up L (orAt L i x) := by
  unfold YtfigaamgcmifeaaDoor.orAt
  refine ⟨by simp, fun j k h => ?_⟩
  rw [getD_set]
  split
  · rename_i hh
    rw [hh.1, Nat.testBit_or, h]
    rfl
  · exact h
theorem orAt_bit (L : List Nat) (i x k : Nat) (hi : i < L.length) (h : x.testBit k = true) : ((orAt L i x).getD i 0).testBit k = true := by
  unfold YtfigaamgcmifeaaDoor.orAt
  rw [getD_set, if_pos ⟨rfl, hi⟩, Nat.testBit_or, h]
  simp
theorem Up.foldl {α : Type} (f : List Nat → α → List Nat) (hf : ∀ L a, Up L (f L a)) : ∀ (l : List α) (L : List Nat), Up L (l.foldl f L)
  | [], L => .refl L
  | a :: l, L => (hf L a).trans (Up.foldl f hf l _)
theorem pairs_bit : ∀ (l : List (Int × Int)) (L : List Nat) (p : Int × Int), p ∈ l → p.1.toNat < L.length → ((l.foldl pairStep L).getD p.1.toNat 0).testBit p.2.toNat = true
  | [], L, p, h, _ => by cases h
  | q :: l, L, p, h, hl => by
    rw [List.foldl_cons]
    rcases List.mem_cons.1 h with rfl | h
    · refine (Up.foldl pairStep (fun L a => Up.orAt _ _ _) l (pairStep L p)).2 _ _ ?_
      exact orAt_bit L _ _ _ hl (by simp)
    · exact pairs_bit l _ p h (by unfold pairStep; rw [(Up.orAt _ _ _).1]; exact hl)
theorem build_bit (n : Nat) (ps : List (Int × Int)) (p : Int × Int) (h : p ∈ ps) (hn : p.1.toNat < n) : ((buildS n ps).getD p.1.toNat 0).testBit p.2.toNat = true := by
  unfold buildS up2
  refine (Up.foldl (allStep n) (fun L k => Up.foldl (rowStep k) (fun L i => ?_) _ _) _ _).2 _ _ (pairs_bit ps _ p h (by simpa using hn))
  unfold rowStep
  split
  · exact Up.orAt _ _ _
  · exact .refl _

/-- What a text that is read says. -/
theorem parse_ok (t : ByteArray) (h : (parseS t).err = 0) :
    (runS St.none 0 (linesB t)).2.2 = 0 ∧ parseS t = ⟨(runS St.none 0 (linesB t)).1, buildS (runS St.none 0 (linesB t)).1.labels.length (runS St.none 0 (linesB t)).1.pairs, 0, 0⟩ ∧
      (runS St.none 0 (linesB t)).1.labels.length ≠ 0 ∧ rightB (buildS (runS St.none 0 (linesB t)).1.labels.length (runS St.none 0 (linesB t)).1.pairs) = true ∧ t.size ≤ 65536 := by
  unfold parseS at h ⊢
  by_cases h1 : 65536 < t.size
  · rw [if_pos h1] at h; cases h
  rw [if_neg h1] at h ⊢
  by_cases h2 : (runS St.none 0 (linesB t)).2.2 = 0
  · rw [if_pos h2] at h ⊢
    unfold closeS at h ⊢
    split at h
    · cases h
    · rename_i h3
      split at h
      · rename_i h4
        rw [if_neg h3, if_pos h4]
        exact ⟨h2, rfl, fun e => h3 (.inl e), h4, by omega⟩
      · cases h
  · rw [if_neg h2] at h
    exact absurd h h2

/-- Of a text that is read: what is said to be above is above. -/
theorem parse_above (t : ByteArray) (h : (parseS t).err = 0) (l : List UInt8) (hl : l ∈ bl [] t.data.toList) (x y : ByteArray) (hw : (bw [] l).map unB = [Kn.above.name, x, y]) :
    0 ≤ idxS (parseS t).st.labels x ∧ 0 ≤ idxS (parseS t).st.labels y ∧ ((parseS t).up.getD (idxS (parseS t).st.labels y).toNat 0).testBit (idxS (parseS t).st.labels x).toNat = true := by
  obtain ⟨h1, h2, h3, h4, h5⟩ := parse_ok t h
  rw [runS_words] at h1 h2 h3 h4
  have hm : [Kn.above.name, x, y] ∈ (linesB t).map wordsB := by
    rw [lines_words, ← hw]
    exact List.mem_map.2 ⟨l, hl, rfl⟩
  obtain ⟨a1, a2, a3⟩ := run_above x y _ _ _ h1 hm
  rw [h2]
  generalize (runW St.none 0 ((linesB t).map wordsB)).1 = F at *
  have hi := idxS_hi F.labels y
  have hb := build_bit F.labels.length F.pairs (idxS F.labels y, idxS F.labels x) a3 (by simp only; omega)
  exact ⟨a1, a2, hb⟩
theorem parse_size (t : ByteArray) (h : (parseS t).err = 0) : (parseS t).up.length = (parseS t).st.labels.length ∧ (parseS t).st.labels.length ≤ 64 ∧ 1 ≤ (parseS t).st.labels.length ∧ rightB (parseS t).up = true ∧ (∀ x ∈ (parseS t).up, x < 18446744073709551616) ∧ t.size ≤ 65536 := by
  obtain ⟨h1, h2, h3, h4, h5⟩ := parse_ok t h
  have hw := WF.none.run (linesB t) 0
  rw [h2]
  have hg : Good (runS St.none 0 (linesB t)).1.labels.length (buildS (runS St.none 0 (linesB t)).1.labels.length (runS St.none 0 (linesB t)).1.pairs) :=
    Good.all (Good.pairs (Good.start hw.l1) (fun p hp => by have := hw.ps p hp; have := hw.l1; omega))
  exact ⟨hg.len, hw.l1, by simp only; omega, h4, hg.lt, h5⟩
end Go.Proofs.YtfigaamgcmifeaaDoor
