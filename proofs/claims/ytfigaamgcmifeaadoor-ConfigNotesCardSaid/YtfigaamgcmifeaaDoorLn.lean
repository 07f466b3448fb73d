/- A text's lines, byte by byte. -/
import Derived.Test.YtfigaamgcmifeaaDoorPw
import Derived.Test.YtfigaamgcmifeaaDoorWp
import Derived.Lib.IndexMore
namespace Go.Proofs.YtfigaamgcmifeaaDoor
open Go.RowKit Go.Lib Go.Proofs.YtfigaamgcmifeaaDoorW.PrintWords
set_option linter.unusedVariables false

/-- Lines, with the one that is open. -/
def bl : List UInt8 → List UInt8 → List (List UInt8)
  | cur, [] => [cur]
  | cur, b :: t => if b = 10 then cur :: bl [] t else bl (cur ++ [b]) t
theorem bl_no : ∀ (x cur : List UInt8), (∀ b ∈ x, b ≠ 10) → bl cur x = [cur ++ x]
  | [], cur, _ => by simp [bl]
  | b :: x, cur, h => by
    rw [bl, if_neg (h b List.mem_cons_self), bl_no x _ (fun c hc => h c (List.mem_cons_of_mem _ hc))]
    simp
theorem bl_hit : ∀ (x cur post : List UInt8), (∀ b ∈ x, b ≠ 10) → bl cur (x ++ 10 :: post) = (cur ++ x) :: bl [] post
  | [], cur, post, _ => by simp [bl]
  | b :: x, cur, post, h => by
    rw [List.cons_append, bl, if_neg (h b List.mem_cons_self), bl_hit x _ post (fun c hc => h c (List.mem_cons_of_mem _ hc))]
    simp

theorem occ_nl {s : List UInt8} {j : Nat} (h : s[j]? = some 10) : occAt s [10] j = true := by
  obtain ⟨hj, hx⟩ := List.getElem?_eq_some_iff.1 h
  unfold occAt
  rw [List.drop_eq_getElem_cons hj, hx]
  rfl
theorem split_bl : ∀ (n : Nat) (s : List UInt8), s.length ≤ n → splitK [10] 0 (count s [10]) s = bl [] s := by
  intro n
  induction n with
  | zero =>
    intro s h
    obtain rfl : s = [] := List.eq_nil_of_length_eq_zero (by omega)
    rfl
  | succ n ih =>
    intro s h
    rcases index_spec s [10] with ⟨hm, hno⟩ | ⟨i, hi, hil, hocc, hno⟩
    · rw [count_miss hm, splitK, bl_no]
      · simp
      · intro b hb e
        subst e
        obtain ⟨j, hj⟩ := List.mem_iff_getElem?.1 hb
        have := hno j (Nat.le_of_lt (List.getElem?_eq_some_iff.1 hj).1)
        rw [occ_nl hj] at this
        cases this
    · have h10 := occAt_head rfl hocc
      obtain ⟨hlt, hx⟩ := List.getElem?_eq_some_iff.1 h10
      have hs : s = s.take i ++ 10 :: s.drop (i + 1) := by
        have := (List.take_append_drop i s).symm
        rw [List.drop_eq_getElem_cons hlt, hx] at this
        exact this
      have hpre : ∀ b ∈ s.take i, b ≠ 10 := by
        intro b hb e
        subst e
        obtain ⟨j, hj⟩ := List.mem_iff_getElem?.1 hb
        rw [List.getElem?_take] at hj
        split at hj
        · rename_i hji
          have h2 : occAt s [10] j = false := hno j hji
          rw [occ_nl hj] at h2
          cases h2
        · cases hj
      have hne : ¬ (index s [10] == -1) = true := fun e => by have := beq_iff_eq.1 e; omega
      rw [count_hit (by simp) hi, Nat.add_comm, splitK, if_neg hne, hi]
      simp only [Int.toNat_natCast, Nat.add_zero, List.length_cons, List.length_nil, Nat.zero_add]
      rw [ih _ (by rw [List.length_drop]; omega)]
      conv => rhs; rw [hs, bl_hit _ _ _ hpre]
      simp
theorem linesB_bytes (s : ByteArray) : (linesB s).map (·.data.toList) = bl [] s.data.toList := by
  unfold linesB
  rw [splitB_data]
  exact split_bl _ _ (Nat.le_refl _)

theorem bl_sum : ∀ (l cur : List UInt8), ((bl cur l).map List.length).sum ≤ cur.length + l.length
  | [], cur => by simp [bl]
  | b :: t, cur => by
    rw [bl]
    split
    · have := bl_sum t []; simp at this ⊢; omega
    · have := bl_sum t (cur ++ [b]); simp at this ⊢; omega
theorem bl_length : ∀ (l cur : List UInt8), (bl cur l).length ≤ l.length + 1
  | [], cur => by simp [bl]
  | b :: t, cur => by
    rw [bl]
    split
    · have := bl_length t []; simp; omega
    · have := bl_length t (cur ++ [b]); simp; omega
theorem linesB_size (s x : ByteArray) (h : x ∈ linesB s) : x.size ≤ s.size := by
  have hm : x.data.toList ∈ bl [] s.data.toList := by rw [← linesB_bytes]; exact List.mem_map_of_mem h
  have h1 := sum_ge_mem _ _ (List.mem_map_of_mem (f := List.length) hm)
  have h2 := bl_sum s.data.toList []
  have e1 := data_length s
  have e2 := data_length x
  simp only [List.length_nil] at h2
  omega
theorem linesB_length (s : ByteArray) : (linesB s).length ≤ s.size + 1 ∧ (linesB s).length = Lib.countB s nlB + 1 := by
  have h1 := bl_length s.data.toList []
  rw [← linesB_bytes, List.length_map] at h1
  have e1 := data_length s
  refine ⟨by omega, ?_⟩
  have key : ∀ (k : Nat) (l : List UInt8), k = count l [10] → (splitK [10] 0 k l).length = k + 1 := by
    intro k
    induction k with
    | zero => intro l _; simp [splitK]
    | succ k ih =>
      intro l hk
      rcases index_spec l [10] with ⟨hm, hno⟩ | ⟨i, hi, hil, hocc, hno⟩
      · rw [count_miss hm] at hk; omega
      · have hc := count_hit (sub := [10]) (by simp) hi
        have hne : ¬ (index l [10] == -1) = true := fun e => by have := beq_iff_eq.1 e; omega
        rw [splitK, if_neg hne, hi, List.length_cons]
        simp only [Int.toNat_natCast]
        rw [ih _ (by omega)]
  have h2 := key _ s.data.toList rfl
  have h3 : (linesB s).length = (splitK [10] 0 (count s.data.toList [10]) s.data.toList).length := by
    rw [← List.length_map (f := fun x : ByteArray => x.data.toList)]
    unfold linesB
    rw [splitB_data]
    rfl
  rw [h3, h2]
  rfl

end Go.Proofs.YtfigaamgcmifeaaDoor
