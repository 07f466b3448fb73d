/- A line, all its ways joined. -/
import Derived.Test.YtfigaamgcmifeaaDoorLd
import Derived.Test.YtfigaamgcmifeaaDoorWp
namespace Go.Proofs.YtfigaamgcmifeaaDoor
open Go.RowKit Go.Proofs.YtfigaamgcmifeaaDoorW.PrintWords
set_option linter.unusedVariables false

theorem line_calls (r b : Nat) (ok : Nat → Prop) (st : St) (s : ByteArray) (w : World) (hs : s.size ≤ 4294967296) (hbm : w.heap[b]? = some (.map kindsEs 6)) (hR : Rdr w r ok st)
    (hl1 : st.labels.length ≤ 64) (hl2 : st.users.length ≤ 16) (hl3 : st.preds.length ≤ 32) (hl4 : st.pairs.length ≤ 100000) :
    Calls Tryd.prog 19 #[.pointer (some ⟨r, 0, none⟩), .string s, .map (some b)] w fun e w' =>
      e = .returned (.int .i64 (lineS st (wordsB s)).1) ∧ Rdr w' r (okN ok w) (lineS st (wordsB s)).2 ∧ Kp w w' r ok := by
  have hq : ∀ w' : World, Below w.heap.size w w' → Rdr w' r (okN ok w) st ∧ Kp w w' r ok := fun w' hb => hR.alike hb
  cases h : wordsB s with
  | nil =>
    refine (line_blank r b s w hs h).mono ?_
    rintro e w' ⟨rfl, hb⟩
    exact ⟨rfl, hq w' hb⟩
  | cons w0 rest =>
    by_cases h0 : w0.data.toList.head? = some 35
    · refine (line_note r b s w hs w0 rest h h0).mono ?_
      rintro e w' ⟨rfl, hb⟩
      have e : lineS st (w0 :: rest) = (0, st) := by rw [lineS, if_pos h0]
      rw [e]
      exact ⟨rfl, hq w' hb⟩
    · have hp : 0 < w0.size := wordsB_pos s w0 (by rw [h]; exact List.mem_cons_self)
      have hlen : rest.length ≤ 4294967296 := by have := wordsB_length s; rw [h, List.length_cons] at this; omega
      have hsz : ∀ x ∈ rest, x.size ≤ 4294967296 := fun x hx => by
        have := wordsB_size s x (by rw [h]; exact List.mem_cons_of_mem _ hx)
        omega
      cases hk : knOf w0 with
      | none =>
        refine (line_unknown r b s w hs w0 rest h hp h0 hk hbm).mono ?_
        rintro e w' ⟨rfl, hb⟩
        have e : lineS st (w0 :: rest) = (7, st) := by rw [lineS, if_neg h0, hk]
        rw [e]
        exact ⟨rfl, hq w' hb⟩
      | some k =>
        by_cases hn : rest.length = k.ws.size
        · exact line_words r b ok st s w hs w0 rest h hp h0 k hk hn hbm hR hl1 hl2 hl3 hl4 hsz
        · refine (line_count r b s w hs w0 rest h hp h0 k hk hn hbm hlen).mono ?_
          rintro e w' ⟨rfl, hb⟩
          have e : lineS st (w0 :: rest) = (7, st) := by rw [lineS, if_neg h0, hk]; simp only [if_pos hn]
          rw [e]
          exact ⟨rfl, hq w' hb⟩

end Go.Proofs.YtfigaamgcmifeaaDoor
