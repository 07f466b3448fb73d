/- config.Parse: what is made of a text. -/
import Derived.Test.YtfigaamgcmifeaaDoorLf
import Derived.Test.YtfigaamgcmifeaaDoorLn
namespace Go.Proofs.YtfigaamgcmifeaaDoor
open Go.RowKit Go.Lib Go.Proofs.YtfigaamgcmifeaaDoorW.PrintWords
set_option linter.unusedVariables false

theorem cfg_zero (w : World) : Cfg w (.agg #[.slice none 0 0, .slice none 0 0, .slice none 0 0, .slice none 0 0, .int .i64 0, .complex .f64 0 0]) St.none [] :=
  ⟨none, 0, none, 0, none, 0, none, 0, rfl, Kd.C_nil _ _, Nat.le_refl _, (fun k x hx => by simp at hx), Nat.le_refl _, Kd.C_nil _ _, Kd.C_nil _ _⟩

theorem Rdr.start {w : World} {r : Nat} (h : w.heap[r]? = some (.cells #[.slice none 0 0, .slice none 0 0, .slice none 0 0, .slice none 0 0, .int .i64 0, .complex .f64 0 0, .slice none 0 0, .bool false, .bool false] 47 (0, 0))) (ok : Nat → Prop) : Rdr w r ok St.none :=
  ⟨_, _, _, _, h, Kd.R_nil .., Kd.R_nil .., Kd.R_nil .., Kd.R_nil ..⟩

theorem six {w : World} {g : Nat} {a b c d e f : Value} (h : w.heap[g]? = some (.cells #[a, b, c, d, e, f] 29 (0, 0))) :
    (w.cell? ⟨g, 0, none⟩ = some a ∧ w.cell? ⟨g, 1, none⟩ = some b ∧ w.cell? ⟨g, 2, none⟩ = some c ∧ w.cell? ⟨g, 3, none⟩ = some d ∧ w.cell? ⟨g, 4, none⟩ = some e ∧ w.cell? ⟨g, 5, none⟩ = some f) ∧
    (w.frozen? ⟨g, 0, none⟩ = false ∧ w.frozen? ⟨g, 1, none⟩ = false ∧ w.frozen? ⟨g, 2, none⟩ = false ∧ w.frozen? ⟨g, 3, none⟩ = false ∧ w.frozen? ⟨g, 4, none⟩ = false ∧ w.frozen? ⟨g, 5, none⟩ = false) :=
  ⟨⟨blk_cell h 0, blk_cell h 1, blk_cell h 2, blk_cell h 3, blk_cell h 4, blk_cell h 5⟩, blk_frozen h 0, blk_frozen h 1, blk_frozen h 2, blk_frozen h 3, blk_frozen h 4, blk_frozen h 5⟩

def set6 (w : World) (g : Nat) (a b c d e f : Value) : World :=
  (((((w.setCell ⟨g, 0, none⟩ a).setCell ⟨g, 1, none⟩ b).setCell ⟨g, 2, none⟩ c).setCell ⟨g, 3, none⟩ d).setCell ⟨g, 4, none⟩ e).setCell ⟨g, 5, none⟩ f
theorem set6_heap {w : World} {g : Nat} {a b c d e f z0 z1 z2 z3 z4 z5 : Value} (h : w.heap[g]? = some (.cells #[z0, z1, z2, z3, z4, z5] 29 (0, 0))) :
    (set6 w g a b c d e f).heap[g]? = some (.cells #[a, b, c, d, e, f] 29 (0, 0)) := by
  have h0 := blk_set h 0 a
  have h1 := blk_set h0 1 b
  have h2 := blk_set h1 2 c
  have h3 := blk_set h2 3 d
  have h4 := blk_set h3 4 e
  exact blk_set h4 5 f
theorem set6_below {w W0 : World} {B g : Nat} (h : Below B W0 w) (hg : B ≤ g) (a b c d e f : Value) : Below B W0 (set6 w g a b c d e f) :=
  (((((h.setCell (p := ⟨g, 0, none⟩) hg a).setCell (p := ⟨g, 1, none⟩) hg b).setCell (p := ⟨g, 2, none⟩) hg c).setCell (p := ⟨g, 3, none⟩) hg d).setCell (p := ⟨g, 4, none⟩) hg e).setCell (p := ⟨g, 5, none⟩) hg f
theorem set6_other {w : World} {g k : Nat} (hk : k ≠ g) (a b c d e f : Value) : (set6 w g a b c d e f).heap[k]? = w.heap[k]? := by
  unfold set6
  rw [Below.heap_setCell _ _ _ _ hk, Below.heap_setCell _ _ _ _ hk, Below.heap_setCell _ _ _ _ hk, Below.heap_setCell _ _ _ _ hk, Below.heap_setCell _ _ _ _ hk, Below.heap_setCell _ _ _ _ hk]
theorem R_set6 {α : Type} {dd : Kd α} {te base : Nat} {ok : Nat → Prop} {v : Value} {xs : List α} {w : World} {g : Nat} {a b c d e f z0 z1 z2 z3 z4 z5 : Value} (hR : Kd.R dd te w base ok v xs)
    (h : w.heap[g]? = some (.cells #[z0, z1, z2, z3, z4, z5] 29 (0, 0))) (hne : ∀ q, q ∈ te :: dd.E → q ≠ 29) : Kd.R dd te (set6 w g a b c d e f) base ok v xs := by
  have h0 := blk_set h 0 a
  have h1 := blk_set h0 1 b
  have h2 := blk_set h1 2 c
  have h3 := blk_set h2 3 d
  have h4 := blk_set h3 4 e
  exact Kd.R_set (Kd.R_set (Kd.R_set (Kd.R_set (Kd.R_set (Kd.R_set hR h hne 0 a) h0 hne 1 b) h1 hne 2 c) h2 hne 3 d) h3 hne 4 e) h4 hne 5 f

/-- What Parse hands back. -/
def ParseP (w : World) (p : Parsed) (e : Ending) (w' : World) : Prop :=
  Below w.heap.size w w' ∧ ∃ v, e = .returned (.tuple #[v, .int .i64 p.line, .int .i64 p.err]) ∧ Cfg w' v p.st p.up

attribute [local go_sem] run_store_complex
theorem parse_end {w W : World} {p : Parsed} {tmps : Array Value} {a b c d : Value} {bn i e : Int} {re im : Nat} (h2 : tmps[2]? = some (.pointer (some ⟨w.heap.size, 0, none⟩))) (h3 : tmps[3]? = some (.int .i64 i)) (h4 : tmps[4]? = some (.int .i64 e))
    (hc : W.heap[w.heap.size]? = some (.cells #[a, b, c, d, .int .i64 bn, .complex .f64 re im] 29 (0, 0))) (hB : Below w.heap.size w W) (hC : Cfg W (.agg #[a, b, c, d, .int .i64 bn, .complex .f64 re im]) p.st p.up) (hl : p.line = i) (he : p.err = e) :
    bodyPost Tryd.prog Tryd.f6 (fun e w' => ParseP w p e w') .ret { tmps := tmps, defers := [] } W := by
  have c0 := blk_cell hc 0
  have c1 := blk_cell hc 1
  have c2 := blk_cell hc 2
  have c3 := blk_cell hc 3
  have c4 := blk_cell hc 4
  have c5 := blk_cell hc 5
  refine bodyPost_ret (v := .tuple #[.agg #[a, b, c, d, .int .i64 bn, .complex .f64 re im], .int .i64 i, .int .i64 e]) ?_ rfl ⟨hB, _, by rw [hl, he], hC⟩
  simp [results, Tryd.results6, go_sem, h2, h3, h4, c0, c1, c2, c3, c4, c5]

theorem split_calls (t : ByteArray) (m : Int) (w : World) (ht : t.size ≤ 4294967280) (hm : w.cell? ⟨1, 0, none⟩ = some (.int .i64 m)) :
    Calls Tryd.prog 18 #[.string t, .string ⟨#[10]⟩] w fun e w' => e = .returned (.slice (some ⟨w.heap.size, 0, none⟩) (linesB t).length (linesB t).length) ∧
      w'.heap[w.heap.size]? = some (.cells ((linesB t).map Value.string).toArray 9 (0, 0)) ∧ Below w.heap.size w w' := by
  refine (Tryd.strings_Split t ⟨#[10]⟩ m w (by omega) hm (by decide)).mono ?_
  rintro e w' ⟨rfl, rfl⟩
  refine ⟨?_, World.alloc_heap_new w _, (Below.refl _ _).alloc (Nat.le_refl _) _⟩
  rw [(linesB_length t).2]
  rfl

set_option maxRecDepth 100000 in
set_option maxHeartbeats 8000000 in
theorem Parse_calls (t : ByteArray) (m : Int) (w : World) (hm : w.cell? ⟨1, 0, none⟩ = some (.int .i64 m)) (hT : TabAt 0 Lib.deBruijn64tab w) :
    Calls Tryd.prog 6 #[.string t] w fun e w' => ParseP w (parseS t) e w' := by
  by_cases hbig : 65536 < t.size
  · have He : Hid (parseS t = Parsed.bad 0 2) := Lib.hid (by unfold parseS; rw [if_pos hbig])
    have q1 : ((65536 : Int) < (t.size : Int)) = True := eq_true (by omega)
    go_enter Tryd.func6, Tryd.ntmps6
    go_wp2
    rw [He.out]
    exact parse_end rfl rfl rfl (World.alloc_heap_new w _) ((Below.refl _ _).alloc (Nat.le_refl _) _) (cfg_zero _) rfl rfl
  · have q1 : ((65536 : Int) < (t.size : Int)) = False := eq_false (by omega)
    have ht : t.size ≤ 4294967280 := by omega
    have He : Hid (parseS t = if (runS St.none 0 (linesB t)).2.2 = 0 then closeS (runS St.none 0 (linesB t)).1 else .bad (runS St.none 0 (linesB t)).2.1 (runS St.none 0 (linesB t)).2.2) := Lib.hid (by unfold parseS; rw [if_neg hbig])
    have hsp := fun w hm => split_calls t m w ht hm
    have hlz : ∀ x ∈ linesB t, x.size ≤ 65536 := fun x hx => Nat.le_trans (linesB_size t x hx) (by omega)
    have hll : (linesB t).length ≤ 65537 := by have := (linesB_length t).1; omega
    generalize linesB t = ls at *
    have h1w : 1 < w.heap.size := World.block_lt_of_cell? w _ hm
    have Hsp := Lib.hid hsp
    have Hlz := Lib.hid hlz
    clear hsp hlz
    go_enter Tryd.func6, Tryd.ntmps6
    go_wp2_with (first
      | (go_at_call 17; refine (kinds_calls _).mono ?_; rintro e w1 ⟨rfl, hk1, hb1⟩)
      | (go_at_call 18; refine (Hsp.out _ ((hb1.cell (p := ⟨1, 0, none⟩) (by show 1 < _; simp only [World.size_alloc]; omega)).trans (al1 (al1 hm _) _))).mono ?_; rintro e w2 ⟨rfl, hs2, hb2⟩))
    have hzB : Below w.heap.size w ((w.alloc (.cells #[.slice none 0 0, .slice none 0 0, .slice none 0 0, .slice none 0 0, .int .i64 0, .complex .f64 0 0] 29)).alloc
        (.cells #[.slice none 0 0, .slice none 0 0, .slice none 0 0, .slice none 0 0, .int .i64 0, .complex .f64 0 0, .slice none 0 0, .bool false, .bool false] 47)) := ((Below.refl _ _).alloc (Nat.le_refl _) _).alloc (by simp) _
    have hz0 := World.alloc_heap_new w (.cells #[.slice none 0 0, .slice none 0 0, .slice none 0 0, .slice none 0 0, .int .i64 0, .complex .f64 0 0] 29)
    have hz1 := World.alloc_heap_new (w.alloc (.cells #[.slice none 0 0, .slice none 0 0, .slice none 0 0, .slice none 0 0, .int .i64 0, .complex .f64 0 0] 29))
      (.cells #[.slice none 0 0, .slice none 0 0, .slice none 0 0, .slice none 0 0, .int .i64 0, .complex .f64 0 0, .slice none 0 0, .bool false, .bool false] 47)
    replace hz0 := (Below.heap_alloc (w.alloc (.cells #[.slice none 0 0, .slice none 0 0, .slice none 0 0, .slice none 0 0, .int .i64 0, .complex .f64 0 0] 29))
      (.cells #[.slice none 0 0, .slice none 0 0, .slice none 0 0, .slice none 0 0, .int .i64 0, .complex .f64 0 0, .slice none 0 0, .bool false, .bool false] 47) w.heap.size (by simp)).trans hz0
    simp only [World.size_alloc] at hz1 hk1
    have hs0 := hb1.size
    simp only [World.size_alloc] at hs0
    have hH2 := (hb2.block w.heap.size (by omega)).trans ((hb1.block w.heap.size (by simp; omega)).trans hz0)
    have hR2 := (hb2.block (w.heap.size + 1) (by omega)).trans ((hb1.block (w.heap.size + 1) (by simp)).trans hz1)
    have hk2 := (hb2.block (w.heap.size + 1 + 1) (Array.getElem?_eq_some_iff.1 hk1).1).trans hk1
    have hB2 : Below w.heap.size w w2 := (hzB.trans (hb1.mono (by simp; omega))).trans (hb2.mono (by omega))
    have hS2 := (Array.getElem?_eq_some_iff.1 hs2).1
    have hkl := (Array.getElem?_eq_some_iff.1 hk1).1
    clear hb1 hb2 hzB hz0 hz1 hk1
    generalize hG : w1.heap.size = G at *
    have Hs2 := Lib.hid hs2
    have HH2 := Lib.hid hH2
    have HR2 := Lib.hid hR2
    have Hk2 := Lib.hid hk2
    clear hs2 hH2 hR2 hk2
    go_loopw [22] (fun p wr => ∃ (j : Nat) (st : St), p = .int .i64 (j : Int) ∧ j ≤ ls.length ∧ Rdr wr (w.heap.size + 1) (fun k => G < k) st ∧ WF st ∧ st.pairs.length ≤ j ∧ Hid (runS St.none 0 ls = runS st j (ls.drop j)) ∧
        Hid (wr.heap[w.heap.size]? = w2.heap[w.heap.size]?) ∧ Hid (wr.heap[w.heap.size + 1 + 1]? = w2.heap[w.heap.size + 1 + 1]?) ∧ Hid (wr.heap[G]? = w2.heap[G]?) ∧ Below w.heap.size w wr ∧ G < wr.heap.size)
      (fun p _ => ls.length - (intOf p).toNat)
    case atStart =>
      exact ⟨0, St.none, rfl, by omega, Rdr.start HR2.out _, WF.none, by simp [St.none], Lib.hid rfl, Lib.hid rfl, Lib.hid rfl, Lib.hid rfl, hB2, hS2⟩
    case round =>
      obtain ⟨j, st, rfl, hj, hR, hWF, hpl, Hrun, E1, E2, E3, hB, hGl⟩ := hrel
      by_cases hjl : j < ls.length
      · have hx : ls[j]? = some (ls[j]'hjl) := List.getElem?_eq_getElem hjl
        have hxs := Hlz.out (ls[j]'hjl) (List.getElem_mem hjl)
        have hcj : wr.cell? ⟨G, j, none⟩ = some (.string (ls[j]'hjl)) := by
          rw [blk_cell (E3.out.trans Hs2.out), List.getElem?_toArray, List.getElem?_map, hx]; rfl
        have hd : ls.drop j = ls[j]'hjl :: ls.drop (j + 1) := List.drop_eq_getElem_cons hjl
        rw [hd] at Hrun
        have hlc := line_calls (w.heap.size + 1) (w.heap.size + 1 + 1) (fun k => G < k) st (ls[j]'hjl) wr (by omega) (E2.out.trans Hk2.out) hR hWF.l1 hWF.l2 hWF.l3 (by omega)
        generalize ls[j]'hjl = x at *
        have hW2 := hWF.line (wordsB x)
        have hr2 : runS st j (x :: ls.drop (j + 1)) = if (lineS st (wordsB x)).1 = 0 then runS (lineS st (wordsB x)).2 (j + 1) (ls.drop (j + 1)) else ((lineS st (wordsB x)).2, (j : Int) + 1, (lineS st (wordsB x)).1) := rfl
        have Hr2 := Lib.hid hr2
        have Hlc := Lib.hid hlc
        have HR := Lib.hid hR
        clear hr2 hlc hx hd hR
        generalize lineS st (wordsB x) = res at *
        obtain ⟨er, st'⟩ := res
        simp only at hW2
        by_cases her : er = 0
        · subst her
          rw [if_pos rfl] at Hr2
          go_wp2_with (go_at_call 19; refine Hlc.out.mono ?_; rintro e w3 ⟨rfl, hR3, hK3⟩)
          have hs3 := hK3.below.size
          refine ⟨⟨j + 1, st', rfl, by omega, hR3.mono (fun k hk => by rcases hk with h | h; exact h; show G < k; omega), hW2.1, by omega, Lib.hid (Hrun.out.trans Hr2.out), Lib.hid ?_, Lib.hid ?_, Lib.hid ?_, ?_, by omega⟩, by simp [intOf]; omega⟩
          · exact (hK3.keep w.heap.size (by omega) (by show ¬ G < _; omega) (by omega)).trans E1.out
          · exact (hK3.keep (w.heap.size + 1 + 1) (by omega) (by show ¬ G < _; omega) (by omega)).trans E2.out
          · exact (hK3.keep G (by omega) (by show ¬ G < _; omega) (by omega)).trans E3.out
          · refine hB.trans ⟨hK3.below.os, hK3.below.tape, hK3.below.output, hK3.below.size, fun k hk => hK3.keep k (by omega) (by show ¬ G < _; omega) (by omega)⟩
        · have q2 : (er != 0) = true := by simpa using her
          rw [if_neg her] at Hr2
          have Hf : Hid (parseS t = Parsed.bad ((j : Int) + 1) er) := Lib.hid (by rw [He.out, Hrun.out, Hr2.out]; simp only [if_neg her])
          go_wp2_with (go_at_call 19; refine Hlc.out.mono ?_; rintro e w3 ⟨rfl, hR3, hK3⟩; have hH3 := (hK3.keep w.heap.size (by omega) (by show ¬ G < _; omega) (by omega)).trans (E1.out.trans HH2.out); obtain ⟨⟨c0, c1, c2, c3, c4, c5⟩, f0, f1, f2, f3, f4, f5⟩ := six hH3)
          rw [Hf.out]
          have hB3 : Below w.heap.size w w3 := hB.trans ⟨hK3.below.os, hK3.below.tape, hK3.below.output, hK3.below.size, fun k hk => hK3.keep k (by omega) (by show ¬ G < _; omega) (by omega)⟩
          exact parse_end rfl rfl rfl (set6_heap hH3) (set6_below hB3 (Nat.le_refl _) _ _ _ _ _ _) (cfg_zero _) rfl rfl
      · obtain rfl : j = ls.length := by omega
        rw [List.drop_length] at Hrun
        have Hcl : Hid (parseS t = closeS st) := Lib.hid (by rw [He.out, Hrun.out]; simp [runS])
        have hH3 := E1.out.trans HH2.out
        obtain ⟨⟨c0, c1, c2, c3, c4, c5⟩, f0, f1, f2, f3, f4, f5⟩ := six hH3
        have HR := Lib.hid hR
        obtain ⟨vL, vU, vP, vE, hb, hL, hU, hP, hE⟩ := hR
        obtain ⟨AL, cL, rfl, hcL, hCL⟩ := Kd.R_reads hL
        obtain ⟨AE, cE, rfl, hcE, hCE⟩ := Kd.R_reads hE
        obtain ⟨AU, cU, rfl, hcU, hCU⟩ := Kd.R_reads hU
        obtain ⟨AP, cP, rfl, hcP, hCP⟩ := Kd.R_reads hP
        have r0 := blk_cell hb 0
        have r6 := blk_cell hb 6
        have r7 := blk_cell hb 7
        have r8 := blk_cell hb 8
        simp only [List.getElem?_toArray, List.getElem?_cons_zero, List.getElem?_cons_succ] at r0 r6 r7 r8
        by_cases hl0 : st.labels.length = 0
        · have Hf : Hid (parseS t = Parsed.bad 0 7) := Lib.hid (by rw [Hcl.out, closeS, if_pos (.inl hl0)])
          rw [hl0] at r0
          go_wp2
          rw [Hf.out]
          exact parse_end rfl rfl rfl (set6_heap hH3) (set6_below hB (Nat.le_refl _) _ _ _ _ _ _) (cfg_zero _) rfl rfl
        · have q3 : ((st.labels.length : Int) == 0) = false := by rw [beq_eq_false_iff_ne]; omega
          cases hbnd : st.bnd with
          | false =>
            rw [hbnd] at r7
            have Hf : Hid (parseS t = Parsed.bad 0 7) := Lib.hid (by rw [Hcl.out, closeS, if_pos (.inr (.inl hbnd))])
            go_wp2
            rw [Hf.out]
            exact parse_end rfl rfl rfl (set6_heap hH3) (set6_below hB (Nat.le_refl _) _ _ _ _ _ _) (cfg_zero _) rfl rfl
          | true =>
            rw [hbnd] at r7
            cases hpsd : st.psd with
            | false =>
              rw [hpsd] at r8
              have Hf : Hid (parseS t = Parsed.bad 0 7) := Lib.hid (by rw [Hcl.out, closeS, if_pos (.inr (.inr hpsd))])
              go_wp2
              rw [Hf.out]
              exact parse_end rfl rfl rfl (set6_heap hH3) (set6_below hB (Nat.le_refl _) _ _ _ _ _ _) (cfg_zero _) rfl rfl
            | true =>
              rw [hpsd] at r8
              have Hcs : Hid (closeS st = if rightB (buildS st.labels.length st.pairs) = true then ⟨st, buildS st.labels.length st.pairs, 0, 0⟩ else .bad 0 9) := Lib.hid (by rw [closeS, if_neg (by rintro (h | h | h); exact hl0 h; rw [hbnd] at h; cases h; rw [hpsd] at h; cases h)])
              go_wp2
              have hn64 : st.labels.length ≤ 64 := hWF.l1
              have hCl := hWF.ps
              have HCl := Lib.hid hCl
              clear hCl
              generalize hn : st.labels.length = n at *
              have Hn := Lib.hid hn
              clear hn
              have hrl : w.heap.size + 1 < wr.heap.size := (Array.getElem?_eq_some_iff.1 hb).1
              have hgw : G < wr.heap.size := hGl
              have hT4 : TabAt 0 Lib.deBruijn64tab wr := fun i hi => (hB.cell (p := ⟨0, i, none⟩) (by show 0 < _; omega)).trans (hT i hi)
              have Hb := Lib.hid hb
              clear hb
              cases hr : rightB (buildS n st.pairs) with
              | true =>
                rw [hr, if_pos rfl] at Hcs
                go_region_held3 (fun w' => w'.cell? ⟨w.heap.size + 1, 0, none⟩ = some (.slice AL n cL) ∧ w'.cell? ⟨w.heap.size + 1, 6, none⟩ = some (.slice AE st.pairs.length cE))
                  (first | go_keep | exact ⟨(hb4.cell (p := ⟨w.heap.size + 1, 0, none⟩) hrl).trans r0, (hb4.cell (p := ⟨w.heap.size + 1, 6, none⟩) hrl).trans r6⟩)
                  ((go_at_call 20; refine (Build_calls AE _ cE n st.pairs _ (by omega) hn64 (Kd.C_below hCE (below_drew (Below.refl _ _))) (by omega) HCl.out hT4 (by show 0 < wr.heap.size; omega)).mono ?_; rintro e w4 hBl; obtain ⟨hb4, hif⟩ := hBl; rw [hr, if_pos rfl] at hif; obtain ⟨g2, rfl, hg2, hG2⟩ := hif))
                have hb4' := undrew (n := 1) hb4
                have hb5 := (hb4'.block (w.heap.size + 1) hrl).trans Hb.out
                have hH4 := (hb4'.block w.heap.size (by omega)).trans hH3
                clear hb4 c0 c1 c2 c3 c4 c5 f0 f1 f2 f3 f4 f5 r0 r6 r7 r8
                obtain ⟨⟨c0, c1, c2, c3, c4, c5⟩, f0, f1, f2, f3, f4, f5⟩ := six hH4
                have r0 := blk_cell hb5 0
                have r1 := blk_cell hb5 1
                have r2 := blk_cell hb5 2
                have r3 := blk_cell hb5 3
                have r4 := blk_cell hb5 4
                have r5 := blk_cell hb5 5
                simp only [List.getElem?_toArray, List.getElem?_cons_zero, List.getElem?_cons_succ] at r0 r1 r2 r3 r4 r5
                have fr1 := blk_frozen hb5 1
                have Hb5 := Lib.hid hb5
                have HH4 := Lib.hid hH4
                have HG2 := Lib.hid hG2
                clear hb5 hH4 hG2
                have Hf : Hid (parseS t = ⟨st, buildS n st.pairs, 0, 0⟩) := Lib.hid (by rw [Hcl.out, Hcs.out])
                go_wp2
                rw [Hf.out]
                have hlen : (buildS n st.pairs).length = n := (Good.all (Good.pairs (Good.start hn64) (fun p hp => by have := HCl.out p hp; omega))).len
                have hB4 : Below w.heap.size w w4 := hB.trans (hb4'.mono (by omega))
                have hg2' : wr.heap.size ≤ g2 := hg2
                have hH5 := (Below.heap_setCell w4 ⟨w.heap.size + 1, 1, none⟩ (.slice (some ⟨g2, 0, none⟩) n n) w.heap.size (by show w.heap.size ≠ w.heap.size + 1; omega)).trans HH4.out
                refine parse_end rfl rfl rfl (set6_heap hH5) (set6_below (hB4.setCell (p := ⟨w.heap.size + 1, 1, none⟩) (by show w.heap.size ≤ w.heap.size + 1; omega) _) (Nat.le_refl _) _ _ _ _ _ _) ?_ rfl rfl
                have tL := Kd.R_reads' (R_set6 (a := .slice AL n cL) (b := .slice (some ⟨g2, 0, none⟩) n n) (c := .slice AU st.users.length cU) (d := .slice AP st.preds.length cP) (e := .int .i64 st.bound) (f := .complex .f64 st.re st.im) (Kd.R_set (Kd.R_below hL hb4') Hb5.out (by decide) 1 (.slice (some ⟨g2, 0, none⟩) n n)) hH5 (by decide))
                have tU := Kd.R_reads' (R_set6 (a := .slice AL n cL) (b := .slice (some ⟨g2, 0, none⟩) n n) (c := .slice AU st.users.length cU) (d := .slice AP st.preds.length cP) (e := .int .i64 st.bound) (f := .complex .f64 st.re st.im) (Kd.R_set (Kd.R_below hU hb4') Hb5.out (by decide) 1 (.slice (some ⟨g2, 0, none⟩) n n)) hH5 (by decide))
                have tP := Kd.R_reads' (R_set6 (a := .slice AL n cL) (b := .slice (some ⟨g2, 0, none⟩) n n) (c := .slice AU st.users.length cU) (d := .slice AP st.preds.length cP) (e := .int .i64 st.bound) (f := .complex .f64 st.re st.im) (Kd.R_set (Kd.R_below hP hb4') Hb5.out (by decide) 1 (.slice (some ⟨g2, 0, none⟩) n n)) hH5 (by decide))
                have hG6 : (set6 (w4.setCell ⟨w.heap.size + 1, 1, none⟩ (.slice (some ⟨g2, 0, none⟩) n n)) w.heap.size (.slice AL n cL) (.slice (some ⟨g2, 0, none⟩) n n) (.slice AU st.users.length cU) (.slice AP st.preds.length cP) (.int .i64 st.bound) (.complex .f64 st.re st.im)).heap[g2]? = some (.cells (upV (buildS n st.pairs)) 40 (0, 0)) :=
                  (set6_other (by omega) _ _ _ _ _ _).trans ((Below.heap_setCell w4 ⟨w.heap.size + 1, 1, none⟩ _ g2 (by show g2 ≠ w.heap.size + 1; omega)).trans HG2.out)
                refine ⟨AL, cL, some ⟨g2, 0, none⟩, n, AU, cU, AP, cP, by rw [Hn.out, hlen], tL.2.2, by rw [Hn.out]; exact hcL, fun k x hx => ⟨g2, 0, rfl, ?_⟩, by rw [hlen]; exact Nat.le_refl _, tU.2.2, tP.2.2⟩
                have hx' : (buildS n st.pairs)[k]? = some x := hx
                rw [Nat.zero_add]
                refine (blk_cell hG6 k).trans ?_
                rw [upV_get _ _ (List.getElem?_eq_some_iff.1 hx').1, List.getD_eq_getElem?_getD, hx']
                rfl
              | false =>
                rw [hr, if_neg (by decide)] at Hcs
                have Hf : Hid (parseS t = Parsed.bad 0 9) := Lib.hid (by rw [Hcl.out, Hcs.out])
                go_region_held3 (fun w' => w'.cell? ⟨w.heap.size + 1, 0, none⟩ = some (.slice AL n cL) ∧ w'.cell? ⟨w.heap.size + 1, 6, none⟩ = some (.slice AE st.pairs.length cE))
                  (first | go_keep | exact ⟨(hb4.cell (p := ⟨w.heap.size + 1, 0, none⟩) hrl).trans r0, (hb4.cell (p := ⟨w.heap.size + 1, 6, none⟩) hrl).trans r6⟩)
                  ((go_at_call 20; refine (Build_calls AE _ cE n st.pairs _ (by omega) hn64 (Kd.C_below hCE (below_drew (Below.refl _ _))) (by omega) HCl.out hT4 (by show 0 < wr.heap.size; omega)).mono ?_; rintro e w4 hBl; obtain ⟨hb4, hif⟩ := hBl; rw [hr, if_neg (by decide)] at hif; subst hif))
                have hb4' := undrew (n := 1) hb4
                have hH4 := (hb4'.block w.heap.size (by omega)).trans hH3
                clear hb4 c0 c1 c2 c3 c4 c5 f0 f1 f2 f3 f4 f5 r0 r6 r7 r8
                obtain ⟨⟨c0, c1, c2, c3, c4, c5⟩, f0, f1, f2, f3, f4, f5⟩ := six hH4
                go_wp2
                rw [Hf.out]
                exact parse_end rfl rfl rfl (set6_heap hH4) (set6_below (hB.trans (hb4'.mono (by omega))) (Nat.le_refl _) _ _ _ _ _ _) (cfg_zero _) rfl rfl
end Go.Proofs.YtfigaamgcmifeaaDoor
