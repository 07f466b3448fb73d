/- poset.Pairs, where every label has at most one above it. -/
import Derived.Test.YtfigaamgcmifeaaDoorBd
import Derived.Maps.AppendAt
namespace Go.Proofs.YtfigaamgcmifeaaDoor
open Go.RowKit Go.Shelf Go.Lib
set_option linter.unusedVariables false

attribute [local go_sem] Oper.semAt_some

/-- A mask's bits, each with the word that it is one of them. -/
abbrev BitOf (m : Nat) := { k : Nat // m.testBit k = true }

set_option maxRecDepth 100000 in
set_option maxHeartbeats 4000000 in
theorem BitsM_in (l Bn n₀ : Nat) (n : Nat) (m : Nat) (hm : m < 18446744073709551616) (J Jx : List (BitOf m) → World → Prop)
    (hY : ∀ pre x W, J pre W → pre.length < 64 → YieldAt Fence.wide (n - 1) Tryd.prog l #[.int .i64 ((x : BitOf m).val : Nat)] W fun e W' =>
      (e = .returned (.bool true) ∧ J (pre ++ [x]) W' ∧ Below n₀ W W') ∨ (e = .returned (.bool false) ∧ Jx (pre ++ [x]) W'))
    (W : World) (hBn : W.cell? ⟨Bn, 0, none⟩ = some (.int .u64 m)) (hT : TabAt 0 Lib.deBruijn64tab W) (hn0 : 0 < n₀) (h0 : J [] W) :
    CallsIn Fence.wide n Tryd.prog 50 #[.func (.yield l) #[] #[], .pointer (some ⟨Bn, 0, none⟩)] W fun e W' => (∃ v, e = .returned v) ∧
      ((∃ ys : List (BitOf m), ys.map Subtype.val = bitsL m ∧ J ys W') ∨ (∃ pre : List (BitOf m), (∃ t, pre.map Subtype.val ++ t = bitsL m) ∧ Jx pre W')) := by
  refine callsIn_of_wp Tryd.func50 rfl trivial ?_ rfl
  simp only [Tryd.ntmps50, List.size_toArray, List.length_cons, List.length_nil, Nat.reduceAdd, Nat.reduceSub, Array.replicate_succ, Array.replicate_zero, List.push_toArray, List.append_toArray, List.nil_append, List.cons_append]
  gi_wp2
  gi_loopw [3] (fun p wr => ∃ (pre : List (BitOf m)) (q : Nat), p = .int .u64 (q : Int) ∧ q ≤ m ∧ pre.map Subtype.val ++ bitsL q = bitsL m ∧ TabAt 0 Lib.deBruijn64tab wr ∧ J pre wr)
    (fun p wr => (intOf p).toNat)
  case atStart =>
    exact ⟨[], m, rfl, Nat.le_refl _, rfl, hT, h0⟩
  case round =>
    obtain ⟨pre, q, rfl, hle, hx, hTr, hJs⟩ := hrel
    have hq : q < 18446744073709551616 := by omega
    by_cases hq0 : q = 0
    · subst hq0
      rw [bitsL_zero, List.append_nil] at hx
      have ht : (((0 : Nat) : Int) != 0) = false := by decide
      gi_wp2
      go_end0
      exact ⟨⟨_, rfl⟩, .inl ⟨pre, hx, hJs⟩⟩
    · have ht : ((q : Int) != 0) = true := by simp; omega
      rw [bitsL_step q hq0 hq] at hx
      obtain ⟨hc64, _, hcb, hcn⟩ := low_bits q hq0 hq
      have hcm : m.testBit (Lib.ctz 64 q) = true := (mem_bitsL m _ hm).1 (by rw [← hx]; simp)
      have hlen : pre.length < 64 := by
        have := bitsL_length m
        rw [← hx, List.length_append, List.length_map, List.length_cons] at this
        omega
      have hz := fun w hT => tz_calls q hq w hT
      obtain ⟨fn, tmps, assign, body, hy, hR⟩ := hY pre ⟨Lib.ctz 64 q, hcm⟩ wr hJs hlen
      dsimp only at hy
      have h9 : IntKind.u64.wrap ((q : Int) - 1) = ((q - 1 : Nat) : Int) := by rw [IntKind.wrap_u64]; omega
      have h10 : bits BinOp.and IntKind.u64 (q : Int) ((q - 1 : Nat) : Int) = ((q &&& (q - 1) : Nat) : Int) := bits_and_u64_nat q (q - 1) hq (by omega)
      have hlt : q &&& (q - 1) < q := Nat.lt_of_le_of_lt Nat.and_le_right (by omega)
      generalize hc : Lib.ctz 64 q = c at *
      generalize hq2 : q &&& (q - 1) = q2 at *
      gi_wp2_with (refine ⟨trivial, fun h => (by cases h), ?_⟩; gi_at_call 51; refine (callsIn_wide.2 (hz wr hTr)).mono ?_; rintro e w' ⟨rfl, rfl⟩)
      refine ⟨fun h => (by cases h), hR.mono ?_⟩
      rintro e W3 (⟨rfl, hJ3, hk3⟩ | ⟨rfl, hJx3⟩)
      · have hT3 : TabAt 0 Lib.deBruijn64tab W3 := fun j hj => (hk3.cell (p := ⟨0, j, none⟩) hn0).trans (hTr j hj)
        gi_wp2
        go_roundw
        case rel => exact ⟨pre ++ [⟨c, hcm⟩], q2, rfl, by omega, by simpa using hx, hT3, hJ3⟩
        case measure => simp [intOf]; omega
      · gi_wp2
        refine bodyPost_ret (results_none rfl _ _ _) rfl ?_
        exact ⟨⟨_, rfl⟩, .inr ⟨pre ++ [⟨c, hcm⟩], ⟨bitsL q2, by simpa using hx⟩, hJx3⟩⟩

theorem BitsM_stops (n Bn n₀ : Nat) (m : Nat) (hm : m < 18446744073709551616) (w : World) (hBn : Bn < w.heap.size) (hw : 0 < w.heap.size) (hn0 : 0 < n₀)
    (hc : w.cell? ⟨Bn, 0, none⟩ = some (.int .u64 m)) (hT : TabAt 0 Lib.deBruijn64tab w) :
    SeqStopsK Fence.wide n Tryd.prog 50 #[.pointer (some ⟨Bn, 0, none⟩)] (fun x : BitOf m => #[Value.int .i64 (x.val : Nat)]) (Below n₀) (fun ys => ys.map Subtype.val = bitsL m) (fun pre => ∃ t, pre.map Subtype.val ++ t = bitsL m) 64 w := fun l J Jx W hW _ _ hY h0 =>
  BitsM_in l Bn n₀ n m hm J Jx hY W ((hW.cell (p := ⟨Bn, 0, none⟩) hBn).trans hc) (fun j hj => (hW.cell (p := ⟨0, j, none⟩) hw).trans (hT j hj)) hn0 h0

/-- **A mask without a bit: nothing comes.** -/
theorem Bits0_stops (n Bn n₀ : Nat) (w : World) (hBn : Bn < w.heap.size) (hc : w.cell? ⟨Bn, 0, none⟩ = some (.int .u64 0)) :
    SeqStopsK Fence.wide n Tryd.prog 50 #[.pointer (some ⟨Bn, 0, none⟩)] (fun x : Nat => #[Value.int .i64 (x : Int)]) (Below n₀) (fun ys => ys = []) (fun _ => False) 0 w := fun l J Jx W hW _ _ hY h0 => by
  have hBn' := (hW.cell (p := ⟨Bn, 0, none⟩) hBn).trans hc
  show CallsIn Fence.wide n Tryd.prog 50 #[.func (.yield l) #[] #[], .pointer (some ⟨Bn, 0, none⟩)] W _
  refine callsIn_of_wp Tryd.func50 rfl trivial ?_ rfl
  simp only [Tryd.ntmps50, List.size_toArray, List.length_cons, List.length_nil, Nat.reduceAdd, Nat.reduceSub, Array.replicate_succ, Array.replicate_zero, List.push_toArray, List.append_toArray, List.nil_append, List.cons_append]
  gi_wp2
  gi_loopw [3] (fun p wr => p = .int .u64 0 ∧ J [] wr) (fun p wr => 0)
  case atStart => exact ⟨rfl, h0⟩
  case round =>
    obtain ⟨rfl, hJ⟩ := hrel
    gi_wp2
    go_end0
    exact ⟨⟨_, rfl⟩, .inl ⟨[], rfl, hJ⟩⟩

/-- The cells of pairs. -/
def pairCells (xs : List (Nat × Nat)) : List Value := xs.flatMap fun p => [.int .i64 (p.1 : Int), .int .i64 (p.2 : Int)]
/-- A label's pairs. -/
def rowPairs (st : Nat → Nat) (a : Nat) : List (Nat × Nat) := (bitsL (st a)).map fun b => (a, b)
def allPairs (st : Nat → Nat) (n : Nat) : List (Nat × Nat) := (List.range n).flatMap (rowPairs st)

theorem pairCells_snoc (xs : List (Nat × Nat)) (p : Nat × Nat) : pairCells (xs ++ [p]) = pairCells xs ++ [.int .i64 (p.1 : Int), .int .i64 (p.2 : Int)] := by simp [pairCells]
theorem allPairs_length (st : Nat → Nat) : ∀ n, (allPairs st n).length ≤ n * 64
  | 0 => by simp [allPairs]
  | n + 1 => by
    have h := allPairs_length st n
    have e : allPairs st (n + 1) = allPairs st n ++ rowPairs st n := by unfold allPairs; rw [List.range_succ, List.flatMap_append]; simp
    have := bitsL_length (st n)
    rw [e, List.length_append]
    simp only [rowPairs, List.length_map]
    omega
theorem info_two : (Tryd.prog.info? 78).map (fun i => (i.zero, i.size, i.bytes)) = some (some (.agg #[.int .i64 0, .int .i64 0]), 2, 16) := by kernel_rfl
theorem below_others {W W' : World} (h : Below W.heap.size W W') : KeepsOthers W W' := KeepsOthers.of_grownBy (YtfigaamgcmifeaaDoorW.PrintWords.grown_of_below h none) (fun j o e => by cases e)

theorem leaves_marks2 {F : Fence} {n : Nat} {P : Program} {fn : Func} {tmps : Array Value} {R : Ending → World → Prop} (B : Nat) : ∀ (Ds : List Nat) (W : World), Ds.Nodup → (∀ D ∈ Ds, B ≤ D ∧ W.heap[D]? = some (.deferred (some []))) →
    (∀ W', Below B W W' → (∀ (k : Nat) (o : Obj), W.heap[k]? = some o → o.isCells = true → W'.heap[k]? = some o) → LeavesIn F n P fn tmps R [] .returning W') → LeavesInM F n P fn tmps R (Ds.map mark) .returning W
  | [], W, _, _, K => K W (Below.refl _ _) (fun _ _ h _ => h)
  | D :: Ds, W, hnd, hD, K => by
    obtain ⟨hn1, hn2⟩ := List.nodup_cons.1 hnd
    have h0 := hD D (List.mem_cons_self)
    refine ⟨by simp, .inl ⟨D, _, rfl, run_takeDeferred h0.2, ?_⟩⟩
    refine leaves_marks2 B Ds _ hn2 (fun E hE => ?_) (fun W' hW' hc' => K W' ?_ (fun k o hk ho => hc' k o ?_ ho))
    · have hE' := hD E (List.mem_cons_of_mem _ hE)
      refine ⟨hE'.1, ?_⟩
      rw [World.putObj_heap_other (fun e => hn1 (by rw [← e]; exact hE))]
      exact hE'.2
    · exact ((Below.refl B W).grown (grownBy_putObj' W D (.deferred none)) (Nat.le_of_lt (Nat.lt_of_le_of_lt h0.1 (Array.getElem?_eq_some_iff.1 h0.2).1)) (fun k e => by cases e; exact h0.1)).trans hW'
    · rw [World.putObj_heap_other (fun e => by subst e; rw [h0.2] at hk; cases hk; cases ho)]
      exact hk

set_option maxRecDepth 100000 in
set_option maxHeartbeats 8000000 in
theorem Pairs_calls (b o n c : Nat) (us : List Nat) (st : Nat → Nat) (hn : us.length = n) (h1 : 1 ≤ n) (h64 : n ≤ 64) (hcap : n ≤ c) (hlt : ∀ x ∈ us, x < 18446744073709551616) (hri : rightB us = true)
    (hst : ∀ a, a < n → bits .andNot .u64 ((us.getD a 0 : Nat) : Int) ((2 ^ a : Nat) : Int) = ((st a : Nat) : Int) ∧ st a < 2 ^ n ∧ ∀ k, (st a).testBit k = true → bits .andNot .u64 ((st a : Nat) : Int) ((2 ^ k : Nat) : Int) = 0)
    (w : World) (hb : b < w.heap.size) (hb0 : 0 < w.heap.size)
    (hc : ∀ (k x : Nat), us[k]? = some x → w.cell? ⟨b, o + k, none⟩ = some (.int .u64 (x : Int))) (hT : TabAt 0 Lib.deBruijn64tab w) :
    Calls Tryd.prog 31 #[.slice (some ⟨b, o, none⟩) n c] w fun e w' => ∃ v, e = .returned v ∧ (∃ base, w'.ownsRow base 78 2 v (allPairs st n).length (pairCells (allPairs st n))) ∧ Below w.heap.size w w' := by
  have hslot := slot us w b o hc
  have hm : Tryd.prog.follows .mixedOrders = true := by kernel_rfl
  refine (callsIn_wide (n := 9)).1 ?_
  refine callsIn_of_wp_marks Tryd.func31 rfl trivial ?_ rfl
  simp only [Tryd.ntmps31, List.size_toArray, List.length_cons, List.length_nil, Nat.reduceAdd, Nat.reduceSub, Array.replicate_succ, Array.replicate_zero, List.push_toArray, List.append_toArray, List.nil_append, List.cons_append]
  have cR := fun w1 hb1 => Right_calls b o n c us hn h1 h64 hcap hlt w1 (Nat.lt_of_lt_of_le hb (Below.size hb1)) (Nat.lt_of_lt_of_le hb0 (Below.size hb1))
    (fun k x hx => YtfigaamgcmifeaaDoorW.PrintWords.pw_cell_below hb1 (hc k x hx)) (fun j hj => (Below.cell hb1 (p := ⟨0, j, none⟩) hb0).trans (hT j hj))
  rw [hri] at cR
  have CR := Lib.hid cR
  clear cR
  gi_wp2_with (refine ⟨trivial, ?_⟩; gi_at_call 12; refine (callsIn_wide.2 (CR.out _ ((Below.refl w.heap.size w).alloc (Nat.le_refl _) _))).mono ?_; rintro e wR ⟨rfl, hbR⟩; have hA0 := (hbR.block w.heap.size (by simp)).trans (World.alloc_heap_new w (.cells #[.slice (some ⟨b, o, none⟩) n c] 24)); have cA0 := al1 (Boxed.cell hA0) (.cells #[.slice none 0 0] 45))
  have bA := Boxed.alloc (t := 24) (v := .slice (some ⟨b, o, none⟩) n c) hA0 (.cells #[.slice none 0 0] 45)
  have bO := Boxed.new wR 45 (.slice none 0 0)
  have hBR : Below w.heap.size w wR := ((Below.refl w.heap.size w).alloc (Nat.le_refl _) _).trans (hbR.mono (by simp))
  have hsR : w.heap.size + 1 ≤ wR.heap.size := by have := hbR.size; simpa using this
  have hs1 : (wR.alloc (.cells #[.slice none 0 0] 45)).heap.size = wR.heap.size + 1 := by simp
  have hB1 : Below w.heap.size w (wR.alloc (.cells #[.slice none 0 0] 45)) := hBR.alloc hBR.size _
  clear hbR hA0 cA0
  generalize hP3 : wR.heap.size = P3 at *
  obtain ⟨W1, hW1⟩ : ∃ W1, wR.alloc (.cells #[.slice none 0 0] 45) = W1 := ⟨_, rfl⟩
  rw [hW1] at bA bO hs1 hB1 ⊢
  clear hW1 hBR CR
  refine wpIn_loop (fun a' wr => ∃ (i : Nat) (Ds : List Nat), ∃ u4 u5 u6 u7 u8 u15 u16 u17 u18 u19 u20 u21 u22 u23 u24 u25 u26 u27 u28 u29 u30 u31 u32 u33 u34 u35 u36 u37 u38 u39 u40 u41 u42 u43 u44 u45 u46 u47 u48 u49 u50 u51 u52 : Value, (i ≤ n ∧ Boxed wr w.heap.size 24 (.slice (some ⟨b, o, none⟩) n c) ∧ (∃ v, Boxed wr P3 45 v ∧ wr.ownsRow P3 78 2 v (allPairs st i).length (pairCells (allPairs st i))) ∧ Below P3 W1 wr ∧ P3 + 1 ≤ wr.heap.size ∧ Ds.Nodup ∧
      (∀ D ∈ Ds, P3 + 1 ≤ D ∧ wr.heap[D]? = some (.deferred (some [])))) ∧ a' = { tmps := #[.slice (some ⟨b, o, none⟩) n c, .pointer (some ⟨w.heap.size, 0, none⟩), .slice none 0 0, .pointer (some ⟨P3, 0, none⟩), u4, u5, u6, u7, u8, .slice (some ⟨b, o, none⟩) n c, .bool true, .bool false, .slice (some ⟨b, o, none⟩) n c, .int .i64 (n : Int), .int .i64 (i : Int), u15, u16, u17, u18, u19, u20, u21, u22, u23, u24, u25, u26, u27, u28, u29, u30, u31, u32, u33, u34, u35, u36, u37, u38, u39, u40, u41, u42, u43, u44, u45, u46, u47, u48, u49, u50, u51, u52, undef], defers := Ds.map mark })
    (fun a' _ => n - (intOf (a'.tmps.getD 14 undef)).toNat) ?start ?round
  case start =>
    exact ⟨0, [], _, _, _, _, _, _, _, _, _, _, _, _, _, _, _, _, _, _, _, _, _, _, _, _, _, _, _, _, _, _, _, _, _, _, _, _, _, _, _, _, _, _, _, ⟨Nat.zero_le _, bA, ⟨_, bO, World.ownsRow_nil ..⟩, Below.refl _ _, by omega, List.nodup_nil, fun D hD => by cases hD⟩, rfl⟩
  case round =>
    rintro _ wr ⟨i, Ds, u4, u5, u6, u7, u8, u15, u16, u17, u18, u19, u20, u21, u22, u23, u24, u25, u26, u27, u28, u29, u30, u31, u32, u33, u34, u35, u36, u37, u38, u39, u40, u41, u42, u43, u44, u45, u46, u47, u48, u49, u50, u51, u52, ⟨hi, bA', ⟨vO, bO', hO⟩, hB, hsz', hnd, hDs⟩, rfl⟩
    by_cases hin : i < n
    · gi_wp2
      have bA2 := bA'.alloc (.cells #[.int .i64 (i : Int)] 3)
      have bO2 := bO'.alloc (.cells #[.int .i64 (i : Int)] 3)
      have bI2 := Boxed.new wr 3 (.int .i64 (i : Int))
      have hO2 := hO.alloc (.cells #[.int .i64 (i : Int)] 3)
      have hB2 : Below P3 W1 (wr.alloc (.cells #[.int .i64 (i : Int)] 3)) := hB.alloc (by omega) _
      have hD2 : ∀ D ∈ Ds, P3 + 1 ≤ D ∧ (wr.alloc (.cells #[.int .i64 (i : Int)] 3)).heap[D]? = some (.deferred (some [])) := fun D hD => ⟨(hDs D hD).1, (Below.heap_alloc wr _ D (Array.getElem?_eq_some_iff.1 (hDs D hD).2).1).trans (hDs D hD).2⟩
      have hsz2 : (wr.alloc (.cells #[.int .i64 (i : Int)] 3)).heap.size = wr.heap.size + 1 := by simp
      generalize hX : wr.heap.size = X at *
      obtain ⟨W2, hW2⟩ : ∃ W2, wr.alloc (.cells #[.int .i64 (i : Int)] 3) = W2 := ⟨_, rfl⟩
      rw [hW2] at bA2 bO2 bI2 hO2 hB2 hD2 hsz2 ⊢
      have hBw2 : Below w.heap.size w W2 := hB1.trans (hB2.mono (by omega))
      have hslx : W2.cell? ⟨b, o + i, none⟩ = some (.int .u64 ((us.getD i 0 : Nat) : Int)) := (hBw2.cell (p := ⟨b, o + i, none⟩) hb).trans (hslot i (by omega))
      have hT2 : TabAt 0 Lib.deBruijn64tab W2 := fun j hj => (hBw2.cell (p := ⟨0, j, none⟩) hb0).trans (hT j hj)
      have cA := bA2.cell
      have cI := bI2.cell
      obtain ⟨hst1, hst2, hst3⟩ := hst i hin
      have hwp := wrap_pow i (by omega)
      rw [← pow_cast] at hst1
      have Hst3 := Lib.hid hst3
      clear hst3 hW2
      have hrp : allPairs st (i + 1) = allPairs st i ++ rowPairs st i := by unfold allPairs; rw [List.range_succ, List.flatMap_append]; simp
      have Hrp := Lib.hid hrp
      clear hrp
      have hrd : rowPairs st i = (bitsL (st i)).map fun b => (i, b) := rfl
      have Hrd := Lib.hid hrd
      clear hrd
      generalize us.getD i 0 = x at *
      generalize st i = sm at *
      have hsm : sm < 18446744073709551616 := Nat.lt_of_lt_of_le hst2 (Nat.pow_le_pow_right (n := 2) (by decide) h64 : 2 ^ n ≤ 2 ^ 64)
      have cA' := al1 cA (.cells #[.int .u64 0] 40)
      have cI' := al1 cI (.cells #[.int .u64 0] 40)
      have cx' := al1 hslx (.cells #[.int .u64 0] 40)
      gi_region
      have bA3 : Boxed (W2.alloc (.cells #[.int .u64 (sm : Int)] 40)).drew w.heap.size 24 (.slice (some ⟨b, o, none⟩) n c) := bA2.alloc _
      have bO3 : Boxed (W2.alloc (.cells #[.int .u64 (sm : Int)] 40)).drew P3 45 vO := bO2.alloc _
      have bI3 : Boxed (W2.alloc (.cells #[.int .u64 (sm : Int)] 40)).drew X 3 (.int .i64 (i : Int)) := bI2.alloc _
      have bS3 : Boxed (W2.alloc (.cells #[.int .u64 (sm : Int)] 40)).drew W2.heap.size 40 (.int .u64 (sm : Int)) := Boxed.new W2 40 _
      have hO3 : (W2.alloc (.cells #[.int .u64 (sm : Int)] 40)).drew.ownsRow P3 78 2 vO (allPairs st i).length (pairCells (allPairs st i)) := hO2.alloc _
      have hB3 : Below P3 W1 (W2.alloc (.cells #[.int .u64 (sm : Int)] 40)).drew := YtfigaamgcmifeaaDoorW.PrintWords.below_drew (hB2.alloc (by omega) _)
      have hD3 : ∀ D ∈ Ds, P3 + 1 ≤ D ∧ (W2.alloc (.cells #[.int .u64 (sm : Int)] 40)).drew.heap[D]? = some (.deferred (some [])) := fun D hD => ⟨(hD2 D hD).1, (Below.heap_alloc W2 _ D (Array.getElem?_eq_some_iff.1 (hD2 D hD).2).1).trans (hD2 D hD).2⟩
      have hs3 : (W2.alloc (.cells #[.int .u64 (sm : Int)] 40)).drew.heap.size = X + 1 + 1 := by show (W2.alloc _).heap.size = _; rw [World.size_alloc, hsz2]
      rw [hsz2] at bS3
      obtain ⟨W3, hW3⟩ : ∃ W3, (W2.alloc (.cells #[.int .u64 (sm : Int)] 40)).drew = W3 := ⟨_, rfl⟩
      rw [hW3] at bA3 bO3 bI3 bS3 hO3 hB3 hD3 hs3 ⊢
      clear hW3
      have cS3 := bS3.cell
      gi_wp2_with (refine ⟨trivial, ?_⟩; gi_at_call 25; refine (Bits_in Fence.wide _ trivial rfl _ _).mono ?_; rintro e w' ⟨rfl, rfl⟩)
      have bA4 := bA3.alloc (.cells #[.int .u64 (sm : Int)] 40)
      have bO4 := bO3.alloc (.cells #[.int .u64 (sm : Int)] 40)
      have bI4 := bI3.alloc (.cells #[.int .u64 (sm : Int)] 40)
      have bS4 := bS3.alloc (.cells #[.int .u64 (sm : Int)] 40)
      have bM4 := Boxed.new W3 40 (.int .u64 (sm : Int))
      have hO4 := hO3.alloc (.cells #[.int .u64 (sm : Int)] 40)
      have hB4 := hB3.alloc (by omega) (.cells #[.int .u64 (sm : Int)] 40)
      have hD4 : ∀ D ∈ Ds, P3 + 1 ≤ D ∧ D < W3.heap.size + 1 ∧ (W3.alloc (.cells #[.int .u64 (sm : Int)] 40)).heap[D]? = some (.deferred (some [])) := fun D hD => ⟨(hD3 D hD).1, Nat.lt_succ_of_lt (Array.getElem?_eq_some_iff.1 (hD3 D hD).2).1, (Below.heap_alloc W3 _ D (Array.getElem?_eq_some_iff.1 (hD3 D hD).2).1).trans (hD3 D hD).2⟩
      have hs4 : (W3.alloc (.cells #[.int .u64 (sm : Int)] 40)).heap.size = W3.heap.size + 1 := by simp
      rw [hs3] at hs4 bM4 hD4
      obtain ⟨W4, hW4⟩ : ∃ W4, W3.alloc (.cells #[.int .u64 (sm : Int)] 40) = W4 := ⟨_, rfl⟩
      rw [hW4] at bA4 bO4 bI4 bS4 bM4 hO4 hB4 hD4 hs4 ⊢
      clear hW4
      have hBw4 : Below w.heap.size w W4 := hB1.trans (hB4.mono (by omega))
      have hT4 : TabAt 0 Lib.deBruijn64tab W4 := fun j hj => (hBw4.cell (p := ⟨0, j, none⟩) hb0).trans (hT j hj)
      have hal := allPairs_length st i
      refine wpIn_rangeFunc_ownH rfl (by decide) (gf := 50) (lb := #[.pointer (some ⟨X + 1 + 1, 0, none⟩)]) rfl trivial (enters_of Tryd.func50 (by kernel_rfl) rfl)
        (BitsM_stops 8 (X + 1 + 1) P3 sm hsm W4 (by omega) (by omega) (by omega) bM4.cell hT4) belowK_t (belowK_b (by omega)) (Below.refl _ _) (fun _ => rfl)
        (fun pre W => (((((Boxed W w.heap.size 24 (.slice (some ⟨b, o, none⟩) n c) ∧ Boxed W X 3 (.int .i64 (i : Int))) ∧ Boxed W (X + 1) 40 (.int .u64 (sm : Int))) ∧ (∃ v, Boxed W P3 45 v ∧ W.ownsRow P3 78 2 v (allPairs st i ++ pre.map fun k => (i, k.val)).length (pairCells (allPairs st i ++ pre.map fun k => (i, k.val))) ∧ True)) ∧
          (∀ D ∈ Ds, P3 + 1 ≤ D ∧ D < W4.heap.size ∧ W.heap[D]? = some (.deferred (some [])))) ∧ Below P3 W1 W))
        (fun _ _ _ => False)
        (OwnFrom.and (OwnFrom.and (OwnFrom.and (OwnFrom.and (OwnFrom.and (Own.from (boxed_own _ _ _) _) (Own.from (boxed_own _ _ _) _)) (Own.from (boxed_own _ _ _) _))
            (Own.from (holdsRow_own P3 P3 45 78 2 (fun pre : List (BitOf sm) => (allPairs st i ++ pre.map fun k => (i, k.val)).length) (fun pre => pairCells (allPairs st i ++ pre.map fun k => (i, k.val))) (fun _ _ => True)) _))
            (fun s A B row hs hg hr D hD => ⟨(hs D hD).1, (hs D hD).2.1, (hg.block D (Array.getElem?_eq_some_iff.1 (hs D hD).2.2).1 (fun e => by have := (hr D e.symm).1; have := (hs D hD).2.1; omega)).trans (hs D hD).2.2⟩)) (ownFrom_below (by omega) (by omega)))
        (fun _ _ _ _ _ hs _ _ => hs)
        ⟨⟨⟨⟨⟨bA4, bI4⟩, bS4⟩, vO, bO4, by simpa using hO4, trivial⟩, fun D hD => by have := hD4 D hD; exact ⟨this.1, by omega, this.2.2⟩⟩, hB4⟩
        (fun k a' W => ∃ Bx, X + 1 < Bx ∧ Boxed W Bx 3 (.int .i64 (k.val : Nat)) ∧ a' = { tmps := #[.slice (some ⟨b, o, none⟩) n c, .pointer (some ⟨w.heap.size, 0, none⟩), .slice none 0 0, .pointer (some ⟨P3, 0, none⟩), .pointer (some ⟨X, 0, none⟩), .pointer (some ⟨X + 1, 0, none⟩), .pointer (some ⟨Bx, 0, none⟩), u7, u8, .slice (some ⟨b, o, none⟩) n c, .bool true, .bool false, .slice (some ⟨b, o, none⟩) n c, .int .i64 (n : Int), .int .i64 (i : Int), .bool true, .int .i64 (i : Int), .slice (some ⟨b, o, none⟩) n c, .int .i64 (i : Int), .pointer (some ⟨b, o + i, none⟩), .int .u64 (x : Int), .int .i64 (i : Int), .int .u64 ((2 : Int) ^ i), .int .u64 (sm : Int), .int .u64 (sm : Int), .func (.func 50) #[] #[.pointer (some ⟨X + 1 + 1, 0, none⟩)], .int .i64 (k.val : Nat), u27, u28, u29, u30, u31, u32, u33, u34, u35, u36, u37, u38, u39, u40, u41, u42, u43, u44, u45, u46, u47, u48, u49, u50, u51, u52, undef], defers := [] })
        (fun k a' _ X Y row hs hg hr => by obtain ⟨Bx, h1, h2, h3⟩ := hs; exact ⟨Bx, h1, boxed_own Bx 3 (fun (_ : Unit) => Value.int .i64 (k.val : Nat)) () X Y row h2 hg (fun r e => (hr r e).2), h3⟩)
        ?assign ?body ?done ?stop
      case assign =>
        rintro l pre k W K ⟨⟨⟨⟨⟨iA, iI⟩, iS⟩, v, iO, iR, _⟩, iD⟩, iB⟩ hK
        have hsS := iS.lt
        gi_wp2
        exact hK _ _ ((KeepsOthers.alloc _ _).from _) ((Below.refl _ W).alloc (by omega) _)
          ⟨⟨⟨⟨⟨iA.alloc _, iI.alloc _⟩, iS.alloc _⟩, v, iO.alloc _, iR.alloc _, trivial⟩, fun D hD => ⟨(iD D hD).1, (iD D hD).2.1, (Below.heap_alloc W _ D (Array.getElem?_eq_some_iff.1 (iD D hD).2.2).1).trans (iD D hD).2.2⟩⟩, iB.alloc (by omega) _⟩
          ⟨W.heap.size, hsS, Boxed.new W 3 _, rfl⟩
      case body =>
        rintro l pre ⟨k, hk⟩ a' W hl ⟨r, hr⟩ ⟨⟨⟨⟨⟨iA, iI⟩, iS⟩, v, iO, iR, _⟩, iD⟩, iB⟩ ⟨Bx, hBx, bX, rfl⟩ hlt
        dsimp only at bX ⊢
        gi_wp2
        have hk64 : k < 64 := by
          apply Classical.byContradiction
          intro hh
          have : sm < 2 ^ k := Nat.lt_of_lt_of_le hsm (Nat.pow_le_pow_right (n := 2) (i := 64) (by decide) (by omega))
          rw [Nat.testBit_lt_two_pow this] at hk
          cases hk
        have hwk := wrap_pow k hk64
        have hz := Hst3.out k hk
        rw [← pow_cast] at hz
        have hsS := iS.lt
        have hsB := bX.lt
        have cS := al1 iS.cell (.cells #[.bool false] 4)
        have cX := al1 bX.cell (.cells #[.bool false] 4)
        have bT := Boxed.new W 4 (.bool false)
        have hbW : Below W.heap.size W (W.alloc (.cells #[.bool false] 4)) := (Below.refl _ W).alloc (Nat.le_refl _) _
        have hsb : (W.alloc (.cells #[.bool false] 4)).heap.size = W.heap.size + 1 := by simp
        obtain ⟨Wb, hWb⟩ : ∃ Wb, W.alloc (.cells #[.bool false] 4) = Wb := ⟨_, rfl⟩
        rw [hWb] at cS cX bT hbW hsb ⊢
        clear hWb
        refine (fun (key : True → (?G : Prop)) => ?main) ?pf
        case main =>
          gi_region_with_o (refine ⟨trivial, ?_⟩; gi_at_call 25; refine (CallsIn.inRound l (Bits_in Fence.wide _ trivial rfl _ _)).mono ?_; rintro e w' ⟨rfl, rfl⟩)
          all_goals exact key trivial
        case pf =>
          intro _
          have bT5 : Boxed (Wb.alloc (.cells #[.int .u64 0] 40)).drew W.heap.size 4 (.bool false) := bT.alloc _
          have bM5 : Boxed (Wb.alloc (.cells #[.int .u64 0] 40)).drew Wb.heap.size 40 (.int .u64 0) := Boxed.new Wb 40 _
          have hb5 : Below W.heap.size W (Wb.alloc (.cells #[.int .u64 0] 40)).drew := YtfigaamgcmifeaaDoorW.PrintWords.below_drew (hbW.alloc (by omega) _)
          have hs5 : (Wb.alloc (.cells #[.int .u64 0] 40)).drew.heap.size = W.heap.size + 1 + 1 := by show (Wb.alloc _).heap.size = _; rw [World.size_alloc, hsb]
          rw [hsb] at bM5
          obtain ⟨W5, hW5⟩ : ∃ W5, (Wb.alloc (.cells #[.int .u64 0] 40)).drew = W5 := ⟨_, rfl⟩
          rw [hW5] at bT5 bM5 hb5 hs5 ⊢
          clear hW5
          gi_wp2
          have hr5 : W5.heap[l]? = some (.loop r) := (hb5.block l (Array.getElem?_eq_some_iff.1 hr).1).trans hr
          refine wpIn_rangeFunc_ownN (l₀ := l) (r₀ := r) rfl hr5 (by decide) (gf := 50) (lb := #[.pointer (some ⟨W.heap.size + 1, 0, none⟩)]) rfl trivial (enters_of Tryd.func50 (by kernel_rfl) rfl)
            ((Bits0_stops 6 (W.heap.size + 1) P3 W5 (by omega) bM5.cell).inRound l) belowK_t (belowK_b (by omega)) (Below.refl _ _) (fun _ => rfl)
            (fun _ W' => Below W5.heap.size W5 W') (fun _ _ _ => False)
            (ownFrom_below (Nat.le_refl _) (Nat.le_refl _)) (fun _ _ _ _ _ hs _ _ => hs) (Below.refl _ _) (fun _ _ _ => True) (fun _ _ _ _ _ _ hs _ _ => hs)
            (fun l2 pre2 y W' K hi hK => by gi_wp2; exact hK _ _ (KeepsFrom.refl _ _) (Below.refl _ _) hi trivial)
            (fun l2 pre2 y a2 W' _ _ _ _ hlt2 => absurd hlt2 (Nat.not_lt_zero _))
            (fun ys2 W6 hy2 hb6 => ?_)
            (fun c2 pre2 W6 hp2 _ => hp2.elim)
          have hbW6 : Below W.heap.size W W6 := hb5.trans (hb6.mono hb5.size)
          have iO6 := (hbW6.block P3 iO.lt).trans iO
          have iR6 := YtfigaamgcmifeaaDoorW.PrintWords.pw_own_below iR hbW6
          have cT6 := (hb6.cell (p := ⟨W.heap.size, 0, none⟩) (by show W.heap.size < _; omega)).trans bT5.cell
          have cO6 := Boxed.cell iO6
          have cI6 := (hbW6.cell (p := ⟨X, 0, none⟩) (by show X < _; omega)).trans iI.cell
          have cX6 := (hbW6.cell (p := ⟨Bx, 0, none⟩) (by show Bx < _; omega)).trans bX.cell
          have hs6 := hbW6.size
          obtain ⟨i0, hi0, hz0, hz1, hz2⟩ := info_parts info_two
          have hlq : (allPairs st i ++ pre.map fun k => (i, k.val)).length ≤ 5000 := by rw [List.length_append, List.length_map]; omega
          have hsn : pairCells (allPairs st i ++ (pre ++ [(⟨k, hk⟩ : BitOf sm)]).map fun k : BitOf sm => (i, k.val)) = pairCells (allPairs st i ++ pre.map fun k => (i, k.val)) ++ [.int .i64 (i : Int), .int .i64 (k : Int)] := by
            rw [List.map_append, ← List.append_assoc]
            exact pairCells_snoc _ _
          have hln : (allPairs st i ++ (pre ++ [(⟨k, hk⟩ : BitOf sm)]).map fun k : BitOf sm => (i, k.val)).length = (allPairs st i ++ pre.map fun k => (i, k.val)).length + 1 := by simp; omega
          have Hsn := Lib.hid hsn
          have Hln := Lib.hid hln
          clear hsn hln
          have hb1' : (allPairs st i ++ pre.map fun k => (i, k.val)).length + 1 ≤ maxLen := by simp only [maxLen]; omega
          have hb2' : ((allPairs st i ++ pre.map fun k => (i, k.val)).length + 1) * 16 ≤ 140737488355328 := by omega
          have hb3' : P3 ≤ (W6.alloc (.cells #[.int .i64 (i : Int), .int .i64 (k : Int)] 78)).heap.size := by rw [World.size_alloc]; omega
          have hb4' : P3 ≤ W6.heap.size := by omega
          generalize hQ : allPairs st i ++ pre.map (fun k => (i, k.val)) = Q at *
          gi_wp2_with (gi_at_builtin; refine wpListIn_append_own _ rfl _ _ 45 rfl P3 78 i0 (.agg #[.int .i64 0, .int .i64 0]) 2 16 Tryd.underlying45 hi0 hz0 hz1 hz2 rfl (by decide) v Q.length (pairCells Q) rfl (iR6.alloc _) ⟨W6.heap.size, 0, none⟩ 1 1 [.int .i64 (i : Int), .int .i64 (k : Int)] rfl rfl (cell_two_new _ _ _ _) (by simp [Value.oneCell']) hb1' hb2' hb3' ?_; intro v' w7 hown' hgrow _; obtain ⟨g', cap', rfl⟩ := ownsRow_succ hown'; obtain ⟨hv1, hv2, hr2, hk2, hb2⟩ := Boxed.appended iO6 (by decide) iR6 hb4' (Nat.le_refl _) hown' hgrow; have hc1 := hv1.cell; have hf1 := hv1.frozen)
          have kA := (iR6.alloc (.cells #[.int .i64 (i : Int), .int .i64 (k : Int)] 78))
          have jA : Boxed W6 w.heap.size 24 (.slice (some ⟨b, o, none⟩) n c) := (hbW6.block _ iA.lt).trans iA
          have jI : Boxed W6 X 3 (.int .i64 (i : Int)) := (hbW6.block _ iI.lt).trans iI
          have jS : Boxed W6 (X + 1) 40 (.int .u64 (sm : Int)) := (hbW6.block _ iS.lt).trans iS
          have eA := (((jA.alloc (.cells #[.int .i64 (i : Int), .int .i64 (k : Int)] 78)).kept hgrow (jA.not_row (by decide) iR6)).other (B' := P3) (by omega) (.slice (some ⟨g', 0, none⟩) (Q.length + 1) cap'))
          have eI := (((jI.alloc (.cells #[.int .i64 (i : Int), .int .i64 (k : Int)] 78)).kept hgrow (jI.not_row (by decide) iR6)).other (B' := P3) (by omega) (.slice (some ⟨g', 0, none⟩) (Q.length + 1) cap'))
          have eS := (((jS.alloc (.cells #[.int .i64 (i : Int), .int .i64 (k : Int)] 78)).kept hgrow (jS.not_row (by decide) iR6)).other (B' := P3) (by omega) (.slice (some ⟨g', 0, none⟩) (Q.length + 1) cap'))
          refine ⟨((below_others hbW6).trans hk2).from _, (hbW6.mono (by omega)).trans hb2, ⟨⟨⟨⟨⟨eA, eI⟩, eS⟩, _, hv2, ?_, trivial⟩, fun D hD => ⟨(iD D hD).1, (iD D hD).2.1, hk2.same D _ ((hbW6.block D (Array.getElem?_eq_some_iff.1 (iD D hD).2.2).1).trans (iD D hD).2.2) rfl⟩⟩, iB.trans ((hbW6.mono (by omega)).trans hb2)⟩⟩
          rw [Hsn.out, Hln.out]
          exact hr2
      case done =>
        rintro D ys W hD hys ⟨⟨⟨⟨⟨iA, iI⟩, iS⟩, v, iO, iR, _⟩, iD⟩, iB⟩ hK
        gi_wp2
        have hys' : ys.map (fun k : BitOf sm => (i, k.val)) = rowPairs st i := by
          rw [Hrd.out, ← hys, List.map_map]
          rfl
        rw [hys', ← Hrp.out] at iR
        refine ⟨⟨i + 1, D :: Ds, _, _, _, _, _, _, _, _, _, _, _, _, _, _, _, _, _, _, _, _, _, _, _, _, _, _, _, _, _, _, _, _, _, _, _, _, _, _, _, _, _, _, _, ⟨by omega, iA, ⟨v, iO, iR⟩, iB, iO.lt, ?_, ?_⟩, rfl⟩, ?_⟩
        · exact List.nodup_cons.2 ⟨fun hm' => by have := (iD D hm').2.1; omega, hnd⟩
        · intro E hE
          rcases List.mem_cons.1 hE with rfl | hE
          · exact ⟨by omega, hK⟩
          · exact ⟨(iD E hE).1, (iD E hE).2.2⟩
        · simp [intOf]; omega
      case stop =>
        rintro D cc pre W hD hSp h hK
        exact h.elim
    · obtain rfl : i = n := by omega
      have cO := bO'.cell
      gi_wp2
      refine leaves_marks2 (P3 + 1) Ds wr hnd hDs (fun W' hW' hcl => ⟨_, results_tmp rfl _ _ _, vO, rfl, ⟨P3, ?_⟩, hB1.trans ((hB.mono (by omega)).trans (hW'.mono (by omega)))⟩)
      refine YtfigaamgcmifeaaDoorW.PrintWords.own_move hO (fun k hk => ?_)
      rcases hO.2 with ⟨rfl, _⟩ | ⟨g, cap, cur, rfl, _, hgb, _⟩
      · simp [Value.ownBlock] at hk
      · obtain rfl : g = k := by simpa [Value.ownBlock] using hk
        rw [hcl g _ hgb rfl, hgb]
end Go.Proofs.YtfigaamgcmifeaaDoor
