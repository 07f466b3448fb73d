/- poset.Right: is it an order? -/
import Derived.Test.YtfigaamgcmifeaaDoorBt
namespace Go.Proofs.YtfigaamgcmifeaaDoor
open Go.RowKit Go.Shelf Go.Lib
set_option linter.unusedVariables false

attribute [local go_sem] Oper.semAt_some

def pairOk (us : List Nat) (i k : Nat) : Bool := decide ((us.getD k 0) &&& (us.getD i 0) = us.getD k 0) && !(decide (k ≠ i) && (us.getD k 0).testBit i)
def rowOk (us : List Nat) (i : Nat) : Bool := (us.getD i 0).testBit i && decide (us.getD i 0 < 2 ^ us.length) && (bitsL (us.getD i 0)).all (pairOk us i)
/-- Is it an order? -/
def rightB (us : List Nat) : Bool := decide (1 ≤ us.length ∧ us.length ≤ 64) && (List.range us.length).all (rowOk us)

theorem and_one (a : Nat) (h : a < 18446744073709551616) : bits .and .u64 (a : Int) 1 = ((a % 2 : Nat) : Int) := by
  have e := bits_and_u64_nat a 1 h (by decide)
  rw [Nat.and_one_is_mod] at e
  exact e
theorem bit_form (x i : Nat) (h : x < 18446744073709551616) : bits .and .u64 ((x : Int) / 2 ^ i) 1 = if x.testBit i then 1 else 0 := by
  have e : (x : Int) / 2 ^ i = ((x / 2 ^ i : Nat) : Int) := by simp
  rw [e, and_one _ (Nat.lt_of_le_of_lt (Nat.div_le_self _ _) h), Nat.testBit_eq_decide_div_mod_eq]
  rcases Nat.mod_two_eq_zero_or_one (x / 2 ^ i) with h0 | h0 <;> rw [h0] <;> rfl
theorem bit_is0 (x i : Nat) (h : x < 18446744073709551616) : (bits .and .u64 ((x : Int) / 2 ^ i) 1 == 0) = !x.testBit i := by
  rw [bit_form x i h]; cases x.testBit i <;> rfl
theorem bit_is1 (x i : Nat) (h : x < 18446744073709551616) : (bits .and .u64 ((x : Int) / 2 ^ i) 1 == 1) = x.testBit i := by
  rw [bit_form x i h]; cases x.testBit i <;> rfl
theorem high_form (x n : Nat) : ((x : Int) / 2 ^ n != 0) = !decide (x < 2 ^ n) := by
  have e : (x : Int) / 2 ^ n = ((x / 2 ^ n : Nat) : Int) := by simp
  rw [e, Bool.eq_iff_iff]
  simp only [bne_iff_ne, ne_eq, Bool.not_eq_true', decide_eq_false_iff_not]
  have : x / 2 ^ n = 0 ↔ x < 2 ^ n := Nat.div_eq_zero_iff_lt (Nat.two_pow_pos n)
  constructor
  · intro hh hx; exact hh (by rw [this.2 hx]; rfl)
  · intro hh hx; exact hh (this.1 (by omega))
theorem andNot_form (y x : Nat) (hy : y < 18446744073709551616) (hx : x < 18446744073709551616) : (bits .andNot .u64 (y : Int) (x : Int) != 0) = !decide (y &&& x = y) := by
  have h1 : (BitVec.ofInt 64 (y : Int)) = BitVec.ofNat 64 y := BitVec.ofInt_natCast ..
  have h2 : (BitVec.ofInt 64 (x : Int)) = BitVec.ofNat 64 x := BitVec.ofInt_natCast ..
  have e : bits .andNot .u64 (y : Int) (x : Int) = IntKind.u64.wrap (((BitVec.ofNat 64 y &&& ~~~ BitVec.ofNat 64 x).toNat : Nat) : Int) := by rw [← h1, ← h2]; rfl
  have hl := (BitVec.ofNat 64 y &&& ~~~ BitVec.ofNat 64 x).isLt
  rw [e, IntKind.wrap_u64, Bool.eq_iff_iff]
  simp only [bne_iff_ne, ne_eq, Bool.not_eq_true', decide_eq_false_iff_not]
  have key : (BitVec.ofNat 64 y &&& ~~~ BitVec.ofNat 64 x).toNat = 0 ↔ y &&& x = y := by
    have t : ∀ j, (BitVec.ofNat 64 y &&& ~~~ BitVec.ofNat 64 x).toNat.testBit j = (y.testBit j && !x.testBit j) := fun j => by
      rw [BitVec.testBit_toNat, BitVec.getLsbD_and, BitVec.getLsbD_not, BitVec.getLsbD_ofNat, BitVec.getLsbD_ofNat]
      by_cases hj : j < 64
      · simp [hj]
      · have : y < 2 ^ j := Nat.lt_of_lt_of_le hy (Nat.pow_le_pow_right (n := 2) (i := 64) (by decide) (by omega))
        simp [hj, Nat.testBit_lt_two_pow this]
    constructor
    · intro h0
      apply Nat.eq_of_testBit_eq
      intro j
      have := t j
      rw [h0, Nat.zero_testBit] at this
      rw [Nat.testBit_and]
      revert this
      cases y.testBit j <;> cases x.testBit j <;> decide
    · intro h0
      apply Nat.eq_of_testBit_eq
      intro j
      rw [t, Nat.zero_testBit]
      have := congrArg (fun z => Nat.testBit z j) h0
      simp only [Nat.testBit_and] at this
      revert this
      cases y.testBit j <;> cases x.testBit j <;> decide
  generalize (BitVec.ofNat 64 y &&& ~~~ BitVec.ofNat 64 x).toNat = z at *
  have e3 : ((z : Int) % 18446744073709551616 = 0) ↔ z = 0 := by omega
  rw [e3, key]

theorem kept_drewN (B : Nat) (W : World) (k : Nat) : KeepsFrom B W (W.drewN k) :=
  (KeepsOthers.of_grownBy (YtfigaamgcmifeaaDoorW.PrintWords.grown_of_below (YtfigaamgcmifeaaDoorW.PrintWords.pw_below_drewN (Below.refl _ _) k) none) (fun j o e => by cases e)).from B

def mark (D : Nat) : Deferred := { target := .collected D, args := #[] }
theorem leaves_marks {F : Fence} {n : Nat} {P : Program} {fn : Func} {tmps : Array Value} {R : Ending → World → Prop} (B : Nat) : ∀ (Ds : List Nat) (W : World), Ds.Nodup → (∀ D ∈ Ds, B ≤ D ∧ W.heap[D]? = some (.deferred (some []))) →
    (∀ W', Below B W W' → LeavesIn F n P fn tmps R [] .returning W') → LeavesInM F n P fn tmps R (Ds.map mark) .returning W
  | [], W, _, _, K => K W (Below.refl _ _)
  | D :: Ds, W, hnd, hD, K => by
    obtain ⟨hn1, hn2⟩ := List.nodup_cons.1 hnd
    have h0 := hD D (List.mem_cons_self)
    refine ⟨by simp, .inl ⟨D, _, rfl, run_takeDeferred h0.2, ?_⟩⟩
    refine leaves_marks B Ds _ hn2 (fun E hE => ?_) (fun W' hW' => K W' ?_)
    · have hE' := hD E (List.mem_cons_of_mem _ hE)
      refine ⟨hE'.1, ?_⟩
      rw [World.putObj_heap_other (fun e => hn1 (by rw [← e]; exact hE))]
      exact hE'.2
    · exact ((Below.refl B W).grown (grownBy_putObj' W D (.deferred none)) (Nat.le_of_lt (Nat.lt_of_le_of_lt h0.1 (Array.getElem?_eq_some_iff.1 h0.2).1)) (fun k e => by cases e; exact h0.1)).trans hW'

theorem Below.set_same {B : Nat} {W0 W : World} (h : Below B W0 W) {g t : Nat} {cs : Array Value} (hg : W.heap[g]? = some (.cells cs t (0, 0))) (i : Nat) (v : Value) (hv : cs.setIfInBounds i v = cs) : Below B W0 (W.setCell ⟨g, i, none⟩ v) :=
  ⟨h.os, h.tape, h.output, by have := h.size; simpa using this, fun k hk => by
    by_cases e : k = g
    · subst e
      rw [YtfigaamgcmifeaaDoorW.PrintWords.blk_set hg, hv, ← hg]
      exact h.block k hk
    · exact (Below.heap_setCell W ⟨g, i, none⟩ v k e).trans (h.block k hk)⟩

theorem slot (us : List Nat) (w : World) (b o : Nat) (hc : ∀ (k x : Nat), us[k]? = some x → w.cell? ⟨b, o + k, none⟩ = some (.int .u64 (x : Int))) (k : Nat) (hk : k < us.length) : w.cell? ⟨b, o + k, none⟩ = some (.int .u64 ((us.getD k 0 : Nat) : Int)) := by
  refine hc k _ ?_
  rw [List.getD_eq_getElem?_getD, List.getElem?_eq_getElem hk]
  rfl

theorem right_end {w W : World} {n : Nat} {Ds : List Nat} {x : Bool} {tmps : Array Value} (h2 : tmps[2]? = some (.pointer (some ⟨w.heap.size + 1, 0, none⟩))) (hc : W.cell? ⟨w.heap.size + 1, 0, none⟩ = some (.bool x))
    (hnd : Ds.Nodup) (hDs : ∀ D ∈ Ds, w.heap.size + 2 ≤ D ∧ W.heap[D]? = some (.deferred (some []))) (hB : Below w.heap.size w W) :
    bodyPostM Fence.wide n Tryd.prog Tryd.f12 (fun e w' => e = .returned (.bool x) ∧ Below w.heap.size w w') .ret { tmps := tmps, defers := Ds.map mark } W := by
  refine leaves_marks (w.heap.size + 2) Ds W hnd hDs (fun W' hW' => ⟨.bool x, ?_, rfl, hB.trans (hW'.mono (by omega))⟩)
  have hc' : W'.cell? ⟨w.heap.size + 1, 0, none⟩ = some (.bool x) := (hW'.cell (p := ⟨w.heap.size + 1, 0, none⟩) (by show w.heap.size + 1 < w.heap.size + 2; omega)).trans hc
  simp [results, Tryd.results12, go_sem, h2, hc']

set_option maxRecDepth 100000 in
set_option maxHeartbeats 8000000 in
theorem Right_calls (b o n c : Nat) (us : List Nat) (hn : us.length = n) (h1 : 1 ≤ n) (h64 : n ≤ 64) (hcap : n ≤ c) (hlt : ∀ x ∈ us, x < 18446744073709551616) (w : World) (hb : b < w.heap.size) (hb0 : 0 < w.heap.size)
    (hc : ∀ (k x : Nat), us[k]? = some x → w.cell? ⟨b, o + k, none⟩ = some (.int .u64 (x : Int))) (hT : TabAt 0 Lib.deBruijn64tab w) :
    Calls Tryd.prog 12 #[.slice (some ⟨b, o, none⟩) n c] w fun e w' => e = .returned (.bool (rightB us)) ∧ Below w.heap.size w w' := by
  have hslot := slot us w b o hc
  have hm : Tryd.prog.follows .mixedOrders = true := by kernel_rfl
  refine (callsIn_wide (n := 6)).1 ?_
  refine callsIn_of_wp_marks Tryd.func12 rfl trivial ?_ rfl
  simp only [Tryd.ntmps12, List.size_toArray, List.length_cons, List.length_nil, Nat.reduceAdd, Nat.reduceSub, Array.replicate_succ, Array.replicate_zero, List.push_toArray, List.append_toArray, List.nil_append, List.cons_append]
  have g1 : ((n : Int) < 1) = False := by simp; omega
  have g2 : ((64 : Int) < (n : Int)) = False := by simp; omega
  gi_wp2
  have bA := (Boxed.new w 24 (.slice (some ⟨b, o, none⟩) n c)).alloc (.cells #[.bool false] 4)
  have bR := Boxed.new (w.alloc (.cells #[.slice (some ⟨b, o, none⟩) n c] 24)) 4 (.bool false)
  simp only [World.size_alloc] at bR bA
  have hB0 : Below w.heap.size w ((w.alloc (.cells #[.slice (some ⟨b, o, none⟩) n c] 24)).alloc (.cells #[.bool false] 4)) := ((Below.refl _ w).alloc (Nat.le_refl _) _).alloc (by simp) _
  have hsz : ((w.alloc (.cells #[.slice (some ⟨b, o, none⟩) n c] 24)).alloc (.cells #[.bool false] 4)).heap.size = w.heap.size + 2 := by simp
  obtain ⟨W1, hW1⟩ : ∃ W1, (w.alloc (.cells #[.slice (some ⟨b, o, none⟩) n c] 24)).alloc (.cells #[.bool false] 4) = W1 := ⟨_, rfl⟩
  rw [hW1] at bA bR hB0 hsz ⊢
  clear hW1
  refine wpIn_loop (fun a' wr => ∃ (i : Nat) (Ds : List Nat), ∃ u4 u5 u16 u17 u18 u19 u20 u21 u22 u23 u24 u25 u26 u27 u28 u29 u30 u31 u32 u33 u34 u35 u36 u37 u38 u39 u40 u41 u42 u43 u44 u45 u46 u47 u48 u49 u50 u51 u52 u53 u54 u55 u56 u57 u58 u59 u60 u61 u62 u63 u64 u65 u66 u67 u68 u69 u70 : Value, (i ≤ n ∧ (∀ j, j < i → rowOk us j = true) ∧ Boxed wr w.heap.size 24 (.slice (some ⟨b, o, none⟩) n c) ∧ Boxed wr (w.heap.size + 1) 4 (.bool false) ∧ Below w.heap.size w wr ∧ W1.heap.size ≤ wr.heap.size ∧ Ds.Nodup ∧
      (∀ D ∈ Ds, w.heap.size + 2 ≤ D ∧ wr.heap[D]? = some (.deferred (some [])))) ∧ a' = { tmps := #[.slice (some ⟨b, o, none⟩) n c, .pointer (some ⟨w.heap.size, 0, none⟩), .pointer (some ⟨w.heap.size + 1, 0, none⟩), .int .i64 (n : Int), u4, u5, .slice (some ⟨b, o, none⟩) n c, .int .i64 (n : Int), .int .i64 (n : Int), .bool false, .bool false, .int .i64 (n : Int), .bool false, .bool false, .int .i64 (n : Int), .int .i64 (i : Int), u16, u17, u18, u19, u20, u21, u22, u23, u24, u25, u26, u27, u28, u29, u30, u31, u32, u33, u34, u35, u36, u37, u38, u39, u40, u41, u42, u43, u44, u45, u46, u47, u48, u49, u50, u51, u52, u53, u54, u55, u56, u57, u58, u59, u60, u61, u62, u63, u64, u65, u66, u67, u68, u69, u70], defers := Ds.map mark })
    (fun a' _ => n - (intOf (a'.tmps.getD 15 undef)).toNat) ?start ?round
  case start =>
    exact ⟨0, [], _, _, _, _, _, _, _, _, _, _, _, _, _, _, _, _, _, _, _, _, _, _, _, _, _, _, _, _, _, _, _, _, _, _, _, _, _, _, _, _, _, _, _, _, _, _, _, _, _, _, _, _, _, _, _, _, _, ⟨Nat.zero_le _, fun j hj => by omega, bA, bR, hB0, Nat.le_refl _, List.nodup_nil, fun D hD => by cases hD⟩, rfl⟩
  case round =>
    rintro _ wr ⟨i, Ds, u4, u5, u16, u17, u18, u19, u20, u21, u22, u23, u24, u25, u26, u27, u28, u29, u30, u31, u32, u33, u34, u35, u36, u37, u38, u39, u40, u41, u42, u43, u44, u45, u46, u47, u48, u49, u50, u51, u52, u53, u54, u55, u56, u57, u58, u59, u60, u61, u62, u63, u64, u65, u66, u67, u68, u69, u70, ⟨hi, hrow, bA', bR', hB, hsz', hnd, hDs⟩, rfl⟩
    by_cases hin : i < n
    · gi_wp2
      have bA2 := bA'.alloc (.cells #[.int .i64 (i : Int)] 3)
      have bR2 := bR'.alloc (.cells #[.int .i64 (i : Int)] 3)
      have bI2 := Boxed.new wr 3 (.int .i64 (i : Int))
      have hB2 : Below w.heap.size w (wr.alloc (.cells #[.int .i64 (i : Int)] 3)) := hB.alloc hB.size _
      have hD2 : ∀ D ∈ Ds, w.heap.size + 2 ≤ D ∧ (wr.alloc (.cells #[.int .i64 (i : Int)] 3)).heap[D]? = some (.deferred (some [])) := fun D hD => ⟨(hDs D hD).1, (Below.heap_alloc wr _ D (Array.getElem?_eq_some_iff.1 (hDs D hD).2).1).trans (hDs D hD).2⟩
      have hsz2 : (wr.alloc (.cells #[.int .i64 (i : Int)] 3)).heap.size = wr.heap.size + 1 := by simp
      have hwr : w.heap.size + 2 ≤ wr.heap.size := by omega
      generalize hX : wr.heap.size = X at *
      obtain ⟨W2, hW2⟩ : ∃ W2, wr.alloc (.cells #[.int .i64 (i : Int)] 3) = W2 := ⟨_, rfl⟩
      rw [hW2] at bA2 bR2 bI2 hB2 hD2 hsz2 ⊢
      have hsl : ∀ k : Nat, k < us.length → W2.cell? ⟨b, o + k, none⟩ = some (.int .u64 ((us.getD k 0 : Nat) : Int)) := fun k hk => (hB2.cell (p := ⟨b, o + k, none⟩) hb).trans (hslot k hk)
      have hT2 : TabAt 0 Lib.deBruijn64tab W2 := fun j hj => (hB2.cell (p := ⟨0, j, none⟩) hb0).trans (hT j hj)
      have cA := bA2.cell
      have cR := bR2.cell
      have fR := bR2.frozen
      have cI := bI2.cell
      have cx := hsl i (by omega)
      have hxl : us.getD i 0 < 18446744073709551616 := hlt _ (by rw [List.getD_eq_getElem?_getD, List.getElem?_eq_getElem (by omega)]; exact List.getElem_mem _)
      generalize hx : us.getD i 0 = x at *
      have Hsl := Lib.hid hsl
      clear hsl
      have hnot : ∀ (hbad : rowOk us i = false), rightB us = false := fun hbad => by
        rw [← Bool.not_eq_true]
        intro hr
        unfold rightB at hr
        rw [Bool.and_eq_true, List.all_eq_true] at hr
        have := hr.2 i (by rw [List.mem_range]; omega)
        rw [hbad] at this
        cases this
      have hrowE : rowOk us i = (x.testBit i && decide (x < 2 ^ n) && (bitsL x).all (pairOk us i)) := by unfold rowOk; rw [hx, hn]
      have hfin : ∀ (W : World) (tmps : Array Value) (Es : List Nat), rowOk us i = false → tmps[2]? = some (.pointer (some ⟨w.heap.size + 1, 0, none⟩)) → Below W2.heap.size W2 W → Es.Nodup → (∀ D ∈ Es, w.heap.size + 2 ≤ D ∧ W.heap[D]? = some (.deferred (some []))) →
          bodyPostM Fence.wide 6 Tryd.prog Tryd.f12 (fun e w' => e = .returned (.bool (rightB us)) ∧ Below w.heap.size w w') .ret { tmps := tmps, defers := Es.map mark } (W.setCell ⟨w.heap.size + 1, 0, none⟩ (.bool false)) := by
        intro W tmps Es hbad ht hbl hnd' hD'
        rw [hnot hbad]
        have c1 : W.cell? ⟨w.heap.size + 1, 0, none⟩ = some (.bool false) := (hbl.cell (p := ⟨w.heap.size + 1, 0, none⟩) (by show w.heap.size + 1 < _; omega)).trans cR
        exact right_end (w := w) (Ds := Es) ht (World.cell?_setCell_same' _ _ _ (by rw [c1]; rfl)) hnd' (fun D hD => ⟨(hD' D hD).1, by
          have h2 := hD' D hD
          rw [Below.heap_setCell _ _ _ _ (by show D ≠ w.heap.size + 1; omega)]
          exact h2.2⟩) ((hB2.trans (hbl.mono (by omega))).setCell (p := ⟨w.heap.size + 1, 0, none⟩) (by show w.heap.size ≤ w.heap.size + 1; omega) _)
      have hD2' : ∀ W, Below W2.heap.size W2 W → ∀ D ∈ Ds, w.heap.size + 2 ≤ D ∧ W.heap[D]? = some (.deferred (some [])) := fun W hbl D hD => ⟨(hD2 D hD).1, (hbl.block D (Array.getElem?_eq_some_iff.1 (hD2 D hD).2).1).trans (hD2 D hD).2⟩
      have t25 := bit_is0 x i hxl
      by_cases hb1 : x.testBit i = true
      · rw [hb1] at t25 hrowE
        have t36 := high_form x n
        by_cases hn6 : n < 64
        · have t28 : ((n : Int) < 64) = True := by simp; omega
          by_cases hhi : x < 2 ^ n
          · rw [decide_eq_true hhi] at t36
            have hxN := hhi
            refine wpIn_region_quiet_lit rfl (by assumption) (by kernel_rfl) ?_
            repeat (gi_big_quiet_step (fail))
            refine wpQuietIn_nil ?_
            intro _ hw'
            obtain ⟨nq, rfl⟩ := hw'
            have hb3 : Below W2.heap.size W2 (W2.drewN nq) := YtfigaamgcmifeaaDoorW.PrintWords.pw_below_drewN (Below.refl _ _) nq
            obtain ⟨W3, hW3⟩ : ∃ W3, W2.drewN nq = W3 := ⟨_, rfl⟩
            rw [hW3] at hb3 ⊢
            clear hW3
            have hs3 := hb3.size
            have cA3 := (hb3.cell (p := ⟨w.heap.size, 0, none⟩) (by show w.heap.size < _; omega)).trans cA
            have cI3 := (hb3.cell (p := ⟨X, 0, none⟩) (by show X < _; omega)).trans cI
            have cx3 := (hb3.cell (p := ⟨b, o + i, none⟩) (by show b < _; omega)).trans cx
            gi_wp2_with (refine ⟨trivial, ?_⟩; gi_at_call 25; refine (Bits_in Fence.wide _ trivial rfl _ _).mono ?_; rintro e w' ⟨rfl, rfl⟩)
            have bM := Boxed.new W3 40 (.int .u64 (x : Int))
            have hb4 : Below W2.heap.size W2 (W3.alloc (.cells #[.int .u64 (x : Int)] 40)) := hb3.alloc hb3.size _
            have hsz4 : (W3.alloc (.cells #[.int .u64 (x : Int)] 40)).heap.size = W3.heap.size + 1 := by simp
            obtain ⟨W4, hW4⟩ : ∃ W4, W3.alloc (.cells #[.int .u64 (x : Int)] 40) = W4 := ⟨_, rfl⟩
            rw [hW4] at bM hb4 hsz4 ⊢
            clear hW4
            have hT4 : TabAt 0 Lib.deBruijn64tab W4 := fun j hj => (hb4.cell (p := ⟨0, j, none⟩) (by show 0 < _; omega)).trans (hT2 j hj)
            refine wpIn_rangeFunc_ownG rfl (by decide) (gf := 50) (lb := #[.pointer (some ⟨W3.heap.size, 0, none⟩)]) rfl trivial (enters_of Tryd.func50 (by kernel_rfl) rfl)
              (Bits_stops 5 n W3.heap.size W4.heap.size x hxl hxN W4 (by omega) (Nat.le_refl _) (by omega) bM.cell hT4) belowK_t (belowK_b (Nat.le_refl _)) (Below.refl _ _) (fun _ => rfl)
              (fun pre W => (∀ k ∈ pre, pairOk us i (k : Fin n).val = true) ∧ Below W4.heap.size W4 W)
              (fun c pre W => (c = .ret ∧ ∃ k ∈ pre, pairOk us i (k : Fin n).val = false) ∧ Below W4.heap.size W4 W)
              (OwnFrom.and (ownFrom_pure _ _) (ownFrom_below (Nat.le_refl _) (Nat.le_refl _)))
              (fun c => OwnFrom.and (ownFrom_pure _ _) (ownFrom_below (Nat.le_refl _) (Nat.le_refl _)))
              ⟨fun k hk => (by cases hk), Below.refl _ _⟩ ?a1 ?assign ?body ?done ?stop
            case assign =>
              intro l x' W K hK
              gi_wp2
              exact hK
            case body =>
              rintro l pre ⟨k, hk⟩ W ⟨hpre, hBW⟩ hlen
              dsimp only
              have hb5 : Below W2.heap.size W2 W := hb4.trans (hBW.mono hb4.size)
              have cA5 := (hb5.cell (p := ⟨w.heap.size, 0, none⟩) (by show w.heap.size < _; omega)).trans cA
              have cR5 := (hb5.cell (p := ⟨w.heap.size + 1, 0, none⟩) (by show w.heap.size + 1 < _; omega)).trans cR
              have hR5 : W.heap[w.heap.size + 1]? = some (.cells #[.bool false] 4 (0, 0)) := (hb5.block (w.heap.size + 1) (by omega)).trans bR2
              have fR5 := Boxed.frozen hR5
              have cI5 := (hb5.cell (p := ⟨X, 0, none⟩) (by show X < _; omega)).trans cI
              have cx5 := (hb5.cell (p := ⟨b, o + i, none⟩) (by show b < _; omega)).trans cx
              have cy5 := (hb5.cell (p := ⟨b, o + k, none⟩) (by show b < _; omega)).trans (Hsl.out k (by omega))
              have hyl : us.getD k 0 < 18446744073709551616 := hlt _ (by rw [List.getD_eq_getElem?_getD, List.getElem?_eq_getElem (by omega)]; exact List.getElem_mem _)
              have hpk : pairOk us i k = (decide (us.getD k 0 &&& x = us.getD k 0) && !(decide (k ≠ i) && (us.getD k 0).testBit i)) := by unfold pairOk; rw [hx]
              generalize hy : us.getD k 0 = y at *
              have t54 := andNot_form y x hyl hxl
              have t67 := bit_is1 y i hyl
              have hbad : ∀ (nq2 : Nat) (a : Act), pairOk us i k = false → ownPostG W4.heap.size (Below W4.heap.size) (fun pre W => (∀ k ∈ pre, pairOk us i (k : Fin n).val = true) ∧ Below W4.heap.size W4 W)
                  (fun c pre W => (c = .ret ∧ ∃ k ∈ pre, pairOk us i (k : Fin n).val = false) ∧ Below W4.heap.size W4 W) (pre ++ [⟨k, hk⟩]) W .ret a ((W.drewN nq2).setCell ⟨w.heap.size + 1, 0, none⟩ (.bool false)) := by
                intro nq2 a hf
                refine ⟨(kept_drewN _ W nq2).trans ((KeepsOthers.setCell _ _ _).from _), ⟨rfl, ⟨k, hk⟩, by simp, hf⟩, ?_⟩
                exact Below.set_same (YtfigaamgcmifeaaDoorW.PrintWords.pw_below_drewN hBW nq2) (cs := #[.bool false]) (t := 4) hR5 0 _ (by simp)
              have hgood : ∀ (nq2 : Nat) (a : Act), pairOk us i k = true → ownPostG W4.heap.size (Below W4.heap.size) (fun pre W => (∀ k ∈ pre, pairOk us i (k : Fin n).val = true) ∧ Below W4.heap.size W4 W)
                  (fun c pre W => (c = .ret ∧ ∃ k ∈ pre, pairOk us i (k : Fin n).val = false) ∧ Below W4.heap.size W4 W) (pre ++ [⟨k, hk⟩]) W .normal a (W.drewN nq2) := by
                intro nq2 a hf
                refine ⟨kept_drewN _ W nq2, YtfigaamgcmifeaaDoorW.PrintWords.pw_below_drewN (Below.refl _ _) nq2, ?_, YtfigaamgcmifeaaDoorW.PrintWords.pw_below_drewN hBW nq2⟩
                intro k' hk'
                rcases List.mem_append.1 hk' with h | h
                · exact hpre k' h
                · rw [List.mem_singleton] at h; subst h; exact hf
              gi_wp2
              by_cases hand : y &&& x = y
              · rw [decide_eq_true hand] at t54 hpk
                by_cases hki : k = i
                · have t58 : ((k : Int) != (i : Int)) = false := by simp; omega
                  rw [decide_eq_false (by simpa using hki)] at hpk
                  clear hki
                  refine quiet_round (F := Fence.wide) l rfl hm (by kernel_rfl) (by kernel_rfl) ?_
                  repeat (gi_big_quiet_step (fail))
                  refine wpQuietIn_nil ?_
                  intro _ hw'
                  obtain ⟨nq2, rfl⟩ := hw'
                  gi_wp2
                  exact hgood nq2 _ (by rw [hpk]; rfl)
                · have t58 : ((k : Int) != (i : Int)) = true := by simp; omega
                  rw [decide_eq_true hki] at hpk
                  cases hyb : y.testBit i with
                  | true =>
                    rw [hyb] at t67 hpk
                    refine quiet_round (F := Fence.wide) l rfl hm (by kernel_rfl) (by kernel_rfl) ?_
                    repeat (gi_big_quiet_step (fail))
                    refine wpQuietIn_nil ?_
                    intro _ hw'
                    obtain ⟨nq2, rfl⟩ := hw'
                    gi_wp2
                    exact hbad nq2 _ (by rw [hpk]; rfl)
                  | false =>
                    rw [hyb] at t67 hpk
                    refine quiet_round (F := Fence.wide) l rfl hm (by kernel_rfl) (by kernel_rfl) ?_
                    repeat (gi_big_quiet_step (fail))
                    refine wpQuietIn_nil ?_
                    intro _ hw'
                    obtain ⟨nq2, rfl⟩ := hw'
                    gi_wp2
                    exact hgood nq2 _ (by rw [hpk]; rfl)
              · rw [decide_eq_false hand] at t54 hpk
                refine quiet_round (F := Fence.wide) l rfl hm (by kernel_rfl) (by kernel_rfl) ?_
                repeat (gi_big_quiet_step (fail))
                refine wpQuietIn_nil ?_
                intro _ hw'
                obtain ⟨nq2, rfl⟩ := hw'
                gi_wp2
                exact hbad nq2 _ (by rw [hpk]; rfl)
            case done =>
              rintro D ys W hD hys ⟨hall, hBW⟩ hK
              have hb5 : Below W2.heap.size W2 W := hb4.trans (hBW.mono hb4.size)
              have hrow2 : rowOk us i = true := by
                rw [hrowE, decide_eq_true hxN]
                simp only [Bool.and_self, Bool.true_and]
                rw [List.all_eq_true]
                intro j hj
                rw [← hys, List.mem_map] at hj
                obtain ⟨f, hf, rfl⟩ := hj
                exact hall f hf
              gi_wp2
              refine ⟨⟨i + 1, D :: Ds, _, _, _, _, _, _, _, _, _, _, _, _, _, _, _, _, _, _, _, _, _, _, _, _, _, _, _, _, _, _, _, _, _, _, _, _, _, _, _, _, _, _, _, _, _, _, _, _, _, _, _, _, _, _, _, _, _, ⟨by omega, fun j hj => ?_, (hb5.block w.heap.size (by omega)).trans bA2, (hb5.block (w.heap.size + 1) (by omega)).trans bR2, hB2.trans (hb5.mono (by omega)), ?_, ?_, ?_⟩, rfl⟩, ?_⟩
              · by_cases e : j = i
                · subst e; exact hrow2
                · exact hrow j (by omega)
              · have := hb5.size; omega
              · exact List.nodup_cons.2 ⟨fun hm' => by have := (Array.getElem?_eq_some_iff.1 (hD2 D hm').2).1; have := hb4.size; omega, hnd⟩
              · intro E hE
                rcases List.mem_cons.1 hE with rfl | hE
                · exact ⟨by have := hb4.size; omega, hK⟩
                · exact hD2' _ hb5 E hE
              · simp [intOf]; omega
            case stop =>
              rintro D cc pre W hD hSp ⟨⟨rfl, k, hkm, hkb⟩, hBW⟩ hK
              have hb5 : Below W2.heap.size W2 W := hb4.trans (hBW.mono hb4.size)
              have hbad : rowOk us i = false := by
                obtain ⟨tl, htl⟩ := hSp
                rw [hrowE, Bool.and_eq_false_iff]
                right
                rw [List.all_eq_false]
                exact ⟨k.val, by rw [← htl]; exact List.mem_append_left _ (List.mem_map_of_mem hkm), by rw [hkb]; decide⟩
              gi_wp2
              rw [hnot hbad]
              exact right_end (w := w) (Ds := D :: Ds) rfl ((hb5.cell (p := ⟨w.heap.size + 1, 0, none⟩) (by show w.heap.size + 1 < _; omega)).trans cR)
                (List.nodup_cons.2 ⟨fun hm' => by have := (Array.getElem?_eq_some_iff.1 (hD2 D hm').2).1; have := hb4.size; omega, hnd⟩)
                (fun E hE => by
                  rcases List.mem_cons.1 hE with rfl | hE
                  · exact ⟨by have := hb4.size; omega, hK⟩
                  · exact hD2' _ hb5 E hE) (hB2.trans (hb5.mono (by omega)))
          · rw [decide_eq_false hhi] at t36 hrowE
            refine wpIn_region_quiet_lit rfl (by assumption) (by kernel_rfl) ?_
            repeat (gi_big_quiet_step (fail))
            refine wpQuietIn_nil ?_
            intro _ hw'
            obtain ⟨nq, rfl⟩ := hw'
            have hb3 : Below W2.heap.size W2 (W2.drewN nq) := YtfigaamgcmifeaaDoorW.PrintWords.pw_below_drewN (Below.refl _ _) nq
            gi_wp2
            exact hfin _ _ Ds (by rw [hrowE]; rfl) rfl hb3 hnd (hD2' _ hb3)
        · have t28 : ((n : Int) < 64) = False := by simp; omega
          have hxN : x < 2 ^ n := by have : n = 64 := by omega
                                     subst this; exact hxl
          · skip
            refine wpIn_region_quiet_lit rfl (by assumption) (by kernel_rfl) ?_
            repeat (gi_big_quiet_step (fail))
            refine wpQuietIn_nil ?_
            intro _ hw'
            obtain ⟨nq, rfl⟩ := hw'
            have hb3 : Below W2.heap.size W2 (W2.drewN nq) := YtfigaamgcmifeaaDoorW.PrintWords.pw_below_drewN (Below.refl _ _) nq
            obtain ⟨W3, hW3⟩ : ∃ W3, W2.drewN nq = W3 := ⟨_, rfl⟩
            rw [hW3] at hb3 ⊢
            clear hW3
            have hs3 := hb3.size
            have cA3 := (hb3.cell (p := ⟨w.heap.size, 0, none⟩) (by show w.heap.size < _; omega)).trans cA
            have cI3 := (hb3.cell (p := ⟨X, 0, none⟩) (by show X < _; omega)).trans cI
            have cx3 := (hb3.cell (p := ⟨b, o + i, none⟩) (by show b < _; omega)).trans cx
            gi_wp2_with (refine ⟨trivial, ?_⟩; gi_at_call 25; refine (Bits_in Fence.wide _ trivial rfl _ _).mono ?_; rintro e w' ⟨rfl, rfl⟩)
            have bM := Boxed.new W3 40 (.int .u64 (x : Int))
            have hb4 : Below W2.heap.size W2 (W3.alloc (.cells #[.int .u64 (x : Int)] 40)) := hb3.alloc hb3.size _
            have hsz4 : (W3.alloc (.cells #[.int .u64 (x : Int)] 40)).heap.size = W3.heap.size + 1 := by simp
            obtain ⟨W4, hW4⟩ : ∃ W4, W3.alloc (.cells #[.int .u64 (x : Int)] 40) = W4 := ⟨_, rfl⟩
            rw [hW4] at bM hb4 hsz4 ⊢
            clear hW4
            have hT4 : TabAt 0 Lib.deBruijn64tab W4 := fun j hj => (hb4.cell (p := ⟨0, j, none⟩) (by show 0 < _; omega)).trans (hT2 j hj)
            refine wpIn_rangeFunc_ownG rfl (by decide) (gf := 50) (lb := #[.pointer (some ⟨W3.heap.size, 0, none⟩)]) rfl trivial (enters_of Tryd.func50 (by kernel_rfl) rfl)
              (Bits_stops 5 n W3.heap.size W4.heap.size x hxl hxN W4 (by omega) (Nat.le_refl _) (by omega) bM.cell hT4) belowK_t (belowK_b (Nat.le_refl _)) (Below.refl _ _) (fun _ => rfl)
              (fun pre W => (∀ k ∈ pre, pairOk us i (k : Fin n).val = true) ∧ Below W4.heap.size W4 W)
              (fun c pre W => (c = .ret ∧ ∃ k ∈ pre, pairOk us i (k : Fin n).val = false) ∧ Below W4.heap.size W4 W)
              (OwnFrom.and (ownFrom_pure _ _) (ownFrom_below (Nat.le_refl _) (Nat.le_refl _)))
              (fun c => OwnFrom.and (ownFrom_pure _ _) (ownFrom_below (Nat.le_refl _) (Nat.le_refl _)))
              ⟨fun k hk => (by cases hk), Below.refl _ _⟩ ?a2 ?assign ?body ?done ?stop
            case assign =>
              intro l x' W K hK
              gi_wp2
              exact hK
            case body =>
              rintro l pre ⟨k, hk⟩ W ⟨hpre, hBW⟩ hlen
              dsimp only
              have hb5 : Below W2.heap.size W2 W := hb4.trans (hBW.mono hb4.size)
              have cA5 := (hb5.cell (p := ⟨w.heap.size, 0, none⟩) (by show w.heap.size < _; omega)).trans cA
              have cR5 := (hb5.cell (p := ⟨w.heap.size + 1, 0, none⟩) (by show w.heap.size + 1 < _; omega)).trans cR
              have hR5 : W.heap[w.heap.size + 1]? = some (.cells #[.bool false] 4 (0, 0)) := (hb5.block (w.heap.size + 1) (by omega)).trans bR2
              have fR5 := Boxed.frozen hR5
              have cI5 := (hb5.cell (p := ⟨X, 0, none⟩) (by show X < _; omega)).trans cI
              have cx5 := (hb5.cell (p := ⟨b, o + i, none⟩) (by show b < _; omega)).trans cx
              have cy5 := (hb5.cell (p := ⟨b, o + k, none⟩) (by show b < _; omega)).trans (Hsl.out k (by omega))
              have hyl : us.getD k 0 < 18446744073709551616 := hlt _ (by rw [List.getD_eq_getElem?_getD, List.getElem?_eq_getElem (by omega)]; exact List.getElem_mem _)
              have hpk : pairOk us i k = (decide (us.getD k 0 &&& x = us.getD k 0) && !(decide (k ≠ i) && (us.getD k 0).testBit i)) := by unfold pairOk; rw [hx]
              generalize hy : us.getD k 0 = y at *
              have t54 := andNot_form y x hyl hxl
              have t67 := bit_is1 y i hyl
              have hbad : ∀ (nq2 : Nat) (a : Act), pairOk us i k = false → ownPostG W4.heap.size (Below W4.heap.size) (fun pre W => (∀ k ∈ pre, pairOk us i (k : Fin n).val = true) ∧ Below W4.heap.size W4 W)
                  (fun c pre W => (c = .ret ∧ ∃ k ∈ pre, pairOk us i (k : Fin n).val = false) ∧ Below W4.heap.size W4 W) (pre ++ [⟨k, hk⟩]) W .ret a ((W.drewN nq2).setCell ⟨w.heap.size + 1, 0, none⟩ (.bool false)) := by
                intro nq2 a hf
                refine ⟨(kept_drewN _ W nq2).trans ((KeepsOthers.setCell _ _ _).from _), ⟨rfl, ⟨k, hk⟩, by simp, hf⟩, ?_⟩
                exact Below.set_same (YtfigaamgcmifeaaDoorW.PrintWords.pw_below_drewN hBW nq2) (cs := #[.bool false]) (t := 4) hR5 0 _ (by simp)
              have hgood : ∀ (nq2 : Nat) (a : Act), pairOk us i k = true → ownPostG W4.heap.size (Below W4.heap.size) (fun pre W => (∀ k ∈ pre, pairOk us i (k : Fin n).val = true) ∧ Below W4.heap.size W4 W)
                  (fun c pre W => (c = .ret ∧ ∃ k ∈ pre, pairOk us i (k : Fin n).val = false) ∧ Below W4.heap.size W4 W) (pre ++ [⟨k, hk⟩]) W .normal a (W.drewN nq2) := by
                intro nq2 a hf
                refine ⟨kept_drewN _ W nq2, YtfigaamgcmifeaaDoorW.PrintWords.pw_below_drewN (Below.refl _ _) nq2, ?_, YtfigaamgcmifeaaDoorW.PrintWords.pw_below_drewN hBW nq2⟩
                intro k' hk'
                rcases List.mem_append.1 hk' with h | h
                · exact hpre k' h
                · rw [List.mem_singleton] at h; subst h; exact hf
              gi_wp2
              by_cases hand : y &&& x = y
              · rw [decide_eq_true hand] at t54 hpk
                by_cases hki : k = i
                · have t58 : ((k : Int) != (i : Int)) = false := by simp; omega
                  rw [decide_eq_false (by simpa using hki)] at hpk
                  clear hki
                  refine quiet_round (F := Fence.wide) l rfl hm (by kernel_rfl) (by kernel_rfl) ?_
                  repeat (gi_big_quiet_step (fail))
                  refine wpQuietIn_nil ?_
                  intro _ hw'
                  obtain ⟨nq2, rfl⟩ := hw'
                  gi_wp2
                  exact hgood nq2 _ (by rw [hpk]; rfl)
                · have t58 : ((k : Int) != (i : Int)) = true := by simp; omega
                  rw [decide_eq_true hki] at hpk
                  cases hyb : y.testBit i with
                  | true =>
                    rw [hyb] at t67 hpk
                    refine quiet_round (F := Fence.wide) l rfl hm (by kernel_rfl) (by kernel_rfl) ?_
                    repeat (gi_big_quiet_step (fail))
                    refine wpQuietIn_nil ?_
                    intro _ hw'
                    obtain ⟨nq2, rfl⟩ := hw'
                    gi_wp2
                    exact hbad nq2 _ (by rw [hpk]; rfl)
                  | false =>
                    rw [hyb] at t67 hpk
                    refine quiet_round (F := Fence.wide) l rfl hm (by kernel_rfl) (by kernel_rfl) ?_
                    repeat (gi_big_quiet_step (fail))
                    refine wpQuietIn_nil ?_
                    intro _ hw'
                    obtain ⟨nq2, rfl⟩ := hw'
                    gi_wp2
                    exact hgood nq2 _ (by rw [hpk]; rfl)
              · rw [decide_eq_false hand] at t54 hpk
                refine quiet_round (F := Fence.wide) l rfl hm (by kernel_rfl) (by kernel_rfl) ?_
                repeat (gi_big_quiet_step (fail))
                refine wpQuietIn_nil ?_
                intro _ hw'
                obtain ⟨nq2, rfl⟩ := hw'
                gi_wp2
                exact hbad nq2 _ (by rw [hpk]; rfl)
            case done =>
              rintro D ys W hD hys ⟨hall, hBW⟩ hK
              have hb5 : Below W2.heap.size W2 W := hb4.trans (hBW.mono hb4.size)
              have hrow2 : rowOk us i = true := by
                rw [hrowE, decide_eq_true hxN]
                simp only [Bool.and_self, Bool.true_and]
                rw [List.all_eq_true]
                intro j hj
                rw [← hys, List.mem_map] at hj
                obtain ⟨f, hf, rfl⟩ := hj
                exact hall f hf
              gi_wp2
              refine ⟨⟨i + 1, D :: Ds, _, _, _, _, _, _, _, _, _, _, _, _, _, _, _, _, _, _, _, _, _, _, _, _, _, _, _, _, _, _, _, _, _, _, _, _, _, _, _, _, _, _, _, _, _, _, _, _, _, _, _, _, _, _, _, _, _, ⟨by omega, fun j hj => ?_, (hb5.block w.heap.size (by omega)).trans bA2, (hb5.block (w.heap.size + 1) (by omega)).trans bR2, hB2.trans (hb5.mono (by omega)), ?_, ?_, ?_⟩, rfl⟩, ?_⟩
              · by_cases e : j = i
                · subst e; exact hrow2
                · exact hrow j (by omega)
              · have := hb5.size; omega
              · exact List.nodup_cons.2 ⟨fun hm' => by have := (Array.getElem?_eq_some_iff.1 (hD2 D hm').2).1; have := hb4.size; omega, hnd⟩
              · intro E hE
                rcases List.mem_cons.1 hE with rfl | hE
                · exact ⟨by have := hb4.size; omega, hK⟩
                · exact hD2' _ hb5 E hE
              · simp [intOf]; omega
            case stop =>
              rintro D cc pre W hD hSp ⟨⟨rfl, k, hkm, hkb⟩, hBW⟩ hK
              have hb5 : Below W2.heap.size W2 W := hb4.trans (hBW.mono hb4.size)
              have hbad : rowOk us i = false := by
                obtain ⟨tl, htl⟩ := hSp
                rw [hrowE, Bool.and_eq_false_iff]
                right
                rw [List.all_eq_false]
                exact ⟨k.val, by rw [← htl]; exact List.mem_append_left _ (List.mem_map_of_mem hkm), by rw [hkb]; decide⟩
              gi_wp2
              rw [hnot hbad]
              exact right_end (w := w) (Ds := D :: Ds) rfl ((hb5.cell (p := ⟨w.heap.size + 1, 0, none⟩) (by show w.heap.size + 1 < _; omega)).trans cR)
                (List.nodup_cons.2 ⟨fun hm' => by have := (Array.getElem?_eq_some_iff.1 (hD2 D hm').2).1; have := hb4.size; omega, hnd⟩)
                (fun E hE => by
                  rcases List.mem_cons.1 hE with rfl | hE
                  · exact ⟨by have := hb4.size; omega, hK⟩
                  · exact hD2' _ hb5 E hE) (hB2.trans (hb5.mono (by omega)))
      · rw [Bool.not_eq_true] at hb1
        rw [hb1] at t25 hrowE
        refine wpIn_region_quiet_lit rfl (by assumption) (by kernel_rfl) ?_
        repeat (gi_big_quiet_step (fail))
        refine wpQuietIn_nil ?_
        intro _ hw'
        obtain ⟨nq, rfl⟩ := hw'
        have hb3 : Below W2.heap.size W2 (W2.drewN nq) := YtfigaamgcmifeaaDoorW.PrintWords.pw_below_drewN (Below.refl _ _) nq
        gi_wp2
        exact hfin _ _ Ds (by rw [hrowE]; rfl) rfl hb3 hnd (hD2' _ hb3)
    · obtain rfl : i = n := by omega
      have hre : rightB us = true := by
        unfold rightB
        rw [Bool.and_eq_true]
        refine ⟨by simp; omega, ?_⟩
        rw [List.all_eq_true]
        intro j hj
        rw [List.mem_range] at hj
        exact hrow j (by omega)
      have hcell := bR'.cell
      have hfro := bR'.frozen
      gi_wp2
      rw [hre]
      exact right_end (w := w) (Ds := Ds) rfl (World.cell?_setCell_same' _ _ _ (by rw [hcell]; rfl)) hnd (fun D hD => ⟨(hDs D hD).1, by
        have h2 := hDs D hD
        rw [Below.heap_setCell _ _ _ _ (by show D ≠ w.heap.size + 1; omega)]
        exact h2.2⟩) (hB.setCell (p := ⟨w.heap.size + 1, 0, none⟩) (by show w.heap.size ≤ w.heap.size + 1; omega) _)
end Go.Proofs.YtfigaamgcmifeaaDoor
