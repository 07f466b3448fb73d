/- A mask's bits: what they are; the iterator that goes through them. -/
import Derived.Test.YtfigaamgcmifeaaDoorBa
import Derived.Shelf.Spec.TrailingZeros
import Derived.RangeFuncNested
import Derived.RangeFuncBound
import Derived.RangeFuncCalls
import Derived.RangeFuncLeaves
import Derived.Shelf.Abstract
import Derived.Shelf.RegionOpen
import Derived.WalkKit
import Derived.OwnWalkIn
import Derived.TacticsInMore
import Derived.LoopNIn
import Derived.LoopIn
import Derived.BigQuiet
namespace Go.Proofs.YtfigaamgcmifeaaDoor
open Go.RowKit Go.Shelf Go.Lib
set_option linter.unusedVariables false

attribute [local go_sem] Oper.semAt_some

/-! ### the numbers -/
def bitsL (m : Nat) : List Nat := (List.range' 0 64).filter (m.testBit ·)

theorem filter_first (p q : Nat → Bool) : ∀ (len s k : Nat), s ≤ k → k < s + len → (∀ j, s ≤ j → j < k → p j = false) → p k = true → (∀ j, q j = (p j && decide (k < j))) →
    (List.range' s len).filter p = k :: (List.range' s len).filter q
  | 0, s, k, h1, h2, _, _, _ => by omega
  | len + 1, s, k, h1, h2, h3, h4, h5 => by
    rw [List.range'_succ]
    by_cases e : s = k
    · subst e
      have hq : q s = false := by rw [h5]; simp
      rw [List.filter_cons_of_pos h4, List.filter_cons_of_neg (by rw [hq]; decide)]
      congr 1
      apply List.filter_congr
      intro j hj
      rw [List.mem_range'_1] at hj
      rw [h5]
      have : decide (s < j) = true := by simp; omega
      rw [this]; simp
    · have hp : p s = false := h3 s (Nat.le_refl _) (by omega)
      have hq : q s = false := by rw [h5, hp]; simp
      rw [List.filter_cons_of_neg (by rw [hp]; decide), List.filter_cons_of_neg (by rw [hq]; decide)]
      exact filter_first p q len (s + 1) k (by omega) (by omega) (fun j h1 h2 => h3 j (by omega) h2) h4 h5

theorem low_bits (m : Nat) (h0 : m ≠ 0) (h : m < 18446744073709551616) :
    Lib.ctz 64 m < 64 ∧ (∀ j, j < Lib.ctz 64 m → m.testBit j = false) ∧ m.testBit (Lib.ctz 64 m) = true ∧ ∀ j, (m &&& (m - 1)).testBit j = (m.testBit j && decide (Lib.ctz 64 m < j)) := by
  obtain ⟨q, hq, hk⟩ := Lib.ctzFrom_spec 64 m (by omega) h
  have e : Lib.ctz 64 m = Lib.ctzFrom 64 m := by simp [Lib.ctz, h0]
  rw [e]
  generalize Lib.ctzFrom 64 m = k at *
  have hp : 0 < 2 ^ k := Nat.two_pow_pos k
  have e1 : m = 2 ^ k * (2 * q + 1) + 0 := by rw [Nat.add_zero]; exact hq
  have e2 : m - 1 = 2 ^ k * (2 * q) + (2 ^ k - 1) := by rw [hq, Nat.mul_add, Nat.mul_one]; omega
  have t1 : ∀ j, m.testBit j = if j < k then false else (2 * q + 1).testBit (j - k) := fun j => by
    rw [e1, Nat.testBit_two_pow_mul_add _ hp]; simp
  have t2 : ∀ j, (m - 1).testBit j = if j < k then true else (2 * q).testBit (j - k) := fun j => by
    rw [e2, Nat.testBit_two_pow_mul_add _ (by omega)]
    by_cases hj : j < k
    · rw [if_pos hj, if_pos hj, Nat.testBit_two_pow_sub_one]; simp [hj]
    · rw [if_neg hj, if_neg hj]
  have odd : ∀ i, (2 * q + 1).testBit i = if i = 0 then true else (2 * q).testBit i := fun i => by
    cases i with
    | zero => simp [Nat.testBit_zero]
    | succ i => simp [Nat.testBit_succ]; congr 1; omega
  have even0 : (2 * q).testBit 0 = false := by simp [Nat.testBit_zero]
  refine ⟨hk, fun j hj => by rw [t1, if_pos hj], by rw [t1, if_neg (Nat.lt_irrefl k), Nat.sub_self, odd]; rfl, fun j => ?_⟩
  rw [Nat.testBit_and, t1, t2]
  by_cases hj : j < k
  · simp [hj]
  · rw [if_neg hj, if_neg hj, odd]
    by_cases h1 : j = k
    · subst h1; simp [even0]
    · have h2 : j - k ≠ 0 := by omega
      have h3 : k < j := by omega
      simp [h2, h3]

theorem bitsL_zero : bitsL 0 = [] := by simp [bitsL]
theorem bitsL_step (m : Nat) (h0 : m ≠ 0) (h : m < 18446744073709551616) : bitsL m = Lib.ctz 64 m :: bitsL (m &&& (m - 1)) := by
  obtain ⟨h1, h2, h3, h4⟩ := low_bits m h0 h
  exact filter_first _ _ 64 0 _ (Nat.zero_le _) (by omega) (fun j _ hj => h2 j hj) h3 h4
theorem mem_bitsL (m k : Nat) (h : m < 18446744073709551616) : k ∈ bitsL m ↔ m.testBit k = true := by
  unfold bitsL
  rw [List.mem_filter, List.mem_range'_1]
  constructor
  · exact fun h => h.2
  · intro hb
    refine ⟨⟨Nat.zero_le _, ?_⟩, hb⟩
    apply Classical.byContradiction
    intro hk
    have : m < 2 ^ k := Nat.lt_of_lt_of_le h (Nat.pow_le_pow_right (n := 2) (i := 64) (by decide) (by omega))
    rw [Nat.testBit_lt_two_pow this] at hb
    cases hb
theorem bitsL_length (m : Nat) : (bitsL m).length ≤ 64 := by
  unfold bitsL
  exact Nat.le_trans (List.length_filter_le _ _) (by simp)

/-! ### a region that draws its order, in a round -/
theorem uponIn_inRound {F : Fence} {n : Nat} {P : Program} {o : Oper} {a : Act} {next : Act → World → Prop} {Q : Exit → Act → World → Prop} (l : Nat) : ∀ {r : Result Next}, o.uponIn F n P a next Q r → o.uponIn (F.inRound l) n P a next Q r
  | .ok (.value _) _, h => h
  | .ok .skip _, h => h
  | .ok (.defer _) _, h => h
  | .ok (.enter _ _) _, h => h
  | .ok (.row _ _) _, h => h
  | .ok (.round _ _ _ _ _) _, h => h
  | .halt (.panic _) _, h => h
theorem wpOpIn_inRound {F : Fence} {n : Nat} {P : Program} {ops : Array Oper} {Q : Exit → Act → World → Prop} (l : Nat) (hro : F.round = none) (hnd : ∀ (i : Nat) (o : Oper), ops[i]? = some o → ∀ c, o.op ≠ .defer c) {i : Nat} {K K' : Act → World → Prop} {a : Act} {w : World}
    (hK : ∀ a w, K a w → K' a w) (h : wpOpIn F n P ops Q i K a w) : wpOpIn (F.inRound l) n P ops Q i K' a w := by
  unfold wpOpIn at *
  cases ho : ops[i]? with
  | none => rw [ho] at h; exact hK _ _ h
  | some o =>
    rw [ho] at h
    simp only at h ⊢
    split
    · rename_i hw
      rw [if_pos hw] at h
      have h' := Oper.wpIn_mono hK h
      unfold Oper.wpIn at h' ⊢
      refine ⟨h'.1, uponIn_inRound l ?_⟩
      rw [Oper.semAt_eq _ _ _ (hnd i o ho)]
      rw [Oper.semAt_eq _ _ _ (hnd i o ho)] at h'
      exact h'.2
    · rename_i hw
      rw [if_neg hw] at h
      exact ⟨h.1, hK _ _ h.2⟩
theorem wpAnyIn_inRound {F : Fence} {n : Nat} {P : Program} {md : Region.Mode} {ops : Array Oper} {Q : Exit → Act → World → Prop} (l : Nat) (hro : F.round = none) (hnd : ∀ (i : Nat) (o : Oper), ops[i]? = some o → ∀ c, o.op ≠ .defer c) :
    ∀ (fuel : Nat) (listed : Array Bool) (a : Act) (w : World), wpAnyIn F n P md ops Q fuel listed a w → wpAnyIn (F.inRound l) n P md ops Q fuel listed a w
  | 0, _, _, _, h => h
  | fuel + 1, listed, a, w, h => ⟨h.1, fun i hi => wpOpIn_inRound l hro hnd (fun a w => wpAnyIn_inRound l hro hnd fuel _ a w) (h.2 i hi)⟩
def noDefer (l : List Oper) : Bool := l.all fun o => match o.op with | .defer _ => false | _ => true
theorem noDefer_at {l : List Oper} (h : noDefer l = true) (i : Nat) (o : Oper) (ho : l.toArray[i]? = some o) (c) : o.op ≠ .defer c := by
  intro e
  have hm : o ∈ l := by
    rw [List.getElem?_toArray] at ho
    exact List.mem_of_getElem? ho
  have := List.all_eq_true.1 h o hm
  rw [e] at this
  cases this
theorem quiet_round {F : Fence} {n : Nat} {P : Program} (lo : Nat) {id : Nat} {Q : Exit → Act → World → Prop} {a : Act} {w : World} {l : List Oper} (hro : F.round = none) (hm : P.follows .mixedOrders = true) (hB : Region.lexB .any l.toArray = true) (hnd : noDefer l = true)
    (h : wpQuietIn F n P l.toArray (fun w' => ∃ n, w' = w.drewN n) (fun a' => ∀ w', (∃ n, w' = w.drewN n) → Q .normal a' w') l a) : (Code.region id l.toArray true).wpIn (F.inRound lo) n P Q a w := by
  have hB' := hB
  simp only [Region.lexB, Bool.and_eq_true] at hB'
  refine wpIn_region_any hm (wpAnyIn_inRound lo hro (noDefer_at hnd) _ _ _ _ (wpAnyIn_of_quiet (C := fun w' => ∃ n, w' = w.drewN n) (Q := fun a' => ∀ w', (∃ n, w' = w.drewN n) → Q .normal a' w') hro (fun _ w' hw' h => h w' hw') _ _ _ _ ⟨1, rfl⟩ ?_))
  have := wpAnyQIn_lex (F := F) (n := n) (C := fun w' => ∃ n, w' = w.drewN n) (md := .any) hB'.1 l.toArray.toList 0 (Array.replicate l.toArray.size false) a (by simp) (by simpa using hB'.2) (by simpa using h)
  simpa using this

/-! ### the walks -/
theorem tz_zero (w : World) : Calls Tryd.prog 51 #[.int .u64 0] w fun e w' => e = .returned (.int .i64 64) ∧ w' = w := by
  go_enter Tryd.func51, Tryd.ntmps51
  go_wp2
  go_ret
  exact ⟨rfl, rfl⟩
set_option maxHeartbeats 1000000 in
theorem tz_core (x k idx : Nat) (w : World) (hx0 : ((x : Int) == 0) = false)
    (key : IntKind.u64.wrap (bits BinOp.and IntKind.u64 (x : Int) (IntKind.u64.wrap (-(x : Int))) * 285870213051353865) / 288230376151711744 = (idx : Int))
    (hi : idx < 64) (hk : k < 64) (hcell : w.cell? ⟨0, idx, none⟩ = some (.int .u8 k)) :
    Calls Tryd.prog 51 #[.int .u64 x] w fun e w' => e = .returned (.int .i64 k) ∧ w' = w := by
  go_enter Tryd.func51, Tryd.ntmps51
  go_wp2_with (simp only [key])
  go_ret
  exact ⟨rfl, rfl⟩
theorem tz_calls (x : Nat) (hx : x < 18446744073709551616) (w : World) (hT : TabAt 0 Lib.deBruijn64tab w) :
    Calls Tryd.prog 51 #[.int .u64 x] w fun e w' => e = .returned (.int .i64 (Lib.ctz 64 x)) ∧ w' = w := by
  by_cases hx0 : x = 0
  · subst hx0
    exact tz_zero w
  · obtain ⟨hlow, hk⟩ := Lib.lowest_bit 64 x hx0 hx
    obtain ⟨hi, htab⟩ := Lib.deBruijn64_at _ hk
    have hcell := hT _ hi
    rw [htab] at hcell
    exact tz_core x _ _ w (by simp; omega) (tz64_key x _ hx hx0 hlow) hi hk hcell

theorem Bits_in (F : Fence) (n : Nat) (h25 : F.fn 25) (hro : F.round = none) (m : Int) (w : World) :
    CallsIn F n Tryd.prog 25 #[.int .u64 m] w fun e w' => e = .returned (.func (.func 50) #[] #[.pointer (some ⟨w.heap.size, 0, none⟩)]) ∧ w' = w.alloc (.cells #[.int .u64 m] 40) := by
  refine callsIn_of_wp Tryd.func25 rfl h25 ?_ hro
  simp only [Tryd.ntmps25, List.size_toArray, List.length_cons, List.length_nil, Nat.reduceAdd, Nat.reduceSub, Array.replicate_succ, Array.replicate_zero, List.push_toArray, List.append_toArray, List.nil_append, List.cons_append]
  gi_wp2
  go_ret
  exact ⟨rfl, rfl⟩

set_option maxRecDepth 100000 in
set_option maxHeartbeats 4000000 in
theorem Bits1_in (l Bn n₀ N : Nat) (n : Nat) (m : Nat) (hm : m < 18446744073709551616) (hN : m < 2 ^ N) (J Jx : List (Fin N) → World → Prop)
    (hY : ∀ pre x W, J pre W → pre.length < 64 → YieldAt Fence.wide (n - 1) Tryd.prog l #[.int .i64 ((x : Fin N) : Nat)] W fun e W' =>
      (e = .returned (.bool true) ∧ J (pre ++ [x]) W' ∧ Below n₀ W W') ∨ (e = .returned (.bool false) ∧ Jx (pre ++ [x]) W'))
    (W : World) (hBn : W.cell? ⟨Bn, 0, none⟩ = some (.int .u64 m)) (hT : TabAt 0 Lib.deBruijn64tab W) (hn0 : 0 < n₀) (h0 : J [] W) :
    CallsIn Fence.wide n Tryd.prog 50 #[.func (.yield l) #[] #[], .pointer (some ⟨Bn, 0, none⟩)] W fun e W' => (∃ v, e = .returned v) ∧
      ((∃ ys : List (Fin N), ys.map Fin.val = bitsL m ∧ J ys W') ∨ (∃ pre : List (Fin N), (∃ t, pre.map Fin.val ++ t = bitsL m) ∧ Jx pre W')) := by
  refine callsIn_of_wp Tryd.func50 rfl trivial ?_ rfl
  simp only [Tryd.ntmps50, List.size_toArray, List.length_cons, List.length_nil, Nat.reduceAdd, Nat.reduceSub, Array.replicate_succ, Array.replicate_zero, List.push_toArray, List.append_toArray, List.nil_append, List.cons_append]
  gi_wp2
  gi_loopw [3] (fun p wr => ∃ (pre : List (Fin N)) (q : Nat), p = .int .u64 (q : Int) ∧ q ≤ m ∧ pre.map Fin.val ++ bitsL q = bitsL m ∧ q < 2 ^ N ∧ TabAt 0 Lib.deBruijn64tab wr ∧ J pre wr)
    (fun p wr => (intOf p).toNat)
  case atStart =>
    exact ⟨[], m, rfl, Nat.le_refl _, rfl, hN, hT, h0⟩
  case round =>
    obtain ⟨pre, q, rfl, hle, hx, hqN, hTr, hJs⟩ := hrel
    have hq : q < 18446744073709551616 := by omega
    by_cases hq0 : q = 0
    · subst hq0
      rw [bitsL_zero, List.append_nil] at hx
      have ht : (((0 : Nat) : Int) != 0) = false := by decide
      gi_wp2
      go_end0
      exact ⟨⟨_, rfl⟩, .inl ⟨pre, hx, hJs⟩⟩
    · have ht : ((q : Int) != 0) = true := by simp; omega
      rw [bitsL_step q hq0 hq] at hx
      obtain ⟨hc64, _, hcb, hcn⟩ := low_bits q hq0 hq
      have hcN : Lib.ctz 64 q < N := by
        apply Classical.byContradiction
        intro hk
        have : q < 2 ^ Lib.ctz 64 q := Nat.lt_of_lt_of_le hqN (Nat.pow_le_pow_right (by decide) (by omega))
        rw [Nat.testBit_lt_two_pow this] at hcb
        cases hcb
      have hlen : pre.length < 64 := by
        have := bitsL_length m
        rw [← hx, List.length_append, List.length_map, List.length_cons] at this
        omega
      have hz := fun w hT => tz_calls q hq w hT
      obtain ⟨fn, tmps, assign, body, hy, hR⟩ := hY pre ⟨Lib.ctz 64 q, hcN⟩ wr hJs hlen
      dsimp only at hy
      have h9 : IntKind.u64.wrap ((q : Int) - 1) = ((q - 1 : Nat) : Int) := by rw [IntKind.wrap_u64]; omega
      have h10 : bits BinOp.and IntKind.u64 (q : Int) ((q - 1 : Nat) : Int) = ((q &&& (q - 1) : Nat) : Int) := bits_and_u64_nat q (q - 1) hq (by omega)
      have hlt : q &&& (q - 1) < q := Nat.lt_of_le_of_lt Nat.and_le_right (by omega)
      generalize hc : Lib.ctz 64 q = c at *
      generalize hq2 : q &&& (q - 1) = q2 at *
      gi_wp2_with (refine ⟨trivial, fun h => (by cases h), ?_⟩; gi_at_call 51; refine (callsIn_wide.2 (hz wr hTr)).mono ?_; rintro e w' ⟨rfl, rfl⟩)
      refine ⟨fun h => (by cases h), hR.mono ?_⟩
      rintro e W3 (⟨rfl, hJ3, hk3⟩ | ⟨rfl, hJx3⟩)
      · have hT3 : TabAt 0 Lib.deBruijn64tab W3 := fun j hj => (hk3.cell (p := ⟨0, j, none⟩) hn0).trans (hTr j hj)
        gi_wp2
        go_roundw
        case rel => exact ⟨pre ++ [⟨c, hcN⟩], q2, rfl, by omega, by simpa using hx, by omega, hT3, hJ3⟩
        case measure => simp [intOf]; omega
      · gi_wp2
        refine bodyPost_ret (results_none rfl _ _ _) rfl ?_
        exact ⟨⟨_, rfl⟩, .inr ⟨pre ++ [⟨c, hcN⟩], ⟨bitsL q2, by simpa using hx⟩, hJx3⟩⟩

/-- **A mask's bits come, one by one, the lowest first.** -/
theorem Bits_stops (n N Bn n₀ : Nat) (m : Nat) (hm : m < 18446744073709551616) (hN : m < 2 ^ N) (w : World) (hBn : Bn < w.heap.size) (hn₀ : n₀ ≤ w.heap.size) (hn0 : 0 < n₀)
    (hc : w.cell? ⟨Bn, 0, none⟩ = some (.int .u64 m)) (hT : TabAt 0 Lib.deBruijn64tab w) :
    SeqStopsK Fence.wide n Tryd.prog 50 #[.pointer (some ⟨Bn, 0, none⟩)] (fun x : Fin N => #[Value.int .i64 (x : Nat)]) (Below n₀) (fun ys => ys.map Fin.val = bitsL m) (fun pre => ∃ t, pre.map Fin.val ++ t = bitsL m) 64 w := fun l J Jx W hW _ _ hY h0 =>
  Bits1_in l Bn n₀ N n m hm hN J Jx hY W ((hW.cell (p := ⟨Bn, 0, none⟩) hBn).trans hc) (fun j hj => (hW.cell (p := ⟨0, j, none⟩) (by omega : 0 < w.heap.size)).trans (hT j hj)) hn0 h0

end Go.Proofs.YtfigaamgcmifeaaDoor
