/- poset.Build: an order of pairs. -/
import Derived.Test.YtfigaamgcmifeaaDoorRi
import Derived.Test.YtfigaamgcmifeaaDoorSl
namespace Go.Proofs.YtfigaamgcmifeaaDoor
open Go.RowKit Go.Lib Go.Proofs.YtfigaamgcmifeaaDoorW.PrintWords
set_option linter.unusedVariables false

def orAt (L : List Nat) (i x : Nat) : List Nat := L.set i (L.getD i 0 ||| x)
def pairStep (L : List Nat) (p : Int × Int) : List Nat := orAt L p.1.toNat (2 ^ p.2.toNat)
def up1 (n : Nat) (ps : List (Int × Int)) : List Nat := ps.foldl pairStep ((List.range n).map (2 ^ ·))
def rowStep (k : Nat) (L : List Nat) (i : Nat) : List Nat := if (L.getD i 0).testBit k then orAt L i (L.getD k 0) else L
def allStep (n : Nat) (L : List Nat) (k : Nat) : List Nat := (List.range n).foldl (rowStep k) L
def up2 (n : Nat) (L : List Nat) : List Nat := (List.range n).foldl (allStep n) L
/-- The order that pairs make, if it is one. -/
def buildS (n : Nat) (ps : List (Int × Int)) : List Nat := up2 n (up1 n ps)

def upV (L : List Nat) : Array Value := (L.map fun (x : Nat) => Value.int .u64 (x : Int)).toArray
structure Good (n : Nat) (L : List Nat) : Prop where
  len : L.length = n
  lt : ∀ x ∈ L, x < 18446744073709551616

theorem Good.at_ {n : Nat} {L : List Nat} (h : Good n L) (i : Nat) : L.getD i 0 < 18446744073709551616 := by
  rw [List.getD_eq_getElem?_getD]
  cases hx : L[i]? with
  | none => decide
  | some x => exact h.lt x (List.mem_of_getElem? hx)
theorem or_lt64 {a b : Nat} (ha : a < 18446744073709551616) (hb : b < 18446744073709551616) : a ||| b < 18446744073709551616 := Nat.or_lt_two_pow (n := 64) ha hb
theorem Good.orAt {n : Nat} {L : List Nat} (h : Good n L) (i x : Nat) (hx : x < 18446744073709551616) : Good n (orAt L i x) :=
  ⟨by simp [YtfigaamgcmifeaaDoor.orAt, h.len], fun y hy => by
    rcases List.mem_or_eq_of_mem_set hy with hy | rfl
    · exact h.lt y hy
    · exact or_lt64 (h.at_ i) hx⟩
theorem Good.rowStep {n : Nat} {L : List Nat} (h : Good n L) (k i : Nat) : Good n (rowStep k L i) := by
  unfold YtfigaamgcmifeaaDoor.rowStep
  split
  · exact h.orAt i _ (h.at_ k)
  · exact h
theorem Good.rows {n : Nat} (k : Nat) : ∀ {l : List Nat} {L : List Nat}, Good n L → Good n (l.foldl (YtfigaamgcmifeaaDoor.rowStep k) L)
  | [], _, h => h
  | _ :: l, _, h => Good.rows k (l := l) (h.rowStep k _)
theorem Good.all {n m : Nat} : ∀ {l : List Nat} {L : List Nat}, Good n L → Good n (l.foldl (allStep m) L)
  | [], _, h => h
  | k :: l, _, h => Good.all (l := l) (Good.rows k h)
theorem two_pow_lt64 {i : Nat} (h : i < 64) : 2 ^ i < 18446744073709551616 := Nat.pow_lt_pow_right (a := 2) (n := 64) (by decide) h
theorem Good.start {n : Nat} (h : n ≤ 64) : Good n ((List.range n).map (2 ^ ·)) :=
  ⟨by simp, fun x hx => by
    obtain ⟨i, hi, rfl⟩ := List.mem_map.1 hx
    rw [List.mem_range] at hi
    exact two_pow_lt64 (by omega)⟩

theorem Good.pairs {n : Nat} : ∀ {l : List (Int × Int)} {L : List Nat}, Good n L → (∀ p ∈ l, p.2.toNat < 64) → Good n (l.foldl pairStep L)
  | [], _, h, _ => h
  | p :: l, _, h, hl => Good.pairs (l := l) (h.orAt _ _ (two_pow_lt64 (hl p List.mem_cons_self))) (fun q hq => hl q (List.mem_cons_of_mem _ hq))

theorem upV_get (L : List Nat) (i : Nat) (h : i < L.length) : (upV L)[i]? = some (.int .u64 ((L.getD i 0 : Nat) : Int)) := by
  unfold upV
  rw [List.getElem?_toArray, List.getElem?_map, List.getElem?_eq_getElem h, List.getD_eq_getElem?_getD, List.getElem?_eq_getElem h]
  rfl
theorem upV_set (L : List Nat) (i x : Nat) : (upV L).setIfInBounds i (.int .u64 (x : Int)) = upV (L.set i x) := by
  unfold upV
  rw [List.setIfInBounds_toArray, List.map_set]
theorem bits_or_nat (a b : Nat) (ha : a < 18446744073709551616) (hb : b < 18446744073709551616) : bits .or .u64 (a : Int) (b : Int) = ((a ||| b : Nat) : Int) := by
  have h1 : (BitVec.ofInt 64 (a : Int)) = BitVec.ofNat 64 a := BitVec.ofInt_natCast ..
  have h2 : (BitVec.ofInt 64 (b : Int)) = BitVec.ofNat 64 b := BitVec.ofInt_natCast ..
  have e : bits .or .u64 (a : Int) (b : Int) = IntKind.u64.wrap (((BitVec.ofNat 64 a ||| BitVec.ofNat 64 b).toNat : Nat) : Int) := by rw [← h1, ← h2]; rfl
  have hl := or_lt64 ha hb
  rw [e, IntKind.wrap_u64, BitVec.toNat_or, BitVec.toNat_ofNat, BitVec.toNat_ofNat, Nat.mod_eq_of_lt (a := a) ha, Nat.mod_eq_of_lt (a := b) hb]
  omega

theorem wrap_pow (i : Nat) (h : i < 64) : IntKind.u64.wrap ((2 : Int) ^ i) = ((2 ^ i : Nat) : Int) := by
  have := two_pow_lt64 h
  have e : (2 : Int) ^ i = ((2 ^ i : Nat) : Int) := by simp
  rw [e, IntKind.wrap_u64]
  generalize 2 ^ i = z at *
  omega
theorem pow_cast (i : Nat) : (2 : Int) ^ i = ((2 ^ i : Nat) : Int) := by simp

/-- The first masks, i of them laid. -/
def st0 (n i : Nat) : List Nat := (List.range n).map fun j => if j < i then 2 ^ j else 0
theorem st0_zero (n : Nat) : madeCells #[.int .u64 0] n = upV (st0 n 0) := by
  unfold upV st0
  apply Array.ext_getElem?
  intro i
  simp [madeCells, List.getElem?_map]
  by_cases h : i < n
  · simp [h, Nat.mod_one]
  · simp [h]
theorem st0_step (n i : Nat) (h : i < n) : (st0 n i).set i (2 ^ i) = st0 n (i + 1) := by
  unfold st0
  apply List.ext_getElem?
  intro j
  rw [List.getElem?_set]
  simp only [List.length_map, List.length_range, List.getElem?_map]
  by_cases e : i = j
  · subst e
    rw [if_pos rfl, if_pos h, List.getElem?_range h]
    simp
  · rw [if_neg e]
    by_cases hj : j < n
    · rw [List.getElem?_range hj]
      simp only [Option.map_some, Option.some.injEq]
      by_cases h1 : j < i
      · rw [if_pos h1, if_pos (by omega)]
      · rw [if_neg h1, if_neg (by omega)]
    · rw [List.getElem?_eq_none (by simp; omega)]; rfl
theorem st0_all (n : Nat) : st0 n n = (List.range n).map (2 ^ ·) := by
  unfold st0
  apply List.map_congr_left
  intro j hj
  rw [List.mem_range] at hj
  rw [if_pos hj]
theorem st0_len (n i : Nat) : (st0 n i).length = n := by simp [st0]

/-- What Build hands back. -/
def Built (w : World) (n : Nat) (L : List Nat) (e : Ending) (w' : World) : Prop :=
  Below w.heap.size w w' ∧
    if rightB L = true then ∃ g, e = .returned (.tuple #[.slice (some ⟨g, 0, none⟩) n n, .int .i64 0]) ∧ w.heap.size ≤ g ∧ w'.heap[g]? = some (.cells (upV L) 40 (0, 0))
    else e = .returned (.tuple #[.slice none 0 0, .int .i64 9])

set_option maxRecDepth 100000 in
set_option maxHeartbeats 8000000 in
theorem Build_calls (A : Option Addr) (m c n : Nat) (ps : List (Int × Int)) (w : World) (h1 : 1 ≤ n) (h64 : n ≤ 64) (hC : Kd.C kE w A m ps) (hm : m ≤ 1000000)
    (hps : ∀ p ∈ ps, 0 ≤ p.1 ∧ p.1 < n ∧ 0 ≤ p.2 ∧ p.2 < n) (hT : TabAt 0 Lib.deBruijn64tab w) (hb0 : 0 < w.heap.size) :
    Calls Tryd.prog 20 #[.int .i64 (n : Int), .slice A m c] w fun e w' => Built w n (buildS n ps) e w' := by
  have hlen : ps.length = m := hC.1
  go_enter Tryd.func20, Tryd.ntmps20
  have g1 : ((n : Int) < 1) = False := by simp; omega
  have g2 : ((64 : Int) < (n : Int)) = False := by simp; omega
  have hmk := print_make (P := Tryd.prog) 24 40 .u64 8 Tryd.underlying24 (by kernel_rfl) (by decide) n (by omega)
  go_wp2
  rw [st0_zero]
  have hb1 : Below w.heap.size w (w.alloc (.cells (upV (st0 n 0)) 40)) := (Below.refl _ w).alloc (Nat.le_refl _) _
  have hg1 : (w.alloc (.cells (upV (st0 n 0)) 40)).heap[w.heap.size]? = some (.cells (upV (st0 n 0)) 40 (0, 0)) := World.alloc_heap_new w _
  generalize hg : w.heap.size = g at *
  obtain ⟨W1, hW1⟩ : ∃ W1, w.alloc (.cells (upV (st0 n 0)) 40) = W1 := ⟨_, rfl⟩
  rw [hW1] at hb1 hg1 ⊢
  clear hW1
  go_loopw [21] (fun p wr => ∃ i : Nat, p = .int .i64 (i : Int) ∧ i ≤ n ∧ Below g w wr ∧ wr.heap[g]? = some (.cells (upV (st0 n i)) 40 (0, 0)))
    (fun p _ => n - (intOf p).toNat)
  case atStart => exact ⟨0, rfl, by omega, hb1, hg1⟩
  case round =>
    obtain ⟨i, rfl, hi, hB, hG⟩ := hrel
    by_cases hin : i < n
    · have hc := (blk_cell hG i).trans (upV_get _ _ (by rw [st0_len]; exact hin))
      have hf := blk_frozen hG i
      have hwp := wrap_pow i (by omega)
      go_wp2
      refine ⟨⟨i + 1, rfl, by omega, hB.setCell (p := ⟨g, i, none⟩) (Nat.le_refl _) _, ?_⟩, by simp [intOf]; omega⟩
      rw [blk_set hG, pow_cast, upV_set, st0_step _ _ hin]
    · obtain rfl : i = n := by omega
      rw [st0_all] at hG
      go_wp2
      have HC := Lib.hid hC
      have Hps := Lib.hid hps
      clear hC hps
      go_loopw [32] (fun p wr => ∃ j : Nat, p = .int .i64 (j : Int) ∧ j ≤ m ∧ Below g w wr ∧ wr.heap[g]? = some (.cells (upV ((ps.take j).foldl pairStep ((List.range i).map (2 ^ ·)))) 40 (0, 0)))
        (fun p _ => m - (intOf p).toNat)
      case atStart => exact ⟨0, rfl, by omega, hB, hG⟩
      case round =>
        obtain ⟨j, rfl, hj, hB2, hG2⟩ := hrel
        by_cases hjm : j < m
        · obtain ⟨b, o, x, y, rfl, hxy, hbl, cx, cy⟩ := C_pair (Kd.C_below HC.out (hB2.mono (by omega))) j hjm
          obtain ⟨hx0, hx1, hy0, hy1⟩ := Hps.out (x, y) (List.mem_of_getElem? hxy)
          simp only at hx0 hx1 hy0 hy1
          obtain ⟨x, rfl⟩ := Int.eq_ofNat_of_zero_le hx0
          obtain ⟨y, rfl⟩ := Int.eq_ofNat_of_zero_le hy0
          have hgood : Good i ((ps.take j).foldl pairStep ((List.range i).map (2 ^ ·))) := Good.pairs (Good.start h64) (fun p hp => by have := Hps.out p (List.mem_of_mem_take hp); omega)
          have hstep : (ps.take (j + 1)).foldl pairStep ((List.range i).map (2 ^ ·)) = orAt ((ps.take j).foldl pairStep ((List.range i).map (2 ^ ·))) x (2 ^ y) := by
            rw [List.take_add_one, hxy, List.foldl_append]
            rfl
          have Hxy := Lib.hid hxy
          clear hxy
          generalize (ps.take j).foldl pairStep ((List.range i).map (2 ^ ·)) = L at *
          have Hstep := Lib.hid hstep
          clear hstep
          have q1 : ((x : Int) < 0) = False := eq_false (by omega)
          have q2 : (i ≤ x) = False := eq_false (by omega)
          have q3 : ((y : Int) < 0) = False := eq_false (by omega)
          have q4 : (i ≤ y) = False := eq_false (by omega)
          go_wp2
          have hgl : g < wr.heap.size := (Array.getElem?_eq_some_iff.1 hG2).1
          have hG3 : (wr.alloc (.cells #[.int .i64 (x : Int), .int .i64 (y : Int)] 78)).heap[g]? = some (.cells (upV L) 40 (0, 0)) := (Below.heap_alloc wr _ g hgl).trans hG2
          have hP3 : (wr.alloc (.cells #[.int .i64 (x : Int), .int .i64 (y : Int)] 78)).heap[wr.heap.size]? = some (.cells #[.int .i64 (x : Int), .int .i64 (y : Int)] 78 (0, 0)) := World.alloc_heap_new wr _
          have hB3 : Below g w (wr.alloc (.cells #[.int .i64 (x : Int), .int .i64 (y : Int)] 78)) := hB2.alloc (by omega) _
          generalize wr.heap.size = p0 at *
          obtain ⟨W3, hW3⟩ : ∃ W3, wr.alloc (.cells #[.int .i64 (x : Int), .int .i64 (y : Int)] 78) = W3 := ⟨_, rfl⟩
          rw [hW3] at hG3 hP3 hB3 ⊢
          clear hW3
          have c0 := blk_cell hP3 0
          have c1 := blk_cell hP3 1
          have hzl := hgood.at_ x
          have cz := (blk_cell hG3 x).trans (upV_get L x (by rw [hgood.len]; omega))
          have fz := blk_frozen hG3 x
          generalize hz : L.getD x 0 = z at *
          have hwp := wrap_pow y (by omega)
          have hor := bits_or_nat z (2 ^ y) hzl (two_pow_lt64 (by omega))
          go_region
          all_goals go_wp2
          all_goals refine ⟨⟨j + 1, rfl, by omega, below_drew (hB3.setCell (p := ⟨g, x, none⟩) (Nat.le_refl _) _), ?_⟩, by simp [intOf]; omega⟩
          all_goals (show (W3.setCell ⟨g, x, none⟩ _).heap[g]? = _)
          all_goals rw [pow_cast, hor, blk_set hG3, upV_set, Hstep.out]
          all_goals (unfold YtfigaamgcmifeaaDoor.orAt; rw [hz])
        · obtain rfl : j = m := by omega
          rw [List.take_of_length_le (by omega)] at hG2
          have hG5 : wr.heap[g]? = some (.cells (upV (up1 i ps)) 40 (0, 0)) := hG2
          have hgood : Good i (up1 i ps) := Good.pairs (Good.start h64) (fun p hp => by have := Hps.out p hp; omega)
          have hbs : buildS i ps = (List.range i).foldl (allStep i) (up1 i ps) := rfl
          have Hbs := Lib.hid hbs
          clear hG2 hbs
          go_wp2
          generalize up1 i ps = L0 at *
          go_loopw [68] (fun p wr => ∃ k : Nat, p = .int .i64 (k : Int) ∧ k ≤ i ∧ Below g w wr ∧ wr.heap[g]? = some (.cells (upV ((List.range k).foldl (allStep i) L0)) 40 (0, 0)))
            (fun p _ => i - (intOf p).toNat)
          case atStart => exact ⟨0, rfl, by omega, hB2, hG5⟩
          case round =>
            obtain ⟨k, rfl, hk, hB6, hG6⟩ := hrel
            by_cases hki : k < i
            · have hst : (List.range (k + 1)).foldl (allStep i) L0 = (List.range i).foldl (rowStep k) ((List.range k).foldl (allStep i) L0) := by
                rw [List.range_succ, List.foldl_append]; rfl
              have hg6 : Good i ((List.range k).foldl (allStep i) L0) := Good.all hgood
              have Hst := Lib.hid hst
              clear hst
              generalize (List.range k).foldl (allStep i) L0 = L1 at *
              go_wp2
              go_loopw [72] (fun p wr => ∃ j : Nat, p = .int .i64 (j : Int) ∧ j ≤ i ∧ Below g w wr ∧ wr.heap[g]? = some (.cells (upV ((List.range j).foldl (rowStep k) L1)) 40 (0, 0)))
                (fun p _ => i - (intOf p).toNat)
              case atStart => exact ⟨0, rfl, by omega, hB6, hG6⟩
              case round =>
                obtain ⟨j, rfl, hj, hB7, hG7⟩ := hrel
                by_cases hji : j < i
                · have hst7 : (List.range (j + 1)).foldl (rowStep k) L1 = rowStep k ((List.range j).foldl (rowStep k) L1) j := by
                    rw [List.range_succ, List.foldl_append]; rfl
                  have hg7 : Good i ((List.range j).foldl (rowStep k) L1) := Good.rows k hg6
                  have Hst7 := Lib.hid hst7
                  clear hst7
                  generalize (List.range j).foldl (rowStep k) L1 = L2 at *
                  have cx := (blk_cell hG7 j).trans (upV_get L2 j (by rw [hg7.len]; omega))
                  have cz := (blk_cell hG7 k).trans (upV_get L2 k (by rw [hg7.len]; omega))
                  have fx := blk_frozen hG7 j
                  have hxl := hg7.at_ j
                  have hzl := hg7.at_ k
                  have hrs : rowStep k L2 j = if (L2.getD j 0).testBit k then orAt L2 j (L2.getD k 0) else L2 := rfl
                  have Hrs := Lib.hid hrs
                  clear hrs
                  generalize hx : L2.getD j 0 = x at *
                  generalize hz : L2.getD k 0 = z at *
                  have hor := bits_or_nat x z hxl hzl
                  have t82 := bit_is1 x k hxl
                  cases hbt : x.testBit k with
                  | true =>
                    rw [hbt] at t82
                    go_wp2
                    go_region
                    all_goals go_wp2
                    all_goals refine ⟨⟨j + 1, rfl, by omega, below_drew (hB7.setCell (p := ⟨g, j, none⟩) (Nat.le_refl _) _), ?_⟩, by simp [intOf]; omega⟩
                    all_goals (show (wr.setCell ⟨g, j, none⟩ _).heap[g]? = _)
                    all_goals rw [blk_set hG7, upV_set, Hst7.out, Hrs.out, hbt, if_pos rfl]
                    all_goals (unfold YtfigaamgcmifeaaDoor.orAt; rw [hx])
                  | false =>
                    rw [hbt] at t82
                    go_wp2
                    refine ⟨⟨j + 1, rfl, by omega, hB7, ?_⟩, by simp [intOf]; omega⟩
                    rw [hG7, Hst7.out, Hrs.out, hbt, if_neg (by decide)]
                · obtain rfl : j = i := by omega
                  go_wp2
                  refine ⟨⟨k + 1, rfl, by omega, hB7, ?_⟩, by simp [intOf]; omega⟩
                  rw [hG7, Hst.out]
            · obtain rfl : k = i := by omega
              have hg8 : Good k ((List.range k).foldl (allStep k) L0) := Good.all hgood
              rw [← Hbs.out] at hG6 hg8
              clear Hbs
              generalize hL9 : buildS k ps = L9 at *
              have HL9 := Lib.hid hL9
              clear hL9
              have hT9 : TabAt 0 Lib.deBruijn64tab wr := fun j hj => (hB6.cell (p := ⟨0, j, none⟩) hb0).trans (hT j hj)
              have hcR := Right_calls g 0 k k L9 hg8.len h1 h64 (Nat.le_refl _) hg8.lt wr (Array.getElem?_eq_some_iff.1 hG6).1 (by have := (Array.getElem?_eq_some_iff.1 hG6).1; omega)
                (fun q x hq => by
                  rw [Nat.zero_add, blk_cell hG6]
                  have hql : q < L9.length := (List.getElem?_eq_some_iff.1 hq).1
                  rw [upV_get L9 q hql, List.getD_eq_getElem?_getD, hq]; rfl) hT9
              have hB6' : g ≤ wr.heap.size := by have := (Array.getElem?_eq_some_iff.1 hG6).1; omega
              have hgw := (Array.getElem?_eq_some_iff.1 hG6).1
              have HcR := Lib.hid hcR
              clear hcR
              cases hr : rightB L9 with
              | true =>
                rw [hr] at HcR
                go_wp2_with (go_at_call 12; refine HcR.out.mono ?_; rintro e w9 ⟨rfl, hb9⟩)
                go_ret2
                rw [HL9.out]
                refine ⟨by rw [hg]; exact hB6.trans (hb9.mono hB6'), ?_⟩
                rw [if_pos hr]
                exact ⟨g, rfl, by omega, (hb9.block g (by omega)).trans hG6⟩
              | false =>
                rw [hr] at HcR
                go_wp2_with (go_at_call 12; refine HcR.out.mono ?_; rintro e w9 ⟨rfl, hb9⟩)
                go_ret2
                rw [HL9.out]
                refine ⟨by rw [hg]; exact hB6.trans (hb9.mono hB6'), ?_⟩
                rw [if_neg (by rw [hr]; decide)]
                rfl
end Go.Proofs.YtfigaamgcmifeaaDoor
