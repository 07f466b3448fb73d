/- config.Print: a small configuration's text. -/
import Derived.Test.YtfigaamgcmifeaaDoorCr
import Derived.Test.YtfigaamgcmifeaaDoorPs
import Derived.StillTailTactics
namespace Go.Proofs.YtfigaamgcmifeaaDoor
open Go.RowKit Go.Lib Go.Proofs.YtfigaamgcmifeaaDoorW.PrintWords
set_option linter.unusedVariables false

def strB (l : List UInt8) : ByteArray := ⟨l.toArray⟩
def wLabel : ByteArray := ⟨#[108, 97, 98, 101, 108]⟩
def wAbove : ByteArray := ⟨#[97, 98, 111, 118, 101]⟩
def wUser : ByteArray := ⟨#[117, 115, 101, 114]⟩
def wPred : ByteArray := ⟨#[112, 114, 101, 100]⟩
def wBound : ByteArray := ⟨#[98, 111, 117, 110, 100]⟩
def wPurse : ByteArray := ⟨#[112, 117, 114, 115, 101]⟩
def labelsT (l : List ByteArray) : List UInt8 := l.flatMap fun x => lineT [wLabel, x]
def pairsT (l : List ByteArray) (ps : List (Nat × Nat)) : List UInt8 := ps.flatMap fun p => lineT [wAbove, l.getD p.2 ⟨#[]⟩, l.getD p.1 ⟨#[]⟩]
def usersT (l : List ByteArray) (us : List (ByteArray × Int)) : List UInt8 := us.flatMap fun u => lineT [wUser, u.1, l.getD u.2.toNat ⟨#[]⟩]
def predsT (ps : List (ByteArray × (Int × Int))) : List UInt8 := ps.flatMap fun p => lineT [wPred, p.1, strB (Lib.decDigits p.2.1.toNat), strB (Lib.decDigits p.2.2.toNat)]
/-- A configuration's text. -/
def printT (s : St) (ps : List (Nat × Nat)) (n m : Int) : List UInt8 :=
  labelsT s.labels ++ pairsT s.labels ps ++ usersT s.labels s.users ++ predsT s.preds ++ lineT [wBound, strB (Lib.decDigits s.bound.toNat)] ++ lineT [wPurse, strB (purseT n m)]

theorem join_len (xs : List (List UInt8)) (h : ∀ x ∈ xs, x.length ≤ 200) : (Lib.join xs [32]).length ≤ 201 * xs.length := by
  induction xs with
  | nil => simp [Lib.join]
  | cons x t ih =>
    have hx := h x List.mem_cons_self
    have ih := ih (fun y hy => h y (List.mem_cons_of_mem _ hy))
    cases t with
    | nil => simp [Lib.join] at *; omega
    | cons y t =>
      have e : Lib.join (x :: y :: t) [32] = x ++ [32] ++ Lib.join (y :: t) [32] := by simp [Lib.join]
      rw [e]
      simp only [List.length_append, List.length_cons, List.length_nil] at *
      omega
theorem line_len (xs : List ByteArray) (h : ∀ x ∈ xs, x.size ≤ 200) (hl : xs.length ≤ 4) : (lineT xs).length ≤ 1000 := by
  have := join_len (xs.map (·.data.toList)) (fun x hx => by
    obtain ⟨y, hy, rfl⟩ := List.mem_map.1 hx
    rw [data_length]
    exact h y hy)
  unfold lineT
  simp only [List.length_append, List.length_cons, List.length_nil, List.length_map] at *
  omega

theorem flat_len {α : Type} (f : α → List UInt8) (h : ∀ x, (f x).length ≤ 1000 ∨ True) : ∀ (l : List α), (∀ x ∈ l, (f x).length ≤ 1000) → (l.flatMap f).length ≤ 1000 * l.length
  | [], _ => by simp
  | x :: l, hl => by
    have h1 := hl x List.mem_cons_self
    have h2 := flat_len f h l (fun y hy => hl y (List.mem_cons_of_mem _ hy))
    simp only [List.flatMap_cons, List.length_append, List.length_cons]
    omega
theorem flat_snoc {α : Type} (f : α → List UInt8) {l : List α} {k : Nat} {x : α} (h : l[k]? = some x) : (l.take (k + 1)).flatMap f = (l.take k).flatMap f ++ f x := by
  rw [List.take_add_one, h, List.flatMap_append]
  simp

theorem pairCells_at : ∀ (xs : List (Nat × Nat)) (k : Nat) (p : Nat × Nat), xs[k]? = some p → (pairCells xs)[k * 2]? = some (.int .i64 (p.1 : Int)) ∧ (pairCells xs)[k * 2 + 1]? = some (.int .i64 (p.2 : Int))
  | [], k, p, h => by simp at h
  | x :: xs, 0, p, h => by
    simp at h
    subst h
    simp [pairCells]
  | x :: xs, k + 1, p, h => by
    have ih := pairCells_at xs k p (by simpa using h)
    have e : pairCells (x :: xs) = .int .i64 (x.1 : Int) :: .int .i64 (x.2 : Int) :: pairCells xs := by simp [pairCells]
    rw [e, show (k + 1) * 2 = k * 2 + 1 + 1 by omega, show k * 2 + 1 + 1 + 1 = (k * 2 + 1) + 1 + 1 by omega]
    simpa using ih
theorem pair_open {w : World} {base n c : Nat} {A : Option Addr} {xs : List (Nat × Nat)} (h : w.ownsRow base 78 2 (.slice A n c) n (pairCells xs)) (hn : xs.length = n) (k : Nat) (hk : k < n) :
    ∃ g p, A = some ⟨g, 0, none⟩ ∧ xs[k]? = some p ∧ g < w.heap.size ∧ w.cell? ⟨g, k * 2, none⟩ = some (.int .i64 (p.1 : Int)) ∧ w.cell? ⟨g, k * 2 + 1, none⟩ = some (.int .i64 (p.2 : Int)) := by
  have hx : xs[k]? = some (xs[k]'(by omega)) := List.getElem?_eq_getElem (by omega)
  obtain ⟨h1, h2⟩ := pairCells_at xs k _ hx
  rcases h.2 with ⟨_, h0⟩ | ⟨g, cap, cur, e, _, hgb, _⟩
  · omega
  · injection e with e1 e2 e3
    subst e1 e3
    refine ⟨g, _, rfl, hx, (Array.getElem?_eq_some_iff.1 hgb).1, ?_, ?_⟩
    · rw [h.cellAt _ (by omega)]; exact h1
    · rw [h.cellAt _ (by omega)]; exact h2

theorem undrewG {B : Nat} {w w1 : World} (h : Below B w.drew w1) : Below B w w1 := ⟨h.os, h.tape, h.output, h.size, h.block⟩
theorem row_ne_builder {w : World} {base pg n c G : Nat} {xs bs : List Value} (h : w.ownsRow base 78 2 (.slice (some ⟨pg, 0, none⟩) n c) n xs) (hI : Lib.IsBuilderF 70 5 G G bs w) : pg ≠ G := by
  rintro rfl
  have hb : ∃ p v, w.heap[pg]? = some (.cells #[p, v] 70 (0, 0)) := by
    rcases hI with ⟨_, v, hb, _⟩ | ⟨_, v, hb, _⟩
    · exact ⟨_, v, hb⟩
    · exact ⟨_, v, hb⟩
  obtain ⟨p, v, hb⟩ := hb
  rcases h.2 with ⟨e1, _⟩ | ⟨g, cap, cur, e1, _, hgb, _⟩
  · cases e1
  · injection e1 with e1
    injection e1 with e1
    injection e1 with e1
    subst e1
    rw [hb] at hgb
    injection hgb with hgb
    injection hgb with _ hgb
    cases hgb
theorem row_others {w w1 : World} {base pg n c G : Nat} {xs : List Value} (h : w.ownsRow base 78 2 (.slice (some ⟨pg, 0, none⟩) n c) n xs) (ho : Lib.OthersKept 5 (some G) w w1) (hne : (78 : Nat) ≠ 5) (hpg : pg ≠ G) : w1.ownsRow base 78 2 (.slice (some ⟨pg, 0, none⟩) n c) n xs := by
  refine own_move h (fun k hk => ?_)
  obtain rfl : pg = k := by simpa [Value.ownBlock] using hk
  rcases h.2 with ⟨e1, _⟩ | ⟨g, cap, cur, e1, _, hgb, _⟩
  · cases e1
  · injection e1 with e1
    injection e1 with e1
    injection e1 with e1
    subst e1
    rw [hgb]
    exact ho pg _ hgb (by intro e; injection e with e; exact hpg e) (by intro c fz e; injection e with _ e; exact hne e)

theorem dec_len (i : Nat) (h : i < 100) : (strB (Lib.decDigits i)).size ≤ 200 := by
  have : (Lib.decDigits i).length ≤ 200 := by
    by_cases h1 : i < 10
    · rw [Lib.decDigits_one h1]; simp
    · rw [Lib.decDigits_two h1 h]; simp
  unfold strB
  show (Lib.decDigits i).toArray.size ≤ 200
  simpa using this

/-- A line of words that lie in a new block. -/
theorem pline_new (G : Nat) (xs : List ByteArray) (bs : List UInt8) (w : World) (m : Nat) (hm : xs.length = m) (hI : Lib.IsBuilderF 70 5 G G (Lib.byteCells bs) w) (hx : ∀ x ∈ xs, x.size ≤ 200) (hl : xs.length ≤ 4) (hbs : bs.length ≤ 900000) (hG : G ≤ w.heap.size) :
    Calls Tryd.prog 28 #[.slice (some ⟨w.heap.size, 0, none⟩) m m, .pointer (some ⟨G, 0, none⟩)] (w.alloc (.cells (xs.map Value.string).toArray 9)) fun e w' => e = .returned (.tuple #[]) ∧ Lib.IsBuilderF 70 5 G G (Lib.byteCells (bs ++ lineT xs)) w' ∧ Below G w w' ∧ Lib.OthersKept 5 (some G) w w' := by
  subst hm
  have hb : Below w.heap.size w (w.alloc (.cells (xs.map Value.string).toArray 9)) := (Below.refl _ w).alloc (Nat.le_refl _) _
  have hnew := World.alloc_heap_new w (.cells (xs.map Value.string).toArray 9)
  refine (pline_calls G G w.heap.size 0 xs.length xs bs _ (isb_below hI hb) ?_ (by simp) (by omega) (Nat.le_refl _) (by have := line_len xs hx hl; omega) (by omega) (Nat.le_trans hG hb.size)).mono ?_
  · intro j x hj
    rw [Nat.zero_add, blk_cell hnew, List.getElem?_toArray, List.getElem?_map, hj]
    rfl
  · rintro e w' ⟨rfl, h1, h2, h3⟩
    exact ⟨rfl, h1, (hb.mono hG).trans h2, (others_below hb).trans h3⟩

set_option maxRecDepth 100000 in
set_option maxHeartbeats 8000000 in
theorem Print_calls (v : Value) (s : St) (L : List Nat) (n m : Int) (st : Nat → Nat) (ps : List (Nat × Nat)) (w : World) (hc : Cfg w v s L) (hg : GoodCfg s L n m)
    (hst : ∀ a, a < L.length → bits .andNot .u64 ((L.getD a 0 : Nat) : Int) ((2 ^ a : Nat) : Int) = ((st a : Nat) : Int) ∧ st a < 2 ^ L.length ∧ ∀ k, (st a).testBit k = true → bits .andNot .u64 ((st a : Nat) : Int) ((2 ^ k : Nat) : Int) = 0)
    (hps : allPairs st L.length = ps) (hpr : ∀ p ∈ ps, p.1 < s.labels.length ∧ p.2 < s.labels.length)
    (z1 : s.labels.length ≤ 4) (z2 : s.users.length ≤ 4) (z3 : s.preds.length ≤ 4) (z4 : ps.length ≤ 4) (z5 : s.bound < 100) (y1 : ∀ x ∈ s.labels, x.size ≤ 200) (y2 : ∀ x ∈ s.users, x.1.size ≤ 200) (y3 : ∀ x ∈ s.preds, x.1.size ≤ 200)
    (hn0 : 0 ≤ n) (hn1 : n ≤ 1099511627776) (hm0 : 0 ≤ m) (hm1 : m ≤ 1099511627776) (hlp : (Lib.itoa n).length + 1 + (Lib.itoa m).length ≤ 200) (htab : PowTab w)
    (hT : TabAt 0 Lib.deBruijn64tab w) :
    Calls Tryd.prog 14 #[v] w fun e w' => e = .returned (.tuple #[.string (strB (printT s ps n m)), .int .i64 0]) ∧ Below w.heap.size w w' := by
  have cR := fun w1 (hb : Below w.heap.size w w1) => CRight_calls v s L n m w1 (hc.below hb) hg (fun j hj => (hb.cell (p := ⟨0, j, none⟩) (Nat.lt_trans (by decide : 0 < 2) (PowTab.lt htab))).trans (hT j hj))
  obtain ⟨A1, c1, A2, c2, A3, c3, A4, c4, rfl, hC1, hc1, hC2, hc2, hC3, hC4⟩ := hc
  have hG := World.alloc_heap_new w (.cells #[.slice A1 s.labels.length c1, .slice A2 L.length c2, .slice A3 s.users.length c3, .slice A4 s.preds.length c4, .int .i64 s.bound, .complex .f64 s.re s.im] 29)
  have hB0 : Below w.heap.size w (w.alloc (.cells #[.slice A1 s.labels.length c1, .slice A2 L.length c2, .slice A3 s.users.length c3, .slice A4 s.preds.length c4, .int .i64 s.bound, .complex .f64 s.re s.im] 29)) := (Below.refl _ w).alloc (Nat.le_refl _) _
  obtain ⟨⟨c_0, c_1, c_2, c_3, c_4, c_5⟩, _⟩ := six hG
  have CR := Lib.hid cR
  clear cR
  go_enter Tryd.func14, Tryd.ntmps14
  go_wp2_with (go_at_call 13; refine (CR.out _ hB0).mono ?_; rintro e w1 ⟨rfl, hb1⟩; have k0 := al1 ((hb1.cell (p := ⟨w.heap.size, 0, none⟩) (by show w.heap.size < _; simp)).trans c_0) (.cells #[.pointer none, .slice none 0 0] 70))
  have hs1 := hb1.size
  simp only [World.size_alloc] at hs1
  have hI0 := Lib.IsBuilderF.of (Lib.fresh_isBuilder 70 5 w1)
  have hbA : Below w1.heap.size w1 (w1.alloc (.cells #[.pointer none, .slice none 0 0] 70)) := (Below.refl _ _).alloc (Nat.le_refl _) _
  have hBw : Below w.heap.size w (w1.alloc (.cells #[.pointer none, .slice none 0 0] 70)) := (hB0.trans (hb1.mono (by simp))).trans (hbA.mono (by omega))
  have hb1' := hb1.trans (hbA.mono (by simp; omega))
  have k1 := (hb1'.cell (p := ⟨w.heap.size, 1, none⟩) (by show w.heap.size < _; simp)).trans c_1
  have k2 := (hb1'.cell (p := ⟨w.heap.size, 2, none⟩) (by show w.heap.size < _; simp)).trans c_2
  have k3 := (hb1'.cell (p := ⟨w.heap.size, 3, none⟩) (by show w.heap.size < _; simp)).trans c_3
  have k4 := (hb1'.cell (p := ⟨w.heap.size, 4, none⟩) (by show w.heap.size < _; simp)).trans c_4
  have k5 := (hb1'.cell (p := ⟨w.heap.size, 5, none⟩) (by show w.heap.size < _; simp)).trans c_5
  clear hb1 hb1' hbA hG hB0 c_0 c_1 c_2 c_3 c_4 c_5 CR
  have hGs : w1.heap.size < (w1.alloc (.cells #[.pointer none, .slice none 0 0] 70)).heap.size := by simp
  generalize hGe : w1.heap.size = G at *
  obtain ⟨W2, hW2⟩ : ∃ W2, w1.alloc (.cells #[.pointer none, .slice none 0 0] 70) = W2 := ⟨_, rfl⟩
  rw [hW2] at k0 k1 k2 k3 k4 k5 hI0 hBw hGs ⊢
  clear hW2
  have h3all : ∀ (a b c : ByteArray), a.size ≤ 200 → b.size ≤ 200 → c.size ≤ 200 → ∀ x ∈ [a, b, c], x.size ≤ 200 := by
    intro a b c ha hb hc x hx
    simp only [List.mem_cons, List.not_mem_nil, or_false] at hx
    rcases hx with rfl | rfl | rfl <;> assumption
  have hline3 : ∀ (a b c : ByteArray), a.size ≤ 200 → b.size ≤ 200 → c.size ≤ 200 → (lineT [a, b, c]).length ≤ 1000 := fun a b c ha hb hc => line_len _ (h3all a b c ha hb hc) (by simp)
  have h4all : ∀ (a b c d : ByteArray), a.size ≤ 200 → b.size ≤ 200 → c.size ≤ 200 → d.size ≤ 200 → ∀ x ∈ [a, b, c, d], x.size ≤ 200 := by
    intro a b c d ha hb hc hd x hx
    simp only [List.mem_cons, List.not_mem_nil, or_false] at hx
    rcases hx with rfl | rfl | rfl | rfl <;> assumption
  have hgd : ∀ k, (s.labels.getD k ⟨#[]⟩).size ≤ 200 := fun k => by
    rw [List.getD_eq_getElem?_getD]
    cases hx : s.labels[k]? with
    | none => decide
    | some x => exact y1 x (List.mem_of_getElem? hx)
  have hfl := fun k => flat_len (fun x => lineT [wLabel, x]) (fun _ => .inr trivial) (s.labels.take k) (fun x hx => line_len _ (fun y hy => by
    rcases List.mem_cons.1 hy with rfl | hy
    · decide
    · rw [List.mem_singleton] at hy; subst hy; exact y1 _ (List.mem_of_mem_take hx)) (by simp))
  have Hfl := Lib.hid hfl
  clear hfl
  go_loopw [23] (fun p wr => ∃ k : Nat, p = .int .i64 (k : Int) ∧ k ≤ s.labels.length ∧ Lib.IsBuilderF 70 5 G G (Lib.byteCells (labelsT (s.labels.take k))) wr ∧ Below G W2 wr ∧ G ≤ wr.heap.size) (fun p _ => s.labels.length - (intOf p).toNat)
  case atStart => exact ⟨0, rfl, by omega, hI0, Below.refl _ _, by omega⟩
  case round =>
    obtain ⟨k, rfl, hk, hI, hB, hsz⟩ := hrel
    by_cases hkl : k < s.labels.length
    · obtain ⟨b, o, x, rfl, hx, hb, cx⟩ := C_str (Kd.C_below hC1 (hBw.trans (hB.mono (by omega)))) k hkl
      have hsn : labelsT (s.labels.take (k + 1)) = labelsT (s.labels.take k) ++ lineT [wLabel, x] := flat_snoc _ hx
      have hxs := y1 x (List.mem_of_getElem? hx)
      have hbl : (labelsT (s.labels.take k)).length ≤ 900000 := by
        have h1 := Hfl.out k
        have h2 : (s.labels.take k).length ≤ 4 := by rw [List.length_take]; omega
        unfold labelsT
        omega
      have hpl := pline_new G [wLabel, x] _ wr 2 rfl hI (fun y hy => by
        rcases List.mem_cons.1 hy with rfl | hy
        · decide
        · rw [List.mem_singleton] at hy; subst hy; exact hxs) (by simp) hbl hsz
      have Hsn := Lib.hid hsn
      have Hpl := Lib.hid hpl
      clear hsn hpl hx
      go_wp2_with (go_at_call 28; refine Hpl.out.mono ?_; rintro e w3 ⟨rfl, hi3, hb3, ho3⟩)
      refine ⟨⟨k + 1, rfl, by omega, by rw [Hsn.out]; exact hi3, hB.trans hb3, Nat.le_trans hsz hb3.size⟩, by simp [intOf]; omega⟩
    · obtain rfl : k = s.labels.length := by omega
      rw [List.take_of_length_le (Nat.le_refl _)] at hI
      obtain ⟨b2', o2, rfl, hb2l, hC2⟩ := up_open hC2 (by have := hg.up; have := hg.l1; omega)
      have hBwr : Below w.heap.size w wr := hBw.trans (hB.mono (by omega))
      have hP := Pairs_calls b2' o2 L.length c2 L st rfl (by have := hg.up; have := hg.l1; omega) (by have := hg.up; have := hg.l2; omega) hc2 hg.lt hg.right hst wr (Nat.lt_of_lt_of_le hb2l hBwr.size) (by omega)
        (fun q x hq => pw_cell_below hBwr (hC2 q x hq)) (fun j hj => (hBwr.cell (p := ⟨0, j, none⟩) (Nat.lt_trans (by decide : 0 < 2) (PowTab.lt htab))).trans (hT j hj))
      rw [hps] at hP
      have kk1 := (hB.cell (p := ⟨w.heap.size, 1, none⟩) (by show w.heap.size < _; omega)).trans k1
      have HP := Lib.hid hP
      clear hP
      go_wp2_with (go_at_call 31; refine HP.out.mono ?_; rintro e w3 ⟨vp, rfl, ⟨pb, hrow⟩, hb3⟩; obtain ⟨AP, cP, rfl⟩ := own_slice hrow)
      have hI3 := isb_below hI hb3
      have hB3 := hB.trans (hb3.mono hsz)
      have hsz3 : G ≤ w3.heap.size := Nat.le_trans hsz hb3.size
      obtain ⟨lb, lo, x0, rfl, _, hlb, _⟩ := C_str hC1 0 (by have := hg.l1; omega)
      have hLab : ∀ (k : Nat), k < s.labels.length → w.cell? ⟨lb, lo + k, none⟩ = some (.string (s.labels.getD k ⟨#[]⟩)) := fun k hk => by
        obtain ⟨b', o', x', e', hx', _, hc'⟩ := C_str hC1 k hk
        injection e' with e'
        injection e' with e1 e2
        subst e1 e2
        rw [List.getD_eq_getElem?_getD, hx']
        exact hc'
      clear hB hI hsz hBwr kk1 HP hb3
      generalize hnl : s.labels.length = nl at *
      go_loopw [36] (fun p wr => ∃ k : Nat, p = .int .i64 (k : Int) ∧ k ≤ ps.length ∧ Lib.IsBuilderF 70 5 G G (Lib.byteCells (labelsT s.labels ++ pairsT s.labels (ps.take k))) wr ∧ Below G W2 wr ∧ G ≤ wr.heap.size ∧ wr.ownsRow pb 78 2 (.slice AP ps.length cP) ps.length (pairCells ps)) (fun p _ => ps.length - (intOf p).toNat)
      case atStart => exact ⟨0, rfl, by omega, by simpa [pairsT] using hI3, hB3, hsz3, hrow⟩
      case round =>
        obtain ⟨k, rfl, hk2, hI, hB, hsz, hrw⟩ := hrel
        have hBwr : Below w.heap.size w wr := hBw.trans (hB.mono (by omega))
        by_cases hkl2 : k < ps.length
        · obtain ⟨pg, p, rfl, hx, hpg, cp0, cp1⟩ := pair_open hrw rfl k hkl2
          obtain ⟨hp0, hp1⟩ := hpr p (List.mem_of_getElem? hx)
          have hsn : pairsT s.labels (ps.take (k + 1)) = pairsT s.labels (ps.take k) ++ lineT [wAbove, s.labels.getD p.2 ⟨#[]⟩, s.labels.getD p.1 ⟨#[]⟩] := flat_snoc _ hx
          obtain ⟨p0, p1⟩ := p
          simp only at hp0 hp1 cp0 cp1 hsn
          have hH : w.heap.size < wr.heap.size := by omega
          have m0 := al1 ((hB.cell (p := ⟨w.heap.size, 0, none⟩) (by show w.heap.size < _; omega)).trans k0) (.cells #[.int .i64 (p0 : Int), .int .i64 (p1 : Int)] 78)
          have m1 := al1 ((hBwr.cell (p := ⟨lb, lo + p0, none⟩) hlb).trans (hLab p0 hp0)) (.cells #[.int .i64 (p0 : Int), .int .i64 (p1 : Int)] 78)
          have m2 := al1 ((hBwr.cell (p := ⟨lb, lo + p1, none⟩) hlb).trans (hLab p1 hp1)) (.cells #[.int .i64 (p0 : Int), .int .i64 (p1 : Int)] 78)
          have hnew := World.alloc_heap_new wr (.cells #[.int .i64 (p0 : Int), .int .i64 (p1 : Int)] 78)
          have hbA : Below wr.heap.size wr (wr.alloc (.cells #[.int .i64 (p0 : Int), .int .i64 (p1 : Int)] 78)) := (Below.refl _ _).alloc (Nat.le_refl _) _
          have hIA := isb_below hI hbA
          have hrA := pw_own_below hrw hbA
          have hBA := hB.trans (hbA.mono hsz)
          have hsA : G ≤ (wr.alloc (.cells #[.int .i64 (p0 : Int), .int .i64 (p1 : Int)] 78)).heap.size := Nat.le_trans hsz hbA.size
          have Hx := Lib.hid hx
          have Hsn := Lib.hid hsn
          clear hsn hx
          have HIA := Lib.hid hIA
          go_wp2
          generalize hQ : wr.heap.size = Q0 at *
          obtain ⟨W5, hW5⟩ : ∃ W5, wr.alloc (.cells #[.int .i64 (p0 : Int), .int .i64 (p1 : Int)] 78) = W5 := ⟨_, rfl⟩
          rw [hW5] at m0 m1 m2 hnew hbA HIA hrA hBA hsA ⊢
          clear hW5
          have n0 := blk_cell hnew 0
          have n1 := blk_cell hnew 1
          simp only [List.getElem?_toArray, List.getElem?_cons_zero, List.getElem?_cons_succ] at n0 n1
          have hHG : w.heap.size < G := by omega
          have hlG : lb < G := by omega
          have hpgG : pg ≠ G := row_ne_builder hrw hI
          have hQG : some Q0 ≠ some G := by intro e; injection e with e; subst e; exact absurd (hI.elim (fun h => h.lt) (fun h => h.lt)) (by omega)
          have hfl2 := flat_len (fun p : Nat × Nat => lineT [wAbove, s.labels.getD p.2 ⟨#[]⟩, s.labels.getD p.1 ⟨#[]⟩]) (fun _ => .inr trivial) (ps.take k) (fun q hq => hline3 _ _ _ (by decide) (hgd _) (hgd _))
          have hbl : (labelsT s.labels ++ pairsT s.labels (ps.take k)).length ≤ 900000 := by
            have h1 := Hfl.out nl
            rw [List.take_of_length_le (by omega)] at h1
            have h2 : (ps.take k).length ≤ 4 := by rw [List.length_take]; omega
            rw [List.length_append]
            unfold labelsT pairsT
            omega
          have hpl := pline_new G [wAbove, s.labels.getD p1 ⟨#[]⟩, s.labels.getD p0 ⟨#[]⟩] _ W5.drew 3 rfl HIA.out (h3all _ _ _ (by decide) (hgd _) (hgd _)) (by simp) hbl hsA
          have Hpl := Lib.hid hpl
          clear hpl hfl2 hbl
          generalize hg0 : s.labels.getD p0 ⟨#[]⟩ = x0' at *
          generalize hg1 : s.labels.getD p1 ⟨#[]⟩ = x1' at *
          go_region_held3 (fun w' => w'.cell? ⟨w.heap.size, 0, none⟩ = some (.slice (some ⟨lb, lo, none⟩) nl c1) ∧ w'.cell? ⟨Q0, 0, none⟩ = some (.int .i64 (p0 : Int)) ∧ w'.cell? ⟨Q0, 1, none⟩ = some (.int .i64 (p1 : Int)) ∧ w'.cell? ⟨lb, lo + p0, none⟩ = some (.string x0') ∧ w'.cell? ⟨lb, lo + p1, none⟩ = some (.string x1'))
            (first | go_keep | exact ⟨(hb3.cell (p := ⟨w.heap.size, 0, none⟩) hHG).trans m0, (blk_cell hnew3 0).trans rfl, (blk_cell hnew3 1).trans rfl, (hb3.cell (p := ⟨lb, lo + p0, none⟩) hlG).trans m1, (hb3.cell (p := ⟨lb, lo + p1, none⟩) hlG).trans m2⟩)
            ((go_at_call 28; refine Hpl.out.mono ?_; rintro e w3 ⟨rfl, hi3, hb3, ho3⟩; have hnew3 := ho3 Q0 _ hnew hQG (by intro c fz h; cases h)))
          go_wp2
          refine ⟨⟨k + 1, rfl, by omega, by rw [Hsn.out, ← List.append_assoc]; exact hi3, hBA.trans (undrewG hb3), Nat.le_trans hsA hb3.size, ?_⟩, by simp [intOf]; omega⟩
          exact row_others hrA ho3 (by decide) hpgG
        · obtain rfl : k = ps.length := by omega
          rw [List.take_of_length_le (Nat.le_refl _)] at hI
          have kk2 := (hB.cell (p := ⟨w.heap.size, 2, none⟩) (by show w.heap.size < _; omega)).trans k2
          clear hrw
          go_wp2
          generalize hT1 : labelsT s.labels ++ pairsT s.labels ps = T1 at *
          have hT1l : T1.length ≤ 8000 := by
            have h1 := Hfl.out nl
            rw [List.take_of_length_le (by omega)] at h1
            have h2 := flat_len (fun p : Nat × Nat => lineT [wAbove, s.labels.getD p.2 ⟨#[]⟩, s.labels.getD p.1 ⟨#[]⟩]) (fun _ => .inr trivial) ps (fun q hq => hline3 _ _ _ (by decide) (hgd _) (hgd _))
            rw [← hT1, List.length_append]
            unfold labelsT pairsT
            omega
          have HT1 := Lib.hid hT1
          clear hT1
          have hus := hg.users
          rw [hnl] at hus
          generalize hnu : s.users.length = nu at *
          go_loopw [59] (fun p wr => ∃ k : Nat, p = .int .i64 (k : Int) ∧ k ≤ nu ∧ Lib.IsBuilderF 70 5 G G (Lib.byteCells (T1 ++ usersT s.labels (s.users.take k))) wr ∧ Below G W2 wr ∧ G ≤ wr.heap.size) (fun p _ => nu - (intOf p).toNat)
          case atStart => exact ⟨0, rfl, by omega, by simpa [usersT] using hI, hB, hsz⟩
          case round =>
            obtain ⟨j, rfl, hj, hI, hB, hsz⟩ := hrel
            have hBwr : Below w.heap.size w wr := hBw.trans (hB.mono (by omega))
            by_cases hjl : j < nu
            · obtain ⟨ub, uo, x, q, rfl, hx, hub, cx, cq⟩ := C_user (Kd.C_below hC3 hBwr) j hjl
              obtain ⟨hq0, hq1⟩ := hus _ (List.mem_of_getElem? hx)
              have hxs := y2 _ (List.mem_of_getElem? hx)
              simp only at hq0 hq1 hxs
              obtain ⟨q, rfl⟩ := Int.eq_ofNat_of_zero_le hq0
              have hsn : usersT s.labels (s.users.take (j + 1)) = usersT s.labels (s.users.take j) ++ lineT [wUser, x, s.labels.getD q ⟨#[]⟩] := flat_snoc _ hx
              have hH : w.heap.size < wr.heap.size := by omega
              have hqn : q < nl := by omega
              have m0 := al1 ((hB.cell (p := ⟨w.heap.size, 0, none⟩) (by show w.heap.size < _; omega)).trans k0) (.cells #[.string x, .int .i64 (q : Int)] 56)
              have m1 := al1 ((hBwr.cell (p := ⟨lb, lo + q, none⟩) hlb).trans (hLab q hqn)) (.cells #[.string x, .int .i64 (q : Int)] 56)
              have hnew := World.alloc_heap_new wr (.cells #[.string x, .int .i64 (q : Int)] 56)
              have hbA : Below wr.heap.size wr (wr.alloc (.cells #[.string x, .int .i64 (q : Int)] 56)) := (Below.refl _ _).alloc (Nat.le_refl _) _
              have hIA := isb_below hI hbA
              have hBA := hB.trans (hbA.mono hsz)
              have hsA : G ≤ (wr.alloc (.cells #[.string x, .int .i64 (q : Int)] 56)).heap.size := Nat.le_trans hsz hbA.size
              have Hx := Lib.hid hx
              have Hsn := Lib.hid hsn
              clear hsn hx
              have HIA := Lib.hid hIA
              go_wp2
              generalize hQ : wr.heap.size = Q0 at *
              obtain ⟨W5, hW5⟩ : ∃ W5, wr.alloc (.cells #[.string x, .int .i64 (q : Int)] 56) = W5 := ⟨_, rfl⟩
              rw [hW5] at m0 m1 hnew hbA HIA hBA hsA ⊢
              clear hW5
              have n0 := blk_cell hnew 0
              have n1 := blk_cell hnew 1
              simp only [List.getElem?_toArray, List.getElem?_cons_zero, List.getElem?_cons_succ] at n0 n1
              have hHG : w.heap.size < G := by omega
              have hlG : lb < G := by omega
              have hQG : some Q0 ≠ some G := by intro e; injection e with e; subst e; exact absurd (hI.elim (fun h => h.lt) (fun h => h.lt)) (by omega)
              have hfl2 := flat_len (fun u : ByteArray × Int => lineT [wUser, u.1, s.labels.getD u.2.toNat ⟨#[]⟩]) (fun _ => .inr trivial) (s.users.take j) (fun u hu => hline3 _ _ _ (by decide) (y2 u (List.mem_of_mem_take hu)) (hgd _))
              have hbl : (T1 ++ usersT s.labels (s.users.take j)).length ≤ 900000 := by
                have h2 : (s.users.take j).length ≤ 4 := by rw [List.length_take]; omega
                rw [List.length_append]
                unfold usersT
                omega
              have hpl := pline_new G [wUser, x, s.labels.getD q ⟨#[]⟩] _ W5.drew 3 rfl HIA.out (h3all _ _ _ (by decide) hxs (hgd _)) (by simp) hbl hsA
              have Hpl := Lib.hid hpl
              clear hpl hfl2 hbl
              generalize hg0 : s.labels.getD q ⟨#[]⟩ = x0' at *
              go_region_held3 (fun w' => w'.cell? ⟨w.heap.size, 0, none⟩ = some (.slice (some ⟨lb, lo, none⟩) nl c1) ∧ w'.cell? ⟨Q0, 0, none⟩ = some (.string x) ∧ w'.cell? ⟨Q0, 1, none⟩ = some (.int .i64 (q : Int)) ∧ w'.cell? ⟨lb, lo + q, none⟩ = some (.string x0'))
                (first | go_keep | exact ⟨(hb3.cell (p := ⟨w.heap.size, 0, none⟩) hHG).trans m0, (blk_cell hnew3 0).trans rfl, (blk_cell hnew3 1).trans rfl, (hb3.cell (p := ⟨lb, lo + q, none⟩) hlG).trans m1⟩)
                ((go_at_call 28; refine Hpl.out.mono ?_; rintro e w3 ⟨rfl, hi3, hb3, ho3⟩; have hnew3 := ho3 Q0 _ hnew hQG (by intro c fz h; cases h)))
              go_wp2
              refine ⟨⟨j + 1, rfl, by omega, by rw [Hsn.out, ← List.append_assoc]; exact hi3, hBA.trans (undrewG hb3), Nat.le_trans hsA hb3.size⟩, by simp [intOf]; omega⟩
            · obtain rfl : j = nu := by omega
              rw [List.take_of_length_le (by omega)] at hI
              have kk3 := (hB.cell (p := ⟨w.heap.size, 3, none⟩) (by show w.heap.size < _; omega)).trans k3
              go_wp2
              generalize hT2 : T1 ++ usersT s.labels s.users = T2 at *
              have hT2l : T2.length ≤ 16000 := by
                have h2 := flat_len (fun u : ByteArray × Int => lineT [wUser, u.1, s.labels.getD u.2.toNat ⟨#[]⟩]) (fun _ => .inr trivial) s.users (fun u hu => hline3 _ _ _ (by decide) (y2 u hu) (hgd _))
                rw [← hT2, List.length_append]
                unfold usersT
                omega
              have HT2 := Lib.hid hT2
              clear hT2
              have hpd := hg.preds
              generalize hnq : s.preds.length = np at *
              go_loopw [78] (fun p wr => ∃ k : Nat, p = .int .i64 (k : Int) ∧ k ≤ np ∧ Lib.IsBuilderF 70 5 G G (Lib.byteCells (T2 ++ predsT (s.preds.take k))) wr ∧ Below G W2 wr ∧ G ≤ wr.heap.size) (fun p _ => np - (intOf p).toNat)
              case atStart => exact ⟨0, rfl, by omega, by simpa [predsT] using hI, hB, hsz⟩
              case round =>
                obtain ⟨i, rfl, hi, hI, hB, hsz⟩ := hrel
                have hBwr : Below w.heap.size w wr := hBw.trans (hB.mono (by omega))
                by_cases hil : i < np
                · obtain ⟨ub, uo, x, q, r, rfl, hx, hub, cx, cq, cr⟩ := C_pred (Kd.C_below hC4 hBwr) i hil
                  obtain ⟨hq0, hq1, hr0, hr1⟩ := hpd _ (List.mem_of_getElem? hx)
                  have hxs := y3 _ (List.mem_of_getElem? hx)
                  simp only at hq0 hq1 hr0 hr1 hxs
                  obtain ⟨q, rfl⟩ := Int.eq_ofNat_of_zero_le hq0
                  obtain ⟨r, rfl⟩ := Int.eq_ofNat_of_zero_le hr0
                  have hq9 : q < 100 := by omega
                  have hr9 : r < 100 := by omega
                  have hsn : predsT (s.preds.take (i + 1)) = predsT (s.preds.take i) ++ lineT [wPred, x, strB (Lib.decDigits q), strB (Lib.decDigits r)] := flat_snoc _ hx
                  have hnew := World.alloc_heap_new wr (.cells #[.string x, .int .i64 (q : Int), .int .i64 (r : Int)] 58)
                  have hbA : Below wr.heap.size wr (wr.alloc (.cells #[.string x, .int .i64 (q : Int), .int .i64 (r : Int)] 58)) := (Below.refl _ _).alloc (Nat.le_refl _) _
                  have hIA := isb_below hI hbA
                  have hBA := hB.trans (hbA.mono hsz)
                  have hsA : G ≤ (wr.alloc (.cells #[.string x, .int .i64 (q : Int), .int .i64 (r : Int)] 58)).heap.size := Nat.le_trans hsz hbA.size
                  have Hx := Lib.hid hx
                  have Hsn := Lib.hid hsn
                  clear hsn hx
                  have HIA := Lib.hid hIA
                  go_wp2
                  generalize hQ : wr.heap.size = Q0 at *
                  obtain ⟨W5, hW5⟩ : ∃ W5, wr.alloc (.cells #[.string x, .int .i64 (q : Int), .int .i64 (r : Int)] 58) = W5 := ⟨_, rfl⟩
                  rw [hW5] at hnew hbA HIA hBA hsA ⊢
                  clear hW5
                  have n0 := blk_cell hnew 0
                  have n1 := blk_cell hnew 1
                  have n2 := blk_cell hnew 2
                  simp only [List.getElem?_toArray, List.getElem?_cons_zero, List.getElem?_cons_succ] at n0 n1 n2
                  have hQG : some Q0 ≠ some G := by intro e; injection e with e; subst e; exact absurd (hI.elim (fun h => h.lt) (fun h => h.lt)) (by omega)
                  have hfl2 := flat_len (fun p : ByteArray × (Int × Int) => lineT [wPred, p.1, strB (Lib.decDigits p.2.1.toNat), strB (Lib.decDigits p.2.2.toNat)]) (fun _ => .inr trivial) (s.preds.take i) (fun u hu => by
                    have hm := List.mem_of_mem_take hu
                    have hp := hpd u hm
                    exact line_len _ (h4all _ _ _ _ (by decide) (y3 u hm) (dec_len _ (by omega)) (dec_len _ (by omega))) (by simp))
                  have hbl : (T2 ++ predsT (s.preds.take i)).length ≤ 900000 := by
                    have h2 : (s.preds.take i).length ≤ 4 := by rw [List.length_take]; omega
                    rw [List.length_append]
                    unfold predsT
                    omega
                  have hpl := pline_new G [wPred, x, strB (Lib.decDigits q), strB (Lib.decDigits r)] _ W5.drew 4 rfl HIA.out (h4all _ _ _ _ (by decide) hxs (dec_len _ (by omega)) (dec_len _ (by omega))) (by simp) hbl hsA
                  have Hpl := Lib.hid hpl
                  clear hpl hfl2 hbl
                  go_region_held3 (fun w' => w'.cell? ⟨Q0, 0, none⟩ = some (.string x) ∧ w'.cell? ⟨Q0, 1, none⟩ = some (.int .i64 (q : Int)) ∧ w'.cell? ⟨Q0, 2, none⟩ = some (.int .i64 (r : Int)))
                    (first | go_keep | exact ⟨(blk_cell hnew3 0).trans rfl, (blk_cell hnew3 1).trans rfl, (blk_cell hnew3 2).trans rfl⟩)
                    (first
                      | (go_at_call 32; refine (Tryd.strconv_Itoa_small q hq9 _).mono ?_; rintro e w3 ⟨rfl, rfl⟩)
                      | (go_at_call 32; refine (Tryd.strconv_Itoa_small r hr9 _).mono ?_; rintro e w3 ⟨rfl, rfl⟩)
                      | (go_at_call 28; refine Hpl.out.mono ?_; rintro e w3 ⟨rfl, hi3, hb3, ho3⟩; have hnew3 := ho3 Q0 _ hnew hQG (by intro c fz h; cases h)))
                  go_wp2
                  refine ⟨⟨i + 1, rfl, by omega, by rw [Hsn.out, ← List.append_assoc]; exact hi3, hBA.trans (undrewG hb3), Nat.le_trans hsA hb3.size⟩, by simp [intOf]; omega⟩
                · obtain rfl : i = np := by omega
                  rw [List.take_of_length_le (by omega)] at hI
                  have hBwr : Below w.heap.size w wr := hBw.trans (hB.mono (by omega))
                  have kk4 := (hB.cell (p := ⟨w.heap.size, 4, none⟩) (by show w.heap.size < _; omega)).trans k4
                  have kk5 := (hB.cell (p := ⟨w.heap.size, 5, none⟩) (by show w.heap.size < _; omega)).trans k5
                  have hpt := purseText_calls s.re s.im n m hg.re hg.im hn0 hn1 hm0 hm1 (by omega) wr (htab.below hBwr (PowTab.lt htab))
                  have Hpt := Lib.hid hpt
                  clear hpt
                  have hb1 := hg.b1
                  generalize hbd : s.bound = bdI at *
                  have Hbd := Lib.hid hbd
                  clear hbd
                  obtain ⟨bd, rfl⟩ := Int.eq_ofNat_of_zero_le (show 0 ≤ bdI by omega)
                  have hbd9 : bd < 100 := by omega
                  generalize hT3 : T2 ++ predsT s.preds = T3 at *
                  have hT3l : T3.length ≤ 24000 := by
                    have h2 := flat_len (fun p : ByteArray × (Int × Int) => lineT [wPred, p.1, strB (Lib.decDigits p.2.1.toNat), strB (Lib.decDigits p.2.2.toNat)]) (fun _ => .inr trivial) s.preds (fun u hu => by
                      have hp := hpd u hu
                      exact line_len _ (h4all _ _ _ _ (by decide) (y3 u hu) (dec_len _ (by omega)) (dec_len _ (by omega))) (by simp))
                    rw [← hT3, List.length_append]
                    unfold predsT
                    omega
                  have HT3 := Lib.hid hT3
                  clear hT3
                  have h2all : ∀ (a b : ByteArray), a.size ≤ 200 → b.size ≤ 200 → ∀ x ∈ [a, b], x.size ≤ 200 := by
                    intro a b ha hb x hx
                    simp only [List.mem_cons, List.not_mem_nil, or_false] at hx
                    rcases hx with rfl | rfl <;> assumption
                  have hpz : (strB (purseT n m)).size ≤ 200 := by
                    unfold strB purseT
                    show (Lib.itoa n ++ [32] ++ Lib.itoa m).toArray.size ≤ 200
                    simp
                    omega
                  have hln1 : (lineT [wBound, strB (Lib.decDigits bd)]).length ≤ 1000 := line_len _ (h2all _ _ (by decide) (dec_len bd hbd9)) (by simp)
                  have hp1 := fun wt (h : Below wr.heap.size wr wt) => pline_new G [wBound, strB (Lib.decDigits bd)] T3 wt 2 rfl (isb_below hI h) (h2all _ _ (by decide) (dec_len bd hbd9)) (by simp) (by omega) (Nat.le_trans hsz h.size)
                  have hp2 := fun wb (h : Lib.IsBuilderF 70 5 G G (Lib.byteCells (T3 ++ lineT [wBound, strB (Lib.decDigits bd)])) wb) (hg : G ≤ wb.heap.size) => pline_new G [wPurse, strB (purseT n m)] _ wb 2 rfl h (h2all _ _ (by decide) hpz) (by simp) (by rw [List.length_append]; omega) hg
                  have Hp1 := Lib.hid hp1
                  have Hp2 := Lib.hid hp2
                  have HI := Lib.hid hI
                  have hHw : w.heap.size < wr.heap.size := by omega
                  clear hp1 hp2 hI
                  go_wp2_with (first
                    | (go_at_call 33; refine Hpt.out.mono ?_; clear Hpt; rintro e wt ⟨rfl, hbt⟩; have k4t := (hbt.cell (p := ⟨w.heap.size, 4, none⟩) hHw).trans kk4; have k4t' := al1 k4t)
                    | (go_at_call 32; refine (Tryd.strconv_Itoa_small bd hbd9 _).mono ?_; rintro e w3 ⟨rfl, rfl⟩)
                    | (go_at_call 28; refine (Hp1.out _ hbt).mono ?_; clear Hp1; rintro e wb ⟨rfl, hib, hbb, -⟩; have hszb := Nat.le_trans (Nat.le_trans hsz hbt.size) hbb.size)
                    | (go_at_call 28; refine (Hp2.out _ hib hszb).mono ?_; clear Hp2; rintro e wc ⟨rfl, hic, hbc, -⟩; have hszc := Nat.le_trans hszb hbc.size)
                    | (go_at_call 34; refine (Tryd.Builder_String_any_f G G _ _ hic hszc).mono ?_; rintro e wd ⟨rfl, hid4, hbd4⟩))
                  go_ret2
                  refine ⟨?_, hBw.trans ((((hB.trans (hbt.mono hsz)).trans hbb).trans hbc).trans hbd4 |>.mono (by omega))⟩
                  have e : printT s ps n m = T3 ++ lineT [wBound, strB (Lib.decDigits bd)] ++ lineT [wPurse, strB (purseT n m)] := by
                    rw [← HT3.out, ← HT2.out, ← HT1.out]
                    unfold printT
                    rw [Hbd.out]
                    rfl
                  rw [e, List.append_assoc]
                  rfl
end Go.Proofs.YtfigaamgcmifeaaDoor
