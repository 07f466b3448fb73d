/- What a configuration's lines make, one after another; what the order is made of. -/
import Derived.Test.YtfigaamgcmifeaaDoorLa
import Derived.Test.YtfigaamgcmifeaaDoorBd
import Derived.Lib.Split
namespace Go.Proofs.YtfigaamgcmifeaaDoor
open Go.RowKit Go.Proofs.YtfigaamgcmifeaaDoorW.PrintWords
set_option linter.unusedVariables false

theorem idxS_range (l : List ByteArray) (x : ByteArray) : -1 ≤ idxS l x ∧ idxS l x < l.length := by
  exact ⟨idxS_lo l x, idxS_hi l x⟩

/-- What every reader keeps. -/
structure WF (s : St) : Prop where
  l1 : s.labels.length ≤ 64
  l2 : s.users.length ≤ 16
  l3 : s.preds.length ≤ 32
  ps : ∀ p ∈ s.pairs, 0 ≤ p.1 ∧ p.1 < s.labels.length ∧ 0 ≤ p.2 ∧ p.2 < s.labels.length

theorem WF.label {s : St} (h : WF s) (x : ByteArray) : WF (labelS s x).2 ∧ (labelS s x).2.pairs.length ≤ s.pairs.length + 1 := by
  unfold labelS
  split
  · exact ⟨h, by simp⟩
  · split
    · exact ⟨h, by simp⟩
    · rename_i h1 h2
      refine ⟨⟨?_, h.l2, h.l3, fun p hp => ?_⟩, by simp⟩
      · have := h.l1; simp; omega
      · have := h.ps p hp; simp; omega
theorem WF.above {s : St} (h : WF s) (x y : ByteArray) : WF (aboveS s x y).2 ∧ (aboveS s x y).2.pairs.length ≤ s.pairs.length + 1 := by
  unfold aboveS
  split
  · exact ⟨h, by simp⟩
  · rename_i h1
    refine ⟨⟨h.l1, h.l2, h.l3, fun p hp => ?_⟩, by simp⟩
    rcases List.mem_append.1 hp with hp | hp
    · exact h.ps p hp
    · rw [List.mem_singleton] at hp
      subst hp
      have a := idxS_range s.labels x
      have b := idxS_range s.labels y
      simp only
      omega
theorem WF.user {s : St} (h : WF s) (x y : ByteArray) : WF (userS s x y).2 ∧ (userS s x y).2.pairs.length ≤ s.pairs.length + 1 := by
  unfold userS
  split
  · exact ⟨h, by simp⟩
  · split
    · exact ⟨h, by simp⟩
    · exact ⟨⟨h.l1, by have := h.l2; simp; omega, h.l3, h.ps⟩, by simp⟩
theorem WF.pred {s : St} (h : WF s) (x : ByteArray) (a b : Int) : WF (predS s x a b).2 ∧ (predS s x a b).2.pairs.length ≤ s.pairs.length + 1 := by
  unfold predS
  split
  · exact ⟨h, by simp⟩
  · split
    · exact ⟨h, by simp⟩
    · exact ⟨⟨h.l1, h.l2, by have := h.l3; simp; omega, h.ps⟩, by simp⟩
theorem WF.limit {s : St} (h : WF s) (a : Int) : WF (limitS s a).2 ∧ (limitS s a).2.pairs.length ≤ s.pairs.length + 1 := by
  unfold limitS
  split
  · exact ⟨h, by simp⟩
  · exact ⟨⟨h.l1, h.l2, h.l3, h.ps⟩, by simp⟩
theorem WF.purse {s : St} (h : WF s) (a b : Int) : WF (purseS s a b).2 ∧ (purseS s a b).2.pairs.length ≤ s.pairs.length + 1 := by
  unfold purseS
  split
  · exact ⟨h, by simp⟩
  · exact ⟨⟨h.l1, h.l2, h.l3, h.ps⟩, by simp⟩
theorem WF.doS {s : St} (h : WF s) (k : Kn) (ns : List ByteArray) (nums : List Int) : WF (doS k s ns nums).2 ∧ (doS k s ns nums).2.pairs.length ≤ s.pairs.length + 1 := by
  cases k
  · exact h.label _
  · exact h.above _ _
  · exact h.user _ _
  · exact h.pred _ _ _
  · exact h.limit _
  · exact h.purse _ _
theorem WF.line {s : St} (h : WF s) (ws : List ByteArray) : WF (lineS s ws).2 ∧ (lineS s ws).2.pairs.length ≤ s.pairs.length + 1 := by
  have h0 : WF s ∧ s.pairs.length ≤ s.pairs.length + 1 := ⟨h, by simp⟩
  cases ws with
  | nil => exact h0
  | cons w0 rest =>
    unfold lineS
    repeat' split
    all_goals first | exact h0 | exact h.doS _ _ _

/-- Nothing read yet. -/
def St.none : St := ⟨[], [], [], 0, 0, 0, [], false, false⟩
theorem WF.none : WF St.none := ⟨by simp [St.none], by simp [St.none], by simp [St.none], fun p hp => by cases hp⟩

/-- Lines, the first one's number i + 1: the reader behind them; the line of an error and its number (0: none). -/
def runS : St → Nat → List ByteArray → St × Int × Int
  | s, _, [] => (s, 0, 0)
  | s, i, x :: rest => if (lineS s (wordsB x)).1 = 0 then runS (lineS s (wordsB x)).2 (i + 1) rest else ((lineS s (wordsB x)).2, (i : Int) + 1, (lineS s (wordsB x)).1)

theorem WF.run {s : St} (h : WF s) : ∀ (l : List ByteArray) (i : Nat), WF (runS s i l).1
  | [], _ => h
  | x :: rest, i => by
    unfold runS
    split
    · exact WF.run (h.line _).1 rest _
    · exact (h.line _).1

def nlB : ByteArray := ⟨#[10]⟩
def linesB (s : ByteArray) : List ByteArray := Lib.splitB nlB 0 (Lib.countB s nlB) s

/-- What is made of a text: what is read; the order; the line of an error, and its number. -/
structure Parsed where
  st : St
  up : List Nat
  line : Int
  err : Int
def Parsed.bad (i e : Int) : Parsed := ⟨St.none, [], i, e⟩
def closeS (s : St) : Parsed :=
  if s.labels.length = 0 ∨ s.bnd = false ∨ s.psd = false then .bad 0 7
  else if rightB (buildS s.labels.length s.pairs) = true then ⟨s, buildS s.labels.length s.pairs, 0, 0⟩ else .bad 0 9
def parseS (t : ByteArray) : Parsed :=
  if 65536 < t.size then .bad 0 2
  else if (runS St.none 0 (linesB t)).2.2 = 0 then closeS (runS St.none 0 (linesB t)).1 else .bad (runS St.none 0 (linesB t)).2.1 (runS St.none 0 (linesB t)).2.2

/-- A configuration as a value. -/
def Cfg (w : World) (v : Value) (s : St) (L : List Nat) : Prop :=
  ∃ A1 c1 A2 c2 A3 c3 A4 c4, v = .agg #[.slice A1 s.labels.length c1, .slice A2 L.length c2, .slice A3 s.users.length c3, .slice A4 s.preds.length c4, .int .i64 s.bound, .complex .f64 s.re s.im] ∧
    Kd.C Kd.string w A1 s.labels.length s.labels ∧ s.labels.length ≤ c1 ∧ (∀ k x, L[k]? = some x → ∃ b o, A2 = some ⟨b, o, none⟩ ∧ w.cell? ⟨b, o + k, none⟩ = some (.int .u64 ((x : Nat) : Int))) ∧ L.length ≤ c2 ∧
    Kd.C kU w A3 s.users.length s.users ∧ Kd.C kP w A4 s.preds.length s.preds
theorem Cfg.below {w w' : World} {v : Value} {s : St} {L : List Nat} (h : Cfg w v s L) (hb : Below w.heap.size w w') : Cfg w' v s L := by
  obtain ⟨A1, c1, A2, c2, A3, c3, A4, c4, e, h1, h1c, h2, hc, h3, h4⟩ := h
  exact ⟨A1, c1, A2, c2, A3, c3, A4, c4, e, Kd.C_below h1 hb, h1c, fun k x hx => by obtain ⟨b, o, e, hcell⟩ := h2 k x hx; exact ⟨b, o, e, pw_cell_below hb hcell⟩, hc, Kd.C_below h3 hb, Kd.C_below h4 hb⟩

theorem up_open {w : World} {A2 : Option Addr} {L : List Nat} (h : ∀ k x, L[k]? = some x → ∃ b o, A2 = some ⟨b, o, none⟩ ∧ w.cell? ⟨b, o + k, none⟩ = some (.int .u64 ((x : Nat) : Int))) (h0 : 1 ≤ L.length) :
    ∃ b o, A2 = some ⟨b, o, none⟩ ∧ b < w.heap.size ∧ ∀ (k x : Nat), L[k]? = some x → w.cell? ⟨b, o + k, none⟩ = some (.int .u64 (x : Int)) := by
  obtain ⟨b, o, e, hc⟩ := h 0 _ (List.getElem?_eq_getElem (by omega))
  refine ⟨b, o, e, World.block_lt_of_cell? w _ hc, fun k x hx => ?_⟩
  obtain ⟨b', o', e', hc'⟩ := h k x hx
  rw [e] at e'
  injection e' with e'
  injection e' with e1 e2
  subst e1 e2
  exact hc'

end Go.Proofs.YtfigaamgcmifeaaDoor
