/- A line of a configuration: what its words are and what it makes of what has been read. -/
import Derived.Test.YtfigaamgcmifeaaDoorRg
import Derived.Test.YtfigaamgcmifeaaDoorKi
import Derived.Test.YtfigaamgcmifeaaDoorRv
import Derived.Lib.OthersKept
namespace Go.Proofs.YtfigaamgcmifeaaDoor
open Go.RowKit Go.Proofs.YtfigaamgcmifeaaDoorW.PrintWords
set_option linter.unusedVariables false

inductive Kn where
  | label | above | user | pred | bound | purse
def Kn.ws : Kn → ByteArray
  | .label => ⟨#[110]⟩ | .above => ⟨#[110, 110]⟩ | .user => ⟨#[110, 110]⟩ | .pred => ⟨#[110, 100, 100]⟩ | .bound => ⟨#[100]⟩ | .purse => ⟨#[100, 100]⟩
def Kn.m0 : Kn → Int
  | .pred => 4 | .bound => 4096 | .purse => 1099511627776 | _ => 0
def Kn.m1 : Kn → Int
  | .pred => 7 | .purse => 1099511627776 | _ => 0
def Kn.least : Kn → Int
  | .bound => 1 | _ => 0
def Kn.f : Kn → Nat
  | .label => 39 | .above => 40 | .user => 41 | .pred => 42 | .bound => 43 | .purse => 44
def Kn.name : Kn → ByteArray
  | .label => ⟨#[108, 97, 98, 101, 108]⟩ | .above => ⟨#[97, 98, 111, 118, 101]⟩ | .user => ⟨#[117, 115, 101, 114]⟩ | .pred => ⟨#[112, 114, 101, 100]⟩ | .bound => ⟨#[98, 111, 117, 110, 100]⟩ | .purse => ⟨#[112, 117, 114, 115, 101]⟩
def Kn.cells (k : Kn) : Array Value := #[.string k.ws, .int .i64 k.m0, .int .i64 k.m1, .int .i64 k.least, .func (.func k.f) #[] #[]]

/-- The kind of lines that begin so. -/
def knOf (x : ByteArray) : Option Kn :=
  if x = Kn.label.name then some .label else if x = Kn.above.name then some .above else if x = Kn.user.name then some .user
  else if x = Kn.pred.name then some .pred else if x = Kn.bound.name then some .bound else if x = Kn.purse.name then some .purse else none

theorem beq_ba (x y : ByteArray) : (x == y) = decide (x = y) := by
  cases x with | mk a => cases y with | mk b =>
  have e : ((⟨a⟩ : ByteArray) == ⟨b⟩) = (a == b) := rfl
  rw [e, Bool.eq_iff_iff]
  simp

theorem zeroKind (w : World) : (zeroValue 91).run Tryd.prog w = .ok (.agg #[.string ⟨#[]⟩, .int .i64 0, .int .i64 0, .int .i64 0, .nilFunc]) w := by kernel_rfl

theorem lookup_kind (w : World) (b : Nat) (x : ByteArray) (hb : w.heap[b]? = some (.map kindsEs 6)) :
    (Instr.lookup 48 (.map (some b)) (.string x) true).run Tryd.prog w = .ok (match knOf x with
      | some k => .tuple #[.agg k.cells, .bool true]
      | none => .tuple #[.agg #[.string ⟨#[]⟩, .int .i64 0, .int .i64 0, .int .i64 0, .nilFunc], .bool false]) w := by
  have hc : ∀ e n, (Instr.checkKey e (n + 1) 9 (.string x)).run Tryd.prog w = .ok () w := fun e n => by simp [Instr.checkKey, run_underlying Tryd.underlying9]
  have key : ∀ r, Instr.findNow .string (.string x) kindsEs.toList 0 = some r → (Instr.lookup 48 (.map (some b)) (.string x) true).run Tryd.prog w = .ok (match r with
      | some (_, v) => .tuple #[v, .bool true]
      | none => .tuple #[.agg #[.string ⟨#[]⟩, .int .i64 0, .int .i64 0, .int .i64 0, .nilFunc], .bool false]) w := by
    intro r hr
    cases r with
    | none => simp [Instr.lookup, run_underlying Tryd.underlying48, MapKept.run_getObj_map hb, hc _ 9999, Instr.findKey, run_underlying Tryd.underlying9, hr, Result.andThen, zeroKind]
    | some v => simp [Instr.lookup, run_underlying Tryd.underlying48, MapKept.run_getObj_map hb, hc _ 9999, Instr.findKey, run_underlying Tryd.underlying9, hr, Result.andThen]
  have step : ∀ (v : Value) (kb : ByteArray) (e : Nat) (es : List MapEntry) (i : Nat), Instr.findNow .string (.string x) (⟨.string kb, v, e⟩ :: es) i = if x = kb then some (some (i, v)) else Instr.findNow .string (.string x) es (i + 1) := by
    intro v kb e es i
    have hbq : (x == kb) = decide (x = kb) := beq_ba x kb
    simp only [Instr.findNow, Instr.sameNow, hbq]
    by_cases h : x = kb
    · simp [h]
    · simp [h]
  unfold knOf
  have hf : Instr.findNow .string (.string x) kindsEs.toList 0 = if x = Kn.label.name then some (some (0, .agg Kn.label.cells)) else if x = Kn.above.name then some (some (1, .agg Kn.above.cells)) else if x = Kn.user.name then some (some (2, .agg Kn.user.cells))
      else if x = Kn.pred.name then some (some (3, .agg Kn.pred.cells)) else if x = Kn.bound.name then some (some (4, .agg Kn.bound.cells)) else if x = Kn.purse.name then some (some (5, .agg Kn.purse.cells)) else some none := by
    show Instr.findNow .string (.string x) [_, _, _, _, _, _] 0 = _
    rw [step, step, step, step, step, step]
    rfl
  by_cases h1 : x = Kn.label.name
  · rw [if_pos h1] at hf ⊢; exact key _ hf
  rw [if_neg h1] at hf ⊢
  by_cases h2 : x = Kn.above.name
  · rw [if_pos h2] at hf ⊢; exact key _ hf
  rw [if_neg h2] at hf ⊢
  by_cases h3 : x = Kn.user.name
  · rw [if_pos h3] at hf ⊢; exact key _ hf
  rw [if_neg h3] at hf ⊢
  by_cases h4 : x = Kn.pred.name
  · rw [if_pos h4] at hf ⊢; exact key _ hf
  rw [if_neg h4] at hf ⊢
  by_cases h5 : x = Kn.bound.name
  · rw [if_pos h5] at hf ⊢; exact key _ hf
  rw [if_neg h5] at hf ⊢
  by_cases h6 : x = Kn.purse.name
  · rw [if_pos h6] at hf ⊢; exact key _ hf
  rw [if_neg h6] at hf ⊢
  exact key _ hf

/-- Names (n) and numbers (d) of a line's words. -/
def scan (m0 m1 l : Int) : List UInt8 → List ByteArray → List ByteArray → List Int → Option (List ByteArray × List Int)
  | [], _, ns, nums => some (ns, nums)
  | _ :: _, [], _, _ => none
  | c :: cs, x :: xs, ns, nums =>
    if c = 110 then (if nameB x = true then scan m0 m1 l cs xs (ns ++ [x]) nums else none)
    else if (readR x).2.2 = false ∨ (readR x).1 ≠ ⟨#[]⟩ ∨ (readR x).2.1 < l ∨ (if nums.length = 0 then m0 else m1) < (readR x).2.1 then none
    else scan m0 m1 l cs xs ns (nums ++ [(readR x).2.1])

def doS (k : Kn) (s : St) (ns : List ByteArray) (nums : List Int) : Int × St :=
  match k with
  | .label => labelS s (ns.getD 0 ⟨#[]⟩)
  | .above => aboveS s (ns.getD 0 ⟨#[]⟩) (ns.getD 1 ⟨#[]⟩)
  | .user => userS s (ns.getD 0 ⟨#[]⟩) (ns.getD 1 ⟨#[]⟩)
  | .pred => predS s (ns.getD 0 ⟨#[]⟩) (nums.getD 0 0) (nums.getD 1 0)
  | .bound => limitS s (nums.getD 0 0)
  | .purse => purseS s (nums.getD 0 0) (nums.getD 1 0)

/-- What a line makes of what has been read: an error's number (0: none), and what has been read behind it. -/
def lineS (s : St) : List ByteArray → Int × St
  | [] => (0, s)
  | w0 :: rest =>
    if w0.data.toList.head? = some 35 then (0, s) else
    match knOf w0 with
    | none => (7, s)
    | some k => if rest.length ≠ k.ws.size then (7, s) else
      match scan k.m0 k.m1 k.least k.ws.data.toList rest [] [] with
      | none => (7, s)
      | some (ns, nums) => doS k s ns nums

/-- a blank -/
def blankR (r : Nat) : Bool := r == 32 || r == 9
def wordsB (s : ByteArray) : List ByteArray := Lib.goFieldsP blankR s

end Go.Proofs.YtfigaamgcmifeaaDoor
