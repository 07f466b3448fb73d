/- The table of the kinds of lines: a map that is made anew at each call, asked by a line's first word. -/
import Derived.Test.YtfigaamgcmifeaaDoorSl
import Derived.Maps.OwnOps
namespace Go.Proofs.YtfigaamgcmifeaaDoor
open Go.RowKit Go.Proofs.YtfigaamgcmifeaaDoorW.PrintWords
set_option linter.unusedVariables false

section
variable {P : Program} {ops : Array Oper} {rest : List Oper} {o : Oper} {a : Act} {Q : Exit → Act → World → Prop}
theorem wpList_insert_raw (w : World) (hg : o.guard = none) (m x v : Operand) (t : TypeId) (hop : o.op = Op.insert t m x v) (k e : TypeId) (hk : P.underlying k = some .string) (ht : P.underlying t = some (.map k e))
    (b : Nat) (es : Array MapEntry) (clock : Nat) (hm : a.eval m = .map (some b)) (hb : w.heap[b]? = some (.map es clock)) (key : ByteArray) (val : Value) (hx : a.eval x = .string key) (hv : a.eval v = val)
    (hfind : Instr.findNow .string (.string key) es.toList 0 = some none)
    (hK : ∀ w', w'.heap[b]? = some (.map (es.push ⟨.string key, val, clock⟩) (clock + 1)) → w.grownBy w' (some b) → wpList P ops Q rest (a.put o.dst undef) w') : wpList P ops Q (o :: rest) a w := by
  refine wpList_plain hg fun K' hK' => ?_
  have hlt : b < w.heap.size := (Array.getElem?_eq_some_iff.1 hb).1
  have hrun : (Instr.mapUpdate t (.map (some b)) (.string key) val).run P w = .ok () { w with heap := w.heap.setIfInBounds b (.map (es.push ⟨.string key, val, clock⟩) (clock + 1)) } := by
    have hc : ∀ n, (Instr.checkKey false (n + 1) k (.string key)).run P w = .ok () w := fun n => by simp [Instr.checkKey, run_underlying hk]
    simp [Instr.mapUpdate, run_underlying ht, MapKept.run_getObj_map hb, hc 9999, Instr.findKey, run_underlying hk, hfind, MapKept.run_setObj_map _ hb, Result.andThen]
  unfold Oper.wp
  simp [execOp, hop, hm, hx, hv, hrun, Result.andThen]
  refine hK' _ _ (hK _ (by simp [hlt]) ⟨rfl, rfl, rfl, by simp, fun k hk hne => ?_⟩)
  have : k ≠ b := fun e => hne (by rw [e])
  simp [Array.getElem?_setIfInBounds_ne (Ne.symm this)]
end

def kindV (words : Array UInt8) (m0 m1 l : Int) (f : Nat) : Value := .agg #[.string ⟨words⟩, .int .i64 m0, .int .i64 m1, .int .i64 l, .func (.func f) #[] #[]]

def kindsEs : Array MapEntry := #[
  ⟨.string ⟨#[108, 97, 98, 101, 108]⟩, kindV #[110] 0 0 0 39, 0⟩,
  ⟨.string ⟨#[97, 98, 111, 118, 101]⟩, kindV #[110, 110] 0 0 0 40, 1⟩,
  ⟨.string ⟨#[117, 115, 101, 114]⟩, kindV #[110, 110] 0 0 0 41, 2⟩,
  ⟨.string ⟨#[112, 114, 101, 100]⟩, kindV #[110, 100, 100] 4 7 0 42, 3⟩,
  ⟨.string ⟨#[98, 111, 117, 110, 100]⟩, kindV #[100] 4096 0 1 43, 4⟩,
  ⟨.string ⟨#[112, 117, 114, 115, 101]⟩, kindV #[100, 100] 1099511627776 1099511627776 0 44, 5⟩]

set_option maxRecDepth 100000 in
set_option maxHeartbeats 4000000 in
theorem kinds_calls (w : World) :
    Calls Tryd.prog 17 #[] w fun e w' => e = .returned (.map (some w.heap.size)) ∧ w'.heap[w.heap.size]? = some (.map kindsEs 6) ∧ Below w.heap.size w w' := by
  have hmm := @run_makeMap Tryd.prog
  go_enter Tryd.func17, Tryd.ntmps17
  have hb0 : (w.alloc (Obj.map #[] 0)).heap[w.heap.size]? = some (.map #[] 0) := heap_alloc_new w _
  have HB : Below w.heap.size w (w.alloc (Obj.map #[] 0)) := (Below.refl _ _).alloc (Nat.le_refl _) _
  go_wp2_with (refine wpList_insert_raw _ rfl _ _ _ _ rfl 9 91 Tryd.underlying9 Tryd.underlying48 w.heap.size _ _ rfl (by assumption) _ _ rfl rfl (by rfl) ?_; intro w1 hb1 hg1; replace HB := HB.grown hg1 HB.size (fun k e => by cases e; exact Nat.le_refl _))
  go_ret
  exact ⟨rfl, hb1, HB⟩
end Go.Proofs.YtfigaamgcmifeaaDoor
