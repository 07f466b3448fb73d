/- The words that the walks of this seat share: kinds of elements, a state of the configuration's reader. -/
import Derived.Test.YtfigaamgcmifeaaDoorProg
import Derived.Test.YtfigaamgcmifeaaDoorWWords
import Derived.Test.YtfigaamgcmifeaaDoorWLast
import Derived.Deep.RegionHeld3
import Derived.Deep.QuietTactic
import Derived.BigQuiet
import Derived.Deep.AppendLies
import Derived.Deep.DrawnRows
import Derived.Deep.DeepMust
import Derived.WalkLawsBesides
import Derived.WalkSpells
import Derived.Lib.Hide
import Derived.WalkKit
import Derived.KernelRfl
import Derived.Lib.Bytes
namespace Go.Proofs.YtfigaamgcmifeaaDoor
open Go.RowKit Go.Proofs.YtfigaamgcmifeaaDoorW.PrintWords

/-- The same, said of all worlds between: what is old and not in 'ok', nor block r, lies as it lay. -/
structure Kp (w w' : World) (r : Nat) (ok : Nat → Prop) : Prop where
  below : Below 0 w w'
  keep : ∀ k, k < w.heap.size → ¬ ok k → k ≠ r → w'.heap[k]? = w.heap[k]?

abbrev kU : Kd (ByteArray × Int) := Kd.pair Kd.string (Kd.int .i64)
abbrev kE : Kd (Int × Int) := Kd.pair (Kd.int .i64) (Kd.int .i64)
abbrev kP : Kd (ByteArray × (Int × Int)) := Kd.pair Kd.string kE

theorem ret_int {k : IntKind} {a b : Int} (h : a = b) : Ending.returned (.int k a) = .returned (.int k b) := by rw [h]
theorem ret_bool {a b : Bool} (h : a = b) : Ending.returned (.bool a) = .returned (.bool b) := by rw [h]
theorem ret_str {a b : ByteArray} (h : a = b) : Ending.returned (.string a) = .returned (.string b) := by rw [h]

/-- What a reader has read. -/
structure St where
  labels : List ByteArray
  users : List (ByteArray × Int)
  preds : List (ByteArray × (Int × Int))
  bound : Int
  re : Nat
  im : Nat
  pairs : List (Int × Int)
  bnd : Bool
  psd : Bool

def Rdr (w : World) (r : Nat) (ok : Nat → Prop) (s : St) : Prop :=
  ∃ vL vU vP vE, w.heap[r]? = some (.cells #[vL, .slice none 0 0, vU, vP, .int .i64 s.bound, .complex .f64 s.re s.im, vE, .bool s.bnd, .bool s.psd] 47 (0, 0)) ∧
    Kd.R Kd.string 9 w 0 ok vL s.labels ∧ Kd.R kU 56 w 0 ok vU s.users ∧ Kd.R kP 58 w 0 ok vP s.preds ∧ Kd.R kE 78 w 0 ok vE s.pairs

/-- Where a text stands in a list: -1 where it doesn't. -/
def idxS : List ByteArray → ByteArray → Int
  | [], _ => -1
  | y :: ys, x => if y = x then 0 else if idxS ys x < 0 then -1 else idxS ys x + 1

theorem run_store_complex (P : Program) (w : World) (a : Addr) (m : Mode) (k : FloatKind) (x y : Nat) : (store a (.complex k x y) m).run P w = stored P w a (.complex k x y) m := run_store P w a _ m rfl
/-- Fields of the reader written that lead to nothing. -/
theorem Rdr.plain {w : World} {r : Nat} {ok : Nat → Prop} {s : St} (h : Rdr w r ok s) (i : Nat) (u : Value) (hi : i ≠ 0 ∧ i ≠ 2 ∧ i ≠ 3 ∧ i ≠ 6) (s' : St)
    (hs : ∀ vL vU vP vE, (#[vL, .slice none 0 0, vU, vP, .int .i64 s.bound, .complex .f64 s.re s.im, vE, .bool s.bnd, .bool s.psd] : Array Value).setIfInBounds i u = #[vL, .slice none 0 0, vU, vP, .int .i64 s'.bound, .complex .f64 s'.re s'.im, vE, .bool s'.bnd, .bool s'.psd])
    (hl : s'.labels = s.labels ∧ s'.users = s.users ∧ s'.preds = s.preds ∧ s'.pairs = s.pairs) : Rdr (w.setCell ⟨r, i, none⟩ u) r ok s' ∧ Kp w (w.setCell ⟨r, i, none⟩ u) r ok := by
  obtain ⟨vL, vU, vP, vE, hb, hL, hU, hP, hE⟩ := h
  obtain ⟨e1, e2, e3, e4⟩ := hl
  refine ⟨⟨vL, vU, vP, vE, by rw [← hs]; exact blk_set hb i u, ?_, ?_, ?_, ?_⟩, ⟨(Below.refl _ _).setCell (p := ⟨r, i, none⟩) (Nat.zero_le _) _, fun k _ _ hr => Below.heap_setCell w ⟨r, i, none⟩ _ k hr⟩⟩
  · rw [e1]; exact Kd.R_set hL hb (by decide) i u
  · rw [e2]; exact Kd.R_set hU hb (by decide) i u
  · rw [e3]; exact Kd.R_set hP hb (by decide) i u
  · rw [e4]; exact Kd.R_set hE hb (by decide) i u
theorem al1 {w : World} {a : Addr} {v : Value} (h : w.cell? a = some v) : ∀ o, (w.alloc o).cell? a = some v := fun o => (World.cell?_alloc_lt w o a (World.block_lt_of_cell? w a h)).trans h
theorem blk_cell {w : World} {r t : Nat} {cs : Array Value} {f : Nat × Nat} (h : w.heap[r]? = some (.cells cs t f)) (i : Nat) : w.cell? ⟨r, i, none⟩ = cs[i]? := by simp [World.cell?, h]
theorem blk_frozen {w : World} {r t : Nat} {cs : Array Value} (h : w.heap[r]? = some (.cells cs t (0, 0))) (i : Nat) : w.frozen? ⟨r, i, none⟩ = false := by simp [World.frozen?, h]
theorem blk_set {w : World} {r t : Nat} {cs : Array Value} {f : Nat × Nat} (h : w.heap[r]? = some (.cells cs t f)) (i : Nat) (u : Value) : (w.setCell ⟨r, i, none⟩ u).heap[r]? = some (.cells (cs.setIfInBounds i u) t f) := by
  simp [World.setCell, Array.getElem?_modify, h]
theorem Kp.refl (w : World) (r : Nat) (ok : Nat → Prop) : Kp w w r ok := ⟨Below.refl _ _, fun _ _ _ _ => rfl⟩
theorem Kp.drewN (w : World) (r : Nat) (ok : Nat → Prop) (n : Nat) : Kp w (w.drewN n) r ok := ⟨pw_below_drewN (Below.refl _ _) n, fun _ _ _ _ => rfl⟩
theorem Kp.trans {w w1 w2 : World} {r : Nat} {ok : Nat → Prop} (h : Kp w w1 r ok) (k : Kp w1 w2 r ok) : Kp w w2 r ok :=
  ⟨h.below.trans k.below, fun i hi ho hr => (k.keep i (Nat.lt_of_lt_of_le hi h.below.size) ho hr).trans (h.keep i hi ho hr)⟩
theorem Kp.of_below {w w1 : World} {r : Nat} {ok : Nat → Prop} (h : Below w.heap.size w w1) : Kp w w1 r ok :=
  ⟨⟨h.os, h.tape, h.output, h.size, fun i hi => absurd hi (by omega)⟩, fun i hi _ _ => h.block i hi⟩
theorem undrew {w w1 : World} {n : Nat} (h : Below (w.drewN n).heap.size (w.drewN n) w1) : Below w.heap.size w w1 := ⟨h.os, h.tape, h.output, h.size, h.block⟩
theorem Kp.cell {w w' : World} {r : Nat} {ok : Nat → Prop} (h : Kp w w' r ok) {a : Addr} {v : Value} (hc : w.cell? a = some v) (ho : ¬ ok a.block) (hr : a.block ≠ r) : w'.cell? a = some v :=
  (World.cell?_of_block (h.keep _ (World.block_lt_of_cell? w a hc) ho hr)).trans hc
theorem Rdr.drewN {w : World} {r : Nat} {ok : Nat → Prop} {s : St} (h : Rdr w r ok s) (n : Nat) : Rdr (w.drewN n) r ok s := by
  obtain ⟨vL, vU, vP, vE, hb, hL, hU, hP, hE⟩ := h
  exact ⟨vL, vU, vP, vE, hb, Kd.R_drewN hL n, Kd.R_drewN hU n, Kd.R_drewN hP n, Kd.R_drewN hE n⟩
theorem Rdr.mono {w : World} {r : Nat} {ok ok' : Nat → Prop} {s : St} (h : Rdr w r ok s) (ho : ∀ k, ok k → ok' k) : Rdr w r ok' s := by
  obtain ⟨vL, vU, vP, vE, hb, hL, hU, hP, hE⟩ := h
  exact ⟨vL, vU, vP, vE, hb, Kd.R_mono hL ho, Kd.R_mono hU ho, Kd.R_mono hP ho, Kd.R_mono hE ho⟩
theorem Rdr.below {w w' : World} {r : Nat} {ok : Nat → Prop} {s : St} (h : Rdr w r ok s) (hb : Below w.heap.size w w') : Rdr w' r ok s := by
  obtain ⟨vL, vU, vP, vE, hh, hL, hU, hP, hE⟩ := h
  refine ⟨vL, vU, vP, vE, (hb.block r ?_).trans hh, Kd.R_below hL hb, Kd.R_below hU hb, Kd.R_below hP hb, Kd.R_below hE hb⟩
  exact (Array.getElem?_eq_some_iff.1 hh).1
theorem own_ok {α : Type} {d : Kd α} {e base : Nat} {w : World} {ok : Nat → Prop} {v : Value} {xs : List α} (h : d.R e w base ok v xs) {g : Nat} (hg : ¬ ok g) : some g ≠ v.ownBlock := fun e => hg (h.1 g e.symm)
theorem plain_add (b o j : Nat) : (⟨b, o, none⟩ : Addr).add j = ⟨b, o + j, none⟩ := by unfold Addr.add; split <;> simp_all
/-- An element of a row that is read, its row's address laid open. -/
theorem C_open {α : Type} {d : Kd α} {w : World} {A : Option Addr} {n : Nat} {l : List α} (h : Kd.C d w A n l) (hs : 0 < d.sz) (k : Nat) (hk : k < n) :
    ∃ b o x c, A = some ⟨b, o, none⟩ ∧ l[k]? = some x ∧ d.K w x c ∧ b < w.heap.size ∧ ∀ j u, c[j]? = some u → w.cell? ⟨b, o + (k * d.sz + j), none⟩ = some u := by
  have hlen : l.length = n := h.1
  have hx : l[k]? = some (l[k]'(by omega)) := List.getElem?_eq_getElem (by omega)
  obtain ⟨ad, c, e, hl, hK, hc⟩ := Kd.C_get h (l[k]'(by omega)) k (by omega) (by omega)
  obtain ⟨ad0, c0, e0, hl0, hK0, hc0⟩ := Kd.C_get h (l[k]'(by omega)) 0 (by omega) (by omega)
  subst e
  injection e0 with e0
  subst e0
  have hcell : ∃ u, w.cell? (ad.add 0) = some u := ⟨c0[0]'(by omega), by simpa using hc0 0 _ (List.getElem?_eq_getElem (by omega))⟩
  obtain ⟨u, hu⟩ := hcell
  have hb := World.block_lt_of_cell? w _ hu
  obtain ⟨b, o, s⟩ := ad
  have hs0 : s = none := by
    cases s with
    | none => rfl
    | some s => simp [Addr.add, World.cell?] at hu; split at hu <;> simp at hu
  subst hs0
  refine ⟨b, o, _, c, rfl, hx, ?_, ?_, fun j u hj => ?_⟩
  · simpa [List.getD_eq_getElem?_getD, hx] using hK
  · simpa [plain_add] using hb
  · rw [← plain_add]; simpa using hc j u hj
end Go.Proofs.YtfigaamgcmifeaaDoor
