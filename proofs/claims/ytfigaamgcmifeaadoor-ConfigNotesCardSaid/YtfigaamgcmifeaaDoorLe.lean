/- What is done with a line's names and numbers. -/
import Derived.Test.YtfigaamgcmifeaaDoorLc
namespace Go.Proofs.YtfigaamgcmifeaaDoor
open Go.RowKit Go.Proofs.YtfigaamgcmifeaaDoorW.PrintWords
set_option linter.unusedVariables false

/-- How many signs that are no 'n'. -/
def cntD (l : List UInt8) : Nat := (l.filter (· ≠ 110)).length

theorem R_cellI {w : World} {base : Nat} {ok : Nat → Prop} {g n c : Nat} {l : List Int} {e : Nat} (h : Kd.R (Kd.int .i64) e w base ok (.slice (some ⟨g, 0, none⟩) n c) l) (k : Nat) (x : Int) (hx : l[k]? = some x) : w.cell? ⟨g, k, none⟩ = some (.int .i64 x) := by
  obtain ⟨hn, hc, hC⟩ := Kd.R_reads' h
  obtain ⟨hk, hx'⟩ := List.getElem?_eq_some_iff.1 hx
  obtain ⟨b, o, y, cs, e1, hy, hK, hb, hcell⟩ := C_open hC (by decide) k hk
  injection e1 with e1
  injection e1 with e1 e2
  subst e1 e2
  rw [hx] at hy
  injection hy with hy
  subst hy
  have hK' : cs = [.int .i64 x] := hK
  subst hK'
  simpa [Kd.int, Kd.scalar] using hcell 0 _ rfl

theorem Kn.enters (k : Kn) (args : Array Value) (w : World) : (callFunc k.f args).run Tryd.prog w = .ok (.enter k.f args) w := by
  cases k
  · exact enters_of Tryd.func39 (by kernel_rfl) rfl args w
  · exact enters_of Tryd.func40 (by kernel_rfl) rfl args w
  · exact enters_of Tryd.func41 (by kernel_rfl) rfl args w
  · exact enters_of Tryd.func42 (by kernel_rfl) rfl args w
  · exact enters_of Tryd.func43 (by kernel_rfl) rfl args w
  · exact enters_of Tryd.func44 (by kernel_rfl) rfl args w

theorem do_calls (k : Kn) (r : Nat) (ok okn okm : Nat → Prop) (b1 b2 : Nat) (s : St) (ns : List ByteArray) (nums : List Int) (vN vM : Value) (w : World) (hR : Rdr w r ok s)
    (hl1 : s.labels.length ≤ 64) (hl2 : s.users.length ≤ 16) (hl3 : s.preds.length ≤ 32) (hl4 : s.pairs.length ≤ 100000)
    (hN : Kd.R Kd.string 9 w b1 okn vN ns) (hM : Kd.R (Kd.int .i64) 2 w b2 okm vM nums) (hno : ∀ g, vN.ownBlock = some g → ¬ ok g ∧ g ≠ r)
    (h1 : ns.length + nums.length = k.ws.size) (h2 : nums.length = cntD k.ws.data.toList) :
    Calls Tryd.prog k.f #[.pointer (some ⟨r, 0, none⟩), vN, vM] w fun e w' =>
      e = .returned (.int .i64 (doS k s ns nums).1) ∧ Rdr w' r (okN ok w) (doS k s ns nums).2 ∧ Kp w w' r ok := by
  cases k with
  | label =>
    have e2 : nums.length = 0 := h2
    have e1 : ns.length = 1 := by have : ns.length + nums.length = 1 := h1; omega
    obtain ⟨g, c, rfl, _, _, _⟩ := Kd.R_form hN (by omega)
    match ns, e1 with
    | [x], _ => exact label_calls r g 1 c ok s x vM w hR hl1 (Nat.le_refl _) (R_cells hN 0 x rfl) (hno g rfl).1 (hno g rfl).2
  | above =>
    have e2 : nums.length = 0 := h2
    have e1 : ns.length = 2 := by have : ns.length + nums.length = 2 := h1; omega
    obtain ⟨g, c, rfl, _, _, _⟩ := Kd.R_form hN (by omega)
    match ns, e1 with
    | [x, y], _ => exact above_calls r g 2 c ok s x y vM w hR hl1 hl4 (Nat.le_refl _) (R_cells hN 0 x rfl) (R_cells hN 1 y rfl)
  | user =>
    have e2 : nums.length = 0 := h2
    have e1 : ns.length = 2 := by have : ns.length + nums.length = 2 := h1; omega
    obtain ⟨g, c, rfl, _, _, _⟩ := Kd.R_form hN (by omega)
    match ns, e1 with
    | [x, y], _ => exact userM_calls r g 2 c ok s x y vM w hR hl1 hl2 (Nat.le_refl _) (R_cells hN 0 x rfl) (R_cells hN 1 y rfl) (hno g rfl).1
  | pred =>
    have e2 : nums.length = 2 := h2
    have e1 : ns.length = 1 := by have : ns.length + nums.length = 3 := h1; omega
    obtain ⟨g, c, rfl, _, _, _⟩ := Kd.R_form hN (by omega)
    obtain ⟨h, d, rfl, _, _, _⟩ := Kd.R_form hM (by omega)
    match ns, nums, e1, e2 with
    | [x], [n0, n1], _, _ => exact predM_calls r g 1 c h 2 d ok s x n0 n1 w hR hl3 (Nat.le_refl _) (Nat.le_refl _) (R_cells hN 0 x rfl) (R_cellI hM 0 n0 rfl) (R_cellI hM 1 n1 rfl)
  | bound =>
    have e2 : nums.length = 1 := h2
    obtain ⟨h, d, rfl, _, _, _⟩ := Kd.R_form hM (by omega)
    match nums, e2 with
    | [n0], _ => exact limit_calls r h 1 d ok s n0 vN w hR (Nat.le_refl _) (R_cellI hM 0 n0 rfl)
  | purse =>
    have e2 : nums.length = 2 := h2
    obtain ⟨h, d, rfl, _, _, _⟩ := Kd.R_form hM (by omega)
    match nums, e2 with
    | [n0, n1], _ => exact purse_calls r h 2 d ok s n0 n1 vN w hR (Nat.le_refl _) (R_cellI hM 0 n0 rfl) (R_cellI hM 1 n1 rfl)

end Go.Proofs.YtfigaamgcmifeaaDoor
