/- fixed: what the chapter's examples say. -/
import Derived.Test.YtfigaamgcmifeaaDoorFx
import Derived.Test.YtfigaamgcmifeaaDoorAt
namespace Go.Proofs.YtfigaamgcmifeaaDoor
open Go.RowKit Go.Lib Go.Proofs.YtfigaamgcmifeaaDoorW.PrintWords
set_option linter.unusedVariables false

/-- The tables that the walks read. -/
structure Env (w : World) : Prop where
  pow : PowTab w
  tab : TabAt 0 Lib.deBruijn64tab w
  max : ∃ m, w.cell? ⟨1, 0, none⟩ = some (.int .i64 m)
theorem Env.lt {w : World} (h : Env w) : 2 < w.heap.size := PowTab.lt h.pow
theorem Env.below {w w1 : World} (h : Env w) (hb : Below w.heap.size w w1) : Env w1 := by
  have h2 := h.lt
  refine ⟨h.pow.below hb h2, fun j hj => (hb.cell (p := ⟨0, j, none⟩) (by show 0 < _; omega)).trans (h.tab j hj), ?_⟩
  obtain ⟨m, hm⟩ := h.max
  exact ⟨m, (hb.cell (p := ⟨1, 0, none⟩) (by show 1 < _; omega)).trans hm⟩
theorem Env.alloc {w : World} (h : Env w) (o : Obj) : Env (w.alloc o) := h.below ((Below.refl _ _).alloc (Nat.le_refl _) _)
theorem Env.drewN {w : World} (h : Env w) (n : Nat) : Env (w.drewN n) := h.below (pw_below_drewN (Below.refl _ _) n)
theorem Parse_env (t : ByteArray) {w : World} (h : Env w) : Calls Tryd.prog 6 #[.string t] w fun e w' => ParseP w (parseS t) e w' := by
  obtain ⟨m, hm⟩ := h.max
  exact Parse_calls t m w hm h.tab

theorem fxCfg {w : World} {v : Value} (h : Cfg w v fxS [3, 2]) : ∃ A1 n1 b2 o2 n2 A3 n3 A4 n4, v = .agg #[.slice A1 2 n1, .slice (some ⟨b2, o2, none⟩) 2 n2, .slice A3 1 n3, .slice A4 1 n4, .int .i64 9, .complex .f64 4613937818241073152 4636737291354636288] ∧
    b2 < w.heap.size ∧ w.cell? ⟨b2, o2, none⟩ = some (.int .u64 3) ∧ w.cell? ⟨b2, o2 + 1, none⟩ = some (.int .u64 2) ∧ 2 ≤ n1 ∧ 2 ≤ n2 ∧ Kd.C Kd.string w A1 2 [xLow, xHigh] ∧ Kd.C kU w A3 1 [(xAnn, 0)] ∧ Kd.C kP w A4 1 [(xP, 1, 0)] := by
  obtain ⟨A1, n1, A2, n2, A3, n3, A4, n4, rfl, h1, h1', h2, h2', h3, h4⟩ := h
  obtain ⟨b2, o2, rfl, hb, hc⟩ := up_open h2 (by decide)
  exact ⟨A1, n1, b2, o2, n2, A3, n3, A4, n4, rfl, hb, hc 0 3 rfl, hc 1 2 rfl, h1', h2', h1, h3, h4⟩
theorem badCfg {w : World} {v : Value} {i e : Int} (h : Cfg w v (Parsed.bad i e).st (Parsed.bad i e).up) : ∃ A1 n1 A2 n2 A3 n3 A4 n4, v = .agg #[.slice A1 0 n1, .slice A2 0 n2, .slice A3 0 n3, .slice A4 0 n4, .int .i64 0, .complex .f64 0 0] := by
  obtain ⟨A1, n1, A2, n2, A3, n3, A4, n4, rfl, h1, h1', h2, h2', h3, h4⟩ := h
  exact ⟨A1, n1, A2, n2, A3, n3, A4, n4, rfl⟩
attribute [local go_sem] run_store_complex
theorem blk_lt {w : World} {k : Nat} {o : Obj} (h : w.heap[k]? = some o) : k < w.heap.size := (Array.getElem?_eq_some_iff.1 h).1
theorem blk1 {w1 w2 : World} {o : Obj} (hb : Below (w1.alloc o).heap.size (w1.alloc o) w2) : w2.heap[w1.heap.size]? = some o :=
  (hb.block _ (by simp)).trans (World.alloc_heap_new w1 o)
theorem blk3 {w : World} {o p : Obj} {k : Nat} (h : w.heap[k]? = some o) : (w.alloc p).heap[k]? = some o := (Below.heap_alloc w p k (blk_lt h)).trans h
theorem blkB {w w1 : World} {o : Obj} {k : Nat} (h : w.heap[k]? = some o) (hb : Below w.heap.size w w1) : w1.heap[k]? = some o := (hb.block k (blk_lt h)).trans h
theorem bel1 {w1 w2 : World} {o : Obj} (hb : Below (w1.alloc o).heap.size (w1.alloc o) w2) : Below w1.heap.size w1 w2 := ((Below.refl _ w1).alloc (Nat.le_refl _) o).trans (hb.mono (by simp))
theorem bel_alloc {w w1 : World} (hb : Below w.heap.size w w1) (o : Obj) : Below w.heap.size w (w1.alloc o) := hb.alloc hb.size o
theorem bel_then {w w1 w2 : World} (h : Below w.heap.size w w1) (k : Below w1.heap.size w1 w2) : Below w.heap.size w w2 := h.trans (k.mono h.size)

theorem fxLabel (vUp vU vP vB vC : Value) (A : Option Addr) (c : Nat) (w : World) (hC : Kd.C Kd.string w A 2 [xLow, xHigh]) :
    Calls Tryd.prog 10 #[.agg #[.slice A 2 c, vUp, vU, vP, vB, vC], .string xHigh] w fun e w' => e = .returned (.tuple #[.int .i64 1, .bool true]) ∧ Below w.heap.size w w' :=
  Label_calls vUp vU vP vB vC A c [xLow, xHigh] xHigh w hC (by decide)
theorem fxUser (vL vUp vP vB vC : Value) (A : Option Addr) (c : Nat) (w : World) (hC : Kd.C kU w A 1 [(xAnn, 0)]) :
    Calls Tryd.prog 15 #[.agg #[vL, vUp, .slice A 1 c, vP, vB, vC], .string xAnn] w fun e w' => e = .returned (.tuple #[.int .i64 0, .bool true]) ∧ Below w.heap.size w w' :=
  user_calls vL vUp vP vB vC A c [(xAnn, 0)] xAnn w hC (by decide)
theorem fxPred (vL vUp vU vB vC : Value) (A : Option Addr) (c : Nat) (w : World) (hC : Kd.C kP w A 1 [(xP, 1, 0)]) :
    Calls Tryd.prog 16 #[.agg #[vL, vUp, vU, .slice A 1 c, vB, vC], .string xP] w fun e w' => e = .returned (.tuple #[.int .i64 0, .bool true]) ∧ Below w.heap.size w w' :=
  pred_calls vL vUp vU vB vC A c [(xP, 1, 0)] xP w hC (by decide)

set_option maxRecDepth 100000 in
set_option maxHeartbeats 8000000 in
theorem fixed_calls (w : World) (hE : Env w)
   (hPrint : ∀ v w1, Cfg w1 v fxS [3, 2] → Env w1 → Calls Tryd.prog 14 #[v] w1 fun e w' => e = .returned (.tuple #[.string fx1, .int .i64 0]) ∧ Below w1.heap.size w1 w') :
    Calls Tryd.prog 5 #[] w fun e w' => e = .returned (.bool true) ∧ Below w.heap.size w w' := by
  have c1 := fun w1 (h : Env w1) => Parse_env fx1 h
  have c2 := fun w1 (h : Env w1) => Parse_env fx2 h
  have c3 := fun w1 (h : Env w1) => Parse_env fx3 h
  rw [fx1_parse] at c1
  rw [fx2_parse] at c2
  rw [fx3_parse] at c3
  have hs : (fx1.toList == [108, 97, 98, 101, 108, 32, 108, 111, 119, 10, 108, 97, 98, 101, 108, 32, 104, 105, 103, 104, 10, 97, 98, 111, 118, 101, 32, 104, 105, 103, 104, 32, 108, 111, 119, 10, 117, 115, 101, 114, 32, 97, 110, 110, 32, 108, 111, 119, 10, 112, 114, 101, 100, 32, 112, 32, 49, 32, 48, 10, 98, 111, 117, 110, 100, 32, 57, 10, 112, 117, 114, 115, 101, 32, 51, 32, 49, 48, 48, 10]) = true := by kernel_rfl
  have C1 := Lib.hid c1
  have C2 := Lib.hid c2
  have C3 := Lib.hid c3
  have HE := Lib.hid hE
  clear c1 c2 c3 hE
  go_enter Tryd.func5, Tryd.ntmps5
  go_wp2_with (first
    | (go_at_call 6; refine (C1.out _ HE.out).mono ?_; clear C1; rintro e w1 ⟨hb1, v, rfl, hcfg⟩; have HC1 := Lib.hid hcfg; obtain ⟨A1, n1, b2, o2, n2, A3, n3, A4, n4, rfl, hb2, hu0, hu1, hn1, hn2, hL, hU, hP⟩ := fxCfg hcfg; have HL := Lib.hid hL; have HU := Lib.hid hU; have HP := Lib.hid hP; clear hcfg hL hU hP; have HE1 := Lib.hid (HE.out.below hb1))
    | (go_at_call 6; refine (C2.out _ (HE1.out.alloc _)).mono ?_; clear C2; rintro e w2 ⟨hb2', v, rfl, hcfg⟩; obtain ⟨A1', n1', A2', n2', A3', n3', A4', n4', rfl⟩ := badCfg hcfg; clear hcfg; have HE2 := Lib.hid ((HE1.out.alloc _).below hb2'))
    | (go_at_call 6; refine (C3.out _ (HE2.out.alloc _)).mono ?_; clear C3; rintro e w3 ⟨hb3, v, rfl, hcfg⟩; obtain ⟨A1'', n1'', A2'', n2'', A3'', n3'', A4'', n4'', rfl⟩ := badCfg hcfg; clear hcfg; have HE3 := Lib.hid (((HE2.out.alloc _).below hb3).alloc (.cells #[.slice A1'' 0 n1'', .slice A2'' 0 n2'', .slice A3'' 0 n3'', .slice A4'' 0 n4'', .int .i64 0, .complex .f64 0 0] 29)); have HG3 := Lib.hid (blk3 (p := (.cells #[.slice A1'' 0 n1'', .slice A2'' 0 n2'', .slice A3'' 0 n3'', .slice A4'' 0 n4'', .int .i64 0, .complex .f64 0 0] 29)) (blkB (blk3 (blk1 hb2')) hb3)); have HB3 := Lib.hid (bel_alloc (bel_then (bel1 hb2') (bel1 hb3)) (.cells #[.slice A1'' 0 n1'', .slice A2'' 0 n2'', .slice A3'' 0 n3'', .slice A4'' 0 n4'', .int .i64 0, .complex .f64 0 0] 29)); clear hb2' hb3; obtain ⟨⟨k0, k1, k2, k3, k4, k5⟩, _⟩ := six HG3.out; have u0 := pw_cell_below HB3.out hu0; have u1 := pw_cell_below HB3.out hu1)
    | (go_at_call 13; refine (CRight_calls _ fxS [3, 2] 3 100 _ (HC1.out.below HB3.out) fx_good HE3.out.tab).mono ?_; rintro e w4 ⟨rfl, hb4⟩; have HE4 := Lib.hid (HE3.out.below hb4); have HG4 := Lib.hid (blkB HG3.out hb4); have HB4 := Lib.hid (bel_then HB3.out hb4); clear k0 k1 k2 k3 k4 k5 u0 u1; obtain ⟨⟨k0, k1, k2, k3, k4, k5⟩, _⟩ := six HG4.out)
    | (go_at_call 14; refine (hPrint _ _ (HC1.out.below HB4.out) HE4.out).mono ?_; clear hPrint; rintro e w5 ⟨rfl, hb5⟩; have HE5 := Lib.hid (HE4.out.below hb5); have HG5 := Lib.hid (blkB HG4.out hb5); have HB5 := Lib.hid (bel_then HB4.out hb5); clear k0 k1 k2 k3 k4 k5; obtain ⟨⟨k0, k1, k2, k3, k4, k5⟩, _⟩ := six HG5.out)
    | (go_at_call 10; refine (fxLabel _ _ _ _ _ _ _ _ (Kd.C_below HL.out HB5.out)).mono ?_; rintro e w6 ⟨rfl, hb6⟩; have HG6 := Lib.hid (blkB HG5.out hb6); have HB6 := Lib.hid (bel_then HB5.out hb6); clear k0 k1 k2 k3 k4 k5 HL; obtain ⟨⟨k0, k1, k2, k3, k4, k5⟩, _⟩ := six HG6.out)
    | (go_at_call 15; refine (fxUser _ _ _ _ _ _ _ _ (Kd.C_below HU.out HB6.out)).mono ?_; rintro e w7 ⟨rfl, hb7⟩; have HG7 := Lib.hid (blkB HG6.out hb7); have HB7 := Lib.hid (bel_then HB6.out hb7); clear k0 k1 k2 k3 k4 k5 HU; obtain ⟨⟨k0, k1, k2, k3, k4, k5⟩, _⟩ := six HG7.out)
    | (go_at_call 16; refine (fxPred _ _ _ _ _ _ _ _ (Kd.C_below HP.out HB7.out)).mono ?_; rintro e w8 ⟨rfl, hb8⟩; have HB8 := Lib.hid (bel_then HB7.out hb8)))
  go_ret
  exact ⟨rfl, bel_then hb1 HB8.out⟩
end Go.Proofs.YtfigaamgcmifeaaDoor
