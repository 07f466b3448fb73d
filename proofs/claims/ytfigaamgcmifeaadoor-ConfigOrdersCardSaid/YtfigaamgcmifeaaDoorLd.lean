/- A line whose words are looked at one by one. -/
import Derived.Test.YtfigaamgcmifeaaDoorLe
namespace Go.Proofs.YtfigaamgcmifeaaDoor
open Go.RowKit Go.Proofs.YtfigaamgcmifeaaDoorW.PrintWords
set_option linter.unusedVariables false

theorem iter_step {P : Program} (w : World) (k : Nat) (s : ByteArray) (pos : Nat) (ty : TypeId) (hk : w.heap[k]? = some (.stringIter s pos)) (h : pos < s.size) (ha : (s[pos]'h).toNat < 128) :
    ∃ w2, (Instr.next (.pointer (some ⟨k, 0, none⟩)) true ty).run P w = .ok (.tuple #[.bool true, .int .i64 pos, .int .i32 (s[pos]'h).toNat]) w2 ∧ w2.heap[k]? = some (.stringIter s (pos + 1)) ∧ w.grownBy w2 (some k) :=
  ⟨_, Lib.run_next_ascii_at w k s pos ty hk h ha, Lib.iterAt_heap w k s pos _ hk, rfl, rfl, rfl, by rw [Lib.iterAt_size]; exact Nat.le_refl _, fun j _ hne => Lib.iterAt_other w k j s _ (fun e => hne (by rw [e]))⟩
theorem R_iter {α : Type} {d : Kd α} {e base : Nat} {w w2 : World} {ok : Nat → Prop} {v : Value} {xs : List α} {k : Nat} {s : ByteArray} {p : Nat} (h : Kd.R d e w base ok v xs) (hk : w.heap[k]? = some (.stringIter s p)) (hg : w.grownBy w2 (some k)) : Kd.R d e w2 base ok v xs :=
  Kd.R_mono (Kd.R_grown (Kd.R_bound h) hg (fun j hj he => by
    obtain ⟨_, _, _, q, _, cells, hc⟩ := hj
    injection he with he
    subst he
    rw [hk] at hc
    cases hc)) (fun _ hk => hk.1)
theorem Kn.cnt (k : Kn) (i : Nat) (h : i < k.ws.size) (hc : (k.ws[i]'h).toNat ≠ 110) : cntD (k.ws.data.toList.take i) < 2 := by
  have : ∀ j, j < k.ws.size → cntD (k.ws.data.toList.take j) < 2 := by cases k <;> decide
  exact this i h
theorem Kn.ascii (k : Kn) (i : Nat) (h : i < k.ws.size) : (k.ws[i]'h).toNat < 128 := by
  cases k <;> (revert i; decide)
theorem info_i64 : (Tryd.prog.info? 2).map (fun i => (i.zero, i.size, i.bytes)) = some (some (.int .i64 0), 1, 8) := by kernel_rfl
theorem scan_n {m0 m1 l : Int} {ws : ByteArray} {rest : List ByteArray} {i : Nat} {ns : List ByteArray} {nums : List Int} {x : ByteArray} (h : i < ws.size) (hx : rest[i]? = some x) (hc : (ws[i]'h).toNat = 110) :
    scan m0 m1 l (ws.data.toList.drop i) (rest.drop i) ns nums = if nameB x = true then scan m0 m1 l (ws.data.toList.drop (i + 1)) (rest.drop (i + 1)) (ns ++ [x]) nums else none := by
  obtain ⟨hr, hx'⟩ := List.getElem?_eq_some_iff.1 hx
  rw [List.drop_eq_getElem_cons (by rw [data_length]; exact h), List.drop_eq_getElem_cons hr, hx']
  have hc' : ws.data.toList[i]'(by rw [data_length]; exact h) = 110 := UInt8.toNat_inj.1 hc
  rw [hc', scan, if_pos rfl]
theorem scan_d {m0 m1 l : Int} {ws : ByteArray} {rest : List ByteArray} {i : Nat} {ns : List ByteArray} {nums : List Int} {x : ByteArray} (h : i < ws.size) (hx : rest[i]? = some x) (hc : (ws[i]'h).toNat ≠ 110) :
    scan m0 m1 l (ws.data.toList.drop i) (rest.drop i) ns nums = if (readR x).2.2 = false ∨ (readR x).1 ≠ ⟨#[]⟩ ∨ (readR x).2.1 < l ∨ (if nums.length = 0 then m0 else m1) < (readR x).2.1 then none
      else scan m0 m1 l (ws.data.toList.drop (i + 1)) (rest.drop (i + 1)) ns (nums ++ [(readR x).2.1]) := by
  obtain ⟨hr, hx'⟩ := List.getElem?_eq_some_iff.1 hx
  rw [List.drop_eq_getElem_cons (by rw [data_length]; exact h), List.drop_eq_getElem_cons hr, hx']
  have hc' : ws.data.toList[i]'(by rw [data_length]; exact h) ≠ 110 := fun e => hc (by rw [show ws[i] = (110 : UInt8) from e]; rfl)
  rw [scan, if_neg hc']
theorem cntD_n {ws : ByteArray} {i : Nat} (h : i < ws.size) (hc : (ws[i]'h).toNat = 110) : cntD (ws.data.toList.take (i + 1)) = cntD (ws.data.toList.take i) := by
  rw [take_snoc ws i h]
  have hc' : ws[i] = 110 := UInt8.toNat_inj.1 hc
  simp [cntD, hc']
theorem cntD_d {ws : ByteArray} {i : Nat} (h : i < ws.size) (hc : (ws[i]'h).toNat ≠ 110) : cntD (ws.data.toList.take (i + 1)) = cntD (ws.data.toList.take i) + 1 := by
  rw [take_snoc ws i h]
  have hc' : ws[i] ≠ 110 := fun e => hc (by rw [e]; rfl)
  simp [cntD, hc']

theorem lineS_words (st : St) (w0 : ByteArray) (rest : List ByteArray) (k : Kn) (h0 : w0.data.toList.head? ≠ some 35) (hk : knOf w0 = some k) (hn : rest.length = k.ws.size) :
    lineS st (w0 :: rest) = match scan k.m0 k.m1 k.least k.ws.data.toList rest [] [] with
      | none => (7, st)
      | some (ns, nums) => doS k st ns nums := by
  rw [lineS, if_neg h0, hk]
  simp only [hn, ne_eq, not_true_eq_false, if_false]
  cases scan k.m0 k.m1 k.least k.ws.data.toList rest [] [] <;> rfl
theorem scan_end {m0 m1 l : Int} {ws : ByteArray} {rest : List ByteArray} {i : Nat} {ns : List ByteArray} {nums : List Int} (h : ws.size ≤ i) : scan m0 m1 l (ws.data.toList.drop i) (rest.drop i) ns nums = some (ns, nums) := by
  rw [List.drop_of_length_le (by rw [data_length]; exact h), scan]
theorem Rdr.bound {w : World} {r : Nat} {ok : Nat → Prop} {s : St} (h : Rdr w r ok s) : Rdr w r (fun j => ok j ∧ j < w.heap.size) s ∧ r < w.heap.size := by
  obtain ⟨vL, vU, vP, vE, hb, hL, hU, hP, hE⟩ := h
  exact ⟨⟨vL, vU, vP, vE, hb, Kd.R_mono (Kd.R_bound hL) fun _ h => ⟨h.1, h.2.2.1⟩, Kd.R_mono (Kd.R_bound hU) fun _ h => ⟨h.1, h.2.2.1⟩, Kd.R_mono (Kd.R_bound hP) fun _ h => ⟨h.1, h.2.2.1⟩, Kd.R_mono (Kd.R_bound hE) fun _ h => ⟨h.1, h.2.2.1⟩⟩,
    (Array.getElem?_eq_some_iff.1 hb).1⟩
theorem iterPos_of {w : World} {k : Nat} {s : ByteArray} {p : Nat} (h : w.heap[k]? = some (.stringIter s p)) : w.iterPos k = p := by simp [World.iterPos, h]
theorem iter_ne {α : Type} {d : Kd α} {e base : Nat} {w : World} {ok : Nat → Prop} {v : Value} {xs : List α} {k : Nat} {s : ByteArray} {p : Nat} (h : Kd.R d e w base ok v xs) (hk : w.heap[k]? = some (.stringIter s p)) : some k ≠ v.ownBlock := fun he => by
  obtain ⟨cells, hc⟩ := Kd.R_typed h k he.symm
  rw [hk] at hc
  cases hc

set_option maxRecDepth 100000 in
set_option maxHeartbeats 8000000 in
theorem line_words (r b : Nat) (ok : Nat → Prop) (st : St) (s : ByteArray) (w : World) (hs : s.size ≤ 4294967296) (w0 : ByteArray) (rest : List ByteArray) (h : wordsB s = w0 :: rest) (hp : 0 < w0.size) (h0 : w0.data.toList.head? ≠ some 35)
    (k : Kn) (hk : knOf w0 = some k) (hn : rest.length = k.ws.size) (hbm : w.heap[b]? = some (.map kindsEs 6)) (hR : Rdr w r ok st)
    (hl1 : st.labels.length ≤ 64) (hl2 : st.users.length ≤ 16) (hl3 : st.preds.length ≤ 32) (hl4 : st.pairs.length ≤ 100000) (hsz : ∀ x ∈ rest, x.size ≤ 4294967296) :
    Calls Tryd.prog 19 #[.pointer (some ⟨r, 0, none⟩), .string s, .map (some b)] w fun e w' =>
      e = .returned (.int .i64 (lineS st (w0 :: rest)).1) ∧ Rdr w' r (okN ok w) (lineS st (w0 :: rest)).2 ∧ Kp w w' r ok := by
  have hf := fields_calls s
  generalize wordsB s = W at *
  subst h
  have Hf := Lib.hid hf
  have Hbm := Lib.hid hbm
  have Hk := Lib.hid hk
  have HR := Lib.hid hR
  have hbl : b < w.heap.size := (Array.getElem?_eq_some_iff.1 hbm).1
  clear hf hk hbm hR
  have hc' := not_hash hp h0
  have hl : 0 < (w0 :: rest).length := by simp
  have hl' : (((w0 :: rest).length : Int) == 0) = false := by simp; omega
  have hws := k.ws_le
  have hws1 := k.ws_pos
  have hneq : (((w0 :: rest).length : Int) != 1 + (k.ws.size : Int)) = false := by simp; omega
  have hnl : (w0 :: rest).length ≤ 4 := by simp; omega
  have hnl2 : 2 ≤ (w0 :: rest).length := by simp; omega
  have H0 := Lib.hid h0
  have Hn := Lib.hid hn
  clear h0 hn
  generalize hW : (w0 :: rest).length = n at *
  have HW := Lib.hid hW
  clear hW
  have hn1 : (1 : Int) < (n : Int) := by omega
  have hn2 : (1 : Int) ≤ (n : Int) := by omega
  go_enter Tryd.func19, Tryd.ntmps19
  go_wp2_with (go_at_call 46; refine (Hf.out _ hs).mono ?_; rintro e w1 ⟨g, rfl, hg, hR, hb⟩; have hc0 := R_cells hR 0 w0 rfl; have hlk := lookup_kind w1 b w0 ((hb.block b hbl).trans Hbm.out); rw [Hk.out] at hlk; simp only [Kn.cells] at hlk)
  have hbi : ∀ x ∈ rest, x.size ≤ 9223372036854775807 := fun x hx => Nat.le_trans (hsz x hx) (by decide)
  have Hbi := Lib.hid hbi
  clear hbi hsz
  go_loopw [10, 11] (fun vN vM wr => ∃ (i : Nat) (ns : List ByteArray) (nums : List Int), i ≤ k.ws.size ∧ Aside0 (wr.heap[w1.heap.size + 1]? = some (.stringIter k.ws i)) ∧
      Aside0 (Below (w1.heap.size + 1) (w1.alloc (Obj.cells #[Value.string k.ws, Value.int .i64 k.m0, Value.int .i64 k.m1, Value.int .i64 k.least, Value.func (Fn.func k.f) #[] #[]] 91)) wr) ∧
      Aside0 (Kd.R Kd.string 9 wr (w1.heap.size + 1) (fun _ => True) vN ns) ∧ Aside0 (Kd.R (Kd.int .i64) 2 wr (w1.heap.size + 1) (fun _ => True) vM nums) ∧
      Aside0 (scan k.m0 k.m1 k.least k.ws.data.toList rest [] [] = scan k.m0 k.m1 k.least (k.ws.data.toList.drop i) (rest.drop i) ns nums) ∧ Aside0 (nums.length = cntD (k.ws.data.toList.take i)) ∧ Aside0 (ns.length + nums.length = i))
    (fun _ _ wr => k.ws.size - wr.iterPos (w1.heap.size + 1))
  case atStart =>
    refine ⟨0, [], [], Nat.zero_le _, ⟨?_⟩, ⟨?_⟩, ⟨Kd.R_nil _ _ _ _ _⟩, ⟨Kd.R_nil _ _ _ _ _⟩, ⟨rfl⟩, ⟨rfl⟩, ⟨rfl⟩⟩
    · have := World.iter_heap (w1.alloc (Obj.cells #[Value.string k.ws, Value.int .i64 k.m0, Value.int .i64 k.m1, Value.int .i64 k.least, Value.func (Fn.func k.f) #[] #[]] 91)) k.ws 0
      simpa using this
    · exact (Below.refl _ _).alloc (by simp) _
  case round =>
    obtain ⟨i, ns, nums, hi, hit, hB, hN, hM, hsc, hcd, hlen⟩ := hrel
    obtain ⟨AN, cN, rfl⟩ := Kd.R_slice hN.out
    obtain ⟨AM, cM, rfl⟩ := Kd.R_slice hM.out
    have HL := Lib.hid (lineS_words st w0 rest k H0.out Hk.out Hn.out)
    have hgl : g < w1.heap.size := World.block_lt_of_cell? w1 _ hc0
    have hkb := (hB.out.block w1.heap.size (Nat.lt_succ_self _)).trans (heap_alloc_new w1 _)
    have Hkb := Lib.hid hkb
    clear hkb
    by_cases hlt : i < k.ws.size
    · obtain ⟨w2, hnext, hit2, hg2⟩ := iter_step (P := Tryd.prog) wr (w1.heap.size + 1) k.ws i 0 hit.out hlt (k.ascii i hlt)
      obtain ⟨x, hx⟩ : ∃ x, rest[i]? = some x := ⟨rest[i]'(by have := Hn.out; omega), List.getElem?_eq_getElem _⟩
      have hxm : x ∈ rest := List.mem_of_getElem? hx
      have hB2 := hB.out.grown hg2 (by have := hB.out.size; simpa using this) (fun j e => by cases e; exact Nat.le_refl _)
      have hN2 := R_iter hN.out hit.out hg2
      have hM2 := R_iter hM.out hit.out hg2
      have hxc1 : w1.cell? ⟨g, i + 1, none⟩ = some (.string x) := R_cells hR (i + 1) x (by rw [List.getElem?_cons_succ]; exact hx)
      have hxc : w2.cell? ⟨g, 1 + i, none⟩ = some (.string x) := by
        rw [Nat.add_comm 1 i]
        exact (hB2.cell (p := ⟨g, i + 1, none⟩) (Nat.lt_succ_of_lt hgl)).trans ((World.cell?_alloc_lt w1 _ ⟨g, i + 1, none⟩ hgl).trans hxc1)
      have hbw2 : Below w.heap.size w w2 := (hb.alloc hb.size _).trans (hB2.mono (Nat.le_succ_of_le hb.size))
      have Hit2 := Lib.hid hit2
      have Hx := Lib.hid hx
      have hni : i < n - 1 := by have := HW.out; have := Hn.out; simp at *; omega
      have hbx := Hbi.out x hxm
      clear hit2 hxc1 hx hxm
      by_cases hc : (k.ws[i]'hlt).toNat = 110
      · have Hs := Lib.hid (hsc.out.trans (scan_n hlt Hx.out hc))
        have Hcn := Lib.hid (cntD_n hlt hc)
        have hcb : (((k.ws[i]'hlt).toNat : Int) == 110) = true := by simp; omega
        clear hc
        by_cases hnm : nameB x = true
        · have hl4 : ns.length ≤ 4 := by have := hlen.out; omega
          go_wp2_with (first
            | (go_at_call 48; refine (name_calls _ _ hbx).mono ?_; rintro e w' ⟨rfl, rfl⟩)
            | (at_builtin; refine Kd.R_append Kd.string (w0 := w1.alloc (Obj.cells #[Value.string k.ws, Value.int .i64 k.m0, Value.int .i64 k.m1, Value.int .i64 k.least, Value.func (Fn.func k.f) #[] #[]] 91)) (w1.heap.size + 1) rfl (.tmp 64) (.tmp 69) 23 9 (.string ⟨#[]⟩) 16 rfl Tryd.underlying23 info_string rfl (by decide) (by decide) _ ns x [.string x] (fun _ => True) (fun _ => False) rfl rfl rfl (fun _ h => h.elim) (fun _ _ => trivial) hN2 hB2 (by simpa using hB2.size) (by omega) ?_; intro v1 w3 hown hB3 hgrow hat))
          have hit3 := (hgrow.block (w1.heap.size + 1) (Array.getElem?_eq_some_iff.1 Hit2.out).1 (iter_ne hN2 Hit2.out)).trans Hit2.out
          go_roundw
          case rel =>
            exact ⟨i + 1, ns ++ [x], nums, hlt, ⟨hit3⟩, ⟨hB3⟩, ⟨hown⟩, ⟨Kd.R_over hM2 hN2 (by decide) hgrow⟩, ⟨by rw [Hs.out, if_pos hnm]⟩, ⟨by rw [Hcn.out]; exact hcd.out⟩, ⟨by have := hlen.out; rw [List.length_append, List.length_singleton]; omega⟩⟩
          case measure =>
            rw [iterPos_of hit3, iterPos_of hit.out]
            omega
        · have hnm' : nameB x = false := by simpa using hnm
          have He := Lib.hid (show lineS st (w0 :: rest) = (7, st) by rw [HL.out, Hs.out, if_neg hnm])
          go_wp2_with (go_at_call 48; refine (name_calls _ _ hbx).mono ?_; rintro e w' ⟨rfl, rfl⟩)
          go_ret
          exact ⟨ret_int (by rw [He.out]), by rw [He.out]; exact (HR.out.alike hbw2).1, (HR.out.alike hbw2).2⟩
      · have hs0 := hsc.out.trans (scan_d hlt Hx.out hc)
        have Hcn := Lib.hid (cntD_d hlt hc)
        have hlt2 : nums.length < 2 := by rw [hcd.out]; exact k.cnt i hlt hc
        have hcb : (((k.ws[i]'hlt).toNat : Int) == 110) = false := by simp; omega
        have hrd0 := read_calls x
        generalize readR x = rd at hs0 hrd0
        obtain ⟨sym, num, okb⟩ := rd
        dsimp only at hs0 hrd0
        have Hs := Lib.hid hs0
        have Hrd := Lib.hid hrd0
        have Hkb2 := Lib.hid ((hg2.block w1.heap.size (Array.getElem?_eq_some_iff.1 Hkb.out).1 (by simp)).trans Hkb.out)
        have hk2 := (Array.getElem?_eq_some_iff.1 Hkb2.out).1
        clear hc hs0 hrd0
        by_cases hb1 : okb = false
        · have He := Lib.hid (show lineS st (w0 :: rest) = (7, st) by rw [HL.out, Hs.out, if_pos (.inl hb1)])
          subst hb1
          go_wp2_with (go_at_call 49; refine (Hrd.out _ hbx).mono ?_; rintro e w3 ⟨rfl, hb3⟩; have hkb3 := (hb3.block w1.heap.size hk2).trans Hkb2.out; have k1 := blk_cell hkb3 1; have k2 := blk_cell hkb3 2; have k3 := blk_cell hkb3 3; have l1 := al1 k1; have l2 := al1 k2; have l3 := al1 k3; clear hkb3)
          go_quiet (fail)
          go_wp2
          have hbw3 : Below w.heap.size w w3 := hbw2.trans (hb3.mono hbw2.size)
          have hbw4 := (hbw3.alloc hbw3.size (Obj.cells #[Value.string sym, Value.int .i64 num] 98))
          go_ret
          exact ⟨ret_int (by rw [He.out]), by rw [He.out]; exact ((HR.out.alike hbw4).1.drewN _), (HR.out.alike hbw4).2.trans (Kp.drewN _ _ _ _)⟩
        have hb1' : okb = true := by simpa using hb1
        subst hb1'
        clear hb1
        by_cases hb2 : sym = ⟨#[]⟩
        case neg =>
          have He := Lib.hid (show lineS st (w0 :: rest) = (7, st) by rw [HL.out, Hs.out, if_pos (.inr (.inl hb2))])
          have hse : sym.toList.isEmpty = false := by rw [ByteArray.toList_eq, List.isEmpty_eq_false_iff]; intro h; exact hb2 (by cases sym with | mk a => exact congrArg ByteArray.mk (Array.toList_inj.1 h))
          go_wp2_with (go_at_call 49; refine (Hrd.out _ hbx).mono ?_; rintro e w3 ⟨rfl, hb3⟩; have hkb3 := (hb3.block w1.heap.size hk2).trans Hkb2.out; have k1 := blk_cell hkb3 1; have k2 := blk_cell hkb3 2; have k3 := blk_cell hkb3 3; have l1 := al1 k1; have l2 := al1 k2; have l3 := al1 k3; clear hkb3)
          go_quiet (fail)
          go_wp2
          have hbw3 : Below w.heap.size w w3 := hbw2.trans (hb3.mono hbw2.size)
          have hbw4 := (hbw3.alloc hbw3.size (Obj.cells #[Value.string sym, Value.int .i64 num] 98))
          go_ret
          exact ⟨ret_int (by rw [He.out]), by rw [He.out]; exact ((HR.out.alike hbw4).1.drewN _), (HR.out.alike hbw4).2.trans (Kp.drewN _ _ _ _)⟩
        subst hb2
        by_cases hb3 : num < k.least
        · have He := Lib.hid (show lineS st (w0 :: rest) = (7, st) by rw [HL.out, Hs.out, if_pos (.inr (.inr (.inl hb3)))])
          go_wp2_with (go_at_call 49; refine (Hrd.out _ hbx).mono ?_; rintro e w3 ⟨rfl, hbr⟩; have hkb3 := (hbr.block w1.heap.size hk2).trans Hkb2.out; have k1 := blk_cell hkb3 1; have k2 := blk_cell hkb3 2; have k3 := blk_cell hkb3 3; have l1 := al1 k1; have l2 := al1 k2; have l3 := al1 k3; clear hkb3)
          go_quiet (fail)
          go_wp2
          have hbw3 : Below w.heap.size w w3 := hbw2.trans (hbr.mono hbw2.size)
          have hbw4 := (hbw3.alloc hbw3.size (Obj.cells #[Value.string ⟨#[]⟩, Value.int .i64 num] 98))
          go_ret
          exact ⟨ret_int (by rw [He.out]), by rw [He.out]; exact ((HR.out.alike hbw4).1.drewN _), (HR.out.alike hbw4).2.trans (Kp.drewN _ _ _ _)⟩
        rcases nums with _ | ⟨n0, _ | ⟨n1, nl⟩⟩
        case nil =>
          by_cases hb4 : k.m0 < num
          · have He := Lib.hid (show lineS st (w0 :: rest) = (7, st) by rw [HL.out, Hs.out, if_pos (.inr (.inr (.inr hb4)))])
            go_wp2_with (go_at_call 49; refine (Hrd.out _ hbx).mono ?_; rintro e w3 ⟨rfl, hbr⟩; have hkb3 := (hbr.block w1.heap.size hk2).trans Hkb2.out; have k1 := blk_cell hkb3 1; have k2 := blk_cell hkb3 2; have k3 := blk_cell hkb3 3; have l1 := al1 k1; have l2 := al1 k2; have l3 := al1 k3; clear hkb3)
            go_quiet (fail)
            go_wp2
            have hbw3 : Below w.heap.size w w3 := hbw2.trans (hbr.mono hbw2.size)
            have hbw4 := (hbw3.alloc hbw3.size (Obj.cells #[Value.string ⟨#[]⟩, Value.int .i64 num] 98))
            go_ret
            exact ⟨ret_int (by rw [He.out]), by rw [He.out]; exact ((HR.out.alike hbw4).1.drewN _), (HR.out.alike hbw4).2.trans (Kp.drewN _ _ _ _)⟩
          · have Hs2 := Lib.hid (Hs.out.trans (if_neg (fun h => h.elim (fun h => by cases h) (fun h => h.elim (fun h => h rfl) (fun h => h.elim hb3 hb4)))))
            have hb3' : k.least ≤ num := by omega
            have hb4' : num ≤ k.m0 := by omega
            clear hb3 hb4
            go_wp2_with (go_at_call 49; refine (Hrd.out _ hbx).mono ?_; rintro e w3 ⟨rfl, hbr⟩; have hkb3 := (hbr.block w1.heap.size hk2).trans Hkb2.out; have k1 := blk_cell hkb3 1; have k2 := blk_cell hkb3 2; have k3 := blk_cell hkb3 3; have l1 := al1 k1; have l2 := al1 k2; have l3 := al1 k3; clear hkb3)
            go_quiet (fail)
            generalize hw4 : w3.alloc (Obj.cells #[Value.string ⟨#[]⟩, Value.int IntKind.i64 num] 98) = w4
            have hb5 : Below w2.heap.size w2 w4 := by rw [← hw4]; exact hbr.alloc hbr.size _
            have hv4 : w4.cell? ⟨w3.heap.size, 1, none⟩ = some (.int .i64 num) := by rw [← hw4]; exact blk_cell (heap_alloc_new w3 _) 1
            have hB3 := hB2.trans (hb5.mono (by have := hB2.size; simpa using this))
            have hN3 := Kd.R_below hN2 hb5
            have hM3 := Kd.R_below hM2 hb5
            have hit3 := (hb5.block (w1.heap.size + 1) (Array.getElem?_eq_some_iff.1 Hit2.out).1).trans Hit2.out
            have Hit3 := Lib.hid hit3
            have Hw4 := Lib.hid hw4
            clear hit3 hw4
            go_wp2_with (at_builtin; refine Kd.R_append (Kd.int .i64) (w0 := (w1.alloc (Obj.cells #[Value.string k.ws, Value.int .i64 k.m0, Value.int .i64 k.m1, Value.int .i64 k.least, Value.func (Fn.func k.f) #[] #[]] 91))) (W := w4.drewN nq) (w1.heap.size + 1) rfl (.tmp 103) (.tmp 106) 96 2 (.int .i64 0) 8 rfl Tryd.underlying96 info_i64 rfl (by decide) (by decide) (.slice AM 0 cM) [] num [.int .i64 num] (fun _ => True) (fun _ => False) rfl rfl rfl (fun _ h => h.elim) (fun _ _ => trivial) (Kd.R_drewN hM3 _) (pw_below_drewN hB3 _) (by have := hB3.size; simpa using this) (by simp) ?_; intro v1 w5 hown hB4 hgrow hat)
            have hit4 := (hgrow.block (w1.heap.size + 1) (Array.getElem?_eq_some_iff.1 Hit3.out).1 (iter_ne hM3 Hit3.out)).trans Hit3.out
            go_roundw
            case rel =>
              exact ⟨i + 1, ns, [num], hlt, ⟨hit4⟩, ⟨hB4⟩, ⟨Kd.R_over (Kd.R_drewN hN3 _) (Kd.R_drewN hM3 _) (by decide) hgrow⟩, ⟨hown⟩, ⟨Hs2.out⟩, ⟨by rw [Hcn.out, ← hcd.out]; rfl⟩, ⟨by have := hlen.out; simp at *; omega⟩⟩
            case measure =>
              rw [iterPos_of hit4, iterPos_of hit.out]
              omega
        case cons.cons => exact absurd hlt2 (by simp)
        case cons.nil =>
          by_cases hb4 : k.m1 < num
          · have He := Lib.hid (show lineS st (w0 :: rest) = (7, st) by rw [HL.out, Hs.out, if_pos (.inr (.inr (.inr hb4)))])
            go_wp2_with (go_at_call 49; refine (Hrd.out _ hbx).mono ?_; rintro e w3 ⟨rfl, hbr⟩; have hkb3 := (hbr.block w1.heap.size hk2).trans Hkb2.out; have k1 := blk_cell hkb3 1; have k2 := blk_cell hkb3 2; have k3 := blk_cell hkb3 3; have l1 := al1 k1; have l2 := al1 k2; have l3 := al1 k3; clear hkb3)
            go_quiet (fail)
            go_wp2
            have hbw3 : Below w.heap.size w w3 := hbw2.trans (hbr.mono hbw2.size)
            have hbw4 := (hbw3.alloc hbw3.size (Obj.cells #[Value.string ⟨#[]⟩, Value.int .i64 num] 98))
            go_ret
            exact ⟨ret_int (by rw [He.out]), by rw [He.out]; exact ((HR.out.alike hbw4).1.drewN _), (HR.out.alike hbw4).2.trans (Kp.drewN _ _ _ _)⟩
          · have Hs2 := Lib.hid (Hs.out.trans (if_neg (fun h => h.elim (fun h => by cases h) (fun h => h.elim (fun h => h rfl) (fun h => h.elim hb3 hb4)))))
            have hb3' : k.least ≤ num := by omega
            have hb4' : num ≤ k.m1 := by omega
            clear hb3 hb4
            go_wp2_with (go_at_call 49; refine (Hrd.out _ hbx).mono ?_; rintro e w3 ⟨rfl, hbr⟩; have hkb3 := (hbr.block w1.heap.size hk2).trans Hkb2.out; have k1 := blk_cell hkb3 1; have k2 := blk_cell hkb3 2; have k3 := blk_cell hkb3 3; have l1 := al1 k1; have l2 := al1 k2; have l3 := al1 k3; clear hkb3)
            go_quiet (fail)
            generalize hw4 : w3.alloc (Obj.cells #[Value.string ⟨#[]⟩, Value.int IntKind.i64 num] 98) = w4
            have hb5 : Below w2.heap.size w2 w4 := by rw [← hw4]; exact hbr.alloc hbr.size _
            have hv4 : w4.cell? ⟨w3.heap.size, 1, none⟩ = some (.int .i64 num) := by rw [← hw4]; exact blk_cell (heap_alloc_new w3 _) 1
            have hB3 := hB2.trans (hb5.mono (by have := hB2.size; simpa using this))
            have hN3 := Kd.R_below hN2 hb5
            have hM3 := Kd.R_below hM2 hb5
            have hit3 := (hb5.block (w1.heap.size + 1) (Array.getElem?_eq_some_iff.1 Hit2.out).1).trans Hit2.out
            have Hit3 := Lib.hid hit3
            have Hw4 := Lib.hid hw4
            clear hit3 hw4
            go_wp2_with (at_builtin; refine Kd.R_append (Kd.int .i64) (w0 := (w1.alloc (Obj.cells #[Value.string k.ws, Value.int .i64 k.m0, Value.int .i64 k.m1, Value.int .i64 k.least, Value.func (Fn.func k.f) #[] #[]] 91))) (W := w4.drewN nq) (w1.heap.size + 1) rfl (.tmp 103) (.tmp 106) 96 2 (.int .i64 0) 8 rfl Tryd.underlying96 info_i64 rfl (by decide) (by decide) (.slice AM 1 cM) [n0] num [.int .i64 num] (fun _ => True) (fun _ => False) rfl rfl rfl (fun _ h => h.elim) (fun _ _ => trivial) (Kd.R_drewN hM3 _) (pw_below_drewN hB3 _) (by have := hB3.size; simpa using this) (by simp) ?_; intro v1 w5 hown hB4 hgrow hat)
            have hit4 := (hgrow.block (w1.heap.size + 1) (Array.getElem?_eq_some_iff.1 Hit3.out).1 (iter_ne hM3 Hit3.out)).trans Hit3.out
            go_roundw
            case rel =>
              exact ⟨i + 1, ns, [n0, num], hlt, ⟨hit4⟩, ⟨hB4⟩, ⟨Kd.R_over (Kd.R_drewN hN3 _) (Kd.R_drewN hM3 _) (by decide) hgrow⟩, ⟨hown⟩, ⟨Hs2.out⟩, ⟨by rw [Hcn.out, ← hcd.out]; rfl⟩, ⟨by have := hlen.out; simp at *; omega⟩⟩
            case measure =>
              rw [iterPos_of hit4, iterPos_of hit.out]
              omega
    · have hend := Lib.run_next_end_at (P := Tryd.prog) wr (w1.heap.size + 1) k.ws i 0 hit.out hlt
      have hc4 := blk_cell Hkb.out 4
      have heg := k.enters
      have hok : Rdr wr r (fun j => ok j ∧ j < w.heap.size) st := (HR.out.bound.1.below hb).below (Below.trans ((Below.refl _ _).alloc (Nat.le_refl _) _) (hB.out.mono (Nat.le_succ _)))
      have hrw := HR.out.bound.2
      have hwle := hb.size
      have hbase := Kd.R_base hN.out
      have Hs := Lib.hid (hsc.out.trans (scan_end (by omega)))
      have hiw : i = k.ws.size := by omega
      have hlen' := hlen.out
      have hcd' := hcd.out
      have Hcd := Lib.hid (show nums.length = cntD k.ws.data.toList by rw [hcd', hiw, List.take_of_length_le (by rw [data_length]; exact Nat.le_refl _)])
      have Hlen := Lib.hid (show ns.length + nums.length = k.ws.size by omega)
      have He := Lib.hid (show lineS st (w0 :: rest) = doS k st ns nums by rw [HL.out, Hs.out])
      have hbw : Below w.heap.size w wr := (hb.alloc hb.size _).trans (hB.out.mono (Nat.le_succ_of_le hb.size))
      clear hiw hlen' hcd'
      go_wp2_with fail
      refine (do_calls k r (fun j => ok j ∧ j < w.heap.size) _ _ _ _ st ns nums _ _ _ hok hl1 hl2 hl3 hl4 hN.out hM.out ?_ Hlen.out Hcd.out).mono ?_
      · intro j hj
        have := hbase j hj
        exact ⟨fun h => by omega, by omega⟩
      rintro e w' ⟨rfl, hR', hK'⟩
      go_wp2
      go_ret
      refine ⟨ret_int (by rw [He.out]), by rw [He.out]; exact hR'.mono fun j hj => hj.imp (·.1) fun h => Nat.le_trans hbw.size h, ?_⟩
      exact ⟨(Kp.of_below hbw : Kp w wr r ok).below.trans hK'.below, fun j hj ho hr => (hK'.keep j (Nat.lt_of_lt_of_le hj hbw.size) (fun h => ho h.1) hr).trans (hbw.block j hj)⟩

end Go.Proofs.YtfigaamgcmifeaaDoor
