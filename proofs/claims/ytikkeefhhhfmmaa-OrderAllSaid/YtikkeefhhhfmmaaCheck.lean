/- phys.Right, order.blocks, order.Check: their walks. Conditions: none. -/
import Derived.Test.YtikkeefhhhfmmaaFind
set_option linter.unusedVariables false
set_option linter.unusedSimpArgs false
namespace Go.Proofs.Ytikkeefhhhfmmaa
open Go.RowKit Go.Instr

set_option maxRecDepth 100000 in
set_option maxHeartbeats 1000000 in
theorem right_spec (p : PFn) (w : World) (h : p.okw w) : Calls Try.prog 33 #[p.val] w fun e w' => e = .returned (.bool (rightB p)) ∧ Ex w w' := by
  obtain ⟨params, k, slots, L, bv⟩ := p
  obtain ⟨A, c, hav⟩ := Recs.shape h.blocks
  simp only at hav
  subst hav
  have H := Lib.hid h
  clear h
  have HR : Hid (rightB ⟨params, k, slots, L, .slice A L.length c⟩ = ((funcB ⟨params, k, slots, L, .slice A L.length c⟩).1 == 0)) := rfl
  go_enter Try.func33, Try.ntmps33
  go_wp2_with (go_at_call 30; with_reducible refine (func_spec ⟨params, k, slots, L, .slice A L.length c⟩ _ (H.out.ex ((Ex.refl w).alloc _))).mono ?_; rintro e w' ⟨rfl, hw⟩; have HW := Lib.hid hw; clear hw)
  go_ret
  exact ⟨by rw [HR.out]; rfl, ((Ex.refl w).alloc _).trans HW.out⟩

def matchB (L : List Placed) : List Placed → List Bool → Nat → Nat × Bool
  | [], _, i => (i, true)
  | x :: xs, fd, i => if findB L fd x < 0 then (i, false) else matchB L xs (fd.set (findB L fd x).toNat true) (i + 1)
def blocksB (p q : PBlk) : Int × Bool :=
  if q.ins.length = p.ins.length then
    if (matchB p.ins q.ins (List.replicate p.ins.length false) 0).2 then (p.ins.length, sameE p.e q.e) else ((matchB p.ins q.ins (List.replicate p.ins.length false) 0).1, false)
  else (((min p.ins.length q.ins.length : Nat) : Int), false)
theorem findIn_lt {x : Placed} {n : Nat} : ∀ {l : List (Nat × Placed)}, (∀ p ∈ l, p.1 < n) → findIn x l < n
  | [], _ => by simp [findIn]; omega
  | p :: l, h => by
    unfold findIn
    split
    · have := h p (by simp)
      omega
    · split
      · omega
      · exact findIn_lt fun q hq => h q (by simp [hq])
theorem findB_lt (L : List Placed) (fd : List Bool) (x : Placed) : findB L fd x < L.length := by
  refine findIn_lt fun p hp => ?_
  unfold unfTo at hp
  obtain ⟨i, hi, h⟩ := List.mem_filterMap.1 hp
  split at h
  · simp only [Option.some.injEq] at h
    subst h
    exact List.mem_range.1 hi
  · cases h
theorem match_step {L ys : List Placed} {fd : List Bool} {i : Nat} {x : Placed} (h : ys[i]? = some x) (h0 : ¬ findB L fd x < 0) : matchB L (ys.drop i) fd i = matchB L (ys.drop (i + 1)) (fd.set (findB L fd x).toNat true) (i + 1) := by
  obtain ⟨hi, rfl⟩ := List.getElem?_eq_some_iff.1 h
  rw [List.drop_eq_getElem_cons hi]
  simp [matchB, h0]
theorem match_here {L ys : List Placed} {fd : List Bool} {i : Nat} {x : Placed} (h : ys[i]? = some x) (h0 : findB L fd x < 0) : matchB L (ys.drop i) fd i = (i, false) := by
  obtain ⟨hi, rfl⟩ := List.getElem?_eq_some_iff.1 h
  rw [List.drop_eq_getElem_cons hi]
  simp [matchB, h0]

theorem blk_cells2 (w : World) (x y : PBlk) : ∃ W, W = (w.alloc (.cells #[x.iv, .int .i64 x.e.op, .int .i64 x.e.a, .int .i64 x.e.b, x.e.tv, .int .i32 x.e.imm] 57)).alloc (.cells #[y.iv, .int .i64 y.e.op, .int .i64 y.e.a, .int .i64 y.e.b, y.e.tv, .int .i32 y.e.imm] 57) ∧ Ex w W ∧ W.heap.size = w.heap.size + 2 ∧
    At6 W w.heap.size 0 x ∧ At6 W (w.heap.size + 1) 0 y := by
  refine ⟨_, rfl, ((Ex.refl w).alloc _).alloc _, by simp, (at6_new w x).ex ((Ex.refl _).alloc _), ?_⟩
  have := at6_new (w.alloc (.cells #[x.iv, .int .i64 x.e.op, .int .i64 x.e.a, .int .i64 x.e.b, x.e.tv, .int .i32 x.e.imm] 57)) y
  rwa [World.size_alloc] at this
theorem own_bools {w : World} {base : Nat} {v : Value} {n : Nat} {fd : List Bool} (h : w.ownsRow base 4 1 v n (fd.map .bool)) (hn : n ≤ 17592186044416) : Bools any w v fd := by
  have hl : fd.length = n := by have := h.1; simpa using this
  unfold Bools
  rw [hl]
  exact Row.anyOf (Row.fresh h hn)

set_option maxRecDepth 100000 in
set_option maxHeartbeats 2000000 in
theorem blocks_spec (p q : PBlk) (w : World) (hp : p.okw w) (hq : q.okw w) : Calls Try.prog 57 #[p.val, q.val] w fun e w' => e = .returned (.tuple #[.int .i64 (blocksB p q).1, .bool (blocksB p q).2]) ∧ Ex w w' := by
  obtain ⟨W, hW, hex, hsz, hA, hB⟩ := blk_cells2 w p q
  have HP := Lib.hid (hp.ex hex)
  have HQ := Lib.hid (hq.ex hex)
  clear hp hq
  obtain ⟨pins, piv, ⟨pop, pa, pb, ptos, ptv, pimm⟩⟩ := p
  obtain ⟨qins, qiv, ⟨qop, qa, qb, qtos, qtv, qimm⟩⟩ := q
  obtain ⟨A1, c1, h1⟩ := HP.out.ins.shape
  obtain ⟨A2, c2, h2⟩ := Nums.shape HP.out.tos
  obtain ⟨A3, c3, h3⟩ := HQ.out.ins.shape
  obtain ⟨A4, c4, h4⟩ := Nums.shape HQ.out.tos
  simp only at h1 h2 h3 h4
  subst h1 h2 h3 h4
  simp only at hW
  have HW := Lib.hid hW
  have HA := Lib.hid hA
  have HB := Lib.hid hB
  have HE := Lib.hid hex
  have HSZ := Lib.hid hsz
  clear hW hex hsz
  obtain ⟨a0, a1, a2, a3, a4, a5⟩ := hA
  obtain ⟨b0, b1, b2, b3, b4, b5⟩ := hB
  simp only [Nat.zero_add] at a0 a1 a2 a3 a4 a5 b0 b1 b2 b3 b4 b5
  have hf1 := HP.out.few
  have hf2 := HQ.out.few
  simp only at hf1 hf2
  by_cases hn : qins.length = pins.length
  · have hne : ((qins.length : Int) != (pins.length : Int)) = false := by simp [hn]
    have HI : Hid (blocksB ⟨pins, .slice A1 pins.length c1, ⟨pop, pa, pb, ptos, .slice A2 ptos.length c2, pimm⟩⟩ ⟨qins, .slice A3 qins.length c3, ⟨qop, qa, qb, qtos, .slice A4 qtos.length c4, qimm⟩⟩ =
        if (matchB pins qins (List.replicate pins.length false) 0).2 then ((pins.length : Int), sameE ⟨pop, pa, pb, ptos, .slice A2 ptos.length c2, pimm⟩ ⟨qop, qa, qb, qtos, .slice A4 qtos.length c4, qimm⟩) else (((matchB pins qins (List.replicate pins.length false) 0).1 : Int), false)) := by
      show blocksB _ _ = _
      simp [blocksB, hn]
    have HN := Lib.hid hn
    clear hn
    obtain ⟨i0, hi, hz0, hz1, hz2⟩ := info_parts Try.infoBool
    obtain ⟨W1, hmk, hown, hgr⟩ := run_makeSlice_full (P := Try.prog) W W.heap.size 51 4 i0 (.bool false) 1 Try.underlying51 hi hz0 hz1 .i64 .i64 pins.length (by omega) (by rw [hz2]; omega) (by unfold maxLen; omega) (Nat.le_refl _)
    simp only [Value.cells, Nat.mul_one, toList_madeCells_one] at hown
    rw [← List.map_replicate (f := Value.bool)] at hown
    have hex : Ex W W1 := ⟨hgr.os, hgr.tape, hgr.output, hgr.size, fun k hk => hgr.block k hk (by simp)⟩
    have HMK := Lib.hid hmk
    have HOWN := Lib.hid hown
    have HX1 := Lib.hid hex
    have HQI : Hid (Placeds any W (.slice A3 qins.length c3) qins) := HQ.out.ins
    have HPI : Hid (Placeds any W (.slice A1 pins.length c1) pins) := HP.out.ins
    obtain ⟨_, _, hv, _, _, hcq⟩ := HQI.out.open
    simp only [Value.slice.injEq] at hv
    obtain ⟨rfl, _, rfl⟩ := hv
    have HCQ := Lib.hid hcq
    clear hmk hown hgr hi hz0 hz1 hz2 hex hcq
    go_enter Try.func57, Try.ntmps57
    have hmk := HMK.out
    rw [HW.out] at hmk
    simp only [World.size_alloc] at hmk
    clear a0 a1 a2 a3 a4 a5 b1 b2 b3 b4 b5
    have b0 := HX1.out.cell b0
    have hown := HOWN.out
    rw [show W.heap.size = w.heap.size + 1 + 1 from HSZ.out] at hown
    have HOWN2 := Lib.hid hown
    clear hown HOWN HMK
    go_wp2
    clear hmk b0
    go_loopw [29] (fun x wr => ∃ (i : Nat) (fd : List Bool), i ≤ qins.length ∧ x = .int .i64 i ∧ Hid (fd.length = pins.length) ∧ Hid (matchB pins qins (List.replicate pins.length false) 0 = matchB pins (qins.drop i) fd i) ∧
      wr.ownsRow (w.heap.size + 1 + 1) 4 1 (.slice (some ⟨w.heap.size + 1 + 1, 0, none⟩) pins.length pins.length) pins.length (fd.map .bool) ∧ Ex W wr) (fun x _ => qins.length - (intOf x).toNat)
    case atStart => exact ⟨0, List.replicate pins.length false, Nat.zero_le _, rfl, by simp [Hid], rfl, HOWN2.out, HX1.out⟩
    case round =>
      obtain ⟨i, fd, hi, rfl, hfl, hm, ho, hx⟩ := hrel
      have HFL := Lib.hid hfl.out
      have HM := Lib.hid hm.out
      have HO := Lib.hid ho
      have HX := Lib.hid hx
      clear hfl hm ho hx
      obtain ⟨a0, a1, a2, a3, a4, a5⟩ := HA.out.ex HX.out
      simp only [Nat.zero_add] at a0 a1 a2 a3 a4 a5
      obtain ⟨b0, b1, b2, b3, b4, b5⟩ := HB.out.ex HX.out
      simp only [Nat.zero_add] at b0 b1 b2 b3 b4 b5
      have q0 := World.block_lt_of_cell? wr _ a0
      have q1 := World.block_lt_of_cell? wr _ b0
      by_cases hlt : i < qins.length
      · obtain ⟨b, off, rfl, _, hc⟩ := HCQ.out (by omega)
        obtain ⟨⟨⟨xop, xd, xe, xa, xb, xc, xi, xs, xv⟩, xf⟩, hx⟩ : ∃ x, qins[i]? = some x := ⟨_, List.getElem?_eq_getElem hlt⟩
        have hxo := HQI.out.2 _ (List.mem_of_getElem? hx)
        obtain ⟨A5, c5, hmv⟩ := Nums.shape hxo.1
        simp only at hmv
        subst hmv
        obtain ⟨d0, d1, d2, d3, d4, d5, d6, d7, d8⟩ := (hc i _ hx).ex HX.out
        have SF : Hid (∀ w', Ex wr w' → Calls Try.prog 91 #[.slice A1 pins.length c1, .slice (some ⟨w.heap.size + 1 + 1, 0, none⟩) pins.length pins.length, Placed.val ⟨⟨xop, xd, xe, xa, xb, xc, xi, xs, .slice A5 xs.length c5⟩, xf⟩] w' fun e w'' => e = .returned (.int .i64 (findB pins fd ⟨⟨xop, xd, xe, xa, xb, xc, xi, xs, .slice A5 xs.length c5⟩, xf⟩)) ∧ Ex w' w'') :=
          fun w' hw => find_spec pins fd _ _ _ w' (HPI.out.ex (HX.out.trans hw)) (own_bools (own_ex HO.out hw) (by omega)) HFL.out (Placed.okw.ex hxo (HX.out.trans hw))
        have S1 := Lib.hid (match_step (L := pins) (fd := fd) hx)
        have S2 := Lib.hid (match_here (L := pins) (fd := fd) hx)
        have hr := findB_lt pins fd ⟨⟨xop, xd, xe, xa, xb, xc, xi, xs, .slice A5 xs.length c5⟩, xf⟩
        clear hc hx hxo
        generalize findB pins fd ⟨⟨xop, xd, xe, xa, xb, xc, xi, xs, .slice A5 xs.length c5⟩, xf⟩ = r at *
        by_cases h0 : r < 0
        · have H2 := S2.out h0
          have HH2 := Lib.hid H2
          clear S1 S2 H2
          go_wp2_with (go_at_call 91; with_reducible refine (SF.out _ ((Ex.refl wr).alloc _)).mono ?_; rintro e w' ⟨rfl, hw⟩; have HWW := Lib.hid (Ex.trans ((Ex.refl wr).alloc _) hw); clear hw)
          go_ret2
          refine ⟨?_, HE.out.trans (HX.out.trans HWW.out)⟩
          rw [HI.out, HM.out, HH2.out]; rfl
        · have H1 := S1.out h0
          have HH1 := Lib.hid H1
          clear S1 S2 H1
          obtain ⟨k, rfl⟩ : ∃ k : Nat, r = k := ⟨r.toNat, by omega⟩
          have hk : k < pins.length := by omega
          obtain ⟨u, hu⟩ : ∃ u, (fd.map Value.bool)[k]? = some (.bool u) := ⟨fd[k]'(by have := HFL.out; omega), by simp [HFL.out, hk]⟩
          have HU := Lib.hid hu
          clear hu
          go_wp2_with (go_at_call 91; with_reducible refine (SF.out _ ((Ex.refl wr).alloc _)).mono ?_; rintro e w' ⟨rfl, hw⟩; have HWW := Lib.hid (Ex.trans ((Ex.refl wr).alloc _) hw); clear hw; have hco := own_cell (own_ex HO.out HWW.out) HU.out; have hfo := (own_ex HO.out HWW.out).frozenAt k)
          go_roundw
          case rel =>
            refine ⟨i + 1, fd.set k true, by omega, by go_num, by show _ = _; rw [List.length_set]; exact HFL.out, by show _ = _; rw [HM.out, HH1.out]; simp, ?_, (HX.out.trans HWW.out).set (p := ⟨w.heap.size + 1 + 1, k, none⟩) (by have := HSZ.out; simp; omega) _⟩
            have := ((own_ex HO.out HWW.out).stored k (.bool true)).1
            rwa [show (fd.map Value.bool).set k (.bool true) = (fd.set k true).map Value.bool by rw [List.map_set]] at this
          case measure => simp [intOf]; omega
      · have he : i = qins.length := by omega
        have hm2 := HM.out
        rw [he, List.drop_length] at hm2
        have HM2 : Hid ((matchB pins qins (List.replicate pins.length false) 0).2 = true) := by show _ = _; rw [hm2]; rfl
        clear hm2 he
        have T1 : Hid ((EndI.mk pop pa pb ptos (.slice A2 ptos.length c2) pimm).ok any wr) := HP.out.tos.ex HX.out
        have T2 : Hid ((EndI.mk qop qa qb qtos (.slice A4 qtos.length c4) qimm).ok any wr) := HQ.out.tos.ex HX.out
        go_wp2_with (go_at_call 92; with_reducible refine (sameEnd_spec ⟨pop, pa, pb, ptos, .slice A2 ptos.length c2, pimm⟩ ⟨qop, qa, qb, qtos, .slice A4 qtos.length c4, qimm⟩ _ T1.out T2.out).mono ?_; rintro e w' ⟨rfl, hw⟩; have HWW := Lib.hid hw; clear hw)
        go_ret2
        refine ⟨?_, HE.out.trans (HX.out.trans HWW.out)⟩
        rw [HI.out, HM2.out]; rfl
  · have hne : ((qins.length : Int) != (pins.length : Int)) = true := by simp; omega
    have HI : Hid (blocksB ⟨pins, .slice A1 pins.length c1, ⟨pop, pa, pb, ptos, .slice A2 ptos.length c2, pimm⟩⟩ ⟨qins, .slice A3 qins.length c3, ⟨qop, qa, qb, qtos, .slice A4 qtos.length c4, qimm⟩⟩ = (((min pins.length qins.length : Nat) : Int), false)) := by
      show blocksB _ _ = _
      simp [blocksB, hn]
    clear hn
    go_enter Try.func57, Try.ntmps57
    go_wp2
    all_goals
      go_ret2
      refine ⟨?_, ((Ex.refl w).alloc _).alloc _⟩
      rw [HI.out]; simp; omega

def checkFrom : List PBlk → List PBlk → Nat → Int × Int × Int
  | p :: ps, q :: qs, b => if (blocksB p q).2 then checkFrom ps qs (b + 1) else (50, (b : Int), (blocksB p q).1)
  | _, _, _ => (0, 0, 0)
def sameHead (p q : PFn) : Bool := p.params == q.params && (p.k == q.k && (p.slots == q.slots && p.blocks.length == q.blocks.length))
def checkB (p q : PFn) : Int × Int × Int :=
  if rightB p && rightB q then if sameHead p q then checkFrom p.blocks q.blocks 0 else (50, 0, 0) else (1, 0, 0)
theorem check_step {ps qs : List PBlk} {b : Nat} {p q : PBlk} (hp : ps[b]? = some p) (hq : qs[b]? = some q) (h : (blocksB p q).2 = true) : checkFrom (ps.drop b) (qs.drop b) b = checkFrom (ps.drop (b + 1)) (qs.drop (b + 1)) (b + 1) := by
  obtain ⟨hi, rfl⟩ := List.getElem?_eq_some_iff.1 hp
  obtain ⟨hj, rfl⟩ := List.getElem?_eq_some_iff.1 hq
  rw [List.drop_eq_getElem_cons hi, List.drop_eq_getElem_cons hj]
  simp [checkFrom, h]
theorem check_here {ps qs : List PBlk} {b : Nat} {p q : PBlk} (hp : ps[b]? = some p) (hq : qs[b]? = some q) (h : (blocksB p q).2 = false) : checkFrom (ps.drop b) (qs.drop b) b = (50, (b : Int), (blocksB p q).1) := by
  obtain ⟨hi, rfl⟩ := List.getElem?_eq_some_iff.1 hp
  obtain ⟨hj, rfl⟩ := List.getElem?_eq_some_iff.1 hq
  rw [List.drop_eq_getElem_cons hi, List.drop_eq_getElem_cons hj]
  simp [checkFrom, h]
/-- Four cells from a place on. -/
def At4 (w : World) (b o : Nat) (p : PFn) : Prop :=
  w.cell? ⟨b, o, none⟩ = some (.int .i64 p.params) ∧ w.cell? ⟨b, o + 1, none⟩ = some (.int .i64 p.k) ∧ w.cell? ⟨b, o + 2, none⟩ = some (.int .i64 p.slots) ∧ w.cell? ⟨b, o + 3, none⟩ = some p.bv
theorem At4.ex {w w' : World} {b o : Nat} {m : PFn} (h : At4 w b o m) (hb : Ex w w') : At4 w' b o m := ⟨hb.cell h.1, hb.cell h.2.1, hb.cell h.2.2.1, hb.cell h.2.2.2⟩
theorem at4_new (w : World) (p : PFn) : At4 (w.alloc (.cells #[.int .i64 p.params, .int .i64 p.k, .int .i64 p.slots, p.bv] 35)) w.heap.size 0 p := by
  have h : ∀ i, (w.alloc (.cells #[.int .i64 p.params, .int .i64 p.k, .int .i64 p.slots, p.bv] 35)).cell? ⟨w.heap.size, i, none⟩ = [Value.int .i64 p.params, .int .i64 p.k, .int .i64 p.slots, p.bv][i]? := fun i => (World.cell?_alloc_new _ _ _ _).trans (by simp)
  exact ⟨h 0, h 1, h 2, h 3⟩
theorem fn_cells2 (w : World) (x y : PFn) : ∃ W, W = (w.alloc (.cells #[.int .i64 x.params, .int .i64 x.k, .int .i64 x.slots, x.bv] 35)).alloc (.cells #[.int .i64 y.params, .int .i64 y.k, .int .i64 y.slots, y.bv] 35) ∧ Ex w W ∧ W.heap.size = w.heap.size + 2 ∧
    At4 W w.heap.size 0 x ∧ At4 W (w.heap.size + 1) 0 y := by
  refine ⟨_, rfl, ((Ex.refl w).alloc _).alloc _, by simp, (at4_new w x).ex ((Ex.refl _).alloc _), ?_⟩
  have := at4_new (w.alloc (.cells #[.int .i64 x.params, .int .i64 x.k, .int .i64 x.slots, x.bv] 35)) y
  rwa [World.size_alloc] at this
theorem four_cases : ∀ x1 x2 x3 x4 : Bool, x1 = true ∨ (x1 = false ∧ x2 = true) ∨ (x1 = false ∧ x2 = false ∧ x3 = true) ∨ (x1 = false ∧ x2 = false ∧ x3 = false ∧ x4 = true) ∨ (x1 = false ∧ x2 = false ∧ x3 = false ∧ x4 = false) := by decide

set_option maxRecDepth 100000 in
set_option maxHeartbeats 2000000 in
theorem check_spec (p q : PFn) (w : World) (hp : p.okw w) (hq : q.okw w) : Calls Try.prog 23 #[p.val, q.val] w fun e w' => e = .returned (.tuple #[.int .i64 (checkB p q).1, .int .i64 (checkB p q).2.1, .int .i64 (checkB p q).2.2]) ∧ Ex w w' := by
  obtain ⟨W, hW, hex, hsz, hA, hB⟩ := fn_cells2 w p q
  have HP := Lib.hid (hp.ex hex)
  have HQ := Lib.hid (hq.ex hex)
  clear hp hq
  obtain ⟨A1, c1, h1⟩ := Recs.shape HP.out.blocks
  obtain ⟨A2, c2, h2⟩ := Recs.shape HQ.out.blocks
  have SP := Lib.hid (fun w' (hw : Ex W w') => right_spec p w' (HP.out.ex hw))
  have SQ := Lib.hid (fun w' (hw : Ex W w') => right_spec q w' (HQ.out.ex hw))
  have HC : Hid (checkB p q = if rightB p && rightB q then if sameHead p q then checkFrom p.blocks q.blocks 0 else (50, 0, 0) else (1, 0, 0)) := rfl
  obtain ⟨pp, pk, ps, pL, pv⟩ := p
  obtain ⟨qp, qk, qs, qL, qv⟩ := q
  simp only at h1 h2
  subst h1 h2
  simp only at hW
  have HW := Lib.hid hW
  have HA := Lib.hid hA
  have HB := Lib.hid hB
  have HE := Lib.hid hex
  have HSZ := Lib.hid hsz
  clear hW hex hsz
  obtain ⟨a0, a1, a2, a3⟩ := hA
  obtain ⟨b0, b1, b2, b3⟩ := hB
  simp only [Nat.zero_add] at a0 a1 a2 a3 b0 b1 b2 b3
  generalize rightB ⟨pp, pk, ps, pL, .slice A1 pL.length c1⟩ = r1 at *
  generalize rightB ⟨qp, qk, qs, qL, .slice A2 qL.length c2⟩ = r2 at *
  cases r1 with
  | false =>
    go_enter Try.func23, Try.ntmps23
    go_wp2_with (go_at_call 33; rw [← HW.out]; with_reducible refine (SP.out _ (Ex.refl _)).mono ?_; rintro e w' ⟨rfl, hw⟩; have HWW := Lib.hid hw; clear hw)
    go_ret3
    exact ⟨by rw [HC.out]; rfl, HE.out.trans HWW.out⟩
  | true =>
    cases r2 with
    | false =>
      go_enter Try.func23, Try.ntmps23
      go_wp2_with (first
        | (go_at_call 33; rw [← HW.out]; with_reducible refine (SP.out _ (Ex.refl _)).mono ?_; rintro e w' ⟨rfl, hw⟩; have b0 := hw.cell b0; have b1 := hw.cell b1; have b2 := hw.cell b2; have b3 := hw.cell b3; have HWW := Lib.hid hw; clear hw)
        | (go_at_call 33; with_reducible refine (SQ.out _ HWW.out).mono ?_; rintro e w'' ⟨rfl, hw⟩; have HW2 := Lib.hid (HWW.out.trans hw); clear hw))
      go_ret3
      exact ⟨by rw [HC.out]; rfl, HE.out.trans HW2.out⟩
    | true =>
      have HC2 : Hid (checkB ⟨pp, pk, ps, pL, .slice A1 pL.length c1⟩ ⟨qp, qk, qs, qL, .slice A2 qL.length c2⟩ = if (pp == qp && (pk == qk && (ps == qs && pL.length == qL.length))) = true then checkFrom pL qL 0 else (50, 0, 0)) := by
        show checkB _ _ = _; rw [HC.out]; rfl
      have hlb : (pL.length == qL.length) = !((pL.length : Int) != (qL.length : Int)) := by
        by_cases h : pL.length = qL.length
        · rw [h]; simp
        · have h2 : ((pL.length : Int) != (qL.length : Int)) = true := by simp; omega
          rw [h2]
          simpa using h
      have hc : (pp != qp) = true ∨ ((pp != qp) = false ∧ (pk != qk) = true) ∨ ((pp != qp) = false ∧ (pk != qk) = false ∧ (ps != qs) = true) ∨ ((pp != qp) = false ∧ (pk != qk) = false ∧ (ps != qs) = false ∧ ((pL.length : Int) != (qL.length : Int)) = true) ∨
          ((pp != qp) = false ∧ (pk != qk) = false ∧ (ps != qs) = false ∧ ((pL.length : Int) != (qL.length : Int)) = false) := by
        exact four_cases _ _ _ _
      have HLB := Lib.hid hlb
      clear hlb
      rcases hc with q1 | ⟨q1, q2⟩ | ⟨q1, q2, q3⟩ | ⟨q1, q2, q3, q4⟩ | ⟨q1, q2, q3, q4⟩
      case inr.inr.inr.inr =>
        have HI : Hid (checkB ⟨pp, pk, ps, pL, .slice A1 pL.length c1⟩ ⟨qp, qk, qs, qL, .slice A2 qL.length c2⟩ = checkFrom pL qL 0) := by
          show checkB _ _ = _; rw [HC2.out, HLB.out, q4]
          have q1' : pp = qp := by simpa using q1
          have q2' : pk = qk := by simpa using q2
          have q3' : ps = qs := by simpa using q3
          simp [q1', q2', q3']
        have HLQ : Hid (pL.length = qL.length) := by
          show _ = _
          have q4' : (pL.length : Int) = qL.length := by simpa using q4
          omega
        clear HC2 HC HLB
        have HPB : Hid (PBlks any W (.slice A1 pL.length c1) pL) := HP.out.blocks
        have HQB : Hid (PBlks any W (.slice A2 qL.length c2) qL) := HQ.out.blocks
        obtain ⟨_, _, hv, _, _, hcp⟩ := HPB.out.open
        simp only [Value.slice.injEq] at hv
        obtain ⟨rfl, _, rfl⟩ := hv
        obtain ⟨_, _, hv, _, _, hcq⟩ := HQB.out.open
        simp only [Value.slice.injEq] at hv
        obtain ⟨rfl, _, rfl⟩ := hv
        have HCP := Lib.hid hcp
        have HCQ := Lib.hid hcq
        clear hcp hcq
        go_enter Try.func23, Try.ntmps23
        go_wp2_with (first
          | (go_at_call 33; rw [← HW.out]; with_reducible refine (SP.out _ (Ex.refl _)).mono ?_; rintro e w' ⟨rfl, hw⟩; have b0 := hw.cell b0; have b1 := hw.cell b1; have b2 := hw.cell b2; have b3 := hw.cell b3; have HWW := Lib.hid hw; clear hw)
          | (go_at_call 33; with_reducible refine (SQ.out _ HWW.out).mono ?_; rintro e w'' ⟨rfl, hw⟩; have b0 := hw.cell b0; have b1 := hw.cell b1; have b2 := hw.cell b2; have b3 := hw.cell b3; have HW2 := Lib.hid (HWW.out.trans hw); have a0 := HW2.out.cell a0; have a1 := HW2.out.cell a1; have a2 := HW2.out.cell a2; have a3 := HW2.out.cell a3; clear hw))
        clear a0 a1 a2 a3 b0 b1 b2 b3 q1 q2 q3 q4
        go_loopw [49] (fun x wr => ∃ b : Nat, b ≤ pL.length ∧ x = .int .i64 b ∧ Hid (checkFrom pL qL 0 = checkFrom (pL.drop b) (qL.drop b) b) ∧ Ex W wr) (fun x _ => pL.length - (intOf x).toNat)
        case atStart => exact ⟨0, Nat.zero_le _, rfl, rfl, HW2.out⟩
        case round =>
          obtain ⟨b, hb, rfl, hu, hx⟩ := hrel
          have HU := Lib.hid hu.out
          have HX := Lib.hid hx
          clear hu hx
          by_cases hlt : b < pL.length
          · obtain ⟨b1', o1, rfl, _, hcp⟩ := HCP.out (by omega)
            obtain ⟨b2', o2, rfl, _, hcq⟩ := HCQ.out (by have := HLQ.out; omega)
            obtain ⟨⟨pins, piv, ⟨pop, pa, pb, ptos, ptv, pimm⟩⟩, hxp⟩ : ∃ x, pL[b]? = some x := ⟨_, List.getElem?_eq_getElem hlt⟩
            obtain ⟨⟨qins, qiv, ⟨qop, qa, qb, qtos, qtv, qimm⟩⟩, hxq⟩ : ∃ x, qL[b]? = some x := ⟨_, List.getElem?_eq_getElem (by have := HLQ.out; omega)⟩
            have hop := HPB.out.2 _ (List.mem_of_getElem? hxp)
            have hoq := HQB.out.2 _ (List.mem_of_getElem? hxq)
            obtain ⟨A3, c3, h1⟩ := hop.ins.shape
            obtain ⟨A4, c4, h2⟩ := Nums.shape hop.tos
            obtain ⟨A5, c5, h3⟩ := hoq.ins.shape
            obtain ⟨A6, c6, h4⟩ := Nums.shape hoq.tos
            simp only at h1 h2 h3 h4
            subst h1 h2 h3 h4
            obtain ⟨d0, d1, d2, d3, d4, d5⟩ := (hcp b _ hxp).ex HX.out
            obtain ⟨e0, e1, e2, e3, e4, e5⟩ := (hcq b _ hxq).ex HX.out
            obtain ⟨_, _, _, a3⟩ := HA.out.ex HX.out
            obtain ⟨_, _, _, b3⟩ := HB.out.ex HX.out
            simp only [Nat.zero_add] at a3 b3
            have SB : Hid (∀ w', Ex wr w' → Calls Try.prog 57 #[PBlk.val ⟨pins, .slice A3 pins.length c3, ⟨pop, pa, pb, ptos, .slice A4 ptos.length c4, pimm⟩⟩, PBlk.val ⟨qins, .slice A5 qins.length c5, ⟨qop, qa, qb, qtos, .slice A6 qtos.length c6, qimm⟩⟩] w' fun e w'' =>
                e = .returned (.tuple #[.int .i64 (blocksB ⟨pins, .slice A3 pins.length c3, ⟨pop, pa, pb, ptos, .slice A4 ptos.length c4, pimm⟩⟩ ⟨qins, .slice A5 qins.length c5, ⟨qop, qa, qb, qtos, .slice A6 qtos.length c6, qimm⟩⟩).1, .bool (blocksB ⟨pins, .slice A3 pins.length c3, ⟨pop, pa, pb, ptos, .slice A4 ptos.length c4, pimm⟩⟩ ⟨qins, .slice A5 qins.length c5, ⟨qop, qa, qb, qtos, .slice A6 qtos.length c6, qimm⟩⟩).2]) ∧ Ex w' w'') :=
              fun w' hw => blocks_spec _ _ w' (PBlk.okw.ex hop (HX.out.trans hw)) (PBlk.okw.ex hoq (HX.out.trans hw))
            have S1 := Lib.hid (check_step hxp hxq)
            have S2 := Lib.hid (check_here hxp hxq)
            clear hcp hcq hop hoq hxp hxq
            generalize blocksB ⟨pins, .slice A3 pins.length c3, ⟨pop, pa, pb, ptos, .slice A4 ptos.length c4, pimm⟩⟩ ⟨qins, .slice A5 qins.length c5, ⟨qop, qa, qb, qtos, .slice A6 qtos.length c6, qimm⟩⟩ = r at *
            obtain ⟨at', okb⟩ := r
            simp only at SB
            obtain ⟨W3, hW3⟩ : ∃ W3, W3 = wr := ⟨_, rfl⟩
            subst hW3
            have l0 := World.block_lt_of_cell? W3 _ a3
            have l1 := World.block_lt_of_cell? W3 _ b3
            have l2 := World.block_lt_of_cell? W3 _ d0
            have l3 := World.block_lt_of_cell? W3 _ e0
            have g1 : (0 : Int) ≤ ↑b := by omega
            have g2 : (b : Int) < ↑pL.length := by omega
            have g3 : (b : Int) < ↑qL.length := by have := HLQ.out; omega
            cases okb with
            | true =>
              go_wp2
              go_region_held3 (fun w' => Cls W3 w') (first | exact (Cls.refl _).drew | exact Cls.step (by assumption) (by assumption)) (first
                | (go_at_call 57; with_reducible refine (SB.out _ (And.right (by assumption : Cls W3 _))).mono ?_; rintro e w5 ⟨rfl, hw5⟩))
              rename_i hS
              have HS := Lib.hid hS.2
              clear hS hw5
              go_wp2
              go_roundw
              case rel => exact ⟨b + 1, by omega, by go_num, by show _ = _; rw [HU.out, S1.out trivial], HX.out.trans HS.out⟩
              case measure => simp [intOf]; omega
            | false =>
              go_wp2
              go_region_held3 (fun w' => Cls W3 w') (first | exact (Cls.refl _).drew | exact Cls.step (by assumption) (by assumption)) (first
                | (go_at_call 57; with_reducible refine (SB.out _ (And.right (by assumption : Cls W3 _))).mono ?_; rintro e w5 ⟨rfl, hw5⟩))
              rename_i hS
              have HS := Lib.hid hS.2
              clear hS hw5
              go_wp2
              go_ret3
              exact ⟨by rw [HI.out, HU.out, S2.out trivial]; rfl, HE.out.trans (HX.out.trans HS.out)⟩
          · have he : b = pL.length := by omega
            have hn : checkFrom pL qL 0 = (0, 0, 0) := by rw [HU.out, he, List.drop_length]; rfl
            have HN := Lib.hid hn
            clear hn he
            go_wp2
            go_ret3
            exact ⟨by rw [HI.out, HN.out]; rfl, HE.out.trans HX.out⟩
      all_goals
        have HI : Hid (checkB ⟨pp, pk, ps, pL, .slice A1 pL.length c1⟩ ⟨qp, qk, qs, qL, .slice A2 qL.length c2⟩ = (50, 0, 0)) := by
          show checkB _ _ = _; rw [HC2.out, HLB.out]
          simp_all
        clear HC2 HC HLB
        go_enter Try.func23, Try.ntmps23
        go_wp2_with (first
          | (go_at_call 33; rw [← HW.out]; with_reducible refine (SP.out _ (Ex.refl _)).mono ?_; rintro e w' ⟨rfl, hw⟩; have b0 := hw.cell b0; have b1 := hw.cell b1; have b2 := hw.cell b2; have b3 := hw.cell b3; have HWW := Lib.hid hw; clear hw)
          | (go_at_call 33; with_reducible refine (SQ.out _ HWW.out).mono ?_; rintro e w'' ⟨rfl, hw⟩; have b0 := hw.cell b0; have b1 := hw.cell b1; have b2 := hw.cell b2; have b3 := hw.cell b3; have HW2 := Lib.hid (HWW.out.trans hw); have a0 := HW2.out.cell a0; have a1 := HW2.out.cell a1; have a2 := HW2.out.cell a2; have a3 := HW2.out.cell a3; clear hw))
        go_ret3
        exact ⟨by rw [HI.out]; rfl, HE.out.trans HW2.out⟩
end Go.Proofs.Ytikkeefhhhfmmaa
