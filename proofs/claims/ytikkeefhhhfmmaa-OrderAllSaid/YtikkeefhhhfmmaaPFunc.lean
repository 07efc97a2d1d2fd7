/- phys.Func and phys.Right: their walks. Conditions: none. -/
import Derived.Test.YtikkeefhhhfmmaaPfn
import Derived.Deep.QuietTactic
import Derived.BigQuiet
set_option linter.unusedVariables false
set_option linter.unusedSimpArgs false
namespace Go.Proofs.Ytikkeefhhhfmmaa
open Go.RowKit Go.Instr

def sizeTo (L : List PBlk) (i : Nat) : Nat := L.length + ((L.take i).map fun b => b.ins.length).sum
theorem sizeTo_zero (L : List PBlk) : sizeTo L 0 = L.length := by simp [sizeTo]
theorem sizeTo_all (L : List PBlk) : sizeTo L L.length = size L := by simp [sizeTo, size]
theorem sizeTo_succ {L : List PBlk} {i : Nat} {x : PBlk} (h : L[i]? = some x) : sizeTo L (i + 1) = sizeTo L i + x.ins.length := by
  obtain ⟨hi, rfl⟩ := List.getElem?_eq_some_iff.1 h
  unfold sizeTo
  rw [List.take_succ_eq_append_getElem hi, List.map_append, List.sum_append]
  simp only [List.map_cons, List.map_nil, List.sum_cons, List.sum_nil]
  omega
theorem sizeTo_le {L : List PBlk} (h : ∀ x ∈ L, x.ins.length ≤ 100000) (i : Nat) (hL : L.length ≤ 100000) (hi : i ≤ L.length) : sizeTo L i ≤ L.length + i * 100000 := by
  induction i with
  | zero => simp [sizeTo]
  | succ i ih =>
    rw [sizeTo_succ (List.getElem?_eq_getElem (by omega : i < L.length))]
    have := ih (by omega)
    have := h _ (List.getElem_mem (by omega : i < L.length))
    omega
theorem badIns_step {k s : Int} {L : List Placed} {i : Nat} {x : Placed} (h : L[i]? = some x) (h0 : insB x.m k s = 0) : badIns k s (L.drop i) i = badIns k s (L.drop (i + 1)) (i + 1) := by
  obtain ⟨hi, rfl⟩ := List.getElem?_eq_some_iff.1 h
  rw [List.drop_eq_getElem_cons hi]
  simp [badIns, h0]
theorem badIns_here {k s : Int} {L : List Placed} {i : Nat} {x : Placed} (h : L[i]? = some x) (h0 : insB x.m k s ≠ 0) : badIns k s (L.drop i) i = (insB x.m k s, i) := by
  obtain ⟨hi, rfl⟩ := List.getElem?_eq_some_iff.1 h
  rw [List.drop_eq_getElem_cons hi]
  simp [badIns, h0]
theorem badBlks_step {k s nb : Int} {L : List PBlk} {i : Nat} {x : PBlk} (h : L[i]? = some x) (h0 : (badBlk k s nb x).1 = 0) : badBlks k s nb (L.drop i) i = badBlks k s nb (L.drop (i + 1)) (i + 1) := by
  obtain ⟨hi, rfl⟩ := List.getElem?_eq_some_iff.1 h
  rw [List.drop_eq_getElem_cons hi]
  simp [badBlks, h0]
theorem badBlks_here {k s nb : Int} {L : List PBlk} {i : Nat} {x : PBlk} (h : L[i]? = some x) (h0 : (badBlk k s nb x).1 ≠ 0) : badBlks k s nb (L.drop i) i = ((badBlk k s nb x).1, i, (badBlk k s nb x).2) := by
  obtain ⟨hi, rfl⟩ := List.getElem?_eq_some_iff.1 h
  rw [List.drop_eq_getElem_cons hi]
  simp [badBlks, h0]
theorem at6_new (w : World) (p : PBlk) : At6 (w.alloc (.cells #[p.iv, .int .i64 p.e.op, .int .i64 p.e.a, .int .i64 p.e.b, p.e.tv, .int .i32 p.e.imm] 57)) w.heap.size 0 p := by
  have h : ∀ i, (w.alloc (.cells #[p.iv, .int .i64 p.e.op, .int .i64 p.e.a, .int .i64 p.e.b, p.e.tv, .int .i32 p.e.imm] 57)).cell? ⟨w.heap.size, i, none⟩ = p.cells[i]? := fun i => (World.cell?_alloc_new _ _ _ _).trans (by simp [PBlk.cells])
  exact ⟨h 0, h 1, h 2, h 3, h 4, h 5⟩
theorem at9_new (w : World) (p : Placed) : At9 (w.alloc (.cells #[.int .i64 p.m.op, .int .i64 p.m.d, .int .i64 p.m.e, .int .i64 p.m.a, .int .i64 p.m.b, .int .i64 p.m.c, .int .i32 p.m.imm, p.m.av, .int .i64 p.frm] 49)) w.heap.size 0 p := by
  have h : ∀ i, (w.alloc (.cells #[.int .i64 p.m.op, .int .i64 p.m.d, .int .i64 p.m.e, .int .i64 p.m.a, .int .i64 p.m.b, .int .i64 p.m.c, .int .i32 p.m.imm, p.m.av, .int .i64 p.frm] 49)).cell? ⟨w.heap.size, i, none⟩ = p.cells[i]? := fun i => (World.cell?_alloc_new _ _ _ _).trans (by simp [Placed.cells])
  exact ⟨h 0, h 1, h 2, h 3, h 4, h 5, h 6, h 7, h 8⟩

set_option maxRecDepth 100000 in
set_option maxHeartbeats 4000000 in
theorem func_spec (p : PFn) (w : World) (h : p.okw w) : Calls Try.prog 30 #[p.val] w fun e w' => e = .returned (.tuple #[.int .i64 (funcB p).1, .int .i64 (funcB p).2.1, .int .i64 (funcB p).2.2]) ∧ Ex w w' := by
  obtain ⟨params, k, slots, L, bv⟩ := p
  obtain ⟨hB, hfew⟩ := h
  simp only at hB hfew
  obtain ⟨A, c, hav, l1, l2, hc⟩ := hB.open
  subst hav
  have HB := Lib.hid hB
  have HC := Lib.hid hc
  clear hB hc
  have HSZ := Lib.hid (fun i hi => sizeTo_le (fun x hx => (HB.out.2 x hx).few) i hfew hi)
  obtain ⟨W, hW⟩ : ∃ W, W = w.alloc (.cells #[.int .i64 params, .int .i64 k, .int .i64 slots, .slice A L.length c] 35) := ⟨_, rfl⟩
  have hex : Ex w W := by rw [hW]; exact (Ex.refl w).alloc _
  have hp : ∀ i u, [Value.int .i64 params, .int .i64 k, .int .i64 slots, .slice A L.length c][i]? = some u → W.cell? ⟨w.heap.size, i, none⟩ = some u := by
    intro i u hu
    rw [hW]
    exact (World.cell?_alloc_new _ _ _ _).trans (by simpa using hu)
  have HP := Lib.hid hp
  have HX := Lib.hid hex
  have HW := Lib.hid hW
  clear hp hex hW
  go_enter Try.func30, Try.ntmps30
  go_wp2
  rw [← HW.out]
  go_loopw [5, 20] (fun n x wr => ∃ i S : Nat, i ≤ L.length ∧ x = .int .i64 i ∧ n = .int .i64 S ∧ Hid (S = sizeTo L i) ∧ Ex W wr) (fun _ x _ => L.length - (intOf x).toNat)
  case atStart => exact ⟨0, L.length, Nat.zero_le _, rfl, rfl, (sizeTo_zero L).symm, Ex.refl _⟩
  case round =>
    obtain ⟨i, S, hi, rfl, rfl, hS, hx⟩ := hrel
    have HS := Lib.hid hS.out
    have HX1 := Lib.hid hx
    clear hS hx
    by_cases hlt : i < L.length
    · obtain ⟨b', off, rfl, _, hc⟩ := HC.out (by omega)
      obtain ⟨⟨ins, iv, ⟨op, a, b, tos, tv, imm⟩⟩, hx⟩ : ∃ x, L[i]? = some x := ⟨_, List.getElem?_eq_getElem hlt⟩
      have hok := HB.out.2 _ (List.mem_of_getElem? hx)
      obtain ⟨A1, c1, hiv⟩ := hok.ins.shape
      obtain ⟨A2, c2, htv⟩ := Nums.shape hok.tos
      simp only at hiv htv
      subst hiv htv
      obtain ⟨a0, a1, a2, a3, a4, a5⟩ := ((hc i _ hx).ex HX.out).ex HX1.out
      have h1 : S ≤ 100000 + 100000 * 100000 := by
        have := HSZ.out i hi
        have e := HS.out
        rw [← e] at this
        have : i * 100000 ≤ 100000 * 100000 := Nat.mul_le_mul_right _ (by omega)
        omega
      have h2 := hok.few
      simp only at h2
      have HN := Lib.hid (sizeTo_succ hx)
      clear hc hx hok
      go_wp2
      go_roundw
      case rel => exact ⟨i + 1, S + ins.length, by omega, by go_num, by go_num, by show _ = _; rw [HN.out, HS.out], HX1.out.alloc _⟩
      case measure => simp [intOf]; omega
    · have he : i = L.length := by omega
      have hs := HS.out
      rw [he, sizeTo_all] at hs
      have HS2 := Lib.hid hs
      have HX2 := Lib.hid HX1.out
      obtain ⟨W1, hW1⟩ : ∃ W1, W1 = wr := ⟨_, rfl⟩
      subst hW1
      have HPc := Lib.hid (fun i u hu => HX2.out.cell (HP.out i u hu))
      have p0 := HPc.out 0 _ rfl
      have p1 := HPc.out 1 _ rfl
      have p2 := HPc.out 2 _ rfl
      have p3 := HPc.out 3 _ rfl
      clear hs he HX1 HS
      cases e1 : withinB params 0 4 with
      | false =>
        have HI : Hid (funcB ⟨params, k, slots, L, .slice A L.length c⟩ = (1, 0, 0)) := by show funcB _ = _; simp [funcB, headB, e1]
        have E1 := Lib.hid e1
        clear e1
        go_wp2_with (go_at_call 64; with_reducible refine (within_spec _ _ _ _).mono ?_; rw [E1.out]; rintro e w' ⟨rfl, rfl⟩)
        go_ret3
        exact ⟨by rw [HI.out]; rfl, HX.out.trans HX2.out⟩
      | true =>
        cases e2 : withinB k 4 16 with
        | false =>
          have HI : Hid (funcB ⟨params, k, slots, L, .slice A L.length c⟩ = (1, 0, 0)) := by show funcB _ = _; simp [funcB, headB, e2]
          have E1 := Lib.hid e1
          have E2 := Lib.hid e2
          clear e1 e2
          go_wp2_with (go_at_call 64; with_reducible refine (within_spec _ _ _ _).mono ?_; (first | rw [E1.out] | rw [E2.out]); rintro e w' ⟨rfl, rfl⟩)
          go_ret3
          exact ⟨by rw [HI.out]; rfl, HX.out.trans HX2.out⟩
        | true =>
          cases e3 : withinB slots 0 16384 with
          | false =>
            have HI : Hid (funcB ⟨params, k, slots, L, .slice A L.length c⟩ = (1, 0, 0)) := by show funcB _ = _; simp [funcB, headB, e3]
            have E1 := Lib.hid e1
            have E2 := Lib.hid e2
            have E3 := Lib.hid e3
            clear e1 e2 e3
            go_wp2_with (go_at_call 64; with_reducible refine (within_spec _ _ _ _).mono ?_; (first | rw [E1.out] | rw [E2.out] | rw [E3.out]); rintro e w' ⟨rfl, rfl⟩)
            go_ret3
            exact ⟨by rw [HI.out]; rfl, HX.out.trans HX2.out⟩
          | true =>
            have hf : funcB ⟨params, k, slots, L, .slice A L.length c⟩ = if L.length = 0 then (14, 0, 0) else if 512 < L.length ∨ 65536 < S then (2, 0, 0) else badBlks k slots L.length L 0 := by
              rw [HS2.out]
              simp [funcB, headB, e1, e2, e3]
            have HF := Lib.hid hf
            have E1 := Lib.hid e1
            have E2 := Lib.hid e2
            have E3 := Lib.hid e3
            clear e1 e2 e3 hf
            by_cases z : L.length = 0
            · have HI : Hid (funcB ⟨params, k, slots, L, .slice A L.length c⟩ = (14, 0, 0)) := by show funcB _ = _; rw [HF.out, if_pos z]
              have zb : ((L.length : Int) == 0) = true := by simp [z]
              clear z
              go_wp2_with (go_at_call 64; with_reducible refine (within_spec _ _ _ _).mono ?_; (first | rw [E1.out] | rw [E2.out] | rw [E3.out]); rintro e w' ⟨rfl, rfl⟩)
              go_ret3
              exact ⟨by rw [HI.out]; rfl, HX.out.trans HX2.out⟩
            · have zb : ((L.length : Int) == 0) = false := by simpa using z
              by_cases m1 : 512 < L.length
              · have HI : Hid (funcB ⟨params, k, slots, L, .slice A L.length c⟩ = (2, 0, 0)) := by show funcB _ = _; rw [HF.out, if_neg z, if_pos (.inl m1)]
                clear z
                go_wp2_with (go_at_call 64; with_reducible refine (within_spec _ _ _ _).mono ?_; (first | rw [E1.out] | rw [E2.out] | rw [E3.out]); rintro e w' ⟨rfl, rfl⟩)
                go_ret3
                exact ⟨by rw [HI.out]; rfl, HX.out.trans HX2.out⟩
              · by_cases m2 : 65536 < S
                · have HI : Hid (funcB ⟨params, k, slots, L, .slice A L.length c⟩ = (2, 0, 0)) := by show funcB _ = _; rw [HF.out, if_neg z, if_pos (.inr m2)]
                  clear z
                  go_wp2_with (go_at_call 64; with_reducible refine (within_spec _ _ _ _).mono ?_; (first | rw [E1.out] | rw [E2.out] | rw [E3.out]); rintro e w' ⟨rfl, rfl⟩)
                  go_ret3
                  exact ⟨by rw [HI.out]; rfl, HX.out.trans HX2.out⟩
                · have HI : Hid (funcB ⟨params, k, slots, L, .slice A L.length c⟩ = badBlks k slots L.length L 0) := by show funcB _ = _; rw [HF.out, if_neg z, if_neg (by omega)]
                  clear z
                  go_wp2_with (go_at_call 64; with_reducible refine (within_spec _ _ _ _).mono ?_; (first | rw [E1.out] | rw [E2.out] | rw [E3.out]); rintro e w' ⟨rfl, rfl⟩)
                  clear p0 p1 p2 p3
                  go_loopw [64] (fun x wr => ∃ b : Nat, b ≤ L.length ∧ x = .int .i64 b ∧ Hid (badBlks k slots L.length L 0 = badBlks k slots L.length (L.drop b) b) ∧ Ex W1 wr) (fun x _ => L.length - (intOf x).toNat)
                  case atStart => exact ⟨0, Nat.zero_le _, rfl, rfl, Ex.refl _⟩
                  case round =>
                    obtain ⟨b, hb, rfl, hu, hx⟩ := hrel
                    have HU := Lib.hid hu.out
                    have HX3 := Lib.hid hx
                    clear hu hx
                    have p1 := HX3.out.cell (HPc.out 1 _ rfl)
                    have p2 := HX3.out.cell (HPc.out 2 _ rfl)
                    have p3 := HX3.out.cell (HPc.out 3 _ rfl)
                    by_cases hlt : b < L.length
                    · obtain ⟨b', off, rfl, _, hc⟩ := HC.out (by omega)
                      obtain ⟨⟨ins, iv, ⟨op, ea, eb, tos, tv, imm⟩⟩, hx⟩ : ∃ x, L[b]? = some x := ⟨_, List.getElem?_eq_getElem hlt⟩
                      have hok := HB.out.2 _ (List.mem_of_getElem? hx)
                      obtain ⟨A1, c1, hiv⟩ := hok.ins.shape
                      obtain ⟨A2, c2, htv⟩ := Nums.shape hok.tos
                      simp only at hiv htv
                      subst hiv htv
                      obtain ⟨a0, a1, a2, a3, a4, a5⟩ := ((hc b _ hx).ex (HX.out.trans HX2.out)).ex HX3.out
                      have HXB := Lib.hid hx
                      have HOK := Lib.hid hok
                      clear hc hx hok
                      go_wp2
                      obtain ⟨wo, hwo⟩ : ∃ wo : World, wo = wr := ⟨_, rfl⟩
                      subst hwo
                      obtain ⟨W2, hW2⟩ : ∃ W2, W2 = wo.alloc (.cells #[.slice A1 ins.length c1, .int .i64 op, .int .i64 ea, .int .i64 eb, .slice A2 tos.length c2, .int .i32 imm] 57) := ⟨_, rfl⟩
                      have hE2 : Ex wo W2 := by rw [hW2]; exact (Ex.refl _).alloc _
                      have hcl : At6 W2 wo.heap.size 0 ⟨ins, .slice A1 ins.length c1, ⟨op, ea, eb, tos, .slice A2 tos.length c2, imm⟩⟩ := by rw [hW2]; exact at6_new wo ⟨ins, .slice A1 ins.length c1, ⟨op, ea, eb, tos, .slice A2 tos.length c2, imm⟩⟩
                      have HW2 := Lib.hid hW2
                      have HE2 := Lib.hid hE2
                      have HCL := Lib.hid hcl
                      have HE1 := Lib.hid (HX2.out.trans (HX3.out.trans hE2))
                      have HP2 := Lib.hid (fun i u hu => (HX3.out.trans hE2).cell (HPc.out i u hu))
                      have hI := (HOK.out.ins.ex (HX.out.trans HE1.out)).open
                      clear hW2 hE2 hcl a0 a1 a2 a3 a4 a5 p1 p2 p3
                      rw [← HW2.out]
                      obtain ⟨A3, c3, e3, l3, l4, hci⟩ := hI
                      simp only [Value.slice.injEq] at e3
                      obtain ⟨rfl, _, rfl⟩ := e3
                      have HCI : Hid (0 < ins.length → ∃ b off, A1 = some ⟨b, off, none⟩ ∧ any b ∧ ∀ i m, ins[i]? = some m → At9 W2 b (off + i * 9) m) := hci
                      clear hci
                      go_loopw [72] (fun x wr2 => ∃ i : Nat, i ≤ ins.length ∧ x = .int .i64 i ∧ Hid (badIns k slots ins 0 = badIns k slots (ins.drop i) i) ∧ Ex W2 wr2) (fun x _ => ins.length - (intOf x).toNat)
                      case atStart => exact ⟨0, Nat.zero_le _, rfl, rfl, Ex.refl _⟩
                      case round =>
                        obtain ⟨i, hi, rfl, hv, hy⟩ := hrel
                        have HV := Lib.hid hv.out
                        have HY := Lib.hid hy
                        clear hv hy
                        have p1 := HY.out.cell (HP2.out 1 _ rfl)
                        have p2 := HY.out.cell (HP2.out 2 _ rfl)
                        have p3 := HY.out.cell (HP2.out 3 _ rfl)
                        obtain ⟨b0, b1, b2, b3, b4, b5⟩ := HCL.out.ex HY.out
                        simp only [Nat.zero_add] at b0 b1 b2 b3 b4 b5
                        have q0 := World.block_lt_of_cell? wr _ p1
                        have q1 := World.block_lt_of_cell? wr _ b0
                        by_cases hlt2 : i < ins.length
                        · obtain ⟨bi, oi, rfl, _, hci⟩ := HCI.out (by omega)
                          obtain ⟨⟨⟨mop, md, me, ma, mb, mc, mi, ms, mv⟩, frm⟩, hm⟩ : ∃ x, ins[i]? = some x := ⟨_, List.getElem?_eq_getElem hlt2⟩
                          have hmok := HOK.out.ins.2 _ (List.mem_of_getElem? hm)
                          obtain ⟨A4, c4, hmv⟩ := Nums.shape hmok.1
                          simp only at hmv
                          subst hmv
                          obtain ⟨d0, d1, d2, d3, d4, d5, d6, d7, d8⟩ := (hci i _ hm).ex HY.out
                          have HM : Hid (∀ w', Ex wr w' → Calls Try.prog 37 #[Mach.val ⟨mop, md, me, ma, mb, mc, mi, ms, .slice A4 ms.length c4⟩, .int .i64 k, .int .i64 slots] w' fun e w'' => e = .returned (.int .i64 (insB ⟨mop, md, me, ma, mb, mc, mi, ms, .slice A4 ms.length c4⟩ k slots)) ∧ Ex w' w'') :=
                            fun w' hw => ins_spec _ k slots w' (hmok.1.ex (HX.out.trans (HE1.out.trans (HY.out.trans hw)))) hmok.2
                          have S1 := Lib.hid (badIns_step (k := k) (s := slots) hm)
                          have S2 := Lib.hid (badIns_here (k := k) (s := slots) hm)
                          simp only at S1 S2
                          clear hm hmok hci
                          generalize insB ⟨mop, md, me, ma, mb, mc, mi, ms, .slice A4 ms.length c4⟩ k slots = r at *
                          by_cases hr : r = 0
                          · have hr2 : (r != 0) = false := by simp [hr]
                            have HR := Lib.hid hr
                            clear hr
                            go_wp2_with (go_at_call 37; with_reducible refine (HM.out _ (by go_grown)).mono ?_; rintro e w' ⟨rfl, hw⟩; have HWW := Lib.hid hw; clear hw)
                            go_roundw
                            case rel => exact ⟨i + 1, by omega, by go_num, by show _ = _; rw [HV.out, S1.out HR.out], HY.out.trans (((Ex.refl _).alloc _).trans HWW.out)⟩
                            case measure => simp [intOf]; omega
                          · have hr2 : (r != 0) = true := by simp [hr]
                            have HR := Lib.hid hr
                            clear hr
                            go_wp2_with (go_at_call 37; with_reducible refine (HM.out _ (by go_grown)).mono ?_; rintro e w' ⟨rfl, hw⟩; have HWW := Lib.hid hw; clear hw)
                            go_ret3
                            have hb2 := S2.out HR.out
                            have hbk : badBlk k slots L.length ⟨ins, .slice (some ⟨bi, oi, none⟩) ins.length c1, ⟨op, ea, eb, tos, .slice A2 tos.length c2, imm⟩⟩ = (r, i) := by
                              unfold badBlk
                              simp only
                              rw [HV.out, hb2]
                              simp only
                              rw [if_neg HR.out]
                            have hbb := badBlks_here (k := k) (s := slots) (nb := L.length) HXB.out (by rw [hbk]; exact HR.out)
                            rw [hbk] at hbb
                            refine ⟨?_, HX.out.trans (HE1.out.trans (HY.out.trans (((Ex.refl _).alloc _).trans HWW.out)))⟩
                            rw [HI.out, HU.out, hbb]
                            rfl
                        · have hie : i = ins.length := by omega
                          have hv0 : badIns k slots ins 0 = (0, ins.length) := by
                            rw [HV.out, hie, List.drop_length]; rfl
                          have hbk : badBlk k slots L.length ⟨ins, .slice A1 ins.length c1, ⟨op, ea, eb, tos, .slice A2 tos.length c2, imm⟩⟩ = (endB ⟨op, ea, eb, tos, .slice A2 tos.length c2, imm⟩ k L.length, ins.length) := by
                            unfold badBlk
                            simp only
                            rw [hv0]
                            simp
                          have S1 := fun h0 => badBlks_step (k := k) (s := slots) (nb := L.length) HXB.out h0
                          have S2 := fun h0 => badBlks_here (k := k) (s := slots) (nb := L.length) HXB.out h0
                          rw [hbk] at S1 S2
                          have HS1 := Lib.hid S1
                          have HS2' := Lib.hid S2
                          clear hie hv0 hbk S1 S2 HV
                          have hT : (EndI.mk op ea eb tos (.slice A2 tos.length c2) imm).ok any wr := HOK.out.tos.ex (HX.out.trans (HE1.out.trans HY.out))
                          have HM : Hid (∀ w', Ex wr w' → Calls Try.prog 62 #[EndI.val ⟨op, ea, eb, tos, .slice A2 tos.length c2, imm⟩, .int .i64 k, .int .i64 L.length] w' fun e w'' => e = .returned (.int .i64 (endB ⟨op, ea, eb, tos, .slice A2 tos.length c2, imm⟩ k L.length)) ∧ Ex w' w'') :=
                            fun w' hw => end_spec _ k L.length w' (hT.ex hw)
                          clear hT
                          generalize endB ⟨op, ea, eb, tos, .slice A2 tos.length c2, imm⟩ k L.length = r at *
                          by_cases hr : r = 0
                          · have hr2 : (r != 0) = false := by simp [hr]
                            have HR := Lib.hid hr
                            clear hr
                            go_wp2_with (go_at_call 62; with_reducible refine (HM.out _ (Ex.refl _)).mono ?_; rintro e w' ⟨rfl, hw⟩; have HWW := Lib.hid hw; clear hw)
                            go_roundw
                            case rel => exact ⟨b + 1, by omega, by go_num, by show _ = _; rw [HU.out, HS1.out HR.out], HX3.out.trans ((by rw [HW2.out]; exact (Ex.refl _).alloc _ : Ex wo W2).trans (HY.out.trans HWW.out))⟩
                            case measure => simp [intOf]; omega
                          · have hr2 : (r != 0) = true := by simp [hr]
                            have HR := Lib.hid hr
                            clear hr
                            go_wp2_with (go_at_call 62; with_reducible refine (HM.out _ (Ex.refl _)).mono ?_; rintro e w' ⟨rfl, hw⟩; have b0 := hw.cell b0; have HWW := Lib.hid hw; clear hw)
                            go_quiet (fail)
                            go_wp2
                            go_ret3
                            refine ⟨?_, HX.out.trans (HE1.out.trans (HY.out.trans (HWW.out.drewN _)))⟩
                            rw [HI.out, HU.out, HS2'.out HR.out]
                            rfl
                    · have he : b = L.length := by omega
                      have hn := HU.out
                      rw [he, List.drop_length] at hn
                      have HN := Lib.hid hn
                      clear hn he
                      go_wp2
                      go_ret3
                      exact ⟨by rw [HI.out, HN.out]; rfl, HX.out.trans (HX2.out.trans HX3.out)⟩
end Go.Proofs.Ytikkeefhhhfmmaa
