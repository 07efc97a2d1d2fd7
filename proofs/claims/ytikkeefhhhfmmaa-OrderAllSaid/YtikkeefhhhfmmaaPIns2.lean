/- phys.Ins: its walk. Conditions: none. -/
import Derived.Test.YtikkeefhhhfmmaaPIns
import Derived.Test.YtikkeefhhhfmmaaRefOrders
set_option linter.unusedVariables false
set_option linter.unusedSimpArgs false
namespace Go.Proofs.Ytikkeefhhhfmmaa
open Go.RowKit Go.Instr

def slotB (m : Mach) : Bool := m.op == 30 || m.op == 31
def regsL (m : Mach) : List Int := if slotB m then fieldsOf (kt m.op) m ++ fieldsOf (km m.op) m else takesL m ++ makesL m
def outB (k : Int) (r : Int) : Bool := decide (r < 0) || decide (k ≤ r)
def insB (m : Mach) (k s : Int) : Int :=
  if shapeB m = false then 30 else if (regsL m).any (outB k) then 31
  else if slotB m && (decide (m.imm < 0) || decide (s ≤ m.imm)) then 43 else if immB m = false then 32 else 0

theorem fields_len {m : Mach} (h : m.args.length ≤ 1000) (n : Nat) : (fieldsOf n m).length ≤ 1000 := by
  unfold fieldsOf
  split <;> first | (simp; done) | omega
theorem out_take {xs : List Int} {k : Int} {j : Nat} (hj : j < xs.length) (h1 : (xs.take j).any (outB k) = false) (h2 : outB k xs[j] = false) : (xs.take (j + 1)).any (outB k) = false := by
  rw [List.take_succ_eq_append_getElem hj, List.any_append, h1]
  simp [h2]
theorem out_some {xs : List Int} {k : Int} {j : Nat} (hj : j < xs.length) (h2 : outB k xs[j] = true) : xs.any (outB k) = true :=
  List.any_eq_true.2 ⟨_, List.getElem_mem hj, h2⟩

set_option maxRecDepth 100000 in
set_option maxHeartbeats 1000000 in
theorem ins_spec (m : Mach) (k s : Int) (w : World) (h : m.ok any w) (hf : m.fine) : Calls Try.prog 37 #[m.val, .int .i64 k, .int .i64 s] w fun e w' => e = .returned (.int .i64 (insB m k s)) ∧ Ex w w' := by
  have H := Lib.hid h
  have HF := Lib.hid hf
  clear h hf
  obtain ⟨W, hW, hex, hsz, c0, c1, c2, c3, c4, c5, c6, c7⟩ := mach_box w m
  have HX := Lib.hid hex
  have HW := Lib.hid hW
  clear hex hW
  cases hs : shapeB m with
  | false =>
    have hi : insB m k s = 30 := by simp [insB, hs]
    have HI := Lib.hid hi
    clear hi
    go_enter Try.func37, Try.ntmps37
    go_wp2_with fail
    rw [← HW.out]
    with_reducible refine (shape_spec m _ (H.out.ex HX.out)).mono ?_
    rw [hs]
    rintro e w1 ⟨rfl, hw1⟩
    have E1 := Lib.hid (HX.out.trans hw1)
    clear hw1
    go_wp2
    go_ret
    exact ⟨by rw [HI.out]; rfl, E1.out⟩
  | true =>
    have HS := Lib.hid hs
    clear hs
    go_enter Try.func37, Try.ntmps37
    go_wp2_with fail
    rw [← HW.out]
    with_reducible refine (shape_spec m _ (H.out.ex HX.out)).mono ?_
    rw [HS.out]
    rintro e w1 ⟨rfl, hw1⟩
    have E1 := Lib.hid hw1
    have BX : Hid (boxed W w.heap.size m) := ⟨hsz, c0, c1, c2, c3, c4, c5, c6, c7⟩
    clear hw1 hsz c0 c1 c2 c3 c4 c5 c6 c7
    obtain ⟨hs0, c0, c1, c2, c3, c4, c5, c6, c7⟩ := BX.out.ex E1.out
    have hop : m.op = 30 ∨ m.op = 31 ∨ (¬ m.op = 30 ∧ ¬ m.op = 31) := by omega
    have hT : Hid (m.ok any w1) := H.out.ex (HX.out.trans E1.out)
    rcases hop with hop | hop | ⟨hop, hop2⟩
    case inr.inr =>
      have b1 : (m.op == 30) = false := by simp [hop]
      have b2 : (m.op == 31) = false := by simp [hop2]
      have hR : regsL m = takesL m ++ makesL m := by simp [regsL, slotB, b1, b2]
      have hSl : slotB m = false := by simp [slotB, b1, b2]
      have HR := Lib.hid hR
      have HSL := Lib.hid hSl
      have hw : (slotB m && (decide (m.imm < 0) || decide (s ≤ m.imm))) = false := by simp [hSl]
      have HWW := Lib.hid hw
      have hI : insB m k s = if (regsL m).any (outB k) then 31 else if immB m = false then 32 else 0 := by
        unfold insB; rw [HS.out, hw]; simp
      have HI := Lib.hid hI
      clear hR hSl hw hI
      obtain ⟨W1, hW1⟩ : ∃ W1, W1 = w1 := ⟨_, rfl⟩
      subst hW1
      go_wp2
      go_region_held3 (fun w' => Cls W1 w') (first | exact (Cls.refl _).drew | exact Cls.step (by assumption) (by assumption) | exact Cls.alloc (by assumption) _) (first
        | (go_at_call 42; with_reducible refine (takes_spec m _ (hT.out.ex (And.right (by assumption : Cls W1 _))) HF.out.1).mono ?_; rintro e w2 ⟨v1, rfl, hv1, hb1⟩; obtain ⟨A1, k1, rfl⟩ := hv1.shape; have HV1 := Lib.hid hv1; clear hv1)
        | (go_at_call 39; with_reducible refine (makes_spec m _ (hT.out.ex (And.right (by assumption : Cls W1 _))) HF.out.1).mono ?_; rintro e w3 ⟨v2, rfl, hv2, hb2⟩; obtain ⟨A2, k2, rfl⟩ := hv2.shape; have HV2 := Lib.hid hv2; clear hv2)
        | (go_at_call 76; refine (concat_spec _ (.slice A1 (takesL m).length k1) (.slice A2 (makesL m).length k2) (takesL m) (makesL m) _ ?_ ?_ ?_ ?_ ?_).mono ?_; exact (World.cell?_alloc_new _ _ _ _).trans rfl; exact (World.cell?_alloc_new _ _ _ _).trans rfl; exact ((HV1.out.anyOf.ex hb2).ex ((Ex.refl _).alloc _)); exact (HV2.out.anyOf.ex ((Ex.refl _).alloc _)); (have := makesL_len m; have := HV1.out.len; have := takes_thousand HF.out.2; omega); rintro e w4 ⟨v3, rfl, hv3, hb3⟩; have HV3 := Lib.hid hv3; clear hv3))
      rename_i hS
      have E4 := Lib.hid (E1.out.trans hS.2)
      have E5 := Lib.hid hS.2
      have hv := HV3.out.anyOf
      rw [← HR.out] at hv
      clear hS hb1 hb2 hb3 HV1 HV2 HV3 HR
      generalize regsL m = R at *
      obtain ⟨A3, c3', rfl, l1, l2, hc⟩ := hv.open
      have HC := Lib.hid hc
      clear hc hv hs0 c0 c1 c2 c3 c4 c5 c6 c7
      obtain ⟨hs0, c0, c1, c2, c3, c4, c5, c6, c7⟩ := BX.out.ex E4.out
      go_wp2
      go_loopw [10, 37] (fun _ x wr => ∃ j : Nat, j ≤ R.length ∧ x = .int .i64 j ∧ Hid ((R.take j).any (outB k) = false) ∧ Ex w4 wr) (fun _ x _ => R.length - (intOf x).toNat)
      case atStart => exact ⟨0, Nat.zero_le _, rfl, by simp [Hid], Ex.refl _⟩
      case round =>
        obtain ⟨j, hj, rfl, hu, hx⟩ := hrel
        have HU := Lib.hid hu.out
        have HX4 := Lib.hid hx
        clear hu hx c0 c1 c2 c3 c4 c5 c6 c7 hs0
        by_cases hlt : j < R.length
        · obtain ⟨b', off, rfl, hc⟩ := HC.out (by omega)
          have ck := HX4.out.cell (hc j hlt)
          have h1 := out_take (k := k) hlt HU.out
          have h2 := out_some (k := k) hlt
          have H1 := Lib.hid h1
          have H2 := Lib.hid h2
          clear h1 h2 hc
          generalize R[j] = r at *
          by_cases hr : r < 0
          · have HO : Hid (R.any (outB k) = true) := H2.out (by simp [outB, hr])
            clear H1 H2
            go_wp2
            go_ret
            exact ⟨by rw [HI.out, HO.out]; rfl, HX.out.trans (E4.out.trans HX4.out)⟩
          · by_cases hr2 : k ≤ r
            · have HO : Hid (R.any (outB k) = true) := H2.out (by simp [outB, hr2])
              clear H1 H2
              go_wp2
              go_ret
              exact ⟨by rw [HI.out, HO.out]; rfl, HX.out.trans (E4.out.trans HX4.out)⟩
            · have HO : Hid ((R.take (j + 1)).any (outB k) = false) := H1.out (by simp [outB]; omega)
              clear H1 H2
              go_wp2
              go_roundw
              case rel => exact ⟨j + 1, by omega, by go_num, HO.out, HX4.out⟩
              case measure => simp [intOf]; omega
        · have he : j = R.length := by omega
          have hn := HU.out
          rw [he, List.take_length] at hn
          have HN := Lib.hid hn
          clear hn
          obtain ⟨hs0, c0, c1, c2, c3, c4, c5, c6, c7⟩ := BX.out.ex (E4.out.trans HX4.out)
          have himm := imm_spec m _ (hT.out.ex ((Ex.refl _).trans (E5.out.trans HX4.out))) HF.out.1
          cases him : immB m with
          | true =>
            rw [him] at himm
            have HIM := Lib.hid him
            clear him
            go_wp2_with fail
            with_reducible refine himm.mono ?_
            clear himm
            rintro e w6 ⟨rfl, hw6⟩
            have E6 := Lib.hid (HX.out.trans (E4.out.trans (HX4.out.trans hw6)))
            clear hw6
            go_wp2
            go_ret
            exact ⟨by rw [HI.out, HN.out, HIM.out]; rfl, E6.out⟩
          | false =>
            rw [him] at himm
            have HIM := Lib.hid him
            clear him
            go_wp2_with fail
            with_reducible refine himm.mono ?_
            clear himm
            rintro e w6 ⟨rfl, hw6⟩
            have E6 := Lib.hid (HX.out.trans (E4.out.trans (HX4.out.trans hw6)))
            clear hw6
            go_wp2
            go_ret
            exact ⟨by rw [HI.out, HN.out, HIM.out]; rfl, E6.out⟩
    case inl =>
      have b1 : (m.op == 30) = true := by simp [hop]
      have hR : regsL m = fieldsOf (kt m.op) m ++ fieldsOf (km m.op) m := by simp [regsL, slotB, hop]
      have hSl : slotB m = true := by simp [slotB, hop]
      have HR := Lib.hid hR
      have hI : insB m k s = if (regsL m).any (outB k) then 31 else if decide (m.imm < 0) || decide (s ≤ m.imm) then 43 else if immB m = false then 32 else 0 := by
        unfold insB; rw [HS.out, hSl]; simp
      have HI := Lib.hid hI
      have i1 := HF.out.1.1
      have i2 := HF.out.1.2
      have HOP := Lib.hid hop
      clear hR hSl hI hop
      obtain ⟨W1, hW1⟩ : ∃ W1, W1 = w1 := ⟨_, rfl⟩
      subst hW1
      go_wp2
      go_region_held3 (fun w' => Cls W1 w') (first | exact (Cls.refl _).drew | exact Cls.step (by assumption) (by assumption) | exact Cls.alloc (by assumption) _) (first
        | (go_at_call 42; with_reducible refine (takes_spec m _ (hT.out.ex (And.right (by assumption : Cls W1 _))) HF.out.1).mono ?_; rintro e w2 ⟨v1, rfl, hv1, hb1⟩; obtain ⟨A1, k1, rfl⟩ := hv1.shape; have HV1 := Lib.hid hv1; clear hv1)
        | (go_at_call 39; with_reducible refine (makes_spec m _ (hT.out.ex (And.right (by assumption : Cls W1 _))) HF.out.1).mono ?_; rintro e w3 ⟨v2, rfl, hv2, hb2⟩; obtain ⟨A2, k2, rfl⟩ := hv2.shape; have HV2 := Lib.hid hv2; clear hv2)
        | (go_at_call 76; refine (concat_spec _ (.slice A1 (takesL m).length k1) (.slice A2 (makesL m).length k2) (takesL m) (makesL m) _ ?_ ?_ ?_ ?_ ?_).mono ?_; exact (World.cell?_alloc_new _ _ _ _).trans rfl; exact (World.cell?_alloc_new _ _ _ _).trans rfl; exact ((HV1.out.anyOf.ex hb2).ex ((Ex.refl _).alloc _)); exact (HV2.out.anyOf.ex ((Ex.refl _).alloc _)); (have := makesL_len m; have := HV1.out.len; have := takes_thousand HF.out.2; omega); rintro e w4 ⟨v3, rfl, hv3, hb3⟩; have HV3 := Lib.hid hv3; clear hv3))
      rename_i hS
      have E5 := Lib.hid hS.2
      have hT5 : Hid (m.ok any w4) := hT.out.ex E5.out
      have E45 := Lib.hid (E1.out.trans E5.out)
      clear hS hb1 hb2 hb3 HV1 HV2 HV3 hs0 c0 c1 c2 c3 c4 c5 c6 c7
      obtain ⟨hs0, c0, c1, c2, c3, c4, c5, c6, c7⟩ := BX.out.ex E45.out
      go_wp2
      go_region_held3 (fun w' => Cls w4 w') (first | exact (Cls.refl _).drew | exact Cls.step (by assumption) (by assumption) | exact Cls.alloc (by assumption) _) (first
        | (go_at_call 77; with_reducible refine (machTakes_spec m _ (hT5.out.ex (And.right (by assumption : Cls w4 _)))).mono ?_; rintro e w12 ⟨v1, rfl, hv1, hb1⟩; obtain ⟨A1, k1, rfl⟩ := hv1.shape; have HV1 := Lib.hid hv1; clear hv1)
        | (go_at_call 78; with_reducible refine (machMakes_spec m _ (hT5.out.ex (And.right (by assumption : Cls w4 _)))).mono ?_; rintro e w13 ⟨v2, rfl, hv2, hb2⟩; obtain ⟨A2, k2, rfl⟩ := hv2.shape; have HV2 := Lib.hid hv2; clear hv2)
        | (go_at_call 76; refine (concat_spec _ (.slice A1 (fieldsOf (kt m.op) m).length k1) (.slice A2 (fieldsOf (km m.op) m).length k2) (fieldsOf (kt m.op) m) (fieldsOf (km m.op) m) _ ?_ ?_ ?_ ?_ ?_).mono ?_; exact (World.cell?_alloc_new _ _ _ _).trans rfl; exact (World.cell?_alloc_new _ _ _ _).trans rfl; exact ((HV1.out.anyOf.ex hb2).ex ((Ex.refl _).alloc _)); exact (HV2.out.anyOf.ex ((Ex.refl _).alloc _)); (have := fields_len HF.out.2 (kt m.op); have := fields_len HF.out.2 (km m.op); omega); rintro e w14 ⟨v5, rfl, hv3, hb3⟩; have HV3 := Lib.hid hv3; clear hv3))
      rename_i hS
      have E4 := Lib.hid (E45.out.trans hS.2)
      have hT6 : Hid (m.ok any w14) := hT5.out.ex hS.2
      have hv := HV3.out.anyOf
      rw [← HR.out] at hv
      clear hS hb1 hb2 hb3 HV1 HV2 HV3 HR hs0 c0 c1 c2 c3 c4 c5 c6 c7
      generalize regsL m = R at *
      obtain ⟨A3, c3', rfl, l1, l2, hc⟩ := hv.open
      have HC := Lib.hid hc
      clear hc hv
      obtain ⟨hs0, c0, c1, c2, c3, c4, c5, c6, c7⟩ := BX.out.ex E4.out
      go_wp2
      go_loopw [10, 37] (fun _ x wr => ∃ j : Nat, j ≤ R.length ∧ x = .int .i64 j ∧ Hid ((R.take j).any (outB k) = false) ∧ Ex w14 wr) (fun _ x _ => R.length - (intOf x).toNat)
      case atStart => exact ⟨0, Nat.zero_le _, rfl, by simp [Hid], Ex.refl _⟩
      case round =>
        obtain ⟨j, hj, rfl, hu, hx⟩ := hrel
        have HU := Lib.hid hu.out
        have HX4 := Lib.hid hx
        clear hu hx c0 c1 c2 c3 c4 c5 c6 c7 hs0
        by_cases hlt : j < R.length
        · obtain ⟨b', off, rfl, hc⟩ := HC.out (by omega)
          have ck := HX4.out.cell (hc j hlt)
          have h1 := out_take (k := k) hlt HU.out
          have h2 := out_some (k := k) hlt
          have H1 := Lib.hid h1
          have H2 := Lib.hid h2
          clear h1 h2 hc
          generalize R[j] = r at *
          by_cases hr : r < 0
          · have HO : Hid (R.any (outB k) = true) := H2.out (by simp [outB, hr])
            clear H1 H2
            go_wp2
            go_ret
            exact ⟨by rw [HI.out, HO.out]; rfl, HX.out.trans (E4.out.trans HX4.out)⟩
          · by_cases hr2 : k ≤ r
            · have HO : Hid (R.any (outB k) = true) := H2.out (by simp [outB, hr2])
              clear H1 H2
              go_wp2
              go_ret
              exact ⟨by rw [HI.out, HO.out]; rfl, HX.out.trans (E4.out.trans HX4.out)⟩
            · have HO : Hid ((R.take (j + 1)).any (outB k) = false) := H1.out (by simp [outB]; omega)
              clear H1 H2
              go_wp2
              go_roundw
              case rel => exact ⟨j + 1, by omega, by go_num, HO.out, HX4.out⟩
              case measure => simp [intOf]; omega
        · have he : j = R.length := by omega
          have hn := HU.out
          rw [he, List.take_length] at hn
          have HN := Lib.hid hn
          clear hn
          obtain ⟨hs0, c0, c1, c2, c3, c4, c5, c6, c7⟩ := BX.out.ex (E4.out.trans HX4.out)
          by_cases q1 : m.imm < 0
          · have HQ : Hid ((decide (m.imm < 0) || decide (s ≤ m.imm)) = true) := by show _ = _; simp [q1]
            go_wp2
            go_ret
            exact ⟨by rw [HI.out, HN.out, HQ.out]; rfl, HX.out.trans (E4.out.trans HX4.out)⟩
          · by_cases q2 : s ≤ m.imm
            · have HQ : Hid ((decide (m.imm < 0) || decide (s ≤ m.imm)) = true) := by show _ = _; simp [q2]
              go_wp2
              go_ret
              exact ⟨by rw [HI.out, HN.out, HQ.out]; rfl, HX.out.trans (E4.out.trans HX4.out)⟩
            · have HQ : Hid ((decide (m.imm < 0) || decide (s ≤ m.imm)) = false) := by show _ = _; simp [q1, q2]
              have himm := imm_spec m _ (hT6.out.ex HX4.out) HF.out.1
              have him : immB m = true := by have hop := HOP.out; simp [immB, hop]
              rw [him] at himm
              have HIM := Lib.hid him
              clear him
              go_wp2_with fail
              with_reducible refine himm.mono ?_
              clear himm
              rintro e w6 ⟨rfl, hw6⟩
              have E6 := Lib.hid (HX.out.trans (E4.out.trans (HX4.out.trans hw6)))
              clear hw6
              go_wp2
              go_ret
              exact ⟨by rw [HI.out, HN.out, HQ.out, HIM.out]; rfl, E6.out⟩
    case inr.inl =>
      have b0 : (m.op == 30) = false := by simp [hop]
      have b1 : (m.op == 31) = true := by simp [hop]
      have hR : regsL m = fieldsOf (kt m.op) m ++ fieldsOf (km m.op) m := by simp [regsL, slotB, hop]
      have hSl : slotB m = true := by simp [slotB, hop]
      have HR := Lib.hid hR
      have hI : insB m k s = if (regsL m).any (outB k) then 31 else if decide (m.imm < 0) || decide (s ≤ m.imm) then 43 else if immB m = false then 32 else 0 := by
        unfold insB; rw [HS.out, hSl]; simp
      have HI := Lib.hid hI
      have i1 := HF.out.1.1
      have i2 := HF.out.1.2
      have HOP := Lib.hid hop
      clear hR hSl hI hop
      obtain ⟨W1, hW1⟩ : ∃ W1, W1 = w1 := ⟨_, rfl⟩
      subst hW1
      go_wp2
      go_region_held3 (fun w' => Cls W1 w') (first | exact (Cls.refl _).drew | exact Cls.step (by assumption) (by assumption) | exact Cls.alloc (by assumption) _) (first
        | (go_at_call 42; with_reducible refine (takes_spec m _ (hT.out.ex (And.right (by assumption : Cls W1 _))) HF.out.1).mono ?_; rintro e w2 ⟨v1, rfl, hv1, hb1⟩; obtain ⟨A1, k1, rfl⟩ := hv1.shape; have HV1 := Lib.hid hv1; clear hv1)
        | (go_at_call 39; with_reducible refine (makes_spec m _ (hT.out.ex (And.right (by assumption : Cls W1 _))) HF.out.1).mono ?_; rintro e w3 ⟨v2, rfl, hv2, hb2⟩; obtain ⟨A2, k2, rfl⟩ := hv2.shape; have HV2 := Lib.hid hv2; clear hv2)
        | (go_at_call 76; refine (concat_spec _ (.slice A1 (takesL m).length k1) (.slice A2 (makesL m).length k2) (takesL m) (makesL m) _ ?_ ?_ ?_ ?_ ?_).mono ?_; exact (World.cell?_alloc_new _ _ _ _).trans rfl; exact (World.cell?_alloc_new _ _ _ _).trans rfl; exact ((HV1.out.anyOf.ex hb2).ex ((Ex.refl _).alloc _)); exact (HV2.out.anyOf.ex ((Ex.refl _).alloc _)); (have := makesL_len m; have := HV1.out.len; have := takes_thousand HF.out.2; omega); rintro e w4 ⟨v3, rfl, hv3, hb3⟩; have HV3 := Lib.hid hv3; clear hv3))
      rename_i hS
      have E5 := Lib.hid hS.2
      have hT5 : Hid (m.ok any w4) := hT.out.ex E5.out
      have E45 := Lib.hid (E1.out.trans E5.out)
      clear hS hb1 hb2 hb3 HV1 HV2 HV3 hs0 c0 c1 c2 c3 c4 c5 c6 c7
      obtain ⟨hs0, c0, c1, c2, c3, c4, c5, c6, c7⟩ := BX.out.ex E45.out
      go_wp2
      go_region_held3 (fun w' => Cls w4 w') (first | exact (Cls.refl _).drew | exact Cls.step (by assumption) (by assumption) | exact Cls.alloc (by assumption) _) (first
        | (go_at_call 77; with_reducible refine (machTakes_spec m _ (hT5.out.ex (And.right (by assumption : Cls w4 _)))).mono ?_; rintro e w12 ⟨v1, rfl, hv1, hb1⟩; obtain ⟨A1, k1, rfl⟩ := hv1.shape; have HV1 := Lib.hid hv1; clear hv1)
        | (go_at_call 78; with_reducible refine (machMakes_spec m _ (hT5.out.ex (And.right (by assumption : Cls w4 _)))).mono ?_; rintro e w13 ⟨v2, rfl, hv2, hb2⟩; obtain ⟨A2, k2, rfl⟩ := hv2.shape; have HV2 := Lib.hid hv2; clear hv2)
        | (go_at_call 76; refine (concat_spec _ (.slice A1 (fieldsOf (kt m.op) m).length k1) (.slice A2 (fieldsOf (km m.op) m).length k2) (fieldsOf (kt m.op) m) (fieldsOf (km m.op) m) _ ?_ ?_ ?_ ?_ ?_).mono ?_; exact (World.cell?_alloc_new _ _ _ _).trans rfl; exact (World.cell?_alloc_new _ _ _ _).trans rfl; exact ((HV1.out.anyOf.ex hb2).ex ((Ex.refl _).alloc _)); exact (HV2.out.anyOf.ex ((Ex.refl _).alloc _)); (have := fields_len HF.out.2 (kt m.op); have := fields_len HF.out.2 (km m.op); omega); rintro e w14 ⟨v5, rfl, hv3, hb3⟩; have HV3 := Lib.hid hv3; clear hv3))
      rename_i hS
      have E4 := Lib.hid (E45.out.trans hS.2)
      have hT6 : Hid (m.ok any w14) := hT5.out.ex hS.2
      have hv := HV3.out.anyOf
      rw [← HR.out] at hv
      clear hS hb1 hb2 hb3 HV1 HV2 HV3 HR hs0 c0 c1 c2 c3 c4 c5 c6 c7
      generalize regsL m = R at *
      obtain ⟨A3, c3', rfl, l1, l2, hc⟩ := hv.open
      have HC := Lib.hid hc
      clear hc hv
      obtain ⟨hs0, c0, c1, c2, c3, c4, c5, c6, c7⟩ := BX.out.ex E4.out
      go_wp2
      go_loopw [10, 37] (fun _ x wr => ∃ j : Nat, j ≤ R.length ∧ x = .int .i64 j ∧ Hid ((R.take j).any (outB k) = false) ∧ Ex w14 wr) (fun _ x _ => R.length - (intOf x).toNat)
      case atStart => exact ⟨0, Nat.zero_le _, rfl, by simp [Hid], Ex.refl _⟩
      case round =>
        obtain ⟨j, hj, rfl, hu, hx⟩ := hrel
        have HU := Lib.hid hu.out
        have HX4 := Lib.hid hx
        clear hu hx c0 c1 c2 c3 c4 c5 c6 c7 hs0
        by_cases hlt : j < R.length
        · obtain ⟨b', off, rfl, hc⟩ := HC.out (by omega)
          have ck := HX4.out.cell (hc j hlt)
          have h1 := out_take (k := k) hlt HU.out
          have h2 := out_some (k := k) hlt
          have H1 := Lib.hid h1
          have H2 := Lib.hid h2
          clear h1 h2 hc
          generalize R[j] = r at *
          by_cases hr : r < 0
          · have HO : Hid (R.any (outB k) = true) := H2.out (by simp [outB, hr])
            clear H1 H2
            go_wp2
            go_ret
            exact ⟨by rw [HI.out, HO.out]; rfl, HX.out.trans (E4.out.trans HX4.out)⟩
          · by_cases hr2 : k ≤ r
            · have HO : Hid (R.any (outB k) = true) := H2.out (by simp [outB, hr2])
              clear H1 H2
              go_wp2
              go_ret
              exact ⟨by rw [HI.out, HO.out]; rfl, HX.out.trans (E4.out.trans HX4.out)⟩
            · have HO : Hid ((R.take (j + 1)).any (outB k) = false) := H1.out (by simp [outB]; omega)
              clear H1 H2
              go_wp2
              go_roundw
              case rel => exact ⟨j + 1, by omega, by go_num, HO.out, HX4.out⟩
              case measure => simp [intOf]; omega
        · have he : j = R.length := by omega
          have hn := HU.out
          rw [he, List.take_length] at hn
          have HN := Lib.hid hn
          clear hn
          obtain ⟨hs0, c0, c1, c2, c3, c4, c5, c6, c7⟩ := BX.out.ex (E4.out.trans HX4.out)
          by_cases q1 : m.imm < 0
          · have HQ : Hid ((decide (m.imm < 0) || decide (s ≤ m.imm)) = true) := by show _ = _; simp [q1]
            go_wp2
            go_ret
            exact ⟨by rw [HI.out, HN.out, HQ.out]; rfl, HX.out.trans (E4.out.trans HX4.out)⟩
          · by_cases q2 : s ≤ m.imm
            · have HQ : Hid ((decide (m.imm < 0) || decide (s ≤ m.imm)) = true) := by show _ = _; simp [q2]
              go_wp2
              go_ret
              exact ⟨by rw [HI.out, HN.out, HQ.out]; rfl, HX.out.trans (E4.out.trans HX4.out)⟩
            · have HQ : Hid ((decide (m.imm < 0) || decide (s ≤ m.imm)) = false) := by show _ = _; simp [q1, q2]
              have himm := imm_spec m _ (hT6.out.ex HX4.out) HF.out.1
              have him : immB m = true := by have hop := HOP.out; simp [immB, hop]
              rw [him] at himm
              have HIM := Lib.hid him
              clear him
              go_wp2_with fail
              with_reducible refine himm.mono ?_
              clear himm
              rintro e w6 ⟨rfl, hw6⟩
              have E6 := Lib.hid (HX.out.trans (E4.out.trans (HX4.out.trans hw6)))
              clear hw6
              go_wp2
              go_ret
              exact ⟨by rw [HI.out, HN.out, HQ.out, HIM.out]; rfl, E6.out⟩
end Go.Proofs.Ytikkeefhhhfmmaa
