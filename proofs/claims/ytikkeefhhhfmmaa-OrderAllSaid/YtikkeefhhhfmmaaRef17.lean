/- The reference's Takes, Makes, Spoils, Depends: the same places. Conditions: the instructions' Args read as lists, their numbers are words. -/
import Derived.Test.YtikkeefhhhfmmaaDep
import Derived.Test.YtikkeefhhhfmmaaMore
set_option linter.unusedVariables false
set_option linter.unusedSimpArgs false
namespace Go.Proofs.Ytikkeefhhhfmmaa
open Go.RowKit Go.Instr

theorem km_0 {op : Int} (h : op ≤ 0 ∨ 32 ≤ op ∨ op = 26 ∨ op = 27 ∨ op = 31) : km op = 0 := by
  unfold km
  rcases h with h | h | rfl | rfl | rfl
  · repeat rw [if_neg (by omega)]
  · repeat rw [if_neg (by omega)]
  all_goals rfl
theorem km_1 {op : Int} (h : 1 ≤ op ∧ op ≤ 31 ∧ op ≠ 2 ∧ op ≠ 26 ∧ op ≠ 27 ∧ op ≠ 29 ∧ op ≠ 31) : km op = 1 := by
  have h2 : op = 1 ∨ op = 3 ∨ op = 4 ∨ op = 23 ∨ op = 24 ∨ op = 25 ∨ op = 28 ∨ op = 30 ∨ (5 ≤ op ∧ op ≤ 17) ∨ (18 ≤ op ∧ op ≤ 22) := by omega
  rcases h2 with rfl | rfl | rfl | rfl | rfl | rfl | rfl | rfl | h2 | h2
  case inr.inr.inr.inr.inr.inr.inr.inr.inl => unfold km; repeat rw [if_neg (by omega)]
                                              rw [if_pos h2]
  case inr.inr.inr.inr.inr.inr.inr.inr.inr => unfold km; repeat rw [if_neg (by omega)]
                                              rw [if_pos h2]
  all_goals rfl
theorem km_3 {op : Int} (h : op = 2) : km op = 3 := by subst h; rfl
theorem km_6 {op : Int} (h : op = 29) : km op = 6 := by subst h; rfl
theorem kt_0 {op : Int} (h : op ≤ 0 ∨ 32 ≤ op ∨ op = 3 ∨ op = 4 ∨ op = 30) : kt op = 0 := by
  unfold kt
  rcases h with h | h | rfl | rfl | rfl
  · repeat rw [if_neg (by omega)]
  · repeat rw [if_neg (by omega)]
  all_goals rfl
theorem kt_2 {op : Int} (h : op = 1 ∨ (18 ≤ op ∧ op ≤ 22) ∨ op = 24 ∨ op = 31) : kt op = 2 := by
  rcases h with rfl | h | rfl | rfl
  case inr.inl => unfold kt; repeat rw [if_neg (by omega)]
                  rw [if_pos h]
  all_goals rfl
theorem kt_3 {op : Int} (h : op = 2 ∨ (5 ≤ op ∧ op ≤ 17) ∨ op = 25 ∨ op = 26 ∨ op = 29) : kt op = 3 := by
  rcases h with rfl | h | rfl | rfl | rfl
  case inr.inl => unfold kt; repeat rw [if_neg (by omega)]
                  rw [if_pos h]
  all_goals rfl
theorem kt_4 {op : Int} (h : op = 23 ∨ op = 27) : kt op = 4 := by rcases h with rfl | rfl <;> rfl
theorem kt_5 {op : Int} (h : op = 28) : kt op = 5 := by subst h; rfl

set_option maxRecDepth 100000 in
set_option maxHeartbeats 2000000 in
theorem ref07Makes_spec (m : Mach) (w : World) : Calls Try.prog 83 #[m.val] w fun e w' => ∃ v, e = .returned v ∧ Ints (fun k => w.heap.size ≤ k) w' v (fieldsOf (km m.op) m) ∧ Ex w w' := by
  go_enter Try.func83, Try.ntmps83
  go_wp2
  all_goals
    go_ret
    simp only [beq_iff_eq, beq_eq_false_iff_ne, ne_eq] at *
    refine ⟨_, rfl, ?_, by go_grown⟩
    first
      | (rw [km_0 (by omega)]; exact Nums.nil _ _ _)
      | (rw [km_1 (by omega)]; exact lit_ints [m.d] (by simp) (by go_grown) (by simp) rfl)
      | (rw [km_3 (by omega)]; exact lit_ints [m.a, m.b] (by simp) (by go_grown) (by simp) rfl)
      | (rw [km_6 (by omega)]; exact lit_ints [m.d, m.e] (by simp) (by go_grown) (by simp) rfl)

theorem ne_b {a b : Int} (h : a ≠ b) : (a == b) = false := by simp [h]
theorem op_cases (op : Int) : op ≤ 0 ∨ op = 1 ∨ op = 2 ∨ op = 3 ∨ op = 4 ∨ (5 ≤ op ∧ op ≤ 17) ∨ (18 ≤ op ∧ op ≤ 22) ∨ op = 23 ∨ op = 24 ∨ op = 25 ∨ op = 26 ∨ op = 27 ∨ op = 28 ∨ op = 29 ∨ op = 30 ∨ op = 31 ∨ 32 ≤ op := by omega

set_option maxRecDepth 100000 in
set_option maxHeartbeats 4000000 in
theorem ref07Takes_spec (m : Mach) (w : World) (h : m.ok any w) : Calls Try.prog 84 #[m.val] w fun e w' => ∃ v, e = .returned v ∧ Ints (fun k => w.heap.size ≤ k) w' v (fieldsOf (kt m.op) m) ∧ Ex w w' := by
  have H := Lib.hid h
  clear h
  obtain ⟨L, hL⟩ : ∃ L, fieldsOf (kt m.op) m = L := ⟨_, rfl⟩
  rw [hL]
  have HL := Lib.hid hL
  clear hL
  obtain ⟨op, d, e, a, b, c, imm, args, av⟩ := m
  rcases op_cases op with h | rfl | rfl | rfl | rfl | ⟨h, h'⟩ | ⟨h, h'⟩ | rfl | rfl | rfl | rfl | rfl | rfl | rfl | rfl | rfl | h
  case inr.inr.inr.inr.inr.inr.inr.inr.inr.inr.inr.inr.inl =>
    go_enter Try.func84, Try.ntmps84
    go_wp2_with (at_builtin; go_must (refine app _ rfl _ _ 22 rfl w.heap.size 3 _ 1 8 Try.underlying22 Try.info3 rfl (by decide) (by decide) _ _ _ (own_empty ((Ex.refl w).alloc _) (by simp)) rfl av args.length (args.map (.int .i64)) (H.out.ex (((Ex.refl w).alloc _).alloc _)) rfl (ints_one _) ?_ (by simp; omega) ?_); (have := H.out.open; obtain ⟨_, _, _, _, hl, _⟩ := this; dsimp only at hl; omega); intro v1 w1 hown1 hg1 _; have HO := Lib.hid hown1; have HG := Lib.hid hg1; clear hown1 hg1)
    go_ret
    have ho := HO.out
    obtain ⟨_, _, _, _, hl, _⟩ := H.out.open
    rw [Nat.zero_add, List.nil_append] at ho
    have h2 := HL.out

    rw [kt_5 (by omega)] at h2
    subst h2
    exact ⟨_, rfl, Row.fresh ho hl, Ex.grown (((Ex.refl w).alloc _).alloc _) HG.out (by simp [Value.ownBlock])⟩
  case' inl => have t := And.intro (ne_b (show op ≠ 1 by omega)) (And.intro (ne_b (show op ≠ 2 by omega)) (And.intro (ne_b (show op ≠ 23 by omega)) (And.intro (ne_b (show op ≠ 24 by omega)) (And.intro (ne_b (show op ≠ 25 by omega)) (And.intro (ne_b (show op ≠ 26 by omega)) (And.intro (ne_b (show op ≠ 27 by omega)) (And.intro (ne_b (show op ≠ 28 by omega)) (And.intro (ne_b (show op ≠ 29 by omega)) (ne_b (show op ≠ 31 by omega))))))))))
  case' inr.inr.inr.inr.inr.inl => have t := And.intro (ne_b (show op ≠ 1 by omega)) (And.intro (ne_b (show op ≠ 2 by omega)) (And.intro (ne_b (show op ≠ 23 by omega)) (And.intro (ne_b (show op ≠ 24 by omega)) (And.intro (ne_b (show op ≠ 25 by omega)) (And.intro (ne_b (show op ≠ 26 by omega)) (And.intro (ne_b (show op ≠ 27 by omega)) (And.intro (ne_b (show op ≠ 28 by omega)) (And.intro (ne_b (show op ≠ 29 by omega)) (ne_b (show op ≠ 31 by omega))))))))))
  case' inr.inr.inr.inr.inr.inr.inl => have t := And.intro (ne_b (show op ≠ 1 by omega)) (And.intro (ne_b (show op ≠ 2 by omega)) (And.intro (ne_b (show op ≠ 23 by omega)) (And.intro (ne_b (show op ≠ 24 by omega)) (And.intro (ne_b (show op ≠ 25 by omega)) (And.intro (ne_b (show op ≠ 26 by omega)) (And.intro (ne_b (show op ≠ 27 by omega)) (And.intro (ne_b (show op ≠ 28 by omega)) (And.intro (ne_b (show op ≠ 29 by omega)) (ne_b (show op ≠ 31 by omega))))))))))
  case' inr.inr.inr.inr.inr.inr.inr.inr.inr.inr.inr.inr.inr.inr.inr.inr => have t := And.intro (ne_b (show op ≠ 1 by omega)) (And.intro (ne_b (show op ≠ 2 by omega)) (And.intro (ne_b (show op ≠ 23 by omega)) (And.intro (ne_b (show op ≠ 24 by omega)) (And.intro (ne_b (show op ≠ 25 by omega)) (And.intro (ne_b (show op ≠ 26 by omega)) (And.intro (ne_b (show op ≠ 27 by omega)) (And.intro (ne_b (show op ≠ 28 by omega)) (And.intro (ne_b (show op ≠ 29 by omega)) (ne_b (show op ≠ 31 by omega))))))))))
  all_goals
    go_enter Try.func84, Try.ntmps84
    go_wp2
    go_ret
    refine ⟨_, rfl, ?_, by go_grown⟩
    have hl := HL.out

    first
      | (rw [kt_0 (by omega)] at hl; subst hl; exact Nums.nil _ _ _)
      | (rw [kt_2 (by omega)] at hl; subst hl; exact lit_ints [a] (by simp) (by go_grown) (by simp) rfl)
      | (rw [kt_3 (by omega)] at hl; subst hl; exact lit_ints [a, b] (by simp) (by go_grown) (by simp) rfl)
      | (rw [kt_4 (by omega)] at hl; subst hl; exact lit_ints [a, b, c] (by simp) (by go_grown) (by simp) rfl)

set_option maxRecDepth 100000 in
set_option maxHeartbeats 1000000 in
theorem refTakes_spec (m : Mach) (w : World) (h : m.ok any w) (hi : m.word) : Calls Try.prog 50 #[m.val] w fun e w' => ∃ v, e = .returned v ∧ Ints (fun k => w.heap.size ≤ k) w' v (takesL m) ∧ Ex w w' := by
  have H := Lib.hid h
  clear h
  obtain ⟨i1, i2⟩ := hi
  by_cases e1 : m.op = 2
  · have k1 : (m.op == 2) = true := by simp [e1]
    have hl : takesL m = [m.a, m.b] := by simp [takesL, e1]
    rw [hl]
    clear e1 hl
    go_enter Try.func50, Try.ntmps50
    go_wp2
    go_ret
    exact ⟨_, rfl, lit_ints [m.a, m.b] (by simp) (by go_grown) (by simp) rfl, by go_grown⟩
  · have k1 : (m.op == 2) = false := by simp [e1]
    by_cases e2 : m.op = 30
    · have k2 : (m.op == 30) = true := by simp [e2]
      have hl : takesL m = [16 + m.imm] := by simp [takesL, e1, e2]
      rw [hl]
      clear e1 e2 hl
      go_enter Try.func50, Try.ntmps50
      go_wp2
      go_ret
      exact ⟨_, rfl, lit_ints [16 + m.imm] (by simp) (by go_grown) (by simp) rfl, by go_grown⟩
    · have k2 : (m.op == 30) = false := by simp [e2]
      have hl : takesL m = fieldsOf (kt m.op) m := by simp [takesL, e1, e2]
      rw [hl]
      clear e1 e2 hl
      go_enter Try.func50, Try.ntmps50
      go_wp2_with (go_at_call 84; go_must (refine (ref07Takes_spec m _ (H.out.ex (by go_grown))).mono ?_); rintro e w1 ⟨v, rfl, hv, hb⟩; have HV := Lib.hid hv; have HX := Lib.hid hb; clear hv hb)
      go_ret
      exact ⟨_, rfl, Nums.from HV.out (by simp), Ex.trans (by go_grown) HX.out⟩

set_option maxRecDepth 100000 in
set_option maxHeartbeats 1000000 in
theorem refMakes_spec (m : Mach) (w : World) (hi : m.word) : Calls Try.prog 47 #[m.val] w fun e w' => ∃ v, e = .returned v ∧ Ints (fun k => w.heap.size ≤ k) w' v (makesL m) ∧ Ex w w' := by
  obtain ⟨i1, i2⟩ := hi
  by_cases e1 : m.op = 2
  · have k1 : (m.op == 2) = true := by simp [e1]
    have hl : makesL m = [m.a, m.b] := by simp [makesL, e1]
    rw [hl]
    clear e1 hl
    go_enter Try.func47, Try.ntmps47
    go_wp2
    go_ret
    exact ⟨_, rfl, lit_ints [m.a, m.b] (by simp) (by go_grown) (by simp) rfl, by go_grown⟩
  · have k1 : (m.op == 2) = false := by simp [e1]
    by_cases e2 : m.op = 31
    · have k2 : (m.op == 31) = true := by simp [e2]
      have hl : makesL m = [16 + m.imm] := by simp [makesL, e1, e2]
      rw [hl]
      clear e1 e2 hl
      go_enter Try.func47, Try.ntmps47
      go_wp2
      go_ret
      exact ⟨_, rfl, lit_ints [16 + m.imm] (by simp) (by go_grown) (by simp) rfl, by go_grown⟩
    · have k2 : (m.op == 31) = false := by simp [e2]
      have hl : makesL m = fieldsOf (km m.op) m := by simp [makesL, e1, e2]
      rw [hl]
      clear e1 e2 hl
      go_enter Try.func47, Try.ntmps47
      go_wp2_with (go_at_call 83; go_must (refine (ref07Makes_spec m _).mono ?_); rintro e w1 ⟨v, rfl, hv, hb⟩; have HV := Lib.hid hv; have HX := Lib.hid hb; clear hv hb)
      go_ret
      exact ⟨_, rfl, Nums.from HV.out (by simp), Ex.trans (by go_grown) HX.out⟩

set_option maxHeartbeats 1000000 in
theorem refSpoils_spec (m : Mach) (w : World) : Calls Try.prog 48 #[m.val] w fun e w' => ∃ v, e = .returned v ∧ Ints (fun k => w.heap.size ≤ k) w' v (spoilsL m) ∧ Ex w w' := by
  by_cases e1 : m.op = 28
  · have k1 : (m.op == 28) = true := by simp [e1]
    have hl : spoilsL m = [1, 2, 3] := by simp [spoilsL, e1]
    rw [hl]
    clear e1 hl
    go_enter Try.func48, Try.ntmps48
    go_wp2
    go_ret
    exact ⟨_, rfl, lit_ints [1, 2, 3] (by simp) (by go_grown) (by simp) rfl, by go_grown⟩
  · have k1 : (m.op == 28) = false := by simp [e1]
    have hl : spoilsL m = [] := by simp [spoilsL, e1]
    rw [hl]
    clear e1 hl
    go_enter Try.func48, Try.ntmps48
    go_wp2
    go_ret
    exact ⟨_, rfl, Nums.nil _ _ _, by go_grown⟩
end Go.Proofs.Ytikkeefhhhfmmaa
