/- What an instruction takes, makes and spoils (mach, phys). Conditions: the instruction's Args read as a list, its number is a word. -/
import Derived.Test.YtikkeefhhhfmmaaKind
import Derived.Deep.RegionHeld3
import Derived.BigQuiet
set_option linter.unusedVariables false
set_option linter.unusedSimpArgs false
namespace Go.Proofs.Ytikkeefhhhfmmaa
open Go.RowKit Go.Instr

theorem enters_fn (n : Nat) (hn : n ≤ 6) : ∀ args w, (callFunc (fnOf n) args).run Try.prog w = .ok (.enter (fnOf n) args) w := by
  match n, hn with
  | 0, _ => exact enters Try.func131 (by kernel_rfl) rfl
  | 1, _ => exact enters Try.func132 (by kernel_rfl) rfl
  | 2, _ => exact enters Try.func133 (by kernel_rfl) rfl
  | 3, _ => exact enters Try.func134 (by kernel_rfl) rfl
  | 4, _ => exact enters Try.func135 (by kernel_rfl) rfl
  | 5, _ => exact enters Try.func136 (by kernel_rfl) rfl
  | 6, _ => exact enters Try.func138 (by kernel_rfl) rfl
theorem kt_le (op : Int) : kt op ≤ 6 := by
  unfold kt
  repeat' (refine ite_le ?_ ?_)
  all_goals omega
theorem km_le (op : Int) : km op ≤ 6 := by
  unfold km
  repeat' (refine ite_le ?_ ?_)
  all_goals omega

/-- A box of an instruction, and its cells. -/
theorem mach_box (w : World) (m : Mach) : ∃ W, W = w.alloc (.cells #[.int .i64 m.op, .int .i64 m.d, .int .i64 m.e, .int .i64 m.a, .int .i64 m.b, .int .i64 m.c, .int .i32 m.imm, m.av] 24) ∧ Ex w W ∧ w.heap.size < W.heap.size ∧
    W.cell? ⟨w.heap.size, 0, none⟩ = some (.int .i64 m.op) ∧ W.cell? ⟨w.heap.size, 1, none⟩ = some (.int .i64 m.d) ∧ W.cell? ⟨w.heap.size, 2, none⟩ = some (.int .i64 m.e) ∧ W.cell? ⟨w.heap.size, 3, none⟩ = some (.int .i64 m.a) ∧
    W.cell? ⟨w.heap.size, 4, none⟩ = some (.int .i64 m.b) ∧ W.cell? ⟨w.heap.size, 5, none⟩ = some (.int .i64 m.c) ∧ W.cell? ⟨w.heap.size, 6, none⟩ = some (.int .i32 m.imm) ∧ W.cell? ⟨w.heap.size, 7, none⟩ = some m.av :=
  ⟨_, rfl, (Ex.refl w).alloc _, by simp, by simp, by simp, by simp, by simp, by simp, by simp, by simp, by simp⟩

theorem Nums.from {k : IntKind} {N N' : Nat} {w : World} {v : Value} {xs : List Int} (h : Nums k (fun b => N ≤ b) w v xs) (hN : N' ≤ N) : Nums k (fun b => N' ≤ b) w v xs :=
  Row.imp h (fun _ _ _ => rfl) (fun _ hb _ => Nat.le_trans hN hb)

theorem Row.shape {ok : Nat → Prop} {w : World} {sz n : Nat} {v : Value} {cs : List Value} (h : Row ok w sz v n cs) : ∃ A c, v = .slice A n c := by
  obtain ⟨A, c, e, _⟩ := h
  exact ⟨A, c, e⟩
theorem Nums.shape {k : IntKind} {ok : Nat → Prop} {w : World} {v : Value} {xs : List Int} (h : Nums k ok w v xs) : ∃ A c, v = .slice A xs.length c := Row.shape h

set_option maxRecDepth 100000 in
set_option maxHeartbeats 1000000 in
theorem machTakes_spec (m : Mach) (w : World) (h : m.ok any w) : Calls Try.prog 77 #[m.val] w fun e w' => ∃ v, e = .returned v ∧ Ints (fun k => w.heap.size ≤ k) w' v (fieldsOf (kt m.op) m) ∧ Ex w w' := by
  have H := Lib.hid h
  clear h
  have hE := enters_fn (kt m.op) (kt_le _)
  have hf0 : ∀ x y w, (Instr.field 156 (.agg #[x, y]) 0).run Try.prog w = .ok x w := fun x y w => by kernel_rfl
  go_enter Try.func77, Try.ntmps77
  go_wp2
  obtain ⟨W, hW, hex, hsz, c0, c1, c2, c3, c4, c5, c6, c7⟩ := mach_box w m
  rw [← hW]
  have HX := Lib.hid hex
  clear hW hex
  go_region_held3 (fun w' => Cls W w') (first | exact (Cls.refl _).drew | exact Cls.step (by assumption) (by assumption)) (first | (go_at_call 105; refine (kindOf_spec _ _).mono ?_; rintro e w1 ⟨rfl, hb1⟩) | (refine (fn_spec (kt m.op) (kt_le _) m _ ?_).mono ?_; exact H.out.ex (HX.out.trans (And.right (by assumption : Cls W _))); rintro e w2 ⟨v, rfl, hv, hb2⟩; have HV := Lib.hid hv; clear hv))
  go_wp2
  go_ret
  rename_i hS
  have h1 := hb1.size
  have h2 := HX.out.size
  exact ⟨_, rfl, Nums.from HV.out (Nat.le_trans h2 (by simpa using h1)), HX.out.trans hS.2⟩

set_option maxRecDepth 100000 in
set_option maxHeartbeats 1000000 in
theorem machMakes_spec (m : Mach) (w : World) (h : m.ok any w) : Calls Try.prog 78 #[m.val] w fun e w' => ∃ v, e = .returned v ∧ Ints (fun k => w.heap.size ≤ k) w' v (fieldsOf (km m.op) m) ∧ Ex w w' := by
  have H := Lib.hid h
  clear h
  have hE := enters_fn (km m.op) (km_le _)
  have hf0 : ∀ x y w, (Instr.field 156 (.agg #[x, y]) 1).run Try.prog w = .ok y w := fun x y w => by kernel_rfl
  go_enter Try.func78, Try.ntmps78
  go_wp2
  obtain ⟨W, hW, hex, hsz, c0, c1, c2, c3, c4, c5, c6, c7⟩ := mach_box w m
  rw [← hW]
  have HX := Lib.hid hex
  clear hW hex
  go_region_held3 (fun w' => Cls W w') (first | exact (Cls.refl _).drew | exact Cls.step (by assumption) (by assumption)) (first | (go_at_call 105; refine (kindOf_spec _ _).mono ?_; rintro e w1 ⟨rfl, hb1⟩) | (refine (fn_spec (km m.op) (km_le _) m _ ?_).mono ?_; exact H.out.ex (HX.out.trans (And.right (by assumption : Cls W _))); rintro e w2 ⟨v, rfl, hv, hb2⟩; have HV := Lib.hid hv; clear hv))
  go_wp2
  go_ret
  rename_i hS
  have h1 := hb1.size
  have h2 := HX.out.size
  exact ⟨_, rfl, Nums.from HV.out (Nat.le_trans h2 (by simpa using h1)), HX.out.trans hS.2⟩

/-- The places that an instruction takes, makes, spoils. -/
def takesL (m : Mach) : List Int := if m.op = 2 then [m.a, m.b] else if m.op = 30 then [16 + m.imm] else fieldsOf (kt m.op) m
def makesL (m : Mach) : List Int := if m.op = 2 then [m.a, m.b] else if m.op = 31 then [16 + m.imm] else fieldsOf (km m.op) m
def spoilsL (m : Mach) : List Int := if m.op = 28 then [1, 2, 3] else []
def Mach.word (m : Mach) : Prop := -2147483648 ≤ m.imm ∧ m.imm ≤ 2147483647

set_option maxRecDepth 100000 in
set_option maxHeartbeats 1000000 in
theorem takes_spec (m : Mach) (w : World) (h : m.ok any w) (hi : m.word) : Calls Try.prog 42 #[m.val] w fun e w' => ∃ v, e = .returned v ∧ Ints (fun k => w.heap.size ≤ k) w' v (takesL m) ∧ Ex w w' := by
  have H := Lib.hid h
  clear h
  obtain ⟨i1, i2⟩ := hi
  by_cases e1 : m.op = 2
  · have k1 : (m.op == 2) = true := by simp [e1]
    have hl : takesL m = [m.a, m.b] := by simp [takesL, e1]
    rw [hl]
    clear e1 hl
    go_enter Try.func42, Try.ntmps42
    go_wp2
    go_ret
    exact ⟨_, rfl, lit_ints [m.a, m.b] (by simp) (by go_grown) (by simp) rfl, by go_grown⟩
  · have k1 : (m.op == 2) = false := by simp [e1]
    by_cases e2 : m.op = 30
    · have k2 : (m.op == 30) = true := by simp [e2]
      have hl : takesL m = [16 + m.imm] := by simp [takesL, e1, e2]
      rw [hl]
      clear e1 e2 hl
      go_enter Try.func42, Try.ntmps42
      go_wp2
      go_ret
      exact ⟨_, rfl, lit_ints [16 + m.imm] (by simp) (by go_grown) (by simp) rfl, by go_grown⟩
    · have k2 : (m.op == 30) = false := by simp [e2]
      have hl : takesL m = fieldsOf (kt m.op) m := by simp [takesL, e1, e2]
      rw [hl]
      clear e1 e2 hl
      go_enter Try.func42, Try.ntmps42
      go_wp2_with (go_at_call 77; go_must (refine (machTakes_spec m _ (H.out.ex (by go_grown))).mono ?_); rintro e w1 ⟨v, rfl, hv, hb⟩; have HV := Lib.hid hv; have HX := Lib.hid hb; clear hv hb)
      go_ret
      exact ⟨_, rfl, Nums.from HV.out (by simp), Ex.trans (by go_grown) HX.out⟩

set_option maxRecDepth 100000 in
set_option maxHeartbeats 1000000 in
theorem makes_spec (m : Mach) (w : World) (h : m.ok any w) (hi : m.word) : Calls Try.prog 39 #[m.val] w fun e w' => ∃ v, e = .returned v ∧ Ints (fun k => w.heap.size ≤ k) w' v (makesL m) ∧ Ex w w' := by
  have H := Lib.hid h
  clear h
  obtain ⟨i1, i2⟩ := hi
  by_cases e1 : m.op = 2
  · have k1 : (m.op == 2) = true := by simp [e1]
    have hl : makesL m = [m.a, m.b] := by simp [makesL, e1]
    rw [hl]
    clear e1 hl
    go_enter Try.func39, Try.ntmps39
    go_wp2
    go_ret
    exact ⟨_, rfl, lit_ints [m.a, m.b] (by simp) (by go_grown) (by simp) rfl, by go_grown⟩
  · have k1 : (m.op == 2) = false := by simp [e1]
    by_cases e2 : m.op = 31
    · have k2 : (m.op == 31) = true := by simp [e2]
      have hl : makesL m = [16 + m.imm] := by simp [makesL, e1, e2]
      rw [hl]
      clear e1 e2 hl
      go_enter Try.func39, Try.ntmps39
      go_wp2
      go_ret
      exact ⟨_, rfl, lit_ints [16 + m.imm] (by simp) (by go_grown) (by simp) rfl, by go_grown⟩
    · have k2 : (m.op == 31) = false := by simp [e2]
      have hl : makesL m = fieldsOf (km m.op) m := by simp [makesL, e1, e2]
      rw [hl]
      clear e1 e2 hl
      go_enter Try.func39, Try.ntmps39
      go_wp2_with (go_at_call 78; go_must (refine (machMakes_spec m _ (H.out.ex (by go_grown))).mono ?_); rintro e w1 ⟨v, rfl, hv, hb⟩; have HV := Lib.hid hv; have HX := Lib.hid hb; clear hv hb)
      go_ret
      exact ⟨_, rfl, Nums.from HV.out (by simp), Ex.trans (by go_grown) HX.out⟩

set_option maxHeartbeats 1000000 in
theorem spoils_spec (m : Mach) (w : World) : Calls Try.prog 40 #[m.val] w fun e w' => ∃ v, e = .returned v ∧ Ints (fun k => w.heap.size ≤ k) w' v (spoilsL m) ∧ Ex w w' := by
  by_cases e1 : m.op = 28
  · have k1 : (m.op == 28) = true := by simp [e1]
    have hl : spoilsL m = [1, 2, 3] := by simp [spoilsL, e1]
    rw [hl]
    clear e1 hl
    go_enter Try.func40, Try.ntmps40
    go_wp2
    go_ret
    exact ⟨_, rfl, lit_ints [1, 2, 3] (by simp) (by go_grown) (by simp) rfl, by go_grown⟩
  · have k1 : (m.op == 28) = false := by simp [e1]
    have hl : spoilsL m = [] := by simp [spoilsL, e1]
    rw [hl]
    clear e1 hl
    go_enter Try.func40, Try.ntmps40
    go_wp2
    go_ret
    exact ⟨_, rfl, Nums.nil _ _ _, by go_grown⟩
end Go.Proofs.Ytikkeefhhhfmmaa
