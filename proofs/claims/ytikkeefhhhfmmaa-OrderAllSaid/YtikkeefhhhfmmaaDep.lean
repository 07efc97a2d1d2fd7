/- order.Depends: who depends on whom. Conditions: the instructions' Args read as lists, their numbers are words. -/
import Derived.Test.YtikkeefhhhfmmaaTakes
set_option linter.unusedVariables false
namespace Go.Proofs.Ytikkeefhhhfmmaa
open Go.RowKit Go.Instr

def changesL (m : Mach) : List Int := makesL m ++ spoilsL m
theorem makesL_len (m : Mach) : (makesL m).length ≤ 2 := by
  unfold makesL
  split
  · simp
  · split
    · simp
    · have h2 : (fun n => n = 0 ∨ n = 1 ∨ n = 2 ∨ n = 3 ∨ n = 6) (km m.op) := by
        unfold km
        repeat' (refine ite_P (P := fun n => n = 0 ∨ n = 1 ∨ n = 2 ∨ n = 3 ∨ n = 6) ?_ ?_)
        all_goals simp
      rcases h2 with h2 | h2 | h2 | h2 | h2 <;> rw [h2] <;> simp [fieldsOf]
theorem spoilsL_len (m : Mach) : (spoilsL m).length ≤ 3 := by unfold spoilsL; split <;> simp

set_option maxRecDepth 100000 in
set_option maxHeartbeats 1000000 in
theorem changes_spec (m : Mach) (w : World) (h : m.ok any w) (hi : m.word) : Calls Try.prog 45 #[m.val] w fun e w' => ∃ v, e = .returned v ∧ Ints (fun k => w.heap.size ≤ k) w' v (changesL m) ∧ Ex w w' := by
  have H := Lib.hid h
  have HI := Lib.hid hi
  clear h hi
  go_enter Try.func45, Try.ntmps45
  go_wp2
  obtain ⟨W, hW, hex, hsz, c0, c1, c2, c3, c4, c5, c6, c7⟩ := mach_box w m
  rw [← hW]
  have HX := Lib.hid hex
  clear hW hex
  go_region_held3 (fun w' => Cls W w') (first | exact (Cls.refl _).drew | exact Cls.step (by assumption) (by assumption) | exact Cls.alloc (by assumption) _) (first | (go_at_call 39; refine (makes_spec m _ ?_ HI.out).mono ?_; exact H.out.ex (HX.out.trans (And.right (by assumption : Cls W _))); rintro e w1 ⟨v1, rfl, hv1, hb1⟩; obtain ⟨A1, k1, rfl⟩ := hv1.shape; have HV1 := Lib.hid hv1; clear hv1) | (go_at_call 40; refine (spoils_spec m _).mono ?_; rintro e w2 ⟨v2, rfl, hv2, hb2⟩; obtain ⟨A2, k2, rfl⟩ := hv2.shape; have HV2 := Lib.hid hv2; clear hv2) | (go_at_call 76; refine (concat_spec _ (.slice A1 (makesL m).length k1) (.slice A2 (spoilsL m).length k2) (makesL m) (spoilsL m) _ ?_ ?_ ?_ ?_ ?_).mono ?_; exact (World.cell?_alloc_new _ _ _ _).trans rfl; exact (World.cell?_alloc_new _ _ _ _).trans rfl; exact ((HV1.out.anyOf.ex hb2).ex ((Ex.refl _).alloc _)); exact (HV2.out.anyOf.ex ((Ex.refl _).alloc _)); (have := makesL_len m; have := spoilsL_len m; omega); rintro e w3 ⟨v3, rfl, hv3, hb3⟩; have HV3 := Lib.hid hv3; clear hv3))
  go_wp2
  go_ret
  rename_i hS
  have h1 := hb1.size
  have h2 := HX.out.size
  have h3 := hb2.size
  refine ⟨_, rfl, Nums.from HV3.out ?_, HX.out.trans hS.2⟩
  simp at h1 ⊢
  omega

/-- Is a number in a row? -/
def hasN (ys : List Int) (n : Int) : Bool := ys.contains n
def common (xs ys : List Int) : Bool := xs.any (hasN ys)

set_option maxHeartbeats 400000 in
theorem common1_spec (B : Nat) (v : Value) (ys : List Int) (n : Int) (w : World) (hc : w.cell? ⟨B, 0, none⟩ = some v) (h : Ints any w v ys) :
    Calls Try.prog 81 #[.int .i64 n, .pointer (some ⟨B, 0, none⟩)] w fun e w' => e = .returned (.bool (hasN ys n)) ∧ Ex w w' := by
  obtain ⟨A, c, rfl⟩ := h.shape
  have H := Lib.hid h
  clear h
  go_enter Try.func81, Try.ntmps81
  go_wp2_with (go_at_call 82; go_must (refine (contains_spec _ ys n _ H.out).mono ?_); rw [show ys.contains n = hasN ys n from rfl]; rintro e w' ⟨rfl, rfl⟩)
  go_ret
  exact ⟨rfl, Ex.refl _⟩

set_option maxRecDepth 100000 in
set_option maxHeartbeats 400000 in
theorem common_spec (v1 v2 : Value) (xs ys : List Int) (w : World) (h1 : Ints any w v1 xs) (h2 : Ints any w v2 ys) :
    Calls Try.prog 46 #[v1, v2] w fun e w' => e = .returned (.bool (common xs ys)) ∧ Ex w w' := by
  obtain ⟨A1, k1, rfl⟩ := h1.shape
  obtain ⟨A2, k2, rfl⟩ := h2.shape
  have H1 := Lib.hid h1
  have H2 := Lib.hid h2
  clear h1 h2
  have hE := enters Try.func81 (by kernel_rfl) rfl
  have HC : Hid (∀ w1, Ex (w.alloc (.cells #[.slice A2 ys.length k2] 22)) w1 → ∀ x ∈ xs, Calls Try.prog 81 #[.int .i64 x, .pointer (some ⟨w.heap.size, 0, none⟩)] w1 fun e w2 => e = .returned (.bool (hasN ys x)) ∧ Ex w1 w2) :=
    fun w1 hw x _ => common1_spec w.heap.size _ ys x w1 (hw.cell ((World.cell?_alloc_new _ _ _ _).trans rfl)) ((H2.out.ex ((Ex.refl w).alloc _)).ex hw)
  go_enter Try.func46, Try.ntmps46
  go_wp2_with (go_at_call 80; go_must (refine (containsFunc_spec 81 hE (.pointer (some ⟨w.heap.size, 0, none⟩)) (hasN ys) _ xs _ (H1.out.ex ((Ex.refl w).alloc _)) HC.out).mono ?_); rw [show xs.any (hasN ys) = common xs ys from rfl]; rintro e w' ⟨rfl, hx⟩; have HX := Lib.hid hx; clear hx)
  go_ret
  exact ⟨rfl, Ex.trans ((Ex.refl w).alloc _) HX.out⟩

def strictIs (op : Int) : Bool := op == 24 || op == 25 || op == 28 || op == 26 || op == 27 || op == 17
def strictLd (op : Int) : Bool := op == 24 || op == 25
set_option maxHeartbeats 400000 in
theorem strict_spec (op : Int) (w : World) : Calls Try.prog 44 #[.int .i64 op] w fun e w' => e = .returned (.tuple #[.bool (strictIs op), .bool (strictLd op)]) ∧ w = w' := by
  go_enter Try.func44, Try.ntmps44
  go_wp2
  all_goals go_ret2
  all_goals simp_all [strictIs, strictLd]

def effB (x y : Int) : Bool := strictIs x && strictIs y && !(strictLd x && strictLd y)
def dependsB (x y : Mach) : Bool :=
  effB x.op y.op || common (changesL x) (changesL y) || common (changesL x) (takesL y) || common (changesL y) (takesL x)

theorem mach_cells2 (w : World) (x y : Mach) : ∃ W, W = (w.alloc (.cells #[.int .i64 x.op, .int .i64 x.d, .int .i64 x.e, .int .i64 x.a, .int .i64 x.b, .int .i64 x.c, .int .i32 x.imm, x.av] 24)).alloc (.cells #[.int .i64 y.op, .int .i64 y.d, .int .i64 y.e, .int .i64 y.a, .int .i64 y.b, .int .i64 y.c, .int .i32 y.imm, y.av] 24) ∧ Ex w W ∧ w.heap.size < W.heap.size ∧ w.heap.size + 1 < W.heap.size ∧
    (W.cell? ⟨w.heap.size, 0, none⟩ = some (.int .i64 x.op) ∧ W.cell? ⟨w.heap.size, 1, none⟩ = some (.int .i64 x.d) ∧ W.cell? ⟨w.heap.size, 2, none⟩ = some (.int .i64 x.e) ∧ W.cell? ⟨w.heap.size, 3, none⟩ = some (.int .i64 x.a) ∧
    W.cell? ⟨w.heap.size, 4, none⟩ = some (.int .i64 x.b) ∧ W.cell? ⟨w.heap.size, 5, none⟩ = some (.int .i64 x.c) ∧ W.cell? ⟨w.heap.size, 6, none⟩ = some (.int .i32 x.imm) ∧ W.cell? ⟨w.heap.size, 7, none⟩ = some x.av) ∧
    (W.cell? ⟨w.heap.size + 1, 0, none⟩ = some (.int .i64 y.op) ∧ W.cell? ⟨w.heap.size + 1, 1, none⟩ = some (.int .i64 y.d) ∧ W.cell? ⟨w.heap.size + 1, 2, none⟩ = some (.int .i64 y.e) ∧ W.cell? ⟨w.heap.size + 1, 3, none⟩ = some (.int .i64 y.a) ∧
    W.cell? ⟨w.heap.size + 1, 4, none⟩ = some (.int .i64 y.b) ∧ W.cell? ⟨w.heap.size + 1, 5, none⟩ = some (.int .i64 y.c) ∧ W.cell? ⟨w.heap.size + 1, 6, none⟩ = some (.int .i32 y.imm) ∧ W.cell? ⟨w.heap.size + 1, 7, none⟩ = some y.av) := by
  have h1 : ∀ (o : Obj) (i : Nat), ((w.alloc (.cells #[.int .i64 x.op, .int .i64 x.d, .int .i64 x.e, .int .i64 x.a, .int .i64 x.b, .int .i64 x.c, .int .i32 x.imm, x.av] 24)).alloc o).cell? ⟨w.heap.size, i, none⟩ = x.cells[i]? := fun o i =>
    (World.cell?_alloc_lt _ _ _ (by simp)).trans ((World.cell?_alloc_new _ _ _ _).trans (by simp [Mach.cells]))
  have h2 : ∀ (W : World) (i : Nat) (B : Nat), W.heap.size = B → (W.alloc (.cells #[.int .i64 y.op, .int .i64 y.d, .int .i64 y.e, .int .i64 y.a, .int .i64 y.b, .int .i64 y.c, .int .i32 y.imm, y.av] 24)).cell? ⟨B, i, none⟩ = y.cells[i]? := fun W i B hB => by
    subst hB
    exact (World.cell?_alloc_new _ _ _ _).trans (by simp [Mach.cells])
  exact ⟨_, rfl, ((Ex.refl w).alloc _).alloc _, by simp; omega, by simp, ⟨h1 _ 0, h1 _ 1, h1 _ 2, h1 _ 3, h1 _ 4, h1 _ 5, h1 _ 6, h1 _ 7⟩,
    ⟨h2 _ 0 _ (by simp), h2 _ 1 _ (by simp), h2 _ 2 _ (by simp), h2 _ 3 _ (by simp), h2 _ 4 _ (by simp), h2 _ 5 _ (by simp), h2 _ 6 _ (by simp), h2 _ 7 _ (by simp)⟩⟩

set_option maxRecDepth 100000 in
set_option maxHeartbeats 2000000 in
theorem depends_spec (x y : Mach) (w : World) (hx : x.ok any w) (hy : y.ok any w) (ix : x.word) (iy : y.word) :
    Calls Try.prog 15 #[x.val, y.val] w fun e w' => e = .returned (.bool (dependsB x y)) ∧ Ex w w' := by
  have HX := Lib.hid hx
  have HY := Lib.hid hy
  have IX := Lib.hid ix
  have IY := Lib.hid iy
  clear hx hy ix iy
  obtain ⟨W, hW, hex, hs0, hs1, ⟨c0, c1, c2, c3, c4, c5, c6, c7⟩, ⟨d0, d1, d2, d3, d4, d5, d6, d7⟩⟩ := mach_cells2 w x y
  have HE := Lib.hid hex
  have HW := Lib.hid hW
  have P : (strictIs x.op = false) ∨ (strictIs x.op = true ∧ strictIs y.op = false) ∨ (strictIs x.op = true ∧ strictIs y.op = true ∧ strictLd x.op = true ∧ strictLd y.op = true) ∨ (strictIs x.op = true ∧ strictIs y.op = true ∧ strictLd x.op = false) ∨ (strictIs x.op = true ∧ strictIs y.op = true ∧ strictLd x.op = true ∧ strictLd y.op = false) := by
    cases strictIs x.op <;> cases strictIs y.op <;> cases strictLd x.op <;> cases strictLd y.op <;> simp
  clear hex hW
  have HD : Hid (dependsB x y = (effB x.op y.op || common (changesL x) (changesL y) || common (changesL x) (takesL y) || common (changesL y) (takesL x))) := rfl
  rcases P with p1 | ⟨p1, p2⟩ | ⟨p1, p2, p3, p4⟩ | ⟨p1, p2, p3⟩ | ⟨p1, p2, p3, p4⟩
  case inr.inr.inr.inl =>
    go_enter Try.func15, Try.ntmps15
    go_wp2_with (go_at_call 44; refine (strict_spec _ _).mono ?_; rintro e w' ⟨rfl, rfl⟩)
    go_ret
    exact ⟨by rw [HD.out]; simp [effB, p1, p2, p3], by go_grown⟩
  case inr.inr.inr.inr =>
    go_enter Try.func15, Try.ntmps15
    go_wp2_with (go_at_call 44; refine (strict_spec _ _).mono ?_; rintro e w' ⟨rfl, rfl⟩)
    go_ret
    exact ⟨by rw [HD.out]; simp [effB, p1, p2, p3, p4], by go_grown⟩
  all_goals
    have hf : effB x.op y.op = false := by simp [effB, *]
    have HF := Lib.hid hf
    clear hf
    go_enter Try.func15, Try.ntmps15
    go_wp2_with (go_at_call 44; refine (strict_spec _ _).mono ?_; rintro e w' ⟨rfl, rfl⟩)
    rw [← HW.out]
    go_region_held3 (fun w' => Cls W w') (first | exact (Cls.refl _).drew | exact Cls.step (by assumption) (by assumption)) (first | (go_at_call 45; (with_reducible refine (changes_spec x _ ?_ IX.out).mono ?_); exact HX.out.ex (HE.out.trans (And.right (by assumption : Cls W _))); rintro e w1 ⟨v1, rfl, hv1, hb1⟩; obtain ⟨A1, k1, rfl⟩ := hv1.shape; have HV1 := Lib.hid hv1; clear hv1) | (go_at_call 45; (with_reducible refine (changes_spec y _ ?_ IY.out).mono ?_); exact HY.out.ex (HE.out.trans (And.right (by assumption : Cls W _))); rintro e w2 ⟨v2, rfl, hv2, hb2⟩; obtain ⟨A2, k2, rfl⟩ := hv2.shape; have HV2 := Lib.hid hv2; clear hv2))
    rename_i hS
    have R1 := Lib.hid (HV1.out.anyOf.ex hb2)
    have R2 := Lib.hid (HV2.out.anyOf)
    have HS := Lib.hid hS
    clear HV1 HV2 hb1 hb2 hS
    cases hc1 : common (changesL x) (changesL y) with
    | true =>
      go_wp2_with (go_at_call 46; refine (common_spec _ _ _ _ _ R1.out R2.out).mono ?_; rw [hc1]; rintro e w3 ⟨rfl, hb3⟩)
      go_ret
      exact ⟨by rw [HD.out, hc1]; simp, (HE.out.trans HS.out.2).trans hb3⟩
    | false =>
      have C1 := Lib.hid hc1
      clear hc1
      go_wp2_with (go_at_call 46; refine (common_spec _ _ _ _ _ R1.out R2.out).mono ?_; rw [C1.out]; rintro e w3 ⟨rfl, hb3⟩; have hS3 := HS.out.step hb3)
      refine (takes_spec y _ (HY.out.ex (HE.out.trans hS3.2)) IY.out).mono ?_
      rintro e w4 ⟨v4, rfl, hv4, hb4⟩
      obtain ⟨A4, k4, rfl⟩ := hv4.shape
      have hS4 := hS3.step hb4
      have R3 := Lib.hid hv4.anyOf
      have B24 := Lib.hid (hb3.trans hb4)
      have HS4 := Lib.hid hS4
      clear hS3 hS4 hb3 hb4 hv4
      cases hc2 : common (changesL x) (takesL y) with
      | true =>
        have C2 := Lib.hid hc2
        clear hc2
        go_wp2_with (go_at_call 46; refine (common_spec _ _ _ _ _ (R1.out.ex B24.out) R3.out).mono ?_; rw [C2.out]; rintro e w5 ⟨rfl, hb5⟩)
        go_ret
        exact ⟨by rw [HD.out, C2.out]; simp, (HE.out.trans HS4.out.2).trans hb5⟩
      | false =>
        have C2 := Lib.hid hc2
        clear hc2
        go_wp2_with (go_at_call 46; refine (common_spec _ _ _ _ _ (R1.out.ex B24.out) R3.out).mono ?_; rw [C2.out]; rintro e w5 ⟨rfl, hb5⟩; have hS5 := HS4.out.step hb5)
        refine (takes_spec x _ (HX.out.ex (HE.out.trans hS5.2)) IX.out).mono ?_
        rintro e w6 ⟨v6, rfl, hv6, hb6⟩
        obtain ⟨A6, k6, rfl⟩ := hv6.shape
        have hS6 := hS5.step hb6
        have R4 := Lib.hid hv6.anyOf
        have B26 := Lib.hid (B24.out.trans (hb5.trans hb6))
        have HS6 := Lib.hid hS6
        clear hS5 hS6 hb5 hb6 hv6
        go_wp2_with (go_at_call 46; refine (common_spec _ _ _ _ _ (R2.out.ex B26.out) R4.out).mono ?_; rintro e w7 ⟨rfl, hb7⟩)
        go_ret
        exact ⟨by rw [HD.out, C1.out, C2.out, HF.out]; rfl, (HE.out.trans HS6.out.2).trans hb7⟩
end Go.Proofs.Ytikkeefhhhfmmaa
