/- jacquardlaw17.cut and the law OrderDepends. Conditions: none. -/
import Derived.Test.YtikkeefhhhfmmaaLaw
import Derived.Test.YtikkeefhhhfmmaaAwake
import Derived.Test.YtikkeefhhhfmmaaRefDep
set_option linter.unusedVariables false
namespace Go.Proofs.Ytikkeefhhhfmmaa
open Go.RowKit Go.Instr

set_option maxRecDepth 100000 in
set_option maxHeartbeats 1000000 in
theorem cut_spec (m : Mach) (w : World) (h : RawMach w m) :
    Calls Try.prog 14 #[m.val] w fun e w' => (∃ m' : Mach, e = .returned m'.val ∧ m'.ok any w' ∧ m'.fine ∧ m'.args.length ≤ 5) ∧ Ex w w' := by
  obtain ⟨hw, ⟨A, c, hav, h1, h2, h3, h4⟩, _⟩ := h
  obtain ⟨op, d, e, a, b, cc, imm, args, av⟩ := m
  simp only at hav h1 h2 h3 h4
  subst hav
  have HW := Lib.hid hw
  have H4 := Lib.hid h4
  clear hw h4 h3
  by_cases hn : args.length ≤ 5
  · go_enter Try.func14, Try.ntmps14
    go_wp2
    go_returns
    refine ⟨⟨⟨op, d, e, a, b, cc, imm, args, .slice A args.length c⟩, rfl, ?_, ⟨HW.out, by simp; omega⟩, hn⟩, by go_grown⟩
    exact Nums.ex (w := w) ⟨A, c, rfl, h1, by show args.length ≤ _; omega, by simp, H4.out⟩ (by go_grown)
  · go_enter Try.func14, Try.ntmps14
    go_wp2
    go_returns
    have hl : (args.take 5).length = 5 := by rw [List.length_take]; omega
    refine ⟨⟨⟨op, d, e, a, b, cc, imm, args.take 5, .slice A 5 c⟩, rfl, ?_, ⟨HW.out, by simp [hl]⟩, by simp [hl]⟩, by go_grown⟩
    refine Nums.ex (w := w) ⟨A, c, by rw [hl], by rw [hl]; omega, by show (args.take 5).length ≤ _; rw [hl]; omega, by simp, ?_⟩ (by go_grown)
    rcases H4.out with h0 | ⟨b, off, e, hb, hc⟩
    · left
      rw [List.map_eq_nil_iff] at h0
      simp [h0]
    · refine .inr ⟨b, off, e, hb, fun j u hu => hc j u ?_⟩
      rw [List.map_take, List.getElem?_take] at hu
      split at hu
      · exact hu
      · cases hu

theorem takes_fine {m : Mach} (h : m.args.length ≤ 5) : (takesL m).length ≤ 1000000 := by
  unfold takesL
  split
  · simp
  · split
    · simp
    · unfold fieldsOf
      split <;> first | (simp; done) | omega
theorem common_symm (xs ys : List Int) : common xs ys = common ys xs := by
  rw [Bool.eq_iff_iff]
  simp only [common, hasN, List.any_eq_true, List.contains_iff_mem]
  constructor
  · rintro ⟨x, h1, h2⟩; exact ⟨x, h2, h1⟩
  · rintro ⟨x, h1, h2⟩; exact ⟨x, h2, h1⟩
theorem depends_symm (x y : Mach) : dependsB x y = dependsB y x := by
  unfold dependsB effB
  rw [common_symm (changesL x) (changesL y)]
  cases strictIs x.op <;> cases strictIs y.op <;> cases strictLd x.op <;> cases strictLd y.op <;> cases common (changesL y) (changesL x) <;> cases common (changesL x) (takesL y) <;> cases common (changesL y) (takesL x) <;> rfl
theorem boxed_new (w : World) (m : Mach) : boxed (w.alloc (.cells #[.int .i64 m.op, .int .i64 m.d, .int .i64 m.e, .int .i64 m.a, .int .i64 m.b, .int .i64 m.c, .int .i32 m.imm, m.av] 24)) w.heap.size m := by
  have h : ∀ i, (w.alloc (.cells #[.int .i64 m.op, .int .i64 m.d, .int .i64 m.e, .int .i64 m.a, .int .i64 m.b, .int .i64 m.c, .int .i32 m.imm, m.av] 24)).cell? ⟨w.heap.size, i, none⟩ = m.cells[i]? := fun i => (World.cell?_alloc_new _ _ _ _).trans (by simp [Mach.cells])
  exact ⟨by simp, h 0, h 1, h 2, h 3, h 4, h 5, h 6, h 7⟩

set_option maxRecDepth 100000 in
set_option maxHeartbeats 1000000 in
theorem orderDepends_walk (x y : Mach) (w : World) (hx : RawMach w x) (hy : RawMach w y) :
    Calls Try.prog 3 #[x.val, y.val] w fun e w' => e = .returned (.bool true) ∧ Ex w w' := by
  have HX := Lib.hid hx
  have HY := Lib.hid hy
  clear hx hy
  obtain ⟨W, hW, hex, hs0, hs1, ⟨c0, c1, c2, c3, c4, c5, c6, c7⟩, ⟨d0, d1, d2, d3, d4, d5, d6, d7⟩⟩ := mach_cells2 w x y
  have HE := Lib.hid hex
  have HW := Lib.hid hW
  have BX : Hid (boxed W w.heap.size x) := ⟨hs0, c0, c1, c2, c3, c4, c5, c6, c7⟩
  have BY : Hid (boxed W (w.heap.size + 1) y) := ⟨hs1, d0, d1, d2, d3, d4, d5, d6, d7⟩
  clear hex hW c0 c1 c2 c3 c4 c5 c6 c7 d0 d1 d2 d3 d4 d5 d6 d7 hs0 hs1
  go_enter Try.func3, Try.ntmps3
  go_wp2_with fail
  rw [← HW.out]
  refine (awake_spec _).mono ?_
  rintro e w1 ⟨rfl, hw1⟩
  have E1 := Lib.hid hw1
  clear hw1
  obtain ⟨hs0, c0, c1, c2, c3, c4, c5, c6, c7⟩ := BX.out.ex E1.out
  go_wp2_with fail
  with_reducible refine (cut_spec x _ (HX.out.ex (HE.out.trans E1.out))).mono ?_
  rintro e w2 ⟨⟨⟨p0, p1, p2, p3, p4, p5, p6, p7, p8⟩, rfl, ok1, f1, l1⟩, hw2⟩
  obtain ⟨A1, k1, rfl⟩ : ∃ A k, p8 = .slice A p7.length k := Nums.shape ok1
  obtain ⟨m1, hm1⟩ : ∃ m : Mach, m = ⟨p0, p1, p2, p3, p4, p5, p6, p7, .slice A1 p7.length k1⟩ := ⟨_, rfl⟩
  rw [← hm1] at ok1 f1 l1
  have E2 := Lib.hid (E1.out.trans hw2)
  have O1 := Lib.hid ok1
  have F1 := Lib.hid f1
  have L1 := Lib.hid l1
  clear hw2 ok1 f1 l1 hs0 c0 c1 c2 c3 c4 c5 c6 c7
  have BM1 : Hid (boxed (w2.alloc (.cells #[.int .i64 p0, .int .i64 p1, .int .i64 p2, .int .i64 p3, .int .i64 p4, .int .i64 p5, .int .i32 p6, .slice A1 p7.length k1] 24)) w2.heap.size m1) := by rw [hm1]; exact boxed_new w2 ⟨p0, p1, p2, p3, p4, p5, p6, p7, .slice A1 p7.length k1⟩
  have HM1 := Lib.hid hm1
  clear hm1
  obtain ⟨hs1, d0, d1, d2, d3, d4, d5, d6, d7⟩ := BY.out.ex E2.out
  go_wp2_with fail
  with_reducible refine (cut_spec y _ (HY.out.ex ((HE.out.trans E2.out).trans ((Ex.refl w2).alloc _)))).mono ?_
  rintro e w4 ⟨⟨⟨q0, q1, q2, q3, q4, q5, q6, q7, q8⟩, rfl, ok2, f2, l2⟩, hw4⟩
  obtain ⟨A2, k2, rfl⟩ : ∃ A k, q8 = .slice A q7.length k := Nums.shape ok2
  obtain ⟨m2, hm2⟩ : ∃ m : Mach, m = ⟨q0, q1, q2, q3, q4, q5, q6, q7, .slice A2 q7.length k2⟩ := ⟨_, rfl⟩
  rw [← hm2] at ok2 f2 l2
  have HM2 := Lib.hid hm2
  clear hm2
  have E4 := Lib.hid hw4
  have O2 := Lib.hid ok2
  have F2 := Lib.hid f2
  have L2 := Lib.hid l2
  clear hw4 ok2 f2 l2 hs1 d0 d1 d2 d3 d4 d5 d6 d7
  obtain ⟨W5, hW5⟩ : ∃ W5, W5 = w4.alloc (.cells #[.int .i64 q0, .int .i64 q1, .int .i64 q2, .int .i64 q3, .int .i64 q4, .int .i64 q5, .int .i32 q6, .slice A2 q7.length k2] 24) := ⟨_, rfl⟩
  have HW5 := Lib.hid hW5
  have e45 : Ex w4 W5 := by rw [hW5]; exact (Ex.refl _).alloc _
  have E5 := Lib.hid (E4.out.trans e45)
  have E45 := Lib.hid e45
  have hb2 : boxed W5 w4.heap.size m2 := by rw [hW5, HM2.out]; exact boxed_new w4 ⟨q0, q1, q2, q3, q4, q5, q6, q7, .slice A2 q7.length k2⟩
  clear hW5 e45
  have hb1 := BM1.out.ex E5.out
  rw [HM1.out] at hb1
  rw [HM2.out] at hb2
  obtain ⟨hs0, c0, c1, c2, c3, c4, c5, c6, c7⟩ := hb1
  obtain ⟨hs1, d0, d1, d2, d3, d4, d5, d6, d7⟩ := hb2
  have S1 : Hid (∀ w', Ex W5 w' → Calls Try.prog 15 #[m1.val, m2.val] w' fun e w'' => e = .returned (.bool (dependsB m1 m2)) ∧ Ex w' w'') :=
    fun w' hw => depends_spec m1 m2 w' ((O1.out.ex (((Ex.refl w2).alloc _).trans E5.out)).ex hw) ((O2.out.ex E45.out).ex hw) F1.out.1 F2.out.1
  have S2 : Hid (∀ w', Ex W5 w' → Calls Try.prog 15 #[m2.val, m1.val] w' fun e w'' => e = .returned (.bool (dependsB m1 m2)) ∧ Ex w' w'') := by
    intro w' hw
    rw [depends_symm]
    exact depends_spec m2 m1 w' ((O2.out.ex E45.out).ex hw) ((O1.out.ex (((Ex.refl w2).alloc _).trans E5.out)).ex hw) F2.out.1 F1.out.1
  have S3 : Hid (∀ w', Ex W5 w' → Calls Try.prog 16 #[m1.val, m2.val] w' fun e w'' => e = .returned (.bool (dependsB m1 m2)) ∧ Ex w' w'') :=
    fun w' hw => refDepends_spec m1 m2 w' ((O1.out.ex (((Ex.refl w2).alloc _).trans E5.out)).ex hw) ((O2.out.ex E45.out).ex hw) F1.out.1 F2.out.1 (takes_fine L2.out)
  have E0 := Lib.hid ((HE.out.trans E2.out).trans (((Ex.refl w2).alloc _).trans E5.out))
  clear O1 O2 F1 F2 L1 L2 BX BY BM1 E1 E2 E4 E5 E45 HX HY HE
  generalize dependsB m1 m2 = d at *
  rw [HM1.out, HM2.out] at S1 S2 S3
  cases d
  all_goals
    go_wp2
    rw [← HW5.out]
    go_region_held3 (fun w' => Cls W5 w') (first | exact (Cls.refl _).drew | exact Cls.step (by assumption) (by assumption)) (first
      | (go_at_call 15; with_reducible refine (S1.out _ (And.right (by assumption : Cls W5 _))).mono ?_; rintro e w3 ⟨rfl, hw3⟩)
      | (go_at_call 15; with_reducible refine (S2.out _ (And.right (by assumption : Cls W5 _))).mono ?_; rintro e w3 ⟨rfl, hw3⟩)
      | (go_at_call 16; with_reducible refine (S3.out _ (And.right (by assumption : Cls W5 _))).mono ?_; rintro e w3 ⟨rfl, hw3⟩))
    rename_i hS
    have HS := Lib.hid hS.2
    clear hS
    go_wp2
    go_ret
    exact ⟨rfl, E0.out.trans HS.out⟩
end Go.Proofs.Ytikkeefhhhfmmaa
