/- jacquardlaw17.awake: its walk. Conditions: none. -/
import Derived.Test.YtikkeefhhhfmmaaOrders
set_option linter.unusedVariables false
namespace Go.Proofs.Ytikkeefhhhfmmaa
open Go.RowKit Go.Instr

abbrev mk (op d e a b : Int) : Mach := ⟨op, d, e, a, b, 0, 0, [], .slice none 0 0⟩
theorem mk_ok (op d e a b : Int) (w : World) : (mk op d e a b).ok any w := Nums.nil _ _ _
theorem mk_fine (op d e a b : Int) : (mk op d e a b).fine := ⟨⟨by show (-2147483648 : Int) ≤ 0; decide, by show (0 : Int) ≤ 2147483647; decide⟩, by simp⟩

theorem machs_lit {w0 w : World} (L : List Mach) (hE : Ex w0 w) (hl : L.length ≤ 1000) (hf : ∀ m ∈ L, m.ok any w ∧ m.fine) :
    Machs (fun k => w0.heap.size ≤ k) (w.alloc (.cells (L.flatMap Mach.cells).toArray 24)) (.slice (some ⟨w.heap.size, 0, none⟩) L.length L.length) L := by
  have h8 : ∀ L : List Mach, (L.flatMap Mach.cells).length = L.length * 8 := by
    intro L
    induction L with
    | nil => rfl
    | cons x L ih => rw [List.flatMap_cons, List.length_append, ih]; simp [Mach.cells]; omega
  have h := World.ownsRow_lit (base := w0.heap.size) (e := 24) (size := 8) w (L.flatMap Mach.cells).toArray L.length hE.size (by unfold maxLen; omega) (by simp [h8])
  exact ⟨Row.fresh h (by omega), fun m hm => ⟨(hf m hm).1.ex ((Ex.refl w).alloc _), (hf m hm).2⟩⟩

theorem awake_world (w : World) : ∃ W, W = ((w.alloc (.cells #[.int .i64 3, .int .i64 1, .int .i64 0, .int .i64 0, .int .i64 0, .int .i64 0, .int .i32 0, .slice none 0 0, .int .i64 3, .int .i64 2, .int .i64 0, .int .i64 0, .int .i64 0, .int .i64 0, .int .i32 0, .slice none 0 0, .int .i64 5, .int .i64 3, .int .i64 0, .int .i64 1, .int .i64 2, .int .i64 0, .int .i32 0, .slice none 0 0] 24)).alloc (.cells #[.int .i64 24, .int .i64 1, .int .i64 0, .int .i64 3, .int .i64 0, .int .i64 0, .int .i32 0, .slice none 0 0] 24)).alloc (.cells #[.int .i64 24, .int .i64 2, .int .i64 0, .int .i64 4, .int .i64 0, .int .i64 0, .int .i32 0, .slice none 0 0] 24) ∧ Ex w W ∧ w.heap.size < W.heap.size ∧ w.heap.size + 1 < W.heap.size ∧ w.heap.size + 1 + 1 < W.heap.size ∧
    Machs any W (.slice (some ⟨w.heap.size, 0, none⟩) 3 3) [mk 3 1 0 0 0, mk 3 2 0 0 0, mk 5 3 0 1 2] ∧ (
    W.cell? ⟨w.heap.size, 0, none⟩ = some (.int .i64 3) ∧ W.cell? ⟨w.heap.size, 1, none⟩ = some (.int .i64 1) ∧ W.cell? ⟨w.heap.size, 2, none⟩ = some (.int .i64 0) ∧ W.cell? ⟨w.heap.size, 3, none⟩ = some (.int .i64 0) ∧ W.cell? ⟨w.heap.size, 4, none⟩ = some (.int .i64 0) ∧ W.cell? ⟨w.heap.size, 5, none⟩ = some (.int .i64 0) ∧ W.cell? ⟨w.heap.size, 6, none⟩ = some (.int .i32 0) ∧ W.cell? ⟨w.heap.size, 7, none⟩ = some (.slice none 0 0) ∧ W.cell? ⟨w.heap.size, 8, none⟩ = some (.int .i64 3) ∧ W.cell? ⟨w.heap.size, 9, none⟩ = some (.int .i64 2) ∧ W.cell? ⟨w.heap.size, 10, none⟩ = some (.int .i64 0) ∧ W.cell? ⟨w.heap.size, 11, none⟩ = some (.int .i64 0) ∧ W.cell? ⟨w.heap.size, 12, none⟩ = some (.int .i64 0) ∧ W.cell? ⟨w.heap.size, 13, none⟩ = some (.int .i64 0) ∧ W.cell? ⟨w.heap.size, 14, none⟩ = some (.int .i32 0) ∧ W.cell? ⟨w.heap.size, 15, none⟩ = some (.slice none 0 0) ∧ W.cell? ⟨w.heap.size, 16, none⟩ = some (.int .i64 5) ∧ W.cell? ⟨w.heap.size, 17, none⟩ = some (.int .i64 3) ∧ W.cell? ⟨w.heap.size, 18, none⟩ = some (.int .i64 0) ∧ W.cell? ⟨w.heap.size, 19, none⟩ = some (.int .i64 1) ∧ W.cell? ⟨w.heap.size, 20, none⟩ = some (.int .i64 2) ∧ W.cell? ⟨w.heap.size, 21, none⟩ = some (.int .i64 0) ∧ W.cell? ⟨w.heap.size, 22, none⟩ = some (.int .i32 0) ∧ W.cell? ⟨w.heap.size, 23, none⟩ = some (.slice none 0 0) ∧ W.cell? ⟨w.heap.size + 1, 0, none⟩ = some (.int .i64 24) ∧ W.cell? ⟨w.heap.size + 1, 1, none⟩ = some (.int .i64 1) ∧ W.cell? ⟨w.heap.size + 1, 2, none⟩ = some (.int .i64 0) ∧ W.cell? ⟨w.heap.size + 1, 3, none⟩ = some (.int .i64 3) ∧ W.cell? ⟨w.heap.size + 1, 4, none⟩ = some (.int .i64 0) ∧ W.cell? ⟨w.heap.size + 1, 5, none⟩ = some (.int .i64 0) ∧ W.cell? ⟨w.heap.size + 1, 6, none⟩ = some (.int .i32 0) ∧ W.cell? ⟨w.heap.size + 1, 7, none⟩ = some (.slice none 0 0) ∧ W.cell? ⟨w.heap.size + 1 + 1, 0, none⟩ = some (.int .i64 24) ∧ W.cell? ⟨w.heap.size + 1 + 1, 1, none⟩ = some (.int .i64 2) ∧ W.cell? ⟨w.heap.size + 1 + 1, 2, none⟩ = some (.int .i64 0) ∧ W.cell? ⟨w.heap.size + 1 + 1, 3, none⟩ = some (.int .i64 4) ∧ W.cell? ⟨w.heap.size + 1 + 1, 4, none⟩ = some (.int .i64 0) ∧ W.cell? ⟨w.heap.size + 1 + 1, 5, none⟩ = some (.int .i64 0) ∧ W.cell? ⟨w.heap.size + 1 + 1, 6, none⟩ = some (.int .i32 0) ∧ W.cell? ⟨w.heap.size + 1 + 1, 7, none⟩ = some (.slice none 0 0)) := by
  have hM := machs_lit (w0 := w) (w := w) [mk 3 1 0 0 0, mk 3 2 0 0 0, mk 5 3 0 1 2] (Ex.refl w) (by simp) (by intro m hm; simp only [List.mem_cons, List.not_mem_nil, or_false] at hm; rcases hm with rfl | rfl | rfl <;> exact ⟨mk_ok _ _ _ _ _ _, mk_fine _ _ _ _ _⟩)
  have h0 : ∀ (o o2 : Obj) (i : Nat), (((w.alloc (.cells #[.int .i64 3, .int .i64 1, .int .i64 0, .int .i64 0, .int .i64 0, .int .i64 0, .int .i32 0, .slice none 0 0, .int .i64 3, .int .i64 2, .int .i64 0, .int .i64 0, .int .i64 0, .int .i64 0, .int .i32 0, .slice none 0 0, .int .i64 5, .int .i64 3, .int .i64 0, .int .i64 1, .int .i64 2, .int .i64 0, .int .i32 0, .slice none 0 0] 24)).alloc o).alloc o2).cell? ⟨w.heap.size, i, none⟩ = ([mk 3 1 0 0 0, mk 3 2 0 0 0, mk 5 3 0 1 2].flatMap Mach.cells)[i]? := fun o o2 i =>
    (World.cell?_alloc_lt _ _ _ (by simp; omega)).trans ((World.cell?_alloc_lt _ _ _ (by simp)).trans ((World.cell?_alloc_new _ _ _ _).trans (by simp [Mach.cells])))
  have h1 : ∀ (W : World) (o : Obj) (i B : Nat), W.heap.size = B → ((W.alloc (.cells #[.int .i64 24, .int .i64 1, .int .i64 0, .int .i64 3, .int .i64 0, .int .i64 0, .int .i32 0, .slice none 0 0] 24)).alloc o).cell? ⟨B, i, none⟩ = (mk 24 1 0 3 0).cells[i]? := fun W o i B hB => by
    subst hB
    exact (World.cell?_alloc_lt _ _ _ (by simp)).trans ((World.cell?_alloc_new _ _ _ _).trans (by simp [Mach.cells]))
  have h2 : ∀ (W : World) (i B : Nat), W.heap.size = B → (W.alloc (.cells #[.int .i64 24, .int .i64 2, .int .i64 0, .int .i64 4, .int .i64 0, .int .i64 0, .int .i32 0, .slice none 0 0] 24)).cell? ⟨B, i, none⟩ = (mk 24 2 0 4 0).cells[i]? := fun W i B hB => by
    subst hB
    exact (World.cell?_alloc_new _ _ _ _).trans (by simp [Mach.cells])
  refine ⟨_, rfl, (((Ex.refl w).alloc _).alloc _).alloc _, by simp; omega, by simp, by simp, (hM.ex (((Ex.refl _).alloc _).alloc _)).anyOf, h0 _ _ 0, h0 _ _ 1, h0 _ _ 2, h0 _ _ 3, h0 _ _ 4, h0 _ _ 5, h0 _ _ 6, h0 _ _ 7, h0 _ _ 8, h0 _ _ 9, h0 _ _ 10, h0 _ _ 11, h0 _ _ 12, h0 _ _ 13, h0 _ _ 14, h0 _ _ 15, h0 _ _ 16, h0 _ _ 17, h0 _ _ 18, h0 _ _ 19, h0 _ _ 20, h0 _ _ 21, h0 _ _ 22, h0 _ _ 23, h1 _ _ 0 _ (by simp), h1 _ _ 1 _ (by simp), h1 _ _ 2 _ (by simp), h1 _ _ 3 _ (by simp), h1 _ _ 4 _ (by simp), h1 _ _ 5 _ (by simp), h1 _ _ 6 _ (by simp), h1 _ _ 7 _ (by simp), h2 _ 0 _ (by simp), h2 _ 1 _ (by simp), h2 _ 2 _ (by simp), h2 _ 3 _ (by simp), h2 _ 4 _ (by simp), h2 _ 5 _ (by simp), h2 _ 6 _ (by simp), h2 _ 7 _ (by simp)⟩

theorem awake_orders : ordersI [mk 3 1 0 0 0, mk 3 2 0 0 0, mk 5 3 0 1 2] = 2 := by decide
theorem awake_d1 : dependsB (mk 26 0 0 5 6) (mk 24 1 0 3 0) = true := by decide
theorem awake_d2 : dependsB (mk 24 1 0 3 0) (mk 24 2 0 4 0) = false := by decide
theorem awake_d3 : dependsB (mk 3 1 0 0 0) (mk 5 3 0 1 2) = true := by decide
theorem awake_d4 : dependsB (mk 3 1 0 0 0) (mk 3 2 0 0 0) = false := by decide
set_option maxRecDepth 100000 in
set_option maxHeartbeats 1000000 in
theorem awake_spec (w : World) : Calls Try.prog 13 #[] w fun e w' => e = .returned (.bool true) ∧ Ex w w' := by
  go_enter Try.func13, Try.ntmps13
  obtain ⟨W, hW, hE, l0, l1, l2, hM, k0, k1, k2, k3, k4, k5, k6, k7, k8, k9, k10, k11, k12, k13, k14, k15, k16, k17, k18, k19, k20, k21, k22, k23, k24, k25, k26, k27, k28, k29, k30, k31, k32, k33, k34, k35, k36, k37, k38, k39⟩ := awake_world w
  have HW := Lib.hid hW
  have HE := Lib.hid hE
  have HM := Lib.hid hM
  clear hW hE hM
  go_wp2
  rw [← HW.out]
  go_region_held3 (fun w' => Cls W w') (first | exact (Cls.refl _).drew | exact Cls.step (by assumption) (by assumption)) (first
    | (go_at_call 18; with_reducible refine (orders_spec _ _ _ (HM.out.ex (And.right (by assumption : Cls W _)))).mono ?_; rw [awake_orders]; rintro e w3 ⟨rfl, hw3⟩)
    | (go_at_call 15; with_reducible refine (depends_spec (mk 26 0 0 5 6) (mk 24 1 0 3 0) _ (mk_ok _ _ _ _ _ _) (mk_ok _ _ _ _ _ _) (mk_fine _ _ _ _ _).1 (mk_fine _ _ _ _ _).1).mono ?_; rw [awake_d1]; rintro e w4 ⟨rfl, hw4⟩)
    | (go_at_call 15; with_reducible refine (depends_spec (mk 24 1 0 3 0) (mk 24 2 0 4 0) _ (mk_ok _ _ _ _ _ _) (mk_ok _ _ _ _ _ _) (mk_fine _ _ _ _ _).1 (mk_fine _ _ _ _ _).1).mono ?_; rw [awake_d2]; rintro e w4 ⟨rfl, hw4⟩)
    | (go_at_call 15; with_reducible refine (depends_spec (mk 3 1 0 0 0) (mk 5 3 0 1 2) _ (mk_ok _ _ _ _ _ _) (mk_ok _ _ _ _ _ _) (mk_fine _ _ _ _ _).1 (mk_fine _ _ _ _ _).1).mono ?_; rw [awake_d3]; rintro e w4 ⟨rfl, hw4⟩)
    | (go_at_call 15; with_reducible refine (depends_spec (mk 3 1 0 0 0) (mk 3 2 0 0 0) _ (mk_ok _ _ _ _ _ _) (mk_ok _ _ _ _ _ _) (mk_fine _ _ _ _ _).1 (mk_fine _ _ _ _ _).1).mono ?_; rw [awake_d4]; rintro e w4 ⟨rfl, hw4⟩))
  rename_i hS
  have HS := Lib.hid hS.2
  clear hS
  go_wp2
  go_ret
  exact ⟨rfl, HE.out.trans HS.out⟩
end Go.Proofs.Ytikkeefhhhfmmaa
