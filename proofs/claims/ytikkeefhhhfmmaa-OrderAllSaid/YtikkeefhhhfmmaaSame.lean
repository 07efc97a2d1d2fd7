/- order.same and order.sameEnd, slices.Equal: their walks. Conditions: none. -/
import Derived.Test.YtikkeefhhhfmmaaPfn
import Derived.Test.YtikkeefhhhfmmaaCut
import Derived.Deep.QuietTactic
import Derived.BigQuiet
import Derived.BigRegion
import Derived.Outline
set_option linter.unusedVariables false
set_option linter.unusedSimpArgs false
namespace Go.Proofs.Ytikkeefhhhfmmaa
open Go.RowKit Go.Instr

theorem take_same {xs ys : List Int} {k : Nat} (h1 : k < xs.length) (h2 : k < ys.length) (h : xs.take k = ys.take k) (he : xs[k]'h1 = ys[k]'h2) : xs.take (k + 1) = ys.take (k + 1) := by
  rw [List.take_succ_eq_append_getElem h1, List.take_succ_eq_append_getElem h2, h, he]
theorem same_not {xs ys : List Int} {k : Nat} (h1 : k < xs.length) (h2 : k < ys.length) (he : ¬ xs[k] = ys[k]) : (xs == ys) = false := by
  rw [beq_eq_false_iff_ne]
  intro h
  subst h
  exact he rfl
set_option maxRecDepth 100000 in
set_option maxHeartbeats 1000000 in
theorem equal_spec (v1 v2 : Value) (xs ys : List Int) (w : World) (h1 : Ints any w v1 xs) (h2 : Ints any w v2 ys) :
    Calls Try.prog 123 #[v1, v2] w fun e w' => e = .returned (.bool (xs == ys)) ∧ Ex w w' := by
  obtain ⟨A1, c1, rfl, a1, b1, hc1⟩ := h1.open
  obtain ⟨A2, c2, rfl, a2, b2, hc2⟩ := h2.open
  have H1 := Lib.hid hc1
  have H2 := Lib.hid hc2
  clear h1 h2 hc1 hc2
  by_cases hl : xs.length = ys.length
  · have HL := Lib.hid hl
    have hl2 : ys.length ≤ xs.length := by omega
    have hl3 : xs.length ≤ ys.length := by omega
    have hn : ((xs.length : Int) != (ys.length : Int)) = false := by simp [hl]
    clear hl
    go_enter Try.func123, Try.ntmps123
    go_wp2
    go_loopw [5, 13] (fun _ x wr => ∃ k : Nat, k ≤ xs.length ∧ x = .int .i64 k ∧ Hid (xs.take k = ys.take k) ∧ Ex w wr) (fun _ x _ => xs.length - (intOf x).toNat)
    case atStart => exact ⟨0, Nat.zero_le _, rfl, by simp [Hid], Ex.refl _⟩
    case round =>
      obtain ⟨k, hk, rfl, hu, hx⟩ := hrel
      have HU := Lib.hid hu.out
      have HX := Lib.hid hx
      clear hu hx
      by_cases hlt : k < xs.length
      · obtain ⟨b1', o1, rfl, hc1⟩ := H1.out (by omega)
        obtain ⟨b2', o2, rfl, hc2⟩ := H2.out (by omega)
        have d1 := HX.out.cell (hc1 k hlt)
        have d2 := HX.out.cell (hc2 k (by omega))
        have hk2 : k < ys.length := by omega
        have hs := fun he => take_same hlt hk2 HU.out he
        have hs2 := same_not (xs := xs) (ys := ys) hlt (by omega)
        have HS := Lib.hid hs
        have HS2 := Lib.hid hs2
        clear hc1 hc2 hs hs2
        generalize xs[k] = x at *
        generalize ys[k]'hk2 = y at *
        have q1 : (0 : Int) ≤ ↑k := by omega
        have q2 : (k : Int) < ↑xs.length := by omega
        have q3 : (k : Int) < ↑ys.length := by omega
        by_cases he : x = y
        · have hb : (x != y) = false := by simp [he]
          have HE := Lib.hid he
          clear he
          go_wp2
          go_quiet (fail)
          go_wp2
          go_roundw
          case rel => exact ⟨k + 1, by omega, by go_num, HS.out HE.out, HX.out.drewN _⟩
          case measure => simp [intOf]; omega
        · have hb : (x != y) = true := by simp [he]
          have HE := Lib.hid he
          clear he
          go_wp2
          go_quiet (fail)
          go_wp2
          go_ret
          exact ⟨by rw [HS2.out HE.out]; rfl, HX.out.drewN _⟩
      · have he : xs = ys := by
          have := HU.out
          rwa [List.take_of_length_le (by omega), List.take_of_length_le (by omega)] at this
        have HE := Lib.hid he
        clear he
        go_wp2
        go_ret
        exact ⟨by rw [HE.out]; simp, HX.out⟩
  · have hn : ((xs.length : Int) != (ys.length : Int)) = true := by simp; omega
    have hs : (xs == ys) = false := by rw [beq_eq_false_iff_ne]; intro h; exact hl (by rw [h])
    rw [hs]
    clear hl hs
    go_enter Try.func123, Try.ntmps123
    go_wp2
    go_ret
    exact ⟨rfl, Ex.refl _⟩

def sameM (x y : Mach) : Bool := x.op == y.op && (x.d == y.d && (x.e == y.e && (x.a == y.a && (x.b == y.b && (x.c == y.c && (x.imm == y.imm && x.args == y.args))))))
def sameB (x y : Placed) : Bool := x.frm == y.frm && sameM x.m y.m
def sameE (x y : EndI) : Bool := x.op == y.op && (x.a == y.a && (x.b == y.b && (x.imm == y.imm && x.tos == y.tos)))

set_option maxRecDepth 100000 in
set_option maxHeartbeats 1000000 in
theorem sameEnd_spec (x y : EndI) (w : World) (hx : x.ok any w) (hy : y.ok any w) :
    Calls Try.prog 92 #[x.val, y.val] w fun e w' => e = .returned (.bool (sameE x y)) ∧ Ex w w' := by
  obtain ⟨A1, k1, h1⟩ := Nums.shape hx
  obtain ⟨A2, k2, h2⟩ := Nums.shape hy
  have HX := Lib.hid hx
  have HY := Lib.hid hy
  clear hx hy
  obtain ⟨xop, xa, xb, xt, xv, xi⟩ := x
  obtain ⟨yop, ya, yb, yt, yv, yi⟩ := y
  simp only at h1 h2
  subst h1 h2
  have HX1 : Hid (Ints any w (.slice A1 xt.length k1) xt) := HX.out
  have HY1 : Hid (Ints any w (.slice A2 yt.length k2) yt) := HY.out
  clear HX HY
  have hc : (xop == yop) = false ∨ ((xop == yop) = true ∧ (xa == ya) = false) ∨ ((xop == yop) = true ∧ (xa == ya) = true ∧ (xb == yb) = false) ∨ ((xop == yop) = true ∧ (xa == ya) = true ∧ (xb == yb) = true ∧ (xi == yi) = false) ∨
      ((xop == yop) = true ∧ (xa == ya) = true ∧ (xb == yb) = true ∧ (xi == yi) = true) := by
    cases (xop == yop) <;> cases (xa == ya) <;> cases (xb == yb) <;> cases (xi == yi) <;> simp
  rcases hc with q1 | ⟨q1, q2⟩ | ⟨q1, q2, q3⟩ | ⟨q1, q2, q3, q4⟩ | ⟨q1, q2, q3, q4⟩
  case inr.inr.inr.inr =>
    have hs : sameE ⟨xop, xa, xb, xt, .slice A1 xt.length k1, xi⟩ ⟨yop, ya, yb, yt, .slice A2 yt.length k2, yi⟩ = (xt == yt) := by simp [sameE, q1, q2, q3, q4]
    rw [hs]
    clear hs
    go_enter Try.func92, Try.ntmps92
    go_wp2_with (go_at_call 123; with_reducible refine (equal_spec _ _ xt yt _ (Nums.ex HX1.out (((Ex.refl w).alloc _).alloc _)) (Nums.ex HY1.out (((Ex.refl w).alloc _).alloc _))).mono ?_; rintro e w' ⟨rfl, hw⟩)
    go_ret
    exact ⟨rfl, Ex.trans (((Ex.refl w).alloc _).alloc _) hw⟩
  all_goals
    have hs : sameE ⟨xop, xa, xb, xt, .slice A1 xt.length k1, xi⟩ ⟨yop, ya, yb, yt, .slice A2 yt.length k2, yi⟩ = false := by simp [sameE, *]
    rw [hs]
    clear hs
    go_enter Try.func92, Try.ntmps92
    go_wp2
    go_ret
    exact ⟨rfl, by go_grown⟩

theorem placed_cells2 (w : World) (x y : Placed) : ∃ W, W = (w.alloc (.cells x.cells.toArray 49)).alloc (.cells y.cells.toArray 49) ∧ Ex w W ∧ w.heap.size < W.heap.size ∧ w.heap.size + 1 < W.heap.size ∧
    At9 W w.heap.size 0 x ∧ At9 W (w.heap.size + 1) 0 y := by
  have h1 : ∀ i, ((w.alloc (.cells x.cells.toArray 49)).alloc (.cells y.cells.toArray 49)).cell? ⟨w.heap.size, i, none⟩ = x.cells[i]? := fun i =>
    (World.cell?_alloc_lt _ _ _ (by simp)).trans ((World.cell?_alloc_new _ _ _ _).trans (by simp))
  have h2 : ∀ i, ((w.alloc (.cells x.cells.toArray 49)).alloc (.cells y.cells.toArray 49)).cell? ⟨w.heap.size + 1, i, none⟩ = y.cells[i]? := fun i => by
    rw [show w.heap.size + 1 = (w.alloc (.cells x.cells.toArray 49)).heap.size by simp]
    exact (World.cell?_alloc_new _ _ _ _).trans (by simp)
  exact ⟨_, rfl, by go_grown, by simp; omega, by simp, ⟨h1 0, h1 1, h1 2, h1 3, h1 4, h1 5, h1 6, h1 7, h1 8⟩, ⟨h2 0, h2 1, h2 2, h2 3, h2 4, h2 5, h2 6, h2 7, h2 8⟩⟩

theorem boxed_new2 (w : World) (m : Mach) {B : Nat} (hB : w.heap.size = B) : boxed (w.alloc (.cells #[.int .i64 m.op, .int .i64 m.d, .int .i64 m.e, .int .i64 m.a, .int .i64 m.b, .int .i64 m.c, .int .i32 m.imm, m.av] 24)).drew B m := by
  subst hB
  exact (boxed_new w m).ex (Ex.refl _).drew
set_option maxRecDepth 100000 in
set_option maxHeartbeats 2000000 in
theorem same_spec (x y : Placed) (w : World) (hx : x.okw w) (hy : y.okw w) :
    Calls Try.prog 122 #[x.val, y.val] w fun e w' => e = .returned (.bool (sameB x y)) ∧ Ex w w' := by
  obtain ⟨W, hW, hex, l0, l1, hA, hB⟩ := placed_cells2 w x y
  obtain ⟨A1, k1, h1⟩ := Nums.shape hx.1
  obtain ⟨A2, k2, h2⟩ := Nums.shape hy.1
  have HE := Lib.hid hex
  have HX := Lib.hid (hx.1.ex hex)
  have HY := Lib.hid (hy.1.ex hex)
  clear hx hy hex
  obtain ⟨⟨xop, xd, xe, xa, xb, xc, xi, xs, xv⟩, xf⟩ := x
  obtain ⟨⟨yop, yd, ye, ya, yb, yc, yi, ys, yv⟩, yf⟩ := y
  simp only at h1 h2
  subst h1 h2
  simp only [Placed.cells] at hW
  have HW := Lib.hid hW
  have HA := Lib.hid hA
  have HB := Lib.hid hB
  clear hW
  obtain ⟨a0, a1, a2, a3, a4, a5, a6, a7, a8⟩ := hA
  obtain ⟨b0, b1, b2, b3, b4, b5, b6, b7, b8⟩ := hB
  simp only [Nat.zero_add] at a0 a1 a2 a3 a4 a5 a6 a7 a8 b0 b1 b2 b3 b4 b5 b6 b7 b8
  go_enter Try.func122, Try.ntmps122
  go_wp2
  rw [← HW.out]
  go_cut [5, 6] (fun t u w' => ∃ B5 B6, t = .pointer (some ⟨B5, 0, none⟩) ∧ u = .pointer (some ⟨B6, 0, none⟩) ∧ boxed w' B5 ⟨xop, xd, xe, xa, xb, xc, xi, xs, .slice A1 xs.length k1⟩ ∧ boxed w' B6 ⟨yop, yd, ye, ya, yb, yc, yi, ys, .slice A2 ys.length k2⟩ ∧ Ex W w')
  case first =>
    go_region
    · go_wp2
      go_meet
      case rel => exact ⟨_, _, rfl, rfl, ((boxed_new W ⟨xop, xd, xe, xa, xb, xc, xi, xs, .slice A1 xs.length k1⟩).ex ((Ex.refl _).alloc _)).ex (Ex.refl _).drew, boxed_new2 _ ⟨yop, yd, ye, ya, yb, yc, yi, ys, .slice A2 ys.length k2⟩ (by simp), (((Ex.refl W).alloc _).alloc _).drew⟩
    · go_wp2
      go_meet
      case rel => exact ⟨_, _, rfl, rfl, boxed_new2 _ ⟨xop, xd, xe, xa, xb, xc, xi, xs, .slice A1 xs.length k1⟩ (by simp), ((boxed_new W ⟨yop, yd, ye, ya, yb, yc, yi, ys, .slice A2 ys.length k2⟩).ex ((Ex.refl _).alloc _)).ex (Ex.refl _).drew, (((Ex.refl W).alloc _).alloc _).drew⟩
  case rest =>
    obtain ⟨B5, B6, rfl, rfl, k5, k6, hx⟩ := hcut
    obtain ⟨W1, hW1⟩ : ∃ W1, W1 = wc := ⟨_, rfl⟩
    subst hW1
    clear a0 a1 a2 a3 a4 a5 a6 a7 b0 b1 b2 b3 b4 b5 b6 b7
    have a8 := hx.cell a8
    have b8 := hx.cell b8
    obtain ⟨_, c0, c1, c2, c3, c4, c5, c6, c7⟩ := k5
    obtain ⟨_, d0, d1, d2, d3, d4, d5, d6, d7⟩ := k6
    have HX2 := Lib.hid hx
    have HX1 : Hid (Ints any W1 (.slice A1 xs.length k1) xs) := HX.out.ex hx
    have HY1 : Hid (Ints any W1 (.slice A2 ys.length k2) ys) := HY.out.ex hx
    clear hx HX HY HA HB HW
    have hc : (xf == yf) = false ∨ ((xf == yf) = true ∧ (xop == yop) = false) ∨ ((xf == yf) = true ∧ (xop == yop) = true ∧ (xd == yd) = false) ∨ ((xf == yf) = true ∧ (xop == yop) = true ∧ (xd == yd) = true ∧ (xe == ye) = false) ∨
        ((xf == yf) = true ∧ (xop == yop) = true ∧ (xd == yd) = true ∧ (xe == ye) = true ∧ (xa == ya) = false) ∨ ((xf == yf) = true ∧ (xop == yop) = true ∧ (xd == yd) = true ∧ (xe == ye) = true ∧ (xa == ya) = true ∧ (xb == yb) = false) ∨
        ((xf == yf) = true ∧ (xop == yop) = true ∧ (xd == yd) = true ∧ (xe == ye) = true ∧ (xa == ya) = true ∧ (xb == yb) = true ∧ (xc == yc) = false) ∨
        ((xf == yf) = true ∧ (xop == yop) = true ∧ (xd == yd) = true ∧ (xe == ye) = true ∧ (xa == ya) = true ∧ (xb == yb) = true ∧ (xc == yc) = true ∧ (xi == yi) = false) ∨
        ((xf == yf) = true ∧ (xop == yop) = true ∧ (xd == yd) = true ∧ (xe == ye) = true ∧ (xa == ya) = true ∧ (xb == yb) = true ∧ (xc == yc) = true ∧ (xi == yi) = true) := by
      cases (xf == yf) <;> cases (xop == yop) <;> cases (xd == yd) <;> cases (xe == ye) <;> cases (xa == ya) <;> cases (xb == yb) <;> cases (xc == yc) <;> cases (xi == yi) <;> simp
    rcases hc with q0 | ⟨q0, q1⟩ | ⟨q0, q1, q2⟩ | ⟨q0, q1, q2, q3⟩ | ⟨q0, q1, q2, q3, q4⟩ | ⟨q0, q1, q2, q3, q4, q5⟩ | ⟨q0, q1, q2, q3, q4, q5, q6⟩ | ⟨q0, q1, q2, q3, q4, q5, q6, q7⟩ | ⟨q0, q1, q2, q3, q4, q5, q6, q7⟩
    case inr.inr.inr.inr.inr.inr.inr.inr =>
      have hs : Hid (sameB ⟨⟨xop, xd, xe, xa, xb, xc, xi, xs, .slice A1 xs.length k1⟩, xf⟩ ⟨⟨yop, yd, ye, ya, yb, yc, yi, ys, .slice A2 ys.length k2⟩, yf⟩ = (xs == ys)) := by
        show sameB _ _ = _; simp only [sameB, sameM, q0, q1, q2, q3, q4, q5, q6, q7, Bool.true_and]
      go_wp2_with (go_at_call 123; with_reducible refine (equal_spec _ _ xs ys _ HX1.out HY1.out).mono ?_; rintro e w' ⟨rfl, hw⟩)
      go_ret
      exact ⟨by rw [hs.out]; rfl, HE.out.trans (HX2.out.trans hw)⟩
    all_goals
      have hs : Hid (sameB ⟨⟨xop, xd, xe, xa, xb, xc, xi, xs, .slice A1 xs.length k1⟩, xf⟩ ⟨⟨yop, yd, ye, ya, yb, yc, yi, ys, .slice A2 ys.length k2⟩, yf⟩ = false) := by
        show sameB _ _ = _; simp [sameB, sameM, *]
      go_wp2
      go_ret
      exact ⟨by rw [hs.out]; rfl, HE.out.trans HX2.out⟩
end Go.Proofs.Ytikkeefhhhfmmaa
