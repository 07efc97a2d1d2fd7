/- phys.Ins: which instructions are right; walks. Conditions: none. -/
import Derived.Test.YtikkeefhhhfmmaaMachs
import Derived.Test.YtikkeefhhhfmmaaRefDep
set_option linter.unusedVariables false
set_option linter.unusedSimpArgs false
namespace Go.Proofs.Ytikkeefhhhfmmaa
open Go.RowKit Go.Instr

def withinB (x a b : Int) : Bool := decide (a ≤ x) && decide (x ≤ b)
theorem within_spec (x a b : Int) (w : World) : Calls Try.prog 64 #[.int .i64 x, .int .i64 a, .int .i64 b] w fun e w' => e = .returned (.bool (withinB x a b)) ∧ w = w' := by
  by_cases h1 : a ≤ x
  · by_cases h2 : x ≤ b
    · go_enter Try.func64, Try.ntmps64
      go_wp2
      go_ret
      simp [withinB, h1, h2]
    · go_enter Try.func64, Try.ntmps64
      go_wp2
      go_ret
      simp [withinB, h1, h2]
  · have h1' : x < a := by omega
    go_enter Try.func64, Try.ntmps64
    go_wp2
    go_ret
    simp [withinB]; omega
def bitsB (x n : Int) : Bool := if n = 16 then decide (-32768 ≤ x) && decide (x < 32768) else decide (-128 ≤ x) && decide (x < 128)
theorem bits_spec (x n : Int) (hx : -2147483648 ≤ x) (hx2 : x ≤ 2147483647) (w : World) (hn : n = 16 ∨ n = 8) : Calls Try.prog 106 #[.int .i32 x, .int .i64 n] w fun e w' => e = .returned (.bool (bitsB x n)) ∧ w = w' := by
  rcases hn with rfl | rfl
  · by_cases h1 : -32768 ≤ x
    · by_cases h2 : x < 32768
      all_goals
        go_enter Try.func106, Try.ntmps106
        go_wp2
        go_ret
        simp [bitsB, h1, h2]
    · go_enter Try.func106, Try.ntmps106
      go_wp2
      go_ret
      simp [bitsB]; omega
  · by_cases h1 : -128 ≤ x
    · by_cases h2 : x < 128
      all_goals
        go_enter Try.func106, Try.ntmps106
        go_wp2
        go_ret
        simp [bitsB, h1, h2]
    · go_enter Try.func106, Try.ntmps106
      go_wp2
      go_ret
      simp [bitsB]; omega

/-- Args that count up from 0. -/
def upTo (args : List Int) (k : Nat) : Bool := (List.range k).all fun i => args[i]? == some (i : Int)
theorem upTo_succ (args : List Int) (k : Nat) : upTo args (k + 1) = (upTo args k && args[k]? == some (k : Int)) := by
  simp [upTo, List.range_succ]
def shapeB (m : Mach) : Bool :=
  if m.op = 28 then upTo m.args m.args.length && decide (m.args.length ≤ 4) && decide (m.d = 0)
  else if m.op = 29 then decide (m.d = 0) && decide (m.e = 1)
  else withinB m.op 1 31
theorem upTo_not {args : List Int} {k n : Nat} (hk : k < n) (h : args[k]? ≠ some (k : Int)) : upTo args n = false := by
  rw [Bool.eq_false_iff]
  intro hu
  simp only [upTo, List.all_eq_true, List.mem_range, beq_iff_eq] at hu
  exact h (hu k hk)

set_option maxRecDepth 100000 in
set_option maxHeartbeats 1000000 in
theorem shape_spec (m : Mach) (w : World) (h : m.ok any w) : Calls Try.prog 75 #[m.val] w fun e w' => e = .returned (.bool (shapeB m)) ∧ Ex w w' := by
  obtain ⟨op, d, e, a, b, cc, imm, args, av⟩ := m
  obtain ⟨A, c, hav, h1, h2, hc⟩ := Nums.open h
  simp only at hav
  subst hav
  have HC := Lib.hid hc
  clear hc h
  by_cases h28 : op = 28
  · subst h28
    have hS : Hid (shapeB ⟨28, d, e, a, b, cc, imm, args, .slice A args.length c⟩ = (upTo args args.length && decide (args.length ≤ 4) && decide (d = 0))) := by
      show shapeB _ = _
      simp [shapeB]
    go_enter Try.func75, Try.ntmps75
    go_wp2
    go_loopw [3, 4, 12] (fun _ _ x wr => ∃ k : Nat, k ≤ args.length ∧ x = .int .i64 k ∧ Hid (upTo args k = true) ∧ Hid (Ex w wr ∧ wr.cell? ⟨w.heap.size, 1, none⟩ = some (.int .i64 d) ∧ wr.cell? ⟨w.heap.size, 7, none⟩ = some (.slice A args.length c))) (fun _ _ x _ => args.length - (intOf x).toNat)
    case atStart => exact ⟨0, Nat.zero_le _, rfl, rfl, (Ex.refl w).alloc _, (World.cell?_alloc_new _ _ _ _).trans rfl, (World.cell?_alloc_new _ _ _ _).trans rfl⟩
    case round =>
      obtain ⟨k, hk, rfl, hu, hx⟩ := hrel
      have HU := Lib.hid hu.out
      have HX := Lib.hid hx.out.1
      obtain ⟨_, c1, c7⟩ := hx.out
      have HC1 := Lib.hid c1
      have HC7 := Lib.hid c7
      clear hu hx
      by_cases hlt : k < args.length
      · obtain ⟨b', off, rfl, hc⟩ := HC.out (by omega)
        have ck := HX.out.cell (hc k hlt)
        have hg : args[k]? = some args[k] := List.getElem?_eq_getElem hlt
        generalize args[k] = z at *
        clear hc
        by_cases hz : z = (k : Int)
        · subst hz
          have HUS : Hid (upTo args (k + 1) = true) := by show upTo _ _ = _; rw [upTo_succ, HU.out, hg]; simp
          clear hg
          go_wp2
          go_roundw
          case rel => exact ⟨k + 1, by omega, by go_num, HUS.out, HX.out, HC1.out, HC7.out⟩
          case measure => simp [intOf]; omega
        · have hz2 : (z == (k : Int)) = false := by simp [hz]
          have HUN : Hid (upTo args args.length = false) := upTo_not hlt (by rw [hg]; simpa using hz)
          clear hg
          go_wp2
          go_ret
          exact ⟨by rw [hS.out, HUN.out]; rfl, HX.out⟩
      · have he : k = args.length := by omega
        subst he
        by_cases h4 : args.length ≤ 4
        · by_cases hd : d = 0
          · have hd2 : (d == 0) = true := by simp [hd]
            go_wp2
            go_ret
            exact ⟨by rw [hS.out, HU.out]; simp [h4, hd], HX.out⟩
          · have hd2 : (d == 0) = false := by simp [hd]
            go_wp2
            go_ret
            exact ⟨by rw [hS.out, HU.out]; simp [h4, hd], HX.out⟩
        · go_wp2
          go_ret
          exact ⟨by rw [hS.out, HU.out]; simp [h4], HX.out⟩
  · have hb28 : (op == 28) = false := by simp [h28]
    by_cases h29 : op = 29
    · subst h29
      by_cases hd : d = 0
      · have hd2 : (d == 0) = true := by simp [hd]
        have he : e = 1 ∧ (e == 1) = true ∨ ¬ e = 1 ∧ (e == 1) = false := by
          by_cases he : e = 1
          · exact .inl ⟨he, by simp [he]⟩
          · exact .inr ⟨he, by simp [he]⟩
        rcases he with ⟨he, he2⟩ | ⟨he, he2⟩
        all_goals
          go_enter Try.func75, Try.ntmps75
          go_wp2
          go_ret
          exact ⟨by simp [shapeB, hd, he], by go_grown⟩
      · have hd2 : (d == 0) = false := by simp [hd]
        go_enter Try.func75, Try.ntmps75
        go_wp2
        go_ret
        exact ⟨by simp [shapeB, hd], by go_grown⟩
    · have hb29 : (op == 29) = false := by simp [h29]
      go_enter Try.func75, Try.ntmps75
      go_wp2_with (go_at_call 64; with_reducible refine (within_spec _ _ _ _).mono ?_; rintro e w' ⟨rfl, rfl⟩)
      go_ret
      exact ⟨by simp [shapeB, h28, h29], by go_grown⟩

def immB (m : Mach) : Bool :=
  if m.op = 3 then bitsB m.imm 16 else if m.op = 18 ∨ m.op = 19 then bitsB m.imm 8
  else if m.op = 20 ∨ m.op = 21 ∨ m.op = 22 then withinB m.imm 0 31 else if m.op = 24 ∨ m.op = 26 then withinB m.imm 0 255 else true
theorem imm_cases (op : Int) : op = 3 ∨ op = 18 ∨ op = 19 ∨ op = 20 ∨ op = 21 ∨ op = 22 ∨ op = 24 ∨ op = 26 ∨ (¬ op = 3 ∧ ¬ op = 18 ∧ ¬ op = 19 ∧ ¬ op = 20 ∧ ¬ op = 21 ∧ ¬ op = 22 ∧ ¬ op = 24 ∧ ¬ op = 26) := by omega
set_option maxRecDepth 100000 in
set_option maxHeartbeats 1000000 in
theorem imm_spec (m : Mach) (w : World) (h : m.ok any w) (hi : m.word) : Calls Try.prog 79 #[m.val] w fun e w' => e = .returned (.bool (immB m)) ∧ Ex w w' := by
  obtain ⟨op, d, e, a, b, cc, imm, args, av⟩ := m
  obtain ⟨A, c, hav, _⟩ := Nums.open h
  simp only at hav
  subst hav
  obtain ⟨hi1, hi2⟩ := hi
  simp only at hi1 hi2
  clear h
  rcases imm_cases op with rfl | rfl | rfl | rfl | rfl | rfl | rfl | rfl | ⟨k1, k2, k3, k4, k5, k6, k7, k8⟩
  case inr.inr.inr.inr.inr.inr.inr.inr =>
    have b1 : (op == 3) = false := by simp [k1]
    have b2 : (op == 18) = false := by simp [k2]
    have b3 : (op == 19) = false := by simp [k3]
    have b4 : (op == 20) = false := by simp [k4]
    have b5 : (op == 21) = false := by simp [k5]
    have b6 : (op == 22) = false := by simp [k6]
    have b7 : (op == 24) = false := by simp [k7]
    have b8 : (op == 26) = false := by simp [k8]
    have hI : immB ⟨op, d, e, a, b, cc, imm, args, .slice A args.length c⟩ = true := by simp [immB, k1, k2, k3, k4, k5, k6, k7, k8]
    rw [hI]
    clear hI
    go_enter Try.func79, Try.ntmps79
    go_wp2
    go_ret
    exact ⟨rfl, by go_grown⟩
  all_goals
    go_enter Try.func79, Try.ntmps79
    go_wp2_with (first
      | (go_at_call 64; with_reducible refine (within_spec _ _ _ _).mono ?_; rintro e w' ⟨rfl, rfl⟩)
      | (go_at_call 106; with_reducible refine (bits_spec _ _ hi1 hi2 _ (by omega)).mono ?_; rintro e w' ⟨rfl, rfl⟩))
    go_ret
    exact ⟨by simp [immB], by go_grown⟩
end Go.Proofs.Ytikkeefhhhfmmaa
