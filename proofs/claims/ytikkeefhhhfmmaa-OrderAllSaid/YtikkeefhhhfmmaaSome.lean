/- jacquardlaw17.rest and some: walks. Conditions: none. -/
import Derived.Test.YtikkeefhhhfmmaaLaw
import Derived.Test.YtikkeefhhhfmmaaRefOrders
import Derived.IntWalk
set_option linter.unusedVariables false
namespace Go.Proofs.Ytikkeefhhhfmmaa
open Go.RowKit Go.Instr

def restI (x n : Int) : Int := (x.tmod n + n) % n
theorem restI_lt {x n : Int} (h : 0 < n) : 0 ≤ restI x n ∧ restI x n < n := by
  unfold restI
  exact ⟨Int.emod_nonneg _ (by omega), Int.emod_lt_of_pos _ h⟩
set_option maxRecDepth 100000 in
theorem rest_spec (x n : Int) (w : World) (hn : 0 < n) (hn2 : n ≤ 1000000) : Calls Try.prog 27 #[.int .i64 x, .int .i64 n] w fun e w' => e = .returned (.int .i64 (restI x n)) ∧ w = w' := by
  have h1 := Int.tmod_lt_of_pos x hn
  have h2 : -n < x.tmod n := Int.lt_tmod_of_pos x hn
  go_enter Try.func27, Try.ntmps27
  go_wp2
  go_ret
  exact ⟨rfl, rfl⟩

theorem Try.infoMach : (Try.prog.info? 24).map (fun i => (i.zero, i.size, i.bytes)) = some (some (.agg #[.int .i64 0, .int .i64 0, .int .i64 0, .int .i64 0, .int .i64 0, .int .i64 0, .int .i32 0, .slice none 0 0]), 8, 80) := by kernel_rfl
/-- A slice that came in, opened. -/
theorem RawInts.open {w : World} {v : Value} {xs : List Int} (h : RawInts w v xs) : ∃ A c, v = .slice A xs.length c ∧ xs.length ≤ c ∧ c ≤ maxLen ∧
    (0 < xs.length → ∃ b off, A = some ⟨b, off, none⟩ ∧ ∀ j (hj : j < xs.length), w.cell? ⟨b, off + j, none⟩ = some (.int .i64 xs[j])) := by
  obtain ⟨⟨A, c, e, h1, h2, h3, h4⟩, _⟩ := h
  refine ⟨A, c, e, h1, h2, fun h0 => ?_⟩
  rcases h4 with h4 | ⟨b, off, e, _, hc⟩
  · rw [List.map_eq_nil_iff] at h4; subst h4; simp at h0
  · exact ⟨b, off, e, fun j hj => hc j _ (by simp [hj])⟩
theorem row_lit (W : World) (cs : List Value) (h8 : cs.length = 8) {B : Nat} (hB : W.heap.size = B) : Row any (W.alloc (.cells cs.toArray 24)).drew 8 (.slice (some ⟨B, 0, none⟩) 1 1) 1 cs := by
  subst hB
  have h := World.ownsRow_lit (base := W.heap.size) (e := 24) (size := 8) W cs.toArray 1 (Nat.le_refl _) (by decide) (by simp [h8])
  have h' : Row any (W.alloc (.cells cs.toArray 24)) 8 (.slice (some ⟨W.heap.size, 0, none⟩) 1 1) 1 cs := by
    have := Row.anyOf (Row.of_own h (by omega))
    simpa using this
  exact h'.ex (Ex.refl _).drew
theorem cells_one (op d e a b c imm : Int) (A : Option Addr) (n k : Nat) : ∀ u ∈ [Value.int .i64 op, .int .i64 d, .int .i64 e, .int .i64 a, .int .i64 b, .int .i64 c, .int .i32 imm, .slice A n k], u.oneCell' = true := by
  intro u hu
  simp only [List.mem_cons, List.not_mem_nil, or_false] at hu
  rcases hu with rfl | rfl | rfl | rfl | rfl | rfl | rfl | rfl <;> rfl
/-- An instruction without Args, newly made. -/
def Mach.plain (m : Mach) : Prop := (m.op = 3 ∨ m.op = 18 ∨ m.op = 24 ∨ m.op = 26 ∨ m.op = 30 ∨ m.op = 31) ∧ (4 ≤ m.d ∧ m.d ≤ 8) ∧ (4 ≤ m.a ∧ m.a ≤ 8) ∧ (4 ≤ m.b ∧ m.b ≤ 8) ∧ (0 ≤ m.imm ∧ m.imm ≤ 5)
def Mach.bare (m : Mach) : Prop := m.args = [] ∧ m.av = .slice none 0 0 ∧ m.word ∧ m.plain

def SomePost (w : World) (e : Ending) (w' : World) : Prop := (∃ (v' : Value) (L : List Mach), e = .returned v' ∧ L.length ≤ 6 ∧ w'.ownsRow w.heap.size 24 8 v' L.length (L.flatMap Mach.cells) ∧ ∀ m ∈ L, m.bare) ∧ Ex w w'
theorem some_rel {w w3 : World} {k j : Nat} {L : List Mach} {v2 : Value} (op r1 r2 r3 : Int) (hown : w3.ownsRow w.heap.size 24 8 v2 (j + 1) (L.flatMap Mach.cells ++ [.int .i64 op, .int .i64 r1, .int .i64 0, .int .i64 r2, .int .i64 r3, .int .i64 0, .int .i32 (j : Int), .slice none 0 0]))
    (hop : op = 3 ∨ op = 18 ∨ op = 24 ∨ op = 26 ∨ op = 30 ∨ op = 31) (h1 : 4 ≤ r1 ∧ r1 ≤ 8) (h2 : 4 ≤ r2 ∧ r2 ≤ 8) (h3 : 4 ≤ r3 ∧ r3 ≤ 8)
    (hk : k = 3 * j) (hj : j < 6) (hL : L.length = j) (hB : ∀ m ∈ L, m.bare) (hx : Ex w w3) :
    ∃ (k_1 j : Nat) (L : List Mach), Hid (k_1 = 3 * j) ∧ j ≤ 6 ∧ L.length = j ∧ Value.int IntKind.i64 ((k : Int) + 3) = Value.int IntKind.i64 k_1 ∧ w3.ownsRow w.heap.size 24 8 v2 j (L.flatMap Mach.cells) ∧ (∀ m ∈ L, m.bare) ∧ Ex w w3 := by
  refine ⟨k + 3, j + 1, L ++ [⟨op, r1, 0, r2, r3, 0, (j : Int), [], .slice none 0 0⟩], by show k + 3 = 3 * (j + 1); omega, by omega, by simp [hL], by go_num, ?_, ?_, hx⟩
  · rw [List.flatMap_append]
    exact hown
  · intro m hm
    rcases List.mem_append.1 hm with hm | hm
    · exact hB m hm
    · simp only [List.mem_singleton] at hm
      subst hm
      exact ⟨rfl, rfl, ⟨by show (-2147483648 : Int) ≤ j; omega, by show (j : Int) ≤ 2147483647; omega⟩, hop, h1, h2, h3, by show (0 : Int) ≤ j; omega, by show (j : Int) ≤ 5; omega⟩

set_option maxRecDepth 100000 in
set_option maxHeartbeats 1000000 in
theorem some_spec (v : Value) (xs : List Int) (w : World) (h : RawInts w v xs) :
    Calls Try.prog 17 #[v] w (SomePost w) := by
  obtain ⟨A, c, rfl, h1, h2, hc⟩ := h.open
  have h2' : c ≤ 9223372036854775807 := by unfold maxLen at h2; omega
  have HC := Lib.hid hc
  clear hc h2
  go_enter Try.func17, Try.ntmps17
  go_wp2
  go_loopw [3, 4] (fun u i wr => ∃ (k j : Nat) (L : List Mach), Hid (k = 3 * j) ∧ j ≤ 6 ∧ L.length = j ∧ i = .int .i64 k ∧ wr.ownsRow w.heap.size 24 8 u j (L.flatMap Mach.cells) ∧ (∀ m ∈ L, m.bare) ∧ Ex w wr) (fun _ i _ => 20 - (intOf i).toNat)
  case atStart => exact ⟨0, 0, [], rfl, Nat.zero_le _, rfl, rfl, World.ownsRow_nil _ _ _ _, by simp, Ex.refl _⟩
  case round =>
    obtain ⟨k, j, L, hk, hj, hL, rfl, hO, hB, hx⟩ := hrel
    obtain ⟨A', c', rfl⟩ := own_shape hO
    have HX := Lib.hid hx
    have HO := Lib.hid hO
    have HB := Lib.hid hB
    have HL := Lib.hid hL
    have HK := Lib.hid hk.out
    have hk18 : k ≤ 18 := by have := HK.out; omega
    clear hx hO hB hL hk
    by_cases hlt : k + 2 < xs.length ∧ k < 18
    · obtain ⟨hl1, hl2⟩ := hlt
      have hj6 : j < 6 := by have := HK.out; omega
      obtain ⟨b, off, rfl, hc⟩ := HC.out (by omega)
      have c0 := HX.out.cell (hc k (by omega))
      have c1 := HX.out.cell (hc (k + 1) (by omega))
      have c2 := HX.out.cell (hc (k + 2) (by omega))
      generalize xs[k] = x0 at *
      generalize xs[k + 1] = x1 at *
      generalize xs[k + 2] = x2 at *
      clear hc
      have R0 := restI_lt (x := x0) (n := 6) (by decide)
      have R1 := restI_lt (x := x1) (n := 5) (by decide)
      have R2 := restI_lt (x := x2) (n := 5) (by decide)
      have R3 := restI_lt (x := x0) (n := 5) (by decide)
      have S0 := Lib.hid (fun w => rest_spec x0 6 w (by decide) (by decide))
      have S1 := Lib.hid (fun w => rest_spec x1 5 w (by decide) (by decide))
      have S2 := Lib.hid (fun w => rest_spec x2 5 w (by decide) (by decide))
      have S3 := Lib.hid (fun w => rest_spec x0 5 w (by decide) (by decide))
      generalize restI x0 6 = r0 at *
      generalize restI x1 5 = r1 at *
      generalize restI x2 5 = r2 at *
      generalize restI x0 5 = r3 at *
      have w1 : IntKind.i64.wrap (r1 + 4) = r1 + 4 := wraps_i64 _ (by omega) (by omega)
      have w2 : IntKind.i64.wrap (r2 + 4) = r2 + 4 := wraps_i64 _ (by omega) (by omega)
      have w3 : IntKind.i64.wrap (r3 + 4) = r3 + 4 := wraps_i64 _ (by omega) (by omega)
      have w4 : IntKind.i64.wrap (↑k + 1) = ↑k + 1 := wraps_i64 _ (by omega) (by omega)
      have w5 : IntKind.i64.wrap (↑k + 2) = ↑k + 2 := wraps_i64 _ (by omega) (by omega)
      have t1 : ((k : Int) + 1).toNat = k + 1 := by omega
      have t2 : ((k : Int) + 2).toNat = k + 2 := by omega
      have p1 : (0 : Int) ≤ ↑k + 1 := by omega
      have p2 : (0 : Int) ≤ ↑k + 2 := by omega
      have q0 : (k : Int) < ↑xs.length := by omega
      have q1 : (k : Int) + 1 < ↑xs.length := by omega
      have q2 : (k : Int) + 2 < ↑xs.length := by omega
      have q3 : (0 : Int) ≤ ↑k := by omega
      have wi : IntKind.i32.wrap (↑j) = ↑j := by rw [IntKind.wrap_i32]; omega
      obtain ⟨W, hW⟩ : ∃ W, W = wr := ⟨_, rfl⟩
      subst hW
      have l0 := World.block_lt_of_cell? W _ c0
      go_wp2_with (go_at_call 27; with_reducible refine (S0.out _).mono ?_; rintro e w' ⟨rfl, rfl⟩)
      go_cut [6] (fun t w' => t = .pointer (some ⟨W.heap.size, 0, none⟩) ∧ w' = (W.alloc (.cells #[.int .i64 0, .int .i64 (r1 + 4), .int .i64 0, .int .i64 (r2 + 4), .int .i64 (r3 + 4), .int .i64 0, .int .i32 ↑j, .slice none 0 0] 24)).drew)
      case first =>
        go_region_held3 (fun w' => Cls W w') (first | exact (Cls.refl _).drew | exact Cls.step (by assumption) (by assumption) | exact Cls.alloc (by assumption) _ | exact ((Cls.refl W).alloc _).drew) (first
          | (go_at_call 27; with_reducible refine (S1.out _).mono ?_; rintro e w' ⟨rfl, rfl⟩)
          | (go_at_call 27; with_reducible refine (S2.out _).mono ?_; rintro e w' ⟨rfl, rfl⟩)
          | (go_at_call 27; with_reducible refine (S3.out _).mono ?_; rintro e w' ⟨rfl, rfl⟩))
        all_goals
          go_wp2
          go_meet
          case rel => exact ⟨rfl, rfl⟩
      case rest =>
        obtain ⟨rfl, rfl⟩ := hcut
        clear w1 w2 w3 w4 w5 t1 t2 p1 p2 q0 q1 q2 q3 wi S0 S1 S2 S3 c0 c1 c2 l0
        have hr : r0 = 0 ∨ r0 = 1 ∨ r0 = 2 ∨ r0 = 3 ∨ r0 = 4 ∨ r0 = 5 := by omega
        clear R0
        rcases hr with rfl | rfl | rfl | rfl | rfl | rfl
        all_goals
          go_wp2_with (at_builtin; go_must (refine app _ rfl _ _ 28 rfl w.heap.size 24 _ 8 80 Try.underlying28 Try.infoMach rfl (by decide) (by decide) _ _ _ (own_ex HO.out (((Ex.refl W).alloc _).alloc _).drew) rfl _ 1 _ (row_lit _ _ rfl (by simp)) rfl (cells_one _ _ _ _ _ _ _ _ _ _) (by omega) ((HX.out.trans (((Ex.refl W).alloc _).alloc _).drew).size) ?_); intro v2 w3 hown2 hg2 _)
          go_roundw
          case rel => exact some_rel _ _ _ _ hown2 (by decide) ⟨by omega, by omega⟩ ⟨by omega, by omega⟩ ⟨by omega, by omega⟩ HK.out hj6 HL.out HB.out (Ex.grown (HX.out.trans (((Ex.refl W).alloc _).alloc _).drew) hg2 (fun k hk => (HO.out.lt k hk).1))
          case measure => simp [intOf]; omega
    · have hn : ¬ (k + 2 < xs.length) ∨ (k + 2 < xs.length ∧ ¬ k < 18) := by omega
      have hl6 : L.length ≤ 6 := by have := HL.out; omega
      rcases hn with hn | ⟨hn1, hn⟩
      all_goals
        go_wp2
        go_ret
        exact ⟨⟨_, L, rfl, hl6, by rw [HL.out]; exact HO.out, HB.out⟩, HX.out⟩
end Go.Proofs.Ytikkeefhhhfmmaa
