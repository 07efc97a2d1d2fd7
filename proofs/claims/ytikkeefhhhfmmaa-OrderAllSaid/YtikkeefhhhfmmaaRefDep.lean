/- The reference's Depends answers as order.Depends does. Conditions: the instructions' Args read as lists, their numbers are words. -/
import Derived.Test.YtikkeefhhhfmmaaRef17
import Derived.Deep.QuietTactic
set_option linter.unusedVariables false
namespace Go.Proofs.Ytikkeefhhhfmmaa
open Go.RowKit Go.Instr

set_option maxHeartbeats 1000000 in
theorem effect_spec (op : Int) (w : World) : Calls Try.prog 51 #[.int .i64 op] w fun e w' => e = .returned (.bool (strictIs op)) ∧ w = w' := by
  have hs : strictIs op = (op == 28 || op == 26 || op == 27 || op == 17 || op == 24 || op == 25) := by
    unfold strictIs
    cases (op == 24) <;> cases (op == 25) <;> cases (op == 28) <;> cases (op == 26) <;> cases (op == 27) <;> cases (op == 17) <;> rfl
  rw [hs]
  clear hs
  go_enter Try.func51, Try.ntmps51
  go_wp2
  all_goals go_ret
  all_goals simp_all
set_option maxHeartbeats 400000 in
theorem load_spec (op : Int) (w : World) : Calls Try.prog 52 #[.int .i64 op] w fun e w' => e = .returned (.bool (strictLd op)) ∧ w = w' := by
  go_enter Try.func52, Try.ntmps52
  go_wp2
  all_goals go_ret
  all_goals simp_all [strictLd]

theorem common_take {xs ys : List Int} {k : Nat} (hk : k < xs.length) (h1 : common (xs.take k) ys = false) (h2 : xs[k] ∉ ys) : Hid (common (xs.take (k + 1)) ys = false) :=
  any_take hk h1 (by simp [hasN, h2])
theorem common_hit {xs ys : List Int} {i k : Nat} (hi : i < xs.length) (hk : k < ys.length) (h : xs[i] = ys[k]) : common xs ys = true := by
  unfold common
  rw [List.any_eq_true]
  exact ⟨xs[i], List.getElem_mem _, by simp [hasN, h]⟩

set_option maxRecDepth 100000 in
set_option maxHeartbeats 2000000 in
theorem meet_spec (v1 v2 : Value) (xs ys : List Int) (w : World) (h1 : Ints any w v1 xs) (h2 : Ints any w v2 ys) :
    Calls Try.prog 49 #[v1, v2] w fun e w' => e = .returned (.bool (common xs ys)) ∧ Ex w w' := by
  obtain ⟨A1, c1, rfl, _, hl1, hc1⟩ := h1.open
  obtain ⟨A2, c2, rfl, _, hl2, hc2⟩ := h2.open
  have HC1 := Lib.hid hc1
  have HC2 := Lib.hid hc2
  clear h1 h2 hc1 hc2
  go_enter Try.func49, Try.ntmps49
  go_wp2
  go_loopw [5, 6] (fun i _ wr => ∃ k : Nat, k ≤ xs.length ∧ i = .int .i64 k ∧ Hid (common (xs.take k) ys = false) ∧ Ex w wr) (fun i _ _ => xs.length - (intOf i).toNat)
  case atStart => exact ⟨0, Nat.zero_le _, rfl, rfl, Ex.refl _⟩
  case round =>
    obtain ⟨i, hi, rfl, hn, hex⟩ := hrel
    have HN : Hid (common (xs.take i) ys = false) := hn
    have HX := Lib.hid hex
    clear hn hex
    by_cases hlt : i < xs.length
    · go_wp2
      obtain ⟨b1, o1, rfl, hd1⟩ := HC1.out (by omega)
      have D1 := Lib.hid (hd1 i hlt)
      clear hd1
      go_loopw [6] (fun k wq => ∃ j : Nat, j ≤ ys.length ∧ k = .int .i64 j ∧ Hid (xs[i] ∉ ys.take j) ∧ Ex w wq) (fun k _ => ys.length - (intOf k).toNat)
      case atStart => exact ⟨0, Nat.zero_le _, rfl, by simp [Hid], HX.out⟩
      case round =>
        obtain ⟨j, hj, rfl, hn2, hex2⟩ := hrel
        have HN2 : Hid (xs[i] ∉ ys.take j) := hn2
        have HX2 := Lib.hid hex2
        clear hn2 hex2
        by_cases hlj : j < ys.length
        · obtain ⟨b2, o2, rfl, hd2⟩ := HC2.out (by omega)
          have e1 := HX2.out.cell D1.out
          have e2 := HX2.out.cell (hd2 j hlj)
          clear hd2
          clear HC1 HC2
          go_wp2
          go_quiet (fail)
          by_cases he : xs[i] = ys[j]
          · have hb : (xs[i] == ys[j]) = true := by simp [he]
            have H2 := Lib.hid he
            clear he
            go_wp2
            go_ret
            exact ⟨by rw [common_hit hlt hlj H2.out]; rfl, HX2.out.drewN _⟩
          · have hb : (xs[i] == ys[j]) = false := by simp [he]
            have H2 := Lib.hid he
            clear he
            go_wp2
            go_roundw
            case rel => exact ⟨j + 1, by omega, by go_num, notMem_take hlj HN2.out H2.out, HX2.out.drewN _⟩
            case measure => simp [intOf]; omega
        · go_wp2
          go_roundw
          case rel => exact ⟨i + 1, by omega, by go_num, common_take hlt HN.out (by have := HN2.out; rwa [List.take_of_length_le (by omega)] at this), HX2.out⟩
          case measure => simp [intOf]; omega
    · go_wp2
      go_ret
      have h1 := HN.out
      rw [List.take_of_length_le (by omega)] at h1
      exact ⟨by rw [h1]; rfl, HX.out⟩

theorem changesL_len (m : Mach) : (changesL m).length ≤ 5 := by
  have h1 := makesL_len m
  have h2 := spoilsL_len m
  unfold changesL
  rw [List.length_append]
  omega
theorem common_append (xs ys zs : List Int) : common xs (ys ++ zs) = (common xs ys || common xs zs) := by
  rw [Bool.eq_iff_iff]
  simp only [common, hasN, List.any_eq_true, Bool.or_eq_true, List.contains_iff_mem, List.mem_append]
  constructor
  · rintro ⟨x, hx, h | h⟩
    · exact .inl ⟨x, hx, h⟩
    · exact .inr ⟨x, hx, h⟩
  · rintro (⟨x, hx, h⟩ | ⟨x, hx, h⟩)
    · exact ⟨x, hx, .inl h⟩
    · exact ⟨x, hx, .inr h⟩
/-- An instruction lies in the variable at block B. -/
def boxed (w : World) (B : Nat) (m : Mach) : Prop := B < w.heap.size ∧
    w.cell? ⟨B, 0, none⟩ = some (.int .i64 m.op) ∧ w.cell? ⟨B, 1, none⟩ = some (.int .i64 m.d) ∧ w.cell? ⟨B, 2, none⟩ = some (.int .i64 m.e) ∧ w.cell? ⟨B, 3, none⟩ = some (.int .i64 m.a) ∧
    w.cell? ⟨B, 4, none⟩ = some (.int .i64 m.b) ∧ w.cell? ⟨B, 5, none⟩ = some (.int .i64 m.c) ∧ w.cell? ⟨B, 6, none⟩ = some (.int .i32 m.imm) ∧ w.cell? ⟨B, 7, none⟩ = some m.av
theorem boxed.ex {w w' : World} {B : Nat} {m : Mach} (h : boxed w B m) (hb : Ex w w') : boxed w' B m := by
  obtain ⟨h0, h1, h2, h3, h4, h5, h6, h7, h8⟩ := h
  exact ⟨Nat.lt_of_lt_of_le h0 hb.size, hb.cell h1, hb.cell h2, hb.cell h3, hb.cell h4, hb.cell h5, hb.cell h6, hb.cell h7, hb.cell h8⟩

set_option maxRecDepth 100000 in
set_option maxHeartbeats 8000000 in
theorem refDepends_spec (x y : Mach) (w : World) (hx : x.ok any w) (hy : y.ok any w) (ix : x.word) (iy : y.word) (hly : (takesL y).length ≤ 1000000) :
    Calls Try.prog 16 #[x.val, y.val] w fun e w' => e = .returned (.bool (dependsB x y)) ∧ Ex w w' := by
  have HX := Lib.hid hx
  have HY := Lib.hid hy
  have IX := Lib.hid ix
  have IY := Lib.hid iy
  have HLY := Lib.hid hly
  clear hx hy ix iy hly
  obtain ⟨W, hW, hex, hs0, hs1, ⟨c0, c1, c2, c3, c4, c5, c6, c7⟩, ⟨d0, d1, d2, d3, d4, d5, d6, d7⟩⟩ := mach_cells2 w x y
  have HE := Lib.hid hex
  have HW := Lib.hid hW
  have BX : Hid (boxed W w.heap.size x) := ⟨hs0, c0, c1, c2, c3, c4, c5, c6, c7⟩
  have BY : Hid (boxed W (w.heap.size + 1) y) := ⟨hs1, d0, d1, d2, d3, d4, d5, d6, d7⟩
  clear hex hW hs1 d0 d1 d2 d3 d4 d5 d6 d7
  go_enter Try.func16, Try.ntmps16
  go_wp2
  rw [← HW.out]
  go_cut [5] (fun t w' => Cls W w' ∧ Ints any w' t (changesL x))
  case first =>
    go_region_held3 (fun w' => Cls W w') (first | exact (Cls.refl _).drew | exact Cls.step (by assumption) (by assumption) | exact Cls.alloc (by assumption) _ | exact Cls.grows (by assumption) (by assumption)) (first
      | (refine step_app rfl _ (.tmp 11) (.tmp 13) 22 rfl W.heap.size 3 _ 1 8 Try.underlying22 Try.info3 rfl (by decide) (by decide) (.slice (some ⟨_, 0, none⟩) 0 0) 0 [] ?_ rfl (.slice A1 (makesL x).length k1) (makesL x).length ((makesL x).map (.int .i64)) ?_ rfl (ints_one _) ?_ ?_ ?_; (first | exact own_ex (own_empty (Ex.refl W).drew (by simp)) hb1 | exact own_empty ((Ex.refl W).drew.trans hb1) rfl); (first | exact HV1.out.anyOf | exact HV1.out.anyOf.ex ((Ex.refl _).alloc _)); (have := makesL_len x; omega); exact (And.right (by assumption : Cls W _)).size; intro A2 k2 w2 hown2 hg2 _; rw [Nat.zero_add, List.nil_append] at hown2; rw [Nat.zero_add]; have HO2 := Lib.hid hown2; clear hown2)
      | (refine step_app rfl _ (.tmp 14) (.tmp 16) 22 rfl W.heap.size 3 _ 1 8 Try.underlying22 Try.info3 rfl (by decide) (by decide) (.slice A2 (makesL x).length k2) (makesL x).length ((makesL x).map (.int .i64)) (own_ex HO2.out hb3) rfl (.slice A3 (spoilsL x).length k3) (spoilsL x).length ((spoilsL x).map (.int .i64)) HV3.out.anyOf rfl (ints_one _) ?_ ?_ ?_; (have := makesL_len x; have := spoilsL_len x; omega); exact (And.right (by assumption : Cls W _)).size; intro A4 k4 w4 hown4 hg4 _; have HO4 := Lib.hid hown4; clear hown4)
      | (go_at_call 47; refine (refMakes_spec x _ IX.out).mono ?_; rintro e w1 ⟨v1, rfl, hv1, hb1⟩; obtain ⟨A1, k1, rfl⟩ := hv1.shape; have HV1 := Lib.hid hv1; clear hv1)
      | (go_at_call 48; refine (refSpoils_spec x _).mono ?_; rintro e w3 ⟨v3, rfl, hv3, hb3⟩; obtain ⟨A3, k3, rfl⟩ := hv3.shape; have HV3 := Lib.hid hv3; clear hv3))
    all_goals
      go_wp2
      go_meet
      case rel =>
        refine ⟨by assumption, ?_⟩
        exact (Nums.of_app HO4.out (by have := makesL_len x; have := spoilsL_len x; omega)).anyOf
  case rest =>
    clear hs0 c0 c1 c2 c3 c4 c5 c6 c7
    obtain ⟨hS, hv5⟩ := hcut
    obtain ⟨A5, k5, rfl⟩ := hv5.shape
    have R5 := Lib.hid hv5
    have E1 := Lib.hid hS.2
    obtain ⟨hs1, d0, d1, d2, d3, d4, d5, d6, d7⟩ := BY.out.ex hS.2
    clear hS hv5
    obtain ⟨W1, hW1⟩ : ∃ W1, W1 = wc := ⟨_, rfl⟩
    subst hW1
    go_wp2
    go_cut [6] (fun t w' => Cls W1 w' ∧ Ints any w' t (changesL y))
    case first =>
      go_region_held3 (fun w' => Cls W1 w') (first | exact (Cls.refl _).drew | exact Cls.step (by assumption) (by assumption) | exact Cls.alloc (by assumption) _ | exact Cls.grows (by assumption) (by assumption)) (first
        | (refine step_app rfl _ (.tmp 18) (.tmp 20) 22 rfl W1.heap.size 3 _ 1 8 Try.underlying22 Try.info3 rfl (by decide) (by decide) (.slice (some ⟨_, 0, none⟩) 0 0) 0 [] ?_ rfl (.slice A1 (makesL y).length k1) (makesL y).length ((makesL y).map (.int .i64)) ?_ rfl (ints_one _) ?_ ?_ ?_; (first | exact own_ex (own_empty (Ex.refl W1).drew (by simp)) hb1 | exact own_empty ((Ex.refl W1).drew.trans hb1) rfl); (first | exact HV1.out.anyOf | exact HV1.out.anyOf.ex ((Ex.refl _).alloc _)); (have := makesL_len y; omega); exact (And.right (by assumption : Cls W1 _)).size; intro A2 k2 w2 hown2 hg2 _; rw [Nat.zero_add, List.nil_append] at hown2; rw [Nat.zero_add]; have HO2 := Lib.hid hown2; clear hown2)
        | (refine step_app rfl _ (.tmp 21) (.tmp 23) 22 rfl W1.heap.size 3 _ 1 8 Try.underlying22 Try.info3 rfl (by decide) (by decide) (.slice A2 (makesL y).length k2) (makesL y).length ((makesL y).map (.int .i64)) (own_ex HO2.out hb3) rfl (.slice A3 (spoilsL y).length k3) (spoilsL y).length ((spoilsL y).map (.int .i64)) HV3.out.anyOf rfl (ints_one _) ?_ ?_ ?_; (have := makesL_len y; have := spoilsL_len y; omega); exact (And.right (by assumption : Cls W1 _)).size; intro A4 k4 w4 hown4 hg4 _; have HO4 := Lib.hid hown4; clear hown4)
        | (go_at_call 47; refine (refMakes_spec y _ IY.out).mono ?_; rintro e w1 ⟨v1, rfl, hv1, hb1⟩; obtain ⟨A1, k1, rfl⟩ := hv1.shape; have HV1 := Lib.hid hv1; clear hv1)
        | (go_at_call 48; refine (refSpoils_spec y _).mono ?_; rintro e w3 ⟨v3, rfl, hv3, hb3⟩; obtain ⟨A3, k3, rfl⟩ := hv3.shape; have HV3 := Lib.hid hv3; clear hv3))
      all_goals
        go_wp2
        go_meet
        case rel =>
          refine ⟨by assumption, ?_⟩
          exact (Nums.of_app HO4.out (by have := makesL_len y; have := spoilsL_len y; omega)).anyOf
    case rest =>
      clear hs1 d0 d1 d2 d3 d4 d5 d6 d7
      obtain ⟨hS, hv6⟩ := hcut
      obtain ⟨A6, k6, rfl⟩ := hv6.shape
      have R6 := Lib.hid hv6
      have E2 := Lib.hid hS.2
      obtain ⟨hs1, d0, d1, d2, d3, d4, d5, d6, d7⟩ := BY.out.ex (E1.out.trans hS.2)
      clear hS hv6
      obtain ⟨W2, hW2⟩ : ∃ W2, W2 = wc := ⟨_, rfl⟩
      subst hW2
      go_wp2
      go_cut [7] (fun t w' => Ex W2 w' ∧ t = .bool (common (changesL x) (changesL y ++ takesL y)))
      case first =>
        go_region_held3 (fun w' => Cls W2 w') (first | exact (Cls.refl _).drew | exact Cls.step (by assumption) (by assumption) | exact Cls.alloc (by assumption) _ | exact Cls.grows (by assumption) (by assumption)) (first
          | (refine step_app rfl _ (.tmp 26) (.tmp 27) 22 rfl W2.heap.size 3 _ 1 8 Try.underlying22 Try.info3 rfl (by decide) (by decide) (.slice (some ⟨_, 0, none⟩) 0 0) 0 [] ?_ rfl (.slice A6 (changesL y).length k6) (changesL y).length ((changesL y).map (.int .i64)) ?_ rfl (ints_one _) ?_ ?_ ?_; (exact own_ex (own_empty (Ex.refl W2) rfl) (Ex.refl _).drew); (exact R6.out.ex ((Ex.refl _).alloc _).drew); (have := changesL_len y; omega); exact (And.right (by assumption : Cls W2 _)).size; intro A2 k2 w2 hown2 hg2 _; rw [Nat.zero_add, List.nil_append] at hown2; rw [Nat.zero_add]; have HO2 := Lib.hid hown2; have HG2 := Lib.hid (hg2 W2 (Nat.le_refl _) ((Ex.refl W2).drew.alloc _)); clear hown2)
          | (refine step_app rfl _ (.tmp 28) (.tmp 30) 22 rfl W2.heap.size 3 _ 1 8 Try.underlying22 Try.info3 rfl (by decide) (by decide) (.slice A2 (changesL y).length k2) (changesL y).length ((changesL y).map (.int .i64)) (own_ex HO2.out hb3) rfl (.slice A3 (takesL y).length k3) (takesL y).length ((takesL y).map (.int .i64)) HV3.out.anyOf rfl (ints_one _) ?_ ?_ ?_; (have := changesL_len y; have := HV3.out.len; have := HLY.out; omega); exact (And.right (by assumption : Cls W2 _)).size; intro A4 k4 w4 hown4 hg4 _; have HO4 := Lib.hid hown4; have HG4 := Lib.hid (hg4 W2 (Nat.le_refl _) (HG2.out.trans hb3)); clear hown4)
          | (go_at_call 50; refine (refTakes_spec y _ (HY.out.ex (HE.out.trans (E1.out.trans (E2.out.trans (And.right (by assumption : Cls W2 _)))))) IY.out).mono ?_; rintro e w3 ⟨v3, rfl, hv3, hb3⟩; obtain ⟨A3, k3, rfl⟩ := hv3.shape; have HV3 := Lib.hid hv3; clear hv3)
          | (go_at_call 49; refine (meet_spec _ _ (changesL x) (changesL y ++ takesL y) _ (R5.out.ex (E2.out.trans HG4.out)) (Nums.of_app HO4.out (by have := changesL_len y; have := HLY.out; omega)).anyOf).mono ?_; rintro e w5 ⟨rfl, hb5⟩))
        go_wp2
        go_meet
        case rel => exact ⟨And.right (by assumption : Cls W2 _), rfl⟩
      case rest =>
        clear hs1 d0 d1 d2 d3 d4 d5 d6 d7
        obtain ⟨hS, rfl⟩ := hcut
        have E3 := Lib.hid hS
        obtain ⟨hs0, c0, c1, c2, c3, c4, c5, c6, c7⟩ := BX.out.ex (E1.out.trans (E2.out.trans hS))
        obtain ⟨hs1, d0, d1, d2, d3, d4, d5, d6, d7⟩ := BY.out.ex (E1.out.trans (E2.out.trans hS))
        clear hS
        obtain ⟨W3, hW3⟩ : ∃ W3, W3 = wc := ⟨_, rfl⟩
        subst hW3
        have HD : Hid (dependsB x y = (common (changesL x) (changesL y ++ takesL y) || common (changesL y) (takesL x) || (strictIs x.op && strictIs y.op && !(strictLd x.op && strictLd y.op)))) := by
          show dependsB x y = _
          rw [common_append]
          unfold dependsB effB
          cases common (changesL x) (changesL y) <;> cases common (changesL x) (takesL y) <;> cases common (changesL y) (takesL x) <;> cases strictIs x.op <;> cases strictIs y.op <;> cases strictLd x.op <;> cases strictLd y.op <;> rfl
        generalize hp1 : common (changesL x) (changesL y ++ takesL y) = p1
        have P1 := Lib.hid hp1
        clear hp1
        go_wp2_with fail
        refine (refTakes_spec x _ (HX.out.ex (HE.out.trans (E1.out.trans (E2.out.trans E3.out)))) IX.out).mono ?_
        rintro e w4 ⟨v4, rfl, hv4, hb4⟩
        obtain ⟨A7, k7, rfl⟩ := hv4.shape
        have R7 := Lib.hid hv4.anyOf
        have hr4 := hb4.reads.1
        have E4 := Lib.hid hb4
        clear hv4 hb4
        go_wp2_with fail
        refine (meet_spec _ _ _ _ _ (R6.out.ex (E3.out.trans E4.out)) R7.out).mono ?_
        rintro e w5 ⟨rfl, hb5⟩
        have E5 := Lib.hid (HE.out.trans (E1.out.trans (E2.out.trans (E3.out.trans (E4.out.trans hb5)))))
        obtain ⟨hs0, c0, c1, c2, c3, c4, c5, c6, c7⟩ := BX.out.ex (E1.out.trans (E2.out.trans (E3.out.trans (E4.out.trans hb5))))
        obtain ⟨hs1, d0, d1, d2, d3, d4, d5, d6, d7⟩ := BY.out.ex (E1.out.trans (E2.out.trans (E3.out.trans (E4.out.trans hb5))))
        clear hb5 hr4
        generalize hp2 : common (changesL y) (takesL x) = p2
        have P2 := Lib.hid hp2
        clear hp2
        cases q1 : strictIs x.op <;> cases q2 : strictIs y.op <;> cases q3 : strictLd x.op <;> cases q4 : strictLd y.op
        all_goals
          go_wp2_with (first | (go_at_call 51; refine (effect_spec _ _).mono ?_; rintro e w' ⟨rfl, rfl⟩) | (go_at_call 52; refine (load_spec _ _).mono ?_; rintro e w' ⟨rfl, rfl⟩))
        all_goals
          go_ret
          refine ⟨?_, E5.out⟩
          rw [HD.out, P1.out, P2.out, q1, q2, q3, q4]
          cases p1 <;> cases p2 <;> first | rfl | contradiction
end Go.Proofs.Ytikkeefhhhfmmaa
