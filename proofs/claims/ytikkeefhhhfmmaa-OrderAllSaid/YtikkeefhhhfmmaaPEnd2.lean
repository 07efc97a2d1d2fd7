/- phys.End: its walk. Conditions: none. -/
import Derived.Test.YtikkeefhhhfmmaaPEnd
set_option linter.unusedVariables false
set_option linter.unusedSimpArgs false
namespace Go.Proofs.Ytikkeefhhhfmmaa
open Go.RowKit Go.Instr

def badR (op k r : Int) : Bool := decide (r < 0) || decide (k ≤ r) || (op == 7 && decide (0 < r))
def badT (nb t : Int) : Bool := decide (t < 1) || decide (nb ≤ t)
def endB (e : EndI) (k nb : Int) : Int :=
  if (withinB e.op 1 8 && withinB e.tos.length (loOf e.op) (hiOf e.op)) = false then 30
  else if (needsL e).any (badR e.op k) then 31 else if e.tos.any (badT nb) then 14 else 0
theorem any_next {xs : List Int} {f : Int → Bool} {j : Nat} (hj : j < xs.length) (h1 : (xs.take j).any f = false) (h2 : f xs[j] = false) : (xs.take (j + 1)).any f = false := by
  rw [List.take_succ_eq_append_getElem hj, List.any_append, h1]
  simp [h2]
theorem any_here {xs : List Int} {f : Int → Bool} {j : Nat} (hj : j < xs.length) (h2 : f xs[j] = true) : xs.any f = true :=
  List.any_eq_true.2 ⟨_, List.getElem_mem hj, h2⟩
def endBox (w : World) (B : Nat) (e : EndI) : Prop := B < w.heap.size ∧ w.cell? ⟨B, 0, none⟩ = some (.int .i64 e.op) ∧ w.cell? ⟨B, 1, none⟩ = some (.int .i64 e.a) ∧ w.cell? ⟨B, 2, none⟩ = some (.int .i64 e.b) ∧ w.cell? ⟨B, 3, none⟩ = some e.tv ∧ w.cell? ⟨B, 4, none⟩ = some (.int .i32 e.imm)
theorem endBox.ex {w w' : World} {B : Nat} {e : EndI} (h : endBox w B e) (hb : Ex w w') : endBox w' B e :=
  ⟨Nat.lt_of_lt_of_le h.1 hb.size, hb.cell h.2.1, hb.cell h.2.2.1, hb.cell h.2.2.2.1, hb.cell h.2.2.2.2.1, hb.cell h.2.2.2.2.2⟩
theorem endBox_new (w : World) (e : EndI) : endBox (w.alloc (.cells #[.int .i64 e.op, .int .i64 e.a, .int .i64 e.b, e.tv, .int .i32 e.imm] 55)) w.heap.size e := by
  have h : ∀ i, (w.alloc (.cells #[.int .i64 e.op, .int .i64 e.a, .int .i64 e.b, e.tv, .int .i32 e.imm] 55)).cell? ⟨w.heap.size, i, none⟩ = e.cells[i]? := fun i => (World.cell?_alloc_new _ _ _ _).trans (by simp [EndI.cells])
  exact ⟨by simp, h 0, h 1, h 2, h 3, h 4⟩

set_option maxRecDepth 100000 in
set_option maxHeartbeats 1000000 in
theorem end_spec (e : EndI) (k nb : Int) (w : World) (h : e.ok any w) : Calls Try.prog 62 #[e.val, .int .i64 k, .int .i64 nb] w fun x w' => x = .returned (.int .i64 (endB e k nb)) ∧ Ex w w' := by
  obtain ⟨op, a, b, tos, tv, imm⟩ := e
  obtain ⟨A, c, hav, l1, l2, hc⟩ := Nums.open h
  simp only at hav
  subst hav
  have H := Lib.hid h
  have HT := Lib.hid hc
  clear h hc
  have BX := Lib.hid (endBox_new w ⟨op, a, b, tos, .slice A tos.length c, imm⟩)
  obtain ⟨W, hW⟩ : ∃ W, W = w.alloc (.cells #[.int .i64 op, .int .i64 a, .int .i64 b, .slice A tos.length c, .int .i32 imm] 55) := ⟨_, rfl⟩
  have hex : Ex w W := by rw [hW]; exact (Ex.refl w).alloc _
  have hb : endBox W w.heap.size ⟨op, a, b, tos, .slice A tos.length c, imm⟩ := by rw [hW]; exact BX.out
  have HB := Lib.hid hb
  have HW := Lib.hid hW
  have HX := Lib.hid hex
  obtain ⟨s0, c0, c1, c2, c3, c4⟩ := hb
  clear BX hW hex
  cases p1 : withinB op 1 8 with
  | false =>
    have HI : Hid (endB ⟨op, a, b, tos, .slice A tos.length c, imm⟩ k nb = 30) := by show endB _ _ _ = _; simp [endB, p1]
    have P1 := Lib.hid p1
    clear p1
    go_enter Try.func62, Try.ntmps62
    go_wp2_with (first
      | (go_at_call 93; with_reducible refine (ways_spec _ _).mono ?_; rintro e w' ⟨rfl, rfl⟩; rw [← HW.out])
      | (go_at_call 64; with_reducible refine (within_spec _ _ _ _).mono ?_; rw [P1.out]; rintro e w' ⟨rfl, rfl⟩))
    go_ret
    exact ⟨by rw [HI.out]; rfl, HX.out⟩
  | true =>
    cases p2 : withinB tos.length (loOf op) (hiOf op) with
    | false =>
      have HI : Hid (endB ⟨op, a, b, tos, .slice A tos.length c, imm⟩ k nb = 30) := by show endB _ _ _ = _; simp [endB, p2]
      have P1 := Lib.hid p1
      have P2 := Lib.hid p2
      clear p1 p2
      go_enter Try.func62, Try.ntmps62
      go_wp2_with (first
        | (go_at_call 93; with_reducible refine (ways_spec _ _).mono ?_; rintro e w' ⟨rfl, rfl⟩; rw [← HW.out])
        | (go_at_call 64; with_reducible refine (within_spec _ _ _ _).mono ?_; (first | rw [P1.out] | rw [P2.out]); rintro e w' ⟨rfl, rfl⟩))
      go_ret
      exact ⟨by rw [HI.out]; rfl, HX.out⟩
    | true =>
      have P1 := Lib.hid p1
      have P2 := Lib.hid p2
      have HI : Hid (endB ⟨op, a, b, tos, .slice A tos.length c, imm⟩ k nb = if (needsL ⟨op, a, b, tos, .slice A tos.length c, imm⟩).any (badR op k) then 31 else if tos.any (badT nb) then 14 else 0) := by
        show endB _ _ _ = _
        unfold endB
        rw [p1, p2]; simp
      clear p1 p2
      have hop : (op = 7 ∧ (op == 7) = true) ∨ (op == 7) = false := by
        by_cases h : op = 7
        · exact .inl ⟨h, by simp [h]⟩
        · exact .inr (by simp [h])
      go_enter Try.func62, Try.ntmps62
      go_wp2_with (first
        | (go_at_call 93; with_reducible refine (ways_spec _ _).mono ?_; rintro e w' ⟨rfl, rfl⟩; rw [← HW.out])
        | (go_at_call 64; with_reducible refine (within_spec _ _ _ _).mono ?_; (first | rw [P1.out] | rw [P2.out]); rintro e w' ⟨rfl, rfl⟩))
      with_reducible refine (needs_spec ⟨op, a, b, tos, .slice A tos.length c, imm⟩ _ (H.out.ex HX.out)).mono ?_
      rintro x w4 ⟨v, rfl, hv, hx4⟩
      have hv' := hv.anyOf
      generalize needsL ⟨op, a, b, tos, .slice A tos.length c, imm⟩ = R at *
      obtain ⟨A3, k3, rfl, m1, m2, hc⟩ := hv'.open
      have HC := Lib.hid hc
      have E4 := Lib.hid (HX.out.trans hx4)
      have X4 := Lib.hid hx4
      clear hc hv' hv hx4 s0 c0 c1 c2 c3 c4
      go_wp2
      go_loopw [10, 35] (fun _ x wr => ∃ j : Nat, j ≤ R.length ∧ x = .int .i64 j ∧ Hid ((R.take j).any (badR op k) = false) ∧ Ex w4 wr) (fun _ x _ => R.length - (intOf x).toNat)
      case atStart => exact ⟨0, Nat.zero_le _, rfl, by simp [Hid], Ex.refl _⟩
      case round =>
        obtain ⟨j, hj, rfl, hu, hx⟩ := hrel
        have HU := Lib.hid hu.out
        have HX5 := Lib.hid hx
        clear hu hx
        obtain ⟨s0, c0, c1, c2, c3, c4⟩ := HB.out.ex (X4.out.trans HX5.out)
        by_cases hlt : j < R.length
        · obtain ⟨b', off, rfl, hc⟩ := HC.out (by omega)
          have ck := HX5.out.cell (hc j hlt)
          have h1 := any_next (f := badR op k) hlt HU.out
          have h2 := any_here (f := badR op k) hlt
          have H1 := Lib.hid h1
          have H2 := Lib.hid h2
          clear h1 h2 hc
          generalize R[j] = r at *
          by_cases q1 : r < 0
          · have HO : Hid (R.any (badR op k) = true) := H2.out (by simp [badR, q1])
            clear H1 H2 hop
            go_wp2
            go_ret
            exact ⟨by rw [HI.out, HO.out]; rfl, E4.out.trans HX5.out⟩
          · by_cases q2 : k ≤ r
            · have HO : Hid (R.any (badR op k) = true) := H2.out (by simp [badR, q2])
              clear H1 H2 hop
              go_wp2
              go_ret
              exact ⟨by rw [HI.out, HO.out]; rfl, E4.out.trans HX5.out⟩
            · rcases hop with ⟨hq, ho⟩ | ho
              · clear hq
                by_cases q3 : 0 < r
                · have HO : Hid (R.any (badR op k) = true) := H2.out (by simp [badR, ho, q3])
                  clear H1 H2
                  go_wp2
                  go_ret
                  exact ⟨by rw [HI.out, HO.out]; rfl, E4.out.trans HX5.out⟩
                · have HO : Hid ((R.take (j + 1)).any (badR op k) = false) := H1.out (by simp [badR, ho]; omega)
                  clear H1 H2
                  go_wp2
                  go_roundw
                  case rel => exact ⟨j + 1, by omega, by go_num, HO.out, HX5.out⟩
                  case measure => simp [intOf]; omega
              · have HO : Hid ((R.take (j + 1)).any (badR op k) = false) := H1.out (by simp [badR, ho]; omega)
                clear H1 H2
                go_wp2
                go_roundw
                case rel => exact ⟨j + 1, by omega, by go_num, HO.out, HX5.out⟩
                case measure => simp [intOf]; omega
        · have he : j = R.length := by omega
          have hn := HU.out
          rw [he, List.take_length] at hn
          have HN := Lib.hid hn
          have HW5 := Lib.hid (E4.out.trans HX5.out)
          clear hn hop
          obtain ⟨w5, hw5⟩ : ∃ w5, w5 = wr := ⟨_, rfl⟩
          subst hw5
          go_wp2
          go_loopw [12, 59] (fun _ x wr => ∃ j : Nat, j ≤ tos.length ∧ x = .int .i64 j ∧ Hid ((tos.take j).any (badT nb) = false) ∧ Ex w5 wr) (fun _ x _ => tos.length - (intOf x).toNat)
          case atStart => exact ⟨0, Nat.zero_le _, rfl, by simp [Hid], Ex.refl _⟩
          case round =>
            obtain ⟨j, hj, rfl, hu, hx⟩ := hrel
            have HU := Lib.hid hu.out
            have HX5 := Lib.hid hx
            clear hu hx
            by_cases hlt : j < tos.length
            · obtain ⟨b', off, rfl, hc⟩ := HT.out (by omega)
              have ck := (HW5.out.trans HX5.out).cell (hc j hlt)
              have h1 := any_next (f := badT nb) hlt HU.out
              have h2 := any_here (f := badT nb) hlt
              have H1 := Lib.hid h1
              have H2 := Lib.hid h2
              clear h1 h2 hc
              generalize tos[j] = t at *
              by_cases q1 : t < 1
              · have HO : Hid (tos.any (badT nb) = true) := H2.out (by simp [badT, q1])
                clear H1 H2
                go_wp2
                go_ret
                exact ⟨by rw [HI.out, HN.out, HO.out]; rfl, HW5.out.trans HX5.out⟩
              · by_cases q2 : nb ≤ t
                · have HO : Hid (tos.any (badT nb) = true) := H2.out (by simp [badT, q2])
                  clear H1 H2
                  go_wp2
                  go_ret
                  exact ⟨by rw [HI.out, HN.out, HO.out]; rfl, HW5.out.trans HX5.out⟩
                · have HO : Hid ((tos.take (j + 1)).any (badT nb) = false) := H1.out (by simp [badT]; omega)
                  clear H1 H2
                  go_wp2
                  go_roundw
                  case rel => exact ⟨j + 1, by omega, by go_num, HO.out, HX5.out⟩
                  case measure => simp [intOf]; omega
            · have he : j = tos.length := by omega
              have hn := HU.out
              rw [he, List.take_length] at hn
              have HO := Lib.hid hn
              clear hn
              go_wp2
              go_ret
              exact ⟨by rw [HI.out, HN.out, HO.out]; rfl, HW5.out.trans HX5.out⟩
end Go.Proofs.Ytikkeefhhhfmmaa
