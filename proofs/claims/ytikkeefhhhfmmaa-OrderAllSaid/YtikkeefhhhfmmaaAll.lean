/- The law OrderAll: its walk. Conditions: none. -/
import Derived.Test.YtikkeefhhhfmmaaAllLaw
import Derived.Test.YtikkeefhhhfmmaaCounts
set_option linter.unusedVariables false
set_option linter.unusedSimpArgs false
namespace Go.Proofs.Ytikkeefhhhfmmaa
open Go.RowKit Go.Instr

theorem Row.take {ok : Nat → Prop} {w : World} {sz n k c : Nat} {A : Option Addr} {cs : List Value} (h : Row ok w sz (.slice A n c) n cs) (hk : k ≤ n) : Row ok w sz (.slice A k c) k (cs.take (k * sz)) := by
  obtain ⟨A', c', e, h1, h2, h3, h4⟩ := h
  simp only [Value.slice.injEq, true_and] at e
  obtain ⟨rfl, rfl⟩ := e
  refine ⟨A, c, rfl, by omega, by omega, ?_, ?_⟩
  · rw [List.length_take, h3]
    exact Nat.min_eq_left (Nat.mul_le_mul_right _ hk)
  · rcases h4 with h4 | ⟨b, off, e, hb, hc⟩
    · left; rw [h4]; simp
    · refine .inr ⟨b, off, e, hb, fun j u hu => hc j u ?_⟩
      rw [List.getElem?_take] at hu
      split at hu
      · exact hu
      · cases hu
theorem flat_take {α : Type} {sz : Nat} {cs : α → List Value} (hc : ∀ x, (cs x).length = sz) : ∀ (L : List α) (k : Nat), (L.flatMap cs).take (k * sz) = (L.take k).flatMap cs
  | [], k => by simp
  | x :: L, 0 => by simp
  | x :: L, k + 1 => by
    rw [List.flatMap_cons, List.take_succ_cons, List.flatMap_cons, Nat.add_mul, List.take_append]
    rw [List.take_of_length_le (by rw [hc]; omega), hc]
    congr 1
    rw [show k * sz + 1 * sz - sz = k * sz by omega]
    exact flat_take hc L k
theorem Machs.take {w : World} {n k c : Nat} {A : Option Addr} {L : List Mach} (h : Machs any w (.slice A n c) L) (hn : L.length = n) (hk : k ≤ n) : Machs any w (.slice A k c) (L.take k) := by
  refine ⟨?_, fun m hm => h.2 m (List.mem_of_mem_take hm)⟩
  have h1 := h.1
  rw [hn] at h1
  have h2 := Row.take h1 hk
  rw [flat_take (fun m => rfl : ∀ m : Mach, m.cells.length = 8)] at h2
  rwa [show (L.take k).length = k by rw [List.length_take]; omega]

set_option maxRecDepth 100000 in
set_option maxHeartbeats 2000000 in
theorem orderAll_walk (v : Value) (xs : List Int) (w : World) (hv : RawInts w v xs) :
    Calls Try.prog 7 #[v] w fun e w' => e = .returned (.bool true) ∧ Ex w w' := by
  have HI := Lib.hid hv
  obtain ⟨⟨A2, c2, hh, _⟩, _⟩ := hv
  subst hh
  go_enter Try.func7, Try.ntmps7
  go_wp2_with fail
  refine (awake_spec _).mono ?_
  rintro e w1 ⟨rfl, hw1⟩
  have E1 := Lib.hid hw1
  clear hw1
  go_wp2_with fail
  with_reducible refine (some_spec _ xs _ (HI.out.ex E1.out)).mono ?_
  rintro e w5 ⟨⟨v5, K, rfl, hl5, ho5, hb5⟩, hx5⟩
  obtain ⟨A5, c5, rfl⟩ := own_shape ho5
  have M := Lib.hid (own_machs ho5 rfl (by omega) (bare_ok hb5))
  have HB := Lib.hid hb5
  have E5 := Lib.hid (E1.out.trans hx5)
  have hkc : K.length ≤ c5 := by
    obtain ⟨_, _, e, h, _⟩ := M.out.open
    simp only [Value.slice.injEq] at e
    omega
  clear ho5 hb5 hx5
  go_upto_if 13 with (fail)
  go_cut [4] (fun u w' => ∃ ms : List Mach, ms.length ≤ 5 ∧ u = .slice A5 ms.length c5 ∧ Machs any w5 u ms ∧ (∀ m ∈ ms, m.bare) ∧ w' = w5)
  case first =>
    by_cases h5 : K.length ≤ 5
    · go_wp2
      go_meet
      case rel => exact ⟨K, h5, rfl, M.out, HB.out, rfl⟩
    · have h6 : K.length = 6 := by omega
      have hm := Machs.take M.out rfl (show 5 ≤ K.length by omega)
      have hl : (K.take 5).length = 5 := by rw [List.length_take]; omega
      have HM := Lib.hid hm
      have HL := Lib.hid hl
      have H6 := Lib.hid h6
      clear hm hl h6
      go_wp2
      go_meet
      case rel => exact ⟨K.take 5, Nat.le_of_eq HL.out, by rw [HL.out], HM.out, fun m hm => HB.out m (List.mem_of_mem_take hm), rfl⟩
  case rest =>
    clear M HB hkc hl5
    obtain ⟨ms, hm5, rfl, hM, hB, hw⟩ := hcut
    subst hw
    obtain ⟨_, _, e, hmc, hm2, hcm⟩ := hM.open
    simp only [Value.slice.injEq] at e
    obtain ⟨rfl, e1, rfl⟩ := e
    clear e1
    have HM := Lib.hid hM
    have HB := Lib.hid hB
    have HC := Lib.hid hcm
    clear hM hB hcm
    obtain ⟨wb, hwb⟩ : ∃ wb, wb = wc := ⟨_, rfl⟩
    subst hwb
    go_wp2
    go_loopw [5, 6] (fun u i wr => ∃ j : Nat, j ≤ ms.length ∧ i = .int .i64 j ∧ wr.ownsRow wb.heap.size 49 9 u j (((numbered ms).take j).flatMap Placed.cells) ∧ Ex wb wr) (fun _ i _ => 20 - (intOf i).toNat)
    case atStart => exact ⟨0, Nat.zero_le _, rfl, World.ownsRow_nil _ _ _ _, Ex.refl _⟩
    case round =>
      obtain ⟨j, hj, rfl, hO, hx⟩ := hrel
      obtain ⟨A', c', rfl⟩ := own_shape hO
      have HX := Lib.hid hx
      have HO := Lib.hid hO
      clear hx hO
      by_cases hlt : j < ms.length
      · obtain ⟨b, off, rfl, hc⟩ := HC.out (by omega)
        obtain ⟨x, hx⟩ : ∃ x, ms[j]? = some x := ⟨_, List.getElem?_eq_getElem hlt⟩
        have hbx := HB.out x (List.mem_of_getElem? hx)
        obtain ⟨op, d, e, a, b2, cc, imm, args, av⟩ := x
        obtain ⟨rfl, rfl, _⟩ := hbx
        obtain ⟨d0, d1, d2, d3, d4, d5, d6, d7⟩ := (hc j _ hx).ex HX.out
        have hnum := numbered_at ms j _ hx
        have htk : (numbered ms).take (j + 1) = (numbered ms).take j ++ [⟨⟨op, d, e, a, b2, cc, imm, [], .slice none 0 0⟩, (j : Int)⟩] := by
          obtain ⟨hi, he⟩ := List.getElem?_eq_some_iff.1 hnum
          rw [List.take_succ_eq_append_getElem hi, he]
        have HTK := Lib.hid htk
        clear hc hx hnum htk
        go_wp2_with (at_builtin; go_must (refine app _ rfl _ _ 47 rfl wb.heap.size 49 _ 9 88 Try.underlying47 Try.infoPlaced rfl (by decide) (by decide) _ _ _ (own_ex HO.out ((Ex.refl wr).alloc _)) rfl _ 1 _ (row_litP wr _ (by rfl) rfl) rfl (placed_one _ _ _ _ _ _ _ _ _ _ _) (by omega) ((HX.out.trans ((Ex.refl wr).alloc _)).size) ?_); intro v2 w3 hown2 hg2 _)
        have hex3 : Ex wb w3 := Ex.grown (HX.out.trans ((Ex.refl wr).alloc _)) hg2 (fun k hk => (HO.out.lt k hk).1)
        go_roundw
        case rel => exact ⟨j + 1, by omega, by go_num, by rw [HTK.out, List.flatMap_append]; exact hown2, hex3⟩
        case measure => simp [intOf]; omega
      · obtain rfl : j = ms.length := by omega
        have ho := HO.out
        rw [← numbered_len ms, List.take_length, numbered_len] at ho
        have hnl : ∀ x ∈ numbered ms, x.okw wr := by
          intro x hx
          obtain ⟨i, hi⟩ := List.getElem?_of_mem hx
          have hlt : i < ms.length := by have := (List.getElem?_eq_some_iff.1 hi).1; rwa [numbered_len] at this
          rw [numbered_at ms i _ (List.getElem?_eq_getElem hlt)] at hi
          simp only [Option.some.injEq] at hi
          subst hi
          have := HM.out.2 _ (List.getElem_mem hlt)
          exact ⟨this.1.ex HX.out, this.2⟩
        have hPL : Placeds any wr (.slice A' ms.length c') (numbered ms) := by
          have := (Row.fresh ho (by omega)).anyOf
          refine ⟨?_, hnl⟩
          rw [numbered_len]
          exact this
        obtain ⟨i0, hi, hz0, hz1, hz2⟩ := info_parts Try.infoBool
        obtain ⟨W6, hmk, hown, hgr6⟩ := run_makeSlice_full (P := Try.prog) wr 0 51 4 i0 (.bool false) 1 Try.underlying51 hi hz0 hz1 .i64 .i64 ms.length (by omega) (by rw [hz2]; omega) (by unfold maxLen; omega) (by simp)
        simp only [Value.cells, Nat.mul_one, toList_madeCells_one] at hown
        rw [← List.map_replicate (f := Value.bool)] at hown
        have hx6 : Ex wr W6 := ⟨hgr6.os, hgr6.tape, hgr6.output, hgr6.size, fun k hk => hgr6.block k hk (by simp)⟩
        have hcall := try_spec (numbered ms) ms.length (numbered_len ms) hm5 (.slice A' ms.length c') wr.heap.size ms.length [] (.slice none 0 0) (List.replicate ms.length false) W6 (by simp) (by simp)
          ((Placeds.isin hPL (fun k hk => by omega)).ex hx6) ⟨Row.nil _ _ _, by simp⟩ hown
        rw [try_orders ms hm5 HB.out] at hcall
        have HCALL := Lib.hid hcall
        have HX6 := Lib.hid (HX.out.trans hx6)
        have HM2 := Lib.hid (HM.out.ex (HX.out.trans hx6))
        have ho2 : ordersI ms = (orders ms : Int) := by unfold ordersI; rw [if_neg (by omega)]
        have HO2 := Lib.hid ho2
        clear hown hgr6 hx6 hcall hPL hnl ho hi hz0 hz1 hz2 ho2 HC
        go_wp2_with fail
        with_reducible refine HCALL.out.mono ?_
        rintro e w7 ⟨rfl, hx7⟩
        have E7 := Lib.hid hx7
        clear hx7 hmk
        go_wp2_with fail
        with_reducible refine (orders_spec ms _ _ (HM2.out.ex E7.out)).mono ?_
        rw [HO2.out]
        rintro e w8 ⟨rfl, hx8⟩
        have E8 := Lib.hid (E5.out.trans (HX6.out.trans (E7.out.trans hx8)))
        clear hx8
        go_wp2
        go_ret
        exact ⟨rfl, E8.out⟩
end Go.Proofs.Ytikkeefhhhfmmaa
