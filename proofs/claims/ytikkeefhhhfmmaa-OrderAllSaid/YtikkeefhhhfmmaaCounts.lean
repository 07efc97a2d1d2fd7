/- The law OrderCounts: its walk. Conditions: none. -/
import Derived.Test.YtikkeefhhhfmmaaSome
set_option linter.unusedVariables false
namespace Go.Proofs.Ytikkeefhhhfmmaa
open Go.ChangeShapes Go.WideShapes Go.ChangeAt Go.RowKit

theorem row_lit0 (W : World) (cs : List Value) (h8 : cs.length = 8) {B : Nat} (hB : W.heap.size = B) : Row any (W.alloc (.cells cs.toArray 24)) 8 (.slice (some ⟨B, 0, none⟩) 1 1) 1 cs := by
  subst hB
  have h := World.ownsRow_lit (base := W.heap.size) (e := 24) (size := 8) W cs.toArray 1 (Nat.le_refl _) (by decide) (by simp [h8])
  have := Row.anyOf (Row.of_own h (by omega))
  simpa using this
/-- Instructions that came in. -/
def RawMachs (w : World) (v : Value) (L : List Mach) : Prop := Raw w 8 v L.length (L.flatMap Mach.cells) ∧ ∀ m ∈ L, RawMach w m
section
variable {H : Type} {enc : TypeId × Value → H}
set_option maxRecDepth 100000 in
theorem open_raw_machs {w : World} {base fuel : Nat} {cs : List Value} {x : DataW H × List MemPlace} (h : DataW.trod enc Try.prog w base (fun _ => true) true fuel 28 cs = some x) :
    ∃ v L, cs = [v] ∧ RawMachs w v L := by
  rcases Go.Deep.open_slice Try.underlying28 h with ⟨rfl, _⟩ | ⟨a, len, cap, m, n, D, Pl, rfl, _, h1, h2, h3, _, hx⟩
  · exact ⟨_, [], rfl, ⟨none, 0, rfl, Nat.le_refl _, Nat.zero_le _, rfl, .inl rfl⟩, by simp⟩
  · simp only [if_true] at h3
    rw [Try.cellsMach] at hx
    have hch : ∀ i, ∃ mm : Mach, i < len → RawMach w mm ∧ ∀ k, k < 8 → w.cell? (a.add (i * 8 + k)) = mm.cells[k]? := by
      intro i
      by_cases hi : i < len
      · obtain ⟨cs', hc, hd⟩ := hx i (by omega)
        obtain ⟨mm, rfl, hr⟩ := open_raw_mach hd
        refine ⟨mm, fun _ => ⟨hr, fun k hk => ?_⟩⟩
        obtain ⟨_, _, hcc⟩ := World.cells?_some hc
        have := hcc k hk
        rwa [show (a.add (i * 8)).add k = a.add (i * 8 + k) by unfold Addr.add; split <;> split <;> split <;> simp_all <;> omega] at this
      · exact ⟨⟨0, 0, 0, 0, 0, 0, 0, [], .slice none 0 0⟩, fun h => absurd h hi⟩
    obtain ⟨f, hf⟩ := Classical.axiomOfChoice hch
    have hl : ((List.range len).map f).length = len := by simp
    have h8 : ∀ L : List Mach, (L.flatMap Mach.cells).length = L.length * 8 := by
      intro L
      induction L with
      | nil => rfl
      | cons x L ih => rw [List.flatMap_cons, List.length_append, ih]; simp [Mach.cells]; omega
    refine ⟨_, (List.range len).map f, rfl, ⟨some a, cap, by rw [hl], by rw [hl]; exact h1, h2, h8 _, ?_⟩, ?_⟩
    · by_cases h0 : len = 0
      · left; subst h0; rfl
      · right
        obtain ⟨b, off, spot⟩ := a
        have hspot : spot = none := by
          have h := (hf 0 (by omega)).2 0 (by omega)
          have h' : w.cell? ⟨b, off, spot⟩ = some (.int .i64 (f 0).op) := by simpa [Addr.add, Mach.cells] using h
          simpa using World.cell?_spot h'
        subst hspot
        refine ⟨b, off, rfl, trivial, fun j u hu => ?_⟩
        have hj : j < len * 8 := by
          have := (List.getElem?_eq_some_iff.1 hu).1
          rw [h8, hl] at this
          exact this
        have hi : j / 8 < len := by omega
        have hL : ((List.range len).map f)[j / 8]? = some (f (j / 8)) := by simp [hi]
        have hc := cells_at _ (j / 8) (j % 8) _ hL (by omega)
        rw [show 8 * (j / 8) + j % 8 = j by omega, hu] at hc
        have := (hf (j / 8) hi).2 (j % 8) (by omega)
        rw [← hc, show j / 8 * 8 + j % 8 = j by omega] at this
        rwa [show (⟨b, off, none⟩ : Addr).add j = ⟨b, off + j, none⟩ by unfold Addr.add; split <;> simp_all] at this
    · intro mm hm
      obtain ⟨i, hi, rfl⟩ := List.mem_map.1 hm
      exact (hf i (List.mem_range.1 hi)).1
set_option maxRecDepth 100000 in
theorem arg_machs {W : World} {base : Nat} {v : Value} {d : DataW H} {p : List MemPlace} (hv : Value.okWide Try.prog W .any base 28 v) (h : DataW.Trod enc Try.prog W 0 (fun _ => true) true 28 v d p) : ∃ L, RawMachs W v L := by
  obtain ⟨a, len, cap, rfl⟩ := okWide_slice Try.underlying28 hv
  obtain ⟨fuel, hf⟩ := h
  obtain ⟨v, L, e, hr⟩ := open_raw_machs hf
  simp only [Value.cells, List.cons.injEq, and_true] at e
  subst e
  exact ⟨L, hr⟩
end
theorem RawMachs.open {w : World} {v : Value} {L : List Mach} (h : RawMachs w v L) : ∃ A c, v = .slice A L.length c ∧ L.length ≤ c ∧ c ≤ maxLen ∧
    (0 < L.length → ∃ b off, A = some ⟨b, off, none⟩ ∧ ∀ i m, L[i]? = some m → At8 w b (off + i * 8) m) := by
  obtain ⟨⟨A, c, e, h1, h2, h3, h4⟩, _⟩ := h
  refine ⟨A, c, e, h1, h2, fun h0 => ?_⟩
  rcases h4 with h4 | ⟨b, off, e, _, hc⟩
  · exfalso
    rw [h4] at h3
    simp at h3
    omega
  · refine ⟨b, off, e, fun i m hm => ?_⟩
    have hk : ∀ k, k < 8 → ∀ u, m.cells[k]? = some u → w.cell? ⟨b, off + i * 8 + k, none⟩ = some u := fun k hk u hu => by
      rw [Nat.add_assoc, Nat.mul_comm]
      exact hc _ _ ((cells_at L i k m hm hk).trans hu)
    exact ⟨hk 0 (by omega) _ rfl, hk 1 (by omega) _ rfl, hk 2 (by omega) _ rfl, hk 3 (by omega) _ rfl, hk 4 (by omega) _ rfl, hk 5 (by omega) _ rfl, hk 6 (by omega) _ rfl, hk 7 (by omega) _ rfl⟩
theorem own_machs {w : World} {base n : Nat} {e : TypeId} {v : Value} {L : List Mach} (h : w.ownsRow base e 8 v n (L.flatMap Mach.cells)) (hn : L.length = n) (hl : n ≤ 1000) (hm : ∀ m ∈ L, m.ok any w ∧ m.fine) : Machs any w v L := by
  subst hn
  exact ⟨(Row.of_own h (by omega)).anyOf, hm⟩
set_option maxRecDepth 100000 in
set_option maxHeartbeats 1000000 in
theorem cut_from (m : Mach) (w0 w : World) (h : RawMach w0 m) :
    Calls Try.prog 14 #[m.val] w fun e w' => (∃ m' : Mach, e = .returned m'.val ∧ m'.ok any w0 ∧ m'.fine ∧ m'.args.length ≤ 5) ∧ Ex w w' := by
  obtain ⟨hw, ⟨A, c, hav, h1, h2, h3, h4⟩, _⟩ := h
  obtain ⟨op, d, e, a, b, cc, imm, args, av⟩ := m
  simp only at hav h1 h2 h3 h4
  subst hav
  have HW := Lib.hid hw
  have H4 := Lib.hid h4
  clear hw h4 h3
  by_cases hn : args.length ≤ 5
  · go_enter Try.func14, Try.ntmps14
    go_wp2
    go_returns
    refine ⟨⟨⟨op, d, e, a, b, cc, imm, args, .slice A args.length c⟩, rfl, ?_, ⟨HW.out, by simp; omega⟩, hn⟩, by go_grown⟩
    exact ⟨A, c, rfl, h1, by show args.length ≤ _; omega, by simp, H4.out⟩
  · go_enter Try.func14, Try.ntmps14
    go_wp2
    go_returns
    have hl : (args.take 5).length = 5 := by rw [List.length_take]; omega
    refine ⟨⟨⟨op, d, e, a, b, cc, imm, args.take 5, .slice A 5 c⟩, rfl, ?_, ⟨HW.out, by simp [hl]⟩, by simp [hl]⟩, by go_grown⟩
    refine ⟨A, c, by rw [hl], by rw [hl]; omega, by show (args.take 5).length ≤ _; rw [hl]; omega, by simp, ?_⟩
    rcases H4.out with h0 | ⟨b, off, e, hb, hc⟩
    · left
      rw [List.map_eq_nil_iff] at h0
      simp [h0]
    · refine .inr ⟨b, off, e, hb, fun j u hu => hc j u ?_⟩
      rw [List.map_take, List.getElem?_take] at hu
      split at hu
      · exact hu
      · cases hu

theorem cuts_rel {w w3 : World} {j : Nat} {K : List Mach} {v2 : Value} (m : Mach) (hown : w3.ownsRow w.heap.size 24 8 v2 (j + 1) (K.flatMap Mach.cells ++ m.cells))
    (hj : j < 7) (hL : K.length = j) (hB : ∀ m ∈ K, m.ok any w ∧ m.fine) (hm : m.ok any w ∧ m.fine) (hx : Ex w w3) :
    ∃ (j_1 : Nat) (K : List Mach), j_1 ≤ 7 ∧ K.length = j_1 ∧ Value.int IntKind.i64 ((j : Int) + 1) = Value.int IntKind.i64 j_1 ∧ w3.ownsRow w.heap.size 24 8 v2 j_1 (K.flatMap Mach.cells) ∧ (∀ m ∈ K, m.ok any w ∧ m.fine) ∧ Ex w w3 := by
  refine ⟨j + 1, K ++ [m], by omega, by simp [hL], by go_num, ?_, ?_, hx⟩
  · rw [List.flatMap_append]
    simpa using hown
  · intro x hx'
    rcases List.mem_append.1 hx' with h | h
    · exact hB x h
    · simp only [List.mem_singleton] at h
      subst h
      exact hm
theorem bare_ok {L : List Mach} {w : World} (h : ∀ m ∈ L, m.bare) : ∀ m ∈ L, m.ok any w ∧ m.fine := by
  intro m hm
  obtain ⟨h1, h2, h3, _⟩ := h m hm
  refine ⟨?_, h3, by simp [h1]⟩
  unfold Mach.ok
  rw [h1, h2]
  exact Nums.nil _ _ _
theorem orders_many (A : Option Addr) (n c : Nat) (w : World) (h : 12 < n) (hn : n ≤ c) (hc : c ≤ 1000) : Calls Try.prog 18 #[.slice A n c] w fun e w' => e = .returned (.int .i64 (-1)) ∧ Ex w w' := by
  go_enter Try.func18, Try.ntmps18
  go_wp2
  go_ret
  exact ⟨rfl, by go_grown⟩

set_option maxRecDepth 100000 in
set_option maxHeartbeats 1000000 in
theorem orderCounts_walk (v1 v2 : Value) (L : List Mach) (xs : List Int) (w : World) (hv1 : RawMachs w v1 L) (hv2 : RawInts w v2 xs) :
    Calls Try.prog 4 #[v1, v2] w fun e w' => e = .returned (.bool true) ∧ Ex w w' := by
  obtain ⟨A, c, rfl, h1, h2, hc⟩ := hv1.open
  have h2' : c ≤ 9223372036854775807 := by unfold maxLen at h2; omega
  have HC := Lib.hid hc
  have HM := Lib.hid hv1.2
  have HI := Lib.hid hv2
  obtain ⟨⟨A2, c2, hh, _⟩, _⟩ := hv2
  subst hh
  clear hv1 hc h2
  go_enter Try.func4, Try.ntmps4
  go_wp2_with fail
  refine (awake_spec _).mono ?_
  rintro e w1 ⟨rfl, hw1⟩
  have E1 := Lib.hid hw1
  clear hw1
  go_wp2
  go_loopw [6, 7] (fun u i wr => ∃ (j : Nat) (K : List Mach), j ≤ 7 ∧ K.length = j ∧ i = .int .i64 j ∧ wr.ownsRow w.heap.size 24 8 u j (K.flatMap Mach.cells) ∧ (∀ m ∈ K, m.ok any w ∧ m.fine) ∧ Ex w wr) (fun _ i _ => 20 - (intOf i).toNat)
  case atStart => exact ⟨0, [], Nat.zero_le _, rfl, rfl, World.ownsRow_nil _ _ _ _, by simp, E1.out⟩
  case round =>
    obtain ⟨j, K, hj, hL, rfl, hO, hB, hx⟩ := hrel
    obtain ⟨A', c', rfl⟩ := own_shape hO
    have HX := Lib.hid hx
    have HO := Lib.hid hO
    have HB := Lib.hid hB
    have HL := Lib.hid hL
    clear hx hO hB hL
    by_cases hlt : j < L.length ∧ j < 7
    · obtain ⟨hl1, hl2⟩ := hlt
      obtain ⟨b, off, rfl, hc⟩ := HC.out (by omega)
      obtain ⟨x, hx⟩ : ∃ x, L[j]? = some x := ⟨_, List.getElem?_eq_getElem (by omega)⟩
      have HXX := Lib.hid (HM.out x (List.mem_of_getElem? hx))
      obtain ⟨d0, d1, d2, d3, d4, d5, d6, d7⟩ := (hc j x hx).ex HX.out
      clear hc hx
      go_wp2_with fail
      with_reducible refine (cut_from x w _ HXX.out).mono ?_
      rintro e w4 ⟨⟨⟨q0, q1, q2, q3, q4, q5, q6, q7, q8⟩, rfl, ok2, f2, l2⟩, hw4⟩
      obtain ⟨A2, k2, rfl⟩ : ∃ A k, q8 = .slice A q7.length k := Nums.shape ok2
      have E4 := Lib.hid hw4
      have O2 := Lib.hid ok2
      have F2 := Lib.hid f2
      clear hw4 ok2 f2 l2 d0 d1 d2 d3 d4 d5 d6 d7
      go_wp2_with (at_builtin; go_must (refine app _ rfl _ _ 28 rfl w.heap.size 24 _ 8 80 Try.underlying28 Try.infoMach rfl (by decide) (by decide) _ _ _ (own_ex HO.out (E4.out.alloc _)) rfl _ 1 _ (row_lit0 _ _ (by simp) rfl) rfl (cells_one _ _ _ _ _ _ _ _ _ _) (by omega) ((HX.out.trans (E4.out.alloc _)).size) ?_); intro v2 w3 hown2 hg2 _)
      have hex3 : Ex w w3 := Ex.grown (HX.out.trans (E4.out.alloc _)) hg2 (fun k hk => (HO.out.lt k hk).1)
      go_roundw
      case rel => exact cuts_rel ⟨q0, q1, q2, q3, q4, q5, q6, q7, .slice A2 q7.length k2⟩ hown2 hl2 HL.out HB.out ⟨O2.out, F2.out⟩ hex3
      case measure => simp [intOf]; omega
    · have hn : ¬ (j < L.length) ∨ (j < L.length ∧ ¬ j < 7) := by omega
      have M1 := Lib.hid (own_machs HO.out HL.out (by omega) (fun m hm => ⟨(HB.out m hm).1.ex HX.out, (HB.out m hm).2⟩))
      obtain ⟨i0, hi, hz0, hz1, hz2⟩ := info_parts Try.infoMach
      have HZ := Lib.hid hz2
      clear HC hz2
      rcases hn with hn | ⟨hn1, hn⟩
      all_goals
        go_wp2_with fail
        with_reducible refine (some_spec _ xs _ (HI.out.ex HX.out)).mono ?_
        rintro e w5 ⟨⟨v5, K2, rfl, hl5, ho5, hb5⟩, hx5⟩
        obtain ⟨A5, c5, rfl⟩ := own_shape ho5
        obtain ⟨W6, hmk, _, hgr6⟩ := run_makeSlice_full (P := Try.prog) w5 0 28 24 i0 _ 8 Try.underlying28 hi hz0 hz1 .i64 .i64 13 (by omega) (by rw [HZ.out]; omega) (by unfold maxLen; omega) (by simp)
        have hmk' : (Instr.makeSlice 28 (.int .i64 13) (.int .i64 13)).run Try.prog w5 = _ := hmk
        have hx6 : Ex w5 W6 := ⟨hgr6.os, hgr6.tape, hgr6.output, hgr6.size, fun k hk => hgr6.block k hk (by simp)⟩
        have M2 := Lib.hid ((own_machs ho5 rfl (by omega) (bare_ok hb5)).ex hx6)
        have M3 := Lib.hid (M1.out.ex (hx5.trans hx6))
        have E6 := Lib.hid (HX.out.trans (hx5.trans hx6))
        clear hmk hgr6 hx6 hx5 ho5 hb5
        go_wp2_with fail
        with_reducible refine (orders_spec K _ _ M3.out).mono ?_
        rintro e w7 ⟨rfl, hx7⟩
        have E7 := Lib.hid hx7
        clear hx7 hmk'
        go_wp2_with fail
        with_reducible refine (refOrders_spec K _ _ (M3.out.ex E7.out)).mono ?_
        rintro e w8 ⟨rfl, hx8⟩
        have E8 := Lib.hid (E7.out.trans hx8)
        clear hx8
        generalize ordersI K = o1 at *
        go_wp2_with fail
        with_reducible refine (orders_spec K2 _ _ (M2.out.ex E8.out)).mono ?_
        rintro e w9 ⟨rfl, hx9⟩
        have E9 := Lib.hid (E8.out.trans hx9)
        clear hx9
        go_wp2_with fail
        with_reducible refine (refOrders_spec K2 _ _ (M2.out.ex E9.out)).mono ?_
        rintro e w10 ⟨rfl, hx10⟩
        have E10 := Lib.hid (E9.out.trans hx10)
        clear hx10
        generalize ordersI K2 = o2 at *
        go_wp2_with fail
        with_reducible refine (orders_many _ 13 13 _ (by omega) (by omega) (by omega)).mono ?_
        rintro e w11 ⟨rfl, hx11⟩
        have E11 := Lib.hid (E10.out.trans hx11)
        clear hx11
        go_wp2_with fail
        with_reducible refine (orders_spec [] _ _ (Machs.nil _ _)).mono ?_
        rintro e w12 ⟨rfl, hx12⟩
        have ho1 : ordersI [] = 1 := rfl
        rw [ho1]
        have E12 := Lib.hid ((E6.out.trans E11.out).trans hx12)
        clear hx12
        go_wp2
        go_ret
        exact ⟨rfl, E12.out⟩
end Go.Proofs.Ytikkeefhhhfmmaa
