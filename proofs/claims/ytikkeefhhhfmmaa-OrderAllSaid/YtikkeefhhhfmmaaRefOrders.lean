/- jacquardref17.Orders: its walk. Conditions: none. -/
import Derived.Test.YtikkeefhhhfmmaaOrders
import Derived.Test.YtikkeefhhhfmmaaRefDep
import Derived.Test.YtikkeefhhhfmmaaCut
set_option linter.unusedVariables false
namespace Go.Proofs.Ytikkeefhhhfmmaa
open Go.RowKit Go.Instr

theorem takes_thousand {m : Mach} (h : m.args.length ≤ 1000) : (takesL m).length ≤ 1000000 := by
  unfold takesL
  split
  · simp
  · split
    · simp
    · unfold fieldsOf
      split <;> first | (simp; done) | omega
/-- Which are gone, by a list. -/
def isGone (gs : List Bool) : Nat → Bool := fun i => gs[i]?.getD false
theorem isGone_get {gs : List Bool} {i : Nat} (hi : i < gs.length) (h : isGone gs i = false) : gs[i]? = some false := by
  unfold isGone at h
  cases hg : gs[i]? with
  | none => rw [List.getElem?_eq_none_iff] at hg; omega
  | some b => rw [hg] at h; simp at h; rw [h]
theorem isGone_set {gs : List Bool} {i : Nat} (hi : i < gs.length) : isGone (gs.set i true) = with1 (isGone gs) i := by
  funext j
  unfold isGone with1
  rw [List.getElem?_set]
  by_cases h : i = j
  · subst h; simp [hi]
  · have h' : ¬ j = i := fun e => h e.symm
    simp [h, h']
def freeTo (D : Nat → Nat → Bool) (g : Nat → Bool) (i j : Nat) : Bool := (List.range j).all fun t => g t || !D t i
theorem freeTo_succ (D : Nat → Nat → Bool) (g : Nat → Bool) (i j : Nat) : freeTo D g i (j + 1) = (freeTo D g i j && (g j || !D j i)) := by
  simp [freeTo, List.range_succ]
def leftTo (g : Nat → Bool) (i : Nat) : Bool := (List.range i).any fun t => !g t
theorem leftTo_succ (g : Nat → Bool) (i : Nat) : leftTo g (i + 1) = (leftTo g i || !g i) := by
  simp [leftTo, List.range_succ]
theorem leftTo_rem {g : Nat → Bool} : ∀ n, leftTo g n = decide (0 < rem n g)
  | 0 => rfl
  | n + 1 => by
    rw [leftTo_succ, leftTo_rem n]
    have h : ∀ b : Bool, (decide (0 < rem n g) || !b) = decide (0 < rem n g + if b = true then 0 else 1) := by intro b; cases b <;> simp
    exact h (g n)
def termAt (D : Nat → Nat → Bool) (n k : Nat) (g : Nat → Bool) (i : Nat) : Nat := if !g i && free D g i then cnt D n (k - 1) (with1 g i) else 0
theorem cnt_sum {D : Nat → Nat → Bool} {n k : Nat} {g : Nat → Bool} (h : 0 < k) : cnt D n k g = sumTo n (termAt D n k g) := by
  obtain ⟨j, rfl⟩ : ∃ j, k = j + 1 := ⟨k - 1, by omega⟩
  rfl
theorem sum_bound (D : Nat → Nat → Bool) (n k : Nat) (g : Nat → Bool) (j : Nat) (hn : n ≤ 12) (hk : k ≤ 12) (hj : j ≤ 12) : sumTo j (termAt D n k g) ≤ 106993205379072 :=
  part_le D g hn (Nat.le_trans (Nat.sub_le _ _) hk) j hj
theorem own_full {w : World} {base e g n : Nat} {cs : List Value} (h : w.ownsRow base e 1 (.slice (some ⟨g, 0, none⟩) n n) n cs) : w.heap[g]? = some (.cells cs.toArray e) := by
  rcases h.2 with ⟨h', _⟩ | ⟨g', cap, cur, h', hb, hg, h1, h2, h3, h4⟩
  · cases h'
  · simp only [Value.slice.injEq, Option.some.injEq, Addr.mk.injEq, and_true, true_and] at h'
    obtain ⟨rfl, rfl⟩ := h'
    rw [hg, ← h4]
    rw [List.take_of_length_le (by rw [Array.length_toList, h3]; exact Nat.le_refl _)]
/-- A row that was turned and turned back. -/
theorem Ex.back {w w' : World} {base e g n : Nat} {cs : List Value} (h : w.ownsRow base e 1 (.slice (some ⟨g, 0, none⟩) n n) n cs) (h' : w'.ownsRow base e 1 (.slice (some ⟨g, 0, none⟩) n n) n cs) (hg : w.grownBy w' (some g)) : Ex w w' :=
  ⟨hg.os, hg.tape, hg.output, hg.size, fun k hk => by
    by_cases he : k = g
    · subst he; rw [own_full h, own_full h']
    · exact hg.block k hk (fun e => he (by injection e))⟩

/-- Instructions of which nothing lies in block g. -/
def MachsBut (g : Nat) (w : World) (v : Value) (L : List Mach) : Prop :=
  Row (fun k => k ≠ g) w 8 v L.length (L.flatMap Mach.cells) ∧ ∀ m ∈ L, m.ok (fun k => k ≠ g) w ∧ m.fine
theorem MachsBut.machs {g : Nat} {w : World} {v : Value} {L : List Mach} (h : MachsBut g w v L) : Machs any w v L :=
  ⟨h.1.anyOf, fun m hm => ⟨Nums.anyOf (h.2 m hm).1, (h.2 m hm).2⟩⟩
theorem MachsBut.grown {g : Nat} {w w' : World} {v : Value} {L : List Mach} (h : MachsBut g w v L) (hg : w.grownBy w' (some g)) : MachsBut g w' v L :=
  ⟨h.1.imp (fun k hk hlt => hg.block k hlt (fun e => hk (by injection e))) (fun _ hk _ => hk),
   fun m hm => ⟨Row.imp (h.2 m hm).1 (fun k hk hlt => hg.block k hlt (fun e => hk (by injection e))) (fun _ hk _ => hk), (h.2 m hm).2⟩⟩
theorem MachsBut.ex {g : Nat} {w w' : World} {v : Value} {L : List Mach} (h : MachsBut g w v L) (hb : Ex w w') : MachsBut g w' v L :=
  ⟨h.1.ex hb, fun m hm => ⟨(h.2 m hm).1.ex hb, (h.2 m hm).2⟩⟩
theorem Machs.but {w : World} {v : Value} {L : List Mach} (h : Machs any w v L) {g : Nat} (hg : w.heap.size ≤ g) : MachsBut g w v L :=
  ⟨h.1.imp (fun _ _ _ => rfl) (fun k _ hlt => by omega), fun m hm => ⟨Row.imp (h.2 m hm).1 (fun _ _ _ => rfl) (fun k _ hlt => by omega), (h.2 m hm).2⟩⟩

set_option maxRecDepth 100000 in
set_option maxHeartbeats 1000000 in
theorem count_spec (L : List Mach) (n : Nat) (hL : L.length = n) (hn : n ≤ 12) (b off c g : Nat) : ∀ (k : Nat) (gs : List Bool) (w : World), gs.length = n → rem n (isGone gs) = k →
    MachsBut g w (.slice (some ⟨b, off, none⟩) n c) L → w.ownsRow 0 4 1 (.slice (some ⟨g, 0, none⟩) n n) n (gs.map .bool) → 0 < n →
    Calls Try.prog 54 #[.slice (some ⟨b, off, none⟩) n c, .slice (some ⟨g, 0, none⟩) n n] w fun e w' => e = .returned (.int .i64 (cnt (depAt L) n k (isGone gs) : Int)) ∧ Ex w w' := by
  intro k
  induction k using Nat.strongRecOn with
  | _ k ih =>
    intro gs w hgl hk hM0 hO h0
    have HM0 := Lib.hid hM0
    have hM := hM0.machs
    clear hM0
    obtain ⟨A, c', hv, h1, h2, hc⟩ := hM.open
    simp only [Value.slice.injEq] at hv
    obtain ⟨rfl, hl2, rfl⟩ := hv
    clear hl2
    obtain ⟨b', off', hbo, hc⟩ := hc (by omega)
    simp only [Option.some.injEq, Addr.mk.injEq, and_true] at hbo
    obtain ⟨rfl, rfl⟩ := hbo
    have IH := Lib.hid ih
    have HM := Lib.hid hM
    have HO := Lib.hid hO
    have HC := Lib.hid hc
    have HK := Lib.hid hk
    have h1' : n ≤ c := by omega
    have h2' : n ≤ 17592186044416 := by omega
    clear ih hM hO hc h1 h2 hk
    have hk12 : k ≤ 12 := by have := HK.out; have := rem_le n (isGone gs); omega
    generalize hD : depAt L = D
    go_enter Try.func54, Try.ntmps54
    go_wp2
    go_loopw [5, 6, 7] (fun s l i wr => ∃ j : Nat, j ≤ n ∧ i = .int .i64 j ∧ s = .int .i64 (sumTo j (termAt D n k (isGone gs)) : Int) ∧ l = .bool (leftTo (isGone gs) j) ∧ Ex w wr) (fun _ _ i _ => n - (intOf i).toNat)
    case atStart => exact ⟨0, Nat.zero_le _, rfl, rfl, rfl, Ex.refl _⟩
    case round =>
      obtain ⟨i, hi, rfl, rfl, rfl, hx⟩ := hrel
      have HX := Lib.hid hx
      clear hx
      by_cases hlt : i < n
      · have hO2 := own_ex HO.out HX.out
        have hgi : (gs.map Value.bool)[i]? = some (.bool (isGone gs i)) := by
          have : i < gs.length := by omega
          simp [isGone, this]
        have hci := own_cell hO2 hgi
        clear hgi hO2
        cases hgone : isGone gs i with
        | true =>
          rw [hgone] at hci
          have HG := Lib.hid hgone
          clear hgone
          go_wp2
          go_roundw
          case rel => exact ⟨i + 1, by omega, by go_num, by simp [sumTo, termAt, HG.out], by rw [leftTo_succ, HG.out]; simp, HX.out⟩
          case measure => simp [intOf]; omega
        | false =>
          rw [hgone] at hci
          have HG := Lib.hid hgone
          clear hgone
          go_wp2
          go_loopw [8, 9, 10] (fun f x _ w2 => ∃ j : Nat, j ≤ i ∧ x = .int .i64 j ∧ f = .bool (freeTo D (isGone gs) i j) ∧ Ex w w2) (fun _ x _ _ => i - (intOf x).toNat)
          case atStart => exact ⟨0, Nat.zero_le _, rfl, rfl, HX.out⟩
          case round =>
            obtain ⟨j, hj, rfl, rfl, hx2⟩ := hrel
            have HX2 := Lib.hid hx2
            clear hx2 hci
            by_cases hlt2 : j < i
            · obtain ⟨x, hx⟩ : ∃ x, L[j]? = some x := ⟨_, List.getElem?_eq_getElem (by omega)⟩
              obtain ⟨y, hy⟩ : ∃ y, L[i]? = some y := ⟨_, List.getElem?_eq_getElem (by omega)⟩
              have HXX := Lib.hid (HM.out.2 x (List.mem_of_getElem? hx))
              have HYY := Lib.hid (HM.out.2 y (List.mem_of_getElem? hy))
              have hdep : D j i = dependsB x y := by rw [← hD]; simp [depAt, hx, hy]
              have HDEP := Lib.hid hdep
              obtain ⟨d0, d1, d2, d3, d4, d5, d6, d7⟩ := (HC.out j x hx).ex HX2.out
              obtain ⟨e0, e1, e2, e3, e4, e5, e6, e7⟩ := (HC.out i y hy).ex HX2.out
              clear hx hy hdep
              obtain ⟨W, hW⟩ : ∃ W, W = wr := ⟨_, rfl⟩
              subst hW
              have l1 := World.block_lt_of_cell? W _ d0
              have b1 : (0 : Int) ≤ ↑j := by omega
              have b2 : (↑j : Int) < ↑n := by omega
              have b3 : (0 : Int) ≤ ↑i := by omega
              have b4 : (↑i : Int) < ↑n := by omega
              go_wp2
              go_region_held3 (fun w' => Cls W w') (first | exact (Cls.refl _).drew | exact Cls.step (by assumption) (by assumption)) (first | (go_at_call 16; with_reducible refine (refDepends_spec x y _ (HXX.out.1.ex (HX2.out.trans (And.right (by assumption : Cls W _)))) (HYY.out.1.ex (HX2.out.trans (And.right (by assumption : Cls W _)))) HXX.out.2.1 HYY.out.2.1 (takes_thousand HYY.out.2.2)).mono ?_; rintro e w3 ⟨rfl, hw3⟩))
              rename_i hS
              have HS := Lib.hid (HX2.out.trans hS.2)
              clear hS hw3 d0 d1 d2 d3 d4 d5 d6 d7 e0 e1 e2 e3 e4 e5 e6 e7 l1
              have hgj : (gs.map Value.bool)[j]? = some (.bool (isGone gs j)) := by
                have : j < gs.length := by omega
                simp [isGone, this]
              have hcj := own_cell (own_ex HO.out HS.out) hgj
              clear hgj
              have hsu := freeTo_succ D (isGone gs) i j
              rw [HDEP.out] at hsu
              generalize freeTo D (isGone gs) i j = q1 at *
              generalize isGone gs j = q2 at *
              generalize dependsB x y = q3 at *
              have HSU := Lib.hid hsu
              clear hsu
              cases q1 <;> cases q2 <;> cases q3
              all_goals
                go_wp2
                go_roundw
                case rel => exact ⟨j + 1, by omega, by go_num, by rw [HSU.out]; rfl, HS.out⟩
                case measure => simp [intOf]; omega
            · have he : j = i := by omega
              subst he
              have hfr : freeTo D (isGone gs) j j = free D (isGone gs) j := rfl
              rw [hfr]
              clear hfr
              cases hf : free D (isGone gs) j with
              | false =>
                have HF := Lib.hid hf
                clear hf
                go_wp2
                go_roundw
                case rel => exact ⟨j + 1, by omega, by go_num, by simp [sumTo, termAt, HF.out], by rw [leftTo_succ, HG.out]; simp, HX2.out⟩
                case measure => simp [intOf]; omega
              | true =>
                have HF := Lib.hid hf
                clear hf
                have hO3 := own_ex HO.out HX2.out
                obtain ⟨hst, hsg⟩ := hO3.stored j (.bool true)
                rw [show (gs.map Value.bool).set j (.bool true) = (gs.set j true).map Value.bool by rw [List.map_set]] at hst
                have hfz := hO3.frozenAt j
                have hjl : j < gs.length := by omega
                have hkk : rem n (isGone (gs.set j true)) = k - 1 := by
                  have h1 := rem_with n (isGone gs) j hlt HG.out
                  have h2 := HK.out
                  rw [isGone_set hjl]; omega
                have hpos : 0 < k := by
                  have h1 := rem_with n (isGone gs) j hlt HG.out
                  have h2 := HK.out
                  omega
                have hM2 := (HM0.out.ex HX2.out).grown hsg
                have hcall := IH.out (k - 1) (by omega) (gs.set j true) _ (by simp [hgl]) hkk hM2 hst h0
                have hs := sum_bound D n k (isGone gs) j hn hk12 (by omega)
                have hv := Nat.le_trans (cnt_le D n (k - 1) (with1 (isGone gs) j)) (pow_12 hn (by omega))
                have hsum : sumTo (j + 1) (termAt D n k (isGone gs)) = sumTo j (termAt D n k (isGone gs)) + cnt D n (k - 1) (with1 (isGone gs) j) := by simp [sumTo, termAt, HG.out, HF.out]
                rw [isGone_set hjl, hD] at hcall
                have hleft : leftTo (isGone gs) (j + 1) = true := by rw [leftTo_succ, HG.out]; simp
                have HCALL := Lib.hid hcall
                have HO3 := Lib.hid hO3
                have HST := Lib.hid hst
                have HSG := Lib.hid hsg
                have HSUM := Lib.hid hsum
                have HLEFT := Lib.hid hleft
                clear hcall hO3 hst hsg hsum hleft hM2 hkk hpos
                generalize sumTo j (termAt D n k (isGone gs)) = S at *
                generalize cnt D n (k - 1) (with1 (isGone gs) j) = V at *
                have hcj : wr.cell? ⟨g, j, none⟩ = some (.bool false) := own_cell HO3.out (by rw [List.getElem?_map, isGone_get hjl HG.out]; rfl)
                have hb1 : (0 : Int) ≤ ↑j := by omega
                have hb2 : (↑j : Int) < ↑n := by omega
                go_wp2_with fail
                with_reducible refine HCALL.out.mono ?_
                rintro e w5 ⟨rfl, hx5⟩
                have hO5 := own_ex HST.out hx5
                have hf5 := hO5.frozenAt j
                have hc5 : w5.cell? ⟨g, j, none⟩ = some (.bool true) := own_cell hO5 (by simp [hjl])
                obtain ⟨hO6, hg6⟩ := hO5.stored j (.bool false)
                have hback : ((gs.set j true).map Value.bool).set j (.bool false) = gs.map Value.bool := by
                  apply List.ext_getElem?
                  intro t
                  rw [List.getElem?_set]
                  by_cases hjt : j = t
                  · subst hjt
                    have hgj := isGone_get hjl HG.out
                    rw [if_pos rfl, List.getElem?_map, hgj]
                    simp [hjl]
                  · simp [hjt]
                rw [hback] at hO6
                have hx6 : Ex wr (w5.setCell ⟨g, j, none⟩ (.bool false)) :=
                  Ex.back HO3.out hO6 (grownBy.trans (grownBy.trans HSG.out ⟨hx5.os, hx5.tape, hx5.output, hx5.size, fun k hk _ => hx5.block k hk⟩) hg6)
                have HX6 := Lib.hid (HX2.out.trans hx6)
                clear hx5 hO5 hO6 hg6 hback hx6 hfz
                go_wp2
                go_roundw
                case rel => exact ⟨j + 1, by omega, by go_num, by rw [HSUM.out]; simp, by rw [HLEFT.out], HX6.out⟩
                case measure => simp [intOf]; omega
      · have he : i = n := by omega
        subst he
        have hl := leftTo_rem (g := isGone gs) i
        rw [HK.out] at hl
        rw [hl]
        clear hl
        rcases Nat.eq_zero_or_pos k with h | h
        · subst h
          have hd : decide (0 < 0) = false := rfl
          rw [hd]
          clear hd
          go_wp2
          go_ret
          exact ⟨by simp [cnt], HX.out⟩
        · have hd : decide (0 < k) = true := by simp [h]
          rw [hd]
          clear hd
          have HS := Lib.hid (cnt_sum (D := D) (n := i) (g := isGone gs) h)
          clear h
          go_wp2
          go_ret
          exact ⟨by rw [HS.out]; rfl, HX.out⟩

theorem count_none (A : Option Addr) (c : Nat) (v : Value) (w : World) (n : Nat) (hn : n = 0) : Calls Try.prog 54 #[.slice A n c, v] w fun e w' => e = .returned (.int .i64 1) ∧ Ex w w' := by
  subst hn
  go_enter Try.func54, Try.ntmps54
  go_wp2
  refine wp_loop_rounds 1 ?_
  rw [rounds_succ]
  go_wp2
  go_ret
  exact ⟨rfl, Ex.refl _⟩
theorem Try.infoBool : (Try.prog.info? 4).map (fun i => (i.zero, i.size, i.bytes)) = some (some (.bool false), 1, 1) := by kernel_rfl
theorem none_gone (n : Nat) : ∀ i, isGone (List.replicate n false) i = false := by
  intro i
  unfold isGone
  by_cases h : i < n
  · simp [h]
  · simp [h]
theorem rem_all (n : Nat) (g : Nat → Bool) (h : ∀ i, g i = false) : rem n g = n := by
  induction n with
  | zero => rfl
  | succ n ih => simp only [rem]; rw [ih, h n]; simp

set_option maxRecDepth 100000 in
set_option maxHeartbeats 1000000 in
theorem refOrders_spec (L : List Mach) (v : Value) (w : World) (h : Machs any w v L) :
    Calls Try.prog 19 #[v] w fun e w' => e = .returned (.int .i64 (ordersI L)) ∧ Ex w w' := by
  obtain ⟨A, c, rfl, h1, h2, hc⟩ := h.open
  have H := Lib.hid h
  have HC := Lib.hid hc
  clear h hc
  by_cases hn : 12 < L.length
  · go_enter Try.func19, Try.ntmps19
    go_wp2
    go_ret
    exact ⟨by simp [ordersI, hn], by go_grown⟩
  · have hI : Hid (ordersI L = (orders L : Int)) := by show ordersI L = _; simp [ordersI, hn]
    obtain ⟨i0, hi, hz0, hz1, hz2⟩ := info_parts Try.infoBool
    have hl12 : L.length ≤ 12 := by omega
    obtain ⟨W1, hmk, hown, hgr⟩ := run_makeSlice_full (P := Try.prog) w 0 51 4 i0 (.bool false) 1 Try.underlying51 hi hz0 hz1 .i64 .i64 L.length (by omega) (by rw [hz2]; omega) (by unfold maxLen; omega) (by simp)
    simp only [Value.cells, Nat.mul_one, toList_madeCells_one] at hown
    have hex : Ex w W1 := ⟨hgr.os, hgr.tape, hgr.output, hgr.size, fun k hk => hgr.block k hk (by simp)⟩
    have HOWN := Lib.hid hown
    have HEX := Lib.hid hex
    clear hown hex hgr hi hz0 hz1 hz2
    go_enter Try.func19, Try.ntmps19
    go_wp2_with fail
    by_cases h0 : 0 < L.length
    · obtain ⟨b, off, rfl, _⟩ := HC.out h0
      have hg := none_gone L.length
      have hcall := count_spec L L.length rfl hl12 b off c w.heap.size L.length (List.replicate L.length false) W1 (by simp) (rem_all _ _ hg) ((Machs.but H.out (Nat.le_refl _)).ex HEX.out) (by rw [List.map_replicate]; exact HOWN.out) h0
      have hval : cnt (depAt L) L.length L.length (isGone (List.replicate L.length false)) = orders L := by
        unfold orders
        exact cnt_congr (fun _ _ _ _ => rfl) _ _ _ (fun i _ => hg i)
      rw [hval] at hcall
      clear hg hval
      with_reducible refine hcall.mono ?_
      clear hcall
      rintro e w5 ⟨rfl, hw⟩
      have HW := Lib.hid (HEX.out.trans hw)
      clear hw
      go_wp2
      go_ret
      exact ⟨by rw [hI.out]; rfl, HW.out⟩
    · have hz : L.length = 0 := by omega
      have ho : orders L = 1 := by unfold orders; rw [hz]; rfl
      have HO := Lib.hid ho
      have HZ := Lib.hid hz
      clear hz ho h0
      with_reducible refine (count_none A c _ _ _ HZ.out).mono ?_
      rintro e w5 ⟨rfl, hw⟩
      have HW := Lib.hid (HEX.out.trans hw)
      clear hw
      go_wp2
      go_ret
      exact ⟨by rw [hI.out, HO.out]; rfl, HW.out⟩
end Go.Proofs.Ytikkeefhhhfmmaa
