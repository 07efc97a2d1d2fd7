/- jacquardlaw17.program and try: their walks. Conditions: none. -/
import Derived.Test.YtikkeefhhhfmmaaCheck
import Derived.Test.YtikkeefhhhfmmaaSome
set_option linter.unusedVariables false
set_option linter.unusedSimpArgs false
namespace Go.Proofs.Ytikkeefhhhfmmaa
open Go.RowKit Go.Instr

/-- A program of one block of these. -/
def oneP (L : List Placed) (lv bv : Value) : PFn := ⟨0, 16, 20, [⟨L, lv, ⟨7, -1, 0, [], .slice none 0 0, 0⟩⟩], bv⟩
set_option maxRecDepth 100000 in
set_option maxHeartbeats 1000000 in
theorem program_spec (L : List Placed) (lv : Value) (w : World) (h : Placeds any w lv L) (hl : L.length ≤ 1000) :
    Calls Try.prog 60 #[lv] w fun e w' => (∃ bv, e = .returned (oneP L lv bv).val ∧ (oneP L lv bv).okw w') ∧ Ex w w' := by
  obtain ⟨A, c, rfl⟩ := Recs.shape h
  have H := Lib.hid h
  clear h
  go_enter Try.func60, Try.ntmps60
  go_wp2
  go_returns
  refine ⟨⟨_, rfl, ?_⟩, by go_grown⟩
  have hx : Ex w ((w.alloc (.cells #[.int .i64 0, .int .i64 16, .int .i64 20, .slice (some ⟨w.heap.size + 1, 0, none⟩) 1 1] 35)).alloc (.cells #[.slice A L.length c, .int .i64 7, .int .i64 (-1), .int .i64 0, .slice none 0 0, .int .i32 0] 57)) := by go_grown
  have hr := World.ownsRow_lit (base := w.heap.size) (e := 57) (size := 6) (w.alloc (.cells #[.int .i64 0, .int .i64 16, .int .i64 20, .slice (some ⟨w.heap.size + 1, 0, none⟩) 1 1] 35)) #[.slice A L.length c, .int .i64 7, .int .i64 (-1), .int .i64 0, .slice none 0 0, .int .i32 0] 1 (by simp) (by decide) (by simp)
  rw [World.size_alloc] at hr
  refine ⟨⟨Row.anyOf (Row.fresh hr (by simp [oneP])), ?_⟩, by simp [oneP]⟩
  intro x hm
  simp only [oneP, List.mem_singleton] at hm
  subst hm
  exact ⟨H.out.ex hx, Nums.nil _ _ _, ⟨by show (-2147483648 : Int) ≤ 0; decide, by show (0 : Int) ≤ 2147483647; decide⟩, by show L.length ≤ _; omega, by simp⟩

def accB (L B : List Placed) : Bool := (checkB (oneP L (.slice none 0 0) (.slice none 0 0)) (oneP B (.slice none 0 0) (.slice none 0 0))).1 == 0
theorem accB_any (L B : List Placed) (lv bv lv' bv' : Value) : ((checkB (oneP L lv bv) (oneP B lv' bv')).1 == 0) = accB L B := rfl
/-- How many orders that begin so are accepted. -/
def tryN (L : List Placed) (n : Nat) : Nat → List Placed → (Nat → Bool) → Nat
  | 0, B, g => if accB L B then 1 else 0
  | k + 1, B, g => sumTo n fun i => if g i then 0 else tryN L n k (B ++ (L[i]?).toList) (with1 g i)
def tryT (L : List Placed) (n k : Nat) (B : List Placed) (g : Nat → Bool) (i : Nat) : Nat := if g i then 0 else tryN L n k (B ++ (L[i]?).toList) (with1 g i)
theorem sumTo_const_le (b : Nat) (f : Nat → Nat) (hf : ∀ i, f i ≤ b) : ∀ n, sumTo n f ≤ n * b
  | 0 => by simp [sumTo]
  | n + 1 => by
    have := sumTo_const_le b f hf n
    have := hf n
    simp only [sumTo, Nat.add_mul]
    omega
theorem tryN_le (L : List Placed) (n : Nat) : ∀ (k : Nat) (B : List Placed) (g : Nat → Bool), tryN L n k B g ≤ n ^ k
  | 0, B, g => by simp only [tryN]; split <;> simp
  | k + 1, B, g => by
    simp only [tryN]
    refine Nat.le_trans (sumTo_const_le (n ^ k) _ (fun i => ?_) n) (by rw [Nat.pow_succ, Nat.mul_comm]; exact Nat.le_refl _)
    split
    · exact Nat.zero_le _
    · exact tryN_le L n k _ _

/-- Instructions of which nothing lies in blocks that are not ok. -/
def PlacedsIn (ok : Nat → Prop) (w : World) (v : Value) (L : List Placed) : Prop := Row ok w 9 v L.length (L.flatMap Placed.cells) ∧ ∀ x ∈ L, x.m.ok ok w ∧ x.m.fine
theorem PlacedsIn.all {ok : Nat → Prop} {w : World} {v : Value} {L : List Placed} (h : PlacedsIn ok w v L) : Placeds any w v L := ⟨h.1.anyOf, fun x hx => ⟨Nums.anyOf (h.2 x hx).1, (h.2 x hx).2⟩⟩
theorem PlacedsIn.ex {ok : Nat → Prop} {w w' : World} {v : Value} {L : List Placed} (h : PlacedsIn ok w v L) (hb : Ex w w') : PlacedsIn ok w' v L :=
  ⟨h.1.ex hb, fun x hx => ⟨(h.2 x hx).1.ex hb, (h.2 x hx).2⟩⟩
theorem PlacedsIn.grown {g : Nat} {w w' : World} {v : Value} {L : List Placed} (h : PlacedsIn (fun k => k ≠ g) w v L) (hg : w.grownBy w' (some g)) : PlacedsIn (fun k => k ≠ g) w' v L :=
  ⟨h.1.imp (fun k hk hlt => hg.block k hlt (fun e => hk (by injection e))) (fun _ hk _ => hk),
   fun x hx => ⟨Row.imp (h.2 x hx).1 (fun k hk hlt => hg.block k hlt (fun e => hk (by injection e))) (fun _ hk _ => hk), (h.2 x hx).2⟩⟩
theorem Placeds.isin {ok : Nat → Prop} {w : World} {v : Value} {L : List Placed} (h : Placeds any w v L) (ho : ∀ k, k < w.heap.size → ok k) : PlacedsIn ok w v L :=
  ⟨h.1.imp (fun _ _ _ => rfl) (fun k _ hlt => ho k hlt), fun x hx => ⟨Row.imp (h.2 x hx).1 (fun _ _ _ => rfl) (fun k _ hlt => ho k hlt), (h.2 x hx).2⟩⟩
theorem Try.infoPlaced : (Try.prog.info? 49).map (fun i => (i.zero, i.size, i.bytes)) = some (some (.agg #[.int .i64 0, .int .i64 0, .int .i64 0, .int .i64 0, .int .i64 0, .int .i64 0, .int .i32 0, .slice none 0 0, .int .i64 0]), 9, 88) := by kernel_rfl
theorem row_litP (W : World) (cs : List Value) (h9 : cs.length = 9) {B : Nat} (hB : W.heap.size = B) : Row any (W.alloc (.cells cs.toArray 49)) 9 (.slice (some ⟨B, 0, none⟩) 1 1) 1 cs := by
  subst hB
  have h := World.ownsRow_lit (base := W.heap.size) (e := 49) (size := 9) W cs.toArray 1 (Nat.le_refl _) (by decide) (by simp [h9])
  have := Row.anyOf (Row.of_own h (by omega))
  simpa using this
theorem row_litG {W w' : World} {o : Obj} (cs : List Value) (h9 : cs.length = 9) (hg : ((W.alloc o).alloc (.cells cs.toArray 49)).drew.grownBy w' (Value.ownBlock (.slice (some ⟨W.heap.size, 0, none⟩) 0 0))) :
    Row any w' 9 (.slice (some ⟨W.heap.size + 1, 0, none⟩) 1 1) 1 cs := by
  have h := World.ownsRow_lit (base := W.heap.size) (e := 49) (size := 9) (W.alloc o) cs.toArray 1 (by simp) (by decide) (by simp [h9])
  rw [World.size_alloc] at h
  have h2 := Row.of_own h (by omega)
  have h3 := h2.ex (Ex.refl _).drew
  have := h3.imp (ok' := any) (fun k hk hlt => hg.block k hlt (fun e => by simp [Value.ownBlock] at hk e; omega)) (fun _ _ _ => trivial)
  simpa using this
theorem row_litG2 {W w' : World} {o : Obj} (cs : List Value) (h9 : cs.length = 9) (hg : ((W.alloc (.cells cs.toArray 49)).alloc o).drew.grownBy w' (Value.ownBlock (.slice (some ⟨W.heap.size + 1, 0, none⟩) 0 0))) :
    Row any w' 9 (.slice (some ⟨W.heap.size, 0, none⟩) 1 1) 1 cs := by
  have h := World.ownsRow_lit (base := W.heap.size) (e := 49) (size := 9) W cs.toArray 1 (Nat.le_refl _) (by decide) (by simp [h9])
  have h2 := Row.of_own h (by omega)
  have h3 := h2.ex ((Ex.refl _).alloc o).drew
  have := h3.imp (ok' := any) (fun k hk hlt => hg.block k hlt (fun e => by simp [Value.ownBlock] at hk e; omega)) (fun _ _ _ => trivial)
  simpa using this
theorem placeds_one {w : World} {v : Value} {L : List Placed} (h : Placeds any w v L) : ∀ u ∈ L.flatMap Placed.cells, u.oneCell' = true := by
  intro u hu
  obtain ⟨x, hx, hu⟩ := List.mem_flatMap.1 hu
  obtain ⟨A, c, hav⟩ := Nums.shape (h.2 x hx).1
  simp only [Placed.cells, List.mem_cons, List.not_mem_nil, or_false] at hu
  rcases hu with rfl | rfl | rfl | rfl | rfl | rfl | rfl | rfl | rfl
  case inr.inr.inr.inr.inr.inr.inr.inl => rw [hav]; rfl
  all_goals rfl
theorem placed_one (op d e a b c imm f : Int) (A : Option Addr) (n k : Nat) : ∀ u ∈ [Value.int .i64 op, .int .i64 d, .int .i64 e, .int .i64 a, .int .i64 b, .int .i64 c, .int .i32 imm, .slice A n k, .int .i64 f], u.oneCell' = true := by
  intro u hu
  simp only [List.mem_cons, List.not_mem_nil, or_false] at hu
  rcases hu with rfl | rfl | rfl | rfl | rfl | rfl | rfl | rfl | rfl <;> rfl
/-- What was appended to a row of one's own, with one more, reads as both. -/
theorem placeds_app {w' : World} {base g c : Nat} {A : Option Addr} {B : List Placed} {x : Placed} (hB : ∀ y ∈ B, y.m.ok (fun k => k ≠ g) w' ∧ y.m.fine) (hx : x.m.ok (fun k => k ≠ g) w' ∧ x.m.fine) (hg : g < base)
    (h : w'.ownsRow base 49 9 (.slice A (B.length + 1) c) (B.length + 1) (B.flatMap Placed.cells ++ x.cells)) (hl : B.length + 1 ≤ 17592186044416) : PlacedsIn (fun k => k ≠ g) w' (.slice A (B.length + 1) c) (B ++ [x]) := by
  refine ⟨?_, ?_⟩
  · have := Row.fresh h hl
    have h2 : (B ++ [x]).flatMap Placed.cells = B.flatMap Placed.cells ++ x.cells := by simp
    rw [h2, List.length_append]
    exact this.imp (fun _ _ _ => rfl) (fun k hk _ => by omega)
  · intro y hy
    rcases List.mem_append.1 hy with hy | hy
    · exact hB y hy
    · simp only [List.mem_singleton] at hy
      subst hy
      exact hx

set_option maxRecDepth 100000 in
set_option maxHeartbeats 4000000 in
theorem try_spec (L : List Placed) (n : Nat) (hL : L.length = n) (hn : n ≤ 5) (lv : Value) (g : Nat) : ∀ (k : Nat) (B : List Placed) (bv : Value) (gs : List Bool) (w : World), B.length + k = n → gs.length = n →
    PlacedsIn (fun k => k ≠ g) w lv L → PlacedsIn (fun k => k ≠ g) w bv B → w.ownsRow 0 4 1 (.slice (some ⟨g, 0, none⟩) n n) n (gs.map .bool) →
    Calls Try.prog 26 #[lv, bv, .slice (some ⟨g, 0, none⟩) n n] w fun e w' => e = .returned (.int .i64 (tryN L n k B (isGone gs) : Int)) ∧ Ex w w' := by
  intro k
  induction k with
  | zero =>
    intro B bv gs w hk hg hLi hBi hO
    obtain ⟨A1, c1, hv1⟩ := Recs.shape hLi.all
    obtain ⟨A2, c2, hv2⟩ := Recs.shape hBi.all
    subst hv1 hv2
    have HL := Lib.hid hLi.all
    have HB := Lib.hid hBi.all
    have he : ((B.length : Int) == (L.length : Int)) = true := by simp; omega
    have h1 : L.length ≤ 1000 := by omega
    have h2 : B.length ≤ 1000 := by omega
    have HT : Hid (tryN L n 0 B (isGone gs) = if accB L B then 1 else 0) := rfl
    clear hLi hBi hO hk hL hg
    go_enter Try.func26, Try.ntmps26
    go_wp2_with fail
    with_reducible refine (program_spec L _ _ HL.out h1).mono ?_
    rintro e w1 ⟨⟨bv1, rfl, hok1⟩, hw1⟩
    have HOK1 := Lib.hid hok1
    have HW1 := Lib.hid hw1
    clear hok1 hw1
    go_wp2_with fail
    with_reducible refine (program_spec B _ _ (HB.out.ex HW1.out) h2).mono ?_
    rintro e w2 ⟨⟨bv2, rfl, hok2⟩, hw2⟩
    have HOK2 := Lib.hid hok2
    have HW2 := Lib.hid hw2
    clear hok2 hw2
    go_wp2_with fail
    with_reducible refine (check_spec _ _ _ (HOK1.out.ex HW2.out) HOK2.out).mono ?_
    rintro e w3 ⟨rfl, hw3⟩
    have HW3 := Lib.hid (HW1.out.trans (HW2.out.trans hw3))
    have HA := Lib.hid (accB_any L B (.slice A1 L.length c1) bv1 (.slice A2 B.length c2) bv2)
    clear hw3
    generalize checkB (oneP L (.slice A1 L.length c1) bv1) (oneP B (.slice A2 B.length c2) bv2) = r at *
    obtain ⟨r0, r1, r2⟩ := r
    simp only at HA
    cases hb : accB L B with
    | true =>
      have hr := HA.out.trans hb
      have HBB := Lib.hid hb
      clear hb
      go_wp2
      go_ret
      exact ⟨by rw [HT.out, HBB.out]; rfl, HW3.out⟩
    | false =>
      have hr := HA.out.trans hb
      have HBB := Lib.hid hb
      clear hb
      go_wp2
      go_ret
      exact ⟨by rw [HT.out, HBB.out]; rfl, HW3.out⟩
  | succ k ih =>
    intro B bv gs w hk hg hLi hBi hO
    obtain ⟨A1, c1, hv1⟩ := Recs.shape hLi.all
    obtain ⟨A2, c2, hv2⟩ := Recs.shape hBi.all
    subst hv1 hv2
    rw [hL] at hLi ih
    have IH := Lib.hid ih
    have HL := Lib.hid hLi
    have HB := Lib.hid hBi
    have HO := Lib.hid hO
    have HG := Lib.hid hg
    have hk5 : k + 1 ≤ 5 := by omega
    have hB5 : B.length + 1 ≤ 5 := by omega
    have he : ((B.length : Int) == (n : Int)) = false := by simp; omega
    have hn0 : 0 < n := by omega
    have HK := Lib.hid hk
    have HT : Hid (tryN L n (k + 1) B (isGone gs) = sumTo n (tryT L n k B (isGone gs))) := rfl
    have hpow : n ^ k ≤ 3125 := Nat.le_trans (Nat.pow_le_pow_left hn k) (Nat.pow_le_pow_right (n := 5) (by decide) (by omega : k ≤ 5))
    have hTle : ∀ i, tryT L n k B (isGone gs) i ≤ 3125 := by
      intro i
      unfold tryT
      split
      · omega
      · exact Nat.le_trans (tryN_le L n k _ _) hpow
    have HTle := Lib.hid hTle
    have hLL := HL.out.all.open
    rw [hL] at hLL
    obtain ⟨_, _, hv, hb1, hb2, hcL⟩ := hLL
    simp only [Value.slice.injEq] at hv
    obtain ⟨rfl, hv2, rfl⟩ := hv
    have HLn := Lib.hid hL
    have HC := Lib.hid hcL
    clear ih hLi hBi hO hg hk hpow hTle hcL hv2
    rw [hL]
    clear hL
    go_enter Try.func26, Try.ntmps26
    go_wp2
    go_loopw [10, 11] (fun s i wr => ∃ j S : Nat, j ≤ n ∧ i = .int .i64 j ∧ s = .int .i64 S ∧ Hid (S = sumTo j (tryT L n k B (isGone gs))) ∧ Ex w wr) (fun _ i _ => n - (intOf i).toNat)
    case atStart => exact ⟨0, 0, Nat.zero_le _, rfl, rfl, rfl, Ex.refl _⟩
    case round =>
      obtain ⟨j, S, hj, rfl, rfl, hS, hx⟩ := hrel
      have HS := Lib.hid hS.out
      have HX := Lib.hid hx
      clear hS hx
      by_cases hlt : j < n
      · have hO2 := own_ex HO.out HX.out
        have hSb : S ≤ 15625 := by
          have := sumTo_const_le 3125 (tryT L n k B (isGone gs)) HTle.out j
          rw [← HS.out] at this
          omega
        have hgi : (gs.map Value.bool)[j]? = some (.bool (isGone gs j)) := by
          have : j < gs.length := by have := HG.out; omega
          simp [isGone, this]
        have hci := own_cell hO2 hgi
        clear hgi
        cases hgone : isGone gs j with
        | true =>
          rw [hgone] at hci
          have HGN : Hid (sumTo (j + 1) (tryT L n k B (isGone gs)) = S) := by show _ = _; simp [sumTo, tryT, hgone, HS.out]
          clear hgone hO2
          go_wp2
          go_roundw
          case rel => exact ⟨j + 1, S, by omega, by go_num, rfl, HGN.out.symm, HX.out⟩
          case measure => simp [intOf]; omega
        | false =>
          rw [hgone] at hci
          have hjl : j < gs.length := by have := HG.out; omega
          obtain ⟨hst, hsg⟩ := hO2.stored j (.bool true)
          rw [show (gs.map Value.bool).set j (.bool true) = (gs.set j true).map Value.bool by rw [List.map_set]] at hst
          have hfz := hO2.frozenAt j
          obtain ⟨b, off, rfl, _, hc⟩ := HC.out hn0
          obtain ⟨x, hxx⟩ : ∃ x, L[j]? = some x := ⟨_, List.getElem?_eq_getElem (by have := HLn.out; omega)⟩
          have hxo := HL.out.2 x (List.mem_of_getElem? hxx)
          obtain ⟨⟨xop, xd, xe, xa, xb, xc, xi, xs, xv⟩, xf⟩ := x
          obtain ⟨A5, c5, hmv⟩ := Nums.shape hxo.1
          simp only at hmv
          subst hmv
          have hLW := (HL.out.ex HX.out).grown hsg
          have hBW := (HB.out.ex HX.out).grown hsg
          obtain ⟨W, hW⟩ : ∃ W, W = wr.setCell ⟨g, j, none⟩ (.bool true) := ⟨_, rfl⟩
          have HW := Lib.hid hW
          rw [← hW] at hst hsg hLW hBW
          obtain ⟨_, _, hv, _, _, hcW⟩ := hLW.all.open
          simp only [Value.slice.injEq] at hv
          obtain ⟨rfl, hv2, rfl⟩ := hv
          obtain ⟨_, _, hbo, _, hcW⟩ := hcW (by have := HLn.out; omega)
          simp only [Option.some.injEq, Addr.mk.injEq, and_true] at hbo
          obtain ⟨rfl, rfl⟩ := hbo
          obtain ⟨d0, d1, d2, d3, d4, d5, d6, d7, d8⟩ := hcW j _ hxx
          have hTj : tryT L n k B (isGone gs) j = tryN L n k (B ++ [⟨⟨xop, xd, xe, xa, xb, xc, xi, xs, .slice A5 xs.length c5⟩, xf⟩]) (isGone (gs.set j true)) := by
            unfold tryT
            rw [hgone, hxx, isGone_set hjl]
            rfl
          have HTJ := Lib.hid hTj
          have hVb : tryN L n k (B ++ [⟨⟨xop, xd, xe, xa, xb, xc, xi, xs, .slice A5 xs.length c5⟩, xf⟩]) (isGone (gs.set j true)) ≤ 3125 := by rw [← hTj]; exact HTle.out j
          have hgl : g < W.heap.size := (hst.lt g rfl).2
          have hcall : Hid (∀ w' bv', Ex W w' → PlacedsIn (fun k => k ≠ g) w' bv' (B ++ [⟨⟨xop, xd, xe, xa, xb, xc, xi, xs, .slice A5 xs.length c5⟩, xf⟩]) → Calls Try.prog 26 #[.slice (some ⟨b, off, none⟩) n c1, bv', .slice (some ⟨g, 0, none⟩) n n] w' fun e w'' =>
              e = .returned (.int .i64 (tryN L n k (B ++ [⟨⟨xop, xd, xe, xa, xb, xc, xi, xs, .slice A5 xs.length c5⟩, xf⟩]) (isGone (gs.set j true)) : Int)) ∧ Ex w' w'') := by
            intro w' bv' hw hbv
            have h1 : PlacedsIn (fun k => k ≠ g) w' (.slice (some ⟨b, off, none⟩) n c1) L := hLW.ex hw
            exact IH.out _ bv' (gs.set j true) w' (by simp; have := HK.out; omega) (by rw [List.length_set]; exact HG.out) h1 hbv (own_ex hst hw)
          have HXO : Hid ((Mach.mk xop xd xe xa xb xc xi xs (.slice A5 xs.length c5)).ok (fun k => k ≠ g) W ∧ (Mach.mk xop xd xe xa xb xc xi xs (.slice A5 xs.length c5)).fine) := hLW.2 _ (List.mem_of_getElem? hxx)
          have HST := Lib.hid hst
          have HSG := Lib.hid hsg
          have HBW := Lib.hid hBW
          have HO2 := Lib.hid hO2
          have HGN := Lib.hid hgone
          clear hst hsg hLW hBW hcW hTj hxo hxx hc hW hv2 hgone hO2
          generalize tryN L n k (B ++ [⟨⟨xop, xd, xe, xa, xb, xc, xi, xs, .slice A5 xs.length c5⟩, xf⟩]) (isGone (gs.set j true)) = V at *
          have l0 := World.block_lt_of_cell? W _ d0
          have g1 : (0 : Int) ≤ ↑j := by omega
          have g2 : (j : Int) < ↑n := by omega
          have g3 : IntKind.i64.wrap ((S : Int) + V) = (S : Int) + V := wraps_i64 _ (by omega) (by omega)
          go_wp2
          rw [← HW.out]
          go_cut [10] (fun t w' => t = .int .i64 ((S : Int) + V) ∧ Ex W w')
          case first =>
            go_region_held3 (fun w' => Cls W w') (first | exact (Cls.refl _).drew | exact Cls.step (by assumption) (by assumption) | exact Cls.alloc (by assumption) _ | exact Cls.grows (by assumption) (by assumption)) (first
              | (refine step_app rfl _ (.tmp 44) (.tmp 45) 47 rfl W.heap.size 49 _ 9 88 Try.underlying47 Try.infoPlaced rfl (by decide) (by decide) (.slice (some ⟨_, 0, none⟩) 0 0) 0 [] ?_ rfl (.slice A2 B.length c2) B.length (B.flatMap Placed.cells) ?_ rfl (placeds_one HBW.out.all) ?_ ?_ ?_; (first | exact own_ex (own_empty (Ex.refl W) (by simp)) (Ex.refl _).drew | exact own_ex (own_empty (Ex.refl W) (by simp)) ((Ex.refl _).alloc _).drew | exact own_ex (own_empty ((Ex.refl W).alloc _) (by simp)) (Ex.refl _).drew); (exact HBW.out.all.1.ex (And.right (by assumption : Cls W _))); omega; exact (And.right (by assumption : Cls W _)).size; intro A6 k6 w6 hown6 hg6 hh6; rw [Nat.zero_add, List.nil_append] at hown6; rw [Nat.zero_add]; have HO6 := Lib.hid hown6; clear hown6)
              | (refine step_app rfl _ (.tmp 46) (.tmp 51) 47 rfl W.heap.size 49 _ 9 88 Try.underlying47 Try.infoPlaced rfl (by decide) (by decide) (.slice A6 B.length k6) B.length (B.flatMap Placed.cells) ?_ rfl (.slice (some ⟨_, 0, none⟩) 1 1) 1 [.int .i64 xop, .int .i64 xd, .int .i64 xe, .int .i64 xa, .int .i64 xb, .int .i64 xc, .int .i32 xi, .slice A5 xs.length c5, .int .i64 xf] ?_ rfl (placed_one _ _ _ _ _ _ _ _ _ _ _) ?_ ?_ ?_; (first | exact own_ex HO6.out ((Ex.refl _).alloc _) | exact HO6.out); (first | exact row_litP w6 _ rfl rfl | exact row_litG _ rfl hh6 | exact row_litG2 _ rfl hh6); omega; exact (And.right (by assumption : Cls W _)).size; intro A7 k7 w7 hown7 hg7 hh7; have HO7 := Lib.hid hown7; clear hown7)
              | (go_at_call 26; (with_reducible refine (hcall.out w7 (.slice A7 (B.length + 1) k7) (And.right (by assumption : Cls W w7)) ?_).mono ?_); (have hCW := And.right (by assumption : Cls W w7); exact placeds_app (x := ⟨⟨xop, xd, xe, xa, xb, xc, xi, xs, .slice A5 xs.length c5⟩, xf⟩) (fun y hy => ⟨(HBW.out.2 y hy).1.ex hCW, (HBW.out.2 y hy).2⟩) ⟨HXO.out.1.ex hCW, HXO.out.2⟩ hgl HO7.out (by omega)); rintro e w8 ⟨rfl, hw8⟩))
            all_goals
              go_wp2
              go_meet
              case rel => exact ⟨rfl, And.right (by assumption : Cls W _)⟩
          case rest =>
            obtain ⟨rfl, hx5⟩ := hcut
            obtain ⟨w5, hw5⟩ : ∃ w5, w5 = wc := ⟨_, rfl⟩
            subst hw5
            clear d0 d1 d2 d3 d4 d5 d6 d7 d8 l0 g3 hci hfz
            have hjl2 : j < gs.length := by have := HG.out; omega
            have hO5 := own_ex HST.out hx5
            have hf5 := hO5.frozenAt j
            have hc5 : w5.cell? ⟨g, j, none⟩ = some (.bool true) := own_cell hO5 (by simp [hjl2])
            obtain ⟨hO6, hg6⟩ := hO5.stored j (.bool false)
            have hback : ((gs.set j true).map Value.bool).set j (.bool false) = gs.map Value.bool := by
              apply List.ext_getElem?
              intro t
              rw [List.getElem?_set]
              by_cases hjt : j = t
              · subst hjt
                have hgj := isGone_get hjl2 HGN.out
                rw [if_pos rfl, List.getElem?_map, hgj]
                simp [hjl2]
              · simp [hjt]
            rw [hback] at hO6
            have hx6 : Ex wr (w5.setCell ⟨g, j, none⟩ (.bool false)) :=
              Ex.back HO2.out hO6 (grownBy.trans (grownBy.trans HSG.out ⟨hx5.os, hx5.tape, hx5.output, hx5.size, fun k hk _ => hx5.block k hk⟩) hg6)
            have HX6 := Lib.hid (HX.out.trans hx6)
            have hsum : sumTo (j + 1) (tryT L n k B (isGone gs)) = S + V := by
              simp only [sumTo]
              rw [← HS.out, HTJ.out]
            have HSUM := Lib.hid hsum
            clear hx5 hO5 hO6 hg6 hback hx6 hsum
            go_wp2
            go_roundw
            case rel => exact ⟨j + 1, S + V, by omega, by go_num, by go_num, HSUM.out.symm, HX6.out⟩
            case measure => simp [intOf]; omega
      · have he : j = n := by omega
        have hf : tryN L n (k + 1) B (isGone gs) = S := by rw [HT.out, HS.out, he]
        have HF := Lib.hid hf
        clear he hf
        go_wp2
        go_ret
        exact ⟨by rw [HF.out]; rfl, HX.out⟩
end Go.Proofs.Ytikkeefhhhfmmaa
