/- order.Orders: its walk. Conditions: none. -/
import Derived.Test.YtikkeefhhhfmmaaOrd
import Derived.Test.YtikkeefhhhfmmaaMachs
import Derived.Deep.QuietTactic
import Derived.BigQuiet
import Derived.StillTailTactics
set_option linter.unusedVariables false
namespace Go.Proofs.Ytikkeefhhhfmmaa
open Go.RowKit Go.Instr

def depAt (L : List Mach) (i j : Nat) : Bool := match L[i]?, L[j]? with
  | some x, some y => dependsB x y
  | _, _ => false
/-- In how many orders they may stand. -/
def orders (L : List Mach) : Nat := cnt (depAt L) L.length L.length (fun _ => false)
def ordersI (L : List Mach) : Int := if 12 < L.length then -1 else (orders L : Int)
def beh (D : Nat → Nat → Bool) (i j t : Nat) : Nat := if t < i then behind D t t else if t = i then behind D i j else 0
def behs (D : Nat → Nat → Bool) (n i j : Nat) : List Value := (List.range n).map fun t => .int .i64 (beh D i j t : Int)

theorem behs_at {D : Nat → Nat → Bool} {n i j t : Nat} (h : t < n) : (behs D n i j)[t]? = some (.int .i64 (beh D i j t : Int)) := by
  simp [behs, h]
theorem beh_self (D : Nat → Nat → Bool) (i j : Nat) : beh D i j i = behind D i j := by simp [beh]
theorem behs_zero (D : Nat → Nat → Bool) (n : Nat) : behs D n 0 0 = (List.replicate n (.int .i64 0)) := by
  apply List.ext_getElem?
  intro t
  by_cases h : t < n
  · rw [behs_at h]
    simp [h, beh, behind]
  · simp [behs, h]
theorem behs_next (D : Nat → Nat → Bool) (n i : Nat) : behs D n i i = behs D n (i + 1) 0 := by
  unfold behs
  refine List.map_congr_left fun t _ => ?_
  congr 2
  unfold beh
  by_cases h1 : t < i
  · rw [if_pos h1, if_pos (by omega)]
  · rw [if_neg h1]
    by_cases h2 : t = i
    · subst h2; rw [if_pos rfl, if_pos (by omega)]
    · rw [if_neg h2, if_neg (by omega)]
      by_cases h3 : t = i + 1
      · rw [if_pos h3]; rfl
      · rw [if_neg h3]
theorem behs_skip {D : Nat → Nat → Bool} {n i j : Nat} (h : D j i = false) : behs D n i j = behs D n i (j + 1) := by
  unfold behs
  refine List.map_congr_left fun t _ => ?_
  unfold beh
  simp only [behind, h, Bool.false_eq_true, if_false]
theorem behs_set {D : Nat → Nat → Bool} {n i j : Nat} (h : D j i = true) : (behs D n i j).set i (.int .i64 ((behind D i j ||| 2 ^ j : Nat) : Int)) = behs D n i (j + 1) := by
  apply List.ext_getElem?
  intro t
  by_cases ht : t < n
  · rw [behs_at ht, List.getElem?_set]
    by_cases hit : i = t
    · subst hit
      simp [behs, ht, beh, behind, h]
    · rw [if_neg hit, behs_at ht]
      unfold beh
      simp only [Ne.symm hit, if_false]
  · simp [behs, ht]

/-- What the loops keep. -/
structure OrdR (D : Nat → Nat → Bool) (n : Nat) (A : Option Addr) (c : Nat) (w : World) (b3 : Nat) (i j : Nat) (wr : World) : Prop where
  ex : Ex w wr
  c0 : wr.cell? ⟨w.heap.size, 0, none⟩ = some (.slice A n c)
  c3 : wr.cell? ⟨b3, 0, none⟩ = some (.slice (some ⟨w.heap.size + 1, 0, none⟩) n n)
  own : wr.ownsRow w.heap.size 3 1 (.slice (some ⟨w.heap.size + 1, 0, none⟩) n n) n (behs D n i j)
theorem OrdR.go {D : Nat → Nat → Bool} {n : Nat} {A : Option Addr} {c : Nat} {w : World} {b3 i j : Nat} {wr w2 : World} (h : OrdR D n A c w b3 i j wr) (hb : Ex wr w2) : OrdR D n A c w b3 i j w2 :=
  ⟨h.ex.trans hb, hb.cell h.c0, hb.cell h.c3, own_ex h.own hb⟩
theorem OrdR.store {D : Nat → Nat → Bool} {n : Nat} {A : Option Addr} {c : Nat} {w : World} {b3 i j : Nat} {wr : World} (h : OrdR D n A c w b3 i j wr) (hb : w.heap.size + 1 < b3) (hd : D j i = true) :
    OrdR D n A c w b3 i (j + 1) (wr.setCell ⟨w.heap.size + 1, i, none⟩ (.int .i64 ((behind D i j ||| 2 ^ j : Nat) : Int))) := by
  obtain ⟨h1, h2⟩ := h.own.stored i (.int .i64 ((behind D i j ||| 2 ^ j : Nat) : Int))
  rw [behs_set hd] at h1
  exact ⟨h.ex.set (by simp) _, setCell_cell h.c0 (by simp), setCell_cell h.c3 (by simp; omega), h1⟩

set_option maxRecDepth 100000 in
set_option maxHeartbeats 1000000 in
theorem orders_spec (L : List Mach) (v : Value) (w : World) (h : Machs any w v L) :
    Calls Try.prog 18 #[v] w fun e w' => e = .returned (.int .i64 (ordersI L)) ∧ Ex w w' := by
  obtain ⟨A, c, rfl, h1, h2, hc⟩ := h.open
  have H := Lib.hid h
  have HC := Lib.hid hc
  clear h hc
  by_cases hn : 12 < L.length
  · go_enter Try.func18, Try.ntmps18
    go_wp2
    go_ret
    exact ⟨by simp [ordersI, hn], by go_grown⟩
  · have hI : Hid (ordersI L = (orders L : Int)) := by show ordersI L = _; simp [ordersI, hn]
    generalize hD : depAt L = D at *
    go_enter Try.func18, Try.ntmps18
    obtain ⟨i0, hi, hz0, hz1, hz2⟩ := info_parts Try.info3
    have hl12 : L.length ≤ 12 := by omega
    obtain ⟨W1, hmk, hown, hgr⟩ := run_makeSlice_full (P := Try.prog) (w.alloc (.cells #[.slice A L.length c] 28)) w.heap.size 22 3 i0 (.int .i64 0) 1 Try.underlying22 hi hz0 hz1 .i64 .i64 L.length (by omega) (by rw [hz2]; omega) (by unfold maxLen; omega) (by simp)
    simp only [World.size_alloc, Value.cells, Nat.mul_one, toList_madeCells_one] at hmk hown
    rw [← behs_zero D] at hown
    have hsz := hgr.size
    rw [World.size_alloc] at hsz
    have hb0 : (w.alloc (.cells #[.slice A L.length c] 28)).cell? ⟨w.heap.size, 0, none⟩ = some (.slice A L.length c) := (World.cell?_alloc_new _ _ _ _).trans rfl
    have hb1 := hgr.cell hb0 (by simp)
    have hex : Ex w W1 := Ex.grown ((Ex.refl w).alloc _) hgr (by simp)
    have HOWN := Lib.hid hown
    have HEX := Lib.hid hex
    clear hown hex hb0 hgr hi hz0 hz1 hz2
    have hst : Hid (OrdR D L.length A c w W1.heap.size 0 0 (W1.alloc (.cells #[.slice (some ⟨w.heap.size + 1, 0, none⟩) L.length L.length] 22))) :=
      ⟨HEX.out.alloc _, ((Ex.refl W1).alloc _).cell hb1, (World.cell?_alloc_new _ _ _ _).trans rfl, own_ex HOWN.out ((Ex.refl W1).alloc _)⟩
    have hst0 := hst.out.c0
    have hsz2 : w.heap.size + 1 < W1.heap.size := (HOWN.out.lt _ rfl).2
    go_wp2
    go_loopw [4, 16] (fun _ x wr => ∃ i : Nat, i ≤ L.length ∧ x = .int .i64 i ∧ OrdR D L.length A c w W1.heap.size i 0 wr) (fun _ x _ => L.length - (intOf x).toNat)
    case atStart => exact ⟨0, Nat.zero_le _, rfl, hst.out⟩
    case round =>
      obtain ⟨i, hi, rfl, hR⟩ := hrel
      have HR := Lib.hid hR
      clear hR hb1 hmk
      by_cases hlt : i < L.length
      · go_wp2
        go_loopw [5, 20] (fun _ x w2 => ∃ j : Nat, j ≤ i ∧ x = .int .i64 j ∧ OrdR D L.length A c w W1.heap.size i j w2) (fun _ x _ => i - (intOf x).toNat)
        case atStart => exact ⟨0, Nat.zero_le _, rfl, HR.out⟩
        case round =>
          obtain ⟨j, hj, rfl, hR2⟩ := hrel
          have HR2 := Lib.hid hR2
          clear hR2
          by_cases hlt2 : j < i
          · have c0 := HR2.out.c0
            have c3 := HR2.out.c3
            obtain ⟨b, off, rfl, hc⟩ := HC.out (by omega)
            obtain ⟨x, hx⟩ : ∃ x, L[j]? = some x := ⟨_, List.getElem?_eq_getElem (by omega)⟩
            obtain ⟨y, hy⟩ : ∃ y, L[i]? = some y := ⟨_, List.getElem?_eq_getElem hlt⟩
            have hx8 := hc j x hx
            have hy8 := hc i y hy
            have HX := Lib.hid (H.out.2 x (List.mem_of_getElem? hx))
            have HY := Lib.hid (H.out.2 y (List.mem_of_getElem? hy))
            have hdep : D j i = dependsB x y := by rw [← hD]; simp [depAt, hx, hy]
            have HDEP := Lib.hid hdep
            have hE0 := HR2.out.ex
            obtain ⟨d0, d1, d2, d3, d4, d5, d6, d7⟩ := (hc j x hx).ex hE0
            obtain ⟨e0, e1, e2, e3, e4, e5, e6, e7⟩ := (hc i y hy).ex hE0
            have HE0 := Lib.hid hE0
            clear hc hx hy hdep hE0 HC
            obtain ⟨W, hW⟩ : ∃ W, W = wr := ⟨_, rfl⟩
            subst hW
            have l0 := World.block_lt_of_cell? W _ c0
            have l1 := World.block_lt_of_cell? W _ d0
            have b1 : (0 : Int) ≤ ↑j := by omega
            have b2 : (↑j : Int) < ↑L.length := by omega
            have b3 : (0 : Int) ≤ ↑i := by omega
            have b4 : (↑i : Int) < ↑L.length := by omega
            go_wp2
            go_region_held3 (fun w' => Cls W w') (first | exact (Cls.refl _).drew | exact Cls.step (by assumption) (by assumption)) (first | (go_at_call 15; with_reducible refine (depends_spec x y _ (HX.out.1.ex (HE0.out.trans (And.right (by assumption : Cls W _)))) (HY.out.1.ex (HE0.out.trans (And.right (by assumption : Cls W _)))) HX.out.2.1 HY.out.2.1).mono ?_; rintro e w3 ⟨rfl, hw3⟩))
            rename_i hS
            have HS := Lib.hid hS.2
            clear b1 b2 b3 b4 hS d0 d1 d2 d3 d4 d5 d6 d7 e0 e1 e2 e3 e4 e5 e6 e7 l0 l1 c0 c3
            cases hb : dependsB x y with
            | true =>
              have hb2 := HDEP.out.trans hb
              have HB := Lib.hid hb2
              clear hb hb2
              have hR3 := HR2.out.go HS.out
              have HR3 := Lib.hid hR3
              clear hR3 hw3
              have c3 := HR3.out.c3
              have ca := own_cell HR3.out.own (behs_at (j := j) hlt)
              rw [beh_self] at ca
              have cf := HR3.out.own.frozenAt i
              go_wp2
              have l0 := World.block_lt_of_cell? w3 _ c3
              have l1 := World.block_lt_of_cell? w3 _ ca
              go_wp2
              go_still_tail 7, (by kernel_rfl)
              change wpList _ _ _ _ _ w3.drew
              have HR4 := Lib.hid (HR3.out.go (Ex.refl w3).drew)
              clear c3 ca cf l0 l1
              have c3 := HR4.out.c3
              have ca := own_cell HR4.out.own (behs_at (j := j) hlt)
              rw [beh_self] at ca
              have cf := HR4.out.own.frozenAt i
              generalize w3.drew = w4 at *
              go_wp2
              go_roundw
              case rel =>
                refine ⟨j + 1, by omega, by go_num, ?_⟩
                have ho : bits BinOp.or IntKind.i64 (↑(behind D i j)) (wrap64 (2 ^ j)) = ((behind D i j ||| 2 ^ j : Nat) : Int) := by
                  rw [wrap_64]; exact or_wrap (behind D i j) j (behind_63 D (by omega)) (by omega)
                rw [ho]
                exact HR4.out.store hsz2 HB.out
              case measure => simp [intOf]; omega
            | false =>
              have hb2 := HDEP.out.trans hb
              have HB := Lib.hid hb2
              clear hb hb2
              go_wp2
              go_roundw
              case rel => exact ⟨j + 1, by omega, by go_num, by have := HR2.out.go HS.out; exact ⟨this.ex, this.c0, this.c3, by rw [← behs_skip HB.out]; exact this.own⟩⟩
              case measure => simp [intOf]; omega
          · have he : j = i := by omega
            subst he
            have HR3 := Lib.hid HR2.out
            clear HR2 HR
            go_wp2
            go_roundw
            case rel => exact ⟨j + 1, by omega, by go_num, ⟨HR3.out.ex, HR3.out.c0, HR3.out.c3, by rw [← behs_next]; exact HR3.out.own⟩⟩
            case measure => simp [intOf]; omega
      · have he : i = L.length := by omega
        subst he
        have c0 := HR.out.c0
        have c3 := HR.out.c3
        have hmm := @run_makeMap Try.prog
        have hmu := run_mapUpdate_new (P := Try.prog) (T := 90) Try.underlying90 Try.underlying3 wr #[] 0 ((2 ^ L.length - 1 : Nat) : Int) (.int .i64 1) rfl
        rw [← full_key _ hl12] at hmu
        have l0 : w.heap.size < wr.heap.size := World.block_lt_of_cell? wr _ c0
        have l3 : W1.heap.size < wr.heap.size := World.block_lt_of_cell? wr _ c3
        go_wp2_with fail
        have hB := HR.out.own
        have hE := HR.out.ex
        have hEx : Ex wr (((wr.alloc (.map #[⟨.int .i64 (wrap64 (wrap64 (2 ^ L.length) - 1)), .int .i64 1, 0⟩] 1)).alloc (.cells #[.map (some wr.heap.size)] 90)).alloc (.cells #[.func (.func 53) #[] #[.pointer (some ⟨wr.heap.size + 1, 0, none⟩), .pointer (some ⟨w.heap.size, 0, none⟩), .pointer (some ⟨W1.heap.size, 0, none⟩), .pointer (some ⟨wr.heap.size + 1 + 1, 0, none⟩)]] 91)) :=
          (((Ex.refl wr).alloc _).alloc _).alloc _
        have henv : OEnv D L.length wr.heap.size (wr.heap.size + 1) w.heap.size W1.heap.size (wr.heap.size + 1 + 1) A c (((wr.alloc (.map #[⟨.int .i64 (wrap64 (wrap64 (2 ^ L.length) - 1)), .int .i64 1, 0⟩] 1)).alloc (.cells #[.map (some wr.heap.size)] 90)).alloc (.cells #[.func (.func 53) #[] #[.pointer (some ⟨wr.heap.size + 1, 0, none⟩), .pointer (some ⟨w.heap.size, 0, none⟩), .pointer (some ⟨W1.heap.size, 0, none⟩), .pointer (some ⟨wr.heap.size + 1 + 1, 0, none⟩)]] 91)) := by
          rw [full_key _ hl12] at hEx ⊢
          refine ⟨⟨#[⟨.int .i64 ((2 ^ L.length - 1 : Nat) : Int), .int .i64 1, 0⟩], 1, ?_, ⟨?_, ?_⟩⟩, ?_, hEx.cell c0, ⟨.slice (some ⟨w.heap.size + 1, 0, none⟩) L.length L.length, hEx.cell c3, ?_⟩, ?_⟩
          · rw [heap_alloc_old _ _ (by simp; omega), heap_alloc_old _ _ (by simp)]
            exact heap_alloc_new wr _
          · intro e he
            simp only [List.mem_singleton] at he
            subst he
            refine ⟨2 ^ L.length - 1, by have := Nat.two_pow_pos L.length; omega, rfl, ?_⟩
            show Value.int .i64 1 = _
            rw [val, rem_full]; rfl
          · simp
          · exact (World.cell?_alloc_lt _ _ _ (by simp)).trans (by rw [show wr.heap.size + 1 = (wr.alloc (.map #[⟨.int .i64 ((2 ^ L.length - 1 : Nat) : Int), .int .i64 1, 0⟩] 1)).heap.size by simp]; exact (World.cell?_alloc_new _ _ _ _).trans rfl)
          · have hr := Row.of_own (own_ex hB hEx) (by omega)
            have hlt := (hB.lt _ rfl).2
            have hl : ((List.range L.length).map fun i => (behind D i i : Int)).length = L.length := by simp
            have hm : ((List.range L.length).map fun i => (behind D i i : Int)).map (Value.int .i64) = behs D L.length L.length 0 := by
              rw [List.map_map]
              refine List.map_congr_left fun t ht => ?_
              simp only [List.mem_range] at ht
              simp [beh, ht]
            unfold Ints Nums
            rw [hl, hm]
            refine hr.imp (fun _ _ _ => rfl) (fun k hk _ => ?_)
            simp only [Value.ownBlock, Option.some.injEq] at hk
            omega
          · rw [show wr.heap.size + 1 + 1 = ((wr.alloc (.map #[⟨.int .i64 ((2 ^ L.length - 1 : Nat) : Int), .int .i64 1, 0⟩] 1)).alloc (.cells #[.map (some wr.heap.size)] 90)).heap.size by simp]
            exact (World.cell?_alloc_new _ _ _ _).trans rfl
        have hrem : rem L.length (gone 0) = L.length := rem_none L.length
        have hsp : Calls Try.prog 53 #[.int .i64 0, .pointer (some ⟨wr.heap.size + 1, 0, none⟩), .pointer (some ⟨w.heap.size, 0, none⟩), .pointer (some ⟨W1.heap.size, 0, none⟩), .pointer (some ⟨wr.heap.size + 1 + 1, 0, none⟩)] _ fun e w' => e = .returned (.int .i64 (val D L.length 0 : Int)) ∧ Memo D L.length wr.heap.size w' ∧ World.grownBy _ w' (some wr.heap.size) :=
          orders1_spec D L.length hl12 _ _ _ _ _ A c h1 L.length 0 _ (Nat.two_pow_pos _) hrem henv
        have hval : val D L.length 0 = orders L := by
          unfold val orders
          rw [hrem, hD]
          exact cnt_congr (fun _ _ _ _ => rfl) _ _ _ (fun i _ => by simp [gone])
        have hexw : Ex w (((wr.alloc (.map #[⟨.int .i64 (wrap64 (wrap64 (2 ^ L.length) - 1)), .int .i64 1, 0⟩] 1)).alloc (.cells #[.map (some wr.heap.size)] 90)).alloc (.cells #[.func (.func 53) #[] #[.pointer (some ⟨wr.heap.size + 1, 0, none⟩), .pointer (some ⟨w.heap.size, 0, none⟩), .pointer (some ⟨W1.heap.size, 0, none⟩), .pointer (some ⟨wr.heap.size + 1 + 1, 0, none⟩)]] 91)) := hE.trans hEx
        have HSP := Lib.hid hsp
        have HVAL := Lib.hid hval
        have HEXW := Lib.hid hexw
        clear hsp hval hexw henv hEx hB hE hrem
        with_reducible refine HSP.out.mono ?_
        rintro e w5 ⟨rfl, _, hg⟩
        have hfin := Ex.grown HEXW.out hg (by intro k hk; injection hk with hk; omega)
        have HF := Lib.hid hfin
        clear hg hfin
        go_wp2
        go_ret
        exact ⟨by rw [hI.out, HVAL.out]; rfl, HF.out⟩
end Go.Proofs.Ytikkeefhhhfmmaa
