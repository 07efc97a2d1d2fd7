/- order.left and order.find: the iterator's contract and the search's walk. Conditions: none. -/
import Derived.Test.YtikkeefhhhfmmaaSame
import Derived.Test.YtikkeefhhhfmmaaPFunc
import Derived.RangeFuncNested
import Derived.RangeFuncBound
import Derived.RangeFuncCalls
import Derived.RangeFuncLeaves
import Derived.Shelf.Abstract
import Derived.Shelf.RegionOpen
import Derived.WalkKit
import Derived.OwnWalkIn
import Derived.TacticsInMore
import Derived.LoopNIn
import Derived.LoopIn
set_option linter.unusedVariables false
set_option linter.unusedSimpArgs false
namespace Go.Proofs.Ytikkeefhhhfmmaa
open Go.RowKit Go.Instr Go.Shelf

attribute [local go_sem] Oper.semAt_some

/-- A slice of bools. -/
def Bools (ok : Nat → Prop) (w : World) (v : Value) (fd : List Bool) : Prop := Row ok w 1 v fd.length (fd.map .bool)
theorem Bools.ex {ok : Nat → Prop} {w w' : World} {v : Value} {fd : List Bool} (h : Bools ok w v fd) (hb : Ex w w') : Bools ok w' v fd := Row.ex h hb
theorem Bools.open {ok : Nat → Prop} {w : World} {v : Value} {xs : List Bool} (h : Bools ok w v xs) :
    ∃ A c, v = .slice A xs.length c ∧ xs.length ≤ c ∧ xs.length ≤ 17592186044416 ∧
      (0 < xs.length → ∃ b off, A = some ⟨b, off, none⟩ ∧ ok b ∧ ∀ (j : Nat) (u : Bool), xs[j]? = some u → w.cell? ⟨b, off + j, none⟩ = some (.bool u)) := by
  obtain ⟨A, c, e, h1, h2, h3, h4⟩ := h
  refine ⟨A, c, e, h1, h2, fun h0 => ?_⟩
  rcases h4 with h4 | ⟨b, off, e, hb, hc⟩
  · rw [List.map_eq_nil_iff] at h4; subst h4; simp at h0
  · exact ⟨b, off, e, hb, fun j u hj => hc j _ (by simp [hj])⟩

/-- Those of the first k that were not found yet, with their numbers. -/
def unfTo (L : List Placed) (fd : List Bool) (k : Nat) : List (Nat × Placed) :=
  (List.range k).filterMap fun i => match L[i]?, fd[i]? with
    | some x, some false => some (i, x)
    | _, _ => none
theorem unfTo_skip {L : List Placed} {fd : List Bool} {k : Nat} (h : fd[k]? = some true) : unfTo L fd (k + 1) = unfTo L fd k := by
  unfold unfTo
  rw [List.range_succ, List.filterMap_append]
  simp only [List.filterMap_cons, List.filterMap_nil, h]
  cases L[k]? <;> simp
theorem unfTo_take {L : List Placed} {fd : List Bool} {k : Nat} {x : Placed} (hx : L[k]? = some x) (h : fd[k]? = some false) : unfTo L fd (k + 1) = unfTo L fd k ++ [(k, x)] := by
  unfold unfTo
  rw [List.range_succ, List.filterMap_append]
  simp [h, hx]
theorem unfTo_len (L : List Placed) (fd : List Bool) (k : Nat) : (unfTo L fd k).length ≤ k := by
  have := List.length_filterMap_le (fun i => match L[i]?, fd[i]? with
    | some x, some false => some (i, x)
    | _, _ => none) (List.range k)
  simpa [unfTo] using this
theorem unfTo_prefix (L : List Placed) (fd : List Bool) {k n : Nat} (h : k ≤ n) : unfTo L fd k <+: unfTo L fd n := by
  unfold unfTo
  obtain ⟨m, rfl⟩ : ∃ m, n = k + m := ⟨n - k, by omega⟩
  rw [List.range_add, List.filterMap_append]
  exact List.prefix_append _ _

abbrev Item (w0 : World) := { p : Nat × Placed // p.2.okw w0 }
theorem At9.below {n₀ : Nat} {w w' : World} {b o : Nat} {m : Placed} (h : At9 w b o m) (hb : Below n₀ w w') (hn : b < n₀) : At9 w' b o m := by
  have hc : ∀ o u, w.cell? ⟨b, o, none⟩ = some u → w'.cell? ⟨b, o, none⟩ = some u := fun o u h => (hb.cell (p := ⟨b, o, none⟩) hn).trans h
  exact ⟨hc _ _ h.1, hc _ _ h.2.1, hc _ _ h.2.2.1, hc _ _ h.2.2.2.1, hc _ _ h.2.2.2.2.1, hc _ _ h.2.2.2.2.2.1, hc _ _ h.2.2.2.2.2.2.1, hc _ _ h.2.2.2.2.2.2.2.1, hc _ _ h.2.2.2.2.2.2.2.2⟩

set_option maxRecDepth 100000 in
set_option maxHeartbeats 2000000 in
theorem left1_in (n : Nat) (hn : 1 ≤ n) (l Bl Bf n₀ : Nat) (w0 : World) (L : List Placed) (fd : List Bool) (lv fv : Value) (J Jx : List (Item w0) → World → Prop)
    (hY : ∀ pre x W, J pre W → pre.length < L.length → YieldAt Fence.wide (n - 1) Try.prog l #[.int .i64 (x.1.1 : Int), x.1.2.val] W fun e W' =>
      (e = .returned (.bool true) ∧ J (pre ++ [x]) W' ∧ Below n₀ W W') ∨ (e = .returned (.bool false) ∧ Jx (pre ++ [x]) W'))
    (W : World) (hJ : AbidesFrom W.heap.size J) (hn0 : n₀ ≤ W.heap.size) (hl : Placeds (fun b => b < n₀) W lv L) (hf : Bools (fun b => b < n₀) W fv fd) (hlen : fd.length = L.length)
    (hBl : Bl < n₀) (hBf : Bf < n₀) (cBl : W.cell? ⟨Bl, 0, none⟩ = some lv) (cBf : W.cell? ⟨Bf, 0, none⟩ = some fv) (hok : ∀ x ∈ L, x.okw w0) (h0 : J [] W) :
    CallsIn Fence.wide n Try.prog 150 #[.func (.yield l) #[] #[], .pointer (some ⟨Bl, 0, none⟩), .pointer (some ⟨Bf, 0, none⟩)] W fun e W' => (∃ v, e = .returned v) ∧
      ((∃ ys : List (Item w0), ys.map (·.1) = unfTo L fd L.length ∧ J ys W') ∨ (∃ pre : List (Item w0), (∃ k, k ≤ L.length ∧ pre.map (·.1) = unfTo L fd k) ∧ Jx pre W')) := by
  obtain ⟨A, c, rfl, l1, l2, hc⟩ := hl.open
  obtain ⟨A', c', rfl, m1, m2, hc'⟩ := hf.open
  have HL := Lib.hid hlen
  have HC := Lib.hid hc
  have HC' := Lib.hid hc'
  have HOK := Lib.hid hok
  clear hlen hc hc' hl hf hok
  refine callsIn_of_wp Try.func150 rfl trivial ?_ rfl
  simp only [Try.ntmps150, List.size_toArray, List.length_cons, List.length_nil, Nat.reduceAdd, Nat.reduceSub, Array.replicate_succ, Array.replicate_zero, List.push_toArray, List.append_toArray, List.nil_append, List.cons_append]
  gi_wp2
  gi_loopw [8] (fun i wr => ∃ (k : Nat) (pre : List (Item w0)), k ≤ L.length ∧ i = .int .i64 k ∧ Hid (pre.map (·.1) = unfTo L fd k) ∧ J pre wr ∧ Below n₀ W wr)
    (fun i _ => L.length - (intOf i).toNat)
  case atStart => exact ⟨0, [], Nat.zero_le _, rfl, rfl, h0, Below.refl _ _⟩
  case round =>
    obtain ⟨k, pre, hk, rfl, hp, hJs, hnx⟩ := hrel
    have HP := Lib.hid hp.out
    have HX := Lib.hid hnx
    clear hp hnx
    by_cases hlt : k < L.length
    · obtain ⟨b, off, rfl, hb, hc⟩ := HC.out (by omega)
      obtain ⟨b', off', rfl, hb', hc'⟩ := HC'.out (by have := HL.out; omega)
      obtain ⟨⟨⟨xop, xd, xe, xa, xb, xc, xi, xs, xv⟩, xf⟩, hx⟩ : ∃ x, L[k]? = some x := ⟨_, List.getElem?_eq_getElem hlt⟩
      obtain ⟨u, hu⟩ : ∃ u, fd[k]? = some u := ⟨_, List.getElem?_eq_getElem (by have := HL.out; omega)⟩
      have hxo := HOK.out _ (List.mem_of_getElem? hx)
      obtain ⟨A4, c4, hmv⟩ := Nums.shape hxo.1
      simp only at hmv
      subst hmv
      obtain ⟨d0, d1, d2, d3, d4, d5, d6, d7, d8⟩ := (hc k _ hx).below HX.out hb
      have cf := (HX.out.cell (p := ⟨b', off' + k, none⟩) hb').trans (hc' k u hu)
      have cb := (HX.out.cell (p := ⟨Bf, 0, none⟩) hBf).trans cBf
      have q0 := World.block_lt_of_cell? wr _ cf
      have q1 := World.block_lt_of_cell? wr _ cb
      have q2 : (k : Int) < ↑fd.length := by have := HL.out; omega
      have hsz : n₀ ≤ wr.heap.size := Nat.le_trans hn0 HX.out.size
      have HNE := Lib.hid ((Below.refl n₀ wr).alloc hsz (.cells #[.int .i64 xop, .int .i64 xd, .int .i64 xe, .int .i64 xa, .int .i64 xb, .int .i64 xc, .int .i32 xi, .slice A4 xs.length c4, .int .i64 xf] 49))
      have hJa := hJ pre wr (wr.alloc (.cells #[.int .i64 xop, .int .i64 xd, .int .i64 xe, .int .i64 xa, .int .i64 xb, .int .i64 xc, .int .i32 xi, .slice A4 xs.length c4, .int .i64 xf] 49)) none hJs (World.grownBy_alloc _ _ _) (by simp)
      cases u with
      | true =>
        have HS := Lib.hid (unfTo_skip (L := L) hu)
        clear hc hc' hx hu hsz
        gi_wp2
        refine ⟨(fun f hf => by cases hf), ?_⟩
        gi_wp2
        go_roundw
        case rel => exact ⟨k + 1, pre, by omega, by simp, by show _ = _; rw [HS.out]; exact HP.out, hJa, HX.out.trans HNE.out⟩
        case measure => simp [intOf]; omega
      | false =>
        have HS := Lib.hid (unfTo_take hx hu)
        have hpl : pre.length < L.length := by
          have := congrArg List.length HP.out
          have := unfTo_len L fd k
          simp at *
          omega
        obtain ⟨fn, tmps, assign, body, hy, hR⟩ := hY pre ⟨(k, ⟨⟨xop, xd, xe, xa, xb, xc, xi, xs, .slice A4 xs.length c4⟩, xf⟩), hxo⟩ _ hJa hpl
        dsimp only at hy
        have HR := Lib.hid hR
        clear hc hc' hx hu hsz hR hpl
        gi_wp2
        refine HR.out.mono ?_
        rintro e W3 (⟨rfl, hJ3, hk3⟩ | ⟨rfl, hJx3⟩)
        · have HK := Lib.hid hk3
          clear hk3
          gi_wp2
          go_roundw
          case rel => exact ⟨k + 1, pre ++ [⟨(k, ⟨⟨xop, xd, xe, xa, xb, xc, xi, xs, .slice A4 xs.length c4⟩, xf⟩), hxo⟩], by omega, by simp, by show _ = _; rw [HS.out, List.map_append, HP.out]; rfl, hJ3, HX.out.trans (HNE.out.trans HK.out)⟩
          case measure => simp [intOf]; omega
        · gi_wp2
          refine bodyPost_ret (results_none rfl _ _ _) rfl ?_
          exact ⟨⟨_, rfl⟩, .inr ⟨pre ++ [⟨(k, ⟨⟨xop, xd, xe, xa, xb, xc, xi, xs, .slice A4 xs.length c4⟩, xf⟩), hxo⟩], ⟨k + 1, by omega, by rw [HS.out, List.map_append, HP.out]; rfl⟩, hJx3⟩⟩
    · have hkl : k = L.length := by omega
      have hpp := HP.out
      rw [hkl] at hpp
      have HPP := Lib.hid hpp
      clear hpp hkl
      gi_wp2
      go_end0
      exact ⟨⟨_, rfl⟩, .inl ⟨pre, HPP.out, hJs⟩⟩

set_option maxHeartbeats 1000000 in
theorem left_in (n : Nat) (lv fv : Value) (w : World) (hl : ∃ A k c, lv = .slice A k c) (hf : ∃ A k c, fv = .slice A k c) :
    CallsIn Fence.wide n Try.prog 121 #[lv, fv] w fun e w' => e = .returned (.func (.func 150) #[] #[.pointer (some ⟨w.heap.size, 0, none⟩), .pointer (some ⟨w.heap.size + 1, 0, none⟩)]) ∧ w' = (w.alloc (.cells #[lv] 47)).alloc (.cells #[fv] 51) := by
  obtain ⟨A, k, c, rfl⟩ := hl
  obtain ⟨A', k', c', rfl⟩ := hf
  refine callsIn_of_wp Try.func121 rfl trivial ?_ rfl
  simp only [Try.ntmps121, List.size_toArray, List.length_cons, List.length_nil, Nat.reduceAdd, Nat.reduceSub, Array.replicate_succ, Array.replicate_zero, List.push_toArray, List.append_toArray, List.nil_append, List.cons_append]
  gi_wp2
  go_ret
  exact ⟨rfl, rfl⟩

theorem left_stops (n : Nat) (hn : 1 ≤ n) (Bl Bf n₀ : Nat) (w0 : World) (L : List Placed) (fd : List Bool) (lv fv : Value) (W0 : World) (hn0 : n₀ ≤ W0.heap.size) (hl : Placeds (fun b => b < n₀) W0 lv L) (hf : Bools (fun b => b < n₀) W0 fv fd) (hlen : fd.length = L.length)
    (hBl : Bl < n₀) (hBf : Bf < n₀) (cBl : W0.cell? ⟨Bl, 0, none⟩ = some lv) (cBf : W0.cell? ⟨Bf, 0, none⟩ = some fv) (hok : ∀ x ∈ L, x.okw w0) :
    SeqStopsK Fence.wide n Try.prog 150 #[.pointer (some ⟨Bl, 0, none⟩), .pointer (some ⟨Bf, 0, none⟩)] (fun x : Item w0 => #[Value.int .i64 (x.1.1 : Int), x.1.2.val]) (Below n₀)
      (fun ys => ys.map (·.1) = unfTo L fd L.length) (fun pre => ∃ k, k ≤ L.length ∧ pre.map (·.1) = unfTo L fd k) L.length W0 := fun l J Jx W hW hJ _ hY h0 => by
  have hx : Ex W0 W := hW
  refine left1_in n hn l Bl Bf n₀ w0 L fd lv fv J Jx hY W hJ (Nat.le_trans hn0 hx.size) (hl.ex hx) (hf.ex hx) hlen hBl hBf (hx.cell cBl) (hx.cell cBf) hok h0

/-- What the search finds among these. -/
def findIn (x : Placed) : List (Nat × Placed) → Int
  | [] => -1
  | p :: L => if sameB x p.2 then p.1 else if dependsB p.2.m x.m then -1 else findIn x L
def passB (x : Placed) (p : Nat × Placed) : Bool := !sameB x p.2 && !dependsB p.2.m x.m
theorem findIn_pass {x : Placed} : ∀ {pre : List (Nat × Placed)} {rest : List (Nat × Placed)}, (∀ p ∈ pre, passB x p = true) → findIn x (pre ++ rest) = findIn x rest
  | [], _, _ => rfl
  | p :: pre, rest, h => by
    have hp := h p (by simp)
    simp only [passB, Bool.and_eq_true, Bool.not_eq_true'] at hp
    rw [List.cons_append, findIn, hp.1, hp.2]
    simp only [Bool.false_eq_true, if_false]
    exact findIn_pass fun q hq => h q (by simp [hq])
def findB (L : List Placed) (fd : List Bool) (x : Placed) : Int := findIn x (unfTo L fd L.length)
theorem KeepsFrom.ofEx {B : Nat} {w w' : World} (h : Ex w w') : KeepsFrom B w w' := ⟨h.size, fun k o _ hk _ => (h.block k (Array.getElem?_eq_some_iff.1 hk).1).trans hk⟩
theorem At9.kept {w w' : World} {row : Option Nat} {b o : Nat} {m : Placed} (h : At9 w b o m) (hg : w.grownBy w' row) (hr : ∀ r, row = some r → ∃ o : Obj, w.heap[r]? = some o ∧ o.isCells = false) : At9 w' b o m :=
  ⟨cell_kept h.1 hg hr, cell_kept h.2.1 hg hr, cell_kept h.2.2.1 hg hr, cell_kept h.2.2.2.1 hg hr, cell_kept h.2.2.2.2.1 hg hr, cell_kept h.2.2.2.2.2.1 hg hr, cell_kept h.2.2.2.2.2.2.1 hg hr, cell_kept h.2.2.2.2.2.2.2.1 hg hr, cell_kept h.2.2.2.2.2.2.2.2 hg hr⟩
/-- How the round's frame stands. -/
def FindAx (lv fv xval : Value) (B : Nat) {w0 : World} (x : Item w0) (a' : Act) (W : World) : Prop := ∃ Bx, B + 4 ≤ Bx ∧ At9 W Bx 0 x.1.2 ∧
  a' = { tmps := #[lv, fv, xval, undef, undef, .pointer (some ⟨B, 0, none⟩), .pointer (some ⟨B + 1, 0, none⟩), .int .i64 (x.1.1 : Int), .pointer (some ⟨Bx, 0, none⟩), lv, fv, .func (.func 150) #[] #[.pointer (some ⟨B + 1 + 1, 0, none⟩), .pointer (some ⟨B + 1 + 1 + 1, 0, none⟩)], .int .i64 (x.1.1 : Int), x.1.2.val, undef, undef, undef, undef, undef, undef, undef, undef, undef], defers := [] }
/-- How the search ends early. -/
def FindEnd (X : Placed) (l : List (Nat × Placed)) (r : Int) : Prop := ∃ ini last, l = ini ++ [last] ∧ (∀ p ∈ ini, passB X p = true) ∧ r = findIn X [last] ∧ passB X last = false
theorem findEnd_spec {X : Placed} {l : List (Nat × Placed)} {r : Int} (h : FindEnd X l r) {L : List (Nat × Placed)} (hp : l <+: L) : r = findIn X L := by
  obtain ⟨ini, last, rfl, h1, h2, h3⟩ := h
  obtain ⟨rest, rfl⟩ := hp
  rw [List.append_assoc, findIn_pass h1, h2]
  simp only [passB, Bool.and_eq_false_iff, Bool.not_eq_false'] at h3
  simp only [List.cons_append, List.nil_append, findIn]
  rcases h3 with h3 | h3
  · simp [h3]
  · cases hs : sameB X last.2 <;> simp [h3]

set_option maxRecDepth 100000 in
set_option maxHeartbeats 2000000 in
theorem find_spec (L : List Placed) (fd : List Bool) (lv fv : Value) (x : Placed) (w : World) (hl : Placeds any w lv L) (hf : Bools any w fv fd) (hlen : fd.length = L.length) (hx : x.okw w) :
    Calls Try.prog 91 #[lv, fv, x.val] w fun e w' => e = .returned (.int .i64 (findB L fd x)) ∧ Ex w w' := by
  obtain ⟨⟨xop, xd, xe, xa, xb, xc, xi, xs, xv⟩, xf⟩ := x
  obtain ⟨A4, c4, hmv⟩ := Nums.shape hx.1
  simp only at hmv
  subst hmv
  obtain ⟨A, c, hlv⟩ := Recs.shape hl
  obtain ⟨A', c', hfv, _⟩ := hf.open
  subst hlv hfv
  have HX := Lib.hid hx
  have HLN := Lib.hid hlen
  clear hx hlen
  refine (callsIn_wide (n := 6)).1 ?_
  refine callsIn_of_wp_marks Try.func91 rfl trivial ?_ rfl
  simp only [Try.ntmps91, List.size_toArray, List.length_cons, List.length_nil, Nat.reduceAdd, Nat.reduceSub, Array.replicate_succ, Array.replicate_zero, List.push_toArray, List.append_toArray, List.nil_append, List.cons_append]
  gi_wp2_with (refine ⟨trivial, ?_⟩; gi_at_call 121; refine (left_in _ _ _ _ ⟨_, _, _, rfl⟩ ⟨_, _, _, rfl⟩).mono ?_; rintro e w' ⟨rfl, rfl⟩)
  obtain ⟨W0, hW0⟩ : ∃ W0, W0 = (((w.alloc (.cells #[.int .i64 xop, .int .i64 xd, .int .i64 xe, .int .i64 xa, .int .i64 xb, .int .i64 xc, .int .i32 xi, .slice A4 xs.length c4, .int .i64 xf] 49)).alloc (.cells #[.int .i64 0] 3)).alloc (.cells #[.slice A L.length c] 47)).alloc (.cells #[.slice A' fd.length c'] 51) := ⟨_, rfl⟩
  have hsz : W0.heap.size = w.heap.size + 4 := by rw [hW0]; simp
  have hex : Ex w W0 := by rw [hW0]; exact ((((Ex.refl w).alloc _).alloc _).alloc _).alloc _
  have hxb : At9 W0 w.heap.size 0 ⟨⟨xop, xd, xe, xa, xb, xc, xi, xs, .slice A4 xs.length c4⟩, xf⟩ := by
    rw [hW0]
    exact (at9_new w ⟨⟨xop, xd, xe, xa, xb, xc, xi, xs, .slice A4 xs.length c4⟩, xf⟩).ex ((((Ex.refl _).alloc _).alloc _).alloc _)
  have hrb : Boxed W0 (w.heap.size + 1) 3 (.int .i64 0) := by
    rw [hW0]
    have := Boxed.new (w.alloc (.cells #[.int .i64 xop, .int .i64 xd, .int .i64 xe, .int .i64 xa, .int .i64 xb, .int .i64 xc, .int .i32 xi, .slice A4 xs.length c4, .int .i64 xf] 49)) 3 (.int .i64 0)
    rw [World.size_alloc] at this
    exact (this.alloc _).alloc _
  have hcl : W0.cell? ⟨w.heap.size + 1 + 1, 0, none⟩ = some (.slice A L.length c) := by
    rw [hW0]
    have := World.cell?_alloc_new ((w.alloc (.cells #[.int .i64 xop, .int .i64 xd, .int .i64 xe, .int .i64 xa, .int .i64 xb, .int .i64 xc, .int .i32 xi, .slice A4 xs.length c4, .int .i64 xf] 49)).alloc (.cells #[.int .i64 0] 3)) #[.slice A L.length c] 47 0
    simp only [World.size_alloc] at this
    exact ((Ex.refl _).alloc _).cell (this.trans rfl)
  have hcf : W0.cell? ⟨w.heap.size + 1 + 1 + 1, 0, none⟩ = some (.slice A' fd.length c') := by
    rw [hW0]
    have := World.cell?_alloc_new (((w.alloc (.cells #[.int .i64 xop, .int .i64 xd, .int .i64 xe, .int .i64 xa, .int .i64 xb, .int .i64 xc, .int .i32 xi, .slice A4 xs.length c4, .int .i64 xf] 49)).alloc (.cells #[.int .i64 0] 3)).alloc (.cells #[.slice A L.length c] 47)) #[.slice A' fd.length c'] 51 0
    simp only [World.size_alloc] at this
    exact this.trans rfl
  have hlo : Placeds (fun b => b < W0.heap.size) W0 (.slice A L.length c) L := ⟨(hl.1.imp (fun _ _ _ => rfl) (fun k _ hk => (by omega : k < W0.heap.size))).ex hex, fun x hx => (hl.2 x hx).ex hex⟩
  have hfo : Bools (fun b => b < W0.heap.size) W0 (.slice A' fd.length c') fd := Row.ex (Row.imp hf (fun _ _ _ => rfl) (fun k _ hk => (by omega : k < W0.heap.size))) hex
  have hstop := left_stops 5 (by omega) (w.heap.size + 1 + 1) (w.heap.size + 1 + 1 + 1) W0.heap.size w L fd _ _ W0 (Nat.le_refl _) hlo hfo HLN.out (by omega) (by omega) hcl hcf (fun x hx => hl.2 x hx)
  have HS := Lib.hid hstop
  have HE := Lib.hid hex
  have HXB := Lib.hid hxb
  have HRB := Lib.hid hrb
  have HW0 := Lib.hid hW0
  have HSZ := Lib.hid hsz
  clear hstop hlo hfo hcl hcf hxb hrb hex hW0 hl hf
  rw [← HW0.out]
  refine wpIn_rangeFunc_ownH (P := Try.prog) rfl (by omega) (gf := 150) (lb := #[.pointer (some ⟨w.heap.size + 1 + 1, 0, none⟩), .pointer (some ⟨w.heap.size + 1 + 1 + 1, 0, none⟩)]) rfl trivial (enters_of Try.func150 (by kernel_rfl) rfl)
    HS.out belowK_t (belowK_b (Nat.le_refl _)) (Below.refl _ _) (fun _ => rfl)
    (fun pre W => (∀ p ∈ pre, passB ⟨⟨xop, xd, xe, xa, xb, xc, xi, xs, .slice A4 xs.length c4⟩, xf⟩ p.1 = true) ∧ Below W0.heap.size W0 W)
    (fun cd pre W => (cd = .ret ∧ ∃ r, FindEnd ⟨⟨xop, xd, xe, xa, xb, xc, xi, xs, .slice A4 xs.length c4⟩, xf⟩ (pre.map (·.1)) r ∧ W.cell? ⟨w.heap.size + 1, 0, none⟩ = some (.int .i64 r)) ∧ Below w.heap.size w W)
    (OwnFrom.and (ownFrom_pure _ _) (ownFrom_below (Nat.le_refl _) (Nat.le_refl _)))
    (fun cd => OwnFrom.and (Own.from (fun s A B row hs hg hr => by obtain ⟨h1, r, h2, h3⟩ := hs; exact ⟨h1, r, h2, cell_kept h3 hg hr⟩) _) (ownFrom_below (Nat.le_refl _) (by have := HSZ.out; omega)))
    ⟨by simp, Below.refl _ _⟩
    (FindAx (.slice A L.length c) (.slice A' fd.length c') (.agg #[.int .i64 xop, .int .i64 xd, .int .i64 xe, .int .i64 xa, .int .i64 xb, .int .i64 xc, .int .i32 xi, .slice A4 xs.length c4, .int .i64 xf]) w.heap.size)
    (fun x a' => Own.from (fun s A B row hs hg hr => by obtain ⟨Bx, h1, h2, h3⟩ := hs; exact ⟨Bx, h1, h2.kept hg hr, h3⟩) _)
    ?assign ?body ?done ?stop
  case assign =>
    rintro l pre ⟨⟨k, ⟨⟨yop, yd, ye, ya, yb, yc, yi, ys, yv⟩, yf⟩⟩, hy⟩ W K ⟨hi, hB⟩ hK
    obtain ⟨A5, c5, hyv⟩ := Nums.shape hy.1
    simp only at hyv
    subst hyv
    have HK := Lib.hid hK
    have HI := Lib.hid hi
    have HB := Lib.hid hB
    clear hi hB hK
    gi_wp2
    refine HK.out _ _ (KeepsFrom.ofEx ((Ex.refl W).alloc _)) ((Below.refl _ W).alloc HB.out.size _) ⟨HI.out, HB.out.alloc HB.out.size _⟩ ⟨W.heap.size, ?_, at9_new W ⟨⟨yop, yd, ye, ya, yb, yc, yi, ys, .slice A5 ys.length c5⟩, yf⟩, rfl⟩
    have := HB.out.size
    have := HSZ.out
    omega
  case body =>
    rintro l pre ⟨⟨k, ⟨⟨yop, yd, ye, ya, yb, yc, yi, ys, yv⟩, yf⟩⟩, hy⟩ a' W hlB hrec ⟨hi, hB⟩ ⟨Bx, hBx, hat, rfl⟩ hlen
    obtain ⟨A5, c5, hyv⟩ := Nums.shape hy.1
    simp only at hyv
    subst hyv
    have HX0 := Lib.hid (HX.out.ex (HE.out.trans (show Ex W0 W from hB)))
    have HY0 := Lib.hid (hy.ex (HE.out.trans (show Ex W0 W from hB)))
    obtain ⟨a0, a1, a2, a3, a4, a5, a6, a7, a8⟩ := HXB.out.below hB (by have := HSZ.out; omega)
    obtain ⟨b0, b1, b2, b3, b4, b5, b6, b7, b8⟩ := hat
    simp only [Nat.zero_add] at a0 a1 a2 a3 a4 a5 a6 a7 a8 b0 b1 b2 b3 b4 b5 b6 b7 b8
    have hres : Boxed W (w.heap.size + 1) 3 (.int .i64 0) := ((show Ex W0 W from hB).block _ HRB.out.lt).trans HRB.out
    have HRES := Lib.hid hres
    have HI := Lib.hid hi
    have HB := Lib.hid hB
    have d1 : 1 ≤ 6 - 1 - 1 := by omega
    have SM : Hid (Calls Try.prog 122 #[Placed.val ⟨⟨xop, xd, xe, xa, xb, xc, xi, xs, .slice A4 xs.length c4⟩, xf⟩, Placed.val ⟨⟨yop, yd, ye, ya, yb, yc, yi, ys, .slice A5 ys.length c5⟩, yf⟩] W fun e w' => e = .returned (.bool (sameB ⟨⟨xop, xd, xe, xa, xb, xc, xi, xs, .slice A4 xs.length c4⟩, xf⟩ ⟨⟨yop, yd, ye, ya, yb, yc, yi, ys, .slice A5 ys.length c5⟩, yf⟩)) ∧ Ex W w') := same_spec _ _ W HX0.out HY0.out
    have SD : Hid (∀ w', Ex W w' → Calls Try.prog 15 #[Mach.val ⟨yop, yd, ye, ya, yb, yc, yi, ys, .slice A5 ys.length c5⟩, Mach.val ⟨xop, xd, xe, xa, xb, xc, xi, xs, .slice A4 xs.length c4⟩] w' fun e w'' => e = .returned (.bool (dependsB ⟨yop, yd, ye, ya, yb, yc, yi, ys, .slice A5 ys.length c5⟩ ⟨xop, xd, xe, xa, xb, xc, xi, xs, .slice A4 xs.length c4⟩)) ∧ Ex w' w'') :=
      fun w' hw => depends_spec _ _ w' (HY0.out.1.ex hw) (HX0.out.1.ex hw) HY0.out.2.1 HX0.out.2.1
    have HP : Hid (∀ s d, sameB ⟨⟨xop, xd, xe, xa, xb, xc, xi, xs, .slice A4 xs.length c4⟩, xf⟩ ⟨⟨yop, yd, ye, ya, yb, yc, yi, ys, .slice A5 ys.length c5⟩, yf⟩ = s → dependsB ⟨yop, yd, ye, ya, yb, yc, yi, ys, .slice A5 ys.length c5⟩ ⟨xop, xd, xe, xa, xb, xc, xi, xs, .slice A4 xs.length c4⟩ = d →
        passB ⟨⟨xop, xd, xe, xa, xb, xc, xi, xs, .slice A4 xs.length c4⟩, xf⟩ (k, ⟨⟨yop, yd, ye, ya, yb, yc, yi, ys, .slice A5 ys.length c5⟩, yf⟩) = (!s && !d) ∧ findIn ⟨⟨xop, xd, xe, xa, xb, xc, xi, xs, .slice A4 xs.length c4⟩, xf⟩ [(k, ⟨⟨yop, yd, ye, ya, yb, yc, yi, ys, .slice A5 ys.length c5⟩, yf⟩)] = if s then (k : Int) else -1) := by
      intro s d h1 h2
      constructor
      · simp only [passB, h1, h2]
      · simp only [findIn, h1, h2]
        cases s <;> cases d <;> rfl
    have HI2 : Hid (∀ p ∈ pre.map (·.1), passB ⟨⟨xop, xd, xe, xa, xb, xc, xi, xs, .slice A4 xs.length c4⟩, xf⟩ p = true) := by
      intro p hp
      obtain ⟨q, hq, rfl⟩ := List.mem_map.1 hp
      exact hi q hq
    clear hi hB hres HX0 HY0
    generalize sameB ⟨⟨xop, xd, xe, xa, xb, xc, xi, xs, .slice A4 xs.length c4⟩, xf⟩ ⟨⟨yop, yd, ye, ya, yb, yc, yi, ys, .slice A5 ys.length c5⟩, yf⟩ = s at *
    generalize dependsB ⟨yop, yd, ye, ya, yb, yc, yi, ys, .slice A5 ys.length c5⟩ ⟨xop, xd, xe, xa, xb, xc, xi, xs, .slice A4 xs.length c4⟩ = d at *
    have HP2 := Lib.hid (HP.out s d rfl rfl)
    clear HP
    cases s with
    | true =>
      gi_wp2_with (refine ⟨trivial, ?_⟩; gi_at_call 122; refine (CallsIn.inRound l (callsIn_wide.2 SM.out)).mono ?_; rintro e w3 ⟨rfl, hw3⟩; have hr3 : Boxed w3 (w.heap.size + 1) 3 (.int .i64 0) := (hw3.block _ HRES.out.lt).trans HRES.out; have hc3 := hr3.cell; have hf3 := hr3.frozen; have HW3 := Lib.hid hw3; have HR3 := Lib.hid hr3; clear hw3 hr3)
      refine ⟨(KeepsFrom.ofEx HW3.out).trans ((KeepsOthers.setCell _ _ _).from _), ⟨rfl, (k : Int), ⟨pre.map (·.1), (k, ⟨⟨yop, yd, ye, ya, yb, yc, yi, ys, .slice A5 ys.length c5⟩, yf⟩), by simp, HI2.out, by rw [HP2.out.2]; rfl, by rw [HP2.out.1]; rfl⟩, World.cell?_setCell_same' _ _ _ (by rw [hc3]; rfl)⟩, ?_⟩
      exact ((HE.out.trans (show Ex W0 W from HB.out)).trans HW3.out).set (p := ⟨w.heap.size + 1, 0, none⟩) (by simp) _
    | false =>
      cases d with
      | true =>
        gi_wp2_with (first
          | (refine ⟨trivial, ?_⟩; gi_at_call 122; refine (CallsIn.inRound l (callsIn_wide.2 SM.out)).mono ?_; rintro e w3 ⟨rfl, hw3⟩; have a0 := hw3.cell a0; have a1 := hw3.cell a1; have a2 := hw3.cell a2; have a3 := hw3.cell a3; have a4 := hw3.cell a4; have a5 := hw3.cell a5; have a6 := hw3.cell a6; have a7 := hw3.cell a7; have b0 := hw3.cell b0; have b1 := hw3.cell b1; have b2 := hw3.cell b2; have b3 := hw3.cell b3; have b4 := hw3.cell b4; have b5 := hw3.cell b5; have b6 := hw3.cell b6; have b7 := hw3.cell b7; have HW3 := Lib.hid hw3; clear hw3)
          | (refine ⟨trivial, ?_⟩; gi_at_call 15; refine (CallsIn.inRound l (callsIn_wide.2 (SD.out _ HW3.out))).mono ?_; rintro e w4 ⟨rfl, hw4⟩; have hr4 : Boxed w4 (w.heap.size + 1) 3 (.int .i64 0) := ((HW3.out.trans hw4).block _ HRES.out.lt).trans HRES.out; have hc4 := hr4.cell; have hf4 := hr4.frozen; have HW4 := Lib.hid (HW3.out.trans hw4); have HR4 := Lib.hid hr4; clear hw4 hr4))
        refine ⟨(KeepsFrom.ofEx HW4.out).trans ((KeepsOthers.setCell _ _ _).from _), ⟨rfl, -1, ⟨pre.map (·.1), (k, ⟨⟨yop, yd, ye, ya, yb, yc, yi, ys, .slice A5 ys.length c5⟩, yf⟩), by simp, HI2.out, by rw [HP2.out.2]; rfl, by rw [HP2.out.1]; rfl⟩, World.cell?_setCell_same' _ _ _ (by rw [hc4]; rfl)⟩, ?_⟩
        exact ((HE.out.trans (show Ex W0 W from HB.out)).trans HW4.out).set (p := ⟨w.heap.size + 1, 0, none⟩) (by simp) _
      | false =>
        gi_wp2_with (first
          | (refine ⟨trivial, ?_⟩; gi_at_call 122; refine (CallsIn.inRound l (callsIn_wide.2 SM.out)).mono ?_; rintro e w3 ⟨rfl, hw3⟩; have a0 := hw3.cell a0; have a1 := hw3.cell a1; have a2 := hw3.cell a2; have a3 := hw3.cell a3; have a4 := hw3.cell a4; have a5 := hw3.cell a5; have a6 := hw3.cell a6; have a7 := hw3.cell a7; have b0 := hw3.cell b0; have b1 := hw3.cell b1; have b2 := hw3.cell b2; have b3 := hw3.cell b3; have b4 := hw3.cell b4; have b5 := hw3.cell b5; have b6 := hw3.cell b6; have b7 := hw3.cell b7; have HW3 := Lib.hid hw3; clear hw3)
          | (refine ⟨trivial, ?_⟩; gi_at_call 15; refine (CallsIn.inRound l (callsIn_wide.2 (SD.out _ HW3.out))).mono ?_; rintro e w4 ⟨rfl, hw4⟩; have HW4 := Lib.hid (HW3.out.trans hw4); clear hw4))
        refine ⟨KeepsFrom.ofEx HW4.out, HW4.out.mono HB.out.size, ?_, (show Ex W0 W from HB.out).trans HW4.out⟩
        intro p hp
        rcases List.mem_append.1 hp with hp | hp
        · exact HI.out p hp
        · simp only [List.mem_singleton] at hp
          subst hp
          rw [HP2.out.1]; rfl
  case done =>
    rintro D ys W hD hys ⟨hall, hB⟩ hK
    have hr : findB L fd ⟨⟨xop, xd, xe, xa, xb, xc, xi, xs, .slice A4 xs.length c4⟩, xf⟩ = -1 := by
      unfold findB
      rw [← hys]
      have := findIn_pass (x := ⟨⟨xop, xd, xe, xa, xb, xc, xi, xs, .slice A4 xs.length c4⟩, xf⟩) (pre := ys.map (·.1)) (rest := []) (by
        intro p hp
        obtain ⟨q, hq, rfl⟩ := List.mem_map.1 hp
        exact hall q hq)
      rw [List.append_nil] at this
      rw [this]; rfl
    have HR := Lib.hid hr
    have HK := Lib.hid hK
    have HB := Lib.hid hB
    have hres : Boxed W (w.heap.size + 1) 3 (.int .i64 0) := ((show Ex W0 W from hB).block _ HRB.out.lt).trans HRB.out
    have hc3 := hres.cell
    have hf3 := hres.frozen
    have hne : D ≠ w.heap.size + 1 := by have := HSZ.out; omega
    have HNE := Lib.hid hne
    clear hr hK hB hall hys hres hne
    gi_wp2
    have hK' := (KeepsOthers.setCell W ⟨w.heap.size + 1, 0, none⟩ (.int .i64 (-1))).same D _ HK.out rfl
    refine ⟨by simp, .inl ⟨_, _, rfl, run_takeDeferred hK', ?_⟩⟩
    have hc5 := cell_kept (World.cell?_setCell_same' W ⟨w.heap.size + 1, 0, none⟩ (.int .i64 (-1)) (by rw [hc3]; rfl)) (grownBy_putObj' _ D (.deferred none)) (fun r e => by cases e; exact ⟨_, hK', rfl⟩)
    refine ⟨.int .i64 (-1), ?_, ?_, ?_⟩
    · simp [results, Try.f91, go_sem, hc5]
    · rw [HR.out]
    · refine ((HE.out.trans (show Ex W0 W from HB.out)).set (p := ⟨w.heap.size + 1, 0, none⟩) (by simp) _).grown (grownBy_putObj' _ D (.deferred none)) ?_
      intro j e
      cases e
      have := HSZ.out
      omega
  case stop =>
    rintro D cd pre W hD ⟨k, hk, hpre⟩ ⟨⟨rfl, r, hend, hcr⟩, hB⟩ hK
    have hr : r = findB L fd ⟨⟨xop, xd, xe, xa, xb, xc, xi, xs, .slice A4 xs.length c4⟩, xf⟩ := findEnd_spec hend (by rw [hpre]; exact unfTo_prefix L fd hk)
    have HR := Lib.hid hr
    have HK := Lib.hid hK
    have HB := Lib.hid hB
    have HC := Lib.hid hcr
    clear hr hK hB hcr hend hpre
    gi_wp2
    refine ⟨by simp, .inl ⟨_, _, rfl, run_takeDeferred HK.out, ?_⟩⟩
    have hc5 := cell_kept HC.out (grownBy_putObj' _ D (.deferred none)) (fun r e => by cases e; exact ⟨_, HK.out, rfl⟩)
    refine ⟨.int .i64 r, ?_, ?_, ?_⟩
    · simp [results, Try.f91, go_sem, hc5]
    · rw [HR.out]
    · refine (show Ex w W from HB.out).grown (grownBy_putObj' _ D (.deferred none)) ?_
      intro j e
      cases e
      have := HSZ.out
      omega
end Go.Proofs.Ytikkeefhhhfmmaa
