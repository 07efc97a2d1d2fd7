/- The library's Index, Contains, IndexFunc, ContainsFunc, Clone, Grow, Concat at []int: what they answer. Conditions: the slices read as lists. -/
import Derived.Test.YtikkeefhhhfmmaaBase
import Derived.Lib.AppendZeros
set_option linter.unusedVariables false
namespace Go.Proofs.Ytikkeefhhhfmmaa
open Go.RowKit

theorem notMem_take {xs : List Int} {x : Int} {k : Nat} (hk : k < xs.length) (h1 : x ∉ xs.take k) (h2 : ¬ x = xs[k]) : Hid (x ∉ xs.take (k + 1)) := by
  show x ∉ xs.take (k + 1)
  rw [List.take_succ_eq_append_getElem hk, List.mem_append, List.mem_singleton]
  exact fun h => h.elim h1 h2

set_option maxHeartbeats 400000 in
theorem index_spec (v : Value) (xs : List Int) (x : Int) (w : World) (h : Ints any w v xs) :
    Calls Try.prog 108 #[v, .int .i64 x] w fun e w' => (∃ r : Int, e = .returned (.int .i64 r) ∧ (0 ≤ r ↔ x ∈ xs)) ∧ w = w' := by
  obtain ⟨A, c, rfl, h1, hl, hc⟩ := h.open
  go_enter Try.func108, Try.ntmps108
  clear h h1
  have HC := Lib.hid hc
  clear hc
  go_wp2
  go_loop [5, 8] (fun u i => ∃ k : Nat, k ≤ xs.length ∧ i = .int .i64 k ∧ Hid (x ∉ xs.take k)) (fun _ i => xs.length - (intOf i).toNat)
  case atStart => exact ⟨0, Nat.zero_le _, rfl, by simp [Hid]⟩
  case round =>
    obtain ⟨k, hk, rfl, hn⟩ := hrel
    by_cases hlt : k < xs.length
    · obtain ⟨b, off, rfl, hc⟩ := HC.out (by omega)
      have hck := hc k hlt
      have H : Hid (x ∉ xs.take k) := hn
      clear hc hn HC
      by_cases he : x = xs[k]
      · have hb : (x == xs[k]) = true := by simp [he]
        have H2 := Lib.hid he
        clear he
        go_wp2
        go_ret
        exact ⟨⟨k, rfl, by simp; rw [H2.out]; exact List.getElem_mem _⟩, rfl⟩
      · have hb : (x == xs[k]) = false := by simp [he]
        have H2 := Lib.hid he
        clear he
        go_wp2
        go_round
        case rel => exact ⟨k + 1, by omega, by go_num, notMem_take hlt H.out H2.out⟩
        case measure => simp [intOf]; omega
    · go_wp2
      go_ret
      refine ⟨⟨-1, rfl, ?_⟩, rfl⟩
      have h1 := hn.out
      rw [List.take_of_length_le (by omega)] at h1
      simp [h1]

set_option maxHeartbeats 400000 in
theorem contains_spec (v : Value) (xs : List Int) (x : Int) (w : World) (h : Ints any w v xs) :
    Calls Try.prog 82 #[v, .int .i64 x] w fun e w' => e = .returned (.bool (xs.contains x)) ∧ w = w' := by
  go_enter Try.func82, Try.ntmps82
  have H := Lib.hid h
  clear h
  go_wp2_with (go_at_call 108; refine (index_spec _ _ _ _ H.out).mono ?_; rintro e w' ⟨⟨r, rfl, hr⟩, rfl⟩; have HR := Lib.hid hr; clear hr)
  go_ret
  refine ⟨?_, rfl⟩
  have := HR.out
  congr 2
  by_cases hx : x ∈ xs
  · simp [hx, this.2 hx]
  · have h2 : ¬ 0 ≤ r := fun h => hx (this.1 h)
    simp [hx]; omega

set_option maxHeartbeats 400000 in
theorem clone_spec (v : Value) (xs : List Int) (w : World) (h : Ints any w v xs) :
    Calls Try.prog 137 #[v] w fun e w' => ∃ v, e = .returned v ∧ Ints (fun k => w.heap.size ≤ k) w' v xs ∧ Ex w w' := by
  have qT : ∀ (w : World) (a : Option Addr) (n c n' c' : Nat), (binOp .eql 22 (.slice a n c) (.slice none n' c')).run Try.prog w = .ok (.bool a.isNone) w := fun w a n c n' c' => Lib.run_eql_slice_nil w _ _ a n c n' c' Try.underlying22
  obtain ⟨A, c, rfl, h1, hl, hc⟩ := h.open
  have H := Lib.hid h
  clear h
  cases A with
  | none =>
    have hx : Hid (xs = []) := by
      show xs = []
      cases xs with
      | nil => rfl
      | cons x xs => obtain ⟨b, off, e, _⟩ := hc (by simp); cases e
    clear hc h1
    go_enter Try.func137, Try.ntmps137
    go_wp2
    go_ret
    refine ⟨_, rfl, ?_, Ex.refl _⟩
    rw [show xs = [] from hx]
    exact Nums.nil _ _ _
  | some ad =>
    clear hc h1
    go_enter Try.func137, Try.ntmps137
    go_wp2_with (at_builtin; go_must (refine app _ rfl _ _ 22 rfl w.heap.size 3 _ 1 8 Try.underlying22 Try.info3 rfl (by decide) (by decide) _ _ _ (World.ownsRow_lit _ #[] 0 (Nat.le_refl _) (by decide) rfl) rfl _ xs.length (xs.map (.int .i64)) (H.out.ex ((Ex.refl _).alloc _)) rfl (ints_one _) (by omega) (by simp) ?_); intro v1 w1 hown1 hg1 _)
    go_ret
    rw [Nat.zero_add, List.nil_append] at hown1
    exact ⟨_, rfl, Row.fresh hown1 hl, ((Ex.refl _).alloc _).grown hg1 (by simp [Value.ownBlock])⟩

set_option maxRecDepth 100000 in
set_option maxHeartbeats 400000 in
theorem grow_spec (n : Nat) (w : World) (hn : n ≤ 17592186044416) :
    Calls Try.prog 104 #[.slice none 0 0, .int .i64 (n : Int)] w fun e w' => ∃ v, e = .returned v ∧ w'.ownsRow w.heap.size 3 1 v 0 [] ∧ Ex w w' := by
  obtain ⟨i0, hi, hz0, hz1, hz2⟩ := info_parts Try.info3
  rcases Nat.eq_zero_or_pos n with rfl | h0
  · go_enter Try.func104, Try.ntmps104
    go_wp2
    go_ret
    exact ⟨_, rfl, World.ownsRow_nil _ _ _ _, Ex.refl _⟩
  · have hr := Lib.run_append_nil_zeros (P := Try.prog) w 22 3 22 3 i0 (.int .i64 0) .i64 .i64 Try.underlying22 Try.underlying3 hi hz0 n h0 (by omega) (by omega) (by rw [hz2]; omega)
    have hge := grownCap_ge w n 0 3
    have hle := grownCap_le_maxLen w n 0 3 (by unfold maxLen; omega)
    unfold maxLen at hle
    generalize grownCap w n 0 3 = C at hr hge hle
    have hown : (w.drew.alloc (.cells (Builtin.zeroCells (Value.int .i64 0).cells n ++ Builtin.zeroCells (Value.int .i64 0).cells (C - n)) 3)).ownsRow w.heap.size 3 1 (.slice (some ⟨w.heap.size, 0, none⟩) 0 C) 0 [] :=
      World.ownsRow_made w.drew _ C (Nat.le_refl _) (by unfold maxLen; omega) (by simp [size_zeroCells, Value.cells]; omega)
    have hex : Ex w (w.drew.alloc (.cells (Builtin.zeroCells (Value.int .i64 0).cells n ++ Builtin.zeroCells (Value.int .i64 0).cells (C - n)) 3)) := ((Ex.refl w).drew).alloc _
    generalize w.drew.alloc (.cells (Builtin.zeroCells (Value.int .i64 0).cells n ++ Builtin.zeroCells (Value.int .i64 0).cells (C - n)) 3) = W at hr hown hex
    have HR := Lib.hid hr
    have HO := Lib.hid hown
    have HE := Lib.hid hex
    clear hr hown hex hi hz0 hz1 hz2
    go_enter Try.func104, Try.ntmps104
    go_wp2_with (at_builtin; refine Lib.wpList_append_run _ rfl _ _ _ _ rfl _ _ rfl rfl _ _ HR.out ?_)
    go_ret
    exact ⟨_, rfl, HO.out, HE.out⟩

set_option maxHeartbeats 1000000 in
theorem concat_spec (B : Nat) (v1 v2 : Value) (xs ys : List Int) (w : World) (c1 : w.cell? ⟨B, 0, none⟩ = some v1) (c2 : w.cell? ⟨B, 1, none⟩ = some v2)
    (h1 : Ints any w v1 xs) (h2 : Ints any w v2 ys) (hn : xs.length + ys.length ≤ 17592186044416) :
    Calls Try.prog 76 #[.slice (some ⟨B, 0, none⟩) 2 2] w fun e w' => ∃ v, e = .returned v ∧ Ints (fun k => w.heap.size ≤ k) w' v (xs ++ ys) ∧ Ex w w' := by
  obtain ⟨A1, k1, rfl, _, _, _⟩ := h1.open
  obtain ⟨A2, k2, rfl, _, _, _⟩ := h2.open
  have H1 := Lib.hid h1
  have H2 := Lib.hid h2
  clear h1 h2
  go_enter Try.func76, Try.ntmps76
  go_wp2
  refine wp_loop_rounds 3 ?_
  rw [rounds_succ]; go_wp2
  rw [rounds_succ]; go_wp2
  rw [rounds_succ]
  go_wp2_with (go_at_call 104; go_must (refine (grow_spec (xs.length + ys.length) _ hn).mono ?_); rintro e w1 ⟨v, rfl, hown, hex⟩)
  have d1 := hex.cell c1
  have C1 := Lib.hid c1
  have C2 := Lib.hid c2
  have HO := Lib.hid hown
  have HX := Lib.hid hex
  clear hown hex c1 c2
  refine wp_loop_rounds 3 ?_
  rw [rounds_succ]
  go_wp2_with (at_builtin; go_must (refine app _ rfl _ _ 22 rfl w.heap.size 3 _ 1 8 Try.underlying22 Try.info3 rfl (by decide) (by decide) _ _ _ HO.out rfl _ xs.length (xs.map (.int .i64)) (H1.out.ex HX.out) rfl (ints_one _) (by omega) HX.out.size ?_); intro v1 w2 hown1 hg1 _)
  rw [Nat.zero_add, List.nil_append] at hown1
  have hex2 := Ex.grown HX.out hg1 (fun k hk => (HO.out.lt k hk).1)
  have d2 := hex2.cell C2.out
  have HO2 := Lib.hid hown1
  have HX2 := Lib.hid hex2
  clear hown1 hex2 hg1 d1
  rw [rounds_succ]
  go_wp2_with (at_builtin; go_must (refine app _ rfl _ _ 22 rfl w.heap.size 3 _ 1 8 Try.underlying22 Try.info3 rfl (by decide) (by decide) _ _ _ HO2.out rfl _ ys.length (ys.map (.int .i64)) (H2.out.ex HX2.out) rfl (ints_one _) (by omega) HX2.out.size ?_); intro v2 w3 hown2 hg2 _)
  have hex3 := Ex.grown HX2.out hg2 (fun k hk => (HO2.out.lt k hk).1)
  have HO3 := Lib.hid hown2
  have HX3 := Lib.hid hex3
  clear hown2 hex3 hg2 d2
  rw [rounds_succ]
  go_wp2
  go_ret
  have ho := HO3.out
  rw [← List.map_append] at ho
  have := Row.fresh ho hn
  exact ⟨_, rfl, by unfold Ints Nums; rw [List.length_append]; exact this, HX3.out⟩

theorem any_take {xs : List Int} {p : Int → Bool} {k : Nat} (hk : k < xs.length) (h1 : (xs.take k).any p = false) (h2 : p xs[k] = false) : Hid ((xs.take (k + 1)).any p = false) := by
  show (xs.take (k + 1)).any p = false
  rw [List.take_succ_eq_append_getElem hk, List.any_append, h1]
  simp [h2]
set_option maxRecDepth 100000 in
set_option maxHeartbeats 1000000 in
/-- IndexFunc, of a function value that has captured one thing. -/
theorem indexFunc_spec (F : Nat) (hE : ∀ args w, (callFunc F args).run Try.prog w = .ok (.enter F args) w) (u : Value) (p : Int → Bool) (v : Value) (xs : List Int) (w : World) (h : Ints any w v xs)
    (hf : ∀ w1, Ex w w1 → ∀ x ∈ xs, Calls Try.prog F #[.int .i64 x, u] w1 fun e w2 => e = .returned (.bool (p x)) ∧ Ex w1 w2) :
    Calls Try.prog 107 #[v, .func (.func F) #[] #[u]] w fun e w' => (∃ r : Int, e = .returned (.int .i64 r) ∧ (decide (0 ≤ r) = xs.any p)) ∧ Ex w w' := by
  obtain ⟨A, c, rfl, h1, hl, hc⟩ := h.open
  go_enter Try.func107, Try.ntmps107
  clear h h1
  have HC := Lib.hid hc
  have HF := Lib.hid hf
  clear hc hf
  go_wp2
  go_loopw [5, 8] (fun _ i wr => ∃ k : Nat, k ≤ xs.length ∧ i = .int .i64 k ∧ Hid ((xs.take k).any p = false) ∧ Ex w wr) (fun _ i _ => xs.length - (intOf i).toNat)
  case atStart => exact ⟨0, Nat.zero_le _, rfl, by simp [Hid], Ex.refl _⟩
  case round =>
    obtain ⟨k, hk, rfl, hn, hex⟩ := hrel
    have H : Hid ((xs.take k).any p = false) := hn
    have HX := Lib.hid hex
    clear hn hex
    by_cases hlt : k < xs.length
    · obtain ⟨b, off, rfl, hc⟩ := HC.out (by omega)
      have hck := HX.out.cell (hc k hlt)
      clear hc HC
      go_wp2_with fail
      refine (HF.out _ HX.out xs[k] (List.getElem_mem _)).mono ?_
      rintro e w2 ⟨rfl, hex2⟩
      have HX2 := Lib.hid (HX.out.trans hex2)
      clear hex2 hck
      by_cases he : p xs[k] = true
      · rw [he]
        have H2 := Lib.hid he
        clear he
        go_wp2
        go_ret
        exact ⟨⟨k, rfl, by simp; exact ⟨_, List.getElem_mem _, H2.out⟩⟩, HX2.out⟩
      · have he : p xs[k] = false := by simpa using he
        rw [he]
        have H2 := Lib.hid he
        clear he
        go_wp2
        go_roundw
        case rel => exact ⟨k + 1, by omega, by go_num, any_take hlt H.out H2.out, HX2.out⟩
        case measure => simp [intOf]; omega
    · go_wp2
      go_ret
      refine ⟨⟨-1, rfl, ?_⟩, HX.out⟩
      have h1 := H.out
      rw [List.take_of_length_le (by omega)] at h1
      rw [h1]; rfl

set_option maxHeartbeats 400000 in
theorem containsFunc_spec (F : Nat) (hE : ∀ args w, (callFunc F args).run Try.prog w = .ok (.enter F args) w) (u : Value) (p : Int → Bool) (v : Value) (xs : List Int) (w : World) (h : Ints any w v xs)
    (hf : ∀ w1, Ex w w1 → ∀ x ∈ xs, Calls Try.prog F #[.int .i64 x, u] w1 fun e w2 => e = .returned (.bool (p x)) ∧ Ex w1 w2) :
    Calls Try.prog 80 #[v, .func (.func F) #[] #[u]] w fun e w' => e = .returned (.bool (xs.any p)) ∧ Ex w w' := by
  go_enter Try.func80, Try.ntmps80
  have H := Lib.hid h
  have HF := Lib.hid hf
  clear h hf
  go_wp2_with (go_at_call 107; refine (indexFunc_spec F hE u p _ _ _ H.out HF.out).mono ?_; rintro e w' ⟨⟨r, rfl, hr⟩, hex⟩; have HR := Lib.hid hr; have HX := Lib.hid hex; clear hr hex)
  go_ret
  exact ⟨by rw [HR.out]; rfl, HX.out⟩
end Go.Proofs.Ytikkeefhhhfmmaa
