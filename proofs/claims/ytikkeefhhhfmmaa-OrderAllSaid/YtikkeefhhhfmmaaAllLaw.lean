/- Just as many of all orders are accepted as are counted: in plain lists. Conditions: none. -/
import Derived.Test.YtikkeefhhhfmmaaTry
set_option linter.unusedVariables false
set_option linter.unusedSimpArgs false
namespace Go.Proofs.Ytikkeefhhhfmmaa
open Go.RowKit Go.Instr

/-- Instructions with their own numbers. -/
def numbered (ms : List Mach) : List Placed := (List.range ms.length).filterMap fun (i : Nat) => (ms[i]?).map fun m => ⟨m, (i : Int)⟩
theorem numbered_get (ms : List Mach) : ∀ n, n ≤ ms.length → ∀ i, i < n → ((List.range n).filterMap fun (i : Nat) => (ms[i]?).map fun m => (⟨m, (i : Int)⟩ : Placed))[i]? = (ms[i]?).map fun m => ⟨m, i⟩ := by
  intro n
  induction n with
  | zero => intro _ i hi; omega
  | succ n ih =>
    intro hn i hi
    have hl : ((List.range n).filterMap fun (i : Nat) => (ms[i]?).map fun m => (⟨m, (i : Int)⟩ : Placed)).length = n := by
      clear ih hi
      induction n with
      | zero => rfl
      | succ n ih2 =>
        rw [List.range_succ, List.filterMap_append, List.length_append, ih2 (by omega)]
        simp [List.getElem?_eq_getElem (show n < ms.length by omega)]
    rw [List.range_succ, List.filterMap_append]
    by_cases h : i < n
    · rw [List.getElem?_append_left (by rw [hl]; exact h)]
      exact ih (by omega) i h
    · have he : i = n := by omega
      subst he
      rw [List.getElem?_append_right (by rw [hl]; exact Nat.le_refl _), hl]
      simp [List.getElem?_eq_getElem (show i < ms.length by omega)]
theorem numbered_at (ms : List Mach) (i : Nat) (m : Mach) (h : ms[i]? = some m) : (numbered ms)[i]? = some ⟨m, i⟩ := by
  have hi := (List.getElem?_eq_some_iff.1 h).1
  unfold numbered
  rw [numbered_get ms ms.length (Nat.le_refl _) i hi, h]
  rfl
theorem numbered_len (ms : List Mach) : (numbered ms).length = ms.length := by
  unfold numbered
  have : ∀ n, n ≤ ms.length → ((List.range n).filterMap fun (i : Nat) => (ms[i]?).map fun m => (⟨m, (i : Int)⟩ : Placed)).length = n := by
    intro n
    induction n with
    | zero => intro _; rfl
    | succ n ih2 =>
      intro hn
      rw [List.range_succ, List.filterMap_append, List.length_append, ih2 (by omega)]
      simp [List.getElem?_eq_getElem (show n < ms.length by omega)]
  exact this _ (Nat.le_refl _)

theorem sameM_refl (m : Mach) : sameM m m = true := by simp [sameM]
theorem findIn_scan {x : Placed} {A R : List (Nat × Placed)} {i : Nat} {y : Placed} (hA : ∀ p ∈ A, sameB x p.2 = false) (hy : sameB x y = true) :
    findIn x (A ++ (i, y) :: R) = if A.all (fun p => !dependsB p.2.m x.m) then (i : Int) else -1 := by
  induction A with
  | nil => simp [findIn, hy]
  | cons p A ih =>
    have hp := hA p (by simp)
    have ih := ih fun q hq => hA q (by simp [hq])
    rw [List.cons_append, findIn, hp]
    cases hd : dependsB p.2.m x.m with
    | true => simp [hd]
    | false => simp only [Bool.false_eq_true, if_false, List.all_cons, hd, Bool.not_false, Bool.true_and]; exact ih

/-- Which were found, by a list of bools. -/
theorem unf_mem {ms : List Mach} {fd : List Bool} {k : Nat} {p : Nat × Placed} (h : p ∈ unfTo (numbered ms) fd k) : p.1 < k ∧ ∃ m, ms[p.1]? = some m ∧ p.2 = ⟨m, p.1⟩ ∧ fd[p.1]? = some false := by
  unfold unfTo at h
  obtain ⟨i, hi, h⟩ := List.mem_filterMap.1 h
  split at h
  · rename_i x hx hf
    simp only [Option.some.injEq] at h
    subst h
    have hlt : i < ms.length := by have := (List.getElem?_eq_some_iff.1 hx).1; rwa [numbered_len] at this
    have hm := List.getElem?_eq_getElem hlt
    rw [numbered_at ms i _ hm] at hx
    simp only [Option.some.injEq] at hx
    exact ⟨List.mem_range.1 hi, _, hm, hx.symm, hf⟩
  · cases h
theorem unf_split (L : List Placed) (fd : List Bool) {i : Nat} {x : Placed} (hx : L[i]? = some x) (hf : fd[i]? = some false) (n : Nat) (hn : i < n) : ∃ R, unfTo L fd n = unfTo L fd i ++ (i, x) :: R := by
  obtain ⟨R, hR⟩ := unfTo_prefix L fd (show i + 1 ≤ n by omega)
  rw [unfTo_take hx hf] at hR
  exact ⟨R, by rw [← hR]; simp⟩
theorem all_free (ms : List Mach) (fd : List Bool) (hl : fd.length = ms.length) (x : Mach) (i : Nat) (hx : ms[i]? = some x) (k : Nat) (hk : k ≤ i) :
    (unfTo (numbered ms) fd k).all (fun p => !dependsB p.2.m x) = (List.range k).all fun j => isGone fd j || !depAt ms j i := by
  have hi := (List.getElem?_eq_some_iff.1 hx).1
  induction k with
  | zero => rfl
  | succ k ih =>
    have hm := List.getElem?_eq_getElem (show k < ms.length by omega)
    have hd : depAt ms k i = dependsB ms[k] x := by simp [depAt, hm, hx]
    have hg := List.getElem?_eq_getElem (show k < fd.length by omega)
    rw [List.range_succ, List.all_append, ← ih (by omega)]
    cases hfd : fd[k] with
    | true =>
      rw [hfd] at hg
      rw [unfTo_skip hg]
      simp [isGone, hg]
    | false =>
      rw [hfd] at hg
      rw [unfTo_take (numbered_at ms k _ hm) hg, List.all_append]
      simp [isGone, hg, hd]
theorem find_number (ms : List Mach) (fd : List Bool) (hl : fd.length = ms.length) (i : Nat) (x : Mach) (hx : ms[i]? = some x) (hf : fd[i]? = some false) :
    findB (numbered ms) fd ⟨x, i⟩ = if free (depAt ms) (isGone fd) i then (i : Int) else -1 := by
  have hi := (List.getElem?_eq_some_iff.1 hx).1
  unfold findB
  rw [numbered_len]
  obtain ⟨R, hR⟩ := unf_split (numbered ms) fd (numbered_at ms i x hx) hf ms.length hi
  rw [hR, findIn_scan]
  · rw [all_free ms fd hl x i hx i (Nat.le_refl _)]
    rfl
  · intro p hp
    obtain ⟨h1, m, h2, h3, _⟩ := unf_mem hp
    rw [h3]
    simp only [sameB]
    have : ((i : Int) == (p.1 : Int)) = false := by simp; omega
    rw [this]; rfl
  · simp [sameB, sameM_refl]

/-- Which numbers are among these. -/
def seen (pre : List Nat) : Nat → Bool := fun j => pre.contains j
/-- An order that begins so: each stands before none that it must stay behind. -/
def okPre (D : Nat → Nat → Bool) : (Nat → Bool) → List Nat → Bool
  | _, [] => true
  | g, i :: l => free D g i && okPre D (with1 g i) l
theorem free_same {D : Nat → Nat → Bool} {g g' : Nat → Bool} (h : ∀ i, g i = g' i) (i : Nat) : free D g i = free D g' i := by
  have : g = g' := funext h
  rw [this]
theorem okPre_append (D : Nat → Nat → Bool) : ∀ (g : Nat → Bool) (l : List Nat) (i : Nat), okPre D g (l ++ [i]) = (okPre D g l && free D (fun j => l.contains j || g j) i)
  | g, [], i => by simp [okPre]
  | g, a :: l, i => by
    rw [List.cons_append]
    simp only [okPre]
    rw [okPre_append D (with1 g a) l i, Bool.and_assoc]
    congr 2
    refine free_same (fun j => ?_) i
    simp only [with1, List.contains_cons]
    cases (j == a) <;> cases l.contains j <;> cases g j <;> rfl
def placedAt (ms : List Mach) (pre : List Nat) : List Placed := pre.filterMap fun i => (numbered ms)[i]?
theorem match_all (ms : List Mach) : ∀ (rest : List Nat) (fd : List Bool) (i0 : Nat), fd.length = ms.length → (∀ i ∈ rest, i < ms.length ∧ fd[i]? = some false) → rest.Nodup →
    (matchB (numbered ms) (placedAt ms rest) fd i0).2 = okPre (depAt ms) (isGone fd) rest
  | [], fd, i0, _, _, _ => rfl
  | i :: rest, fd, i0, hl, h, hnd => by
    obtain ⟨hi, hf⟩ := h i (by simp)
    have hm := List.getElem?_eq_getElem hi
    have hpl : placedAt ms (i :: rest) = ⟨ms[i], i⟩ :: placedAt ms rest := by
      unfold placedAt
      rw [List.filterMap_cons, numbered_at ms i _ hm]
    rw [hpl]
    simp only [matchB, okPre]
    rw [find_number ms fd hl i _ hm hf]
    have hin : i < fd.length := by omega
    cases hfr : free (depAt ms) (isGone fd) i with
    | false => simp
    | true =>
      simp only [if_true]
      rw [if_neg (by omega)]
      simp only [Int.toNat_natCast, Bool.true_and]
      rw [match_all ms rest (fd.set i true) (i0 + 1) (by rw [List.length_set]; exact hl) ?_ (List.nodup_cons.1 hnd).2, isGone_set hin]
      intro j hj
      obtain ⟨h1, h2⟩ := h j (by simp [hj])
      refine ⟨h1, ?_⟩
      rw [List.getElem?_set]
      have hne : i ≠ j := fun e => (List.nodup_cons.1 hnd).1 (e ▸ hj)
      rw [if_neg hne, h2]

theorem plain_right {m : Mach} (h : m.bare) : insB m 16 20 = 0 := by
  obtain ⟨h1, h2, h3, hop, ⟨d1, d2⟩, ⟨a1, a2⟩, ⟨b1, b2⟩, i1, i2⟩ := h
  obtain ⟨op, d, e, a, b, c, imm, args, av⟩ := m
  simp only at h1 h2 hop d1 d2 a1 a2 b1 b2 i1 i2
  subst h1
  have hout : ∀ r : Int, 4 ≤ r → r ≤ 8 → outB 16 r = false := fun r h1 h2 => by simp [outB]; omega
  rcases hop with rfl | rfl | rfl | rfl | rfl | rfl
  all_goals
    simp [insB, shapeB, regsL, slotB, takesL, makesL, kt, km, fieldsOf, withinB, immB, bitsB, hout d d1 d2, hout a a1 a2, hout b b1 b2]
    try omega
theorem badIns_zero {k s : Int} : ∀ {L : List Placed} {i : Nat}, (∀ x ∈ L, insB x.m k s = 0) → (badIns k s L i).1 = 0
  | [], _, _ => rfl
  | x :: L, i, h => by
    rw [badIns, if_pos (h x (by simp))]
    exact badIns_zero fun y hy => h y (by simp [hy])
theorem oneP_right {L : List Placed} (lv bv : Value) (hl : L.length ≤ 100) (h : ∀ x ∈ L, insB x.m 16 20 = 0) : rightB (oneP L lv bv) = true := by
  have hb : badBlk 16 20 1 ⟨L, lv, ⟨7, -1, 0, [], .slice none 0 0, 0⟩⟩ = (0, L.length) := by
    unfold badBlk
    rw [if_pos (badIns_zero h)]
    simp [endB, withinB, loOf, hiOf, needsL]
  have hf : funcB (oneP L lv bv) = badBlks 16 20 1 (oneP L lv bv).blocks 0 := by
    unfold funcB
    have h1 : headB (oneP L lv bv) = true := rfl
    have h2 : size (oneP L lv bv).blocks = 1 + L.length := by simp [size, oneP]
    have h3 : (oneP L lv bv).blocks.length = 1 := rfl
    rw [h1, h2, h3]
    rw [if_neg (by simp), if_neg (by simp), if_neg (by omega)]
    rfl
  unfold rightB
  rw [hf]
  simp only [oneP, badBlks, hb]
  simp
theorem acc_match (L B : List Placed) (hl : L.length ≤ 100) (hlen : B.length = L.length) (h1 : ∀ x ∈ L, insB x.m 16 20 = 0) (h2 : ∀ x ∈ B, insB x.m 16 20 = 0) :
    accB L B = (matchB L B (List.replicate L.length false) 0).2 := by
  unfold accB checkB
  rw [oneP_right _ _ hl h1, oneP_right _ _ (by omega) h2]
  have hh : sameHead (oneP L (.slice none 0 0) (.slice none 0 0)) (oneP B (.slice none 0 0) (.slice none 0 0)) = true := rfl
  rw [hh]
  simp only [Bool.and_true, if_true, oneP, checkFrom, blocksB, hlen]
  cases (matchB L B (List.replicate L.length false) 0).2 <;> simp [sameE]

theorem try_count (ms : List Mach) (hl : ms.length ≤ 100) (hr : ∀ m ∈ ms, insB m 16 20 = 0) : ∀ (k : Nat) (pre : List Nat), pre.length + k = ms.length → pre.Nodup → (∀ i ∈ pre, i < ms.length) →
    tryN (numbered ms) ms.length k (placedAt ms pre) (seen pre) = if okPre (depAt ms) (fun _ => false) pre then cnt (depAt ms) ms.length k (seen pre) else 0
  | 0, pre, hk, hnd, hi => by
    have hmem : ∀ x ∈ numbered ms, insB x.m 16 20 = 0 := by
      intro x hx
      obtain ⟨i, hi⟩ := List.getElem?_of_mem hx
      have hlt : i < ms.length := by have := (List.getElem?_eq_some_iff.1 hi).1; rwa [numbered_len] at this
      rw [numbered_at ms i _ (List.getElem?_eq_getElem hlt)] at hi
      simp only [Option.some.injEq] at hi
      subst hi
      exact hr _ (List.getElem_mem hlt)
    have hmem2 : ∀ x ∈ placedAt ms pre, insB x.m 16 20 = 0 := by
      intro x hx
      obtain ⟨i, _, h⟩ := List.mem_filterMap.1 hx
      exact hmem x (List.mem_of_getElem? h)
    have hpl : ∀ l : List Nat, (∀ i ∈ l, i < ms.length) → (placedAt ms l).length = l.length := by
      intro l
      induction l with
      | nil => intro _; rfl
      | cons a l ih =>
        intro h
        have ha := List.getElem?_eq_getElem (h a (by simp))
        unfold placedAt at ih ⊢
        rw [List.filterMap_cons, numbered_at ms a _ ha, List.length_cons, List.length_cons, ih fun i hi => h i (by simp [hi])]
    simp only [tryN, cnt]
    rw [acc_match _ _ (by rw [numbered_len]; exact hl) (by rw [hpl pre hi, numbered_len]; omega) hmem hmem2, numbered_len]
    rw [match_all ms pre (List.replicate ms.length false) 0 (by simp) (fun i h => ⟨hi i h, by simp [hi i h]⟩) hnd]
    have : isGone (List.replicate ms.length false) = fun _ => false := funext fun i => none_gone ms.length i
    rw [this]
  | k + 1, pre, hk, hnd, hi => by
    simp only [tryN, cnt]
    have hterm : ∀ i, i < ms.length → (if seen pre i = true then 0 else tryN (numbered ms) ms.length k (placedAt ms pre ++ ((numbered ms)[i]?).toList) (with1 (seen pre) i)) =
        if okPre (depAt ms) (fun _ => false) pre then (if !seen pre i && free (depAt ms) (seen pre) i then cnt (depAt ms) ms.length k (with1 (seen pre) i) else 0) else 0 := by
      intro i hlt
      cases hs : seen pre i with
      | true => simp
      | false =>
        have hni : i ∉ pre := by
          intro h
          have : seen pre i = true := by simpa [seen] using h
          rw [hs] at this; cases this
        have h1 : placedAt ms pre ++ ((numbered ms)[i]?).toList = placedAt ms (pre ++ [i]) := by
          unfold placedAt
          rw [List.filterMap_append]
          simp only [List.filterMap_cons, List.filterMap_nil]
          cases (numbered ms)[i]? <;> rfl
        have h2 : with1 (seen pre) i = seen (pre ++ [i]) := by
          funext j
          simp only [with1, seen]
          rw [Bool.eq_iff_iff]
          simp only [Bool.or_eq_true, beq_iff_eq, List.contains_iff_mem, List.mem_append, List.mem_singleton]
          exact ⟨fun h => h.elim .inr .inl, fun h => h.elim .inr .inl⟩
        rw [h1, h2, try_count ms hl hr k (pre ++ [i]) (by simp; omega) (by
          rw [List.nodup_append]
          exact ⟨hnd, by simp, by intro a ha b hb; simp only [List.mem_singleton] at hb; subst hb; exact fun e => hni (e ▸ ha)⟩) (by
          intro j hj
          rcases List.mem_append.1 hj with hj | hj
          · exact hi j hj
          · simp only [List.mem_singleton] at hj; omega), okPre_append]
        have h3 : free (depAt ms) (fun j => pre.contains j || false) i = free (depAt ms) (seen pre) i := free_same (fun j => by simp [seen]) i
        rw [h3]
        cases okPre (depAt ms) (fun _ => false) pre <;> cases free (depAt ms) (seen pre) i <;> simp
    rw [sumTo_congr _ _ _ hterm]
    cases okPre (depAt ms) (fun _ => false) pre with
    | true => simp
    | false =>
      simp only [Bool.false_eq_true, if_false]
      have : ∀ n, sumTo n (fun _ => 0) = 0 := by
        intro n
        induction n with
        | zero => rfl
        | succ n ih => simp [sumTo, ih]
      exact this _
/-- The law. -/
theorem try_orders (ms : List Mach) (hl : ms.length ≤ 5) (hr : ∀ m ∈ ms, m.bare) : tryN (numbered ms) ms.length ms.length [] (isGone (List.replicate ms.length false)) = orders ms := by
  have h := try_count ms (by omega) (fun m hm => plain_right (hr m hm)) ms.length [] (by simp) (by simp) (by simp)
  have h1 : seen [] = fun _ => false := funext fun i => by simp [seen]
  have h2 : isGone (List.replicate ms.length false) = fun _ => false := funext fun i => none_gone ms.length i
  rw [h1] at h
  rw [h2]
  simpa [okPre, orders, placedAt] using h
end Go.Proofs.Ytikkeefhhhfmmaa
