/- A map from numbers to what is counted from there on; the function that counts. Conditions: 12 at most. -/
import Derived.Test.YtikkeefhhhfmmaaMapLit
import Derived.Test.YtikkeefhhhfmmaaCnt
import Derived.Test.YtikkeefhhhfmmaaMore
import Derived.Laws.EntriesVeiled
set_option linter.unusedVariables false
set_option linter.unusedSimpArgs false
namespace Go.Proofs.Ytikkeefhhhfmmaa
open Go.RowKit Go.Instr

theorem findNow_at (k : Int) : ∀ (es : List MapEntry) (i : Nat) (r : Nat × Value), findNow (.int .i64) (.int .i64 k) es i = some (some r) → intKeys es = true → i ≤ r.1 ∧ ∃ e, es[r.1 - i]? = some e ∧ e.key = .int .i64 k
  | [], i, r, h, _ => by simp [findNow] at h
  | e :: es, i, r, h, hk => by
    simp only [intKeys, List.all_cons, Bool.and_eq_true] at hk
    obtain ⟨hk1, hk2⟩ := hk
    obtain ⟨key, val, born⟩ := e
    cases key with
    | int q n =>
      cases q <;> simp at hk1
      by_cases he : n = k
      · subst he
        simp [findNow, sameNow] at h
        subst h
        exact ⟨Nat.le_refl _, ⟨.int .i64 n, val, born⟩, by simp, rfl⟩
      · have hk' : ¬ k = n := fun h => he h.symm
        have hkb : (k == n) = false := by simp [hk']
        simp [findNow, sameNow, hkb] at h
        obtain ⟨h1, e, h2, h3⟩ := findNow_at k es (i + 1) r h hk2
        refine ⟨by omega, e, ?_, h3⟩
        rw [show r.1 - i = (r.1 - (i + 1)) + 1 by omega]
        simpa using h2
    | _ => simp at hk1

/-- Each entry is right; the last number is there. -/
structure Good (D : Nat → Nat → Bool) (n : Nat) (es : List MapEntry) : Prop where
  all : ∀ e ∈ es, ∃ m : Nat, m < 2 ^ n ∧ e.key = .int .i64 (m : Int) ∧ e.val = .int .i64 (val D n m : Int)
  full : .int .i64 ((2 ^ n - 1 : Nat) : Int) ∈ es.map (·.key)
theorem Good.keys {D : Nat → Nat → Bool} {n : Nat} {es : List MapEntry} (h : Good D n es) : intKeys es = true := by
  simp only [intKeys, List.all_eq_true]
  intro e he
  obtain ⟨m, _, hk, _⟩ := h.all e he
  rw [hk]
theorem entryOf_some (k : Int) : ∀ (es : List MapEntry) (v : Value), entryOf k es = some v → ∃ e ∈ es, e.key = .int .i64 k ∧ e.val = v
  | [], _, h => by simp [entryOf] at h
  | e :: es, v, h => by
    obtain ⟨key, val, born⟩ := e
    simp only [entryOf] at h
    split at h
    · split at h
      · rename_i hn
        subst hn
        injection h with h
        exact ⟨_, List.mem_cons_self, rfl, h⟩
      · obtain ⟨e, he, h1, h2⟩ := entryOf_some k es v h
        exact ⟨e, List.mem_cons_of_mem _ he, h1, h2⟩
    · simp at h
theorem entryOf_mem (k : Int) : ∀ (es : List MapEntry), intKeys es = true → .int .i64 k ∈ es.map (·.key) → (entryOf k es).isSome = true
  | [], _, h => by simp at h
  | e :: es, hk, h => by
    obtain ⟨key, val, born⟩ := e
    simp only [intKeys, List.all_cons, Bool.and_eq_true] at hk
    obtain ⟨hk1, hk2⟩ := hk
    cases key with
    | int q n =>
      cases q <;> simp at hk1
      simp only [List.map_cons, List.mem_cons] at h
      by_cases hn : n = k
      · simp [entryOf, hn]
      · simp only [entryOf, if_neg hn]
        rcases h with h | h
        · injection h with _ h; exact absurd h.symm hn
        · exact entryOf_mem k es hk2 h
    | _ => simp at hk1
theorem Good.entry {D : Nat → Nat → Bool} {n : Nat} {es : List MapEntry} (h : Good D n es) (m : Nat) : entryOf (m : Int) es = none ∨ entryOf (m : Int) es = some (.int .i64 (val D n m : Int)) := by
  cases he : entryOf (m : Int) es with
  | none => exact .inl rfl
  | some v =>
    right
    obtain ⟨e, hm, hk, rfl⟩ := entryOf_some _ _ _ he
    obtain ⟨m', _, hk', hv⟩ := h.all e hm
    rw [hk] at hk'
    injection hk' with _ hk'
    have : m = m' := by exact_mod_cast hk'
    subst this
    rw [hv]
theorem Good.last {D : Nat → Nat → Bool} {n : Nat} {es : List MapEntry} (h : Good D n es) : ¬ entryOf ((2 ^ n - 1 : Nat) : Int) es = none := by
  intro he
  have := entryOf_mem _ es h.keys h.full
  rw [he] at this
  simp at this

/-- The map in block bm. -/
def Memo (D : Nat → Nat → Bool) (n bm : Nat) (w : World) : Prop := ∃ es c, w.heap[bm]? = some (.map es c) ∧ Good D n es.toList
theorem memo_set {D : Nat → Nat → Bool} {n bm m : Nat} {w : World} {T K E : TypeId} {P : Program} (hT : P.underlying T = some (.map K E)) (hK : P.underlying K = some (.int .i64)) (h : Memo D n bm w) (hm : m < 2 ^ n) :
    ∃ w', (mapUpdate T (.map (some bm)) (.int .i64 (m : Int)) (.int .i64 (val D n m : Int))).run P w = .ok () w' ∧ Memo D n bm w' ∧ w.grownBy w' (some bm) := by
  obtain ⟨es, c, hb, hg⟩ := h
  have hlt : bm < w.heap.size := by
    rcases Nat.lt_or_ge bm w.heap.size with h | h
    · exact h
    · rw [Array.getElem?_eq_none h] at hb; cases hb
  have hset : ∀ o, (({ w with heap := w.heap.setIfInBounds bm o } : World).heap[bm]? = some o) := fun o => by simp [hlt]
  have hgr : ∀ o, w.grownBy ({ w with heap := w.heap.setIfInBounds bm o } : World) (some bm) := fun o =>
    ⟨rfl, rfl, rfl, by simp, fun k hk hne => by
      have : ¬ bm = k := fun e => hne (by rw [e])
      simp [Array.getElem?_setIfInBounds, this]⟩
  obtain ⟨r, hr, h3⟩ := findNow_int (m : Int) es.toList 0 hg.keys
  cases r with
  | none =>
    refine ⟨_, ?_, ⟨es.push ⟨.int .i64 m, .int .i64 (val D n m), c⟩, c + 1, hset _, ?_⟩, hgr _⟩
    · simp [mapUpdate, run_underlying hT, run_underlying hK, getObj, setObj, Sem.run, hb, run_checkKey_int hK, findKey, hr]
    · constructor
      · intro e he
        simp only [Array.toList_push, List.mem_append, List.mem_singleton] at he
        rcases he with he | rfl
        · exact hg.all e he
        · exact ⟨m, hm, rfl, rfl⟩
      · simp only [Array.toList_push, List.map_append, List.mem_append]
        exact .inl hg.full
  | some p =>
    obtain ⟨_, e, he, hk⟩ := findNow_at (m : Int) es.toList 0 p hr hg.keys
    rw [Nat.sub_zero] at he
    have he' : es[p.1]? = some e := by simpa using he
    have hsb : sameBits 10000 (.int .i64 (m : Int)) (.int .i64 (m : Int)) = true := by simp [sameBits]
    refine ⟨_, ?_, ⟨es.modify p.1 (fun e => { e with key := .int .i64 m, val := .int .i64 (val D n m) }), c, hset _, ?_⟩, hgr _⟩
    · simp [mapUpdate, run_underlying hT, run_underlying hK, getObj, setObj, Sem.run, hb, run_checkKey_int hK, findKey, hr, he', hk, keyThatStays, hsb]
    · have hall : ∀ x ∈ (es.modify p.1 (fun e => { e with key := .int .i64 m, val := .int .i64 (val D n m) })).toList, x ∈ es.toList ∨ (x.key = .int .i64 (m : Int) ∧ x.val = .int .i64 (val D n m : Int)) := by
        intro x hx
        rw [List.mem_iff_getElem?] at hx
        obtain ⟨i, hi⟩ := hx
        rw [Array.toList_modify, List.getElem?_modify] at hi
        by_cases hip : p.1 = i
        · subst hip
          rw [he] at hi
          simp at hi
          right; rw [← hi]; exact ⟨rfl, rfl⟩
        · left
          simp [hip] at hi
          exact List.mem_iff_getElem?.2 ⟨i, by simpa using hi⟩
      constructor
      · intro x hx
        rcases hall x hx with h | ⟨h1, h2⟩
        · exact hg.all x h
        · exact ⟨m, hm, h1, h2⟩
      · have hkeys : (es.modify p.1 (fun e => { e with key := .int .i64 m, val := .int .i64 (val D n m) })).toList.map (·.key) = es.toList.map (·.key) := by
          apply List.ext_getElem?
          intro i
          rw [Array.toList_modify, List.getElem?_map, List.getElem?_map, List.getElem?_modify]
          by_cases hip : p.1 = i
          · subst hip; rw [he]; simp [hk]
          · simp [hip]
        rw [hkeys]
        exact hg.full
end Go.Proofs.Ytikkeefhhhfmmaa
