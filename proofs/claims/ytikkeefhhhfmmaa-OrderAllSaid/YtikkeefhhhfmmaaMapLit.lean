/- A map literal with integer keys that the call itself lays: an insert of a new key, a look-up. Conditions: the keys are told apart. -/
import Derived.Test.YtikkeefhhhfmmaaBase
set_option linter.unusedVariables false
namespace Go.Proofs.Ytikkeefhhhfmmaa
open Go.RowKit Go.Instr

/-- The entry of key k among entries with integer keys. -/
def entryOf (k : Int) : List MapEntry → Option Value
  | [] => none
  | e :: es => match e.key with
    | .int .i64 n => if n = k then some e.val else entryOf k es
    | _ => none
def intKeys (es : List MapEntry) : Bool := es.all fun e => match e.key with | .int .i64 _ => true | _ => false
theorem findNow_int (k : Int) : ∀ (es : List MapEntry) (i : Nat), intKeys es = true → ∃ r, findNow (.int .i64) (.int .i64 k) es i = some r ∧ r.map (·.2) = entryOf k es
  | [], i, _ => ⟨none, rfl, rfl⟩
  | e :: es, i, h => by
    simp only [intKeys, List.all_cons, Bool.and_eq_true] at h
    obtain ⟨h1, h2⟩ := h
    obtain ⟨key, val, born⟩ := e
    cases key with
    | int q n =>
      cases q <;> simp at h1
      by_cases hk : n = k
      · subst hk; exact ⟨some (i, val), by simp [findNow, sameNow], by simp [entryOf]⟩
      · obtain ⟨r, hr, h3⟩ := findNow_int k es (i + 1) h2
        have hk' : ¬ k = n := fun h => hk h.symm
        have hkb : (k == n) = false := by simp [hk']
        exact ⟨r, by simp [findNow, sameNow, hkb, hr], by simp [entryOf, hk, h3]⟩
    | _ => simp at h1

section
variable {P : Program} {T K E : TypeId}
theorem run_checkKey_int (hK : P.underlying K = some (.int .i64)) (b : Bool) (n : Nat) (k : Int) (w : World) : (checkKey b (n + 1) K (.int .i64 k)).run P w = .ok () w := by
  simp [checkKey, run_underlying hK]
theorem run_mapUpdate_at (hT : P.underlying T = some (.map K E)) (hK : P.underlying K = some (.int .i64)) (W : World) (b : Nat) (es : Array MapEntry) (c : Nat) (k : Int) (x : Value)
    (hg : W.heap[b]? = some (.map es c)) (h1 : intKeys es.toList = true) (h2 : entryOf k es.toList = none) :
    (mapUpdate T (.map (some b)) (.int .i64 k) x).run P W = .ok () { W with heap := W.heap.setIfInBounds b (.map (es.push ⟨.int .i64 k, x, c⟩) (c + 1)) } := by
  obtain ⟨r, hr, h3⟩ := findNow_int k es.toList 0 h1
  have hn : r = none := by
    cases r with
    | none => rfl
    | some p => rw [← h3] at h2; simp at h2
  subst hn
  simp [mapUpdate, run_underlying hT, run_underlying hK, getObj, setObj, Sem.run, hg, run_checkKey_int hK, findKey, hr]
theorem run_mapUpdate_new (hT : P.underlying T = some (.map K E)) (hK : P.underlying K = some (.int .i64)) (W : World) (es : Array MapEntry) (c : Nat) (k : Int) (x : Value)
    (h : (intKeys es.toList && (entryOf k es.toList).isNone) = true) :
    (mapUpdate T (.map (some W.heap.size)) (.int .i64 k) x).run P (W.alloc (.map es c)) = .ok () (W.alloc (.map (es.push ⟨.int .i64 k, x, c⟩) (c + 1))) := by
  rw [Bool.and_eq_true] at h
  rw [run_mapUpdate_at hT hK _ _ es c k x (heap_alloc_new W _) h.1 (by simpa using h.2)]
  congr 1
  show ({ W with heap := (W.heap.push (.map es c)).setIfInBounds W.heap.size _ } : World) = { W with heap := W.heap.push _ }
  congr 1
  apply Array.ext_getElem?
  intro i
  simp only [Array.getElem?_setIfInBounds, Array.getElem?_push, Array.size_push]
  by_cases h : i = W.heap.size
  · subst h; simp
  · have : ¬ W.heap.size = i := fun e => h e.symm
    simp [h, this]
theorem run_lookup_ok (hT : P.underlying T = some (.map K E)) (hK : P.underlying K = some (.int .i64)) (z : Value) (hz : ∀ w, (zeroValue E).run P w = .ok z w) (W : World) (b : Nat) (es : Array MapEntry) (c : Nat) (k : Int)
    (hb : W.heap[b]? = some (.map es c)) (h : intKeys es.toList = true) :
    (lookup T (.map (some b)) (.int .i64 k) true).run P W = .ok (.tuple #[(entryOf k es.toList).getD z, .bool (entryOf k es.toList).isSome]) W := by
  obtain ⟨r, hr, h3⟩ := findNow_int k es.toList 0 h
  rw [← h3]
  cases r with
  | none => simp [lookup, run_underlying hT, run_underlying hK, getObj, Sem.run, hb, run_checkKey_int hK, findKey, hr, hz]
  | some p => simp [lookup, run_underlying hT, run_underlying hK, getObj, Sem.run, hb, run_checkKey_int hK, findKey, hr]
end
end Go.Proofs.Ytikkeefhhhfmmaa
