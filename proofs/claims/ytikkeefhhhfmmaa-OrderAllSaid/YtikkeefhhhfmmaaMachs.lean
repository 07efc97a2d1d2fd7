/- Slices of instructions; one's own arrays of numbers that are written to. Conditions: none. -/
import Derived.Test.YtikkeefhhhfmmaaDep
import Derived.Test.YtikkeefhhhfmmaaMore
import Derived.Laws.OwnMore
set_option linter.unusedVariables false
namespace Go.Proofs.Ytikkeefhhhfmmaa
open Go.RowKit

/-- An instruction as the statements have it: its number is one of 32 bits, its Args are few. -/
abbrev Mach.fine (m : Mach) : Prop := m.word ∧ m.args.length ≤ 1000
def Machs (ok : Nat → Prop) (w : World) (v : Value) (L : List Mach) : Prop :=
  Row ok w 8 v L.length (L.flatMap Mach.cells) ∧ ∀ m ∈ L, m.ok any w ∧ m.fine
theorem Machs.ex {ok : Nat → Prop} {w w' : World} {v : Value} {L : List Mach} (h : Machs ok w v L) (hb : Ex w w') : Machs ok w' v L :=
  ⟨h.1.ex hb, fun m hm => ⟨(h.2 m hm).1.ex hb, (h.2 m hm).2⟩⟩
theorem Machs.anyOf {ok : Nat → Prop} {w : World} {v : Value} {L : List Mach} (h : Machs ok w v L) : Machs any w v L := ⟨h.1.anyOf, h.2⟩
theorem Machs.nil (ok : Nat → Prop) (w : World) : Machs ok w (.slice none 0 0) [] := ⟨Row.nil _ _ _, by simp⟩
theorem cells_at : ∀ (L : List Mach) (i k : Nat) (m : Mach), L[i]? = some m → k < 8 → (L.flatMap Mach.cells)[8 * i + k]? = m.cells[k]?
  | [], i, k, m, h, _ => by simp at h
  | x :: L, 0, k, m, h, hk => by
    simp at h; subst h
    rw [List.flatMap_cons, List.getElem?_append_left (by simp [Mach.cells]; omega)]
    simp
  | x :: L, i + 1, k, m, h, hk => by
    simp at h
    rw [List.flatMap_cons, List.getElem?_append_right (by simp [Mach.cells]; omega)]
    have := cells_at L i k m h hk
    rw [← this]
    congr 1
    simp [Mach.cells]; omega
/-- Eight cells from a place on. -/
def At8 (w : World) (b o : Nat) (m : Mach) : Prop :=
  w.cell? ⟨b, o, none⟩ = some (.int .i64 m.op) ∧ w.cell? ⟨b, o + 1, none⟩ = some (.int .i64 m.d) ∧ w.cell? ⟨b, o + 2, none⟩ = some (.int .i64 m.e) ∧ w.cell? ⟨b, o + 3, none⟩ = some (.int .i64 m.a) ∧
  w.cell? ⟨b, o + 4, none⟩ = some (.int .i64 m.b) ∧ w.cell? ⟨b, o + 5, none⟩ = some (.int .i64 m.c) ∧ w.cell? ⟨b, o + 6, none⟩ = some (.int .i32 m.imm) ∧ w.cell? ⟨b, o + 7, none⟩ = some m.av
theorem At8.ex {w w' : World} {b o : Nat} {m : Mach} (h : At8 w b o m) (hb : Ex w w') : At8 w' b o m :=
  ⟨hb.cell h.1, hb.cell h.2.1, hb.cell h.2.2.1, hb.cell h.2.2.2.1, hb.cell h.2.2.2.2.1, hb.cell h.2.2.2.2.2.1, hb.cell h.2.2.2.2.2.2.1, hb.cell h.2.2.2.2.2.2.2⟩
theorem Machs.open {ok : Nat → Prop} {w : World} {v : Value} {L : List Mach} (h : Machs ok w v L) :
    ∃ A c, v = .slice A L.length c ∧ L.length ≤ c ∧ L.length ≤ 17592186044416 ∧
      (0 < L.length → ∃ b off, A = some ⟨b, off, none⟩ ∧ ∀ i m, L[i]? = some m → At8 w b (off + i * 8) m) := by
  obtain ⟨⟨A, c, e, h1, h2, h3, h4⟩, _⟩ := h
  refine ⟨A, c, e, h1, h2, fun h0 => ?_⟩
  rcases h4 with h4 | ⟨b, off, e, _, hc⟩
  · exfalso
    rw [h4] at h3
    simp at h3
    omega
  · refine ⟨b, off, e, fun i m hm => ?_⟩
    have hk : ∀ k, k < 8 → ∀ u, m.cells[k]? = some u → w.cell? ⟨b, off + i * 8 + k, none⟩ = some u := fun k hk u hu => by
      rw [Nat.add_assoc, Nat.mul_comm]
      exact hc _ _ ((cells_at L i k m hm hk).trans hu)
    exact ⟨hk 0 (by omega) _ rfl, hk 1 (by omega) _ rfl, hk 2 (by omega) _ rfl, hk 3 (by omega) _ rfl, hk 4 (by omega) _ rfl, hk 5 (by omega) _ rfl, hk 6 (by omega) _ rfl, hk 7 (by omega) _ rfl⟩
/-- A row of one's own, by its cells. -/
theorem own_cell {w : World} {base e n g c : Nat} {xs : List Value} (h : w.ownsRow base e 1 (.slice (some ⟨g, 0, none⟩) n c) n xs) {j : Nat} {u : Value} (hj : xs[j]? = some u) : w.cell? ⟨g, j, none⟩ = some u := by
  have := h.cells (g := g) rfl j u hj
  rwa [show (⟨g, 0, none⟩ : Addr).add j = ⟨g, j, none⟩ by unfold Addr.add; split <;> simp_all] at this
theorem setCell_cell {w : World} {p q : Addr} {u v : Value} (h : w.cell? q = some v) (hne : q.block ≠ p.block) : (w.setCell p u).cell? q = some v :=
  (World.cell?_of_block (heap_setCell_other w p q.block u (fun e => hne (by simpa using e)))).trans h
end Go.Proofs.Ytikkeefhhhfmmaa
