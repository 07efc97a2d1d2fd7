/- More small words: an empty literal of the call's own; append at a step of a region that draws its order. Conditions: none. -/
import Derived.Test.YtikkeefhhhfmmaaBase
import Derived.Deep.RegionHeld3
import Derived.Deep.DeepCutAuto
set_option linter.unusedVariables false
set_option linter.unusedSimpArgs false
namespace Go.Proofs.Ytikkeefhhhfmmaa
open Go.RowKit

theorem own_empty {w W : World} {e sz B : Nat} (hW : Ex w W) (hB : W.heap.size = B) : (W.alloc (.cells #[] e)).ownsRow w.heap.size e sz (.slice (some ⟨B, 0, none⟩) 0 0) 0 [] := by
  subst hB
  exact World.ownsRow_lit W #[] 0 hW.size (by decide) (by simp)
theorem Nums.len {k : IntKind} {ok : Nat → Prop} {w : World} {v : Value} {xs : List Int} (h : Nums k ok w v xs) : xs.length ≤ 17592186044416 := by
  obtain ⟨_, _, _, _, h, _⟩ := h
  exact h
/-- A row that was owned from base on, written again: nothing below base has turned. -/
theorem Ex.own {w W W' : World} {e sz n : Nat} {v : Value} {cs : List Value} (h : Ex w W) (ho : W.ownsRow w.heap.size e sz v n cs) (hg : W.grownBy W' v.ownBlock) : Ex w W' :=
  Ex.grown h hg (fun k hk => (ho.lt k hk).1)
theorem Cls.own {w W W' : World} {e sz n : Nat} {v : Value} {cs : List Value} (h : Cls w W) (ho : W.ownsRow w.heap.size e sz v n cs) (hg : W.grownBy W' v.ownBlock) : Cls w W' :=
  have hx := Ex.own h.2 ho hg
  ⟨hx.reads.1, hx⟩
/-- Nothing has turned but blocks from base on. -/
def Grows (base : Nat) (w w' : World) : Prop := ∀ w0 : World, w0.heap.size ≤ base → Ex w0 w → Ex w0 w'
theorem Cls.grows {W w w' : World} (h : Cls W w) (g : Grows W.heap.size w w') : Cls W w' :=
  have hx := g W (Nat.le_refl _) h.2
  ⟨hx.reads.1, hx⟩
theorem own_shape {w : World} {base e sz n : Nat} {v : Value} {cs : List Value} (h : w.ownsRow base e sz v n cs) : ∃ A c, v = .slice A n c := by
  rcases h.2 with ⟨rfl, rfl⟩ | ⟨g, cap, cur, rfl, _⟩
  · exact ⟨none, 0, rfl⟩
  · exact ⟨_, cap, rfl⟩
theorem own_ex {w w1 : World} {base e sz n : Nat} {v : Value} {cs : List Value} (h : w.ownsRow base e sz v n cs) (hb : Ex w w1) : w1.ownsRow base e sz v n cs :=
  h.kept (row := none) ⟨hb.os, hb.tape, hb.output, hb.size, fun k hk _ => hb.block k hk⟩ (by cases v.ownBlock <;> simp)

/-- What was appended reads as both. -/
theorem Nums.of_app {k : IntKind} {w : World} {base e c : Nat} {A : Option Addr} {xs ys : List Int} (h : w.ownsRow base e 1 (.slice A (xs.length + ys.length) c) (xs.length + ys.length) (xs.map (.int k) ++ ys.map (.int k))) (hl : xs.length + ys.length ≤ 17592186044416) :
    Nums k (fun b => base ≤ b) w (.slice A (xs.length + ys.length) c) (xs ++ ys) := by
  have := Row.fresh h hl
  unfold Nums
  rw [List.length_append, List.map_append]
  exact this

section
variable {P : Program} {ops : Array Oper} {rest : List Oper} {o : Oper} {a : Act} {Q : Exit → Act → World → Prop}
/-- The append alone: what it answers is told as a slice. -/
theorem wp_app {K : Act → World → Prop} (w : World) (s x : Operand) (t : TypeId)
    (ho : o.op = .call { callee := .builtin .append, args := #[s, x], argTypes := #[t, t] })
    (base : Nat) (e : TypeId) (z : Value) (sz bytes : Nat) (ht : P.underlying t = some (.slice e)) (hinfo : (P.info? e).map (fun i => (i.zero, i.size, i.bytes)) = some (some z, sz, bytes))
    (hzs : z.cells.size = sz) (hsz : 0 < sz) (hby : bytes ≠ 0)
    (v : Value) (n : Nat) (cs : List Value) (hown : w.ownsRow base e sz v n cs) (hs : a.eval s = v)
    (y : Value) (m : Nat) (ys : List Value) (hy : Row any w sz y m ys) (hx : a.eval x = y) (h1 : ∀ u ∈ ys, u.oneCell' = true)
    (hb : (n + m) * bytes ≤ 140737488355328) (hbase : base ≤ w.heap.size)
    (h : ∀ A c w', w'.ownsRow base e sz (.slice A (n + m) c) (n + m) (cs ++ ys) → Grows base w w' → w.grownBy w' v.ownBlock → K (a.put o.dst (.slice A (n + m) c)) w') : o.wp P a w K Q := by
  obtain ⟨i0, hi, hz0, hz1, hz2⟩ := info_parts hinfo
  obtain ⟨A, c, rfl, hc1, hc2, hc3, hc4⟩ := hy
  have hnm : n + m ≤ maxLen := by
    have := Nat.le_trans (Nat.le_mul_of_pos_right (n + m) (Nat.pos_of_ne_zero hby)) hb
    unfold maxLen; omega
  have fin : ∀ v' w', (Builtin.append_ #[t, t] o.type #[v, .slice A m c]).run P w = .ok v' w' → w'.ownsRow base e sz v' (n + m) (cs ++ ys) → w.grownBy w' v.ownBlock → o.wp P a w K Q := by
    intro v' w' hr k1 k2
    obtain ⟨A', c', rfl⟩ := own_shape k1
    unfold Oper.wp execOp
    simp only [ho, resolve, invoke, builtin, Sem.run_bind, Sem.run_pure, Result.andThen_ok, List.map_toArray, List.map_cons, List.map_nil, hs, hx, hr]
    exact h A' c' w' k1 (fun w0 hw hx => Ex.grown hx k2 (fun k hk => Nat.le_trans hw (hown.lt k hk).1)) k2
  cases A with
  | some ad =>
    obtain ⟨v', w', hr, h2, h3, _, _⟩ := run_append_own_at (P := P) w base t o.type e i0 z sz bytes ht hi hz0 hz1 hz2 hzs hsz v n cs hown ad m c ys hc3 hc4.news h1 hnm hb hbase
    exact fin v' w' hr h2 h3
  | none =>
    have hys : ys = [] := by
      rcases hc4 with h | ⟨_, _, e, _⟩
      · exact h
      · cases e
    subst hys
    have hm : m = 0 := by
      have := hc3
      simp only [List.length_nil] at this
      rcases Nat.eq_zero_or_pos m with h | h
      · exact h
      · have := Nat.mul_pos h hsz; omega
    subst hm
    have hrun : (Builtin.append_ #[t, t] o.type #[v, .slice none 0 c]).run P w = .ok v w := by
      rcases hown.2 with ⟨rfl, rfl⟩ | ⟨g, cap, cur, rfl, hbg, hg, hnc, hcm, hcs, htake⟩
      · simp [Builtin.append_, run_underlying ht, sizeOf, typeInfo, hi, Builtin.lenOf, Builtin.firstCells, loadCells, loadCellsFrom]
      · simp [Builtin.append_, run_underlying ht, sizeOf, typeInfo, hi, Builtin.lenOf, Builtin.firstCells, loadCells, loadCellsFrom, hnc, storeCells]
    exact fin v w hrun (by simpa using hown) ⟨rfl, rfl, rfl, Nat.le_refl _, fun _ _ _ => rfl⟩
/-- The same at a step of a region that draws its order. -/
theorem step_app {K : Act → World → Prop} {E : Prop} (hgd : o.guard = none) (w : World) (s x : Operand) (t : TypeId)
    (ho : o.op = .call { callee := .builtin .append, args := #[s, x], argTypes := #[t, t] })
    (base : Nat) (e : TypeId) (z : Value) (sz bytes : Nat) (ht : P.underlying t = some (.slice e)) (hinfo : (P.info? e).map (fun i => (i.zero, i.size, i.bytes)) = some (some z, sz, bytes))
    (hzs : z.cells.size = sz) (hsz : 0 < sz) (hby : bytes ≠ 0)
    (v : Value) (n : Nat) (cs : List Value) (hown : w.ownsRow base e sz v n cs) (hs : a.eval s = v)
    (y : Value) (m : Nat) (ys : List Value) (hy : Row any w sz y m ys) (hx : a.eval x = y) (h1 : ∀ u ∈ ys, u.oneCell' = true)
    (hb : (n + m) * bytes ≤ 140737488355328) (hbase : base ≤ w.heap.size)
    (h : ∀ A c w', w'.ownsRow base e sz (.slice A (n + m) c) (n + m) (cs ++ ys) → Grows base w w' → w.grownBy w' v.ownBlock → K (a.put o.dst (.slice A (n + m) c)) w') :
    if Region.wanted o (yielded ops a.tmps) = true then Oper.wp P o a w K Q else E := by
  have hw : Region.wanted o (yielded ops a.tmps) = true := by simp [Region.wanted, hgd]
  rw [if_pos hw]
  exact wp_app w s x t ho base e z sz bytes ht hinfo hzs hsz hby v n cs hown hs y m ys hy hx h1 hb hbase h
/-- The same in a plain region. -/
theorem list_app (w : World) (hgd : o.guard = none) (s x : Operand) (t : TypeId)
    (ho : o.op = .call { callee := .builtin .append, args := #[s, x], argTypes := #[t, t] })
    (base : Nat) (e : TypeId) (z : Value) (sz bytes : Nat) (ht : P.underlying t = some (.slice e)) (hinfo : (P.info? e).map (fun i => (i.zero, i.size, i.bytes)) = some (some z, sz, bytes))
    (hzs : z.cells.size = sz) (hsz : 0 < sz) (hby : bytes ≠ 0)
    (v : Value) (n : Nat) (cs : List Value) (hown : w.ownsRow base e sz v n cs) (hs : a.eval s = v)
    (y : Value) (m : Nat) (ys : List Value) (hy : Row any w sz y m ys) (hx : a.eval x = y) (h1 : ∀ u ∈ ys, u.oneCell' = true)
    (hb : (n + m) * bytes ≤ 140737488355328) (hbase : base ≤ w.heap.size)
    (h : ∀ A c w', w'.ownsRow base e sz (.slice A (n + m) c) (n + m) (cs ++ ys) → Grows base w w' → w.grownBy w' v.ownBlock → wpList P ops Q rest (a.put o.dst (.slice A (n + m) c)) w') : wpList P ops Q (o :: rest) a w :=
  wpList_plain hgd fun _ hK => wp_app w s x t ho base e z sz bytes ht hinfo hzs hsz hby v n cs hown hs y m ys hy hx h1 hb hbase fun A c w' k1 k2 k3 => hK _ _ (h A c w' k1 k2 k3)
end
end Go.Proofs.Ytikkeefhhhfmmaa
