/- Small words of this claim: how a slice reads in a world, and that it goes on reading so while memory grows; append in one law. Conditions: none. -/
import Derived.WalkKit
import Derived.WalkLawsBesides
import Derived.WalkSpells
import Derived.Handy
import Derived.Lib.Hide
import Derived.Laws.AppendOwnNone
import Derived.Maps.AppendAt
import Derived.Test.YtikkeefhhhfmmaaProg
set_option linter.unusedVariables false
set_option linter.unusedSimpArgs false
namespace Go.Proofs.Ytikkeefhhhfmmaa
open Go.RowKit

/-- No old block has turned. -/
abbrev Ex (w w' : World) : Prop := Below w.heap.size w w'
theorem Ex.refl (w : World) : Ex w w := Below.refl _ _
theorem Ex.trans {a b c : World} (h : Ex a b) (k : Ex b c) : Ex a c := Below.trans h (k.mono h.size)
theorem Ex.alloc {a w : World} (h : Ex a w) (o : Obj) : Ex a (w.alloc o) := Below.alloc h h.size o
theorem Ex.drew {a w : World} (h : Ex a w) : Ex a w.drew := Below.drew h
theorem Ex.drewN {a w : World} (h : Ex a w) (n : Nat) : Ex a (w.drewN n) := ⟨h.os, h.tape, h.output, h.size, h.block⟩
theorem Ex.set {a w : World} (h : Ex a w) {p : Addr} (hp : a.heap.size ≤ p.block) (u : Value) : Ex a (w.setCell p u) := Below.setCell h hp u
theorem Ex.grown {a w w' : World} {row : Option Nat} (h : Ex a w) (hg : w.grownBy w' row) (hr : ∀ k, row = some k → a.heap.size ≤ k) : Ex a w' := Below.grown h hg h.size hr
theorem Ex.cell {w w' : World} (h : Ex w w') {p : Addr} {v : Value} (hc : w.cell? p = some v) : w'.cell? p = some v :=
  (Below.cell h (World.block_lt_of_cell? w p hc)).trans hc
theorem Ex.reads {w w' : World} (h : Ex w w') : (∀ b o, b < w.heap.size → w'.cell? ⟨b, o, none⟩ = w.cell? ⟨b, o, none⟩) ∧ (∀ b o, b < w.heap.size → w'.frozen? ⟨b, o, none⟩ = w.frozen? ⟨b, o, none⟩) :=
  ⟨fun b o hb => Below.cell (p := ⟨b, o, none⟩) h hb, fun b o hb => Below.frozen (p := ⟨b, o, none⟩) h hb⟩
theorem Ex.keeps {w w' : World} (h : Ex w w') : w'.heap.size = w'.heap.size ∧ ∀ k, k < w.heap.size → w'.heap[k]? = w.heap[k]? := ⟨rfl, h.block⟩

/-- The class of worlds for a region that draws its order: no block of W has turned. -/
abbrev Cls (W w' : World) : Prop := (∀ b o, b < W.heap.size → w'.cell? ⟨b, o, none⟩ = W.cell? ⟨b, o, none⟩) ∧ Ex W w'
theorem Cls.refl (W : World) : Cls W W := ⟨fun _ _ _ => rfl, Ex.refl _⟩
theorem Cls.drew {W w : World} (h : Cls W w) : Cls W w.drew := ⟨h.1, h.2.drew⟩
theorem Cls.step {W w1 w2 : World} (h : Cls W w1) (hb : Ex w1 w2) : Cls W w2 := ⟨fun b o hbo => (hb.reads.1 b o (Nat.lt_of_lt_of_le hbo h.2.size)).trans (h.1 b o hbo), h.2.trans hb⟩
theorem Cls.alloc {W w : World} (h : Cls W w) (o : Obj) : Cls W (w.alloc o) := h.step ((Ex.refl w).alloc o)

/-- The cells cs lie from A on, in a block that is ok. -/
def RowAt (ok : Nat → Prop) (w : World) (A : Option Addr) (cs : List Value) : Prop :=
  cs = [] ∨ ∃ b off, A = some ⟨b, off, none⟩ ∧ ok b ∧ ∀ j u, cs[j]? = some u → w.cell? ⟨b, off + j, none⟩ = some u
/-- v is a slice of n elements, sz cells each, that read as cs. -/
def Row (ok : Nat → Prop) (w : World) (sz : Nat) (v : Value) (n : Nat) (cs : List Value) : Prop :=
  ∃ A c, v = .slice A n c ∧ n ≤ c ∧ n ≤ 17592186044416 ∧ cs.length = n * sz ∧ RowAt ok w A cs
def any : Nat → Prop := fun _ => True
/-- A slice of numbers. -/
def Nums (k : IntKind) (ok : Nat → Prop) (w : World) (v : Value) (xs : List Int) : Prop := Row ok w 1 v xs.length (xs.map (.int k))
abbrev Ints := Nums .i64

theorem RowAt.imp {ok ok' : Nat → Prop} {w w' : World} {A : Option Addr} {cs : List Value} (h : RowAt ok w A cs) (hk : ∀ k, ok k → k < w.heap.size → w'.heap[k]? = w.heap[k]?) (ho : ∀ k, ok k → k < w.heap.size → ok' k) : RowAt ok' w' A cs := by
  rcases h with h | ⟨b, off, e, hb, hc⟩
  · exact .inl h
  · cases cs with
    | nil => exact .inl rfl
    | cons u cs =>
      have hlt : b < w.heap.size := World.block_lt_of_cell? w ⟨b, off + 0, none⟩ (hc 0 u rfl)
      exact .inr ⟨b, off, e, ho b hb hlt, fun j u hu => (World.cell?_of_block (a := ⟨b, off + j, none⟩) (hk b hb hlt)).trans (hc j u hu)⟩
theorem Row.imp {ok ok' : Nat → Prop} {w w' : World} {sz : Nat} {v : Value} {n : Nat} {cs : List Value} (h : Row ok w sz v n cs) (hk : ∀ k, ok k → k < w.heap.size → w'.heap[k]? = w.heap[k]?) (ho : ∀ k, ok k → k < w.heap.size → ok' k) : Row ok' w' sz v n cs := by
  obtain ⟨A, c, e, h1, h2, h3, h4⟩ := h
  exact ⟨A, c, e, h1, h2, h3, h4.imp hk ho⟩
theorem Row.ex {ok : Nat → Prop} {w w' : World} {sz : Nat} {v : Value} {n : Nat} {cs : List Value} (h : Row ok w sz v n cs) (hb : Ex w w') : Row ok w' sz v n cs :=
  h.imp (fun k _ hk => hb.block k hk) (fun _ hk _ => hk)
theorem Row.anyOf {ok : Nat → Prop} {w : World} {sz : Nat} {v : Value} {n : Nat} {cs : List Value} (h : Row ok w sz v n cs) : Row any w sz v n cs :=
  h.imp (fun _ _ _ => rfl) (fun _ _ _ => trivial)
theorem Nums.ex {k : IntKind} {ok : Nat → Prop} {w w' : World} {v : Value} {xs : List Int} (h : Nums k ok w v xs) (hb : Ex w w') : Nums k ok w' v xs := Row.ex h hb
theorem Nums.anyOf {k : IntKind} {ok : Nat → Prop} {w : World} {v : Value} {xs : List Int} (h : Nums k ok w v xs) : Nums k any w v xs := Row.anyOf h
theorem Row.nil (ok : Nat → Prop) (w : World) (sz : Nat) : Row ok w sz (.slice none 0 0) 0 [] := ⟨none, 0, rfl, Nat.le_refl _, by simp, by simp, .inl rfl⟩
theorem Nums.nil (k : IntKind) (ok : Nat → Prop) (w : World) : Nums k ok w (.slice none 0 0) [] := Row.nil ok w 1
/-- What a slice of numbers gives a walk: its value, and each cell. -/
theorem Nums.open {k : IntKind} {ok : Nat → Prop} {w : World} {v : Value} {xs : List Int} (h : Nums k ok w v xs) :
    ∃ A c, v = .slice A xs.length c ∧ xs.length ≤ c ∧ xs.length ≤ 17592186044416 ∧
      (0 < xs.length → ∃ b off, A = some ⟨b, off, none⟩ ∧ ∀ j (hj : j < xs.length), w.cell? ⟨b, off + j, none⟩ = some (.int k xs[j])) := by
  obtain ⟨A, c, e, h1, h2, h3, h4⟩ := h
  refine ⟨A, c, e, h1, h2, fun h0 => ?_⟩
  rcases h4 with h4 | ⟨b, off, e, _, hc⟩
  · rw [List.map_eq_nil_iff] at h4; subst h4; simp at h0
  · exact ⟨b, off, e, fun j hj => hc j _ (by simp [hj])⟩
theorem ints_one {k : IntKind} (xs : List Int) : ∀ u ∈ xs.map (Value.int k), u.oneCell' = true := by
  intro u hu
  obtain ⟨x, _, rfl⟩ := List.mem_map.1 hu
  rfl
/-- A row of the call's own reads as what it holds. -/
theorem Row.of_own {w : World} {base e sz : Nat} {v : Value} {cs : List Value} {n : Nat} (h : w.ownsRow base e sz v n cs) (hl : n ≤ 17592186044416) : Row (fun k => v.ownBlock = some k) w sz v n cs := by
  rcases h.2 with ⟨rfl, rfl⟩ | ⟨g, cap, cur, rfl, hb, hg, h1, h2, h3, h4⟩
  · have : cs = [] := List.eq_nil_of_length_eq_zero (by simpa using h.1)
    subst this
    exact Row.nil _ w sz
  · refine ⟨_, cap, rfl, h1, hl, h.1, .inr ⟨g, 0, rfl, rfl, fun j u hu => ?_⟩⟩
    have hc := h.cells (g := g) rfl j u hu
    have ha : (⟨g, 0, none⟩ : Addr).add j = ⟨g, 0 + j, none⟩ := by unfold Addr.add; split <;> simp_all
    rwa [ha] at hc
theorem Row.fresh {w : World} {base e sz : Nat} {v : Value} {cs : List Value} {n : Nat} (h : w.ownsRow base e sz v n cs) (hl : n ≤ 17592186044416) : Row (fun k => base ≤ k) w sz v n cs :=
  (Row.of_own h hl).imp (fun _ _ _ => rfl) (fun k hk _ => (h.lt k hk).1)
theorem RowAt.news {ok : Nat → Prop} {w : World} {ad : Addr} {cs : List Value} (h : RowAt ok w (some ad) cs) : ∀ j u, cs[j]? = some u → w.cell? (ad.add j) = some u := by
  intro j u hu
  rcases h with rfl | ⟨b, off, e, _, hc⟩
  · simp at hu
  · injection e with e
    subst e
    have ha : (⟨b, off, none⟩ : Addr).add j = ⟨b, off + j, none⟩ := by unfold Addr.add; split <;> simp_all
    rw [ha]
    exact hc j u hu

section
variable {P : Program} {ops : Array Oper} {rest : List Oper} {o : Oper} {a : Act} {Q : Exit → Act → World → Prop}
/-- 'append(v, y...)', v a row of the call's own, y whatever reads. -/
theorem app (w : World) (hgd : o.guard = none) (s x : Operand) (t : TypeId)
    (ho : o.op = .call { callee := .builtin .append, args := #[s, x], argTypes := #[t, t] })
    (base : Nat) (e : TypeId) (z : Value) (sz bytes : Nat) (ht : P.underlying t = some (.slice e)) (hinfo : (P.info? e).map (fun i => (i.zero, i.size, i.bytes)) = some (some z, sz, bytes))
    (hzs : z.cells.size = sz) (hsz : 0 < sz) (hby : bytes ≠ 0)
    (v : Value) (n : Nat) (cs : List Value) (hown : w.ownsRow base e sz v n cs) (hs : a.eval s = v)
    (y : Value) (m : Nat) (ys : List Value) (hy : Row any w sz y m ys) (hx : a.eval x = y) (h1 : ∀ u ∈ ys, u.oneCell' = true)
    (hb : (n + m) * bytes ≤ 140737488355328) (hbase : base ≤ w.heap.size)
    (h : ∀ v' w', w'.ownsRow base e sz v' (n + m) (cs ++ ys) → w.grownBy w' v.ownBlock → (v'.ownBlock = v.ownBlock ∨ v'.ownBlock = some w.heap.size) → wpList P ops Q rest (a.put o.dst v') w') : wpList P ops Q (o :: rest) a w := by
  obtain ⟨i0, hi, hz0, hz1, hz2⟩ := info_parts hinfo
  obtain ⟨A, c, rfl, hc1, hc2, hc3, hc4⟩ := hy
  have hnm : n + m ≤ maxLen := by
    have := Nat.le_trans (Nat.le_mul_of_pos_right (n + m) (Nat.pos_of_ne_zero hby)) hb
    unfold maxLen; omega
  cases A with
  | some ad =>
    refine wpList_append_own_at w hgd s x t ho base e i0 z sz bytes ht hi hz0 hz1 hz2 hzs hsz v n cs hs hown ad m c ys hx hc3 hc4.news h1 hnm hb hbase ?_
    intro v' w' k1 k2 _ k4
    exact h v' w' k1 k2 k4
  | none =>
    have hys : ys = [] := by
      rcases hc4 with h | ⟨_, _, e, _⟩
      · exact h
      · cases e
    subst hys
    have hm : m = 0 := by
      have := hc3
      simp only [List.length_nil] at this
      rcases Nat.eq_zero_or_pos m with h | h
      · exact h
      · have := Nat.mul_pos h hsz; omega
    subst hm
    have hrun : (Builtin.append_ #[t, t] o.type #[v, .slice none 0 c]).run P w = .ok v w := by
      rcases hown.2 with ⟨rfl, rfl⟩ | ⟨g, cap, cur, rfl, hbg, hg, hnc, hcm, hcs, htake⟩
      · simp [Builtin.append_, run_underlying ht, sizeOf, typeInfo, hi, Builtin.lenOf, Builtin.firstCells, loadCells, loadCellsFrom]
      · simp [Builtin.append_, run_underlying ht, sizeOf, typeInfo, hi, Builtin.lenOf, Builtin.firstCells, loadCells, loadCellsFrom, hnc, storeCells]
    refine wpList_plain hgd fun K hK => ?_
    unfold Oper.wp execOp
    simp only [ho, resolve, invoke, builtin, Sem.run_bind, Sem.run_pure, Result.andThen_ok, List.map_toArray, List.map_cons, List.map_nil, hs, hx, hrun]
    exact hK _ _ (h v w (by simpa using hown) ⟨rfl, rfl, rfl, Nat.le_refl _, fun _ _ _ => rfl⟩ (.inl rfl))
end
theorem Try.info3 : (Try.prog.info? 3).map (fun i => (i.zero, i.size, i.bytes)) = some (some (.int .i64 0), 1, 8) := by kernel_rfl
theorem ite_le {p : Prop} [Decidable p] {a b c : Nat} (ha : a ≤ c) (hb : b ≤ c) : (if p then a else b) ≤ c := by split <;> assumption
theorem ite_P {P : Nat → Prop} {p : Prop} [Decidable p] {a b : Nat} (ha : P a) (hb : P b) : P (if p then a else b) := by split <;> assumption
theorem enters {F : Nat} {fn : Func} (hf : Try.prog.funcs[F]? = some fn) (h1 : (fn.name == "runtime.NumGoroutine") = false) (h2 : fn.body.isNone = false) :
    ∀ args w, (callFunc F args).run Try.prog w = .ok (.enter F args) w := by
  intro args w
  have h1' : ¬ fn.name = "runtime.NumGoroutine" := by simpa using h1
  have h2' : ¬ fn.body = none := by intro h; rw [h] at h2; cases h2
  simp [callFunc, program, Sem.run, hf, h1', h2']
end Go.Proofs.Ytikkeefhhhfmmaa
