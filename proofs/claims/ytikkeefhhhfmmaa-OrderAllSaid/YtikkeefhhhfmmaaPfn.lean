/- Programs of registers: how they read in memory, and which are right, in plain lists. Conditions: none. -/
import Derived.Test.YtikkeefhhhfmmaaPEnd2
set_option linter.unusedVariables false
set_option linter.unusedSimpArgs false
namespace Go.Proofs.Ytikkeefhhhfmmaa
open Go.RowKit Go.Instr

/-- A slice of structs, sz cells each, that reads as the list L. -/
def Recs {α : Type} (sz : Nat) (cs : α → List Value) (okw : World → α → Prop) (ok : Nat → Prop) (w : World) (v : Value) (L : List α) : Prop :=
  Row ok w sz v L.length (L.flatMap cs) ∧ ∀ x ∈ L, okw w x
theorem Recs.exOf {α : Type} {sz : Nat} {cs : α → List Value} {okw : World → α → Prop} {ok : Nat → Prop} {w w' : World} {v : Value} {L : List α} (h : Recs sz cs okw ok w v L) (hb : Ex w w') (hk : ∀ x, okw w x → okw w' x) : Recs sz cs okw ok w' v L :=
  ⟨h.1.ex hb, fun x hx => hk x (h.2 x hx)⟩
theorem Recs.anyOf {α : Type} {sz : Nat} {cs : α → List Value} {okw : World → α → Prop} {ok : Nat → Prop} {w : World} {v : Value} {L : List α} (h : Recs sz cs okw ok w v L) : Recs sz cs okw any w v L := ⟨h.1.anyOf, h.2⟩
theorem Recs.nil {α : Type} (sz : Nat) (cs : α → List Value) (okw : World → α → Prop) (ok : Nat → Prop) (w : World) : Recs sz cs okw ok w (.slice none 0 0) [] := ⟨Row.nil _ _ _, by simp⟩
theorem recs_len {α : Type} {sz : Nat} {cs : α → List Value} (hc : ∀ x, (cs x).length = sz) (L : List α) : (L.flatMap cs).length = L.length * sz := by
  induction L with
  | nil => simp
  | cons x L ih => rw [List.flatMap_cons, List.length_append, ih, hc, List.length_cons, Nat.add_mul]; omega
theorem recs_at {α : Type} {sz : Nat} {cs : α → List Value} (hc : ∀ x, (cs x).length = sz) : ∀ (L : List α) (i k : Nat) (x : α), L[i]? = some x → k < sz → (L.flatMap cs)[i * sz + k]? = (cs x)[k]?
  | [], i, k, m, h, _ => by simp at h
  | y :: L, 0, k, m, h, hk => by
    simp at h; subst h
    rw [List.flatMap_cons, Nat.zero_mul, Nat.zero_add, List.getElem?_append_left (by rw [hc]; exact hk)]
  | y :: L, i + 1, k, m, h, hk => by
    simp at h
    have h1 : (i + 1) * sz + k = sz + (i * sz + k) := by rw [Nat.add_mul]; omega
    rw [List.flatMap_cons, h1, List.getElem?_append_right (by rw [hc]; omega), hc]
    rw [show sz + (i * sz + k) - sz = i * sz + k by omega]
    exact recs_at hc L i k m h hk
theorem Recs.open {α : Type} {sz : Nat} {cs : α → List Value} {okw : World → α → Prop} {ok : Nat → Prop} {w : World} {v : Value} {L : List α} (hc : ∀ x, (cs x).length = sz) (hsz : 0 < sz) (h : Recs sz cs okw ok w v L) :
    ∃ A c, v = .slice A L.length c ∧ L.length ≤ c ∧ L.length ≤ 17592186044416 ∧
      (0 < L.length → ∃ b off, A = some ⟨b, off, none⟩ ∧ ok b ∧ ∀ i x, L[i]? = some x → ∀ k u, (cs x)[k]? = some u → w.cell? ⟨b, off + i * sz + k, none⟩ = some u) := by
  obtain ⟨⟨A, c, e, h1, h2, h3, h4⟩, _⟩ := h
  refine ⟨A, c, e, h1, h2, fun h0 => ?_⟩
  rcases h4 with h4 | ⟨b, off, e, hok, hcl⟩
  · exfalso
    rw [h4] at h3
    have := Nat.mul_pos h0 hsz
    simp only [List.length_nil] at h3
    omega
  · refine ⟨b, off, e, hok, fun i x hx k u hu => ?_⟩
    have hk : k < sz := by have := (List.getElem?_eq_some_iff.1 hu).1; rw [hc] at this; exact this
    rw [Nat.add_assoc]
    exact hcl _ _ ((recs_at hc L i k x hx hk).trans hu)
theorem Recs.len {α : Type} {sz : Nat} {cs : α → List Value} {okw : World → α → Prop} {ok : Nat → Prop} {w : World} {v : Value} {L : List α} (h : Recs sz cs okw ok w v L) : L.length ≤ 17592186044416 := by
  obtain ⟨⟨A, c, e, h1, h2, h3, h4⟩, _⟩ := h
  exact h2
theorem Recs.shape {α : Type} {sz : Nat} {cs : α → List Value} {okw : World → α → Prop} {ok : Nat → Prop} {w : World} {v : Value} {L : List α} (h : Recs sz cs okw ok w v L) : ∃ A c, v = .slice A L.length c := Row.shape h.1

/-- An instruction with the number of the one that it stands for. -/
structure Placed where
  m : Mach
  frm : Int
def Placed.cells (p : Placed) : List Value := [.int .i64 p.m.op, .int .i64 p.m.d, .int .i64 p.m.e, .int .i64 p.m.a, .int .i64 p.m.b, .int .i64 p.m.c, .int .i32 p.m.imm, p.m.av, .int .i64 p.frm]
abbrev Placed.val (p : Placed) : Value := .agg #[.int .i64 p.m.op, .int .i64 p.m.d, .int .i64 p.m.e, .int .i64 p.m.a, .int .i64 p.m.b, .int .i64 p.m.c, .int .i32 p.m.imm, p.m.av, .int .i64 p.frm]
def Placed.okw (w : World) (p : Placed) : Prop := p.m.ok any w ∧ p.m.fine
theorem Placed.okw.ex {w w' : World} {p : Placed} (h : p.okw w) (hb : Ex w w') : p.okw w' := ⟨h.1.ex hb, h.2⟩
abbrev Placeds (ok : Nat → Prop) (w : World) (v : Value) (L : List Placed) : Prop := Recs 9 Placed.cells (fun w p => p.okw w) ok w v L
theorem Placeds.ex {ok : Nat → Prop} {w w' : World} {v : Value} {L : List Placed} (h : Placeds ok w v L) (hb : Ex w w') : Placeds ok w' v L := Recs.exOf h hb fun _ hx => hx.ex hb
theorem Placed.cells_len (p : Placed) : p.cells.length = 9 := rfl
/-- Nine cells from a place on. -/
def At9 (w : World) (b o : Nat) (p : Placed) : Prop :=
  w.cell? ⟨b, o, none⟩ = some (.int .i64 p.m.op) ∧ w.cell? ⟨b, o + 1, none⟩ = some (.int .i64 p.m.d) ∧ w.cell? ⟨b, o + 2, none⟩ = some (.int .i64 p.m.e) ∧ w.cell? ⟨b, o + 3, none⟩ = some (.int .i64 p.m.a) ∧
  w.cell? ⟨b, o + 4, none⟩ = some (.int .i64 p.m.b) ∧ w.cell? ⟨b, o + 5, none⟩ = some (.int .i64 p.m.c) ∧ w.cell? ⟨b, o + 6, none⟩ = some (.int .i32 p.m.imm) ∧ w.cell? ⟨b, o + 7, none⟩ = some p.m.av ∧ w.cell? ⟨b, o + 8, none⟩ = some (.int .i64 p.frm)
theorem At9.ex {w w' : World} {b o : Nat} {m : Placed} (h : At9 w b o m) (hb : Ex w w') : At9 w' b o m :=
  ⟨hb.cell h.1, hb.cell h.2.1, hb.cell h.2.2.1, hb.cell h.2.2.2.1, hb.cell h.2.2.2.2.1, hb.cell h.2.2.2.2.2.1, hb.cell h.2.2.2.2.2.2.1, hb.cell h.2.2.2.2.2.2.2.1, hb.cell h.2.2.2.2.2.2.2.2⟩
theorem Placeds.open {ok : Nat → Prop} {w : World} {v : Value} {L : List Placed} (h : Placeds ok w v L) :
    ∃ A c, v = .slice A L.length c ∧ L.length ≤ c ∧ L.length ≤ 17592186044416 ∧
      (0 < L.length → ∃ b off, A = some ⟨b, off, none⟩ ∧ ok b ∧ ∀ i m, L[i]? = some m → At9 w b (off + i * 9) m) := by
  obtain ⟨A, c, e, h1, h2, h3⟩ := Recs.open (fun x => Placed.cells_len x) (by decide) h
  refine ⟨A, c, e, h1, h2, fun h0 => ?_⟩
  obtain ⟨b, off, e, hb, hc⟩ := h3 h0
  exact ⟨b, off, e, hb, fun i x hx => ⟨hc i x hx 0 _ rfl, hc i x hx 1 _ rfl, hc i x hx 2 _ rfl, hc i x hx 3 _ rfl, hc i x hx 4 _ rfl, hc i x hx 5 _ rfl, hc i x hx 6 _ rfl, hc i x hx 7 _ rfl, hc i x hx 8 _ rfl⟩⟩

/-- A block; iv: the value of its instructions. -/
structure PBlk where
  ins : List Placed
  iv : Value
  e : EndI
def PBlk.cells (p : PBlk) : List Value := [p.iv, .int .i64 p.e.op, .int .i64 p.e.a, .int .i64 p.e.b, p.e.tv, .int .i32 p.e.imm]
abbrev PBlk.val (p : PBlk) : Value := .agg #[p.iv, .int .i64 p.e.op, .int .i64 p.e.a, .int .i64 p.e.b, p.e.tv, .int .i32 p.e.imm]
def EndI.word (e : EndI) : Prop := -2147483648 ≤ e.imm ∧ e.imm ≤ 2147483647
structure PBlk.okw (w : World) (p : PBlk) : Prop where
  ins : Placeds any w p.iv p.ins
  tos : p.e.ok any w
  word : p.e.word
  few : p.ins.length ≤ 100000
  fewTo : p.e.tos.length ≤ 100000
theorem PBlk.okw.ex {w w' : World} {p : PBlk} (h : p.okw w) (hb : Ex w w') : p.okw w' := ⟨h.ins.ex hb, h.tos.ex hb, h.word, h.few, h.fewTo⟩
abbrev PBlks (ok : Nat → Prop) (w : World) (v : Value) (L : List PBlk) : Prop := Recs 6 PBlk.cells (fun w p => p.okw w) ok w v L
theorem PBlks.ex {ok : Nat → Prop} {w w' : World} {v : Value} {L : List PBlk} (h : PBlks ok w v L) (hb : Ex w w') : PBlks ok w' v L := Recs.exOf h hb fun _ hx => hx.ex hb
theorem PBlk.cells_len (p : PBlk) : p.cells.length = 6 := rfl
/-- Six cells from a place on. -/
def At6 (w : World) (b o : Nat) (p : PBlk) : Prop :=
  w.cell? ⟨b, o, none⟩ = some p.iv ∧ w.cell? ⟨b, o + 1, none⟩ = some (.int .i64 p.e.op) ∧ w.cell? ⟨b, o + 2, none⟩ = some (.int .i64 p.e.a) ∧ w.cell? ⟨b, o + 3, none⟩ = some (.int .i64 p.e.b) ∧
  w.cell? ⟨b, o + 4, none⟩ = some p.e.tv ∧ w.cell? ⟨b, o + 5, none⟩ = some (.int .i32 p.e.imm)
theorem At6.ex {w w' : World} {b o : Nat} {m : PBlk} (h : At6 w b o m) (hb : Ex w w') : At6 w' b o m :=
  ⟨hb.cell h.1, hb.cell h.2.1, hb.cell h.2.2.1, hb.cell h.2.2.2.1, hb.cell h.2.2.2.2.1, hb.cell h.2.2.2.2.2⟩
theorem PBlks.open {ok : Nat → Prop} {w : World} {v : Value} {L : List PBlk} (h : PBlks ok w v L) :
    ∃ A c, v = .slice A L.length c ∧ L.length ≤ c ∧ L.length ≤ 17592186044416 ∧
      (0 < L.length → ∃ b off, A = some ⟨b, off, none⟩ ∧ ok b ∧ ∀ i m, L[i]? = some m → At6 w b (off + i * 6) m) := by
  obtain ⟨A, c, e, h1, h2, h3⟩ := Recs.open (fun x => PBlk.cells_len x) (by decide) h
  refine ⟨A, c, e, h1, h2, fun h0 => ?_⟩
  obtain ⟨b, off, e, hb, hc⟩ := h3 h0
  exact ⟨b, off, e, hb, fun i x hx => ⟨hc i x hx 0 _ rfl, hc i x hx 1 _ rfl, hc i x hx 2 _ rfl, hc i x hx 3 _ rfl, hc i x hx 4 _ rfl, hc i x hx 5 _ rfl⟩⟩

/-- A program; bv: the value of its blocks. -/
structure PFn where
  params : Int
  k : Int
  slots : Int
  blocks : List PBlk
  bv : Value
abbrev PFn.val (p : PFn) : Value := .agg #[.int .i64 p.params, .int .i64 p.k, .int .i64 p.slots, p.bv]
structure PFn.okw (w : World) (p : PFn) : Prop where
  blocks : PBlks any w p.bv p.blocks
  few : p.blocks.length ≤ 100000
theorem PFn.okw.ex {w w' : World} {p : PFn} (h : p.okw w) (hb : Ex w w') : p.okw w' := ⟨h.blocks.ex hb, h.few⟩

/-- The first instruction that is wrong, and where. -/
def badIns (k s : Int) : List Placed → Nat → Int × Nat
  | [], i => (0, i)
  | x :: L, i => if insB x.m k s = 0 then badIns k s L (i + 1) else (insB x.m k s, i)
def badBlk (k s nb : Int) (b : PBlk) : Int × Nat := if (badIns k s b.ins 0).1 = 0 then (endB b.e k nb, b.ins.length) else badIns k s b.ins 0
def badBlks (k s nb : Int) : List PBlk → Nat → Int × Nat × Nat
  | [], _ => (0, 0, 0)
  | x :: L, b => if (badBlk k s nb x).1 = 0 then badBlks k s nb L (b + 1) else ((badBlk k s nb x).1, b, (badBlk k s nb x).2)
def size (L : List PBlk) : Nat := L.length + (L.map fun b => b.ins.length).sum
def headB (p : PFn) : Bool := withinB p.params 0 4 && withinB p.k 4 16 && withinB p.slots 0 16384
def funcB (p : PFn) : Int × Nat × Nat :=
  if headB p = false then (1, 0, 0) else if p.blocks.length = 0 then (14, 0, 0) else if 512 < p.blocks.length ∨ 65536 < size p.blocks then (2, 0, 0)
  else badBlks p.k p.slots p.blocks.length p.blocks 0
def rightB (p : PFn) : Bool := (funcB p).1 == 0
end Go.Proofs.Ytikkeefhhhfmmaa
