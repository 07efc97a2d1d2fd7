/- phys.End: which ends of blocks are right; walks. Conditions: none. -/
import Derived.Test.YtikkeefhhhfmmaaPIns2
set_option linter.unusedVariables false
set_option linter.unusedSimpArgs false
namespace Go.Proofs.Ytikkeefhhhfmmaa
open Go.RowKit Go.Instr

/-- An end of a block; tv: the value of its To. -/
structure EndI where
  op : Int
  a : Int
  b : Int
  tos : List Int
  tv : Value
  imm : Int
def EndI.cells (e : EndI) : List Value := [.int .i64 e.op, .int .i64 e.a, .int .i64 e.b, e.tv, .int .i32 e.imm]
abbrev EndI.val (e : EndI) : Value := .agg #[.int .i64 e.op, .int .i64 e.a, .int .i64 e.b, e.tv, .int .i32 e.imm]
def EndI.ok (ok : Nat → Prop) (w : World) (e : EndI) : Prop := Ints ok w e.tv e.tos
theorem EndI.ok.ex {ok : Nat → Prop} {w w' : World} {e : EndI} (h : e.ok ok w) (hb : Ex w w') : e.ok ok w' := Nums.ex h hb

def loOf (op : Int) : Int := if op = 1 then 1 else if op = 6 then 2 else if op = 7 ∨ op = 8 then 0 else 2
def hiOf (op : Int) : Int := if op = 1 then 1 else if op = 6 then 65 else if op = 7 ∨ op = 8 then 0 else 2
theorem ways_spec (op : Int) (w : World) : Calls Try.prog 93 #[.int .i64 op] w fun e w' => e = .returned (.tuple #[.int .i64 (loOf op), .int .i64 (hiOf op)]) ∧ w = w' := by
  have hc : op = 1 ∨ op = 6 ∨ op = 7 ∨ op = 8 ∨ (¬ op = 1 ∧ ¬ op = 6 ∧ ¬ op = 7 ∧ ¬ op = 8) := by omega
  rcases hc with rfl | rfl | rfl | rfl | ⟨h1, h2, h3, h4⟩
  case inr.inr.inr.inr =>
    have b1 : (op == 1) = false := by simp [h1]
    have b2 : (op == 6) = false := by simp [h2]
    have b3 : (op == 7) = false := by simp [h3]
    have b4 : (op == 8) = false := by simp [h4]
    have e1 : loOf op = 2 := by simp [loOf, h1, h2, h3, h4]
    have e2 : hiOf op = 2 := by simp [hiOf, h1, h2, h3, h4]
    rw [e1, e2]
    clear e1 e2
    go_enter Try.func93, Try.ntmps93
    go_wp2
    go_ret2
    simp
  all_goals
    go_enter Try.func93, Try.ntmps93
    go_wp2
    go_ret2
    simp [loOf, hiOf]

/-- Which registers an end takes. -/
def needsL (e : EndI) : List Int :=
  if e.op = 2 ∨ e.op = 6 ∨ (e.op = 7 ∧ 0 ≤ e.a) then [e.a] else if 3 ≤ e.op ∧ e.op ≤ 5 then [e.a, e.b] else []

set_option maxRecDepth 100000 in
set_option maxHeartbeats 1000000 in
theorem machNeeds_spec (e : EndI) (w : World) (h : e.ok any w) : Calls Try.prog 124 #[e.val] w fun x w' => ∃ v, x = .returned v ∧ Ints (fun k => w.heap.size ≤ k) w' v (needsL e) ∧ Ex w w' := by
  obtain ⟨op, a, b, tos, tv, imm⟩ := e
  obtain ⟨A, c, hav, _⟩ := Nums.open h
  simp only at hav
  subst hav
  clear h
  have hc : op = 2 ∨ op = 6 ∨ op = 7 ∨ (op = 3 ∨ op = 4 ∨ op = 5) ∨ (¬ op = 2 ∧ ¬ op = 6 ∧ ¬ op = 7 ∧ (op < 3 ∨ 5 < op)) := by omega
  rcases hc with rfl | rfl | rfl | hop | ⟨h1, h2, h3, h4⟩
  · go_enter Try.func124, Try.ntmps124
    go_wp2
    go_ret
    exact ⟨_, rfl, lit_ints [a] (by simp) (by go_grown) (by simp) rfl, by go_grown⟩
  · go_enter Try.func124, Try.ntmps124
    go_wp2
    go_ret
    exact ⟨_, rfl, lit_ints [a] (by simp) (by go_grown) (by simp) rfl, by go_grown⟩
  · by_cases ha : 0 ≤ a
    · have hn : needsL ⟨7, a, b, tos, .slice A tos.length c, imm⟩ = [a] := by simp [needsL, ha]
      rw [hn]
      clear hn
      go_enter Try.func124, Try.ntmps124
      go_wp2
      go_ret
      exact ⟨_, rfl, lit_ints [a] (by simp) (by go_grown) (by simp) rfl, by go_grown⟩
    · have hn : needsL ⟨7, a, b, tos, .slice A tos.length c, imm⟩ = [] := by simp [needsL, ha]
      rw [hn]
      clear hn
      go_enter Try.func124, Try.ntmps124
      go_wp2
      go_ret
      exact ⟨_, rfl, Nums.nil _ _ _, by go_grown⟩
  · rcases hop with rfl | rfl | rfl
    all_goals
      go_enter Try.func124, Try.ntmps124
      go_wp2
      go_ret
      exact ⟨_, rfl, lit_ints [a, b] (by simp) (by go_grown) (by simp) rfl, by go_grown⟩
  · have b1 : (op == 2) = false := by simp [h1]
    have b2 : (op == 6) = false := by simp [h2]
    have b3 : (op == 7) = false := by simp [h3]
    have hn : needsL ⟨op, a, b, tos, .slice A tos.length c, imm⟩ = [] := by
      simp [needsL, h1, h2, h3]
      omega
    rw [hn]
    clear hn
    rcases h4 with h4 | h4
    · go_enter Try.func124, Try.ntmps124
      go_wp2
      go_ret
      exact ⟨_, rfl, Nums.nil _ _ _, by go_grown⟩
    · have h5 : 3 ≤ op := by omega
      go_enter Try.func124, Try.ntmps124
      go_wp2
      go_ret
      exact ⟨_, rfl, Nums.nil _ _ _, by go_grown⟩

theorem needs_spec (e : EndI) (w : World) (h : e.ok any w) : Calls Try.prog 94 #[e.val] w fun x w' => ∃ v, x = .returned v ∧ Ints (fun k => w.heap.size ≤ k) w' v (needsL e) ∧ Ex w w' := by
  obtain ⟨op, a, b, tos, tv, imm⟩ := e
  obtain ⟨A, c, hav, _⟩ := Nums.open h
  simp only at hav
  subst hav
  have H := Lib.hid h
  clear h
  go_enter Try.func94, Try.ntmps94
  go_wp2_with fail
  with_reducible refine (machNeeds_spec ⟨op, a, b, tos, .slice A tos.length c, imm⟩ _ (H.out.ex ((Ex.refl w).alloc _))).mono ?_
  rintro x w1 ⟨v, rfl, hv, hx⟩
  have HV := Lib.hid hv
  have HX := Lib.hid hx
  clear hv hx
  go_wp2
  go_ret
  exact ⟨_, rfl, HV.out.imp (fun _ _ _ => rfl) (fun k hk _ => by simp at hk; omega), ((Ex.refl w).alloc _).trans HX.out⟩
end Go.Proofs.Ytikkeefhhhfmmaa
