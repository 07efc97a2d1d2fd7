/- mach.kindOf: which functions tell what an instruction takes and makes; those functions. Conditions: none. -/
import Derived.Test.YtikkeefhhhfmmaaMapLit
import Derived.Test.YtikkeefhhhfmmaaSl
import Derived.Laws.EntriesVeiled
set_option linter.unusedVariables false
set_option linter.unusedSimpArgs false
namespace Go.Proofs.Ytikkeefhhhfmmaa
open Go.RowKit Go.Instr

/-- An instruction; av: the value of its Args. -/
structure Mach where
  op : Int
  d : Int
  e : Int
  a : Int
  b : Int
  c : Int
  imm : Int
  args : List Int
  av : Value
def Mach.cells (m : Mach) : List Value := [.int .i64 m.op, .int .i64 m.d, .int .i64 m.e, .int .i64 m.a, .int .i64 m.b, .int .i64 m.c, .int .i32 m.imm, m.av]
abbrev Mach.val (m : Mach) : Value := .agg #[.int .i64 m.op, .int .i64 m.d, .int .i64 m.e, .int .i64 m.a, .int .i64 m.b, .int .i64 m.c, .int .i32 m.imm, m.av]
/-- What an instruction leads to reads as it says. -/
def Mach.ok (ok : Nat → Prop) (w : World) (m : Mach) : Prop := Ints ok w m.av m.args
theorem Mach.ok.ex {ok : Nat → Prop} {w w' : World} {m : Mach} (h : m.ok ok w) (hb : Ex w w') : m.ok ok w' := Nums.ex h hb

/-- Which fields: 0 none, 1 D, 2 A, 3 A B, 4 A B C, 5 Args, 6 D E. -/
def fieldsOf (n : Nat) (m : Mach) : List Int := match n with
  | 1 => [m.d]
  | 2 => [m.a]
  | 3 => [m.a, m.b]
  | 4 => [m.a, m.b, m.c]
  | 5 => m.args
  | 6 => [m.d, m.e]
  | _ => []
def fnOf (n : Nat) : Nat := match n with
  | 1 => 132
  | 2 => 133
  | 3 => 134
  | 4 => 135
  | 5 => 136
  | 6 => 138
  | _ => 131
def kt (op : Int) : Nat :=
  if op = 1 then 2 else if op = 2 then 3 else if op = 3 then 0 else if op = 4 then 0 else if op = 23 then 4 else if op = 24 then 2 else if op = 25 then 3 else if op = 26 then 3 else if op = 27 then 4 else if op = 28 then 5 else if op = 29 then 3 else if op = 30 then 0 else if op = 31 then 2
  else if 5 ≤ op ∧ op ≤ 17 then 3 else if 18 ≤ op ∧ op ≤ 22 then 2 else 0
def km (op : Int) : Nat :=
  if op = 1 then 1 else if op = 2 then 3 else if op = 3 then 1 else if op = 4 then 1 else if op = 23 then 1 else if op = 24 then 1 else if op = 25 then 1 else if op = 26 then 0 else if op = 27 then 0 else if op = 28 then 1 else if op = 29 then 6 else if op = 30 then 1 else if op = 31 then 0
  else if 5 ≤ op ∧ op ≤ 17 then 1 else if 18 ≤ op ∧ op ≤ 22 then 1 else 0
def fnVal (n : Nat) : Value := .func (.func n) #[] #[]
def known (op : Int) : Bool := op == 1 || op == 2 || op == 3 || op == 4 || op == 23 || op == 24 || op == 25 || op == 26 || op == 27 || op == 28 || op == 29 || op == 30 || op == 31

theorem kind_cases (op : Int) : (op = 1 ∨ op = 2 ∨ op = 3 ∨ op = 4 ∨ op = 23 ∨ op = 24 ∨ op = 25 ∨ op = 26 ∨ op = 27 ∨ op = 28 ∨ op = 29 ∨ op = 30 ∨ op = 31) ∨ (¬ op = 1 ∧ ¬ op = 2 ∧ ¬ op = 3 ∧ ¬ op = 4 ∧ ¬ op = 23 ∧ ¬ op = 24 ∧ ¬ op = 25 ∧ ¬ op = 26 ∧ ¬ op = 27 ∧ ¬ op = 28 ∧ ¬ op = 29 ∧ ¬ op = 30 ∧ ¬ op = 31) := by
  omega

abbrev kindTable : Array MapEntry := #[
  ⟨.int .i64 1, .agg #[.func (.func 133) #[] #[], .func (.func 132) #[] #[]], 0⟩,
  ⟨.int .i64 2, .agg #[.func (.func 134) #[] #[], .func (.func 134) #[] #[]], 1⟩,
  ⟨.int .i64 3, .agg #[.func (.func 131) #[] #[], .func (.func 132) #[] #[]], 2⟩,
  ⟨.int .i64 4, .agg #[.func (.func 131) #[] #[], .func (.func 132) #[] #[]], 3⟩,
  ⟨.int .i64 23, .agg #[.func (.func 135) #[] #[], .func (.func 132) #[] #[]], 4⟩,
  ⟨.int .i64 24, .agg #[.func (.func 133) #[] #[], .func (.func 132) #[] #[]], 5⟩,
  ⟨.int .i64 25, .agg #[.func (.func 134) #[] #[], .func (.func 132) #[] #[]], 6⟩,
  ⟨.int .i64 26, .agg #[.func (.func 134) #[] #[], .func (.func 131) #[] #[]], 7⟩,
  ⟨.int .i64 27, .agg #[.func (.func 135) #[] #[], .func (.func 131) #[] #[]], 8⟩,
  ⟨.int .i64 28, .agg #[.func (.func 136) #[] #[], .func (.func 132) #[] #[]], 9⟩,
  ⟨.int .i64 29, .agg #[.func (.func 134) #[] #[], .func (.func 138) #[] #[]], 10⟩,
  ⟨.int .i64 30, .agg #[.func (.func 131) #[] #[], .func (.func 132) #[] #[]], 11⟩,
  ⟨.int .i64 31, .agg #[.func (.func 133) #[] #[], .func (.func 131) #[] #[]], 12⟩]

theorem table_known (op : Int) (h : op = 1 ∨ op = 2 ∨ op = 3 ∨ op = 4 ∨ op = 23 ∨ op = 24 ∨ op = 25 ∨ op = 26 ∨ op = 27 ∨ op = 28 ∨ op = 29 ∨ op = 30 ∨ op = 31) :
    entryOf op kindTable.toList = some (.agg #[.func (.func (fnOf (kt op))) #[] #[], .func (.func (fnOf (km op))) #[] #[]]) := by
  rcases h with rfl | rfl | rfl | rfl | rfl | rfl | rfl | rfl | rfl | rfl | rfl | rfl | rfl <;> rfl
theorem table_unknown (op : Int) (h : ¬ op = 1 ∧ ¬ op = 2 ∧ ¬ op = 3 ∧ ¬ op = 4 ∧ ¬ op = 23 ∧ ¬ op = 24 ∧ ¬ op = 25 ∧ ¬ op = 26 ∧ ¬ op = 27 ∧ ¬ op = 28 ∧ ¬ op = 29 ∧ ¬ op = 30 ∧ ¬ op = 31) : entryOf op kindTable.toList = none := by
  obtain ⟨h1, h2, h3, h4, h5, h6, h7, h8, h9, h10, h11, h12, h13⟩ := h
  simp only [entryOf]
  simp only [Ne.symm h1, Ne.symm h2, Ne.symm h3, Ne.symm h4, Ne.symm h5, Ne.symm h6, Ne.symm h7, Ne.symm h8, Ne.symm h9, Ne.symm h10, Ne.symm h11, Ne.symm h12, Ne.symm h13, if_false, eq_comm (b := op)]

theorem Try.zero_kind : ∀ w, (zeroValue 156).run Try.prog w = .ok (.agg #[.nilFunc, .nilFunc]) w := fun w => by kernel_rfl

attribute [local simp] entryOf intKeys
set_option maxRecDepth 100000 in
set_option maxHeartbeats 2000000 in
theorem kindOf_spec (op : Int) (w : World) : Calls Try.prog 105 #[.int .i64 op] w fun e w' =>
    e = .returned (.agg #[.func (.func (fnOf (kt op))) #[] #[], .func (.func (fnOf (km op))) #[] #[]]) ∧ Ex w w' := by
  have hmm := @run_makeMap Try.prog
  have hmu := fun es c k x h => run_mapUpdate_new (P := Try.prog) (T := 200) Try.underlying200 Try.underlying3 (w.alloc (.cells #[.nilFunc, .nilFunc] 156)) es c k x h
  simp only [World.size_alloc] at hmu
  have hlk := run_lookup_ok (P := Try.prog) (T := 200) Try.underlying200 Try.underlying3 _ Try.zero_kind ((w.alloc (.cells #[.nilFunc, .nilFunc] 156)).alloc (.map kindTable 13)) (w.heap.size + 1) kindTable 13 op (by simpa using heap_alloc_new (w.alloc (.cells #[.nilFunc, .nilFunc] 156)) (.map kindTable 13)) (by kernel_rfl)
  rcases kind_cases op with h | h
  · rw [table_known op h] at hlk
    simp only [Option.getD_some, Option.isSome_some] at hlk
    clear h
    generalize fnOf (kt op) = f1 at *
    generalize fnOf (km op) = f2 at *
    go_enter Try.func105, Try.ntmps105
    go_wp2
    go_returns
    exact ⟨rfl, by go_grown⟩
  · rw [table_unknown op h] at hlk
    simp only [Option.getD_none, Option.isSome_none] at hlk
    obtain ⟨h1, h2, h3, h4, h5, h6, h7, h8, h9, h10, h11, h12, h13⟩ := h
    by_cases k1 : 5 ≤ op ∧ op ≤ 17
    · obtain ⟨k1, k2⟩ := k1
      have e1 : kt op = 3 := by unfold kt; simp only [h1, h2, h3, h4, h5, h6, h7, h8, h9, h10, h11, h12, h13, if_false]; rw [if_pos ⟨k1, k2⟩]
      have e2 : km op = 1 := by unfold km; simp only [h1, h2, h3, h4, h5, h6, h7, h8, h9, h10, h11, h12, h13, if_false]; rw [if_pos ⟨k1, k2⟩]
      rw [e1, e2]
      clear e1 e2 h1 h2 h3 h4 h5 h6 h7 h8 h9 h10 h11 h12 h13
      go_enter Try.func105, Try.ntmps105
      go_wp2
      go_returns
      exact ⟨rfl, by go_grown⟩
    · by_cases k2 : 18 ≤ op ∧ op ≤ 22
      · have e1 : kt op = 2 := by unfold kt; simp only [h1, h2, h3, h4, h5, h6, h7, h8, h9, h10, h11, h12, h13, if_false]; rw [if_neg k1, if_pos k2]
        have e2 : km op = 1 := by unfold km; simp only [h1, h2, h3, h4, h5, h6, h7, h8, h9, h10, h11, h12, h13, if_false]; rw [if_neg k1, if_pos k2]
        rw [e1, e2]
        obtain ⟨k3, k4⟩ := k2
        clear k1 e1 e2 h1 h2 h3 h4 h5 h6 h7 h8 h9 h10 h11 h12 h13
        go_enter Try.func105, Try.ntmps105
        go_wp2
        go_returns
        exact ⟨rfl, by go_grown⟩
      · have e1 : kt op = 0 := by unfold kt; simp only [h1, h2, h3, h4, h5, h6, h7, h8, h9, h10, h11, h12, h13, if_false]; rw [if_neg k1, if_neg k2]
        have e2 : km op = 0 := by unfold km; simp only [h1, h2, h3, h4, h5, h6, h7, h8, h9, h10, h11, h12, h13, if_false]; rw [if_neg k1, if_neg k2]
        rw [e1, e2]
        have k3 : op ≤ 0 ∨ 32 ≤ op := by omega
        clear k1 k2 e1 e2 h1 h2 h3 h4 h5 h6 h7 h8 h9 h10 h11 h12 h13
        rcases k3 with k3 | k3
        all_goals
          go_enter Try.func105, Try.ntmps105
          go_wp2
          go_returns
          exact ⟨rfl, by go_grown⟩

/-- A literal of a few numbers, newly laid. -/
theorem lit_ints {w W : World} (xs : List Int) (hx : xs.length ≤ 17592186044416) (hW : Ex w W) {B n : Nat} (hB : W.heap.size = B) (hn : n = xs.length) :
    Ints (fun k => w.heap.size ≤ k) (W.alloc (.cells (xs.map (.int .i64)).toArray 3)) (.slice (some ⟨B, 0, none⟩) n n) xs := by
  subst hB hn
  have := World.ownsRow_lit (base := w.heap.size) (e := 3) (size := 1) W (xs.map (.int .i64)).toArray xs.length hW.size (by unfold maxLen; omega) (by simp)
  exact Row.fresh this hx

/-- The functions of a kind answer its fields. -/
theorem fn_spec (n : Nat) (hn : n ≤ 6) (m : Mach) (w : World) (h : m.ok any w) :
    Calls Try.prog (fnOf n) #[m.val] w fun e w' => ∃ v, e = .returned v ∧ Ints (fun k => w.heap.size ≤ k) w' v (fieldsOf n m) ∧ Ex w w' := by
  obtain ⟨op, d, e, a, b, c, imm, args, av⟩ := m
  have H : Hid (Ints any w av args) := h
  clear h
  match n, hn with
  | 0, _ =>
    go_enter Try.func131, Try.ntmps131
    go_wp2
    go_ret
    exact ⟨_, rfl, Nums.nil _ _ _, by go_grown⟩
  | 1, _ =>
    go_enter Try.func132, Try.ntmps132
    go_wp2
    go_ret
    exact ⟨_, rfl, lit_ints [d] (by simp) (by go_grown) (by simp) rfl, by go_grown⟩
  | 2, _ =>
    go_enter Try.func133, Try.ntmps133
    go_wp2
    go_ret
    exact ⟨_, rfl, lit_ints [a] (by simp) (by go_grown) (by simp) rfl, by go_grown⟩
  | 3, _ =>
    go_enter Try.func134, Try.ntmps134
    go_wp2
    go_ret
    exact ⟨_, rfl, lit_ints [a, b] (by simp) (by go_grown) (by simp) rfl, by go_grown⟩
  | 4, _ =>
    go_enter Try.func135, Try.ntmps135
    go_wp2
    go_ret
    exact ⟨_, rfl, lit_ints [a, b, c] (by simp) (by go_grown) (by simp) rfl, by go_grown⟩
  | 5, _ =>
    go_enter Try.func136, Try.ntmps136
    go_wp2_with (go_at_call 137; go_must (refine (clone_spec av args _ (H.out.ex ((Ex.refl _).alloc _))).mono ?_); rintro e w1 ⟨v, rfl, hv, hex⟩; have HV := Lib.hid hv; have HX := Lib.hid hex; clear hv hex)
    go_ret
    exact ⟨_, rfl, HV.out.imp (fun _ _ _ => rfl) (fun k hk _ => by simp at hk; omega), ((Ex.refl w).alloc _).trans HX.out⟩
  | 6, _ =>
    go_enter Try.func138, Try.ntmps138
    go_wp2
    go_ret
    exact ⟨_, rfl, lit_ints [d, e] (by simp) (by go_grown) (by simp) rfl, by go_grown⟩
end Go.Proofs.Ytikkeefhhhfmmaa
