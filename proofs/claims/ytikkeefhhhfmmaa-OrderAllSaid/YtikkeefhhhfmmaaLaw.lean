/- The frame of a law's row: a walk that returns true and turns no old block proves it; how the inputs are opened. Conditions: none. -/
import Derived.Test.YtikkeefhhhfmmaaRows
import Derived.Test.YtikkeefhhhfmmaaMachs
import Derived.WalkKit
import Derived.ProofKit
import Derived.OpenShut
import Derived.Carry
import Derived.ChangeCalls
import Derived.Deep.Slices
import Derived.Lib.SmallJoins
set_option linter.unusedVariables false
namespace Go.Proofs.Ytikkeefhhhfmmaa
open Go.ChangeShapes Go.WideShapes Go.ChangeAt Go.RowKit

theorem Try.own : ownKnob Try.prog.godebug = none := by kernel_rfl
theorem Try.laidOut : laidOutB Try.prog = true := by kernel_rfl
theorem Try.cellsInt : Try.prog.cellsOf 3 = 1 := by kernel_rfl
theorem Try.cellsI32 : Try.prog.cellsOf 21 = 1 := by kernel_rfl
theorem Try.cellsInts : Try.prog.cellsOf 22 = 1 := by kernel_rfl
theorem Try.cellsMach : Try.prog.cellsOf 24 = 8 := by kernel_rfl

section
variable {H : Type} {enc : TypeId × Value → H}
theorem trodAll_below {P : Program} (hP : laidOutB P = true) {W W' : World} (hb : Below W.heap.size W W') : ∀ {ts : List TypeId} {vs : List Value} {ds : List (DataW H)} {ps : List MemPlace}, (ts.all fun t => P.readableRec t && decide (t < P.types.size)) = true → (∀ x ∈ ps, x.block < W.heap.size) →
    DataW.TrodAll enc P W 0 (fun _ => true) true ts vs ds ps → DataW.TrodAll enc P W' 0 (fun b => decide (b < W.heap.size)) true ts vs ds ps
  | [], [], [], _, _, _, h => h
  | t :: ts, _ :: _, _ :: _, _, hT, hlt, ⟨p, q, h1, h2, e⟩ => by
    simp only [List.all_cons, Bool.and_eq_true, decide_eq_true_eq] at hT
    subst e
    exact ⟨p, q, Below.trod hP hT.1.1 hT.1.2 h1 hb (fun x hx => hlt x (List.mem_append_left _ hx)), trodAll_below hP hb hT.2 (fun x hx => hlt x (List.mem_append_right _ hx)) h2, rfl⟩

/-- What a call of a law leaves behind is what its row says. -/
theorem law_post {f : Func} {s : ChangeSpec} {W W' : World} {args : Array Value} {ds gs : List (DataW H)} {before : List MemPlace} (hvars : s.vars = []) (hr : f.resultTypes = #[4])
    (hT : (f.params.toList.all fun t => Try.prog.readableRec t && decide (t < Try.prog.types.size)) = true)
    (hs : ∀ ds : List (DataW H), ds.length = f.params.toList.length → (s.fn H (ds ++ [])).results = [.lit (.bool true)] ∧ (s.fn H (ds ++ [])).args = ds ∧ (s.fn H (ds ++ [])).vars = [])
    (hW : DataW.Whole enc Try.prog f.params.toList s.vars false W args.toList ds gs before) (hb : Below W.heap.size W W') :
    s.post enc Try.prog f false true false false W args (.bool true) W' := by
  have hW' := hW
  obtain ⟨p, q, hA, hV, rfl, hfz, hnd⟩ := hW
  rw [hvars] at hV
  obtain ⟨rfl, rfl⟩ := trodVars_none hV
  have hlen := (trodAll_length hA).2
  obtain ⟨e1, e2, e3⟩ := hs ds hlen
  have hlt : ∀ x ∈ p, x.block < W.heap.size := fun x hx => hW'.lt x (List.mem_append_left _ hx)
  refine ⟨ds, [], p ++ [], [], p, [], hW', ?_, ?_, ?_, hb.frame _, fun h => by cases h⟩
  · rw [e1, hr]
    exact trodAll_mk1 (shut_bool Try.underlying4 _)
  · rw [e2]
    exact trodAll_below Try.laidOut hb hT hlt hA
  · rw [e3, hvars]
    rfl

/-- A slice that came in: as long as it may be. -/
def Raw (w : World) (sz : Nat) (v : Value) (n : Nat) (cs : List Value) : Prop := ∃ A c, v = .slice A n c ∧ n ≤ c ∧ c ≤ maxLen ∧ cs.length = n * sz ∧ RowAt any w A cs
theorem Raw.ex {w w' : World} {sz : Nat} {v : Value} {n : Nat} {cs : List Value} (h : Raw w sz v n cs) (hb : Ex w w') : Raw w' sz v n cs := by
  obtain ⟨A, c, e, h1, h2, h3, h4⟩ := h
  exact ⟨A, c, e, h1, h2, h3, h4.imp (fun k _ hk => hb.block k hk) (fun _ hk _ => hk)⟩
def RawInts (w : World) (v : Value) (xs : List Int) : Prop := Raw w 1 v xs.length (xs.map (.int .i64)) ∧ ∀ x ∈ xs, (Lit.int .i64 x).wf = true
theorem RawInts.ex {w w' : World} {v : Value} {xs : List Int} (h : RawInts w v xs) (hb : Ex w w') : RawInts w' v xs := ⟨h.1.ex hb, h.2⟩

theorem open_raw_ints {w : World} {base fuel : Nat} {cs : List Value} {x : DataW H × List MemPlace} (h : DataW.trod enc Try.prog w base (fun _ => true) true fuel 22 cs = some x) :
    ∃ v xs, cs = [v] ∧ RawInts w v xs := by
  rcases open_ints Try.underlying22 Try.underlying3 Try.cellsInt h with ⟨rfl, _⟩ | ⟨a, len, cap, zs, rfl, _, h1, h2, h3, _, hc, hw⟩
  · exact ⟨_, [], rfl, ⟨none, 0, rfl, Nat.le_refl _, Nat.zero_le _, rfl, .inl rfl⟩, by simp⟩
  · simp only [if_true] at h3
    have hl : (zs.take len).length = len := by rw [List.length_take]; omega
    refine ⟨_, zs.take len, rfl, ⟨some a, cap, by rw [hl], by rw [hl]; exact h1, h2, by simp, ?_⟩, fun x hx => hw x (List.mem_of_mem_take hx)⟩
    by_cases h0 : len = 0
    · left; subst h0; simp
    · right
      obtain ⟨b, off, spot⟩ := a
      have hspot : spot = none := by simpa [Addr.add] using World.cell?_spot (hc 0 (by omega))
      subst hspot
      refine ⟨b, off, rfl, trivial, fun j u hu => ?_⟩
      simp only [List.getElem?_map, Option.map_eq_some_iff] at hu
      obtain ⟨z, hz, rfl⟩ := hu
      have hj : j < len := by
        have := (List.getElem?_eq_some_iff.1 hz).1
        omega
      have hz' : zs.getD j 0 = z := by
        rw [List.getElem?_take, if_pos hj] at hz
        simp [List.getD, hz]
      have := hc j (by omega)
      rw [hz'] at this
      rwa [show (⟨b, off, none⟩ : Addr).add j = ⟨b, off + j, none⟩ by unfold Addr.add; split <;> simp_all] at this

/-- An instruction that came in. -/
def RawMach (w : World) (m : Mach) : Prop := m.word ∧ RawInts w m.av m.args
theorem RawMach.ex {w w' : World} {m : Mach} (h : RawMach w m) (hb : Ex w w') : RawMach w' m := ⟨h.1, h.2.ex hb⟩
set_option maxRecDepth 100000 in
theorem open_raw_mach {w : World} {base fuel : Nat} {cs : List Value} {x : DataW H × List MemPlace} (h : DataW.trod enc Try.prog w base (fun _ => true) true fuel 24 cs = some x) :
    ∃ m : Mach, cs = m.cells ∧ RawMach w m := by
  obtain ⟨xs, n, _, _, hl, hlen, hf⟩ := DataW.trod_struct Try.underlying24 h
  rw [Try.cellsMach] at hl
  have h8 : ∃ c0 c1 c2 c3 c4 c5 c6 c7, cs = [c0, c1, c2, c3, c4, c5, c6, c7] := by
    match cs, hl with
    | [c0, c1, c2, c3, c4, c5, c6, c7], _ => exact ⟨c0, c1, c2, c3, c4, c5, c6, c7, rfl⟩
  obtain ⟨c0, c1, c2, c3, c4, c5, c6, c7, rfl⟩ := h8
  have hx : ∀ i, i < 8 → ∃ y, xs[i]? = some y := fun i hi => ⟨xs[i]'(by rw [hlen]; exact hi), List.getElem?_eq_getElem _⟩
  obtain ⟨y0, k0⟩ := hx 0 (by decide)
  have g0 : DataW.trod enc Try.prog w base (fun _ => true) true n 3 [c0] = some y0 := by
    have h := hf 0 _ rfl
    rw [k0] at h
    rw [← h]
    show _ = DataW.trod enc Try.prog w base (fun _ => true) true n 3 (List.take (Try.prog.cellsOf 3) (List.drop 0 [c0, c1, c2, c3, c4, c5, c6, c7]))
    rw [Try.cellsInt]
    rfl
  obtain ⟨y1, k1⟩ := hx 1 (by decide)
  have g1 : DataW.trod enc Try.prog w base (fun _ => true) true n 3 [c1] = some y1 := by
    have h := hf 1 _ rfl
    rw [k1] at h
    rw [← h]
    show _ = DataW.trod enc Try.prog w base (fun _ => true) true n 3 (List.take (Try.prog.cellsOf 3) (List.drop 1 [c0, c1, c2, c3, c4, c5, c6, c7]))
    rw [Try.cellsInt]
    rfl
  obtain ⟨y2, k2⟩ := hx 2 (by decide)
  have g2 : DataW.trod enc Try.prog w base (fun _ => true) true n 3 [c2] = some y2 := by
    have h := hf 2 _ rfl
    rw [k2] at h
    rw [← h]
    show _ = DataW.trod enc Try.prog w base (fun _ => true) true n 3 (List.take (Try.prog.cellsOf 3) (List.drop 2 [c0, c1, c2, c3, c4, c5, c6, c7]))
    rw [Try.cellsInt]
    rfl
  obtain ⟨y3, k3⟩ := hx 3 (by decide)
  have g3 : DataW.trod enc Try.prog w base (fun _ => true) true n 3 [c3] = some y3 := by
    have h := hf 3 _ rfl
    rw [k3] at h
    rw [← h]
    show _ = DataW.trod enc Try.prog w base (fun _ => true) true n 3 (List.take (Try.prog.cellsOf 3) (List.drop 3 [c0, c1, c2, c3, c4, c5, c6, c7]))
    rw [Try.cellsInt]
    rfl
  obtain ⟨y4, k4⟩ := hx 4 (by decide)
  have g4 : DataW.trod enc Try.prog w base (fun _ => true) true n 3 [c4] = some y4 := by
    have h := hf 4 _ rfl
    rw [k4] at h
    rw [← h]
    show _ = DataW.trod enc Try.prog w base (fun _ => true) true n 3 (List.take (Try.prog.cellsOf 3) (List.drop 4 [c0, c1, c2, c3, c4, c5, c6, c7]))
    rw [Try.cellsInt]
    rfl
  obtain ⟨y5, k5⟩ := hx 5 (by decide)
  have g5 : DataW.trod enc Try.prog w base (fun _ => true) true n 3 [c5] = some y5 := by
    have h := hf 5 _ rfl
    rw [k5] at h
    rw [← h]
    show _ = DataW.trod enc Try.prog w base (fun _ => true) true n 3 (List.take (Try.prog.cellsOf 3) (List.drop 5 [c0, c1, c2, c3, c4, c5, c6, c7]))
    rw [Try.cellsInt]
    rfl
  obtain ⟨y6, k6⟩ := hx 6 (by decide)
  have g6 : DataW.trod enc Try.prog w base (fun _ => true) true n 21 [c6] = some y6 := by
    have h := hf 6 _ rfl
    rw [k6] at h
    rw [← h]
    show _ = DataW.trod enc Try.prog w base (fun _ => true) true n 21 (List.take (Try.prog.cellsOf 21) (List.drop 6 [c0, c1, c2, c3, c4, c5, c6, c7]))
    rw [Try.cellsI32]
    rfl
  obtain ⟨y7, k7⟩ := hx 7 (by decide)
  have g7 : DataW.trod enc Try.prog w base (fun _ => true) true n 22 [c7] = some y7 := by
    have h := hf 7 _ rfl
    rw [k7] at h
    rw [← h]
    show _ = DataW.trod enc Try.prog w base (fun _ => true) true n 22 (List.take (Try.prog.cellsOf 22) (List.drop 7 [c0, c1, c2, c3, c4, c5, c6, c7]))
    rw [Try.cellsInts]
    rfl
  clear hf hx hlen
  obtain ⟨n0, e0, _, _⟩ := DataW.trod_int Try.underlying3 g0
  obtain ⟨n1, e1, _, _⟩ := DataW.trod_int Try.underlying3 g1
  obtain ⟨n2, e2, _, _⟩ := DataW.trod_int Try.underlying3 g2
  obtain ⟨n3, e3, _, _⟩ := DataW.trod_int Try.underlying3 g3
  obtain ⟨n4, e4, _, _⟩ := DataW.trod_int Try.underlying3 g4
  obtain ⟨n5, e5, _, _⟩ := DataW.trod_int Try.underlying3 g5
  obtain ⟨n6, e6, _, hw⟩ := DataW.trod_int Try.underlying21 g6
  obtain ⟨v, ys, e7, hr⟩ := open_raw_ints g7
  simp only [List.cons.injEq, and_true] at e0 e1 e2 e3 e4 e5 e6 e7
  subst e0 e1 e2 e3 e4 e5 e6 e7
  refine ⟨⟨n0, n1, n2, n3, n4, n5, n6, ys, c7⟩, rfl, ?_, hr⟩
  have := bounds_i32 hw
  exact this
set_option maxRecDepth 100000 in
theorem arg_ints {W : World} {base : Nat} {v : Value} {d : DataW H} {p : List MemPlace} (hv : Value.okWide Try.prog W .any base 22 v) (h : DataW.Trod enc Try.prog W 0 (fun _ => true) true 22 v d p) : ∃ xs, RawInts W v xs := by
  obtain ⟨a, len, cap, rfl⟩ := okWide_slice Try.underlying22 hv
  obtain ⟨fuel, hf⟩ := h
  obtain ⟨v, xs, e, hr⟩ := open_raw_ints hf
  simp only [Value.cells, List.cons.injEq, and_true] at e
  subst e
  exact ⟨xs, hr⟩
set_option maxRecDepth 100000 in
theorem arg_mach {W : World} {base : Nat} {v : Value} {d : DataW H} {p : List MemPlace} (hv : Value.okWide Try.prog W .any base 24 v) (h : DataW.Trod enc Try.prog W 0 (fun _ => true) true 24 v d p) : ∃ m : Mach, v = m.val ∧ RawMach W m := by
  obtain ⟨cs, rfl, hsz⟩ := okWide_struct Try.underlying24 hv
  obtain ⟨fuel, hf⟩ := h
  obtain ⟨m, e, hr⟩ := open_raw_mach hf
  refine ⟨m, ?_, hr⟩
  have he : cs = m.cells.toArray := by
    have : cs.toList = m.cells := by simpa [Value.cells] using e
    rw [← this]
  rw [he]
  rfl
end
end Go.Proofs.Ytikkeefhhhfmmaa
