/- order.Orders: walks. Conditions: none. -/
import Derived.Test.YtikkeefhhhfmmaaMemo
import Derived.Test.YtikkeefhhhfmmaaDep
set_option linter.unusedVariables false
namespace Go.Proofs.Ytikkeefhhhfmmaa
open Go.RowKit Go.Instr

/-- What the counting function leads to. -/
structure OEnv (D : Nat → Nat → Bool) (n bm b1 b2 b3 b4 : Nat) (A : Option Addr) (c : Nat) (w : World) : Prop where
  memo : Memo D n bm w
  h1 : w.cell? ⟨b1, 0, none⟩ = some (.map (some bm))
  h2 : w.cell? ⟨b2, 0, none⟩ = some (.slice A n c)
  h3 : ∃ vb, w.cell? ⟨b3, 0, none⟩ = some vb ∧ Ints (fun b => b ≠ bm) w vb ((List.range n).map fun i => (behind D i i : Int))
  h4 : w.cell? ⟨b4, 0, none⟩ = some (.func (.func 53) #[] #[.pointer (some ⟨b1, 0, none⟩), .pointer (some ⟨b2, 0, none⟩), .pointer (some ⟨b3, 0, none⟩), .pointer (some ⟨b4, 0, none⟩)])
theorem Memo.cell {D : Nat → Nat → Bool} {n bm : Nat} {w : World} (h : Memo D n bm w) (o : Nat) : w.cell? ⟨bm, o, none⟩ = none := by
  obtain ⟨es, c, hb, _⟩ := h
  simp [World.cell?, hb]
theorem Memo.kept {D : Nat → Nat → Bool} {n bm : Nat} {w w' : World} (h : Memo D n bm w) (h' : Memo D n bm w') (hg : w.grownBy w' (some bm)) (b o : Nat) (hb : b < w.heap.size) : w'.cell? ⟨b, o, none⟩ = w.cell? ⟨b, o, none⟩ := by
  by_cases he : b = bm
  · subst he; rw [h.cell, h'.cell]
  · exact World.cell?_of_block (a := ⟨b, o, none⟩) (hg.block b hb (fun e => he (by injection e)))
theorem OEnv.step {D : Nat → Nat → Bool} {n bm b1 b2 b3 b4 : Nat} {A : Option Addr} {c : Nat} {w w' : World} (h : OEnv D n bm b1 b2 b3 b4 A c w) (h' : Memo D n bm w') (hg : w.grownBy w' (some bm)) : OEnv D n bm b1 b2 b3 b4 A c w' := by
  have hc : ∀ p v, w.cell? ⟨p, 0, none⟩ = some v → w'.cell? ⟨p, 0, none⟩ = some v := fun p v hp => (h.memo.kept h' hg p 0 (World.block_lt_of_cell? w ⟨p, 0, none⟩ hp)).trans hp
  obtain ⟨vb, hv, hI⟩ := h.h3
  exact ⟨h', hc _ _ h.h1, hc _ _ h.h2, ⟨vb, hc _ _ hv, Row.imp hI (fun k hk hlt => hg.block k hlt (fun e => hk (by injection e))) (fun _ hk _ => hk)⟩, hc _ _ h.h4⟩
theorem grownBy.trans {a b c : World} {r : Option Nat} (h : a.grownBy b r) (k : b.grownBy c r) : a.grownBy c r :=
  ⟨k.os.trans h.os, k.tape.trans h.tape, k.output.trans h.output, Nat.le_trans h.size k.size, fun i hi hne => (k.block i (Nat.lt_of_lt_of_le hi h.size) hne).trans (h.block i hi hne)⟩
theorem grownBy.refl (a : World) (r : Option Nat) : a.grownBy a r := ⟨rfl, rfl, rfl, Nat.le_refl _, fun _ _ _ => rfl⟩

def term (D : Nat → Nat → Bool) (n m : Nat) (i : Nat) : Nat := if !gone m i && free D (gone m) i then cnt D n (rem n (gone m) - 1) (with1 (gone m) i) else 0

/-- Worlds that differ in the map alone. -/
abbrev OCls (D : Nat → Nat → Bool) (n bm : Nat) (W w' : World) : Prop := (∀ b o, b < W.heap.size → w'.cell? ⟨b, o, none⟩ = W.cell? ⟨b, o, none⟩) ∧ Memo D n bm w' ∧ W.grownBy w' (some bm)
theorem OCls.drew {D : Nat → Nat → Bool} {n bm : Nat} {W w : World} (h : OCls D n bm W w) : OCls D n bm W w.drew := ⟨h.1, h.2.1, h.2.2.os, h.2.2.tape, h.2.2.output, h.2.2.size, h.2.2.block⟩
theorem OCls.refl {D : Nat → Nat → Bool} {n bm : Nat} {W : World} (h : Memo D n bm W) : OCls D n bm W W := ⟨fun _ _ _ => rfl, h, grownBy.refl _ _⟩
theorem OCls.step {D : Nat → Nat → Bool} {n bm : Nat} {W w w' : World} (h : OCls D n bm W w) (h' : Memo D n bm w' ∧ w.grownBy w' (some bm)) : OCls D n bm W w' :=
  ⟨fun b o hb => (h.2.1.kept h'.1 h'.2 b o (Nat.lt_of_lt_of_le hb h.2.2.size)).trans (h.1 b o hb), h'.1, grownBy.trans h.2.2 h'.2⟩

theorem term_val {D : Nat → Nat → Bool} {n m j : Nat} (hj : j < n) (h1 : gone m j = false) (h2 : free D (gone m) j = true) : term D n m j = val D n (m ||| 2 ^ j) := by
  have h := rem_with n (gone m) j hj h1
  unfold term val
  rw [h1, h2, gone_or, h]
  rfl
theorem val_sum {D : Nat → Nat → Bool} {n m k : Nat} (h : rem n (gone m) = k + 1) : val D n m = sumTo n (term D n m) := by
  unfold val
  rw [h]
  simp only [cnt]
  refine sumTo_congr _ _ _ fun i _ => ?_
  unfold term
  rw [h]
  rfl
theorem term_le' (D : Nat → Nat → Bool) {n : Nat} (m j : Nat) (hn : n ≤ 12) : val D n m ≤ 8916100448256 :=
  Nat.le_trans (cnt_le D n _ _) (pow_12 hn (Nat.le_trans (rem_le _ _) hn))
theorem sum_le (D : Nat → Nat → Bool) {n : Nat} (m j : Nat) (hn : n ≤ 12) (hj : j ≤ 12) : sumTo j (term D n m) ≤ 106993205379072 :=
  part_le D (gone m) hn (Nat.le_trans (Nat.sub_le _ _) (Nat.le_trans (rem_le n (gone m)) hn)) j hj
theorem or_wrap (m j : Nat) (hm : m < 2 ^ 63) (hj : j ≤ 12) : bits BinOp.or IntKind.i64 (m : Int) (IntKind.i64.wrap (2 ^ j)) = ((m ||| 2 ^ j : Nat) : Int) := by
  have h1 : 2 ^ j < 2 ^ 63 := Nat.pow_lt_pow_right (by decide) (by omega)
  have h2 : ((2 : Int) ^ j) = ((2 ^ j : Nat) : Int) := by simp
  rw [h2, wraps_i64 _ (by exact_mod_cast Nat.zero_le _) (by exact_mod_cast h1), or_nat _ _ hm h1]

theorem Try.zero_int : ∀ w, (zeroValue 3).run Try.prog w = .ok (.int .i64 0) w := fun w => by kernel_rfl

set_option maxRecDepth 100000 in
set_option maxHeartbeats 400000 in
theorem orders1_spec (D : Nat → Nat → Bool) (n : Nat) (hn : n ≤ 12) (bm b1 b2 b3 b4 : Nat) (A : Option Addr) (c : Nat) (hnc : n ≤ c) : ∀ (k m : Nat) (w : World), m < 2 ^ n → rem n (gone m) = k → OEnv D n bm b1 b2 b3 b4 A c w →
    Calls Try.prog 53 #[.int .i64 (m : Int), .pointer (some ⟨b1, 0, none⟩), .pointer (some ⟨b2, 0, none⟩), .pointer (some ⟨b3, 0, none⟩), .pointer (some ⟨b4, 0, none⟩)] w fun e w' => e = .returned (.int .i64 (val D n m : Int)) ∧ Memo D n bm w' ∧ w.grownBy w' (some bm) := by
  intro k
  induction k with
  | zero =>
    intro m w hm hk he
    obtain ⟨es, ct, hb, hg⟩ := he.memo
    have hfull := full_of_rem hm hk
    have hlk := run_lookup_ok (P := Try.prog) (T := 90) Try.underlying90 Try.underlying3 _ Try.zero_int w bm es ct (m : Int) hb hg.keys
    have h1 := he.h1
    rcases hg.entry m with h | h
    · exfalso; rw [hfull] at h; exact hg.last h
    · rw [h] at hlk
      have HE := Lib.hid he.memo
      clear hb hg h he hk hfull
      simp only [Option.getD_some, Option.isSome_some] at hlk
      go_enter Try.func53, Try.ntmps53
      go_wp2
      go_ret
      exact ⟨rfl, HE.out, grownBy.refl _ _⟩
  | succ k ih =>
    intro m w hm hk he
    have IH := Lib.hid ih
    clear ih
    obtain ⟨es, ct, hb, hg⟩ := he.memo
    have hlk := run_lookup_ok (P := Try.prog) (T := 90) Try.underlying90 Try.underlying3 _ Try.zero_int w bm es ct (m : Int) hb hg.keys
    have h1 := he.h1
    have h2 := he.h2
    rcases hg.entry m with h | h
    · rw [h] at hlk
      have HE := Lib.hid he
      have HK := Lib.hid hk
      have HM := Lib.hid hm
      clear hb hg h he hk hm
      simp only [Option.getD_none, Option.isSome_none] at hlk
      go_enter Try.func53, Try.ntmps53
      go_wp2
      go_loopw [7, 20] (fun s i wr => ∃ j : Nat, j ≤ n ∧ i = .int .i64 j ∧ s = .int .i64 (sumTo j (term D n m) : Int) ∧ OEnv D n bm b1 b2 b3 b4 A c wr ∧ w.grownBy wr (some bm)) (fun _ i _ => n - (intOf i).toNat)
      case atStart => exact ⟨0, Nat.zero_le _, rfl, rfl, HE.out, grownBy.refl _ _⟩
      case round =>
        obtain ⟨j, hj, rfl, rfl, hR, hgr⟩ := hrel
        clear h1 h2 hlk
        have h1 := hR.h1
        have h4 := hR.h4
        have HR := Lib.hid hR
        have HG := Lib.hid hgr
        clear hR hgr
        by_cases hlt : j < n
        · obtain ⟨vb, h3, hI⟩ := HR.out.h3
          obtain ⟨A3, c3, rfl, k1, k2, k3⟩ := hI.open
          have hlen : ((List.range n).map fun i => (behind D i i : Int)).length = n := by simp
          obtain ⟨b, off, rfl, hc⟩ := k3 (by rw [hlen]; omega)
          have hcj := hc j (by rw [hlen]; exact hlt)
          rw [List.getElem_map, List.getElem_range] at hcj
          rw [hlen] at h3 k1 k2
          clear hlen
          clear hI hc k3
          have hm63 : m < 2 ^ 63 := pow_lt_63 HM.out hn
          have a1 := gone_asked m j hm63
          have a2 := free_asked D m j n hlt hn
          rcases hq1 : gone m j with _ | _
          · have q1 := a1.2 hq1
            clear a1
            cases hq2 : free D (gone m) j with
            | true =>
              rw [hq2] at a2
              have Q1 := Lib.hid hq1
              have Q2 := Lib.hid hq2
              clear hq1 hq2
              obtain ⟨W, hW⟩ : ∃ W, W = wr := ⟨_, rfl⟩
              subst hW
              have hR0 := HR.out.memo
              have hb4 := World.block_lt_of_cell? W _ h4
              go_wp2
              have hor := or_wrap m j hm63 (by omega)
              have hlt' : m ||| 2 ^ j < 2 ^ n := Nat.or_lt_two_pow HM.out (Nat.pow_lt_pow_right (by decide) hlt)
              have hrk : rem n (gone (m ||| 2 ^ j)) = k := by
                have h := rem_with n (gone m) j hlt Q1.out
                have hk := HK.out
                rw [gone_or]; omega
              have IH2 : Hid (∀ w, OEnv D n bm b1 b2 b3 b4 A c w → Calls Try.prog 53 #[.int .i64 ((m ||| 2 ^ j : Nat) : Int), .pointer (some ⟨b1, 0, none⟩), .pointer (some ⟨b2, 0, none⟩), .pointer (some ⟨b3, 0, none⟩), .pointer (some ⟨b4, 0, none⟩)] w fun e w' => e = .returned (.int .i64 (val D n (m ||| 2 ^ j) : Int)) ∧ Memo D n bm w' ∧ w.grownBy w' (some bm)) :=
                fun w hw => IH.out (m ||| 2 ^ j) w hlt' hrk hw
              have hs := sum_le D m j hn (Nat.le_trans hj hn)
              have hv := term_le' D (m ||| 2 ^ j) j hn
              have hsum : sumTo (j + 1) (term D n m) = sumTo j (term D n m) + val D n (m ||| 2 ^ j) := by rw [sumTo, term_val hlt Q1.out Q2.out]
              clear hlt' hrk hm63
              generalize sumTo j (term D n m) = S at *
              generalize val D n (m ||| 2 ^ j) = V at *
              generalize m ||| 2 ^ j = M at *
              have HOR := Lib.hid hor
              have HSUM := Lib.hid hsum
              clear hor hsum
              go_region_held3 (fun w' => OCls D n bm W w') (first | exact (OCls.refl hR0).drew | exact OCls.step (by with_reducible assumption) (by with_reducible assumption)) (first | (rw [HOR.out]; with_reducible refine (IH2.out _ (HR.out.step (And.right (by with_reducible assumption : OCls D n bm W _)).1 (And.right (by with_reducible assumption : OCls D n bm W _)).2)).mono ?_; rintro e w3 ⟨rfl, hw3⟩))
              rename_i hS
              have HST := Lib.hid hS
              clear hS
              go_wp2
              go_roundw
              case rel => exact ⟨j + 1, by omega, by go_num, by rw [HSUM.out, wraps_i64 _ (by omega) (by omega)]; simp, HR.out.step HST.out.2.1 HST.out.2.2, grownBy.trans HG.out HST.out.2.2⟩
              case measure => simp [intOf]; omega
            | false =>
              rw [hq2] at a2
              have Q2 := Lib.hid hq2
              clear hq1 hq2
              go_wp2
              go_roundw
              case rel => exact ⟨j + 1, by omega, by go_num, by simp [sumTo, term, Q2.out], HR.out, HG.out⟩
              case measure => simp [intOf]; omega
          · have q1 : ¬ (bits BinOp.and IntKind.i64 (↑m / 2 ^ j) 1 = 0) := fun h => by rw [a1.1 h] at hq1; cases hq1
            clear a1 a2
            have Q2 := Lib.hid hq1
            clear hq1
            go_wp2
            go_roundw
            case rel => exact ⟨j + 1, by omega, by go_num, by simp [sumTo, term, Q2.out], HR.out, HG.out⟩
            case measure => simp [intOf]; omega
        · have he : j = n := by omega
          subst he
          obtain ⟨w', hmu, hm', hg'⟩ := memo_set (P := Try.prog) (T := 90) Try.underlying90 Try.underlying3 HR.out.memo HM.out
          rw [val_sum HK.out] at hmu
          have HM' := Lib.hid hm'
          have HG' := Lib.hid hg'
          clear hm' hg' h4
          go_wp2
          go_ret
          exact ⟨by rw [val_sum HK.out]; rfl, HM'.out, grownBy.trans HG.out HG'.out⟩
    · rw [h] at hlk
      have HE := Lib.hid he.memo
      clear hb hg h he hk
      simp only [Option.getD_some, Option.isSome_some] at hlk
      go_enter Try.func53, Try.ntmps53
      go_wp2
      go_ret
      exact ⟨rfl, HE.out, grownBy.refl _ _⟩
end Go.Proofs.Ytikkeefhhhfmmaa
