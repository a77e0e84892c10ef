/-
  Contracts of the document's Shape, Holds of classes.
-/
import Derived.Test.YtlmeponoadhheaaRefClass2
namespace Go.Proofs.Ytlmeponoadhheaa
set_option linter.unusedVariables false
open Go.RowKit

set_option maxHeartbeats 400000 in
theorem rshape_no (D : Nat → Prop) (v : Value) (cs : List Cls) (n l : Int) (w : World) (hv : SeesC D w v cs) (hn : ¬ (1 ≤ n ∧ n ≤ cs.length)) :
    Calls Try.prog 106 #[v, .int .i64 n, .int .i64 l] w fun e w' => e = .returned (.tuple #[.int .i64 0, .int .i64 0, .int .i64 4]) ∧ Ch0 w w' := by
  obtain ⟨a, c, rfl, hl⟩ := hv.len
  clear hv
  by_cases h1 : n < 1
  · clear hn
    go_enter Try.func106, Try.ntmps106
    go_wp2
    go_ret3
    exact ⟨rfl, Ch.refl _ _⟩
  · have h2 : (cs.length : Int) < n := by omega
    clear hn
    go_enter Try.func106, Try.ntmps106
    go_wp2
    go_ret3
    exact ⟨rfl, Ch.refl _ _⟩

set_option maxHeartbeats 1000000 in
theorem rshape_yes (D : Nat → Prop) (v : Value) (cs : List Cls) (i : Nat) (hi : i < cs.length) (l : Int) (w : World) (hv : SeesC D w v cs) (hr : cs[i].right) (hcs : cs.length < 64) :
    Calls Try.prog 106 #[v, .int .i64 (i + 1), .int .i64 l] w fun e w' =>
      e = .returned (.tuple #[.int .i64 (shape1 cs[i] l).1, .int .i64 (shape1 cs[i] l).2.1, .int .i64 (shape1 cs[i] l).2.2]) ∧ Ch0 w w' := by
  obtain ⟨g, o, c', hg, rfl, hcells⟩ := SeesC.cells hv (by omega)
  obtain ⟨m0, m1, m2, m3⟩ := hcells i hi
  clear hv hcells
  obtain ⟨hs1, hs2, hs3⟩ := right_small hr
  clear hr
  generalize cs[i] = cc at *
  obtain ⟨k, r, d, f⟩ := cc
  simp only at m0 m1 m2 m3 hs1 hs2 hs3
  by_cases h0 : l < 0
  · have e1 : shape1 ⟨k, r, d, f⟩ l = (0, 0, 1) := by unfold shape1; rw [if_pos (.inl h0)]
    rw [e1]
    clear e1
    go_enter Try.func106, Try.ntmps106
    go_wp2
    go_ret3
    exact ⟨rfl, (Ch.refl _ _).alloc _⟩
  · by_cases hl0 : l = 0
    · subst hl0
      have e1 : shape1 ⟨k, r, d, f⟩ 0 = (r, d, 0) := by unfold shape1; rw [if_neg (by simp), if_neg (by omega)]; simp
      rw [e1]
      clear e1
      go_enter Try.func106, Try.ntmps106
      go_wp2
      have q1 : IntKind.i64.wrap r = r := IntWalk.i64_in _ (by omega)
      have q2 : IntKind.i64.wrap (r + 0) = r := by rw [Int.add_zero]; exact q1
      go_quiet (fail)
      clear q1 q2
      go_wp2_with fail
      go_ret3
      exact ⟨by simp, ((Ch.refl _ _).alloc _).drewN _⟩
    · have hln : (l != 0) = true := bne_iff_ne.2 hl0
      by_cases hk : k = 2
      · subst hk
        by_cases h30 : 30 < l
        · have e1 : shape1 ⟨2, r, d, f⟩ l = (0, 0, 8) := by unfold shape1; rw [if_neg (by simp; omega), if_pos h30]
          rw [e1]
          clear e1 hl0
          go_enter Try.func106, Try.ntmps106
          go_wp2
          go_ret3
          exact ⟨rfl, (Ch.refl _ _).alloc _⟩
        · have e1 : shape1 ⟨2, r, d, f⟩ l = (r + l, d, 0) := by unfold shape1; rw [if_neg (by simp; omega), if_neg h30]
          rw [e1]
          clear e1 hl0
          go_enter Try.func106, Try.ntmps106
          go_wp2
          have q1 : IntKind.i64.wrap (r + l) = r + l := IntWalk.i64_in _ (by omega)
          go_quiet (fail)
          clear q1
          go_wp2_with fail
          go_ret3
          exact ⟨rfl, ((Ch.refl _ _).alloc _).drewN _⟩
      · have hk' : (k != 2) = true := bne_iff_ne.2 hk
        have e1 : shape1 ⟨k, r, d, f⟩ l = (0, 0, 1) := by unfold shape1; rw [if_pos (.inr ⟨by omega, hk⟩)]
        rw [e1]
        clear e1 hk hl0
        go_enter Try.func106, Try.ntmps106
        go_wp2
        go_ret3
        exact ⟨rfl, (Ch.refl _ _).alloc _⟩

theorem rshape_any (D : Nat → Prop) (v : Value) (cs : List Cls) (n l : Int) (w : World) (hv : SeesC D w v cs) (hr : allRight cs = true) (hcs : cs.length < 64) :
    Calls Try.prog 106 #[v, .int .i64 n, .int .i64 l] w fun e w' =>
      e = .returned (.tuple #[.int .i64 (shapeC cs n l).1, .int .i64 (shapeC cs n l).2.1, .int .i64 (shapeC cs n l).2.2]) ∧ Ch0 w w' := by
  unfold shapeC
  by_cases hn : 1 ≤ n ∧ n ≤ cs.length
  · rw [dif_pos hn]
    obtain ⟨i, rfl⟩ : ∃ i : Nat, n = (i : Int) + 1 := ⟨(n - 1).toNat, by omega⟩
    have hi' : i < cs.length := by omega
    have := rshape_yes D v cs i hi' l w hv (allRight_get hr i hi') hcs
    simpa [show ((i : Int) + 1 - 1).toNat = i by omega] using this
  · rw [dif_neg hn]
    exact rshape_no D v cs n l w hv hn

end Go.Proofs.Ytlmeponoadhheaa
