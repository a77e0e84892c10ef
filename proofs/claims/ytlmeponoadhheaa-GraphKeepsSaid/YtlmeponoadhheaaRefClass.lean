/-
  Contracts of the document's Right, New, Shape, Holds of classes.
-/
import Derived.Test.YtlmeponoadhheaaClass4
namespace Go.Proofs.Ytlmeponoadhheaa
set_option linter.unusedVariables false
open Go.RowKit

theorem rightB_eq (k r d : Int) (f : Bool) : rightB k r d f = decide (Cls.right ⟨k, r, d, f⟩) := rfl

theorem rightB_out (k r d : Int) (f : Bool) (h : r < 0 ∨ d < 0 ∨ 32 < r ∨ 32 < d) : rightB k r d f = false := by
  rw [rightB_eq]
  apply decide_eq_false
  intro q
  have := right_small q
  simp at this
  omega

theorem rightB_1 (r d : Int) (f : Bool) (h : 0 ≤ r ∧ 0 ≤ d ∧ r ≤ 32 ∧ d ≤ 32) : rightB 1 r d f = decide (2 + r + d ≤ 32) := by
  rw [rightB_eq, Bool.eq_iff_iff]
  simp only [decide_eq_true_iff, Cls.right, Cls.small]
  constructor
  · rintro (⟨_, q⟩ | ⟨q, _⟩ | ⟨q, _⟩)
    · have := q.2.2.2; omega
    · cases q
    · omega
  · intro q; exact .inl ⟨by trivial, h.1, h.2.1, by show r ≤ 30; omega, by show d ≤ 30 - r; omega⟩

theorem rightB_2 (r d : Int) (f : Bool) : rightB 2 r d f = ((r == 0) && (d == 0)) := by
  rw [rightB_eq, Bool.eq_iff_iff]
  simp [Cls.right]

theorem rightB_345 (k r d : Int) (f : Bool) (h : 0 ≤ r ∧ 0 ≤ d ∧ r ≤ 32 ∧ d ≤ 32) (hk : k = 3 ∨ k = 4 ∨ k = 5) : rightB k r d f = (decide (2 + r + d ≤ 32) && (decide (1 ≤ r) && (decide (2 ≤ d) && !f))) := by
  rw [rightB_eq, Bool.eq_iff_iff]
  have h1 : ¬ k = 1 := by omega
  have h2 : ¬ k = 2 := by omega
  simp only [decide_eq_true_iff, Cls.right, Cls.small, h1, h2, hk, false_and, false_or, true_and, Bool.and_eq_true, Bool.not_eq_true']
  constructor
  · rintro ⟨q1, q2, q3, q4⟩; exact ⟨by omega, q2, q3, q4⟩
  · rintro ⟨q1, q2, q3, q4⟩; exact ⟨by omega, q2, q3, q4⟩

theorem rightB_else (k r d : Int) (f : Bool) (h1 : ¬ k = 1) (h2 : ¬ k = 2) (h : ¬ (k = 3 ∨ k = 4 ∨ k = 5)) : rightB k r d f = false := by
  rw [rightB_eq]
  apply decide_eq_false
  simp only [Cls.right]
  rintro (⟨q, _⟩ | ⟨q, _⟩ | ⟨q, _⟩)
  · exact h1 q
  · exact h2 q
  · exact h q

set_option maxHeartbeats 1000000 in
theorem rright_any (k r d : Int) (f : Bool) (w : World) :
    Calls Try.prog 93 #[.agg #[.int .i64 k, .int .i64 r, .int .i64 d, .bool f]] w fun e w' => e = .returned (.bool (rightB k r d f)) ∧ Ch0 w w' := by
  by_cases h1 : r < 0
  · rw [rightB_out k r d f (.inl h1)]
    go_enter Try.func93, Try.ntmps93
    go_wp2
    go_ret
    exact ⟨rfl, (Ch.refl _ _).alloc _⟩
  by_cases h2 : d < 0
  · rw [rightB_out k r d f (.inr (.inl h2))]
    go_enter Try.func93, Try.ntmps93
    go_wp2
    go_ret
    exact ⟨rfl, (Ch.refl _ _).alloc _⟩
  by_cases h3 : 32 < r
  · rw [rightB_out k r d f (.inr (.inr (.inl h3)))]
    go_enter Try.func93, Try.ntmps93
    go_wp2
    go_ret
    exact ⟨rfl, (Ch.refl _ _).alloc _⟩
  by_cases h4 : 32 < d
  · rw [rightB_out k r d f (.inr (.inr (.inr h4)))]
    go_enter Try.func93, Try.ntmps93
    go_wp2
    go_ret
    exact ⟨rfl, (Ch.refl _ _).alloc _⟩
  have hb : 0 ≤ r ∧ 0 ≤ d ∧ r ≤ 32 ∧ d ≤ 32 := by omega
  have r0 : 0 ≤ r := hb.1
  have d0 : 0 ≤ d := hb.2.1
  have r1 : r ≤ 32 := hb.2.2.1
  have d1 : d ≤ 32 := hb.2.2.2
  have g4 : decide (32 < d) = false := decide_eq_false (by omega)
  by_cases k1 : k = 1
  · subst k1
    rw [rightB_1 r d f hb]
    obtain ⟨s, hs⟩ : ∃ s, decide (2 + r + d ≤ 32) = s := ⟨_, rfl⟩
    rw [hs]
    clear hb
    go_enter Try.func93, Try.ntmps93
    go_wp2
    go_ret
    exact ⟨rfl, (Ch.refl _ _).alloc _⟩
  have e1 : (k == 1) = false := beq_eq_false_iff_ne.2 k1
  by_cases k2 : k = 2
  · subst k2
    rw [rightB_2 r d f]
    obtain ⟨x, hx⟩ : ∃ x, (r == 0) = x := ⟨_, rfl⟩
    obtain ⟨y, hy⟩ : ∃ y, (d == 0) = y := ⟨_, rfl⟩
    rw [hx, hy]
    clear hb
    cases x
    · go_enter Try.func93, Try.ntmps93
      go_wp2
      go_ret
      exact ⟨rfl, (Ch.refl _ _).alloc _⟩
    · go_enter Try.func93, Try.ntmps93
      go_wp2
      go_ret
      exact ⟨rfl, (Ch.refl _ _).alloc _⟩
  have e2 : (k == 2) = false := beq_eq_false_iff_ne.2 k2
  by_cases k345 : k = 3 ∨ k = 4 ∨ k = 5
  · rw [rightB_345 k r d f hb k345]
    obtain ⟨s, hs⟩ : ∃ s, decide (2 + r + d ≤ 32) = s := ⟨_, rfl⟩
    obtain ⟨x, hx⟩ : ∃ x, decide (1 ≤ r) = x := ⟨_, rfl⟩
    obtain ⟨y, hy⟩ : ∃ y, decide (2 ≤ d) = y := ⟨_, rfl⟩
    rw [hs, hx, hy]
    clear hb k1 k2
    rcases k345 with rfl | rfl | rfl
    all_goals
      cases s <;> cases x <;> cases y
      all_goals
        go_enter Try.func93, Try.ntmps93
        go_wp2
        go_ret
        exact ⟨by simp, (Ch.refl _ _).alloc _⟩
  · rw [rightB_else k r d f k1 k2 k345]
    have e3 : (k == 3) = false := beq_eq_false_iff_ne.2 (by omega)
    have e4 : (k == 4) = false := beq_eq_false_iff_ne.2 (by omega)
    have e5 : (k == 5) = false := beq_eq_false_iff_ne.2 (by omega)
    obtain ⟨s, hs⟩ : ∃ s, decide (2 + r + d ≤ 32) = s := ⟨_, rfl⟩
    clear hb k1 k2 k345
    go_enter Try.func93, Try.ntmps93
    go_wp2
    go_ret
    exact ⟨rfl, (Ch.refl _ _).alloc _⟩

end Go.Proofs.Ytlmeponoadhheaa
