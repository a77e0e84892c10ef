/-
  Classes in memory: a class is four cells; contracts of class.small, class.Right, class.New$1.
-/
import Derived.Test.YtlmeponoadhheaaAppend
import Derived.Deep.QuietTactic
import Derived.BigQuiet
namespace Go.Proofs.Ytlmeponoadhheaa
set_option linter.unusedVariables false
open Go.RowKit

/-- a class: its kind, references, numbers, whether it is finalized -/
structure Cls where
  kind : Int
  refs : Int
  data : Int
  final : Bool
  deriving DecidableEq

/-- its numbers fit -/
structure Cls.Fits (c : Cls) : Prop where
  k0 : -9223372036854775808 ≤ c.kind
  k1 : c.kind ≤ 9223372036854775807
  r0 : -9223372036854775808 ≤ c.refs
  r1 : c.refs ≤ 9223372036854775807
  d0 : -9223372036854775808 ≤ c.data
  d1 : c.data ≤ 9223372036854775807

def Cls.cells (c : Cls) : List Value := [.int .i64 c.kind, .int .i64 c.refs, .int .i64 c.data, .bool c.final]
def Cls.val (c : Cls) : Value := .agg #[.int .i64 c.kind, .int .i64 c.refs, .int .i64 c.data, .bool c.final]

def Cls.small (c : Cls) : Prop := 0 ≤ c.refs ∧ 0 ≤ c.data ∧ c.refs ≤ 30 ∧ c.data ≤ 30 - c.refs
instance (c : Cls) : Decidable c.small := by unfold Cls.small; infer_instance

def Cls.right (c : Cls) : Prop :=
  (c.kind = 1 ∧ c.small) ∨ (c.kind = 2 ∧ c.refs = 0 ∧ c.data = 0) ∨ ((c.kind = 3 ∨ c.kind = 4 ∨ c.kind = 5) ∧ c.small ∧ 1 ≤ c.refs ∧ 2 ≤ c.data ∧ c.final = false)
instance (c : Cls) : Decidable c.right := by unfold Cls.right; infer_instance

set_option maxHeartbeats 400000 in
theorem small_any (k r d : Int) (f : Bool) (w : World) (hr : -9223372036854775808 ≤ r ∧ r ≤ 9223372036854775807) (hd : -9223372036854775808 ≤ d ∧ d ≤ 9223372036854775807) :
    Calls Try.prog 123 #[.agg #[.int .i64 k, .int .i64 r, .int .i64 d, .bool f]] w fun e w' => e = .returned (.bool (decide (0 ≤ r ∧ 0 ≤ d ∧ r ≤ 30 ∧ d ≤ 30 - r))) ∧ Ch0 w w' := by
  obtain ⟨b, hb⟩ : ∃ b, b = decide (0 ≤ r ∧ 0 ≤ d ∧ r ≤ 30 ∧ d ≤ 30 - r) := ⟨_, rfl⟩
  rw [← hb]
  obtain ⟨hr0, hr1⟩ := hr
  obtain ⟨hd0, hd1⟩ := hd
  by_cases h1 : 0 ≤ r
  · have g1 : decide (0 ≤ r) = true := decide_eq_true h1
    by_cases h2 : 0 ≤ d
    · have g2 : decide (0 ≤ d) = true := decide_eq_true h2
      by_cases h3 : r ≤ 30
      · have g3 : decide (r ≤ 30) = true := decide_eq_true h3
        by_cases h4 : d ≤ 30 - r
        · have g4 : decide (d ≤ 30 - r) = true := decide_eq_true h4
          obtain rfl : b = true := by rw [hb]; exact decide_eq_true ⟨h1, h2, h3, h4⟩
          clear hb
          go_enter Try.func123, Try.ntmps123
          go_wp2
          go_ret
          exact ⟨rfl, (Ch.refl _ _).alloc _⟩
        · have g4 : decide (d ≤ 30 - r) = false := decide_eq_false h4
          obtain rfl : b = false := by rw [hb]; exact decide_eq_false (fun q => h4 q.2.2.2)
          clear hb
          go_enter Try.func123, Try.ntmps123
          go_wp2
          go_ret
          exact ⟨rfl, (Ch.refl _ _).alloc _⟩
      · have g3 : decide (r ≤ 30) = false := decide_eq_false h3
        obtain rfl : b = false := by rw [hb]; exact decide_eq_false (fun q => h3 q.2.2.1)
        clear hb
        go_enter Try.func123, Try.ntmps123
        go_wp2
        go_ret
        exact ⟨rfl, (Ch.refl _ _).alloc _⟩
    · have g2 : decide (0 ≤ d) = false := decide_eq_false h2
      obtain rfl : b = false := by rw [hb]; exact decide_eq_false (fun q => h2 q.2.1)
      clear hb
      go_enter Try.func123, Try.ntmps123
      go_wp2
      go_ret
      exact ⟨rfl, (Ch.refl _ _).alloc _⟩
  · have g1 : decide (0 ≤ r) = false := decide_eq_false h1
    obtain rfl : b = false := by rw [hb]; exact decide_eq_false (fun q => h1 q.1)
    clear hb
    go_enter Try.func123, Try.ntmps123
    go_wp2
    go_ret
    exact ⟨rfl, (Ch.refl _ _).alloc _⟩

/-- what Right answers, for the walk: a name that it does not open -/
def rightB (k r d : Int) (f : Bool) : Bool := decide (Cls.right ⟨k, r, d, f⟩)

set_option maxHeartbeats 1000000 in
theorem right_any (k r d : Int) (f : Bool) (w : World) (hr : -9223372036854775808 ≤ r ∧ r ≤ 9223372036854775807) (hd : -9223372036854775808 ≤ d ∧ d ≤ 9223372036854775807) :
    Calls Try.prog 96 #[.agg #[.int .i64 k, .int .i64 r, .int .i64 d, .bool f]] w fun e w' => e = .returned (.bool (rightB k r d f)) ∧ Ch0 w w' := by
  obtain ⟨b, hb⟩ : ∃ b, b = rightB k r d f := ⟨_, rfl⟩
  rw [← hb]
  unfold rightB Cls.right at hb
  have hsm := fun w => small_any k r d f w hr hd
  have HS := Lib.hid hsm
  clear hsm
  have HB := Lib.hid hb
  clear hb
  by_cases k1 : k = 1
  · subst k1
    go_enter Try.func96, Try.ntmps96
    go_wp2_with fail
    refine (HS.out _).mono ?_
    rintro e w1 ⟨rfl, c1⟩
    have C1 := Lib.hid (((Ch.refl (fun _ => False) w).alloc _).trans c1)
    clear c1
    go_wp2_with fail
    go_ret
    refine ⟨?_, C1.out⟩
    rw [HB.out]
    simp [Cls.small]
  · have e1 : (k == 1) = false := beq_eq_false_iff_ne.2 k1
    by_cases k2 : k = 2
    · subst k2
      by_cases hr0 : r = 0
      · have g1 : (r == 0) = true := beq_iff_eq.2 hr0
        by_cases hd0 : d = 0
        · have g2 : (d == 0) = true := beq_iff_eq.2 hd0
          obtain rfl : b = true := by rw [HB.out]; simp [hr0, hd0]
          clear hr0 hd0
          go_enter Try.func96, Try.ntmps96
          go_wp2_with fail
          go_ret
          exact ⟨rfl, (Ch.refl _ _).alloc _⟩
        · have g2 : (d == 0) = false := beq_eq_false_iff_ne.2 hd0
          obtain rfl : b = false := by rw [HB.out]; simp [hd0]
          clear hr0 hd0
          go_enter Try.func96, Try.ntmps96
          go_wp2_with fail
          go_ret
          exact ⟨rfl, (Ch.refl _ _).alloc _⟩
      · have g1 : (r == 0) = false := beq_eq_false_iff_ne.2 hr0
        obtain rfl : b = false := by rw [HB.out]; simp [hr0]
        clear hr0
        go_enter Try.func96, Try.ntmps96
        go_wp2_with fail
        go_ret
        exact ⟨rfl, (Ch.refl _ _).alloc _⟩
    · have e2 : (k == 2) = false := beq_eq_false_iff_ne.2 k2
      by_cases k345 : k = 3 ∨ k = 4 ∨ k = 5
      · have hk : b = (decide (0 ≤ r ∧ 0 ≤ d ∧ r ≤ 30 ∧ d ≤ 30 - r) && (decide (1 ≤ r) && (decide (2 ≤ d) && !f))) := by
          rw [HB.out, Bool.eq_iff_iff]
          simp [Cls.small, k1, k2, k345, and_assoc]
        have HK := Lib.hid hk
        clear hk k1 k2 HB
        by_cases hs : 0 ≤ r ∧ 0 ≤ d ∧ r ≤ 30 ∧ d ≤ 30 - r
        · have hS : ∀ w, Calls Try.prog 123 #[.agg #[.int .i64 k, .int .i64 r, .int .i64 d, .bool f]] w fun e w' => e = .returned (.bool true) ∧ Ch0 w w' := fun w => by
            have := HS.out w
            rwa [decide_eq_true hs] at this
          have HS' := Lib.hid hS
          rw [decide_eq_true hs] at HK
          clear hS hs HS
          obtain ⟨x1, hx1⟩ : ∃ x, decide (1 ≤ r) = x := ⟨_, rfl⟩
          obtain ⟨x2, hx2⟩ : ∃ x, decide (2 ≤ d) = x := ⟨_, rfl⟩
          rw [hx1, hx2] at HK
          rcases k345 with rfl | rfl | rfl
          all_goals
            cases x1 <;> cases x2
            all_goals
              go_enter Try.func96, Try.ntmps96
              go_wp2_with fail
              refine (HS'.out _).mono ?_
              rintro e w1 ⟨rfl, c1⟩
              have C1 := Lib.hid (((Ch.refl (fun _ => False) w).alloc _).trans c1)
              have m1 := c1.cell (a := ⟨w.heap.size, 1, none⟩) (v := .int .i64 r) (by simp) (fun q => q)
              have m2 := c1.cell (a := ⟨w.heap.size, 2, none⟩) (v := .int .i64 d) (by simp) (fun q => q)
              have m3 := c1.cell (a := ⟨w.heap.size, 3, none⟩) (v := .bool f) (by simp) (fun q => q)
              clear c1
              go_wp2_with fail
              go_ret
              exact ⟨by rw [HK.out]; simp, C1.out⟩
        · have hS : ∀ w, Calls Try.prog 123 #[.agg #[.int .i64 k, .int .i64 r, .int .i64 d, .bool f]] w fun e w' => e = .returned (.bool false) ∧ Ch0 w w' := fun w => by
            have := HS.out w
            rwa [decide_eq_false hs] at this
          have HS' := Lib.hid hS
          rw [decide_eq_false hs] at HK
          clear hS hs HS
          rcases k345 with rfl | rfl | rfl
          all_goals
            go_enter Try.func96, Try.ntmps96
            go_wp2_with fail
            refine (HS'.out _).mono ?_
            rintro e w1 ⟨rfl, c1⟩
            have C1 := Lib.hid (((Ch.refl (fun _ => False) w).alloc _).trans c1)
            clear c1
            go_wp2_with fail
            go_ret
            exact ⟨by rw [HK.out]; rfl, C1.out⟩
      · have e3 : (k == 3) = false := beq_eq_false_iff_ne.2 (by omega)
        have e4 : (k == 4) = false := beq_eq_false_iff_ne.2 (by omega)
        have e5 : (k == 5) = false := beq_eq_false_iff_ne.2 (by omega)
        obtain rfl : b = false := by rw [HB.out]; simp [k1, k2]; omega
        clear k1 k2 k345
        go_enter Try.func96, Try.ntmps96
        go_wp2_with fail
        go_ret
        exact ⟨rfl, (Ch.refl _ _).alloc _⟩

end Go.Proofs.Ytlmeponoadhheaa
