/-
  class.New at whatever classes; the law's awake.
-/
import Derived.Test.YtkigokbdceaaaaaRefClass3
namespace Go.Proofs.Ytkigokbdceaaaaa
set_option linter.unusedVariables false
open Go.RowKit

/-- what New hands back -/
def NewT (w w' : World) (cs : List Cls) (v : Value) : Prop :=
  (newC cs = 0 ∧ ∃ p, v = .pointer (some ⟨p, 0, none⟩) ∧ Tab w.heap.size w'.heap.size w' p cs) ∨ (newC cs ≠ 0 ∧ v = .pointer none)

theorem newcls_any (D : Nat → Prop) (v : Value) (cs : List Cls) (w : World) (hv : SeesC D w v cs) (hf : Fit cs) :
    Calls Try.prog 11 #[v] w fun e w' => ∃ u, e = .returned (.tuple #[u, .int .i64 (newC cs)]) ∧ NewT w w' cs u ∧ Ch0 w w' := by
  by_cases hr : allRight cs = true
  · by_cases h64 : 64 ≤ cs.length
    · have e : newC cs = 3 := by unfold newC; rw [if_pos hr, if_pos h64]
      refine (new_full D v cs w hv hf hr h64).mono ?_
      rintro e w' ⟨rfl, hc⟩
      exact ⟨_, by rw [‹newC cs = 3›], .inr ⟨by omega, rfl⟩, hc⟩
    · have e : newC cs = 0 := by unfold newC; rw [if_pos hr, if_neg h64]
      refine (new_yes D v cs w hv hf hr (by omega)).mono ?_
      rintro e w' ⟨⟨p, rfl, ht⟩, hc⟩
      exact ⟨_, by rw [‹newC cs = 0›], .inl ⟨‹_›, p, rfl, ht⟩, hc⟩
  · have e : newC cs = 1 := by unfold newC; rw [if_neg hr]
    refine (new_wrong D v cs w hv hf (by simpa using hr)).mono ?_
    rintro e w' ⟨rfl, hc⟩
    exact ⟨_, by rw [‹newC cs = 1›], .inr ⟨by omega, rfl⟩, hc⟩

/-- A slice of one class that has just been laid. -/
theorem sees_one (c : Cls) (w : World) : SeesC (fun k => k = w.heap.size) (w.alloc (.cells #[.int .i64 c.kind, .int .i64 c.refs, .int .i64 c.data, .bool c.final] 26)) (.slice (some ⟨w.heap.size, 0, none⟩) 1 1) [c] := by
  refine ⟨rfl, _, 1, rfl, Nat.le_refl _, by decide, .inr ⟨w.heap.size, 0, rfl, rfl, fun i u hu => ?_⟩⟩
  rw [Nat.zero_add, cell_of_row _ w.heap.size i _ _ _ (heap_alloc_new w _)]
  simpa [Cls.cells] using hu

set_option maxHeartbeats 1000000 in
theorem awake5 (w : World) : Calls Try.prog 8 #[] w fun e w' => e = .returned (.bool true) ∧ Ch0 w w' := by
  go_enter Try.func8, Try.ntmps8
  go_wp2_with fail
  refine (new_yes _ _ [⟨4, 1, 2, false⟩] _ (sees_one ⟨4, 1, 2, false⟩ w) (by intro c hc; simp at hc; subst hc; constructor <;> decide) (by decide) (by decide)).mono ?_
  rintro e w1 ⟨⟨p, rfl, ht⟩, c1⟩
  have C1 := Lib.hid (((Ch.refl (fun _ => False) w).alloc _).trans c1)
  have HT := Lib.hid ht
  clear c1 ht
  go_wp2_with fail
  refine (tlen_any _ _ _ _ _ HT.out).mono ?_
  rintro e w' ⟨rfl, rfl⟩
  go_wp2_with fail
  have hw := twords_any _ _ _ _ 1 0 _ HT.out
  rw [show shapeC [⟨4, 1, 2, false⟩] 1 0 = (1, 2, 0) by decide] at hw
  refine hw.mono ?_
  rintro e w2 ⟨rfl, c2⟩
  have HT2 := Lib.hid (HT.out.keep c2 (fun _ _ _ q => q))
  have C2 := Lib.hid (C1.out.trans c2)
  clear c2 hw
  go_wp2_with fail
  have hh := holds_any _ _ _ _ 1 0 _ HT2.out
  rw [show holdsC [⟨4, 1, 2, false⟩] 1 0 = false by decide] at hh
  refine hh.mono ?_
  rintro e w3 ⟨rfl, c3⟩
  have C3 := Lib.hid (C2.out.trans c3)
  clear c3 hh
  go_wp2_with fail
  have hr := right_any 2 0 0 false w3 (by omega) (by omega)
  rw [show rightB 2 0 0 false = true by decide] at hr
  refine hr.mono ?_
  rintro e w4 ⟨rfl, c4⟩
  have C4 := Lib.hid (C3.out.trans c4)
  clear c4 hr
  go_wp2_with fail
  go_ret
  exact ⟨rfl, C4.out⟩

end Go.Proofs.Ytkigokbdceaaaaa
