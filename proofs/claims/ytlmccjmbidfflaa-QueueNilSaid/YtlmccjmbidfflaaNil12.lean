/-
  gleaninglaw12.QueueNil answers true: the walk.
-/
import Derived.Test.YtlmccjmbidfflaaAwake12
import Derived.Test.YtlmccjmbidfflaaConcat12
namespace Go.Proofs.Ytlmccjmbidfflaa
set_option linter.unusedVariables false
open Go.RowKit

theorem put_nil (k x : Int) (w : World) : Calls Try.prog 12 #[.pointer none, .int .i64 k, .int .i64 x] w fun e w' => e = .returned (.tuple #[.bool false, .int .i64 1]) ∧ SameW w w' := by
  have ht := there_nil k w
  go_enter Try.func12, Try.ntmps12
  go_wp2_with fail
  refine ht.mono ?_
  rintro e w1 ⟨rfl, hs⟩
  obtain rfl : w = w1 := hs
  go_wp2_with fail
  go_ret2
  exact ⟨rfl, SameW.rfl' _⟩

theorem poll_nil (k : Int) (w : World) : Calls Try.prog 11 #[.pointer none, .int .i64 k] w fun e w' => e = .returned (.tuple #[.int .i64 0, .int .i64 1]) ∧ SameW w w' := by
  have ht := there_nil k w
  go_enter Try.func11, Try.ntmps11
  go_wp2_with fail
  refine ht.mono ?_
  rintro e w1 ⟨rfl, hs⟩
  obtain rfl : w = w1 := hs
  go_wp2_with fail
  go_ret2
  exact ⟨rfl, SameW.rfl' _⟩

theorem len_nilset (k : Int) (w : World) : Calls Try.prog 14 #[.pointer none, .int .i64 k] w fun e w' => e = .returned (.int .i64 0) ∧ SameW w w' := by
  have ht := there_nil k w
  go_enter Try.func14, Try.ntmps14
  go_wp2_with fail
  refine ht.mono ?_
  rintro e w1 ⟨rfl, hs⟩
  obtain rfl : w = w1 := hs
  go_wp2_with fail
  go_ret
  exact ⟨rfl, SameW.rfl' _⟩

theorem rename_nil (f : Value) (w : World) : Calls Try.prog 19 #[.pointer none, f] w fun e w' => e = .returned (.tuple #[]) ∧ SameW w w' := by
  go_enter Try.func19, Try.ntmps19
  go_wp2_with fail
  exact bodyPost_ret (v := .tuple #[]) (by simp [results, Try.results19, go_sem]) rfl ⟨rfl, SameW.rfl' _⟩

set_option maxRecDepth 100000 in
set_option maxHeartbeats 4000000 in
theorem nil_walk (q x : Int) (w : World) :
    Calls Try.prog 8 #[.int .i64 q, .int .i64 x] w fun e w' => e = .returned (.bool true) ∧ Ch0 w w' := by
  have HA := Lib.hid awake12
  have HR := Lib.hid rename_nil
  have HP := Lib.hid put_nil
  have HQ := Lib.hid poll_nil
  have HL := Lib.hid len_nilset
  have HAL := Lib.hid all_nil
  go_enter Try.func8, Try.ntmps8
  go_wp2_with fail
  refine (HA.out _).mono ?_
  rintro e w1 ⟨rfl, c1⟩
  replace c1 := Lib.hid c1
  go_wp2_with fail
  refine (HR.out _ _).mono ?_
  rintro e w2 ⟨rfl, hs⟩
  obtain rfl : w1 = w2 := hs
  go_wp2_with fail
  refine (HP.out _ _ _).mono ?_
  rintro e w2 ⟨rfl, hs⟩
  obtain rfl : w1 = w2 := hs
  go_wp2_with fail
  refine (HQ.out _ _).mono ?_
  rintro e w2 ⟨rfl, hs⟩
  obtain rfl : w1 = w2 := hs
  go_wp2_with fail
  refine (HL.out _ _).mono ?_
  rintro e w2 ⟨rfl, hs⟩
  obtain rfl : w1 = w2 := hs
  go_wp2_with fail
  refine (HAL.out _).mono ?_
  rintro e w2 ⟨rfl, hs⟩
  obtain rfl : w1 = w2 := hs
  go_wp2_with fail
  go_ret
  exact ⟨rfl, c1.out⟩

end Go.Proofs.Ytlmccjmbidfflaa
