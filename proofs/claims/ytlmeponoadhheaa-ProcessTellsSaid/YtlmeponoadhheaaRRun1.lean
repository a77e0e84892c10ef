/-
  Contracts of the document's lost, of the law's kept.
-/
import Derived.Test.YtlmeponoadhheaaProc3
import Derived.Test.YtlmeponoadhheaaS4
namespace Go.Proofs.Ytlmeponoadhheaa
set_option linter.unusedVariables false
open Go.RowKit

section
variable {w : World} {b : Nat} {O D : Nat → Prop} {cs : List Cls} {cv : Value} {L : List GN}

set_option maxHeartbeats 1000000 in
theorem rlost_of (h : Rt w b O D cs cv L) (hr : allRight cs = true) (Df : Nat → Prop) (v : Value) (live : List Int) (hv : SeesI Df w v live) (id : Int) :
    Calls Try.prog 117 #[.pointer (some ⟨b, 0, none⟩), .int .i64 id, v] w fun e w' => e = .returned (.tuple #[.int .i64 (gaim cs L id).2, .bool (lostB cs L live id)]) ∧ Ch0 w w' := by
  have ha := raim_any h hr id
  have hi : Hid (∀ w', Ch0 w w' → _) := Lib.hid (fun w' (c : Ch0 w w') => has_any _ _ live (gaim cs L id).1 w' (Sees.keep hv c (fun _ _ e => e)))
  obtain ⟨va, vc, rfl, -⟩ := hv.len
  have hlost : lostB cs L live id = (decide ((gaim cs L id).1 ≠ 0) && !decide ((gaim cs L id).1 ∈ live)) := rfl
  rw [hlost]
  clear hlost h hv
  generalize decide ((gaim cs L id).1 ∈ live) = y at *
  generalize (gaim cs L id).1 = to at *
  generalize (gaim cs L id).2 = kd at *
  go_enter Try.func117, Try.ntmps117
  go_wp2_with fail
  refine ha.mono ?_
  rintro e w1 ⟨rfl, n1, hw1⟩
  have c1 : Ch0 w w1 := hw1 ▸ ch_drewN' w n1
  have hi2 := hi.out _ c1
  replace c1 := Lib.hid c1
  clear ha hi hw1
  by_cases ht : to = 0
  · subst ht
    have t0 : ((0 : Int) != 0) = false := rfl
    clear hi2
    go_wp2_with fail
    go_ret2
    exact ⟨by simp, c1.out⟩
  · have t0 : (to != 0) = true := by simpa using ht
    have t1 : Hid ((decide (to ≠ 0) && !y) = !y) := Lib.hid (by simp [ht])
    clear ht
    go_wp2_with fail
    refine hi2.mono ?_
    rintro e w2 ⟨rfl, hs⟩
    obtain rfl : w1 = w2 := hs
    clear hi2
    go_wp2_with fail
    go_ret2
    exact ⟨by rw [t1.out]; rfl, c1.out⟩

end

/-- is the aim of a node of that name kept, by a number's bits? -/
def keptB (id bits : Int) : Bool := Go.bits BinOp.and IntKind.u64 (bits / 2 ^ (id % 64).toNat) 1 == 1

set_option maxHeartbeats 1000000 in
theorem kept_any (id bits : Int) (h0 : 0 ≤ id) (h1 : id < 64) (b0 : 0 ≤ bits) (b1 : bits < 18446744073709551616) (w : World) :
    Calls Try.prog 68 #[.int .i64 id, .int .u64 bits] w fun e w' => e = .returned (.bool (keptB id bits)) ∧ SameW w w' := by
  go_enter Try.func68, Try.ntmps68
  go_wp2_with fail
  go_ret
  exact ⟨rfl, SameW.rfl' _⟩

end Go.Proofs.Ytlmeponoadhheaa
