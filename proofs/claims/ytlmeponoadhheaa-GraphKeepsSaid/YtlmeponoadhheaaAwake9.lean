/-
  The law's awake (graph).
-/
import Derived.Test.YtlmeponoadhheaaGOf
namespace Go.Proofs.Ytlmeponoadhheaa
set_option linter.unusedVariables false
open Go.RowKit

def ac1 : List Cls := [⟨4, 1, 2, false⟩]
def al1 : List GN := addL ac1 [] 1 1 0
def al2 : List GN := addL ac1 al1 2 1 0
def al3 : List GN := setRefL al2 1 0 2

set_option maxRecDepth 100000 in
set_option maxHeartbeats 1000000 in
theorem awake9 (w : World) : Calls Try.prog 28 #[] w fun e w' => e = .returned (.bool true) ∧ Ch0 w w' := by
  have x1 : addE ac1 [] 1 1 0 = 0 := by decide
  have x2 : addE ac1 al1 2 1 0 = 0 := by decide
  have x3 : setRefE al2 1 0 2 = 0 := by decide
  have x4 : gaim ac1 al3 1 = (2, 4) := by decide
  have x5 : gholds ac1 al3 1 = [] := by decide
  have x6 : gwords al3 = 10 := by decide
  have x7 : al3.length ≤ 1000000 := by decide
  go_enter Try.func28, Try.ntmps28
  go_wp2_with fail
  refine (newcls_any _ _ ac1 _ (sees_one ⟨4, 1, 2, false⟩ w) (by intro c hc; simp [ac1] at hc; subst hc; constructor <;> decide)).mono ?_
  rintro e w1 ⟨u, rfl, hT, c1⟩
  have x0 : newC ac1 = 0 := by decide
  obtain ⟨p, rfl, hTab⟩ : ∃ p, u = .pointer (some ⟨p, 0, none⟩) ∧ Tab (w.alloc (.cells #[.int .i64 4, .int .i64 1, .int .i64 2, .bool false] 40)).heap.size w1.heap.size w1 p ac1 := by
    rcases hT with ⟨_, p, h1, h2⟩ | ⟨h1, _⟩
    · exact ⟨p, h1, h2⟩
    · exact absurd x0 h1
  have cA : Ch0 w w1 := ((Ch.refl (fun _ => False) w).alloc _).trans c1
  have hn := gnew_of hTab (Nat.le_refl _)
  rw [x0]
  replace cA := Lib.hid cA
  clear c1 hT hTab x0
  generalize (w.alloc (.cells #[.int .i64 4, .int .i64 1, .int .i64 2, .bool false] 40)).heap.size = lo at *
  go_wp2_with fail
  refine hn.mono ?_
  rintro e w2 ⟨b, rfl, O, hG, hO, c2⟩
  have hM : Mine w w2 O := ⟨cA.out.trans c2, fun k hk => by have := hO k hk; have := cA.out.size; omega⟩
  have ha := add_of hG 1 1 0 (by omega)
  rw [x1] at ha
  replace hM := Lib.hid hM
  clear hn hO c2 cA hG
  go_wp2_with fail
  refine ha.mono ?_
  rintro e w3 ⟨rfl, O3, hG3, t3⟩
  have hM3 := Lib.hid (hM.out.turn t3)
  have ha := add_of hG3 2 1 0 (by omega)
  rw [show addE ac1 (addL ac1 [] 1 1 0) 2 1 0 = 0 from x2] at ha
  clear hM t3 hG3
  go_wp2_with fail
  refine ha.mono ?_
  rintro e w4 ⟨rfl, O4, hG4, t4⟩
  have hM4 := Lib.hid (hM3.out.turn t4)
  have hs := setref_of hG4 1 0 2
  rw [show setRefE (addL ac1 (addL ac1 [] 1 1 0) 2 1 0) 1 0 2 = 0 from x3] at hs
  clear hM3 t4 hG4 ha
  go_wp2_with fail
  refine hs.mono ?_
  rintro e w5 ⟨rfl, hG5, t5⟩
  have hM5 := Lib.hid (hM4.out.turn t5)
  replace hG5 : Gt w5 b O4 ac1 al3 p lo w1.heap.size := hG5
  have hA := aim_of hG5 1
  rw [x4] at hA
  replace hG5 := Lib.hid hG5
  clear hM4 t5 hs
  go_wp2_with fail
  refine hA.mono ?_
  rintro e w6 ⟨rfl, c6⟩
  have hH := holds_of (hG5.out.new c6) 1
  rw [x5] at hH
  replace c6 := Lib.hid c6
  clear hA
  go_wp2_with fail
  refine hH.mono ?_
  rintro e w7 ⟨v, rfl, r7, -, c7⟩
  obtain ⟨a, c, rfl, -, -⟩ := r7.isSlice
  have hW := words_of (hG5.out.new (c6.out.trans c7)) x7
  rw [x6] at hW
  replace c7 := Lib.hid c7
  clear hH r7
  go_wp2_with fail
  refine hW.mono ?_
  rintro e w8 ⟨rfl, c8⟩
  have HC := Lib.hid (((hM5.out.ch.trans c6.out).trans c7.out).trans c8)
  clear hW c8 c7 c6
  go_wp2_with fail
  go_ret
  exact ⟨rfl, HC.out⟩

end Go.Proofs.Ytlmeponoadhheaa
