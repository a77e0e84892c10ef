/-
  Contracts of the document's New, Shape, Holds of classes.
-/
import Derived.Test.YtlmeponoadhheaaRefClass
namespace Go.Proofs.Ytlmeponoadhheaa
set_option linter.unusedVariables false
open Go.RowKit

def newC (cs : List Cls) : Int := if allRight cs = true then (if 64 ≤ cs.length then 3 else 0) else 1

set_option maxHeartbeats 1000000 in
theorem rnew_cls (D : Nat → Prop) (v : Value) (cs : List Cls) (w : World) (hv : SeesC D w v cs) :
    Calls Try.prog 29 #[v] w fun e w' => e = .returned (.int .i64 (newC cs)) ∧ Ch0 w w' := by
  obtain ⟨a, c, rfl, hl⟩ := hv.len
  have HV := Lib.hid hv
  clear hv
  go_enter Try.func29, Try.ntmps29
  go_wp2_with fail
  go_loopw [6] (fun i wr => ∃ j : Nat, j ≤ cs.length ∧ i = .int .i64 j ∧ (∀ m (hm : m < cs.length), m < j → cs[m].rightB = true) ∧ Ch0 w wr) (fun i _ => cs.length - (intOf i).toNat)
  case atStart => exact ⟨0, Nat.zero_le _, rfl, fun m _ h => by omega, Ch.refl _ _⟩
  case round =>
    obtain ⟨j, hj, rfl, hall, hc⟩ := hrel
    have HA := Lib.hid hall
    have HC := Lib.hid hc
    clear hall hc
    by_cases hlt : j < cs.length
    · obtain ⟨g, o, c', hg, hsl, hcells⟩ := SeesC.cells (HV.out.keep HC.out (fun _ _ q => q)) (by omega)
      obtain ⟨rfl, rfl⟩ : a = some ⟨g, o, none⟩ ∧ c = c' := by simpa using hsl
      obtain ⟨m0, m1, m2, m3⟩ := hcells j hlt
      have hL := rright_any cs[j].kind cs[j].refs cs[j].data cs[j].final
      obtain ⟨b, hb⟩ : ∃ b, rightB cs[j].kind cs[j].refs cs[j].data cs[j].final = b := ⟨_, rfl⟩
      rw [hb] at hL
      have HL := Lib.hid hL
      have HB : Hid (cs[j].rightB = b) := hb
      clear hsl hcells hL hb
      generalize cs[j].kind = k at *
      generalize cs[j].refs = r at *
      generalize cs[j].data = d at *
      generalize cs[j].final = f at *
      go_wp2_with fail
      refine (HL.out _).mono ?_
      rintro e w1 ⟨rfl, c1⟩
      have C1 := Lib.hid (HC.out.trans c1)
      clear c1
      cases b
      · go_wp2_with fail
        go_ret
        refine ⟨?_, C1.out⟩
        have : allRight cs = false := by
          rw [allRight, List.all_eq_false]
          exact ⟨cs[j], List.getElem_mem hlt, by rw [HB.out]; simp⟩
        unfold newC
        rw [this]; rfl
      · go_wp2_with fail
        go_roundw
        case rel =>
          refine ⟨j + 1, by omega, by go_num, fun m hm hmj => ?_, C1.out⟩
          by_cases e : m = j
          · subst e; exact HB.out
          · exact HA.out m hm (by omega)
        case measure => simp [intOf]; omega
    · obtain rfl : j = cs.length := by omega
      have har : allRight cs = true := by
        rw [allRight, List.all_eq_true]
        intro x hx
        obtain ⟨i, hi, rfl⟩ := List.getElem_of_mem hx
        exact HA.out i hi hi
      have HAR := Lib.hid har
      clear har
      by_cases h64 : 64 ≤ cs.length
      · go_wp2_with fail
        go_ret
        refine ⟨?_, HC.out⟩
        unfold newC
        rw [if_pos HAR.out, if_pos h64]; rfl
      · go_wp2_with fail
        go_ret
        refine ⟨?_, HC.out⟩
        unfold newC
        rw [if_pos HAR.out, if_neg h64]; rfl

end Go.Proofs.Ytlmeponoadhheaa
