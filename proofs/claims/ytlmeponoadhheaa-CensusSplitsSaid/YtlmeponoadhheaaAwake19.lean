/-
  gleaninglaw19.awake.
-/
import Derived.Test.YtlmeponoadhheaaMade19
import Derived.Test.YtlmeponoadhheaaROf
namespace Go.Proofs.Ytlmeponoadhheaa
set_option linter.unusedVariables false
open Go.RowKit

def awC : List Cls := [⟨1, 0, 2, false⟩]
def awN : List Int := [1, 1]

theorem awG : graphC awC awN = [⟨1, 1, [], [0, 0], false⟩, ⟨2, 1, [], [0, 0], false⟩] := by decide
theorem awB : madB awC awN = true := by decide
theorem awF : Fit awC := by
  intro c hc
  simp [awC] at hc
  subst hc
  exact ⟨by decide, by decide, by decide, by decide, by decide, by decide⟩

theorem awR {R : List R5} (h : IsRows (fun c => S5 c (grows (graphC awC awN))) R) : R = [⟨1, 2, 8, 0, 0⟩] := by
  rw [awG] at h
  refine h.eq (t := fun c => S5 c (grows [⟨1, 1, [], [0, 0], false⟩, ⟨2, 1, [], [0, 0], false⟩])) ⟨List.pairwise_singleton _ _, fun r => ?_⟩ (fun _ => rfl)
  rw [List.mem_singleton]
  constructor
  · rintro rfl; decide
  · rintro ⟨h1, h2⟩
    have h3 := nz_false (r := r)
    by_cases hc : r.cls = 1
    · rw [h1, hc]; decide
    · exfalso
      have hn : ∀ p : R5 → Int, sm p r.cls (grows [⟨1, 1, [], [0, 0], false⟩, ⟨2, 1, [], [0, 0], false⟩]) = 0 := fun p => sm_none (by
        intro x hx
        simp [grows, grow5] at hx
        rcases hx with rfl | rfl <;> exact fun e => hc e.symm)
      have h4 : r.nz = false := by
        rw [h1]
        unfold S5
        simp only [hn]
        rfl
      rw [h4] at h2; cases h2

theorem awT : tot [⟨1, 2, 8, 0, 0⟩] = ⟨0, 2, 8, 0, 0⟩ := by decide
theorem awM : (mostR [⟨1, 2, 8, 0, 0⟩]).cls = 1 := by decide

set_option maxRecDepth 100000 in
set_option maxHeartbeats 4000000 in
theorem awake19 (w : World) : Calls Try.prog 80 #[] w fun e w' => e = .returned (.bool true) ∧ Ch0 w w' := by
  have cA : Ch0 w ((w.alloc (.cells #[.int .i64 1, .int .i64 0, .int .i64 2, .bool false] 40)).alloc (.cells #[.int .u8 1, .int .u8 1] 5)) := ((Ch.refl _ _).alloc _).alloc _
  have b2 := heap_alloc2_new w (.cells #[.int .i64 1, .int .i64 0, .int .i64 2, .bool false] 40) (.cells #[.int .u8 1, .int .u8 1] 5)
  have hsc := Sees.keep (sees_one ⟨1, 0, 2, false⟩ w) ((Ch.refl (fun _ => False) (w.alloc (.cells #[.int .i64 1, .int .i64 0, .int .i64 2, .bool false] 40))).alloc (.cells #[.int .u8 1, .int .u8 1] 5)) (fun _ _ e => e)
  have HM := mad_of awC awN (.slice (some ⟨w.heap.size, 0, none⟩) 1 1) (.slice (some ⟨w.heap.size + 1, 0, none⟩) 2 2) _ ⟨Sees.mono hsc (fun k hk => by simp only [World.size_alloc]; omega), ⟨rfl, _, 2, rfl, Nat.le_refl _, by decide, .inr ⟨w.heap.size + 1, 0, by simp only [World.size_alloc]; omega, rfl, fun i u hu => by
    rw [Nat.zero_add, cell_of_row _ _ i _ _ _ b2]
    simpa [awN] using hu⟩⟩, fun x hx => by simp [awN] at hx; subst hx; exact ⟨by decide, by decide⟩⟩ awF
  replace cA := Lib.hid cA
  replace HM := Lib.hid HM
  clear b2 hsc
  go_enter Try.func80, Try.ntmps80
  go_wp2_with fail
  refine HM.out.mono ?_
  rintro e w1 (⟨h1, -, -⟩ | ⟨-, b1, b2, p, lo, hi, O1, O2, rfl, hD⟩)
  · rw [awB] at h1; cases h1
  have hO := cof_of hD.g (by rw [awG]; decide)
  have c1 := Lib.hid (cA.out.trans hD.ch)
  clear HM cA hD
  go_wp2_with fail
  refine hO.mono ?_
  rintro e w2 ⟨v, R, rfl, h1, h2, -, h4⟩
  obtain rfl := awR h1
  have hlt : ∀ k, rblk v = some k → k < w2.heap.size := fun k hk => h2.1.lt hk
  have hS : SeesR (fun k => rblk v = some k) w2 v [⟨1, 2, 8, 0, 0⟩] := HasR.sees (T := 106) ⟨h2.1, fun _ h => h⟩
  obtain ⟨g, o, c, -, rfl, hcell⟩ := hS.row (by decide)
  obtain ⟨x0, x1, x2, x3, x4⟩ := hcell 0 (by decide)
  simp only [List.getElem_cons_zero, Nat.zero_mul, Nat.add_zero] at x0 x1 x2 x3 x4
  have hT := total_of _ _ _ w2 hS hlt ⟨by decide, fun r hr => by rw [List.mem_singleton.1 hr]; unfold R5.In; decide⟩
  have hMo := fun w' (c : Ch0 w2 w') => most_of _ _ _ w' (hS.keep c (fun _ _ e => e)) (fun k hk => Nat.lt_of_lt_of_le (hlt k hk) c.size) (by decide)
  rw [awT] at hT
  rw [awM] at hMo
  replace c1 := Lib.hid (c1.out.trans h4)
  replace hMo := Lib.hid hMo
  have i0 : (0 : Int) < 1 := by decide
  clear hO h1 h2 h4 hcell hS hlt
  go_wp2_with fail
  have hfd : ∀ (a b c d e : Value) (w : World), (Instr.field 106 (.agg #[a, b, c, d, e]) 2).run Try.prog w = .ok c w := fun a b c d e w => by first | rfl | kernel_rfl
  refine hT.mono ?_
  rintro e w3 ⟨rfl, c3⟩
  have hM2 := hMo.out w3 c3
  replace c1 := Lib.hid (c1.out.trans c3)
  clear hT hMo c3
  unfold R5.val
  go_wp2_with fail
  refine hM2.mono ?_
  rintro e w4 ⟨rfl, c4⟩
  have HC := Lib.hid (c1.out.trans c4)
  clear hM2 c1 c4
  go_wp2_with fail
  go_ret
  exact ⟨rfl, HC.out⟩

end Go.Proofs.Ytlmeponoadhheaa
