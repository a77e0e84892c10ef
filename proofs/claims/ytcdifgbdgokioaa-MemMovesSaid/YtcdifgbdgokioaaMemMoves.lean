/- The law MemMoves holds at every input: words that are moved, wherever the stretches overlap, are there as they were; all others stay. No condition. -/
import Derived.Test.YtcdifgbdgokioaaMoves
import Derived.Test.YtcdifgbdgokioaaLaw
namespace Go.Proofs.Ytcdifgbdgokioaa.memMoves
open Go.ChangeShapes Go.WideShapes Go.ChangeAt Go.RowKit

theorem own : ownKnob Try.prog.godebug = none := by kernel_rfl
theorem laidOut : laidOutB Try.prog = true := by kernel_rfl

set_option maxRecDepth 100000 in
theorem lifted (os : Os) (started : os.Started) (H : Type) (enc : TypeId × Value → H) :
    ReturnsInHanded {} Try.checked os 4 .any (Rows.memMovesSpec.pre6 enc Try.prog Try.f4 Rows.memMovesRow.domain false) (Rows.memMovesSpec.post enc Try.prog Try.f4 false true false false) := by
  refine returnsInHanded_of_change (C := Try.checked) own started (by kernel_rfl) Try.func4
    (ChangeSpec.witness6 (enc := enc) (C := Try.checked) false ⟨#[], #[.slice none 0 0, .int .u64 0, .int .u64 0, .int .u64 0], []⟩ 8 (by kernel_rfl) (by kernel_rfl) (by kernel_rfl) (by kernel_rfl)) ?_
  intro W base args ds gs before hval0 hW hcnd _
  have hval : ∀ (j : Nat) t v, Try.f4.params[j]? = some t → args[j]? = some v → Value.okWide Try.prog W .any base t v := hval0
  refine law_step (s := Rows.memMovesSpec) laidOut rfl (tb := 4) (by kernel_rfl) Try.underlying4 (of_decide_eq_true (by kernel_rfl)) hW (fun ds h => ?_) (fun p hA => ?_)
  · rw [Try.params4] at h
    match ds, h with
    | [d0, d1, d2, d3], _ => rfl
  · rw [Try.params4] at hA hval
    obtain ⟨v0, vs0, d0, ds0, p0, q0, hargs, rfl, rfl, h0, r0⟩ := trodAll_cons hA
    obtain ⟨v1, vs1, d1, ds1, p1, q1, rfl, rfl, rfl, h1, r1⟩ := trodAll_cons r0
    obtain ⟨v2, vs2, d2, ds2, p2, q2, rfl, rfl, rfl, h2, r2⟩ := trodAll_cons r1
    obtain ⟨v3, vs3, d3, ds3, p3, q3, rfl, rfl, rfl, h3, r3⟩ := trodAll_cons r2
    obtain ⟨rfl, rfl, rfl⟩ := trodAll_nil r3
    obtain rfl : args = #[v0, v1, v2, v3] := by cases args; simp_all
    have hk0 := hval 0 30 v0 rfl rfl
    obtain ⟨a1, rfl, rfl, rfl, w1⟩ := open_int Try.underlying31 (hval 1 31 v1 rfl rfl) h1
    simp [Lit.wf, IntKind.min, IntKind.max, IntKind.signed, IntKind.bits] at w1
    obtain ⟨a2, rfl, rfl, rfl, w2⟩ := open_int Try.underlying31 (hval 2 31 v2 rfl rfl) h2
    simp [Lit.wf, IntKind.min, IntKind.max, IntKind.signed, IntKind.bits] at w2
    obtain ⟨a3, rfl, rfl, rfl, w3⟩ := open_int Try.underlying31 (hval 3 31 v3 rfl rfl) h3
    simp [Lit.wf, IntKind.min, IntKind.max, IntKind.signed, IntKind.bits] at w3
    obtain ⟨vs, hs, -⟩ := open_seesI Try.underlying30 Try.underlying3 (by kernel_rfl) hk0 h0
    obtain ⟨t, rfl⟩ := Int.eq_ofNat_of_zero_le w1.1
    obtain ⟨f, rfl⟩ := Int.eq_ofNat_of_zero_le w2.1
    obtain ⟨k, rfl⟩ := Int.eq_ofNat_of_zero_le w3.1
    by_cases hm : 200 < vs.length ∨ vs.length = 0
    · exact (moves_out v0 vs t f k W hs hm).mono fun e W' ⟨he, hc⟩ => ⟨he, hc.of0.below (Nat.le_refl _)⟩
    · exact (moves_walk v0 vs t f k W hs (by omega) (by omega) (by omega) (by omega) (by omega)).mono fun e W' ⟨he, hc⟩ => ⟨he, hc.of0.below (Nat.le_refl _)⟩

theorem over : Rows.memMovesRow.holds Try.pinned (OpenSpec.ofChange Rows.memMovesSpec) :=
  OpenClaim.holds_of_wide 4 Try.f4 rfl rfl rfl rfl rfl rfl rfl ⟨rfl, rfl, rfl, rfl, rfl⟩ rfl rfl rfl rfl rfl (by kernel_rfl) Try.func4 (by kernel_rfl)
    (of_decide_eq_true (by kernel_rfl)) (by unfold Func.isWrapper; first | (rw [if_pos (by decide +kernel)]; kernel_rfl) | (rw [if_neg (by decide +kernel)]; exact ⟨rfl, rfl⟩))
    (fun os started H enc _ => lifted os started H enc)

theorem proved : Rows.MemMovesSaid := over
#print axioms proved
end Go.Proofs.Ytcdifgbdgokioaa.memMoves
