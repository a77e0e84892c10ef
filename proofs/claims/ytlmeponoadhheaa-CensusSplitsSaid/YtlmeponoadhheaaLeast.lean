/-
  Contract of the document's least: the least class above one.
-/
import Derived.Test.YtlmeponoadhheaaCP
namespace Go.Proofs.Ytlmeponoadhheaa
set_option linter.unusedVariables false
open Go.RowKit

theorem copy_rrows {D : Nat → Prop} {w : World} {y : Value} {M : List R5} (hy : SeesR D w y M) (hlen : M.length < 4294967296) (ty : TypeId) :
    ∃ a' c' w', (Builtin.append_ #[103, 103] ty #[.slice (some ⟨w.heap.size, 0, none⟩) 0 0, y]).run Try.prog (w.alloc (.cells #[] 110)) = .ok (.slice a' M.length c') w' ∧ HasR w' 110 (fun k => w.heap.size ≤ k) (.slice a' M.length c') M ∧ Ch0 w w' := by
  have hrow : RowAt (w.alloc (.cells #[] 110)) 110 5 (.slice (some ⟨w.heap.size, 0, none⟩) 0 0) ([] : List R5).length (rcells []) :=
    ⟨rfl, .inr ⟨w.heap.size, 0, 0, #[], rfl, heap_alloc_new w _, Nat.le_refl _, by decide, by simp, by simp [rcells]⟩⟩
  obtain ⟨a', c', w2, hrun, r2, d2, b2⟩ := run_rrows hrow (by simp) (SeesR.keep hy ((Ch.refl (fun _ => False) w).alloc (.cells #[] 110)) (fun _ _ e => e)) hlen ty
  simp only [List.length_nil, Nat.zero_add, List.nil_append] at hrun r2 b2
  refine ⟨a', c', w2, hrun, ⟨r2, fun k hk => ?_⟩, ((Ch.refl (fun _ => False) w).alloc _).trans' d2 (fun _ _ e => e) (fun k hk e => ?_)⟩
  · rcases b2 with q | q
    · rw [q] at hk
      have e' : w.heap.size = k := by simpa [rblk] using hk
      omega
    · rw [q] at hk; cases hk; rw [World.size_alloc]; omega
  · have e' : w.heap.size = k := by simpa [rblk] using e
    omega

set_option maxRecDepth 100000 in
set_option maxHeartbeats 4000000 in
theorem least_of (D E : Nat → Prop) (va vb : Value) (A Bs : List R5) (ab : Int) (first : Bool) (w : World) (hsa : SeesR D w va A) (hsb : SeesR E w vb Bs) (ha : A.length ≤ 500) (hb : Bs.length ≤ 500) :
    Calls Try.prog 121 #[va, vb, .int .i64 ab, .bool first] w fun e w' => e = .returned (.tuple #[.int .i64 (leastF (A ++ Bs) ab first).1, .bool (leastF (A ++ Bs) ab first).2]) ∧ Ch0 w w' := by
  obtain ⟨a3, c3, w3, hrun1, r3, d3⟩ := copy_rrows hsa (by omega) 103
  obtain ⟨a4, c4, w4, hrun2, r4, d4, b4⟩ := run_rrows r3.1 (by omega) (SeesR.keep hsb d3 (fun _ _ e => e)) (by omega) 103
  obtain ⟨aa, ca, rfl, -⟩ := hsa.len
  obtain ⟨ac, cc, rfl, -⟩ := hsb.len
  have hl4 : (A ++ Bs).length = A.length + Bs.length := List.length_append
  have HS : Hid (SeesR (fun _ => True) w4 (.slice a4 (A.length + Bs.length) c4) (A ++ Bs)) := Lib.hid (HasR.sees (T := 110) ⟨r4, fun _ _ => trivial⟩)
  have HC : Hid (Ch0 w w4) := Lib.hid (d3.trans' d4 (fun _ _ e => e) (fun k hk e => by have := r3.2 k e; omega))
  obtain ⟨y, hy⟩ : ∃ y, leastF (A ++ Bs) ab first = y := ⟨_, rfl⟩
  rw [hy]
  replace hy := Lib.hid hy
  generalize hAB : A ++ Bs = AB at *
  generalize hn : A.length + Bs.length = n at *
  replace hl4 : AB.length = n := hl4
  have hn1 : n ≤ 1000 := by omega
  replace hl4 := Lib.hid hl4
  clear hsa hsb r3 d3 r4 d4 b4 hAB
  replace hn := Lib.hid hn
  go_enter Try.func121, Try.ntmps121
  go_wp2_with (at_builtin; first | (refine wpList_append_run rfl _ _ 103 103 rfl rfl rfl hrun1 ?_; clear hrun1) | (refine wpList_append_run rfl _ _ 103 103 rfl rfl rfl hrun2 ?_; clear hrun2))
  go_loopw [10, 11, 22] (fun o k i wr => ∃ j : Nat, j ≤ n ∧ i = .int .i64 j ∧ o = .int .i64 (leastF (AB.take j) ab first).1 ∧ k = .bool (leastF (AB.take j) ab first).2 ∧ Ch0 w4 wr) (fun _ _ i _ => n - (intOf i).toNat)
  case atStart => exact ⟨0, Nat.zero_le _, rfl, rfl, rfl, Ch.refl _ _⟩
  case round =>
    obtain ⟨j, hj, rfl, rfl, rfl, d⟩ := hrel
    by_cases hlt : j < n
    · have hlt' : j < AB.length := by have := hl4.out; omega
      obtain ⟨g, o, c', hDg, e2, hcell⟩ := (HS.out.keep d (fun _ _ e => e)).row (by omega)
      rw [hl4.out] at e2
      obtain ⟨rfl, rfl⟩ : a4 = some ⟨g, o, none⟩ ∧ c4 = c' := by simpa using e2
      obtain ⟨x0, -, -, -, -⟩ := hcell j hlt'
      have i1 : (0 : Int) ≤ j := by omega
      have i2 : (j : Int) < n := by omega
      have hsn : leastF (AB.take (j + 1)) ab first = leastS ab first (leastF (AB.take j) ab first) AB[j] := by rw [List.take_succ_eq_append_getElem hlt', leastF_snoc]
      unfold leastS at hsn
      clear e2 hcell
      generalize AB[j].cls = x at *
      generalize leastF (AB.take j) ab first = p at *
      generalize hP : leastF (AB.take (j + 1)) ab first = p' at *
      obtain ⟨p1, p2⟩ := p
      simp only at hsn
      replace d := Lib.hid d
      replace hP := Lib.hid hP
      have h7 : (first = true ∧ p2 = false ∧ p' = (x, true)) ∨ (first = true ∧ p2 = true ∧ decide (x < p1) = true ∧ p' = (x, true)) ∨ (first = true ∧ p2 = true ∧ decide (x < p1) = false ∧ p' = (p1, true)) ∨
          (first = false ∧ decide (ab < x) = true ∧ p2 = false ∧ p' = (x, true)) ∨ (first = false ∧ decide (ab < x) = true ∧ p2 = true ∧ decide (x < p1) = true ∧ p' = (x, true)) ∨ (first = false ∧ decide (ab < x) = true ∧ p2 = true ∧ decide (x < p1) = false ∧ p' = (p1, true)) ∨
          (first = false ∧ decide (ab < x) = false ∧ p' = (p1, p2)) := by
        rw [hsn]
        cases first <;> cases p2 <;> cases decide (ab < x) <;> cases decide (x < p1) <;> simp
      clear hsn
      rcases h7 with ⟨rfl, rfl, rfl⟩ | ⟨rfl, rfl, g1, rfl⟩ | ⟨rfl, rfl, g1, rfl⟩ | ⟨rfl, g1, rfl, rfl⟩ | ⟨rfl, g1, rfl, g2, rfl⟩ | ⟨rfl, g1, rfl, g2, rfl⟩ | ⟨rfl, g1, rfl⟩
      all_goals
        go_wp2_with fail
        go_roundw
        case rel => exact ⟨j + 1, by omega, by go_num, by rw [hP.out], by rw [hP.out], d.out⟩
        case measure => simp [intOf]; omega
    · have i2 : (n : Int) ≤ j := by omega
      have e1 : AB.take j = AB := List.take_of_length_le (by have := hl4.out; omega)
      rw [e1, hy.out]
      clear e1
      replace d := Lib.hid d
      go_wp2_with fail
      go_ret2
      exact ⟨rfl, HC.out.trans d.out⟩

end Go.Proofs.Ytlmeponoadhheaa
