/-
  Contract of the document's Same: are two lists of integers alike?
-/
import Derived.Test.YtlmccjmbidfflaaAppend
import Derived.Deep.QuietTactic
import Derived.BigQuiet
namespace Go.Proofs.Ytlmccjmbidfflaa
set_option linter.unusedVariables false
open Go.RowKit

theorem ch_drewN (w : World) (n : Nat) : Ch0 w (w.drewN n) := (Ch.refl _ _).drewN n

theorem sees_drewN {D : Nat → Prop} {w : World} {v : Value} {size n : Nat} {l : List Value} (h : Sees D w v size n l) (k : Nat) : Sees D (w.drewN k) v size n l := h.keep (ch_drewN w k) (fun _ _ q => q)

theorem ext_getD {xs ys : List Int} (hl : xs.length = ys.length) (h : ∀ m, m < xs.length → xs.getD m 0 = ys.getD m 0) : xs = ys := by
  apply List.ext_getElem hl
  intro m h1 h2
  have := h m h1
  simpa [List.getD_eq_getElem?_getD, List.getElem?_eq_getElem h1, List.getElem?_eq_getElem h2] using this

theorem getD_eq_of {xs ys : List Int} (hl : xs.length = ys.length) (h : ∀ m, m < xs.length → xs.getD m 0 = ys.getD m 0) : xs = ys := ext_getD hl h

set_option maxHeartbeats 400000 in
theorem same_any (D E : Nat → Prop) (u v : Value) (xs ys : List Int) (w : World) (hu : SeesI D w u xs) (hv : SeesI E w v ys) :
    Calls Try.prog 13 #[u, v] w fun e w' => e = .returned (.bool (decide (xs = ys))) ∧ ∃ n, w' = w.drewN n := by
  obtain ⟨a, c, rfl, hxl⟩ := hu.len
  obtain ⟨a', c', rfl, hyl⟩ := hv.len
  by_cases hl : xs.length = ys.length
  · have t0 : ((xs.length : Int) != ys.length) = false := by rw [hl]; simp
    have hl' : decide (xs.length = ys.length) = true := by simpa using hl
    have HL := Lib.hid hl
    clear hl hl'
    go_enter Try.func13, Try.ntmps13
    go_wp2
    go_loopw [13] (fun i wr => ∃ j : Nat, j ≤ xs.length ∧ i = .int .i64 j ∧ (∀ m, m < j → xs.getD m 0 = ys.getD m 0) ∧ ∃ n, wr = w.drewN n) (fun i _ => xs.length - (intOf i).toNat)
    case atStart => exact ⟨0, Nat.zero_le _, rfl, fun m hm => by omega, 0, rfl⟩
    case round =>
      obtain ⟨j, hj, rfl, heq, nq, rfl⟩ := hrel
      by_cases hlt : j < xs.length
      · obtain ⟨g, o, c1, -, hs1, hc1⟩ := SeesI.cell hu (by omega)
        have hlt' : j < ys.length := by rw [← HL.out]; exact hlt
        obtain ⟨g', o', c2, -, hs2, hc2⟩ := SeesI.cell hv (by omega)
        obtain ⟨rfl, rfl⟩ : a = some ⟨g, o, none⟩ ∧ c = c1 := by simpa using hs1
        obtain ⟨rfl, rfl⟩ : a' = some ⟨g', o', none⟩ ∧ c' = c2 := by simpa using hs2
        have h1 := hc1 j hlt
        have h2 := hc2 j hlt'
        have HE := Lib.hid heq
        clear hs1 hs2 hc1 hc2 heq hu hv
        generalize hX : xs.getD j 0 = X at *
        generalize hY : ys.getD j 0 = Y at *
        have HX := Lib.hid hX
        have HY := Lib.hid hY
        clear hX hY
        have i1 : (0 : Int) ≤ j := by omega
        have i2 : (j : Int) < xs.length := by omega
        have i3 : (j : Int) < ys.length := by omega
        go_wp2
        go_quiet (fail)
        by_cases hxy : X = Y
        · have t1 : (X != Y) = false := by simpa using hxy
          clear hxy
          go_wp2
          go_roundw
          case rel =>
            refine ⟨j + 1, by omega, by go_num, ?_, _, rfl⟩
            intro m hm
            by_cases e : m = j
            · subst e; rw [HX.out, HY.out]; simpa using t1
            · exact HE.out m (by omega)
          case measure => simp [intOf]; omega
        · have t1 : (X != Y) = true := by simpa using hxy
          have hd : decide (xs = ys) = false := by
            apply decide_eq_false
            intro h
            rw [h] at HX
            exact hxy (HX.out.symm.trans HY.out)
          have HD := Lib.hid hd
          clear hd hxy
          go_wp2
          go_ret
          exact ⟨by rw [HD.out]; rfl, _, by first | rfl | exact World.drewN_drewN _ _ _⟩
      · obtain rfl : j = xs.length := by omega
        have hd : decide (xs = ys) = true := decide_eq_true (getD_eq_of HL.out heq)
        have HD := Lib.hid hd
        clear hd heq
        go_wp2
        go_ret
        exact ⟨by rw [HD.out]; rfl, _, by first | rfl | exact World.drewN_drewN _ _ _⟩
  · have t0 : ((xs.length : Int) != ys.length) = true := bne_iff_ne.2 (by omega)
    have hd : decide (xs = ys) = false := decide_eq_false fun h => hl (by rw [h])
    have HD := Lib.hid hd
    clear hd hl
    go_enter Try.func13, Try.ntmps13
    go_wp2
    go_ret
    exact ⟨by rw [HD.out]; rfl, 0, rfl⟩

end Go.Proofs.Ytlmccjmbidfflaa
