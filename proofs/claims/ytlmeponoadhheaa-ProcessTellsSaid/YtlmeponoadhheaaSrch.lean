/-
  Contracts of cmp.Less, slices.BinarySearch, slices.Concat at integers; strength's Reach from a list.
-/
import Derived.Test.YtlmeponoadhheaaS3
import Derived.Test.YtlmeponoadhheaaProc3
namespace Go.Proofs.Ytlmeponoadhheaa
set_option linter.unusedVariables false
open Go.RowKit

set_option maxHeartbeats 400000 in
theorem cnan_any (x : Int) (w : World) : Calls Try.prog 144 #[.int .i64 x] w fun e w' => e = .returned (.bool false) ∧ SameW w w' := by
  go_enter Try.func144, Try.ntmps144
  go_wp2_with fail
  go_ret
  exact ⟨rfl, SameW.rfl' _⟩

set_option maxHeartbeats 400000 in
theorem snan_any (x : Int) (w : World) : Calls Try.prog 156 #[.int .i64 x] w fun e w' => e = .returned (.bool false) ∧ SameW w w' := by
  go_enter Try.func156, Try.ntmps156
  go_wp2_with fail
  go_ret
  exact ⟨rfl, SameW.rfl' _⟩

set_option maxHeartbeats 400000 in
theorem less_any (x y : Int) (w : World) : Calls Try.prog 151 #[.int .i64 x, .int .i64 y] w fun e w' => e = .returned (.bool (decide (x < y))) ∧ SameW w w' := by
  obtain ⟨r, hr⟩ : ∃ r, r = decide (x < y) := ⟨_, rfl⟩
  rw [← hr]
  have hr' : decide (x < y) = r := hr.symm
  clear hr
  go_enter Try.func151, Try.ntmps151
  go_wp2_with fail
  refine (cnan_any x w).mono ?_
  rintro e w1 ⟨rfl, hs⟩
  obtain rfl : w = w1 := hs
  go_wp2_with fail
  go_ret
  exact ⟨rfl, SameW.rfl' _⟩

set_option maxRecDepth 100000 in
set_option maxHeartbeats 1000000 in
theorem bins_any (D : Nat → Prop) (v : Value) (xs : List Int) (t : Int) (w : World) (h : SeesI D w v xs) (hup : xs.Pairwise (· < ·)) (hn : xs.length ≤ 1000000) :
    Calls Try.prog 142 #[v, .int .i64 t] w fun e w' => (∃ p : Int, e = .returned (.tuple #[.int .i64 p, .bool (decide (t ∈ xs))])) ∧ SameW w w' := by
  obtain ⟨a, c, rfl, hlen⟩ := h.len
  have HS := Lib.hid h
  have HU := Lib.hid hup
  clear h hup
  go_enter Try.func142, Try.ntmps142
  go_wp2_with fail
  go_loop [7, 8] (fun iv jv => ∃ i j : Nat, i ≤ j ∧ j ≤ xs.length ∧ iv = .int .i64 i ∧ jv = .int .i64 j ∧ (∀ m, m < i → xs.getD m 0 < t) ∧ (∀ m, j ≤ m → m < xs.length → t ≤ xs.getD m 0)) (fun iv jv => (intOf jv).toNat - (intOf iv).toNat)
  case atStart => exact ⟨0, xs.length, Nat.zero_le _, Nat.le_refl _, rfl, rfl, (fun m hm => by omega), (fun m h1 h2 => by omega)⟩
  case round =>
    obtain ⟨i, j, hij, hj, rfl, rfl, hlo, hhi⟩ := hrel
    by_cases hlt : i < j
    · obtain ⟨g, o, c1, -, e1, hcell⟩ := SeesI.cell HS.out (by omega)
      obtain ⟨rfl, rfl⟩ : a = some ⟨g, o, none⟩ ∧ c = c1 := by simpa using e1
      obtain ⟨q, hq⟩ : ∃ q : Nat, q = (i + j) / 2 := ⟨_, rfl⟩
      have hx := hcell q (by omega)
      have i1 : (0 : Int) ≤ q := by omega
      have i2 : (q : Int) < xs.length := by omega
      have g1 : decide ((i : Int) < j) = true := decide_eq_true (by omega)
      have y1 : IntKind.i64.wrap ((i : Int) + j) = (i : Int) + j := IntWalk.i64_in _ (by omega)
      have y3 : ((i : Int) + j) / 2 = (q : Int) := by omega
      have hL := less_any (xs.getD q 0) t w
      have hle : ∀ m, m < q → xs.getD m 0 < xs.getD q 0 := fun m hm => by
        have := List.pairwise_iff_getElem.1 HU.out m q (by omega) (by omega) hm
        simpa [List.getD_eq_getElem?_getD, show m < xs.length by omega, show q < xs.length by omega] using this
      have hge : ∀ m, q ≤ m → m < xs.length → xs.getD q 0 ≤ xs.getD m 0 := fun m hm hml => by
        rcases Nat.eq_or_lt_of_le hm with e | e
        · rw [e]; exact Int.le_refl _
        · have := List.pairwise_iff_getElem.1 HU.out q m (by omega) (by omega) e
          simpa [List.getD_eq_getElem?_getD, show m < xs.length by omega, show q < xs.length by omega] using Int.le_of_lt this
      replace hlo := Lib.hid hlo
      replace hhi := Lib.hid hhi
      replace hle := Lib.hid hle
      replace hge := Lib.hid hge
      replace hq := Lib.hid hq
      clear hcell e1
      by_cases hXt : xs.getD q 0 < t
      · rw [decide_eq_true hXt] at hL
        have HE : Hid (∀ m, m < q + 1 → xs.getD m 0 < t) := Lib.hid (fun m hm => by
          by_cases e : m = q
          · rw [e]; exact hXt
          · have := hle.out m (by omega); omega)
        clear hXt
        generalize xs.getD q 0 = X at *
        go_wp2_with fail
        refine hL.mono ?_
        rintro e w1 ⟨rfl, hs⟩
        obtain rfl : w = w1 := hs
        clear hL
        go_wp2_with fail
        go_round
        case rel => exact ⟨q + 1, j, by have := hq.out; omega, hj, by go_num, rfl, HE.out, hhi.out⟩
        case measure => have := hq.out; simp [intOf]; omega
      · rw [decide_eq_false hXt] at hL
        have HE : Hid (∀ m, q ≤ m → m < xs.length → t ≤ xs.getD m 0) := Lib.hid (fun m hm hml => by have := hge.out m hm hml; omega)
        clear hXt
        generalize xs.getD q 0 = X at *
        go_wp2_with fail
        refine hL.mono ?_
        rintro e w1 ⟨rfl, hs⟩
        obtain rfl : w = w1 := hs
        clear hL
        go_wp2_with fail
        go_round
        case rel => exact ⟨i, q, by have := hq.out; omega, by omega, rfl, rfl, hlo.out, HE.out⟩
        case measure => have := hq.out; simp [intOf]; omega
    · obtain rfl : i = j := by omega
      have hmem : ∀ b : Bool, (b = true ↔ i < xs.length ∧ xs.getD i 0 = t) → decide (t ∈ xs) = b := fun b hb => by
        by_cases ht : t ∈ xs
        · rw [decide_eq_true ht]
          obtain ⟨m, hm, rfl⟩ := List.mem_iff_getElem.1 ht
          refine (hb.2 ?_).symm
          have em : xs.getD m 0 = xs[m] := by simp [List.getD_eq_getElem?_getD, hm]
          rcases Nat.lt_trichotomy m i with q | q | q
          · have := hlo m q; omega
          · subst q; exact ⟨hm, em⟩
          · have h1 := hhi i (Nat.le_refl _) (by omega)
            have := List.pairwise_iff_getElem.1 HU.out i m (by omega) hm q
            have ei : xs.getD i 0 = xs[i] := by rw [List.getD_eq_getElem?_getD, List.getElem?_eq_getElem (by omega)]; rfl
            omega
        · rw [decide_eq_false ht]
          cases b with
          | false => rfl
          | true =>
            obtain ⟨q1, q2⟩ := hb.1 rfl
            exact absurd (by rw [← q2, List.getD_eq_getElem?_getD, List.getElem?_eq_getElem q1]; exact List.getElem_mem _) ht
      replace hmem := Lib.hid hmem
      clear hlo hhi
      by_cases hlt2 : i < xs.length
      · obtain ⟨g, o, c1, -, e1, hcell⟩ := SeesI.cell HS.out (by omega)
        obtain ⟨rfl, rfl⟩ : a = some ⟨g, o, none⟩ ∧ c = c1 := by simpa using e1
        have hx := hcell i hlt2
        have i1 : (0 : Int) ≤ i := by omega
        have i2 : (i : Int) < xs.length := by omega
        have hb := hmem.out
        have hnx := snan_any (xs.getD i 0) w
        clear hcell e1
        by_cases he : xs.getD i 0 = t
        · have e0 : (xs.getD i 0 == t) = true := by simpa using he
          have HE : Hid (decide (t ∈ xs) = true) := Lib.hid (hb true ⟨fun _ => ⟨hlt2, he⟩, fun _ => rfl⟩)
          clear hb he hmem hnx
          generalize xs.getD i 0 = X at *
          go_wp2_with fail
          go_ret2
          exact ⟨⟨_, by rw [HE.out]; rfl⟩, SameW.rfl' _⟩
        · have e0 : (xs.getD i 0 == t) = false := by simpa using he
          have HE : Hid (decide (t ∈ xs) = false) := Lib.hid (hb false ⟨(fun h => by cases h), fun q => absurd q.2 he⟩)
          clear hb he hmem
          generalize xs.getD i 0 = X at *
          go_wp2_with fail
          refine hnx.mono ?_
          rintro e w1 ⟨rfl, hs⟩
          obtain rfl : w = w1 := hs
          clear hnx
          go_wp2_with fail
          go_ret2
          exact ⟨⟨_, by rw [HE.out]; rfl⟩, SameW.rfl' _⟩
      · have HE : Hid (decide (t ∈ xs) = false) := Lib.hid (hmem.out false (by simp [hlt2]))
        have i2 : (xs.length : Int) ≤ i := by omega
        clear hmem
        go_wp2_with fail
        go_ret2
        exact ⟨⟨_, by rw [HE.out]; rfl⟩, SameW.rfl' _⟩

end Go.Proofs.Ytlmeponoadhheaa
