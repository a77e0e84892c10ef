/-
  Contracts of the document's arena: Store, Fill, Move.
-/
import Derived.Test.YtcdifgbdgokioaaRef
namespace Go.Proofs.Ytcdifgbdgokioaa
open Go.RowKit

set_option maxHeartbeats 400000 in
theorem rstore_any (p b : Nat) (xs : List Int) (i x : Int) (w : World) (h : Ar 45 w p b xs) :
    Calls Try.prog 19 #[.pointer (some ⟨p, 0, none⟩), .int .i64 i, .int .i64 x] w fun e w' =>
      e = .returned (.int .i64 (if 0 ≤ i ∧ i < xs.length then 0 else 2)) ∧ Ar 45 w' p b (if 0 ≤ i ∧ i < xs.length then xs.set i.toNat x else xs) ∧ Ch (· = b) w w' := by
  have hc := cell_of_one h.hdr
  have hle := h.le
  by_cases hi : 0 ≤ i ∧ i < xs.length
  · simp only [if_pos hi]
    obtain ⟨i, rfl⟩ := Int.eq_ofNat_of_zero_le hi.1
    have hlt : i < xs.length := by omega
    have hcell := cell_ints h.row i hlt
    have hfr := frozen_of_row w b i _ _ h.row
    have HA := Lib.hid h
    clear h hi
    go_enter Try.func19, Try.ntmps19
    go_wp2
    go_ret
    refine ⟨rfl, ⟨?_, ?_, HA.out.ne, ?_⟩, ?_⟩
    · rw [heap_setCell_other _ _ _ _ HA.out.ne, HA.out.hdr]; simp
    · rw [heap_setCell_same _ _ _ _ _ _ HA.out.row, ints_set]; rfl
    · simpa using HA.out.le
    · exact Ch.setCell (S := (· = b)) (Ch.refl _ w) (fun _ => rfl) _
  · simp only [if_neg hi]
    have HA := Lib.hid h
    clear h
    by_cases h0 : i < 0
    · clear hi
      go_enter Try.func19, Try.ntmps19
      go_wp2
      go_ret
      exact ⟨rfl, HA.out, Ch.refl _ _⟩
    · have h1 : (xs.length : Int) ≤ i := by omega
      clear hi
      go_enter Try.func19, Try.ntmps19
      go_wp2
      go_ret
      exact ⟨rfl, HA.out, Ch.refl _ _⟩

set_option maxHeartbeats 400000 in
theorem rfill_any (p b : Nat) (xs : List Int) (i k x : Int) (w : World) (h : Ar 45 w p b xs) :
    Calls Try.prog 21 #[.pointer (some ⟨p, 0, none⟩), .int .i64 i, .int .i64 k, .int .i64 x] w fun e w' =>
      e = .returned (.int .i64 (if There xs.length i k then 0 else 2)) ∧ Ar 45 w' p b (if There xs.length i k then fillTo xs i.toNat x k.toNat else xs) ∧ Ch (· = b) w w' := by
  have hth := there_any p b xs i k w h
  have hle := h.le
  by_cases ht : There xs.length i k
  · simp only [if_pos ht]
    rw [decide_eq_true ht] at hth
    unfold There at ht
    obtain ⟨i, rfl⟩ := Int.eq_ofNat_of_zero_le ht.2.1
    obtain ⟨k, rfl⟩ := Int.eq_ofNat_of_zero_le ht.1
    simp only [Int.toNat_natCast]
    have HT := Lib.hid hth
    have hik : i + k ≤ xs.length := by omega
    clear hth ht
    go_enter Try.func21, Try.ntmps21
    go_wp2_with fail
    refine HT.out.mono ?_
    rintro e w' ⟨rfl, rfl⟩
    go_wp2_with fail
    go_loopw [9] (fun v wr => ∃ j : Nat, j ≤ k ∧ v = .int .i64 j ∧ Ar 45 wr p b (fillTo xs i x j) ∧ Ch (· = b) w wr) (fun v _ => k - (intOf v).toNat)
    case atStart => exact ⟨0, Nat.zero_le _, rfl, h, Ch.refl _ _⟩
    case round =>
      obtain ⟨j, hj, rfl, ha, hc⟩ := hrel
      clear h
      by_cases hlt : j < k
      · have hlen := fillTo_length xs i x j
        have hh := cell_of_one ha.hdr
        have hcell := cell_ints ha.row (i + j) (by omega)
        have hfr := frozen_of_row wr b (i + j) _ _ ha.row
        rw [hlen] at hh
        have HL := Lib.hid hlen
        have HA := Lib.hid ha
        have HC := Lib.hid hc
        clear hlen ha hc
        go_wp2
        go_roundw
        case rel =>
          refine ⟨j + 1, by omega, by go_num, ⟨?_, ?_, HA.out.ne, ?_⟩, ?_⟩
          · rw [heap_setCell_other _ _ _ _ HA.out.ne, HA.out.hdr, fillTo_length, fillTo_length]
          · rw [heap_setCell_same _ _ _ _ _ _ HA.out.row, ints_set]; rfl
          · rw [fillTo_length]; exact hle
          · exact HC.out.setCell (fun _ => rfl) _
        case measure => simp [intOf]; omega
      · obtain rfl : j = k := by omega
        have HA := Lib.hid ha
        have HC := Lib.hid hc
        clear ha hc
        go_wp2
        go_ret
        exact ⟨rfl, HA.out, HC.out⟩
  · simp only [if_neg ht]
    rw [decide_eq_false ht] at hth
    have HT := Lib.hid hth
    have HA := Lib.hid h
    clear hth ht h
    go_enter Try.func21, Try.ntmps21
    go_wp2_with fail
    refine HT.out.mono ?_
    rintro e w' ⟨rfl, rfl⟩
    go_wp2_with fail
    go_ret
    exact ⟨rfl, HA.out, Ch.refl _ _⟩

end Go.Proofs.Ytcdifgbdgokioaa
