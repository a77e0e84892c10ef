/-
  Contracts of Fill, Store, Move, Words, slices.Clone.
-/
import Derived.Test.YtcdifgbdgokioaaWalks
namespace Go.Proofs.Ytcdifgbdgokioaa
open Go.RowKit

/-- xs with x in the places i, .., i + j - 1 -/
def fillTo (xs : List Int) (i : Nat) (x : Int) : Nat → List Int
  | 0 => xs
  | j + 1 => (fillTo xs i x j).set (i + j) x

theorem fillTo_length (xs : List Int) (i : Nat) (x : Int) (j : Nat) : (fillTo xs i x j).length = xs.length := by
  induction j with
  | zero => rfl
  | succ j ih => simp [fillTo, ih]

set_option maxHeartbeats 400000 in
theorem fill_yes (p b : Nat) (xs : List Int) (i k : Nat) (x : Int) (w : World) (h : Ar 52 w p b xs) (h1 : 0 < k) (h2 : i + k ≤ xs.length) :
    Calls Try.prog 11 #[.pointer (some ⟨p, 0, none⟩), .int .i64 i, .int .i64 k, .int .i64 x] w fun e w' =>
      e = .returned (.int .i64 0) ∧ Ar 52 w' p b (fillTo xs i x k) ∧ Ch (· = b) w w' := by
  have hs := Lib.hid (stretch_yes p b xs i k w h h1 h2)
  have hle := h.le
  go_enter Try.func11, Try.ntmps11
  go_wp2_with fail
  refine hs.out.mono ?_
  rintro e w' ⟨rfl, rfl⟩
  go_wp2
  go_loopw [23] (fun v wr => ∃ j : Nat, j ≤ k ∧ v = .int .i64 j ∧ Ar 52 wr p b (fillTo xs i x j) ∧ Ch (· = b) w wr) (fun v _ => k - (intOf v).toNat)
  case atStart => exact ⟨0, Nat.zero_le _, rfl, h, Ch.refl _ _⟩
  case round =>
    obtain ⟨j, hj, rfl, ha, hc⟩ := hrel
    clear h hs
    by_cases hlt : j < k
    · have hlen := fillTo_length xs i x j
      have hcell := cell_ints ha.row (i + j) (by omega)
      have hfr := frozen_of_row wr b (i + j) _ _ ha.row
      have HL := Lib.hid hlen
      clear hlen
      go_wp2
      go_roundw
      case rel =>
        refine ⟨j + 1, by omega, by go_num, ⟨?_, ?_, ha.ne, ?_⟩, ?_⟩
        · rw [heap_setCell_other _ _ _ _ ha.ne, ha.hdr, fillTo_length, fillTo_length]
        · rw [heap_setCell_same _ _ _ _ _ _ ha.row, ints_set]; rfl
        · rw [fillTo_length]; exact hle
        · exact hc.setCell (fun _ => rfl) _
      case measure => simp [intOf]; omega
    · obtain rfl : j = k := by omega
      go_wp2
      go_ret
      exact ⟨rfl, ha, hc⟩

set_option maxHeartbeats 400000 in
theorem fill_zero (v : Value) (n : Nat) (i : Nat) (x : Int) (w : World) (hle : n ≤ 4096) (hlen : Calls Try.prog 15 #[v] w fun e w' => e = .returned (.int .i64 n) ∧ w = w') (h2 : i ≤ n) :
    Calls Try.prog 11 #[v, .int .i64 i, .int .i64 0, .int .i64 x] w fun e w' => e = .returned (.int .i64 0) ∧ w = w' := by
  have hs := Lib.hid (stretch_zero v n i w hle hlen h2)
  clear hlen
  go_enter Try.func11, Try.ntmps11
  go_wp2_with fail
  refine hs.out.mono ?_
  rintro e w' ⟨rfl, rfl⟩
  go_wp2
  refine wp_loop_rounds 1 ?_
  rw [rounds_succ]
  go_wp2
  go_ret
  exact ⟨rfl, rfl⟩

set_option maxHeartbeats 400000 in
theorem fill_no (v : Value) (n : Nat) (i k : Int) (x : Int) (w : World) (hle : n ≤ 4096) (hlen : Calls Try.prog 15 #[v] w fun e w' => e = .returned (.int .i64 n) ∧ w = w') (h : ¬ There n i k) :
    Calls Try.prog 11 #[v, .int .i64 i, .int .i64 k, .int .i64 x] w fun e w' => e = .returned (.int .i64 2) ∧ w = w' := by
  have hs := Lib.hid (stretch_no v n i k w hle hlen h)
  clear hlen
  go_enter Try.func11, Try.ntmps11
  go_wp2_with fail
  refine hs.out.mono ?_
  rintro e w' ⟨rfl, rfl⟩
  go_wp2
  go_ret
  exact ⟨rfl, rfl⟩

/-- Fill, at whatever place. -/
theorem fill_any (p b : Nat) (xs : List Int) (i k : Int) (x : Int) (w : World) (h : Ar 52 w p b xs) :
    Calls Try.prog 11 #[.pointer (some ⟨p, 0, none⟩), .int .i64 i, .int .i64 k, .int .i64 x] w fun e w' =>
      e = .returned (.int .i64 (if There xs.length i k then 0 else 2)) ∧ Ar 52 w' p b (if There xs.length i k then fillTo xs i.toNat x k.toNat else xs) ∧ Ch (· = b) w w' := by
  have hle := h.le
  have hlen := len_any 52 p b xs w h
  by_cases ht : There xs.length i k
  · simp only [if_pos ht]
    unfold There at ht
    obtain ⟨i, rfl⟩ := Int.eq_ofNat_of_zero_le ht.2.1
    obtain ⟨k, rfl⟩ := Int.eq_ofNat_of_zero_le ht.1
    simp only [Int.toNat_natCast]
    by_cases hk : 0 < k
    · exact fill_yes p b xs i k x w h hk (by omega)
    · obtain rfl : k = 0 := by omega
      refine (fill_zero _ _ i x w hle hlen (by omega)).mono ?_
      rintro e w' ⟨rfl, rfl⟩
      exact ⟨rfl, h, Ch.refl _ _⟩
  · simp only [if_neg ht]
    refine (fill_no _ _ i k x w hle hlen ht).mono ?_
    rintro e w' ⟨rfl, rfl⟩
    exact ⟨rfl, h, Ch.refl _ _⟩

/-- Store is Fill of one word. -/
theorem store_of {R : World → Prop} (v : Value) (i x : Int) (w : World) (c : Int) (hf : Calls Try.prog 11 #[v, .int .i64 i, .int .i64 1, .int .i64 x] w fun e w' => e = .returned (.int .i64 c) ∧ R w') :
    Calls Try.prog 13 #[v, .int .i64 i, .int .i64 x] w fun e w' => e = .returned (.int .i64 c) ∧ R w' := by
  have HF := Lib.hid hf
  clear hf
  go_enter Try.func13, Try.ntmps13
  go_wp2_with fail
  refine HF.out.mono ?_
  rintro e w' ⟨rfl, hR⟩
  have HR := Lib.hid hR
  clear hR
  go_wp2
  go_ret
  exact ⟨rfl, HR.out⟩

theorem There_one (n : Nat) (i : Int) : There n i 1 ↔ 0 ≤ i ∧ i < n := by unfold There; omega

theorem store_any (p b : Nat) (xs : List Int) (i x : Int) (w : World) (h : Ar 52 w p b xs) :
    Calls Try.prog 13 #[.pointer (some ⟨p, 0, none⟩), .int .i64 i, .int .i64 x] w fun e w' =>
      e = .returned (.int .i64 (if 0 ≤ i ∧ i < xs.length then 0 else 2)) ∧ Ar 52 w' p b (if 0 ≤ i ∧ i < xs.length then xs.set i.toNat x else xs) ∧ Ch (· = b) w w' := by
  refine (store_of _ _ _ _ _ (fill_any p b xs i 1 x w h)).mono ?_
  rintro e w' ⟨rfl, ha, hc⟩
  refine ⟨?_, ?_, hc⟩
  · simp only [There_one]
  · simpa only [There_one, Int.toNat_one, fillTo, Nat.add_zero] using ha

theorem store_yes (p b : Nat) (xs : List Int) (i : Nat) (x : Int) (w : World) (h : Ar 52 w p b xs) (hi : i < xs.length) :
    Calls Try.prog 13 #[.pointer (some ⟨p, 0, none⟩), .int .i64 i, .int .i64 x] w fun e w' => e = .returned (.int .i64 0) ∧ Ar 52 w' p b (xs.set i x) ∧ Ch (· = b) w w' := by
  have hc : 0 ≤ (i : Int) ∧ (i : Int) < xs.length := by omega
  simpa only [if_pos hc, Int.toNat_natCast] using store_any p b xs i x w h

theorem store_no (v : Value) (n : Nat) (i : Int) (x : Int) (w : World) (hle : n ≤ 4096) (hlen : Calls Try.prog 15 #[v] w fun e w' => e = .returned (.int .i64 n) ∧ w = w') (h : ¬ (0 ≤ i ∧ i < n)) :
    Calls Try.prog 13 #[v, .int .i64 i, .int .i64 x] w fun e w' => e = .returned (.int .i64 2) ∧ w = w' := by
  exact store_of _ _ _ _ _ (fill_no v n i 1 x w hle hlen (by rw [There_one]; exact h))

theorem load_any (p b : Nat) (xs : List Int) (i : Int) (w : World) (h : Ar 52 w p b xs) :
    Calls Try.prog 12 #[.pointer (some ⟨p, 0, none⟩), .int .i64 i] w fun e w' =>
      e = .returned (.tuple #[.int .i64 (if 0 ≤ i ∧ i < xs.length then xs.getD i.toNat 0 else 0), .int .i64 (if 0 ≤ i ∧ i < xs.length then 0 else 2)]) ∧ w = w' := by
  by_cases hi : 0 ≤ i ∧ i < xs.length
  · simp only [if_pos hi]
    obtain ⟨i, rfl⟩ := Int.eq_ofNat_of_zero_le hi.1
    simpa only [Int.toNat_natCast] using load_yes p b xs i w h (by omega)
  · simp only [if_neg hi]
    exact load_no _ _ i w h.le (len_any 52 p b xs w h) hi

end Go.Proofs.Ytcdifgbdgokioaa
