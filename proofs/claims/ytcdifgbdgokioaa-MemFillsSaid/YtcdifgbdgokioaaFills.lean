/-
  The law MemFills' walk.
-/
import Derived.Test.YtcdifgbdgokioaaOwn
namespace Go.Proofs.Ytcdifgbdgokioaa
open Go.RowKit

theorem fillTo_get (xs : List Int) (i : Nat) (x : Int) (j : Nat) (h : i + j ≤ xs.length) (m : Nat) (hm : m < xs.length) :
    (fillTo xs i x j).getD m 0 = if i ≤ m ∧ m < i + j then x else xs.getD m 0 := by
  induction j with
  | zero => simp [fillTo]; omega
  | succ j ih =>
    have hl := fillTo_length xs i x j
    have ih := ih (by omega)
    simp only [fillTo, List.getD_eq_getElem?_getD, List.getElem?_set] at ih ⊢
    by_cases e : i + j = m
    · subst e
      rw [if_pos rfl, if_pos (by omega), if_pos (by omega)]
      simp
    · rw [if_neg e, ih]
      by_cases c : i ≤ m ∧ m < i + j
      · rw [if_pos c, if_pos (by omega)]
      · rw [if_neg c, if_neg (by omega)]

theorem cutLen_small (s : Nat) (h : s ≤ 4096) : cutLen (s : Int) = s := by unfold cutLen; omega

theorem zeros_get (s m : Nat) : (List.replicate s (0 : Int)).getD m 0 = 0 := by
  simp [List.getD_eq_getElem?_getD, List.getElem?_replicate]
  split <;> rfl

set_option maxHeartbeats 1000000 in
theorem fills_no (s : Nat) (at_ k x c : Int) (w : World) (hs : s ≤ 255) (h : ¬ There s at_ k) (hc0 : 0 ≤ c) (hc1 : c ≤ 255)
    (hat : -9223372036854775808 ≤ at_ ∧ at_ ≤ 9223372036854775807) (hk : -9223372036854775808 ≤ k ∧ k ≤ 9223372036854775807) :
    Calls Try.prog 3 #[.int .u8 s, .int .i64 at_, .int .i64 k, .int .i64 x, .int .u8 c] w fun e w' => e = .returned (.bool true) ∧ Ch0 w w' := by
  have hcases : (at_ < 0) ∨ (0 ≤ at_ ∧ k < 0) ∨ (0 ≤ at_ ∧ 0 ≤ k ∧ (s : Int) < at_) ∨ (0 ≤ at_ ∧ 0 ≤ k ∧ at_ ≤ s ∧ (s : Int) - at_ < k) := by unfold There at h; omega
  have HT := Lib.hid h
  clear h
  obtain ⟨hat0, hat1⟩ := hat
  obtain ⟨hk0, hk1⟩ := hk
  rcases hcases with h | ⟨h, h2⟩ | ⟨h, h2, h3⟩ | ⟨h, h2, h3, h4⟩
  rotate_left 3
  have hd : decide (k ≤ (s : Int) - at_) = false := by simpa using h4
  all_goals
    go_enter Try.func3, Try.ntmps3
    go_wp2_with fail
    refine (awake_any _).mono ?_
    rintro e w0 ⟨rfl, c0⟩
    have C0 := Lib.hid c0
    clear c0
    go_wp2_with fail
    refine (new_any s _).mono ?_
    rintro e w1 ⟨p, b, rfl, h1, hp, hb, c1⟩
    rw [cutLen_small s (by omega)] at h1
    have C1 := Lib.hid (C0.out.trans c1)
    have H1 := Lib.hid h1
    clear h1 c1 C0
    go_wp2_with fail
    refine (new_any s _).mono ?_
    rintro e w2 ⟨p', b', rfl, h1, hp', hb', c1⟩
    rw [cutLen_small s (by omega)] at h1
    have C2 := Lib.hid (C1.out.trans c1)
    have H2 := Lib.hid h1
    have H1' := Lib.hid (H1.out.keep c1 (fun q => q) (fun q => q))
    clear h1 c1 C1 H1
    go_wp2_with fail
    refine (fill_no _ s at_ k x _ (by omega) (by simpa using len_any 52 p b _ _ H1'.out) HT.out).mono ?_
    rintro e w' ⟨rfl, rfl⟩
    go_wp2_with fail
    go_loopw [83] (fun i wr => ∃ j : Nat, j ≤ s ∧ i = .int .i64 j ∧ SameW w2 wr) (fun i _ => s - (intOf i).toNat)
    case atStart => exact ⟨0, Nat.zero_le _, rfl, SameW.rfl' _⟩
    case round =>
      obtain ⟨j, hj, rfl, hw⟩ := hrel
      obtain rfl : w2 = _ := hw
      by_cases hlt : j < s
      · have l1 := load_yes p b _ j _ H1'.out (by simpa using hlt)
        have l2 := load_yes p' b' _ j _ H2.out (by simpa using hlt)
        rw [zeros_get] at l1 l2
        have L1 := Lib.hid l1
        have L2 := Lib.hid l2
        clear l1 l2
        go_wp2_with fail
        refine L1.out.mono ?_
        rintro e w' ⟨rfl, rfl⟩
        go_wp2_with fail
        refine L2.out.mono ?_
        rintro e w' ⟨rfl, rfl⟩
        go_wp2_with fail
        go_roundw
        case rel => exact ⟨j + 1, by omega, by go_num, SameW.rfl' _⟩
        case measure => simp [intOf]; omega
      · obtain rfl : j = s := by omega
        go_wp2_with fail
        go_ret
        exact ⟨rfl, C2.out⟩

end Go.Proofs.Ytcdifgbdgokioaa
