/-
  The law MemFills' walk where the stretch is there.
-/
import Derived.Test.YtcdifgbdgokioaaFills
namespace Go.Proofs.Ytcdifgbdgokioaa
open Go.RowKit

theorem fills_get (s at_ k m : Nat) (x : Int) (h : at_ + k ≤ s) (hm : m ≤ k) (i : Nat) (hi : i < s) :
    (fillTo (List.replicate s 0) at_ x k).getD i 0 = (if at_ ≤ i ∧ i < at_ + k then x else 0) ∧
    (fillTo (fillTo (List.replicate s 0) at_ x m) (at_ + m) x (k - m)).getD i 0 = (if at_ ≤ i ∧ i < at_ + k then x else 0) := by
  have e1 := fillTo_get (List.replicate s 0) at_ x k (by simpa using h) i (by simpa using hi)
  have e2 := fillTo_get (List.replicate s 0) at_ x m (by simp; omega) i (by simpa using hi)
  have e3 := fillTo_get (fillTo (List.replicate s 0) at_ x m) (at_ + m) x (k - m) (by rw [fillTo_length]; simp; omega) i (by rw [fillTo_length]; simpa using hi)
  rw [zeros_get] at e1 e2
  refine ⟨e1, ?_⟩
  rw [e3, e2]
  by_cases c : at_ ≤ i ∧ i < at_ + k
  · rw [if_pos c]
    by_cases c2 : at_ + m ≤ i ∧ i < at_ + m + (k - m)
    · rw [if_pos c2]
    · rw [if_neg c2, if_pos (by omega)]
  · rw [if_neg c, if_neg (by omega), if_neg (by omega)]

set_option maxHeartbeats 1000000 in
theorem fills_yes (s at_ k : Nat) (x : Int) (c : Nat) (w : World) (hs : s ≤ 255) (h : at_ + k ≤ s) (hc1 : c ≤ 255) :
    Calls Try.prog 3 #[.int .u8 s, .int .i64 at_, .int .i64 k, .int .i64 x, .int .u8 c] w fun e w' => e = .returned (.bool true) ∧ Ch0 w w' := by
  have g1 : c % (k + 1) ≤ k := by have := Nat.mod_lt c (show 0 < k + 1 by omega); omega
  obtain ⟨m, hm⟩ : ∃ m, m = c % (k + 1) := ⟨_, rfl⟩
  rw [← hm] at g1
  have g3 : ((c : Int)) % ((k : Int) + 1) = m := by rw [hm]; push_cast; rfl
  clear hm
  have hd : decide ((k : Int) ≤ (s : Int) - at_) = true := by simp; omega
  go_enter Try.func3, Try.ntmps3
  go_wp2_with fail
  refine (awake_any _).mono ?_
  rintro e w0 ⟨rfl, c0⟩
  have C0 := Lib.hid c0
  have s0 := C0.out.size
  clear c0
  go_wp2_with fail
  refine (new_any s _).mono ?_
  rintro e w1 ⟨p, b, rfl, h1, hp, hb, c1⟩
  rw [cutLen_small s (by omega)] at h1
  have C1 := Lib.hid (C0.out.trans c1)
  have s1 := C1.out.size
  have H1 := Lib.hid h1
  clear h1 c1 C0
  go_wp2_with fail
  refine (new_any s _).mono ?_
  rintro e w2 ⟨p', b', rfl, h1, hp', hb', c1⟩
  rw [cutLen_small s (by omega)] at h1
  have C2 := Lib.hid (C1.out.trans c1)
  have s2 := C2.out.size
  have hlt' := h1.lt
  have H2 := Lib.hid h1
  have H1' := Lib.hid (H1.out.keep c1 (fun q => q) (fun q => q))
  have hlt := H1.out.lt
  clear h1 c1 C1 H1
  have hf := fill_any p b _ at_ k x _ H1'.out
  rw [if_pos (by unfold There; simp; omega), if_pos (by unfold There; simp; omega)] at hf
  go_wp2_with fail
  refine hf.mono ?_
  rintro e w3 ⟨rfl, h3, c3⟩
  simp only [Int.toNat_natCast] at h3
  have H3 := Lib.hid h3
  have H3' := Lib.hid (H2.out.keep c3 (by omega) (by omega))
  have C3 := Lib.hid (C2.out.trans' c3 (S'' := fun _ => False) (fun _ _ q => q) (fun i hi q => by omega))
  have s3 := C3.out.size
  have s3' := c3.size
  clear h3 c3 hf C2 H2 H1'
  go_wp2_with fail
  have hf := fill_any p' b' _ at_ m x _ H3'.out
  rw [if_pos (by unfold There; simp only [List.length_replicate]; omega), if_pos (by unfold There; simp only [List.length_replicate]; omega)] at hf
  refine hf.mono ?_
  rintro e w4 ⟨rfl, h4, c4⟩
  simp only [Int.toNat_natCast] at h4
  have H4 := Lib.hid h4
  have H4' := Lib.hid (H3.out.keep c4 (by omega) (by omega))
  have C4 := Lib.hid (C3.out.trans' c4 (S'' := fun _ => False) (fun _ _ q => q) (fun i hi q => by omega))
  have s4 := C4.out.size
  have s4' := c4.size
  clear h4 c4 hf C3 H3 H3'
  go_wp2_with fail
  have hf := fill_any p' b' _ (at_ + m : Int) ((k : Int) - m) x _ H4.out
  rw [if_pos (by unfold There; simp only [fillTo_length, List.length_replicate]; omega), if_pos (by unfold There; simp only [fillTo_length, List.length_replicate]; omega)] at hf
  rw [show ((at_ : Int) + m).toNat = at_ + m by omega, show ((k : Int) - m).toNat = k - m by omega] at hf
  refine hf.mono ?_
  rintro e w5 ⟨rfl, h5, c5⟩
  have H5 := Lib.hid h5
  have H5' := Lib.hid (H4'.out.keep c5 (by omega) (by omega))
  have C5 := Lib.hid (C4.out.trans' c5 (S'' := fun _ => False) (fun _ _ q => q) (fun i hi q => by omega))
  have hg := Lib.hid (fills_get s at_ k m x h g1)
  clear h5 c5 hf C4 H4 H4' g3
  go_wp2_with fail
  go_loopw [18, 83] (fun _ i wr => ∃ j : Nat, j ≤ s ∧ i = .int .i64 j ∧ SameW w5 wr) (fun _ i _ => s - (intOf i).toNat)
  case atStart => exact ⟨0, Nat.zero_le _, rfl, SameW.rfl' _⟩
  case round =>
    obtain ⟨j, hj, rfl, hw⟩ := hrel
    obtain rfl : w5 = _ := hw
    by_cases hlt : j < s
    · have l1 := load_yes p b _ j _ H5'.out (by simpa only [fillTo_length, List.length_replicate] using hlt)
      have l2 := load_yes p' b' _ j _ H5.out (by simpa only [fillTo_length, List.length_replicate] using hlt)
      rw [(hg.out j hlt).1] at l1
      rw [(hg.out j hlt).2] at l2
      by_cases hin : at_ ≤ j ∧ j < at_ + k
      · rw [if_pos hin] at l1 l2
        obtain ⟨hi1, hi2⟩ := hin
        have L1 := Lib.hid l1
        have L2 := Lib.hid l2
        clear l1 l2
        go_wp2_with fail
        refine L1.out.mono ?_
        rintro e w' ⟨rfl, rfl⟩
        go_wp2_with fail
        refine L2.out.mono ?_
        rintro e w' ⟨rfl, rfl⟩
        go_wp2_with fail
        go_roundw
        case rel => exact ⟨j + 1, by omega, by go_num, SameW.rfl' _⟩
        case measure => simp [intOf]; omega
      · rw [if_neg hin] at l1 l2
        have L1 := Lib.hid l1
        have L2 := Lib.hid l2
        clear l1 l2
        by_cases h1 : j < at_
        · clear hin
          have hn : decide ((at_ : Int) ≤ j) = false := by simp; omega
          go_wp2_with fail
          refine L1.out.mono ?_
          rintro e w' ⟨rfl, rfl⟩
          go_wp2_with fail
          refine L2.out.mono ?_
          rintro e w' ⟨rfl, rfl⟩
          go_wp2_with fail
          go_roundw
          case rel => exact ⟨j + 1, by omega, by go_num, SameW.rfl' _⟩
          case measure => simp [intOf]; omega
        · have h2 : at_ + k ≤ j := by omega
          have hn : decide ((j : Int) < (at_ : Int) + k) = false := by simp; omega
          clear hin
          go_wp2_with fail
          refine L1.out.mono ?_
          rintro e w' ⟨rfl, rfl⟩
          go_wp2_with fail
          refine L2.out.mono ?_
          rintro e w' ⟨rfl, rfl⟩
          go_wp2_with fail
          go_roundw
          case rel => exact ⟨j + 1, by omega, by go_num, SameW.rfl' _⟩
          case measure => simp [intOf]; omega
    · obtain rfl : j = s := by omega
      go_wp2_with fail
      go_ret
      exact ⟨rfl, C5.out⟩

end Go.Proofs.Ytcdifgbdgokioaa
