/-
  The law MemMoves' walk.
-/
import Derived.Test.YtcdifgbdgokioaaOwn
import Derived.Test.YtcdifgbdgokioaaFills
import Derived.Test.YtcdifgbdgokioaaSame
namespace Go.Proofs.Ytcdifgbdgokioaa
open Go.RowKit

set_option maxHeartbeats 400000 in
theorem moves_out (v : Value) (vs : List Int) (t f k : Int) (w : World) (hv : SeesI (fun k => k < w.heap.size) w v vs) (hm : 200 < vs.length ∨ vs.length = 0) :
    Calls Try.prog 4 #[v, .int .u64 t, .int .u64 f, .int .u64 k] w fun e w' => e = .returned (.bool true) ∧ Ch0 w w' := by
  obtain ⟨a, c, rfl, hl⟩ := hv.len
  clear hv
  rcases hm with hm | hm
  · go_enter Try.func4, Try.ntmps4
    go_wp2_with fail
    refine (awake_any _).mono ?_
    rintro e w0 ⟨rfl, c0⟩
    have C0 := Lib.hid c0
    clear c0
    go_wp2_with fail
    refine (awake_any _).mono ?_
    rintro e w1 ⟨rfl, c1⟩
    have C1 := Lib.hid c1
    clear c1
    go_wp2_with fail
    go_ret
    exact ⟨rfl, C0.out.trans C1.out⟩
  · rw [hm]
    clear hm hl
    go_enter Try.func4, Try.ntmps4
    go_wp2_with fail
    refine (awake_any _).mono ?_
    rintro e w0 ⟨rfl, c0⟩
    have C0 := Lib.hid c0
    clear c0
    go_wp2_with fail
    refine (awake_any _).mono ?_
    rintro e w1 ⟨rfl, c1⟩
    have C1 := Lib.hid c1
    clear c1
    go_wp2_with fail
    go_ret
    exact ⟨rfl, C0.out.trans C1.out⟩

set_option maxHeartbeats 1000000 in
theorem moves_walk (v : Value) (vs : List Int) (t f ws : Nat) (w : World) (hv : SeesI (fun k => k < w.heap.size) w v vs) (hm : vs.length ≤ 200) (h0 : 0 < vs.length)
    (ht : t ≤ 18446744073709551615) (hf : f ≤ 18446744073709551615) (hws : ws ≤ 18446744073709551615) :
    Calls Try.prog 4 #[v, .int .u64 t, .int .u64 f, .int .u64 ws] w fun e w' => e = .returned (.bool true) ∧ Ch0 w w' := by
  obtain ⟨g, o, c, hg, rfl, hcells⟩ := SeesI.cell hv h0
  have HV := Lib.hid hcells
  clear hv hcells
  have hd : decide (200 < (vs.length : Int)) = false := decide_eq_false (by omega)
  have hd0 : ((vs.length : Int) == 0) = false := beq_eq_false_iff_ne.2 (by omega)
  obtain ⟨n, hn⟩ : ∃ n, n = vs.length := ⟨_, rfl⟩
  have HN := Lib.hid hn
  rw [← hn] at hd hd0 h0 hm
  rw [← hn]
  clear hn
  obtain ⟨K, hK⟩ : ∃ K, K = ws % n := ⟨_, rfl⟩
  have hKn : K < n := by rw [hK]; exact Nat.mod_lt _ h0
  have e1 : (ws : Int) % (n : Int) = K := by rw [hK]; push_cast; rfl
  clear hK
  have HM := Lib.hid hws
  have HT := Lib.hid ht
  have HF := Lib.hid hf
  go_enter Try.func4, Try.ntmps4
  go_wp2_with fail
  refine (awake_any _).mono ?_
  rintro e w0 ⟨rfl, c0⟩
  have C0 := Lib.hid c0
  have s0 := c0.size
  clear c0
  go_wp2_with fail
  refine (new_any n _).mono ?_
  rintro e w1 ⟨p, b, rfl, h1, hp, hb, c1⟩
  rw [show cutLen (n : Int) = n by unfold cutLen; omega] at h1
  have C1 := Lib.hid (C0.out.trans c1)
  have hlt := h1.lt
  have s1 := c1.size
  have H1 := Lib.hid h1
  clear h1 c1
  go_wp2_with fail
  go_loopw [38] (fun i wr => ∃ j : Nat, j ≤ n ∧ i = .int .i64 j ∧ ∃ xs : List Int, xs.length = n ∧ (∀ m, m < j → xs.getD m 0 = vs.getD m 0) ∧ Ar 52 wr p b xs ∧ Ch0 w wr) (fun i _ => n - (intOf i).toNat)
  case atStart => exact ⟨0, Nat.zero_le _, rfl, _, by simp, fun m hm => by omega, H1.out, C1.out⟩
  case round =>
    obtain ⟨j, hj, rfl, xs, hxl, hxs, ha, hc⟩ := hrel
    have HX := Lib.hid hxl
    have HXS := Lib.hid hxs
    have HR := Lib.hid ha
    have HC := Lib.hid hc
    clear hxl ha hc hxs
    by_cases hlt2 : j < n
    · have hcell := HC.out.cell (HV.out j (by rw [← HN.out]; exact hlt2)) (fun q => q)
      go_wp2_with fail
      refine (store_yes p b xs j _ _ HR.out (by rw [HX.out]; exact hlt2)).mono ?_
      rintro e w2 ⟨rfl, h2, c2⟩
      have HA3 := Lib.hid h2
      have HC3 := Lib.hid (HC.out.trans' c2 (S'' := fun _ => False) (fun _ _ q => q) (fun i hi q => by omega))
      clear h2 c2
      go_wp2_with fail
      go_roundw
      case rel =>
        refine ⟨j + 1, by omega, by go_num, xs.set j _, by rw [List.length_set]; exact HX.out, ?_, HA3.out, HC3.out⟩
        intro m hm
        rw [List.getD_eq_getElem?_getD, List.getElem?_set]
        by_cases e : j = m
        · subst e; rw [if_pos rfl, if_pos (by rw [HX.out]; omega)]; simp
        · rw [if_neg e, ← List.getD_eq_getElem?_getD]; exact HXS.out m (by omega)
      case measure => simp [intOf]; omega
    · obtain rfl : j = n := by omega
      obtain rfl : xs = vs := ext_getD (by rw [HX.out, HN.out]) (fun m hm => HXS.out m (by rw [← HX.out]; exact hm))
      clear HXS
      go_wp2_with fail
      obtain ⟨L, hL⟩ : ∃ L, L = j - K := ⟨_, rfl⟩
      have hL0 : 0 < L := by omega
      have hL1 : L ≤ 200 := by omega
      obtain ⟨X, hX⟩ : ∃ X, X = t % L := ⟨_, rfl⟩
      obtain ⟨Y, hY⟩ : ∃ Y, Y = f % L := ⟨_, rfl⟩
      have hXL : X < L := by rw [hX]; exact Nat.mod_lt _ hL0
      have hYL : Y < L := by rw [hY]; exact Nat.mod_lt _ hL0
      have q1 : IntKind.i64.wrap ((j : Int) - K) = L := by rw [IntWalk.i64_in _ (by omega)]; omega
      have q2 : IntKind.u64.wrap (L : Int) = L := by simp [IntKind.wrap, IntKind.min, IntKind.max, IntKind.signed, IntKind.bits]; omega
      have q3 : ((L : Int) == 0) = false := by simp; omega
      have q4 : (t : Int) % (L : Int) = X := by rw [hX]; push_cast; rfl
      have q5 : (f : Int) % (L : Int) = Y := by rw [hY]; push_cast; rfl
      have q6 : (t : Int).tmod (L : Int) = X := by rw [Int.tmod_eq_emod_of_nonneg (by omega), q4]
      have q7 : (f : Int).tmod (L : Int) = Y := by rw [Int.tmod_eq_emod_of_nonneg (by omega), q5]
      have q8 : IntKind.i64.wrap (X : Int) = X := IntWalk.i64_in _ (by omega)
      have q9 : IntKind.i64.wrap (Y : Int) = Y := IntWalk.i64_in _ (by omega)
      have HL := Lib.hid hL
      clear hX hY hL
      go_quiet (fail)
      go_wp2_with fail
      have hKx : X + K ≤ j := by have := HL.out; omega
      have hKy : Y + K ≤ j := by have := HL.out; omega
      have HR2 := Lib.hid (HR.out.keep (ch_drewN wr nq) (fun q => q) (fun q => q))
      have HC2 := Lib.hid (HC.out.trans (ch_drewN wr nq))
      clear HR HC e1
      generalize wr.drewN nq = w2 at *
      have hmv := move_any p b xs X Y K _ HR2.out
      rw [if_pos (by unfold There; rw [HX.out]; omega), if_pos (by unfold There; rw [HX.out]; omega)] at hmv
      simp only [Int.toNat_natCast] at hmv
      refine hmv.mono ?_
      rintro e w3 ⟨rfl, h3, c3⟩
      have H3 := Lib.hid h3
      have C3 := Lib.hid (HC2.out.trans' c3 (S'' := fun _ => False) (fun _ _ q => q) (fun i hi q => by omega))
      have HG := Lib.hid (fun m (hm : m < j) => moveTo_get xs X Y K (by rw [HX.out]; exact hKx) m (by rw [HX.out]; exact hm))
      have HML : Hid ((moveTo xs X Y K).length = j) := by have h := moveTo_length xs X Y K; rw [HX.out] at h; exact Lib.hid h
      clear h3 c3 hmv HC2 HR2 q1 q2 q3 q4 q5 q6 q7 q8 q9
      go_wp2_with fail
      go_loopw [16, 76] (fun _ i wr => ∃ m : Nat, m ≤ j ∧ i = .int .i64 m ∧ SameW w3 wr) (fun _ i _ => j - (intOf i).toNat)
      case atStart => exact ⟨0, Nat.zero_le _, rfl, SameW.rfl' _⟩
      case round =>
        obtain ⟨m, hmj, rfl, hw⟩ := hrel
        obtain rfl : w3 = _ := hw
        by_cases hlt3 : m < j
        · have l1 := load_yes p b _ m _ H3.out (by rw [HML.out]; exact hlt3)
          rw [HG.out m hlt3] at l1
          have hcell := C3.out.cell (HV.out m (by rw [HX.out]; exact hlt3)) (fun q => q)
          by_cases hin : X ≤ m ∧ m < X + K
          · rw [if_pos hin] at l1
            obtain ⟨hi1, hi2⟩ := hin
            have hcell2 := C3.out.cell (HV.out (Y + (m - X)) (by rw [HX.out]; omega)) (fun q => q)
            rw [show o + (Y + (m - X)) = o + (Y + m - X) by omega] at hcell2
            have L1 := Lib.hid l1
            clear l1
            generalize xs.getD (Y + (m - X)) 0 = A at *
            generalize xs.getD m 0 = B at *
            go_wp2_with fail
            refine L1.out.mono ?_
            rintro e w' ⟨rfl, rfl⟩
            go_wp2_with fail
            go_roundw
            case rel => exact ⟨m + 1, by omega, by go_num, SameW.rfl' _⟩
            case measure => simp [intOf]; omega
          · rw [if_neg hin] at l1
            have L1 := Lib.hid l1
            clear l1
            generalize xs.getD m 0 = B at *
            by_cases h1 : m < X
            · clear hin
              have hn : decide ((X : Int) ≤ m) = false := decide_eq_false (by omega)
              go_wp2_with fail
              refine L1.out.mono ?_
              rintro e w' ⟨rfl, rfl⟩
              go_wp2_with fail
              go_roundw
              case rel => exact ⟨m + 1, by omega, by go_num, SameW.rfl' _⟩
              case measure => simp [intOf]; omega
            · have h2 : X + K ≤ m := by omega
              have hn : decide ((m : Int) < (X : Int) + K) = false := decide_eq_false (by omega)
              clear hin
              go_wp2_with fail
              refine L1.out.mono ?_
              rintro e w' ⟨rfl, rfl⟩
              go_wp2_with fail
              go_roundw
              case rel => exact ⟨m + 1, by omega, by go_num, SameW.rfl' _⟩
              case measure => simp [intOf]; omega
        · obtain rfl : m = j := by omega
          have hst : ∀ i k, Stretch (.pointer (some ⟨p, 0, none⟩)) m w3 i k := fun i k => by
            have := stretch_ar p b _ i k w3 H3.out
            rwa [HML.out] at this
          have HST := Lib.hid hst
          have hlen := len_any 52 p b _ w3 H3.out
          rw [HML.out] at hlen
          have HLN := Lib.hid hlen
          clear hst hlen HV
          go_wp2_with fail
          refine (move_no _ m ((m : Int) - K + 1) 0 K _ HST.out (by unfold There; omega)).mono ?_
          rintro e w' ⟨rfl, rfl⟩
          go_wp2_with fail
          refine (move_no _ m 0 (-1) K _ HST.out (by unfold There; omega)).mono ?_
          rintro e w' ⟨rfl, rfl⟩
          go_wp2_with fail
          refine HLN.out.mono ?_
          rintro e w' ⟨rfl, rfl⟩
          go_wp2_with fail
          go_ret
          exact ⟨rfl, C3.out⟩

end Go.Proofs.Ytcdifgbdgokioaa
