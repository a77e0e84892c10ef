/-
  The law MemStores' walk.
-/
import Derived.Test.YtcdifgbdgokioaaOwn
import Derived.Test.YtcdifgbdgokioaaFills
import Derived.Test.YtcdifgbdgokioaaSame
namespace Go.Proofs.Ytcdifgbdgokioaa
open Go.RowKit

set_option maxHeartbeats 400000 in
theorem stores_many (s : Nat) (v : Value) (ats : List Int) (x : Int) (w : World) (hv : Sees (fun k => k < w.heap.size) w v 1 ats.length (ats.map (Value.int .u8))) (hm : 200 < ats.length) :
    Calls Try.prog 6 #[.int .u8 s, v, .int .i64 x] w fun e w' => e = .returned (.bool true) ∧ Ch0 w w' := by
  obtain ⟨a, c, rfl, hl⟩ := hv.len
  clear hv
  go_enter Try.func6, Try.ntmps6
  go_wp2_with fail
  refine (awake_any _).mono ?_
  rintro e w0 ⟨rfl, c0⟩
  have C0 := Lib.hid c0
  clear c0
  go_wp2_with fail
  refine (awake_any _).mono ?_
  rintro e w1 ⟨rfl, c1⟩
  have C1 := Lib.hid c1
  clear c1
  go_wp2_with fail
  go_ret
  exact ⟨rfl, C0.out.trans C1.out⟩

set_option maxHeartbeats 1000000 in
theorem stores_walk (s : Nat) (v : Value) (ats : List Int) (x : Int) (w : World) (hs : s ≤ 255) (hv : Sees (fun k => k < w.heap.size) w v 1 ats.length (ats.map (Value.int .u8))) (hat : ∀ y ∈ ats, 0 ≤ y ∧ y ≤ 255) (hm : ats.length ≤ 200) :
    Calls Try.prog 6 #[.int .u8 s, v, .int .i64 x] w fun e w' => e = .returned (.bool true) ∧ Ch0 w w' := by
  obtain ⟨a, c, rfl, hl⟩ := hv.len
  have HV := Lib.hid hv
  have HA := Lib.hid hat
  clear hv hat
  have hd : decide (200 < (ats.length : Int)) = false := by simp; omega
  have hmk := mk_ints (1 + s) (s + 1) (by push_cast; omega) (by omega)
  go_enter Try.func6, Try.ntmps6
  go_wp2_with fail
  refine (awake_any _).mono ?_
  rintro e w0 ⟨rfl, c0⟩
  have C0 := Lib.hid c0
  have s0 := c0.size
  clear c0
  go_wp2_with fail
  refine (new_any (1 + s) _).mono ?_
  rintro e w1 ⟨p, b, rfl, h1, hp, hb, c1⟩
  rw [show cutLen (1 + (s : Int)) = s + 1 by unfold cutLen; omega] at h1
  have C1 := Lib.hid ((C0.out.trans c1).alloc (.cells (ints (List.replicate (s + 1) 0)) 3))
  have hlt := h1.lt
  have s1 := c1.size
  have H1 := Lib.hid (h1.keep ((Ch.refl (fun _ => False) w1).alloc (.cells (ints (List.replicate (s + 1) 0)) 3)) (fun q => q) (fun q => q))
  have G1 := Lib.hid (heap_alloc_new w1 (.cells (ints (List.replicate (s + 1) 0)) 3))
  clear h1 c1
  go_wp2_with fail
  go_loopw [31] (fun i wr => ∃ j : Nat, j ≤ ats.length ∧ i = .int .i64 j ∧ ∃ xs : List Int, xs.length = s + 1 ∧ Ar 52 wr p b xs ∧ wr.heap[w1.heap.size]? = some (.cells (ints xs) 3 (0, 0)) ∧ Ch0 w wr) (fun i _ => ats.length - (intOf i).toNat)
  case atStart => exact ⟨0, Nat.zero_le _, rfl, _, by simp, H1.out, G1.out, C1.out⟩
  case round =>
    obtain ⟨j, hj, rfl, xs, hxl, ha, hg, hc⟩ := hrel
    have HX := Lib.hid hxl
    have HR := Lib.hid ha
    have HG := Lib.hid hg
    have HC := Lib.hid hc
    clear hxl ha hg hc hmk
    by_cases hlt2 : j < ats.length
    · have hsee := HV.out.keep HC.out (fun _ _ q => q)
      obtain ⟨g, o, c', hgl, hsl, hcells⟩ := Sees.cellF hsee (by omega)
      obtain ⟨rfl, rfl⟩ : a = some ⟨g, o, none⟩ ∧ c = c' := by simpa using hsl
      have hcell := hcells j hlt2
      have hy := HA.out (ats.getD j 0) (by rw [List.getD_eq_getElem?_getD, List.getElem?_eq_getElem hlt2]; simp)
      generalize ats.getD j 0 = y at *
      obtain ⟨hy0, hy1⟩ := hy
      obtain ⟨k, hk⟩ : ∃ k : Nat, y % (1 + (s : Int)) = k := ⟨(y % (1 + (s : Int))).toNat, by have := Int.emod_nonneg y (show (1 + (s : Int)) ≠ 0 by omega); omega⟩
      have hk1 : k < s + 1 := by have := Int.emod_lt_of_pos y (show 0 < (1 + (s : Int)) by omega); omega
      clear hsee hsl hcells
      have lc := cell_of_row _ w1.heap.size k _ _ _ HG.out
      rw [ints_getD xs k (by rw [HX.out]; exact hk1)] at lc
      have fr := frozen_of_row _ w1.heap.size k _ _ HG.out
      go_wp2_with fail
      have ha2 := HR.out.keep ((Ch.refl (· = w1.heap.size) wr).setCell (p := ⟨w1.heap.size, k, none⟩) (fun _ => rfl) (.int .i64 (wrap64 (x + j)))) (by omega) (by omega)
      have hc2 := HC.out.trans' ((Ch.refl (· = w1.heap.size) wr).setCell (p := ⟨w1.heap.size, k, none⟩) (fun _ => rfl) (.int .i64 (wrap64 (x + j)))) (S'' := fun _ => False) (fun _ _ q => q) (fun i hi q => by omega)
      have hg2 := heap_setCell_same _ w1.heap.size k _ _ (.int .i64 (wrap64 (x + j))) HG.out
      rw [ints_set] at hg2
      have HG2 := Lib.hid hg2
      have HC2 := Lib.hid hc2
      have HA2 := Lib.hid ha2
      clear hg2 hc2 ha2 lc fr
      refine (store_yes p b xs k (wrap64 (x + j)) _ HA2.out (by rw [HX.out]; exact hk1)).mono ?_
      rintro e w2 ⟨rfl, h2, c2⟩
      have HA3 := Lib.hid h2
      have HC3 := Lib.hid (HC2.out.trans' c2 (S'' := fun _ => False) (fun _ _ q => q) (fun i hi q => by omega))
      have HG3 := Lib.hid (c2.keep HG2.out (by omega))
      clear h2 c2
      go_wp2_with fail
      go_roundw
      case rel => exact ⟨j + 1, by omega, by go_num, xs.set k (wrap64 (x + j)), by rw [List.length_set]; exact HX.out, HA3.out, HG3.out, HC3.out⟩
      case measure => simp [intOf]; omega
    · obtain rfl : j = ats.length := by omega
      have hw := words_any p b xs 0 (1 + s) _ HR.out
      have ht : There xs.length 0 (1 + s) := by unfold There; rw [HX.out]; omega
      rw [if_pos ht, if_pos ht] at hw
      rw [show (xs.drop (Int.toNat 0)).take ((1 + (s : Int))).toNat = xs by rw [show ((1 + (s : Int))).toNat = s + 1 by omega]; simp [← HX.out]] at hw
      have HW := Lib.hid hw
      clear hw ht
      go_wp2_with fail
      refine HW.out.mono ?_
      rintro e w2 ⟨u, rfl, ho, hf, c2⟩
      have HA3 := Lib.hid (HR.out.keep c2 (fun q => q) (fun q => q))
      have HC3 := Lib.hid (HC.out.trans c2)
      have HG3 := Lib.hid (c2.keep HG.out (fun q => q))
      have HU := Lib.hid (sees_of_owns ho)
      have hsee : SeesI (· = w1.heap.size) w2 (.slice (some ⟨w1.heap.size, 0, none⟩) (s + 1) (s + 1)) xs := by
        have := SeesI.mk (D := (· = w1.heap.size)) (w := w2) (xs := xs) (g := w1.heap.size) (o := 0) (c := s + 1) rfl (by rw [HX.out]; omega) (by unfold maxLen; omega) (fun i hi => by rw [Nat.zero_add]; exact cell_ints HG3.out i hi)
        rwa [HX.out] at this
      have HS := Lib.hid hsee
      clear ho hf c2 hsee
      go_wp2_with fail
      refine (same_any _ _ _ _ xs xs _ HU.out HS.out).mono ?_
      rintro e w3 ⟨rfl, n3, rfl⟩
      have e1 : decide (xs = xs) = true := decide_eq_true rfl
      rw [e1]
      clear e1
      have HA4 := Lib.hid (HA3.out.keep (ch_drewN w2 n3) (fun q => q) (fun q => q))
      have HC4 := Lib.hid (HC3.out.trans (ch_drewN w2 n3))
      go_wp2_with fail
      have hlen := len_any 52 p b xs _ HA4.out
      rw [HX.out] at hlen
      refine (store_no _ (s + 1) (1 + s) x _ (by omega) hlen (by omega)).mono ?_
      rintro e w' ⟨rfl, rfl⟩
      clear hlen
      go_wp2_with fail
      have hlen := len_any 52 p b xs _ HA4.out
      rw [HX.out] at hlen
      refine (store_no _ (s + 1) (-1) x _ (by omega) hlen (by omega)).mono ?_
      rintro e w' ⟨rfl, rfl⟩
      clear hlen
      go_wp2_with fail
      go_ret
      exact ⟨rfl, HC4.out⟩

end Go.Proofs.Ytcdifgbdgokioaa
