/-
  Contract of the document's arena: Move.
-/
import Derived.Test.YtcdifgbdgokioaaRef2
import Derived.Deep.DrawnRows
namespace Go.Proofs.Ytcdifgbdgokioaa
open Go.RowKit

set_option maxHeartbeats 1000000 in
theorem rmove_any (p b : Nat) (xs : List Int) (x y k : Int) (w : World) (h : Ar 45 w p b xs) :
    Calls Try.prog 20 #[.pointer (some ⟨p, 0, none⟩), .int .i64 x, .int .i64 y, .int .i64 k] w fun e w' =>
      e = .returned (.int .i64 (if There xs.length x k ∧ There xs.length y k then 0 else 2)) ∧
      Ar 45 w' p b (if There xs.length x k ∧ There xs.length y k then moveTo xs x.toNat y.toNat k.toNat else xs) ∧ Ch (· = b) w w' := by
  have ht1 := there_any p b xs x k w h
  have ht2 := there_any p b xs y k w h
  have hle := h.le
  by_cases hx : There xs.length x k
  · rw [decide_eq_true hx] at ht1
    by_cases hy : There xs.length y k
    · rw [decide_eq_true hy] at ht2
      simp only [if_pos (And.intro hx hy)]
      unfold There at hx hy
      obtain ⟨x, rfl⟩ := Int.eq_ofNat_of_zero_le hx.2.1
      obtain ⟨y, rfl⟩ := Int.eq_ofNat_of_zero_le hy.2.1
      obtain ⟨k, rfl⟩ := Int.eq_ofNat_of_zero_le hx.1
      simp only [Int.toNat_natCast]
      have HT1 := Lib.hid ht1
      have HT2 := Lib.hid ht2
      have hxk : x + k ≤ xs.length := by omega
      have hyk : y + k ≤ xs.length := by omega
      clear ht1 ht2 hx hy
      have hhdr := cell_of_one h.hdr
      -- the copy
      obtain ⟨i0, hi, hz0, hz1, hz2⟩ := info_parts Try.info3
      have hown : (w.alloc (.cells #[] 3)).ownsRow 0 3 1 (.slice (some ⟨w.heap.size, 0, none⟩) 0 0) 0 [] := owns_block_empty (heap_alloc_new w _) (by simp) (by decide)
      have ha1 := h.keep ((Ch.refl (fun _ => False) w).alloc (.cells #[] 3)) (fun q => q) (fun q => q)
      have hsees : SeesI (· = b) (w.alloc (.cells #[] 3)) (.slice (some ⟨b, 0, none⟩) xs.length xs.length) xs :=
        SeesI.mk rfl (Nat.le_refl _) (by unfold maxLen; omega) (fun i hi => by rw [Nat.zero_add]; exact cell_ints ha1.row i hi)
      obtain ⟨v', w1, hrun, hown', hch, hblk, _⟩ := append_law (P := Try.prog) (w.alloc (.cells #[] 3)) 30 30 3 i0 _ 1 8 Try.under30 hi hz0 hz1 hz2 rfl _ 0 [] hown _ _ _ hsees (one_ints xs) (by unfold maxLen; omega) (by omega)
      have HR := Lib.hid hrun
      have ha2 := ha1.keep hch (by have := h.lt; simp [Value.ownBlock]; omega) (by have := h.lt; simp [Value.ownBlock]; omega)
      have HA2 := Lib.hid ha2
      have HC := Lib.hid (((Ch.refl (· = b) w).alloc (.cells #[] 3)).trans' hch (S'' := (· = b)) (fun _ _ q => q) (fun i hi q => by simp [Value.ownBlock] at q; omega))
      have hvb : ∀ k, v'.ownBlock = some k → w.heap.size ≤ k := by
        intro k hk
        rcases hblk with h | h
        · rw [hk] at h; simp [Value.ownBlock] at h; omega
        · rw [hk] at h; simp at h; omega
      rw [Nat.zero_add, List.nil_append] at hown'
      have HO := Lib.hid hown'
      have HVB := Lib.hid hvb
      obtain ⟨hpl, hbl⟩ := h.lt
      clear hrun hown' hch hblk ha1 ha2 hown hsees hi hz0 hz1 hz2 hvb h
      go_enter Try.func20, Try.ntmps20
      go_wp2_with fail
      refine HT1.out.mono ?_
      rintro e w' ⟨rfl, rfl⟩
      go_wp2_with fail
      refine HT2.out.mono ?_
      rintro e w' ⟨rfl, rfl⟩
      go_wp2_with (at_builtin; refine wpList_append_run rfl _ _ 30 30 rfl rfl rfl HR.out ?_)
      go_wp2_with fail
      go_loopw [10] (fun v wr => ∃ j : Nat, j ≤ k ∧ v = .int .i64 j ∧ Ar 45 wr p b (moveTo xs x y j) ∧ wr.ownsRow 0 3 1 v' xs.length (xs.map (Value.int .i64)) ∧ Ch (· = b) w wr) (fun v _ => k - (intOf v).toNat)
      case atStart => exact ⟨0, Nat.zero_le _, rfl, HA2.out, HO.out, HC.out⟩
      case round =>
        obtain ⟨j, hj, rfl, ha, ho, hc⟩ := hrel
        by_cases hlt : j < k
        · obtain ⟨g, cap, rfl, hcap, -, -⟩ := owns_pos ho (by omega)
          have hgb := HVB.out g rfl
          have hlen := moveTo_length xs x y j
          have hh := cell_of_one ha.hdr
          rw [hlen] at hh
          have hcell := cell_ints ha.row (x + j) (by omega)
          have hfr := frozen_of_row wr b (x + j) _ _ ha.row
          have hsrc := owns_cell ho (y + j) (.int .i64 (xs.getD (y + j) 0)) (by simp [List.getElem?_eq_getElem (show y + j < xs.length by omega)])
          have hbp : ¬ b = p := fun e => ha.ne e.symm
          have hbg : ¬ b = g := by omega
          have HL := Lib.hid hlen
          have HA := Lib.hid ha
          have HC3 := Lib.hid hc
          have HO3 := Lib.hid ho
          have q1 : IntKind.i64.wrap ((x : Int) + j) = x + j := IntWalk.i64_in _ (by omega)
          have q2 : IntKind.i64.wrap ((y : Int) + j) = y + j := IntWalk.i64_in _ (by omega)
          have q3 : (0 : Int) ≤ (x : Int) + j := by omega
          have q4 : (x : Int) + j < xs.length := by omega
          have q5 : (0 : Int) ≤ (y : Int) + j := by omega
          have q6 : (y : Int) + j < xs.length := by omega
          have q7 : ((x : Int) + j).toNat = x + j := by omega
          have q8 : ((y : Int) + j).toNat = y + j := by omega
          clear hlen ha hc ho HR HT1 HT2 HA2 HO
          generalize (moveTo xs x y j).getD (x + j) 0 = A at *
          obtain ⟨B, hB⟩ : ∃ B, B = xs.getD (y + j) 0 := ⟨_, rfl⟩
          have HB := Lib.hid hB
          rw [← hB] at hsrc
          clear hB
          go_wp2_with fail
          go_region_held3 (fun w' => w'.cell? ⟨p, 0, none⟩ = some (.slice (some ⟨b, 0, none⟩) xs.length xs.length) ∧ w'.cell? ⟨g, y + j, none⟩ = some (.int .i64 B)) (go_keep) (fail)
          rename_i hheld
          clear hheld q1 q2 q3 q4 q5 q6 q7 q8
          go_wp2
          go_roundw
          case rel =>
            refine ⟨j + 1, by omega, by go_num, ⟨?_, ?_, HA.out.ne, ?_⟩, ?_, ?_⟩
            · show (wr.setCell _ _).heap[_]? = _
              rw [heap_setCell_other _ _ _ _ HA.out.ne, HA.out.hdr, moveTo_length, moveTo_length]
            · show (wr.setCell _ _).heap[_]? = _
              rw [heap_setCell_same _ _ _ _ _ _ HA.out.row, ints_set, HB.out]; rfl
            · rw [moveTo_length]; exact hle
            · exact owns_keep HO3.out ((Ch.setCell (S := (· = b)) (Ch.refl _ wr) (fun _ => rfl) _).drew) (fun k hk e => hbg (by simp [Value.ownBlock] at hk; omega))
            · exact (HC3.out.setCell (fun _ => rfl) _).drew
          case measure => simp [intOf]; omega
        · obtain rfl : j = k := by omega
          have HA := Lib.hid ha
          have HC3 := Lib.hid hc
          clear ha hc ho
          go_wp2
          go_ret
          exact ⟨rfl, HA.out, HC3.out⟩
    · rw [decide_eq_false hy] at ht2
      have hn : ¬ (There xs.length x k ∧ There xs.length y k) := fun q => hy q.2
      simp only [if_neg hn]
      have HT1 := Lib.hid ht1
      have HT2 := Lib.hid ht2
      have HA := Lib.hid h
      clear ht1 ht2 hx hy h hn
      go_enter Try.func20, Try.ntmps20
      go_wp2_with fail
      refine HT1.out.mono ?_
      rintro e w' ⟨rfl, rfl⟩
      go_wp2_with fail
      refine HT2.out.mono ?_
      rintro e w' ⟨rfl, rfl⟩
      go_wp2_with fail
      go_ret
      exact ⟨rfl, HA.out, Ch.refl _ _⟩
  · rw [decide_eq_false hx] at ht1
    have hn : ¬ (There xs.length x k ∧ There xs.length y k) := fun q => hx q.1
    simp only [if_neg hn]
    have HT1 := Lib.hid ht1
    have HA := Lib.hid h
    clear ht1 ht2 hx h hn
    go_enter Try.func20, Try.ntmps20
    go_wp2_with fail
    refine HT1.out.mono ?_
    rintro e w' ⟨rfl, rfl⟩
    go_wp2_with fail
    go_ret
    exact ⟨rfl, HA.out, Ch.refl _ _⟩

end Go.Proofs.Ytcdifgbdgokioaa
