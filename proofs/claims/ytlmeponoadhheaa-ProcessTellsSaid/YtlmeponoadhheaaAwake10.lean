/-
  The law's awake (strength).
-/
import Derived.Test.YtlmeponoadhheaaGr
import Derived.Test.YtlmeponoadhheaaS3
import Derived.Test.YtlmeponoadhheaaStrLaw2
namespace Go.Proofs.Ytlmeponoadhheaa
set_option linter.unusedVariables false
open Go.RowKit

def sc1 : List Cls := [⟨4, 1, 2, false⟩, ⟨1, 1, 0, false⟩]
def sl1 : List GN := addL sc1 [] 1 1 0
def sl2 : List GN := addL sc1 sl1 2 2 0
def sl3 : List GN := setRefL sl2 1 0 2

theorem sl3_close {lv : Int} (h : nextL sc1 sl3 lv 1 = []) (h4 : lv < 4) : closeL sc1 sl3 lv [1] = [1] := by
  refine rising_ext (rchL_rising (by decide)) (by decide) (fun x => ⟨fun hx => ?_, fun hx => ?_⟩)
  · have hr := mem_closeL.1 hx
    clear hx
    induction hr with
    | root a _ =>
      unfold startL at a
      rw [if_neg (by omega)] at a
      simpa using a
    | step _ b _ ih =>
      rw [List.mem_singleton.1 ih, h] at b
      cases b
  · rw [List.mem_singleton.1 hx]
    exact close_root (by simp) (by decide)

theorem sl3_one : closeL sc1 sl3 1 [1] = [1] := sl3_close (by decide) (by decide)

theorem sl3_of1 : ofL sc1 sl3 1 [1] = 1 := ofL_root (by simp) (by decide)

theorem sl3_of2 : ofL sc1 sl3 2 [1] = 3 := by
  refine ofL_first 2 [1] 3 (by omega) (by omega) (close_next (x := 1) (close_root (by simp) (by decide)) (by decide) (by decide)) (fun m h1 h2 => ?_)
  rcases (show m = 1 ∨ m = 2 by omega) with rfl | rfl
  · rw [sl3_one]; simp
  · rw [sl3_close (by decide) (by decide)]; simp

theorem sees_two (c d : Cls) (w : World) : SeesC (fun k => k = w.heap.size) (w.alloc (.cells #[.int .i64 c.kind, .int .i64 c.refs, .int .i64 c.data, .bool c.final, .int .i64 d.kind, .int .i64 d.refs, .int .i64 d.data, .bool d.final] 40)) (.slice (some ⟨w.heap.size, 0, none⟩) 2 2) [c, d] := by
  refine ⟨rfl, _, 2, rfl, Nat.le_refl _, by decide, .inr ⟨w.heap.size, 0, rfl, rfl, fun i u hu => ?_⟩⟩
  rw [Nat.zero_add, cell_of_row _ w.heap.size i _ _ _ (heap_alloc_new w _)]
  simpa [Cls.cells] using hu

theorem sees_int1 (w : World) (x : Int) : SeesI (fun k => k = w.heap.size) (w.alloc (.cells #[.int .i64 x] 3)) (.slice (some ⟨w.heap.size, 0, none⟩) 1 1) [x] := sees_one_cell (heap_alloc_new w _)

set_option maxRecDepth 100000 in
set_option maxHeartbeats 1000000 in
theorem awake10 (w : World) : Calls Try.prog 56 #[] w fun e w' => e = .returned (.bool true) ∧ Ch0 w w' := by
  have x1 : addE sc1 [] 1 1 0 = 0 := by decide
  have x2 : addE sc1 sl1 2 2 0 = 0 := by decide
  have x3 : setRefE sl2 1 0 2 = 0 := by decide
  have x7 : sl3.length ≤ 1000 := by decide
  go_enter Try.func56, Try.ntmps56
  go_wp2_with fail
  refine (newcls_any _ _ sc1 _ (sees_two ⟨4, 1, 2, false⟩ ⟨1, 1, 0, false⟩ w) (by intro c hc; simp [sc1] at hc; rcases hc with rfl | rfl <;> constructor <;> decide)).mono ?_
  rintro e w1 ⟨u, rfl, hT, c1⟩
  have x0 : newC sc1 = 0 := by decide
  obtain ⟨p, rfl, hTab⟩ := newT_zero hT x0
  have cA : Ch0 w w1 := ((Ch.refl (fun _ => False) w).alloc _).trans c1
  have hn := gnew_of hTab (Nat.le_refl _)
  rw [x0]
  replace cA := Lib.hid cA
  clear c1 hT hTab x0
  generalize (w.alloc (.cells #[.int .i64 4, .int .i64 1, .int .i64 2, .bool false, .int .i64 1, .int .i64 1, .int .i64 0, .bool false] 40)).heap.size = lo at *
  go_wp2_with fail
  refine hn.mono ?_
  rintro e w2 ⟨b, rfl, O, hG, hO, c2⟩
  have hM : Mine w w2 O := ⟨cA.out.trans c2, fun k hk => by have := hO k hk; have := cA.out.size; omega⟩
  have ha := add_of hG 1 1 0 (by omega)
  rw [x1] at ha
  replace hM := Lib.hid hM
  clear hn hO c2 cA hG
  go_wp2_with fail
  refine ha.mono ?_
  rintro e w3 ⟨rfl, O3, hG3, t3⟩
  have hM3 := Lib.hid (hM.out.turn t3)
  have ha := add_of hG3 2 2 0 (by omega)
  rw [show addE sc1 (addL sc1 [] 1 1 0) 2 2 0 = 0 from x2] at ha
  clear hM t3 hG3
  go_wp2_with fail
  refine ha.mono ?_
  rintro e w4 ⟨rfl, O4, hG4, t4⟩
  have hM4 := Lib.hid (hM3.out.turn t4)
  have hs := setref_of hG4 1 0 2
  rw [show setRefE (addL sc1 (addL sc1 [] 1 1 0) 2 2 0) 1 0 2 = 0 from x3] at hs
  clear hM3 t4 hG4 ha
  go_wp2_with fail
  refine hs.mono ?_
  rintro e w5 ⟨rfl, hG5, t5⟩
  have hM5 := Lib.hid (hM4.out.turn t5)
  replace hG5 : Gt w5 b O4 sc1 sl3 p lo w1.heap.size := hG5
  have hA := of_of (hG5.new ((Ch.refl _ w5).alloc _)) x7 _ _ [1] (sees_int1 w5 1) (by decide) 1
  rw [sl3_of1] at hA
  replace hG5 := Lib.hid hG5
  clear hM4 t5 hs
  go_wp2_with fail
  refine hA.mono ?_
  rintro e w6 ⟨rfl, c6'⟩
  have c6 := ((Ch.refl (fun _ => False) w5).alloc _).trans c6'
  have hB := of_of (hG5.out.new (c6.trans ((Ch.refl _ w6).alloc _))) x7 _ _ [1] (sees_int1 w6 1) (by decide) 2
  rw [sl3_of2] at hB
  replace c6 := Lib.hid c6
  clear hA c6'
  go_wp2_with fail
  refine hB.mono ?_
  rintro e w7 ⟨rfl, c7'⟩
  have c7 := (c6.out.trans ((Ch.refl (fun _ => False) w6).alloc _)).trans c7'
  have hC := reach_of (hG5.out.new (c7.trans ((Ch.refl _ w7).alloc _))) x7 _ _ [1] (sees_int1 w7 1) (by decide)
  rw [sl3_one] at hC
  replace c7 := Lib.hid c7
  clear hB c7' c6
  go_wp2_with fail
  refine hC.mono ?_
  rintro e w8 ⟨u8, rfl, r8, -, c8⟩
  obtain ⟨a, c, rfl, -, -⟩ := r8.isSlice
  have HC := Lib.hid ((hM5.out.ch.trans (c7.out.trans ((Ch.refl (fun _ => False) w7).alloc _))).trans c8)
  clear hC r8 c7 c8
  go_wp2_with fail
  go_ret
  exact ⟨rfl, HC.out⟩

end Go.Proofs.Ytlmeponoadhheaa
