/-
  The law MemOwn's walk, and awake's.
-/
import Derived.Test.YtcdifgbdgokioaaWalks3
namespace Go.Proofs.Ytcdifgbdgokioaa
open Go.RowKit

set_option maxHeartbeats 400000 in
theorem awake_any (w : World) : Calls Try.prog 9 #[] w fun e w' => e = .returned (.bool true) ∧ Ch0 w w' := by
  go_enter Try.func9, Try.ntmps9
  go_wp2_with fail
  refine (new_any 4 _).mono ?_
  rintro e w1 ⟨p, b, rfl, h1, hp, hb, c1⟩
  rw [show List.replicate (cutLen 4) (0 : Int) = [0, 0, 0, 0] from rfl] at h1
  have H1 := Lib.hid h1
  have C1 := Lib.hid c1
  clear h1 c1
  go_wp2_with fail
  refine (len_any 52 p b _ _ H1.out).mono ?_
  rintro e w' ⟨rfl, rfl⟩
  go_wp2_with fail
  refine (store_yes p b _ 0 7 _ H1.out (by decide)).mono ?_
  rintro e w2 ⟨rfl, h2, c2⟩
  have H2 := Lib.hid h2
  have C2 := Lib.hid c2
  clear h2 c2 H1
  go_wp2_with fail
  refine (load_yes p b _ 0 _ H2.out (by decide)).mono ?_
  rintro e w' ⟨rfl, rfl⟩
  go_wp2_with fail
  refine (store_no _ 4 4 1 _ (by decide) (len_any 52 p b _ _ H2.out) (by decide)).mono ?_
  rintro e w' ⟨rfl, rfl⟩
  go_wp2_with fail
  go_ret
  exact ⟨rfl, C1.out.trans' C2.out (fun _ _ q => q) (fun i hi q => by omega)⟩

set_option maxHeartbeats 400000 in
theorem own_walk (v x : Int) (w : World) : Calls Try.prog 5 #[.int .i64 v, .int .i64 x] w fun e w' => e = .returned (.bool true) ∧ Ch0 w w' := by
  go_enter Try.func5, Try.ntmps5
  go_wp2_with fail
  refine (awake_any _).mono ?_
  rintro e w0 ⟨rfl, c0⟩
  have C0 := Lib.hid c0
  clear c0
  go_wp2_with fail
  refine (new_any 3 _).mono ?_
  rintro e w1 ⟨p, b, rfl, h1, hp, hb, c1⟩
  rw [show List.replicate (cutLen 3) (0 : Int) = [0, 0, 0] from rfl] at h1
  have H1 := Lib.hid h1
  have C1 := Lib.hid (C0.out.trans c1)
  clear h1 c1
  go_wp2_with fail
  refine (fill_yes p b _ 0 3 v _ H1.out (by decide) (by decide)).mono ?_
  rintro e w2 ⟨rfl, h2, c2⟩
  rw [show fillTo [0, 0, 0] 0 v 3 = [v, v, v] from rfl] at h2
  have H2 := Lib.hid h2
  have C2 := Lib.hid (C1.out.trans' c2 (S'' := fun _ => False) (fun _ _ q => q) (fun i hi q => by have := C0.out.size; omega))
  clear h2 c2 H1 C1
  go_wp2_with fail
  refine (words_any p b _ 0 3 _ H2.out).mono ?_
  have ht : There [v, v, v].length 0 3 := (by decide : There 3 0 3)
  rw [if_pos ht, if_pos ht]
  rintro e w3 ⟨u, rfl, ho, hf, c3⟩
  have e3 : (List.take (Int.toNat 3) (List.drop (Int.toNat 0) [v, v, v])) = [v, v, v] := rfl
  rw [e3] at ho
  obtain ⟨g, cap, rfl, -, -, -⟩ := owns_pos ho (by simp)
  have hg : w2.heap.size ≤ g := hf g rfl
  have H3 := Lib.hid (H2.out.keep c3 (fun q => q) (fun q => q))
  have hlt := H3.out.lt
  have hlt2 := H2.out.lt
  have c1 := owns_cell ho 1 _ rfl
  have f1 := owns_free ho 1
  have c0 := owns_cell ho 0 _ rfl
  have c2 := owns_cell ho 2 _ rfl
  have HG := Lib.hid (owns_lt ho (g := g) rfl)
  have C3 := Lib.hid (C2.out.trans c3)
  clear ho hf c3 H2 C2 ht e3
  go_wp2_with fail
  have H4 := Lib.hid (H3.out.keep (((Ch.refl (· = g) w3)).setCell (p := ⟨g, 1, none⟩) (fun _ => rfl) (.int .i64 x)) (by omega) (by omega))
  have C4 := Lib.hid ((C3.out.trans' ((Ch.refl (· = g) w3).setCell (p := ⟨g, 1, none⟩) (fun _ => rfl) (.int .i64 x)) (S'' := fun _ => False) (fun _ _ q => q) (fun i hi q => by have := C0.out.size; have := C3.out.size; omega)))
  clear H3 C3
  refine (load_yes p b _ 1 _ H4.out (by simp)).mono ?_
  rintro e w' ⟨rfl, rfl⟩
  go_wp2_with fail
  refine (store_any p b _ 2 x _ H4.out).mono ?_
  rintro e w4 ⟨rfl, h5, c5⟩
  have d2 := c5.cell (a := ⟨g, 2, none⟩) (v := .int .i64 v) (by rw [World.cell?_setCell_other _ _ _ _ (by simp)]; exact c2) (by show ¬ g = b; omega)
  have d0 := c5.cell (a := ⟨g, 0, none⟩) (v := .int .i64 v) (by rw [World.cell?_setCell_other _ _ _ _ (by simp)]; exact c0) (by show ¬ g = b; omega)
  have C5 := Lib.hid (C4.out.trans' c5 (S'' := fun _ => False) (fun _ _ q => q) (fun i hi q => by have := C0.out.size; omega))
  clear h5 c5 H4 C4
  go_wp2_with fail
  go_ret
  exact ⟨rfl, C5.out⟩

end Go.Proofs.Ytcdifgbdgokioaa
