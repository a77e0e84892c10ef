/-
  The law MemNil's walk.
-/
import Derived.Test.YtcdifgbdgokioaaOwn
namespace Go.Proofs.Ytcdifgbdgokioaa
open Go.RowKit

set_option maxHeartbeats 400000 in
theorem len_zero (p : Nat) (w : World) (h : w.cell? ⟨p, 0, none⟩ = some (.slice none 0 0)) :
    Calls Try.prog 15 #[.pointer (some ⟨p, 0, none⟩)] w fun e w' => e = .returned (.int .i64 ((0 : Nat) : Int)) ∧ w = w' := by
  go_enter Try.func15, Try.ntmps15
  go_wp2
  go_ret
  exact ⟨rfl, rfl⟩

theorem words_none (w : World) :
    Calls Try.prog 16 #[.pointer none, .int .i64 0, .int .i64 0] w fun e w' => ∃ u, e = .returned (.tuple #[u, .int .i64 0]) ∧ NewI w w' u [] :=
  words_of _ _ _ w (fun _ => False) _ _ (stretch_zero _ 0 0 w (by decide) (len_nil w) (by decide)) SeesI.nil (by simp)

theorem NewI.empty {w w' : World} {u : Value} (h : NewI w w' u []) : ∃ a c, u = .slice a 0 c := by
  rcases h.1.2 with ⟨rfl, _⟩ | ⟨g, cap, cur, rfl, _⟩
  · exact ⟨_, _, rfl⟩
  · exact ⟨_, _, rfl⟩

set_option maxHeartbeats 1000000 in
theorem nil_walk (k a b n v : Int) (w : World) :
    Calls Try.prog 8 #[.agg #[.int .i64 k, .int .i64 a, .int .i64 b, .int .i64 n, .int .i64 v]] w fun e w' => e = .returned (.bool true) ∧ Ch0 w w' := by
  go_enter Try.func8, Try.ntmps8
  go_wp2_with fail
  refine (awake_any _).mono ?_
  rintro e w0 ⟨rfl, c0⟩
  have k0 := c0.cell (a := ⟨w.heap.size, 1, none⟩) (v := .int .i64 a) (by simp) (fun q => q)
  have k4 := c0.cell (a := ⟨w.heap.size, 4, none⟩) (v := .int .i64 v) (by simp) (fun q => q)
  have C0 := Lib.hid (((Ch.refl (fun _ => False) w).alloc _).trans c0)
  have hs : w.heap.size < w0.heap.size := by have := c0.size; simp at this; omega
  clear c0
  have kz : (w0.alloc (.cells #[.slice none 0 0] 52)).cell? ⟨w0.heap.size, 0, none⟩ = some (.slice none 0 0) := by simp
  have C1 := Lib.hid (C0.out.alloc (.cells #[.slice none 0 0] 52))
  have ka : (w0.alloc (.cells #[.slice none 0 0] 52)).cell? ⟨w.heap.size, 1, none⟩ = some (.int .i64 a) := (((Ch.refl (fun _ => False) w0).alloc _)).cell k0 (fun q => q)
  have kv : (w0.alloc (.cells #[.slice none 0 0] 52)).cell? ⟨w.heap.size, 4, none⟩ = some (.int .i64 v) := (((Ch.refl (fun _ => False) w0).alloc _)).cell k4 (fun q => q)
  go_wp2_with fail
  generalize w0.alloc (.cells #[.slice none 0 0] 52) = w1 at *
  refine (load_no _ 0 a _ (by decide) (len_nil _) (by omega)).mono ?_
  rintro e w' ⟨rfl, rfl⟩
  go_wp2_with fail
  refine (words_no _ 0 a 1 _ (by decide) (len_zero _ _ kz) (by unfold There; omega)).mono ?_
  rintro e w' ⟨rfl, rfl⟩
  go_wp2_with fail
  refine (words_none _).mono ?_
  rintro e w2 ⟨u, rfl, hu⟩
  obtain ⟨a', c', rfl⟩ := hu.empty
  have C2 := Lib.hid (C1.out.trans hu.2.2)
  have kz := hu.2.2.cell kz (fun q => q)
  have ka := hu.2.2.cell ka (fun q => q)
  have kv := hu.2.2.cell kv (fun q => q)
  clear hu
  go_wp2_with fail
  refine (len_nil _).mono ?_
  rintro e w' ⟨rfl, rfl⟩
  go_wp2_with fail
  refine (len_zero _ _ kz).mono ?_
  rintro e w' ⟨rfl, rfl⟩
  go_wp2_with fail
  refine (store_no _ 0 a v _ (by decide) (len_nil _) (by omega)).mono ?_
  rintro e w' ⟨rfl, rfl⟩
  go_wp2_with fail
  refine (move_no _ 0 0 0 1 _ (fun i k => stretch_nil i k _) (by unfold There; omega)).mono ?_
  rintro e w' ⟨rfl, rfl⟩
  go_wp2_with fail
  refine (fill_no _ 0 0 1 1 _ (by decide) (len_nil _) (by unfold There; omega)).mono ?_
  rintro e w' ⟨rfl, rfl⟩
  go_wp2_with fail
  refine (store_no _ 0 0 1 _ (by decide) (len_zero _ _ kz) (by omega)).mono ?_
  rintro e w' ⟨rfl, rfl⟩
  go_wp2_with fail
  refine (fill_zero _ 0 0 1 _ (by decide) (len_nil _) (by decide)).mono ?_
  rintro e w' ⟨rfl, rfl⟩
  go_wp2_with fail
  go_ret
  exact ⟨rfl, C2.out⟩

end Go.Proofs.Ytcdifgbdgokioaa
