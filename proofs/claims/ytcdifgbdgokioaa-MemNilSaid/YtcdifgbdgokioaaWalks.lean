/-
  Contracts of the words' functions: mem.New, Len, stretch, Load, Fill, Store, Move, Words, slices.Clone; the document's Same, New, Store, Move, Fill, There.
-/
import Derived.Test.YtcdifgbdgokioaaFrame
import Derived.Deep.QuietTactic
import Derived.BigQuiet
namespace Go.Proofs.Ytcdifgbdgokioaa
open Go.RowKit

theorem Try.info3 : (Try.prog.info? 3).map (fun i => (i.zero, i.size, i.bytes)) = some (some (.int .i64 0), 1, 8) := by kernel_rfl
theorem Try.under30 : Try.prog.underlying 30 = some (.slice 3) := by kernel_rfl

theorem mk_ints (z : Int) (n : Nat) (hz : z = n) (hn : n ≤ 1000000000000) (w : World) :
    (Instr.makeSlice 30 (.int .i64 z) (.int .i64 z)).run Try.prog w = .ok (.slice (some ⟨w.heap.size, 0, none⟩) n n) (w.alloc (.cells (ints (List.replicate n 0)) 3)) := by
  subst hz
  obtain ⟨i0, hi, hz0, hz1, hz2⟩ := info_parts Try.info3
  have := run_make (P := Try.prog) w 30 3 i0 _ Try.under30 hi hz0 .i64 .i64 n n (by omega) (by omega) (by rw [hz2]; omega) (by omega)
  simp only [hz1, Int.toNat_natCast, Nat.mul_one, madeCells_zero] at this
  exact this

def cutLen (n : Int) : Nat := (max 0 (min n 4096)).toNat

theorem cutLen_le (n : Int) : cutLen n ≤ 4096 := by unfold cutLen; omega

/-- An arena (the program's: T = 52; the document's: T = 59): its one cell at block p, its words in block b. -/
structure Ar (T : TypeId) (w : World) (p b : Nat) (xs : List Int) : Prop where
  hdr : w.heap[p]? = some (.cells #[.slice (some ⟨b, 0, none⟩) xs.length xs.length] T (0, 0))
  row : w.heap[b]? = some (.cells (ints xs) 3 (0, 0))
  ne : p ≠ b
  le : xs.length ≤ 4096

theorem Ar.keep {T : TypeId} {S : Nat → Prop} {w w' : World} {p b : Nat} {xs : List Int} (h : Ar T w p b xs) (hc : Ch S w w') (hp : ¬ S p) (hb : ¬ S b) : Ar T w' p b xs :=
  ⟨hc.keep h.hdr hp, hc.keep h.row hb, h.ne, h.le⟩

theorem Ar.lt {T : TypeId} {w : World} {p b : Nat} {xs : List Int} (h : Ar T w p b xs) : p < w.heap.size ∧ b < w.heap.size := ⟨lt_of_block h.hdr, lt_of_block h.row⟩

def There (n : Nat) (at_ k : Int) : Prop := 0 ≤ k ∧ 0 ≤ at_ ∧ at_ ≤ n ∧ k ≤ n - at_

instance (n : Nat) (at_ k : Int) : Decidable (There n at_ k) := by unfold There; infer_instance

/-! ### mem -/

set_option maxHeartbeats 400000 in
theorem new_walk (n : Int) (w : World) :
    Calls Try.prog 10 #[.int .i64 n] w fun e w' => e = .returned (.pointer (some ⟨w.heap.size + 1, 0, none⟩)) ∧
      w' = (w.alloc (.cells (ints (List.replicate (cutLen n) 0)) 3)).alloc (.cells #[.slice (some ⟨w.heap.size, 0, none⟩) (cutLen n) (cutLen n)] 52) := by
  have hc : cutLen n ≤ 4096 := cutLen_le n
  have hd : (cutLen n : Int) = if 4096 < n then 4096 else if 0 < n then n else 0 := by unfold cutLen; repeat (first | omega | split)
  generalize cutLen n = m at *
  by_cases h1 : 4096 < n
  · rw [if_pos h1] at hd
    have hmk := mk_ints 4096 m hd.symm (by omega)
    clear hd
    go_enter Try.func10, Try.ntmps10
    go_wp2
    go_ret
    exact ⟨rfl, rfl⟩
  · rw [if_neg h1] at hd
    by_cases h0 : 0 < n
    · rw [if_pos h0] at hd
      have hmk := mk_ints n m hd.symm (by omega)
      clear hd
      go_enter Try.func10, Try.ntmps10
      go_wp2
      go_ret
      exact ⟨rfl, rfl⟩
    · rw [if_neg h0] at hd
      have hmk := mk_ints 0 m hd.symm (by omega)
      clear hd
      go_enter Try.func10, Try.ntmps10
      go_wp2
      go_ret
      exact ⟨rfl, rfl⟩

theorem heap_push2_0 (w : World) (a b : Obj) : ((w.alloc a).alloc b).heap[w.heap.size]? = some a := heap_alloc2_old w a b
theorem heap_push2_1 (w : World) (a b : Obj) : ((w.alloc a).alloc b).heap[w.heap.size + 1]? = some b := heap_alloc2_new w a b

theorem ar_new (T : TypeId) (n : Nat) (hn : n ≤ 4096) (w : World) :
    Ar T ((w.alloc (.cells (ints (List.replicate n 0)) 3)).alloc (.cells #[.slice (some ⟨w.heap.size, 0, none⟩) n n] T)) (w.heap.size + 1) w.heap.size (List.replicate n 0) :=
  ⟨by rw [heap_push2_1]; simp, by rw [heap_push2_0], by omega, by simpa using hn⟩

theorem new_any (n : Int) (w : World) :
    Calls Try.prog 10 #[.int .i64 n] w fun e w' => ∃ p b, e = .returned (.pointer (some ⟨p, 0, none⟩)) ∧ Ar 52 w' p b (List.replicate (cutLen n) 0) ∧ w.heap.size ≤ p ∧ w.heap.size ≤ b ∧ Ch0 w w' := by
  refine (new_walk n w).mono ?_
  rintro e w' ⟨rfl, rfl⟩
  exact ⟨_, _, rfl, ar_new 52 _ (cutLen_le n) w, by omega, by omega, ((Ch.refl _ _).alloc _).alloc _⟩

set_option maxHeartbeats 400000 in
theorem len_any (T : TypeId) (p b : Nat) (xs : List Int) (w : World) (h : Ar T w p b xs) :
    Calls Try.prog 15 #[.pointer (some ⟨p, 0, none⟩)] w fun e w' => e = .returned (.int .i64 xs.length) ∧ w = w' := by
  have hc := cell_of_one h.hdr
  clear h
  go_enter Try.func15, Try.ntmps15
  go_wp2
  go_ret
  exact ⟨rfl, rfl⟩

set_option maxHeartbeats 400000 in
theorem len_nil (w : World) :
    Calls Try.prog 15 #[.pointer none] w fun e w' => e = .returned (.int .i64 0) ∧ w = w' := by
  go_enter Try.func15, Try.ntmps15
  go_wp2
  go_ret
  exact ⟨rfl, rfl⟩

set_option maxHeartbeats 400000 in
theorem stretch_yes (p b : Nat) (xs : List Int) (i k : Nat) (w : World) (h : Ar 52 w p b xs) (h1 : 0 < k) (h2 : i + k ≤ xs.length) :
    Calls Try.prog 23 #[.pointer (some ⟨p, 0, none⟩), .int .i64 i, .int .i64 k] w fun e w' => e = .returned (.tuple #[.slice (some ⟨b, i, none⟩) k (xs.length - i), .bool true]) ∧ w = w' := by
  have hc := cell_of_one h.hdr
  have hlen := len_any 52 p b xs w h
  have HL := Lib.hid hlen
  have hle := h.le
  clear h hlen
  have a3 : ¬ (xs.length : Int) < i := by omega
  have a4 : ¬ (xs.length - i : Int) < k := by omega
  have a5 : ((k : Int) == 0) = false := by simp; omega
  go_enter Try.func23, Try.ntmps23
  go_wp2_with fail
  refine HL.out.mono ?_
  rintro e w' ⟨rfl, rfl⟩
  go_wp2
  go_ret2
  exact ⟨by simp, rfl⟩

set_option maxHeartbeats 400000 in
/-- whatever the arena: only its length counts -/
theorem stretch_zero (v : Value) (n : Nat) (i : Nat) (w : World) (hle : n ≤ 4096) (hlen : Calls Try.prog 15 #[v] w fun e w' => e = .returned (.int .i64 n) ∧ w = w') (h2 : i ≤ n) :
    Calls Try.prog 23 #[v, .int .i64 i, .int .i64 0] w fun e w' => e = .returned (.tuple #[.slice none 0 0, .bool true]) ∧ w = w' := by
  have HL := Lib.hid hlen
  clear hlen
  have a3 : ¬ (n : Int) < i := by omega
  have a4 : ¬ (n - i : Int) < 0 := by omega
  go_enter Try.func23, Try.ntmps23
  go_wp2_with fail
  refine HL.out.mono ?_
  rintro e w' ⟨rfl, rfl⟩
  go_wp2
  go_ret2
  exact ⟨rfl, rfl⟩

set_option maxHeartbeats 400000 in
theorem stretch_no (v : Value) (n : Nat) (i k : Int) (w : World) (hle : n ≤ 4096) (hlen : Calls Try.prog 15 #[v] w fun e w' => e = .returned (.int .i64 n) ∧ w = w') (h : ¬ There n i k) :
    Calls Try.prog 23 #[v, .int .i64 i, .int .i64 k] w fun e w' => e = .returned (.tuple #[.slice none 0 0, .bool false]) ∧ w = w' := by
  have HL := Lib.hid hlen
  unfold There at h
  clear hlen
  by_cases h1 : k < 0
  · clear h
    go_enter Try.func23, Try.ntmps23
    go_wp2_with fail
    refine HL.out.mono ?_
    rintro e w' ⟨rfl, rfl⟩
    go_wp2
    go_ret2
    exact ⟨rfl, rfl⟩
  · by_cases h2 : i < 0
    · clear h
      go_enter Try.func23, Try.ntmps23
      go_wp2_with fail
      refine HL.out.mono ?_
      rintro e w' ⟨rfl, rfl⟩
      go_wp2
      go_ret2
      exact ⟨rfl, rfl⟩
    · by_cases h3 : (n : Int) < i
      · clear h
        go_enter Try.func23, Try.ntmps23
        go_wp2_with fail
        refine HL.out.mono ?_
        rintro e w' ⟨rfl, rfl⟩
        go_wp2
        go_ret2
        exact ⟨rfl, rfl⟩
      · have h4 : (n : Int) - i < k := by omega
        clear h
        go_enter Try.func23, Try.ntmps23
        go_wp2_with fail
        refine HL.out.mono ?_
        rintro e w' ⟨rfl, rfl⟩
        go_wp2
        go_ret2
        exact ⟨rfl, rfl⟩

set_option maxHeartbeats 400000 in
theorem load_yes (p b : Nat) (xs : List Int) (i : Nat) (w : World) (h : Ar 52 w p b xs) (h2 : i < xs.length) :
    Calls Try.prog 12 #[.pointer (some ⟨p, 0, none⟩), .int .i64 i] w fun e w' => e = .returned (.tuple #[.int .i64 (xs.getD i 0), .int .i64 0]) ∧ w = w' := by
  have hcell := cell_ints h.row i h2
  have hs := Lib.hid (stretch_yes p b xs i 1 w h (by omega) (by omega))
  clear h
  go_enter Try.func12, Try.ntmps12
  go_wp2_with fail
  refine hs.out.mono ?_
  rintro e w' ⟨rfl, rfl⟩
  go_wp2
  go_ret2
  exact ⟨by simp [h2], rfl⟩

set_option maxHeartbeats 400000 in
theorem load_no (v : Value) (n : Nat) (i : Int) (w : World) (hle : n ≤ 4096) (hlen : Calls Try.prog 15 #[v] w fun e w' => e = .returned (.int .i64 n) ∧ w = w') (h : ¬ (0 ≤ i ∧ i < n)) :
    Calls Try.prog 12 #[v, .int .i64 i] w fun e w' => e = .returned (.tuple #[.int .i64 0, .int .i64 2]) ∧ w = w' := by
  have hs := Lib.hid (stretch_no v n i 1 w hle hlen (by unfold There; omega))
  clear hlen
  go_enter Try.func12, Try.ntmps12
  go_wp2_with fail
  refine hs.out.mono ?_
  rintro e w' ⟨rfl, rfl⟩
  go_wp2
  go_ret2
  exact ⟨by simp, rfl⟩

end Go.Proofs.Ytcdifgbdgokioaa
