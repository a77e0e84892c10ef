/-
  Contracts of Move, slices.Clone, Words.
-/
import Derived.Test.YtcdifgbdgokioaaWalks2
import Derived.Test.YtcdifgbdgokioaaAppend
namespace Go.Proofs.Ytcdifgbdgokioaa
open Go.RowKit

/-- xs with the words from y on in the places x, .., x + j - 1 -/
def moveTo (xs : List Int) (x y : Nat) : Nat → List Int
  | 0 => xs
  | j + 1 => (moveTo xs x y j).set (x + j) (xs.getD (y + j) 0)

theorem moveTo_length (xs : List Int) (x y : Nat) (j : Nat) : (moveTo xs x y j).length = xs.length := by
  induction j with
  | zero => rfl
  | succ j ih => simp [moveTo, ih]

theorem moveTo_get (xs : List Int) (x y : Nat) (j : Nat) (h : x + j ≤ xs.length) (m : Nat) (hm : m < xs.length) :
    (moveTo xs x y j).getD m 0 = if x ≤ m ∧ m < x + j then xs.getD (y + (m - x)) 0 else xs.getD m 0 := by
  induction j with
  | zero => simp [moveTo]; omega
  | succ j ih =>
    have hl := moveTo_length xs x y j
    have ih := ih (by omega)
    simp only [moveTo, List.getD_eq_getElem?_getD, List.getElem?_set] at ih ⊢
    by_cases e : x + j = m
    · subst e
      rw [if_pos rfl, if_pos (by omega), if_pos (by omega)]
      simp
    · rw [if_neg e, ih]
      by_cases c : x ≤ m ∧ m < x + j
      · rw [if_pos c, if_pos (by omega)]
      · rw [if_neg c, if_neg (by omega)]

theorem ext_getD {xs ys : List Int} (hl : xs.length = ys.length) (h : ∀ m, m < xs.length → xs.getD m 0 = ys.getD m 0) : xs = ys := by
  apply List.ext_getElem hl
  intro m h1 h2
  have := h m h1
  simpa [List.getD_eq_getElem?_getD, List.getElem?_eq_getElem h1, List.getElem?_eq_getElem h2] using this

theorem move_seg (xs : List Int) (x y k : Nat) (hx : x + k ≤ xs.length) (hy : y + k ≤ xs.length) :
    xs.take x ++ (xs.drop y).take k ++ xs.drop (x + k) = moveTo xs x y k := by
  apply ext_getD
  · simp [moveTo_length]; omega
  · intro m hm
    simp only [List.length_append, List.length_take, List.length_drop] at hm
    rw [moveTo_get xs x y k hx m (by omega)]
    simp only [List.getD_eq_getElem?_getD, List.getElem?_append, List.getElem?_take, List.getElem?_drop, List.length_append, List.length_take, List.length_drop]
    by_cases h1 : m < x
    · rw [if_pos (by omega), if_pos (by omega), if_pos h1, if_neg (by omega)]
    · by_cases h2 : m < x + k
      · rw [if_pos (by omega), if_neg (by omega), if_pos (by omega), if_pos (by omega)]
        congr 2; omega
      · rw [if_neg (by omega), if_neg (by omega)]
        congr 2; omega

set_option maxHeartbeats 400000 in
theorem move_yes (p b : Nat) (xs : List Int) (x y k : Nat) (w : World) (h : Ar 52 w p b xs) (h1 : 0 < k) (hx : x + k ≤ xs.length) (hy : y + k ≤ xs.length) :
    Calls Try.prog 14 #[.pointer (some ⟨p, 0, none⟩), .int .i64 x, .int .i64 y, .int .i64 k] w fun e w' =>
      e = .returned (.int .i64 0) ∧ Ar 52 w' p b (moveTo xs x y k) ∧ Ch (· = b) w w' := by
  have hs := Lib.hid (stretch_yes p b xs x k w h h1 hx)
  have ht := Lib.hid (stretch_yes p b xs y k w h h1 hy)
  have hcl : (((xs.drop y).take k).map (Value.int .i64)).length = k := by simp; omega
  have hcopy := run_copy_row (P := Try.prog) w 30 30 3 3 b x k (xs.length - x) ⟨b, y, none⟩ k (xs.length - y) (ints xs) 3 (((xs.drop y).take k).map (Value.int .i64)) Try.under30 (by kernel_rfl) h.row (by rw [hcl]; exact (Nat.min_self k).symm)
    (by intro j v hv
        rw [addr_add, cell_of_row w b _ _ _ _ h.row, ints_get]
        simp only [List.getElem?_map, List.getElem?_take, List.getElem?_drop] at hv
        split at hv
        · exact hv
        · cases hv) (by rw [hcl, ints_size]; exact hx) (one_ints _)
  have hrow : ((ints xs).toList.take x ++ ((xs.drop y).take k).map (Value.int .i64) ++ (ints xs).toList.drop (x + (((xs.drop y).take k).map (Value.int .i64)).length)).toArray = ints (moveTo xs x y k) := by
    rw [hcl, ← move_seg xs x y k hx hy]
    simp [ints]
  rw [hrow] at hcopy
  clear hrow hcl
  go_enter Try.func14, Try.ntmps14
  go_wp2_with fail
  refine hs.out.mono ?_
  rintro e w' ⟨rfl, rfl⟩
  go_wp2_with fail
  refine ht.out.mono ?_
  rintro e w' ⟨rfl, rfl⟩
  go_wp2
  go_ret
  refine ⟨rfl, ⟨?_, ?_, h.ne, ?_⟩, Ch.setRow (S := (· = b)) (Ch.refl _ w) b (fun _ => rfl) _⟩
  · rw [setRow_other _ _ _ _ h.ne, h.hdr, moveTo_length]
  · rw [setRow_heap w b _ _ _ _ h.row]
  · rw [moveTo_length]; exact h.le

set_option maxHeartbeats 400000 in
theorem move_zero (v : Value) (n : Nat) (x y : Nat) (w : World) (hle : n ≤ 4096) (hlen : Calls Try.prog 15 #[v] w fun e w' => e = .returned (.int .i64 n) ∧ w = w') (hx : x ≤ n) (hy : y ≤ n) :
    Calls Try.prog 14 #[v, .int .i64 x, .int .i64 y, .int .i64 0] w fun e w' => e = .returned (.int .i64 0) ∧ w = w' := by
  have hs := Lib.hid (stretch_zero v n x w hle hlen hx)
  have ht := Lib.hid (stretch_zero v n y w hle hlen hy)
  have hcopy := run_copy_none (P := Try.prog) w 30 30 3 3 none none 0 0 0 0 Try.under30 (by kernel_rfl) rfl
  clear hlen
  go_enter Try.func14, Try.ntmps14
  go_wp2_with fail
  refine hs.out.mono ?_
  rintro e w' ⟨rfl, rfl⟩
  go_wp2_with fail
  refine ht.out.mono ?_
  rintro e w' ⟨rfl, rfl⟩
  go_wp2
  go_ret
  exact ⟨rfl, rfl⟩

/-- stretch, at whatever place; whether it is there -/
def Stretch (v : Value) (n : Nat) (w : World) (i k : Int) : Prop :=
    Calls Try.prog 23 #[v, .int .i64 i, .int .i64 k] w fun e w' => (∃ u, e = .returned (.tuple #[u, .bool (decide (There n i k))])) ∧ w = w'

theorem stretch_ar (p b : Nat) (xs : List Int) (i k : Int) (w : World) (h : Ar 52 w p b xs) : Stretch (.pointer (some ⟨p, 0, none⟩)) xs.length w i k := by
  have hlen := len_any 52 p b xs w h
  by_cases ht : There xs.length i k
  · have ht' := ht
    unfold There at ht
    obtain ⟨i, rfl⟩ := Int.eq_ofNat_of_zero_le ht.2.1
    obtain ⟨k, rfl⟩ := Int.eq_ofNat_of_zero_le ht.1
    by_cases hk : 0 < k
    · refine (stretch_yes p b xs i k w h hk (by omega)).mono ?_
      rintro e w' ⟨rfl, rfl⟩
      exact ⟨⟨_, by rw [decide_eq_true ht']⟩, rfl⟩
    · obtain rfl : k = 0 := by omega
      refine (stretch_zero _ _ i w h.le hlen (by omega)).mono ?_
      rintro e w' ⟨rfl, rfl⟩
      exact ⟨⟨_, by rw [decide_eq_true ht']⟩, rfl⟩
  · refine (stretch_no _ _ i k w h.le hlen ht).mono ?_
    rintro e w' ⟨rfl, rfl⟩
    exact ⟨⟨_, by rw [decide_eq_false ht]⟩, rfl⟩

theorem stretch_nil (i k : Int) (w : World) : Stretch (.pointer none) 0 w i k := by
  have hlen := len_nil w
  by_cases ht : There 0 i k
  · have ht' := ht
    unfold There at ht
    obtain rfl : i = ((0 : Nat) : Int) := by omega
    obtain rfl : k = 0 := by omega
    refine (stretch_zero _ 0 0 w (by omega) hlen (by omega)).mono ?_
    rintro e w' ⟨rfl, rfl⟩
    exact ⟨⟨_, by rw [decide_eq_true ht']⟩, rfl⟩
  · refine (stretch_no _ 0 i k w (by omega) hlen ht).mono ?_
    rintro e w' ⟨rfl, rfl⟩
    exact ⟨⟨_, by rw [decide_eq_false ht]⟩, rfl⟩

set_option maxHeartbeats 400000 in
theorem move_no (v : Value) (n : Nat) (x y k : Int) (w : World) (hs : ∀ i k, Stretch v n w i k) (h : ¬ (There n x k ∧ There n y k)) :
    Calls Try.prog 14 #[v, .int .i64 x, .int .i64 y, .int .i64 k] w fun e w' => e = .returned (.int .i64 2) ∧ w = w' := by
  have h1 := Lib.hid (hs x k)
  have h2 := Lib.hid (hs y k)
  clear hs
  by_cases hx : There n x k
  · have hy : decide (There n y k) = false := decide_eq_false fun q => h ⟨hx, q⟩
    have hx := decide_eq_true hx
    have HX := Lib.hid hx
    have HY := Lib.hid hy
    clear hx hy h
    go_enter Try.func14, Try.ntmps14
    go_wp2_with fail
    refine h1.out.mono ?_
    rintro e w' ⟨⟨u, rfl⟩, rfl⟩
    rw [HX.out]
    go_wp2_with fail
    refine h2.out.mono ?_
    rintro e w' ⟨⟨u', rfl⟩, rfl⟩
    rw [HY.out]
    go_wp2
    go_ret
    exact ⟨rfl, rfl⟩
  · have hx := decide_eq_false hx
    have HX := Lib.hid hx
    clear hx h
    go_enter Try.func14, Try.ntmps14
    go_wp2_with fail
    refine h1.out.mono ?_
    rintro e w' ⟨⟨u, rfl⟩, rfl⟩
    rw [HX.out]
    go_wp2_with fail
    refine h2.out.mono ?_
    rintro e w' ⟨⟨u', rfl⟩, rfl⟩
    go_wp2
    go_ret
    exact ⟨rfl, rfl⟩

/-- Move, at whatever places. -/
theorem move_any (p b : Nat) (xs : List Int) (x y k : Int) (w : World) (h : Ar 52 w p b xs) :
    Calls Try.prog 14 #[.pointer (some ⟨p, 0, none⟩), .int .i64 x, .int .i64 y, .int .i64 k] w fun e w' =>
      e = .returned (.int .i64 (if There xs.length x k ∧ There xs.length y k then 0 else 2)) ∧
      Ar 52 w' p b (if There xs.length x k ∧ There xs.length y k then moveTo xs x.toNat y.toNat k.toNat else xs) ∧ Ch (· = b) w w' := by
  have hle := h.le
  have hlen := len_any 52 p b xs w h
  by_cases ht : There xs.length x k ∧ There xs.length y k
  · simp only [if_pos ht]
    obtain ⟨tx, ty⟩ := ht
    unfold There at tx ty
    obtain ⟨x, rfl⟩ := Int.eq_ofNat_of_zero_le tx.2.1
    obtain ⟨y, rfl⟩ := Int.eq_ofNat_of_zero_le ty.2.1
    obtain ⟨k, rfl⟩ := Int.eq_ofNat_of_zero_le tx.1
    simp only [Int.toNat_natCast]
    by_cases hk : 0 < k
    · exact move_yes p b xs x y k w h hk (by omega) (by omega)
    · obtain rfl : k = 0 := by omega
      refine (move_zero _ _ x y w hle hlen (by omega) (by omega)).mono ?_
      rintro e w' ⟨rfl, rfl⟩
      exact ⟨rfl, h, Ch.refl _ _⟩
  · simp only [if_neg ht]
    refine (move_no _ _ x y k w (fun i k => stretch_ar p b xs i k w h) ht).mono ?_
    rintro e w' ⟨rfl, rfl⟩
    exact ⟨rfl, h, Ch.refl _ _⟩

/-! ### slices.Clone, Words -/

set_option maxHeartbeats 400000 in
theorem clone_any (D : Nat → Prop) (v : Value) (xs : List Int) (w : World) (h : SeesI D w v xs) (hb : xs.length ≤ 1000000000000) :
    Calls Try.prog 24 #[v] w fun e w' => ∃ u, e = .returned u ∧ w'.ownsRow 0 3 1 u xs.length (xs.map (Value.int .i64)) ∧ (∀ k, u.ownBlock = some k → w.heap.size ≤ k) ∧ Ch0 w w' := by
  obtain ⟨i0, hi, hz0, hz1, hz2⟩ := info_parts Try.info3
  have hsees := h.keep (((Ch.refl (fun _ => False) w)).alloc (.cells #[] 3)) (fun _ _ q => q)
  obtain ⟨h0, a, c, rfl, hc, hm, hl⟩ := h
  cases a with
  | none =>
    have hx : xs.length = 0 := by
      rcases hl with hl | ⟨g, o, _, hn, _⟩
      · exact hl
      · cases hn
    obtain rfl : xs = [] := List.eq_nil_of_length_eq_zero hx
    have hnil : (binOp .eql 30 (.slice none 0 c) (.slice none 0 0)).run Try.prog w = .ok (.bool true) w := Lib.run_eql_slice_nil w 30 3 none 0 c 0 0 Try.under30
    clear hz0 hz1 hz2 hi h0 hl hx hsees
    go_enter Try.func24, Try.ntmps24
    go_wp2
    go_ret
    exact ⟨_, rfl, World.ownsRow_nil _ _ _ _, fun k hk => by simp [Value.ownBlock] at hk, Ch.refl _ _⟩
  | some a =>
    have hnil : (binOp .eql 30 (.slice (some a) xs.length c) (.slice none 0 0)).run Try.prog w = .ok (.bool false) w := Lib.run_eql_slice_nil w 30 3 (some a) _ c 0 0 Try.under30
    have hown : (w.alloc (.cells #[] 3)).ownsRow 0 3 1 (.slice (some ⟨w.heap.size, 0, none⟩) 0 0) 0 [] :=
      owns_block_empty (heap_alloc_new w _) (by simp) (by decide)
    obtain ⟨v', w', hrun, hown', hch, hblk, _⟩ := append_law (P := Try.prog) (w.alloc (.cells #[] 3)) 30 30 3 i0 _ 1 8 Try.under30 hi hz0 hz1 hz2 rfl _ 0 [] hown _ _ _ hsees (one_ints xs) (by unfold maxLen; omega) (by omega)
    have HO := Lib.hid hown'
    have HB := Lib.hid hblk
    have HC := Lib.hid hch
    clear hown' hblk hch hsees hown hl h0 hz0 hz1 hz2 hi
    have HR := Lib.hid hrun
    clear hrun
    go_enter Try.func24, Try.ntmps24
    go_wp2_with (at_builtin; refine wpList_append_run rfl _ _ 30 30 rfl rfl rfl HR.out ?_)
    go_wp2
    go_ret
    refine ⟨v', rfl, by simpa using HO.out, ?_, ?_⟩
    · intro k hk
      rcases HB.out with h | h
      · rw [hk] at h; simp [Value.ownBlock] at h; omega
      · rw [hk] at h; simp at h; omega
    · exact ((Ch.refl _ w).alloc _).trans' HC.out (fun _ _ q => q) (fun i hi q => by simp [Value.ownBlock] at q; omega)

/-- what stretch hands to Words -/
theorem seesI_stretch (p b : Nat) (xs : List Int) (i k : Nat) (w : World) (h : Ar 52 w p b xs) (h2 : i + k ≤ xs.length) :
    SeesI (· = b) w (.slice (some ⟨b, i, none⟩) k (xs.length - i)) ((xs.drop i).take k) := by
  have hl : ((xs.drop i).take k).length = k := by simp; omega
  have := SeesI.mk (D := (· = b)) (w := w) (xs := (xs.drop i).take k) (g := b) (o := i) (c := xs.length - i) rfl (by omega) (by have := h.le; unfold maxLen; omega) (by
    intro j hj
    rw [cell_ints h.row (i + j) (by omega)]
    simp only [List.getD_eq_getElem?_getD, List.getElem?_take, List.getElem?_drop]
    rw [if_pos (by omega)])
  rwa [hl] at this

/-- A list of integers in new memory. -/
def NewI (w w' : World) (u : Value) (xs : List Int) : Prop :=
  w'.ownsRow 0 3 1 u xs.length (xs.map (Value.int .i64)) ∧ (∀ k, u.ownBlock = some k → w.heap.size ≤ k) ∧ Ch0 w w'

theorem clone_new (D : Nat → Prop) (v : Value) (xs : List Int) (w : World) (h : SeesI D w v xs) (hb : xs.length ≤ 1000000000000) :
    Calls Try.prog 24 #[v] w fun e w' => ∃ u, e = .returned u ∧ NewI w w' u xs := clone_any D v xs w h hb

set_option maxHeartbeats 400000 in
theorem words_of (v : Value) (i k : Int) (w : World) (D : Nat → Prop) (s : Value) (xs : List Int) (hs : Calls Try.prog 23 #[v, .int .i64 i, .int .i64 k] w fun e w' => e = .returned (.tuple #[s, .bool true]) ∧ w = w')
    (h : SeesI D w s xs) (hb : xs.length ≤ 1000000000000) :
    Calls Try.prog 16 #[v, .int .i64 i, .int .i64 k] w fun e w' => ∃ u, e = .returned (.tuple #[u, .int .i64 0]) ∧ NewI w w' u xs := by
  have HS := Lib.hid hs
  have HC := Lib.hid (clone_new D s xs w h hb)
  clear hs h
  go_enter Try.func16, Try.ntmps16
  go_wp2_with fail
  refine HS.out.mono ?_
  rintro e w' ⟨rfl, rfl⟩
  go_wp2_with fail
  refine HC.out.mono ?_
  rintro e w' ⟨u, rfl, hu⟩
  have HU := Lib.hid hu
  clear hu
  go_wp2
  go_ret2
  exact ⟨u, rfl, HU.out⟩

set_option maxHeartbeats 400000 in
theorem words_no (v : Value) (n : Nat) (i k : Int) (w : World) (hle : n ≤ 4096) (hlen : Calls Try.prog 15 #[v] w fun e w' => e = .returned (.int .i64 n) ∧ w = w') (h : ¬ There n i k) :
    Calls Try.prog 16 #[v, .int .i64 i, .int .i64 k] w fun e w' => e = .returned (.tuple #[.slice none 0 0, .int .i64 2]) ∧ w = w' := by
  have hs := Lib.hid (stretch_no v n i k w hle hlen h)
  clear hlen h
  go_enter Try.func16, Try.ntmps16
  go_wp2_with fail
  refine hs.out.mono ?_
  rintro e w' ⟨rfl, rfl⟩
  go_wp2
  go_ret2
  exact ⟨rfl, rfl⟩

theorem NewI.nil (w : World) : NewI w w (.slice none 0 0) [] := ⟨World.ownsRow_nil _ _ _ _, fun k hk => by simp [Value.ownBlock] at hk, Ch.refl _ _⟩

/-- Words, at whatever place. -/
theorem words_any (p b : Nat) (xs : List Int) (i k : Int) (w : World) (h : Ar 52 w p b xs) :
    Calls Try.prog 16 #[.pointer (some ⟨p, 0, none⟩), .int .i64 i, .int .i64 k] w fun e w' =>
      ∃ u, e = .returned (.tuple #[u, .int .i64 (if There xs.length i k then 0 else 2)]) ∧ NewI w w' u (if There xs.length i k then (xs.drop i.toNat).take k.toNat else []) := by
  have hle := h.le
  have hlen := len_any 52 p b xs w h
  by_cases ht : There xs.length i k
  · simp only [if_pos ht]
    unfold There at ht
    obtain ⟨i, rfl⟩ := Int.eq_ofNat_of_zero_le ht.2.1
    obtain ⟨k, rfl⟩ := Int.eq_ofNat_of_zero_le ht.1
    simp only [Int.toNat_natCast]
    by_cases hk : 0 < k
    · exact words_of _ _ _ w (· = b) _ _ (stretch_yes p b xs i k w h hk (by omega)) (seesI_stretch p b xs i k w h (by omega)) (by simp; omega)
    · obtain rfl : k = 0 := by omega
      exact words_of _ _ _ w (· = b) _ _ (stretch_zero _ _ i w hle hlen (by omega)) SeesI.nil (by simp)
  · simp only [if_neg ht]
    refine (words_no _ _ i k w hle hlen ht).mono ?_
    rintro e w' ⟨rfl, rfl⟩
    exact ⟨_, rfl, NewI.nil w⟩

end Go.Proofs.Ytcdifgbdgokioaa
