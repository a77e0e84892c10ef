/-
  Contracts of slices.Index, Contains at integers, strength.Of.
-/
import Derived.Test.YtlmeponoadhheaaS2
namespace Go.Proofs.Ytlmeponoadhheaa
set_option linter.unusedVariables false
open Go.RowKit

/-- the first place of a number; -1: none -/
def idxI (xs : List Int) (x : Int) : Int := match xs.findIdx? (fun y => y == x) with
  | some i => i
  | none => -1

theorem idxI_none {xs : List Int} {x : Int} (h : ∀ m, m < xs.length → xs.getD m 0 ≠ x) : idxI xs x = -1 := by
  unfold idxI
  have : xs.findIdx? (fun y => y == x) = none := by
    rw [List.findIdx?_eq_none_iff]
    intro y hy
    obtain ⟨m, hm, rfl⟩ := List.getElem_of_mem hy
    have := h m hm
    simpa [List.getD_eq_getElem?_getD, hm] using this
  rw [this]

theorem idxI_at {xs : List Int} {x : Int} {j : Nat} (hj : j < xs.length) (h : ∀ m, m < j → xs.getD m 0 ≠ x) (he : xs.getD j 0 = x) : idxI xs x = j := by
  unfold idxI
  have : xs.findIdx? (fun y => y == x) = some j := by
    rw [List.findIdx?_eq_some_iff_getElem]
    refine ⟨hj, by simpa [List.getD_eq_getElem?_getD, hj] using he, fun m hm => ?_⟩
    have h1 := h m hm
    have hml : m < xs.length := by omega
    simpa [List.getD_eq_getElem?_getD, hml] using h1
  rw [this]

theorem idxI_nonneg (xs : List Int) (x : Int) : decide (0 ≤ idxI xs x) = decide (x ∈ xs) := by
  by_cases h : x ∈ xs
  · rw [decide_eq_true h]
    unfold idxI
    cases e : xs.findIdx? (fun y => y == x) with
    | none => rw [List.findIdx?_eq_none_iff] at e; have := e x h; simp at this
    | some i => simp
  · rw [decide_eq_false h, idxI_none]
    · rfl
    · intro m hm e
      exact h (by rw [← e, List.getD_eq_getElem?_getD, List.getElem?_eq_getElem hm]; exact List.getElem_mem hm)

set_option maxHeartbeats 400000 in
theorem index_any (D : Nat → Prop) (v : Value) (xs : List Int) (x : Int) (w : World) (h : SeesI D w v xs) :
    Calls Try.prog 131 #[v, .int .i64 x] w fun e w' => e = .returned (.int .i64 (idxI xs x)) ∧ SameW w w' := by
  obtain ⟨a, c, rfl, hlen⟩ := h.len
  have HS := Lib.hid h
  clear h
  obtain ⟨y, hy⟩ : ∃ y : Int, y = idxI xs x := ⟨_, rfl⟩
  rw [← hy]
  replace hy := Lib.hid hy
  go_enter Try.func131, Try.ntmps131
  go_wp2_with fail
  go_loop [8] (fun i => ∃ j : Nat, j ≤ xs.length ∧ i = .int .i64 j ∧ ∀ m, m < j → xs.getD m 0 ≠ x) (fun i => xs.length - (intOf i).toNat)
  case atStart => exact ⟨0, Nat.zero_le _, rfl, fun m hm => by omega⟩
  case round =>
    obtain ⟨j, hj, rfl, hne⟩ := hrel
    have HN := Lib.hid hne
    clear hne
    by_cases hlt : j < xs.length
    · obtain ⟨g, o, c1, -, e1, hcell⟩ := HS.out.cell (by omega)
      obtain ⟨rfl, rfl⟩ : a = some ⟨g, o, none⟩ ∧ c = c1 := by simpa using e1
      have hx := hcell j hlt
      clear hcell e1
      have i1 : (0 : Int) ≤ j := by omega
      have i2 : (j : Int) < xs.length := by omega
      by_cases hxx : xs.getD j 0 = x
      · have HE : Hid (y = j) := Lib.hid (by rw [hy.out, idxI_at hlt HN.out hxx])
        have t1 : (x == xs.getD j 0) = true := by simpa using hxx.symm
        clear hxx
        generalize xs.getD j 0 = X at *
        go_wp2_with fail
        go_ret
        exact ⟨by rw [HE.out]; rfl, SameW.rfl' _⟩
      · have HE : Hid (∀ m, m < j + 1 → xs.getD m 0 ≠ x) := Lib.hid (fun m hm => by
          by_cases e : m = j
          · subst e; exact hxx
          · exact HN.out m (by omega))
        have t1 : (x == xs.getD j 0) = false := beq_eq_false_iff_ne.2 (fun e => hxx e.symm)
        clear hxx
        generalize xs.getD j 0 = X at *
        go_wp2_with fail
        go_round
        case rel => exact ⟨j + 1, by omega, by go_num, HE.out⟩
        case measure => simp [intOf]; omega
    · obtain rfl : j = xs.length := by omega
      have HE : Hid (y = -1) := Lib.hid (by rw [hy.out, idxI_none HN.out])
      go_wp2_with fail
      go_ret
      exact ⟨by rw [HE.out]; rfl, SameW.rfl' _⟩

set_option maxHeartbeats 400000 in
theorem contains_any (D : Nat → Prop) (v : Value) (xs : List Int) (x : Int) (w : World) (h : SeesI D w v xs) :
    Calls Try.prog 112 #[v, .int .i64 x] w fun e w' => e = .returned (.bool (decide (x ∈ xs))) ∧ SameW w w' := by
  have hi := index_any D v xs x w h
  obtain ⟨a, c, rfl, hlen⟩ := h.len
  obtain ⟨y, hy⟩ : ∃ y, y = decide (x ∈ xs) := ⟨_, rfl⟩
  rw [← hy]
  have hn := idxI_nonneg xs x
  rw [← hy] at hn
  generalize idxI xs x = I at *
  clear h hy
  go_enter Try.func112, Try.ntmps112
  go_wp2_with fail
  refine hi.mono ?_
  rintro e w1 ⟨rfl, hs⟩
  obtain rfl : w = w1 := hs
  clear hi
  go_wp2_with fail
  go_ret
  exact ⟨rfl, SameW.rfl' _⟩

section
variable {w : World} {b : Nat} {O : Nat → Prop} {cs : List Cls} {L : List GN} {p lo hi : Nat}

/-- .. as a search level by level -/
theorem ofL_first (id : Int) (roots : List Int) (k : Int) (h1 : 1 ≤ k) (h5 : k ≤ 5) (h : id ∈ closeL cs L k roots) (hn : ∀ m, 1 ≤ m → m < k → id ∉ closeL cs L m roots) : ofL cs L id roots = k := by
  obtain ⟨q1, q2⟩ := ofL_le h1 h5 h
  have q3 := ofL_in q1
  have q4 := ofL_range (cs := cs) (L := L) id roots
  rcases Int.lt_or_eq_of_le q2 with q | q
  · exact absurd q3 (hn _ (by omega) q)
  · exact q

theorem ofL_none (id : Int) (roots : List Int) (hn : ∀ m, 1 ≤ m → m ≤ 5 → id ∉ closeL cs L m roots) : ofL cs L id roots = 0 := by
  have q4 := ofL_range (cs := cs) (L := L) id roots
  by_cases h : ofL cs L id roots = 0
  · exact h
  · exact absurd (ofL_in h) (hn _ (by omega) (by omega))

set_option maxRecDepth 100000 in
set_option maxHeartbeats 1000000 in
theorem of_of (h : Gt w b O cs L p lo hi) (hL : L.length ≤ 1000) (D : Nat → Prop) (v : Value) (roots : List Int) (hv : SeesI D w v roots) (hrl : roots.length ≤ 100000) (id : Int) :
    Calls Try.prog 61 #[.pointer (some ⟨b, 0, none⟩), .int .i64 id, v] w fun e w' => e = .returned (.int .i64 (ofL cs L id roots)) ∧ Ch0 w w' := by
  have HW : Hid (∀ (lv : Int) w', Ch0 w w' → _) := Lib.hid (fun lv w' (c : Ch0 w w') => within_of (h.new c) hL D v roots (hv.keep c (fun _ _ e => e)) hrl lv)
  obtain ⟨va, vc, rfl, -⟩ := hv.len
  obtain ⟨y, hy⟩ : ∃ y, y = ofL cs L id roots := ⟨_, rfl⟩
  rw [← hy]
  replace hy := Lib.hid hy
  clear h hv
  go_enter Try.func61, Try.ntmps61
  go_wp2_with fail
  go_loopw [7] (fun i wr => ∃ k : Int, 1 ≤ k ∧ k ≤ 6 ∧ i = .int .i64 k ∧ Ch0 w wr ∧ ∀ m, 1 ≤ m → m < k → id ∉ closeL cs L m roots) (fun i _ => (6 - intOf i).toNat)
  case atStart => exact ⟨1, by omega, by omega, rfl, Ch.refl _ _, fun m h1 h2 => by omega⟩
  case round =>
    obtain ⟨k, hk1, hk6, rfl, d, hn⟩ := hrel
    by_cases hk5 : k ≤ 5
    · have hwi := HW.out k wr d
      rw [show withinL cs L k roots = closeL cs L k roots by unfold withinL; rw [if_neg (by omega)]] at hwi
      replace d := Lib.hid d
      replace hn := Lib.hid hn
      have g1 : decide (k ≤ 5) = true := decide_eq_true hk5
      go_wp2_with fail
      refine hwi.mono ?_
      rintro e w1 ⟨u, rfl, r1, -, c1⟩
      have hct := contains_any _ _ _ id w1 r1.sees
      have HC := Lib.hid (d.out.trans c1)
      clear hwi r1 c1
      by_cases hin : id ∈ closeL cs L k roots
      · rw [decide_eq_true hin] at hct
        have HE : Hid (y = k) := Lib.hid (by rw [hy.out, ofL_first id roots k hk1 hk5 hin hn.out])
        clear hin
        go_wp2_with fail
        refine hct.mono ?_
        rintro e w2 ⟨rfl, hs⟩
        obtain rfl : w1 = w2 := hs
        clear hct
        go_wp2_with fail
        go_ret
        exact ⟨by rw [HE.out]; rfl, HC.out⟩
      · rw [decide_eq_false hin] at hct
        have HE : Hid (∀ m, 1 ≤ m → m < k + 1 → id ∉ closeL cs L m roots) := Lib.hid (fun m h1 h2 => by
          by_cases e : m = k
          · rw [e]; exact hin
          · exact hn.out m h1 (by omega))
        have y1 : IntKind.i64.wrap (k + 1) = k + 1 := IntWalk.i64_in _ (by omega)
        clear hin
        go_wp2_with fail
        refine hct.mono ?_
        rintro e w2 ⟨rfl, hs⟩
        obtain rfl : w1 = w2 := hs
        clear hct
        go_wp2_with fail
        go_roundw
        case rel => exact ⟨k + 1, by omega, by omega, by go_num, HC.out, HE.out⟩
        case measure => simp [intOf]; omega
    · obtain rfl : k = 6 := by omega
      have HE : Hid (y = 0) := Lib.hid (by rw [hy.out, ofL_none id roots (fun m h1 h2 => hn m h1 (by omega))])
      have HC := Lib.hid d
      clear d hn
      go_wp2_with fail
      go_ret
      exact ⟨by rw [HE.out]; rfl, HC.out⟩

end

end Go.Proofs.Ytlmeponoadhheaa
