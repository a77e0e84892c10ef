/-
  Contracts of the document's Within, Of.
-/
import Derived.Test.YtlmeponoadhheaaS4
namespace Go.Proofs.Ytlmeponoadhheaa
set_option linter.unusedVariables false
open Go.RowKit

section
variable {w : World} {b : Nat} {O D : Nat → Prop} {cs : List Cls} {cv : Value} {L : List GN}

set_option maxHeartbeats 400000 in
theorem rwithin_of (h : Rt w b O D cs cv L) (hr : allRight cs = true) (hL : L.length ≤ 1000) (Df : Nat → Prop) (v : Value) (roots : List Int) (hv : SeesI Df w v roots) (level : Int) :
    Calls Try.prog 58 #[.pointer (some ⟨b, 0, none⟩), .int .i64 level, v] w fun e w' => ∃ u, e = .returned u ∧ RowAt w' 3 1 u (withinL cs L level roots).length ((withinL cs L level roots).map (Value.int .i64)) ∧ (∀ k, rblk u = some k → w.heap.size ≤ k) ∧ Ch0 w w' := by
  have hc := rclose_of h hr hL Df v roots hv level
  obtain ⟨va, vc, rfl, -⟩ := hv.len
  clear h hv
  unfold withinL
  by_cases hl : level < 1
  · rw [if_pos hl]
    have g1 : decide (level < 1) = true := decide_eq_true hl
    clear hl hc
    go_enter Try.func58, Try.ntmps58
    go_wp2_with fail
    go_ret
    exact ⟨_, rfl, RowAt.nil, (fun k hk => by cases hk), Ch.refl _ _⟩
  · rw [if_neg hl]
    have g1 : decide (level < 1) = false := decide_eq_false hl
    clear hl
    generalize closeL cs L level roots = res at *
    go_enter Try.func58, Try.ntmps58
    go_wp2_with fail
    refine hc.mono ?_
    rintro e w1 ⟨u, rfl, r1, f1, c1⟩
    obtain ⟨a, c, rfl, -, -⟩ := r1.isSlice
    have HE := Lib.hid (And.intro r1 (And.intro f1 c1))
    clear hc r1 f1 c1
    go_wp2_with fail
    go_ret
    exact ⟨_, rfl, HE.out⟩

set_option maxRecDepth 100000 in
set_option maxHeartbeats 1000000 in
theorem rof_of (h : Rt w b O D cs cv L) (hr : allRight cs = true) (hL : L.length ≤ 1000) (Df : Nat → Prop) (v : Value) (roots : List Int) (hv : SeesI Df w v roots) (id : Int) :
    Calls Try.prog 62 #[.pointer (some ⟨b, 0, none⟩), .int .i64 id, v] w fun e w' => e = .returned (.int .i64 (ofL cs L id roots)) ∧ Ch0 w w' := by
  have HW : Hid (∀ (lv : Int) w', Ch0 w w' → _) := Lib.hid (fun lv w' (c : Ch0 w w') => rclose_of (h.new c) hr hL Df v roots (hv.keep c (fun _ _ e => e)) lv)
  obtain ⟨va, vc, rfl, -⟩ := hv.len
  obtain ⟨y, hy⟩ : ∃ y, y = ofL cs L id roots := ⟨_, rfl⟩
  rw [← hy]
  replace hy := Lib.hid hy
  clear h hv
  go_enter Try.func62, Try.ntmps62
  go_wp2_with fail
  go_loopw [7] (fun i wr => ∃ k : Int, 1 ≤ k ∧ k ≤ 6 ∧ i = .int .i64 k ∧ Ch0 w wr ∧ ∀ m, 1 ≤ m → m < k → id ∉ closeL cs L m roots) (fun i _ => (6 - intOf i).toNat)
  case atStart => exact ⟨1, by omega, by omega, rfl, Ch.refl _ _, fun m h1 h2 => by omega⟩
  case round =>
    obtain ⟨k, hk1, hk6, rfl, d, hn⟩ := hrel
    by_cases hk5 : k ≤ 5
    · have hwi := HW.out k wr d
      replace d := Lib.hid d
      replace hn := Lib.hid hn
      have g1 : decide (k ≤ 5) = true := decide_eq_true hk5
      go_wp2_with fail
      refine hwi.mono ?_
      rintro e w1 ⟨u, rfl, r1, -, c1⟩
      have hct := has_any _ _ _ id w1 r1.sees
      have HC := Lib.hid (d.out.trans c1)
      clear hwi r1 c1
      by_cases hin : id ∈ closeL cs L k roots
      · rw [decide_eq_true hin] at hct
        have HE : Hid (y = k) := Lib.hid (by rw [hy.out, ofL_first id roots k hk1 hk5 hin hn.out])
        clear hin
        go_wp2_with fail
        refine hct.mono ?_
        rintro e w2 ⟨rfl, hs⟩
        obtain rfl : w1 = w2 := hs
        clear hct
        go_wp2_with fail
        go_ret
        exact ⟨by rw [HE.out]; rfl, HC.out⟩
      · rw [decide_eq_false hin] at hct
        have HE : Hid (∀ m, 1 ≤ m → m < k + 1 → id ∉ closeL cs L m roots) := Lib.hid (fun m h1 h2 => by
          by_cases e : m = k
          · rw [e]; exact hin
          · exact hn.out m h1 (by omega))
        have y1 : IntKind.i64.wrap (k + 1) = k + 1 := IntWalk.i64_in _ (by omega)
        clear hin
        go_wp2_with fail
        refine hct.mono ?_
        rintro e w2 ⟨rfl, hs⟩
        obtain rfl : w1 = w2 := hs
        clear hct
        go_wp2_with fail
        go_roundw
        case rel => exact ⟨k + 1, by omega, by omega, by go_num, HC.out, HE.out⟩
        case measure => simp [intOf]; omega
    · obtain rfl : k = 6 := by omega
      have HE : Hid (y = 0) := Lib.hid (by rw [hy.out, ofL_none id roots (fun m h1 h2 => hn m h1 (by omega))])
      have HC := Lib.hid d
      clear d hn
      go_wp2_with fail
      go_ret
      exact ⟨by rw [HE.out]; rfl, HC.out⟩

end

end Go.Proofs.Ytlmeponoadhheaa
