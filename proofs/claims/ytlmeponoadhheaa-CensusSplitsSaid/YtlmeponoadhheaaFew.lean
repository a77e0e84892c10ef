/-
  Contracts of the laws' few, and of the document's Same of rows.
-/
import Derived.Test.YtlmeponoadhheaaEq5
namespace Go.Proofs.Ytlmeponoadhheaa
set_option linter.unusedVariables false
open Go.RowKit

def mx2 (x y : Int) : Int := if y > x then y else x
def mn2 (x y : Int) : Int := if y < x then y else x
def mx4 (a b c d : Int) : Int := mx2 (mx2 (mx2 a b) c) d
def mn4 (a b c d : Int) : Int := mn2 (mn2 (mn2 a b) c) d

theorem run_max4 (a b c d : Int) (ts : Array TypeId) (t : TypeId) (w : World) : (Builtin.max_ ts t #[.int .i64 a, .int .i64 b, .int .i64 c, .int .i64 d]).run Try.prog w = .ok (.int .i64 (mx4 a b c d)) w := by
  simp [Builtin.max_, Builtin.max2, mx4, mx2]
theorem run_min4 (a b c d : Int) (ts : Array TypeId) (t : TypeId) (w : World) : (Builtin.min_ ts t #[.int .i64 a, .int .i64 b, .int .i64 c, .int .i64 d]).run Try.prog w = .ok (.int .i64 (mn4 a b c d)) w := by
  simp [Builtin.min_, Builtin.min2, mn4, mn2]
  rfl

theorem mx4_lt {a b c d k : Int} : ¬ k < mx4 a b c d ↔ a ≤ k ∧ b ≤ k ∧ c ≤ k ∧ d ≤ k := by
  unfold mx4 mx2
  repeat' split
  all_goals omega
theorem mn4_lt {a b c d k : Int} : ¬ mn4 a b c d < k ↔ k ≤ a ∧ k ≤ b ∧ k ≤ c ∧ k ≤ d := by
  unfold mn4 mn2
  repeat' split
  all_goals omega

def tera (r : R5) : Bool := !(decide (1099511627776 < mx4 r.cnt r.wds r.refs r.fin)) && !(decide (mn4 r.cnt r.wds r.refs r.fin < -1099511627776))
theorem tera_in {r : R5} (h : tera r = true) : r.In 1099511627776 := by
  unfold tera at h
  simp only [Bool.and_eq_true, Bool.not_eq_true', decide_eq_false_iff_not] at h
  obtain ⟨h1, h2, h3, h4⟩ := mx4_lt.1 h.1
  obtain ⟨g1, g2, g3, g4⟩ := mn4_lt.1 h.2
  exact ⟨⟨g1, h1⟩, ⟨g2, h2⟩, ⟨g3, h3⟩, g4, h4⟩
def fewR (L : List R5) : Bool := decide (L.length ≤ 60) && L.all tera

set_option maxRecDepth 100000 in
set_option maxHeartbeats 4000000 in
theorem few_of (D : Nat → Prop) (v : Value) (L : List R5) (w : World) (hs : SeesR D w v L) :
    Calls Try.prog 89 #[v] w fun e w' => e = .returned (.bool (fewR L)) ∧ Ch0 w w' := by
  obtain ⟨a, c, rfl, hc⟩ := hs.len
  have HS := Lib.hid hs
  clear hs hc
  by_cases h60 : L.length ≤ 60
  case neg =>
    have hE : fewR L = false := by unfold fewR; rw [decide_eq_false h60]; rfl
    have g1 : decide ((60 : Int) < L.length) = true := decide_eq_true (by omega)
    rw [hE]
    clear hE
    go_enter Try.func89, Try.ntmps89
    go_wp2_with fail
    go_ret
    exact ⟨rfl, Ch.refl _ _⟩
  have g1 : decide ((60 : Int) < L.length) = false := decide_eq_false (by omega)
  obtain ⟨y, hy⟩ : ∃ y, fewR L = y := ⟨_, rfl⟩
  rw [hy]
  replace hy := Lib.hid hy
  go_enter Try.func89, Try.ntmps89
  go_wp2_with fail
  go_loopw [10] (fun i wr => ∃ j : Nat, j ≤ L.length ∧ i = .int .i64 j ∧ (∀ m (hm : m < L.length), m < j → tera L[m] = true) ∧ Ch0 w wr) (fun i _ => L.length - (intOf i).toNat)
  case atStart => exact ⟨0, Nat.zero_le _, rfl, fun m _ h => by omega, Ch.refl _ _⟩
  case round =>
    obtain ⟨j, hj, rfl, hT, d⟩ := hrel
    by_cases hlt : j < L.length
    · obtain ⟨g, o, c', hDg, e2, hcell⟩ := (HS.out.keep d (fun _ _ e => e)).row (by omega)
      obtain ⟨rfl, rfl⟩ : a = some ⟨g, o, none⟩ ∧ c = c' := by simpa using e2
      obtain ⟨x0, x1, x2, x3, x4⟩ := hcell j hlt
      have i1 : (0 : Int) ≤ j := by omega
      have i2 : (j : Int) < L.length := by omega
      have HN : Hid (tera L[j] = true → ∀ m (hm : m < L.length), m < j + 1 → tera L[m] = true) := Lib.hid (fun ht m hm h => by
        by_cases e : m = j
        · subst e; exact ht
        · exact hT m hm (by omega))
      have HB : Hid (tera L[j] = false → y = false) := Lib.hid (fun ht => by
        rw [← hy.out]
        unfold fewR
        have : L.all tera = false := by
          rw [List.all_eq_false]
          exact ⟨L[j], List.getElem_mem hlt, by simp [ht]⟩
        rw [this, Bool.and_false])
      clear hcell e2 hT
      generalize L[j] = r at *
      replace d := Lib.hid (d.alloc (.cells #[.int .i64 r.cls, .int .i64 r.cnt, .int .i64 r.wds, .int .i64 r.refs, .int .i64 r.fin] 110))
      have hmx := fun ts t w => run_max4 r.cnt r.wds r.refs r.fin ts t w
      have hmn := fun ts t w => run_min4 r.cnt r.wds r.refs r.fin ts t w
      have hte : tera r = (!(decide (1099511627776 < mx4 r.cnt r.wds r.refs r.fin)) && !(decide (mn4 r.cnt r.wds r.refs r.fin < -1099511627776))) := rfl
      generalize mx4 r.cnt r.wds r.refs r.fin = mx at *
      generalize mn4 r.cnt r.wds r.refs r.fin = mn at *
      by_cases c1 : 1099511627776 < mx
      · have g2 : decide (1099511627776 < mx) = true := decide_eq_true c1
        rw [g2] at hte
        have HE := Lib.hid (HB.out (by rw [hte]; rfl))
        clear hte HB HN
        go_wp2_with fail
        go_ret
        exact ⟨by rw [HE.out]; rfl, d.out⟩
      · have g2 : decide (1099511627776 < mx) = false := decide_eq_false c1
        rw [g2] at hte
        by_cases c2 : mn < -1099511627776
        · have g3 : decide (mn < -1099511627776) = true := decide_eq_true c2
          rw [g3] at hte
          have HE := Lib.hid (HB.out (by rw [hte]; rfl))
          clear hte HB HN
          go_wp2_with fail
          go_ret
          exact ⟨by rw [HE.out]; rfl, d.out⟩
        · have g3 : decide (mn < -1099511627776) = false := decide_eq_false c2
          rw [g3] at hte
          have HE := Lib.hid (HN.out (by rw [hte]; rfl))
          clear hte HB HN
          go_wp2_with fail
          go_roundw
          case rel => exact ⟨j + 1, by omega, by go_num, HE.out, d.out⟩
          case measure => simp [intOf]; omega
    · have i2 : (L.length : Int) ≤ j := by omega
      have HE : Hid (y = true) := Lib.hid (by
        rw [← hy.out]
        unfold fewR
        rw [decide_eq_true h60, Bool.true_and, List.all_eq_true]
        intro r hr
        obtain ⟨m, hm, rfl⟩ := List.getElem_of_mem hr
        exact hT m hm (by omega))
      replace d := Lib.hid d
      clear hT
      go_wp2_with fail
      go_ret
      exact ⟨by rw [HE.out]; rfl, d.out⟩

theorem cellD {w : World} {a : Addr} {v : Value} (h : w.cell? a = some v) : ∀ n, (w.drewN n).cell? a = some v := fun n => ((Ch.refl (fun _ => False) w).drewN n).cell h (fun e => e)

set_option maxRecDepth 100000 in
set_option maxHeartbeats 4000000 in
theorem rsame_of (D E : Nat → Prop) (va vb : Value) (A Bs : List R5) (w : World) (hsa : SeesR D w va A) (hsb : SeesR E w vb Bs) (h500 : A.length ≤ 500) (h501 : Bs.length ≤ 500) :
    Calls Try.prog 84 #[va, vb] w fun e w' => e = .returned (.bool (decide (A = Bs))) ∧ Ch0 w w' := by
  obtain ⟨aa, ca, rfl, -⟩ := hsa.len
  obtain ⟨ab, cb, rfl, -⟩ := hsb.len
  have HSA := Lib.hid hsa
  have HSB := Lib.hid hsb
  clear hsa hsb
  by_cases hl : A.length = Bs.length
  case neg =>
    have hE : decide (A = Bs) = false := decide_eq_false (fun e => hl (by rw [e]))
    have g1 : ((A.length : Int) != (Bs.length : Int)) = true := by simp; omega
    rw [hE]
    clear hE hl
    go_enter Try.func84, Try.ntmps84
    go_wp2_with fail
    go_ret
    exact ⟨rfl, Ch.refl _ _⟩
  have g1 : ((A.length : Int) != (Bs.length : Int)) = false := by simp; omega
  obtain ⟨y, hy⟩ : ∃ y, decide (A = Bs) = y := ⟨_, rfl⟩
  rw [hy]
  replace hy := Lib.hid hy
  replace hl := Lib.hid hl
  go_enter Try.func84, Try.ntmps84
  go_wp2_with fail
  clear g1
  go_loopw [13] (fun i wr => ∃ j : Nat, j ≤ A.length ∧ i = .int .i64 j ∧ A.take j = Bs.take j ∧ Ch0 w wr) (fun i _ => A.length - (intOf i).toNat)
  case atStart => exact ⟨0, Nat.zero_le _, rfl, rfl, Ch.refl _ _⟩
  case round =>
    obtain ⟨j, hj, rfl, hT, d⟩ := hrel
    by_cases hlt : j < A.length
    · have hltb : j < Bs.length := by have := hl.out; omega
      obtain ⟨g, o, c', hDg, e2, hcell⟩ := (HSA.out.keep d (fun _ _ e => e)).row (by omega)
      obtain ⟨rfl, rfl⟩ : aa = some ⟨g, o, none⟩ ∧ ca = c' := by simpa using e2
      obtain ⟨x0, x1, x2, x3, x4⟩ := hcell j hlt
      clear e2 hcell
      obtain ⟨g', o', c'', hDg', e2, hcell⟩ := (HSB.out.keep d (fun _ _ e => e)).row (by omega)
      obtain ⟨rfl, rfl⟩ : ab = some ⟨g', o', none⟩ ∧ cb = c'' := by simpa using e2
      obtain ⟨z0, z1, z2, z3, z4⟩ := hcell j hltb
      have i1 : (0 : Int) ≤ j := by omega
      have i2 : (j : Int) < A.length := by omega
      have i3 : (j : Int) < Bs.length := by omega
      have HN : Hid (A[j] = Bs[j] → A.take (j + 1) = Bs.take (j + 1)) := Lib.hid (fun e => by
        rw [List.take_succ_eq_append_getElem hlt, List.take_succ_eq_append_getElem hltb, hT, e])
      have HB : Hid (A[j] ≠ Bs[j] → y = false) := Lib.hid (fun e => by
        rw [← hy.out]
        exact decide_eq_false (fun q => e (by subst q; rfl)))
      clear hcell e2 hT
      generalize A[j] = r at *
      generalize Bs[j] = s at *
      have y0 := cellD x0
      have y1 := cellD x1
      have y2 := cellD x2
      have y3 := cellD x3
      have y4 := cellD x4
      have u0 := cellD z0
      have u1 := cellD z1
      have u2 := cellD z2
      have u3 := cellD z3
      have u4 := cellD z4
      clear x0 x1 x2 x3 x4 z0 z1 z2 z3 z4
      go_wp2_with fail
      refine wp_region_quiet_lit (by kernel_rfl) (by kernel_rfl) ?_
      iterate 8 (go_big_quiet_step (fail))
      refine quiet_exec rfl (fun w' => exec_neqR (r := r) (s := s) _ _ 110 rfl rfl rfl w') ?_
      by_cases he : r = s
      · rw [decide_eq_true he]
        have HE := Lib.hid (HN.out he)
        clear HN HB he
        go_simp
        refine wpQuiet_nil ?_
        intro nq
        have cq := Lib.hid (d.drewN nq)
        clear d y0 y1 y2 y3 y4 u0 u1 u2 u3 u4
        generalize wr.drewN nq = w9 at *
        go_wp2_with fail
        go_roundw
        case rel => exact ⟨j + 1, by omega, by go_num, HE.out, cq.out⟩
        case measure => simp [intOf]; omega
      · rw [decide_eq_false he]
        have HE := Lib.hid (HB.out he)
        clear HN HB he
        go_simp
        refine wpQuiet_nil ?_
        intro nq
        have cq := Lib.hid (d.drewN nq)
        clear d y0 y1 y2 y3 y4 u0 u1 u2 u3 u4
        generalize wr.drewN nq = w9 at *
        go_wp2_with fail
        go_ret
        exact ⟨by rw [HE.out]; rfl, cq.out⟩
    · have i2 : (A.length : Int) ≤ j := by omega
      have HE : Hid (y = true) := Lib.hid (by
        rw [← hy.out]
        have e1 : A.take j = A := List.take_of_length_le (by omega)
        have e2 : Bs.take j = Bs := List.take_of_length_le (by have := hl.out; omega)
        rw [e1, e2] at hT
        exact decide_eq_true hT)
      replace d := Lib.hid d
      clear hT
      go_wp2_with fail
      go_ret
      exact ⟨by rw [HE.out]; rfl, d.out⟩

end Go.Proofs.Ytlmeponoadhheaa
