/-
  CensusRows: the walk.
-/
import Derived.Test.YtlmeponoadhheaaAwake19
import Derived.Test.YtlmeponoadhheaaFew
import Derived.Test.YtlmeponoadhheaaConv
import Derived.Test.YtlmeponoadhheaaRDiff
namespace Go.Proofs.Ytlmeponoadhheaa
set_option linter.unusedVariables false
open Go.RowKit

/-- rows that the law lets in -/
structure Few60 (L : List R5) : Prop where
  n : L.length ≤ 60
  i : ∀ r ∈ L, r.In 1099511627776

theorem few60 {L : List R5} (h : fewR L = true) : Few60 L := by
  unfold fewR at h
  simp only [Bool.and_eq_true, decide_eq_true_eq, List.all_eq_true] at h
  exact ⟨h.1, fun r hr => tera_in (h.2 r hr)⟩

theorem Few60.few {L : List R5} (h : Few60 L) : Few L := ⟨by have := h.n; omega, fun r hr => (h.i r hr).mono (by decide)⟩

theorem awake_at {w : World} (w' : World) (c : Ch0 w w') : Calls Try.prog 80 #[] w' fun e w'' => e = .returned (.bool true) ∧ Ch0 w w'' :=
  (awake19 w').mono (fun _ _ ⟨h1, h2⟩ => ⟨h1, c.trans h2⟩)

theorem HasR.seesB {w : World} {T : TypeId} {D : Nat → Prop} {v : Value} {L : List R5} (h : HasR w T D v L) : SeesR (fun k => k < w.heap.size) w v L :=
  HasR.sees (T := T) ⟨h.1, fun _ hk => h.1.lt hk⟩

/-- rows that are there in whatever later world -/
def Stay (w : World) (v : Value) (L : List R5) : Prop := ∀ w', Ch0 w w' → SeesR (fun k => k < w'.heap.size) w' v L

theorem stay {w : World} {v : Value} {L : List R5} (h : SeesR (fun k => k < w.heap.size) w v L) : Stay w v L := fun _ c => Sees.mono (h.keep c (fun _ _ e => e)) (fun _ hk => Nat.lt_of_lt_of_le hk c.size)
theorem Stay.on {w w1 : World} {v : Value} {L : List R5} (h : Stay w v L) (c : Ch0 w w1) : Stay w1 v L := fun w' c' => h w' (c.trans c')
theorem Stay.here {w : World} {v : Value} {L : List R5} (h : Stay w v L) : SeesR (fun k => k < w.heap.size) w v L := h w (Ch.refl _ _)

theorem few_at {w : World} {v : Value} {L : List R5} (hs : Stay w v L) (w' : World) (c : Ch0 w w') :
    Calls Try.prog 89 #[v] w' fun e w'' => e = .returned (.bool (fewR L)) ∧ Ch0 w w'' :=
  (few_of _ v L w' (hs w' c)).mono (fun _ _ ⟨h1, h2⟩ => ⟨h1, c.trans h2⟩)

set_option maxRecDepth 100000 in
set_option maxHeartbeats 4000000 in
theorem rows19_walk (A Bs : List R5) (va vb : Value) (w : World) (hsa : SeesR (fun k => k < w.heap.size) w va A) (hsb : SeesR (fun k => k < w.heap.size) w vb Bs) :
    Calls Try.prog 23 #[va, vb] w fun e w' => e = .returned (.bool true) ∧ Ch0 w w' := by
  obtain ⟨aa, ca, rfl, -⟩ := hsa.len
  obtain ⟨ab, cb, rfl, -⟩ := hsb.len
  have HSA := Lib.hid (stay hsa)
  have HSB := Lib.hid (stay hsb)
  clear hsa hsb
  go_enter Try.func23, Try.ntmps23
  go_wp2_with fail
  refine (awake_at w (Ch.refl _ _)).mono ?_
  rintro e w1 ⟨rfl, c1⟩
  replace c1 := Lib.hid c1
  by_cases hfa : fewR A = true
  case neg =>
    have hfa' : fewR A = false := by simpa using hfa
    have hF := few_at HSA.out w1 c1.out
    rw [hfa'] at hF
    clear hfa hfa'
    go_wp2_with fail
    refine hF.mono ?_
    rintro e w2 ⟨rfl, c2⟩
    replace c2 := Lib.hid c2
    clear hF
    go_wp2_with fail
    refine (awake_at w2 c2.out).mono ?_
    rintro e w3 ⟨rfl, c3⟩
    replace c3 := Lib.hid c3
    go_wp2_with fail
    go_ret
    exact ⟨rfl, c3.out⟩
  have hF := few_at HSA.out w1 c1.out
  rw [hfa] at hF
  go_wp2_with fail
  refine hF.mono ?_
  rintro e w2 ⟨rfl, c2⟩
  replace c2 := Lib.hid c2
  clear hF c1
  by_cases hfb : fewR Bs = true
  case neg =>
    have hfb' : fewR Bs = false := by simpa using hfb
    have hF := few_at HSB.out w2 c2.out
    rw [hfb'] at hF
    clear hfb hfb'
    go_wp2_with fail
    refine hF.mono ?_
    rintro e w3 ⟨rfl, c3⟩
    replace c3 := Lib.hid c3
    clear hF
    go_wp2_with fail
    refine (awake_at w3 c3.out).mono ?_
    rintro e w4 ⟨rfl, c4⟩
    replace c4 := Lib.hid c4
    go_wp2_with fail
    go_ret
    exact ⟨rfl, c4.out⟩
  have hF := few_at HSB.out w2 c2.out
  rw [hfb] at hF
  have HA := Lib.hid (few60 hfa)
  have HB := Lib.hid (few60 hfb)
  clear hfa hfb
  go_wp2_with fail
  refine hF.mono ?_
  rintro e w3 ⟨rfl, c3⟩
  have h1 := back_of _ _ A w3 (HSA.out w3 c3) (fun _ h => h) (by have := HA.out.n; omega)
  replace c3 := Lib.hid c3
  clear hF c2
  go_wp2_with fail
  refine h1.mono ?_
  rintro e w4 ⟨u4, rfl, hu4, d4⟩
  have h2 := total_of _ _ A w4 hu4.seesB (fun _ h => h) HA.out.few
  have c4 := Lib.hid (c3.out.trans d4)
  clear h1 c3 hu4 d4
  go_wp2_with fail
  refine h2.mono ?_
  rintro e w5 ⟨rfl, d5⟩
  have c5 := Lib.hid (c4.out.trans d5)
  have h3 := rtotal_of _ _ A w5 (HSA.out w5 c5.out) (fun _ h => h) HA.out.few
  clear h2 d5 c4
  unfold R5.val at *
  go_wp2_with fail
  refine h3.mono ?_
  rintro e w6 ⟨rfl, d6⟩
  have c6 := Lib.hid (c5.out.trans d6)
  have h1 := back_of _ _ A w6 (HSA.out w6 c6.out) (fun _ h => h) (by have := HA.out.n; omega)
  generalize tot A = T at *
  clear h3 d6 c5
  go_wp2_with fail
  refine h1.mono ?_
  rintro e w7 ⟨u7, rfl, hu7, d7⟩
  have h2 := most_of _ _ A w7 hu7.seesB (fun _ h => h) (by have := HA.out.n; omega)
  have c7 := Lib.hid (c6.out.trans d7)
  clear h1 c6 hu7 d7
  go_wp2_with fail
  refine h2.mono ?_
  rintro e w8 ⟨rfl, d8⟩
  have c8 := Lib.hid (c7.out.trans d8)
  have h3 := rmost_of _ _ A w8 (HSA.out w8 c8.out) (fun _ h => h) (by have := HA.out.n; omega)
  clear h2 d8 c7
  go_wp2_with fail
  refine h3.mono ?_
  rintro e w9 ⟨rfl, d9⟩
  have c9 := Lib.hid (c8.out.trans d9)
  have h1 := back_of _ _ A w9 (HSA.out w9 c9.out) (fun _ h => h) (by have := HA.out.n; omega)
  generalize (mostR A).cls = M at *
  clear h3 d9 c8
  go_wp2_with fail
  refine h1.mono ?_
  rintro e w10 ⟨u10, rfl, hu10, d10⟩
  have c10 := Lib.hid (c9.out.trans d10)
  have S10 := Lib.hid (stay hu10.seesB)
  have h2 := back_of _ _ Bs w10 (HSB.out w10 c10.out) (fun _ h => h) (by have := HB.out.n; omega)
  clear h1 c9 hu10 d10
  go_wp2_with fail
  refine h2.mono ?_
  rintro e w11 ⟨u11, rfl, hu11, d11⟩
  have c11 := Lib.hid (c10.out.trans d11)
  have h3 := cdiff_of _ _ _ A Bs w11 (S10.out w11 d11) hu11.seesB (fun _ h => h) HA.out.few HB.out.few
  clear h2 d11 c10 S10 hu11
  go_wp2_with fail
  refine h3.mono ?_
  rintro e w12 ⟨u12, R, rfl, hR, hu12, hl12, d12⟩
  have c12 := Lib.hid (c11.out.trans d12)
  have hlR : R.length ≤ 120 := by have := HA.out.n; have := HB.out.n; omega
  have h1 := rows_of _ _ R w12 hu12.seesB (fun _ h => h) (by omega)
  replace hR := Lib.hid hR
  clear h3 d12 c11 hl12 hu12
  go_wp2_with fail
  refine h1.mono ?_
  rintro e w13 ⟨u13, rfl, hu13, d13⟩
  have c13 := Lib.hid (c12.out.trans d13)
  have S13 := Lib.hid (stay hu13.seesB)
  have h2 := rdiff_of _ _ _ A Bs w13 (HSA.out w13 c13.out) (HSB.out w13 c13.out) (fun _ h => h) HA.out.few HB.out.few
  clear h1 d13 c12 hu13
  go_wp2_with fail
  refine h2.mono ?_
  rintro e w14 ⟨u14, R2, rfl, hR2, hu14, hl14, d14⟩
  have c14 := Lib.hid (c13.out.trans d14)
  have h3 := rsame_of _ _ _ _ R R2 w14 (S13.out w14 d14) hu14.seesB (by omega) (by have := HA.out.n; have := HB.out.n; omega)
  rw [decide_eq_true (hR.out.eq hR2 (fun _ => rfl))] at h3
  clear h2 d14 c13 S13 hu14 hR2 hR
  go_wp2_with fail
  refine h3.mono ?_
  rintro e w15 ⟨rfl, d15⟩
  have c15 := Lib.hid (c14.out.trans d15)
  clear h3 d15 c14
  go_wp2_with fail
  go_ret
  exact ⟨rfl, c15.out⟩

end Go.Proofs.Ytlmeponoadhheaa
