/-
  CensusOrder: the walk.
-/
import Derived.Test.YtlmeponoadhheaaRows19
namespace Go.Proofs.Ytlmeponoadhheaa
set_option linter.unusedVariables false
open Go.RowKit

/-- the rows, turned -/
def turnL (A : List R5) (K : Nat) : List R5 := (A.drop K ++ A.take K).reverse

theorem turnL_perm (A : List R5) (K : Nat) : (turnL A K).Perm A := turn_perm A K

theorem turnL_len (A : List R5) (K : Nat) : (turnL A K).length = A.length := (turnL_perm A K).length_eq

theorem turnL_get {A : List R5} {K j : Nat} (hK : K < A.length) (hj : j < A.length) (m : Nat) (hm : m = (A.length - 1 - j + K) % A.length) (hml : m < A.length) : (turnL A K)[j]'(by rw [turnL_len]; exact hj) = A[m] := by
  have h1 : (turnL A K)[j]? = A[m]? := by
    unfold turnL
    rw [List.getElem?_reverse (by simp; omega)]
    have hl : (A.drop K ++ A.take K).length = A.length := by simp; omega
    rw [hl]
    by_cases h : A.length - 1 - j < A.length - K
    · rw [List.getElem?_append_left (by simp; omega), List.getElem?_drop]
      have : (A.length - 1 - j + K) % A.length = K + (A.length - 1 - j) := by rw [Nat.mod_eq_of_lt (by omega)]; omega
      rw [hm, this]
    · rw [List.getElem?_append_right (by simp; omega), List.getElem?_take]
      simp only [List.length_drop]
      have : (A.length - 1 - j + K) % A.length = A.length - 1 - j - (A.length - K) := by
        rw [Nat.mod_eq_sub_mod (by omega), Nat.mod_eq_of_lt (by omega)]; omega
      rw [hm, this, if_pos (by omega)]
  rw [List.getElem?_eq_getElem (by rw [turnL_len]; exact hj), List.getElem?_eq_getElem hml] at h1
  exact Option.some.inj h1

theorem Few60.perm {A B : List R5} (h : Few60 A) (p : B.Perm A) : Few60 B := ⟨by rw [p.length_eq]; exact h.n, fun r hr => h.i r (p.mem_iff.1 hr)⟩

set_option maxRecDepth 100000 in
set_option maxHeartbeats 4000000 in
theorem order19_walk (A Bs : List R5) (va vb : Value) (by_ : Int) (w : World) (hsa : SeesR (fun k => k < w.heap.size) w va A) (hsb : SeesR (fun k => k < w.heap.size) w vb Bs) (hb0 : 0 ≤ by_) (hb1 : by_ < 18446744073709551616) :
    Calls Try.prog 25 #[va, vb, .int .u64 by_] w fun e w' => e = .returned (.bool true) ∧ Ch0 w w' := by
  obtain ⟨aa, ca, rfl, -⟩ := hsa.len
  obtain ⟨ab, cb, rfl, -⟩ := hsb.len
  have HSA := Lib.hid (stay hsa)
  have HSB := Lib.hid (stay hsb)
  clear hsa hsb
  go_enter Try.func25, Try.ntmps25
  go_wp2_with fail
  refine (awake_at w (Ch.refl _ _)).mono ?_
  rintro e w1 ⟨rfl, c1⟩
  replace c1 := Lib.hid c1
  by_cases hfa : fewR A = true
  case neg =>
    have hfa' : fewR A = false := by simpa using hfa
    have hF := few_at HSA.out w1 c1.out
    rw [hfa'] at hF
    clear hfa hfa'
    go_wp2_with fail
    refine hF.mono ?_
    rintro e w2 ⟨rfl, c2⟩
    replace c2 := Lib.hid c2
    clear hF
    go_wp2_with fail
    refine (awake_at w2 c2.out).mono ?_
    rintro e w3 ⟨rfl, c3⟩
    replace c3 := Lib.hid c3
    go_wp2_with fail
    go_ret
    exact ⟨rfl, c3.out⟩
  have hF := few_at HSA.out w1 c1.out
  rw [hfa] at hF
  go_wp2_with fail
  refine hF.mono ?_
  rintro e w2 ⟨rfl, c2⟩
  replace c2 := Lib.hid c2
  clear hF c1
  by_cases hfb : fewR Bs = true
  case neg =>
    have hfb' : fewR Bs = false := by simpa using hfb
    have hF := few_at HSB.out w2 c2.out
    rw [hfb'] at hF
    clear hfb hfb'
    go_wp2_with fail
    refine hF.mono ?_
    rintro e w3 ⟨rfl, c3⟩
    replace c3 := Lib.hid c3
    clear hF
    go_wp2_with fail
    refine (awake_at w3 c3.out).mono ?_
    rintro e w4 ⟨rfl, c4⟩
    replace c4 := Lib.hid c4
    go_wp2_with fail
    go_ret
    exact ⟨rfl, c4.out⟩
  have hF := few_at HSB.out w2 c2.out
  rw [hfb] at hF
  have HA := Lib.hid (few60 hfa)
  have HB := Lib.hid (few60 hfb)
  have hA60 : A.length ≤ 60 := HA.out.n
  clear hfa hfb
  by_cases hA0 : A.length = 0
  case pos =>
    have g0 : ((A.length : Int) == 0) = true := by rw [hA0]; rfl
    clear hA0
    go_wp2_with fail
    refine hF.mono ?_
    rintro e w3 ⟨rfl, c3⟩
    replace c3 := Lib.hid c3
    clear hF
    go_wp2_with fail
    refine (awake_at w3 c3.out).mono ?_
    rintro e w4 ⟨rfl, c4⟩
    replace c4 := Lib.hid c4
    go_wp2_with fail
    go_ret
    exact ⟨rfl, c4.out⟩
  have g0 : ((A.length : Int) == 0) = false := beq_eq_false_iff_ne.2 (by omega)
  obtain ⟨K, hK, hKe⟩ : ∃ K : Nat, K < A.length ∧ by_ % (A.length : Int) = K := by
    have q1 := Int.emod_nonneg by_ (show (A.length : Int) ≠ 0 by omega)
    have q2 := Int.emod_lt_of_pos by_ (show (0 : Int) < (A.length : Int) by omega)
    exact ⟨(by_ % (A.length : Int)).toNat, by omega, by omega⟩
  have v1 : IntKind.u64.wrap (A.length : Int) = A.length := by simp [IntKind.wrap, IntKind.bits, IntKind.signed]; omega
  have v2 : by_.tmod (A.length : Int) = K := by rw [Int.tmod_eq_emod_of_nonneg hb0]; exact hKe
  have v3 : IntKind.u64.wrap (K : Int) = K := by simp [IntKind.wrap, IntKind.bits, IntKind.signed]; omega
  have v4 : IntKind.i64.wrap (K : Int) = K := IntWalk.i64_in _ (by omega)
  have v5 : ((A.length : Int) == 0) = false := g0
  clear hKe
  go_wp2_with fail
  refine hF.mono ?_
  rintro e w3 ⟨rfl, c3⟩
  replace c3 := Lib.hid c3
  clear hF c2
  go_wp2_with fail
  go_loopw [8, 38] (fun u i wr => ∃ j : Nat, j ≤ A.length ∧ i = .int .i64 j ∧ HasR wr 110 (fun k => w3.heap.size ≤ k) u ((turnL A K).take j) ∧ Ch0 w3 wr) (fun _ i _ => A.length - (intOf i).toNat)
  case atStart => exact ⟨0, Nat.zero_le _, rfl, ⟨RowAt.nil, fun k hk => by cases hk⟩, Ch.refl _ _⟩
  case round =>
    obtain ⟨j, hj, rfl, hR, d⟩ := hrel
    have htl := turnL_len A K
    have hlj : ((turnL A K).take j).length = j := by rw [List.length_take]; omega
    obtain ⟨av, cv, ev, -, -⟩ := hR.1.isSlice
    subst ev
    by_cases hlt : j < A.length
    · obtain ⟨g, o, c', hDg, e2, hcell⟩ := (HSA.out wr (c3.out.trans d)).row (by omega)
      obtain ⟨rfl, rfl⟩ : aa = some ⟨g, o, none⟩ ∧ ca = c' := by simpa using e2
      obtain ⟨m, hm⟩ : ∃ m : Nat, m = (A.length - 1 - j + K) % A.length := ⟨_, rfl⟩
      have hml : m < A.length := by rw [hm]; exact Nat.mod_lt _ (by omega)
      obtain ⟨x0, x1, x2, x3, x4⟩ := hcell m hml
      have i1 : (0 : Int) ≤ m := by omega
      have i2 : (m : Int) < A.length := by omega
      have i3 : (j : Int) < A.length := by omega
      have hsn : (turnL A K).take j ++ [A[m]] = (turnL A K).take (j + 1) := by rw [List.take_succ_eq_append_getElem (by omega), turnL_get hK hlt m hm hml]
      have t1 : IntKind.i64.wrap ((A.length : Int) - 1) = (A.length : Int) - 1 := IntWalk.i64_in _ (by omega)
      have t2 : IntKind.i64.wrap ((A.length : Int) - 1 - j) = (A.length : Int) - 1 - j := IntWalk.i64_in _ (by omega)
      have t3 : IntKind.i64.wrap ((A.length : Int) - 1 - j + K) = (A.length : Int) - 1 - j + K := IntWalk.i64_in _ (by omega)
      have t4 : ((A.length : Int) - 1 - j + K).tmod (A.length : Int) = m := by
        rw [Int.tmod_eq_emod_of_nonneg (by omega), hm, Int.natCast_emod]
        congr 1
        omega
      have t5 : IntKind.i64.wrap (m : Int) = m := IntWalk.i64_in _ (by omega)
      clear hcell e2 hm hDg
      generalize A[m] = r at *
      have cX : Ch0 wr (wr.alloc (.cells #[.int .i64 r.cls, .int .i64 r.cnt, .int .i64 r.wds, .int .i64 r.refs, .int .i64 r.fin] 110)) := (Ch.refl _ _).alloc _
      have bX := heap_alloc_new wr (.cells #[.int .i64 r.cls, .int .i64 r.cnt, .int .i64 r.wds, .int .i64 r.refs, .int .i64 r.fin] 110)
      have hR2 := hR.keep cX (fun _ _ e => e)
      obtain ⟨a', c', w9, hrun, r9, d9, b9⟩ := run_rrows hR2.1 (by omega) (sees_one5 bX) (by simp) 103
      rw [hsn] at r9
      rw [hlj] at hrun r9 b9
      simp only [List.length_singleton] at hrun r9 b9
      have HE : Hid (HasR w9 110 (fun k => w3.heap.size ≤ k) (.slice a' (j + 1) c') ((turnL A K).take (j + 1)) ∧ Ch0 w3 w9) := by
        refine Lib.hid ⟨⟨r9, fun k hk => ?_⟩, (d.trans cX).trans' d9 (fun _ _ e => e) (fun k hk e => by have := hR2.2 k e; omega)⟩
        rcases b9 with e | e
        · rw [e] at hk; exact hR2.2 k (by rw [hlj]; exact hk)
        · rw [e] at hk; cases hk; have := d.size; simp only [World.size_alloc]; omega
      clear hR hR2 cX bX r9 d9 b9 hsn d
      rw [hlj]
      replace htl := Lib.hid htl
      go_wp2_with (at_builtin; refine wpList_append_run rfl _ _ 103 103 rfl rfl rfl hrun ?_)
      go_roundw
      case rel => exact ⟨j + 1, by omega, by go_num, HE.out.1, HE.out.2⟩
      case measure => simp [intOf]; omega
    · have i2 : (A.length : Int) ≤ j := by omega
      have e1 : (turnL A K).take j = turnL A K := List.take_of_length_le (by omega)
      rw [e1] at hR ⊢
      have HT : Hid (Few60 (turnL A K)) := Lib.hid (HA.out.perm (turnL_perm A K))
      have hTp : Hid ((turnL A K).Perm A) := Lib.hid (turnL_perm A K)
      have ST := Lib.hid (stay hR.seesB)
      rw [htl] at ST ⊢
      generalize turnL A K = TL at *
      have c4 := Lib.hid (c3.out.trans d)
      clear e1 hlj hR d v1 v2 v3 v4 c3
      have hT60 : TL.length ≤ 60 := HT.out.n
      obtain ⟨hB60⟩ : Nonempty (Bs.length ≤ 60) := ⟨HB.out.n⟩
      replace htl := Lib.hid htl
      clear hT60 hb0 hb1
      have h1 := back_of _ _ A wr (HSA.out wr c4.out) (fun _ h => h) (by omega)
      go_wp2_with fail
      refine h1.mono ?_
      rintro e w5 ⟨u5, rfl, hx, d5⟩
      have c5 := Lib.hid (c4.out.trans d5)
      have SX := Lib.hid (stay hx.seesB)
      have ST5 := Lib.hid (ST.out.on d5)
      have h2 := back_of _ _ Bs w5 (HSB.out w5 c5.out) (fun _ h => h) (by omega)
      clear h1 hx d5 c4 ST
      go_wp2_with fail
      refine h2.mono ?_
      rintro e w6 ⟨u6, rfl, hy, d6⟩
      have c6 := Lib.hid (c5.out.trans d6)
      have ST6 := Lib.hid (ST5.out.on d6)
      have h3 := cdiff_of _ _ _ A Bs w6 (SX.out w6 d6) hy.seesB (fun _ h => h) HA.out.few HB.out.few
      clear h2 hy d6 c5 ST5 SX
      go_wp2_with fail
      refine h3.mono ?_
      rintro e w7 ⟨u7, R, rfl, hR, hd, hl7, d7⟩
      have c7 := Lib.hid (c6.out.trans d7)
      have ST7 := Lib.hid (ST6.out.on d7)
      have SD := Lib.hid (stay hd.seesB)
      have hlR : R.length ≤ 120 := by omega
      obtain ⟨da, dc, rfl, -⟩ := hd.seesB.len
      have hnz : Hid (∀ r ∈ R, r.nz = true) := Lib.hid (fun r hr => ((hR.2 r).1 hr).2)
      replace hR := Lib.hid hR
      clear h3 hd hl7 d7 c6 ST6
      go_wp2_with fail
      go_loopw [65] (fun i wr => ∃ j : Nat, j ≤ R.length ∧ i = .int .i64 j ∧ Ch0 w7 wr) (fun i _ => R.length - (intOf i).toNat)
      case atStart => exact ⟨0, Nat.zero_le _, rfl, Ch.refl _ _⟩
      case round =>
        obtain ⟨j, hj, rfl, d⟩ := hrel
        by_cases hlt : j < R.length
        · obtain ⟨g, o, c', -, e2, hcell⟩ := (SD.out wr d).row (by omega)
          obtain ⟨rfl, rfl⟩ : da = some ⟨g, o, none⟩ ∧ dc = c' := by simpa using e2
          obtain ⟨x0, x1, x2, x3, x4⟩ := hcell j hlt
          have hz := hnz.out _ (List.getElem_mem hlt)
          have i1 : (0 : Int) ≤ j := by omega
          have i2 : (j : Int) < R.length := by omega
          clear e2 hcell
          generalize R[j] = r at *
          have hne : decide (r = (⟨r.cls, 0, 0, 0, 0⟩ : R5)) = false := decide_eq_false (fun e => by rw [e] at hz; cases hz)
          have y0 := cellD x0
          have y1 := cellD x1
          have y2 := cellD x2
          have y3 := cellD x3
          have y4 := cellD x4
          replace d := Lib.hid d
          clear hz x0 x1 x2 x3 x4
          go_wp2_with fail
          refine wp_region_quiet_lit (by kernel_rfl) (by kernel_rfl) ?_
          iterate 10 (go_big_quiet_step (fail))
          refine quiet_exec rfl (fun w' => exec_eqlC (r := r) (s := ⟨r.cls, 0, 0, 0, 0⟩) _ _ 106 rfl rfl rfl w') ?_
          rw [hne]
          go_simp
          refine wpQuiet_nil ?_
          intro nq
          have cq := Lib.hid (d.out.drewN nq)
          clear d y0 y1 y2 y3 y4 hne
          generalize wr.drewN nq = w9 at *
          go_wp2_with fail
          go_roundw
          case rel => exact ⟨j + 1, by omega, by go_num, cq.out⟩
          case measure => simp [intOf]; omega
        · have i2 : (R.length : Int) ≤ j := by omega
          have c8 := Lib.hid (c7.out.trans d)
          have ST8 := Lib.hid (ST7.out.on d)
          have SD8 := Lib.hid (SD.out.on d)
          clear d c7 ST7 SD hnz
          have h1 := back_of _ _ A wr (HSA.out wr c8.out) (fun _ h => h) (by omega)
          go_wp2_with fail
          refine h1.mono ?_
          rintro e w9 ⟨u9, rfl, hx, d9⟩
          have c9 := Lib.hid (c8.out.trans d9)
          have ST9 := Lib.hid (ST8.out.on d9)
          have SD9 := Lib.hid (SD8.out.on d9)
          have h2 := total_of _ _ A w9 hx.seesB (fun _ h => h) HA.out.few
          rw [← tot_perm hTp.out] at h2
          clear h1 hx d9 c8 ST8 SD8
          go_wp2_with fail
          refine h2.mono ?_
          rintro e w10 ⟨rfl, d10⟩
          have c10 := Lib.hid (c9.out.trans d10)
          have ST10 := Lib.hid (ST9.out.on d10)
          have SD10 := Lib.hid (SD9.out.on d10)
          have h3 := back_of _ _ TL w10 ST10.out.here (fun _ h => h) (by have := htl.out; omega)
          clear h2 d10 c9 ST9 SD9
          go_wp2_with fail
          refine h3.mono ?_
          rintro e w11 ⟨u11, rfl, hx, d11⟩
          have c11 := Lib.hid (c10.out.trans d11)
          have ST11 := Lib.hid (ST10.out.on d11)
          have SD11 := Lib.hid (SD10.out.on d11)
          have h2 := total_of _ _ TL w11 hx.seesB (fun _ h => h) HT.out.few
          clear h3 hx d11 c10 ST10 SD10
          go_wp2_with fail
          refine h2.mono ?_
          rintro e w12 ⟨rfl, d12⟩
          have c12 := Lib.hid (c11.out.trans d12)
          have ST12 := Lib.hid (ST11.out.on d12)
          have SD12 := Lib.hid (SD11.out.on d12)
          have h1 := rows_of _ _ R w12 SD12.out.here (fun _ h => h) (by omega)
          generalize tot TL = T at *
          unfold R5.val
          clear h2 d12 c11 ST11 SD11
          go_wp2_with fail
          refine h1.mono ?_
          rintro e w13 ⟨u13, rfl, hx, d13⟩
          have c13 := Lib.hid (c12.out.trans d13)
          have ST13 := Lib.hid (ST12.out.on d13)
          have SR13 := Lib.hid (stay hx.seesB)
          have h3 := back_of _ _ TL w13 ST13.out.here (fun _ h => h) (by have := htl.out; omega)
          clear h1 hx d13 c12 ST12 SD12
          go_wp2_with fail
          refine h3.mono ?_
          rintro e w14 ⟨u14, rfl, hx, d14⟩
          have c14 := Lib.hid (c13.out.trans d14)
          have SR14 := Lib.hid (SR13.out.on d14)
          have SX14 := Lib.hid (stay hx.seesB)
          have h2 := back_of _ _ Bs w14 (HSB.out w14 c14.out) (fun _ h => h) (by omega)
          clear h3 hx d14 c13 ST13 SR13
          go_wp2_with fail
          refine h2.mono ?_
          rintro e w15 ⟨u15, rfl, hy, d15⟩
          have c15 := Lib.hid (c14.out.trans d15)
          have SR15 := Lib.hid (SR14.out.on d15)
          have h1 := cdiff_of _ _ _ TL Bs w15 (SX14.out w15 d15) hy.seesB (fun _ h => h) HT.out.few HB.out.few
          clear h2 hy d15 c14 SR14 SX14
          go_wp2_with fail
          refine h1.mono ?_
          rintro e w16 ⟨u16, R2, rfl, hR2, hd, hl16, d16⟩
          have c16 := Lib.hid (c15.out.trans d16)
          have SR16 := Lib.hid (SR15.out.on d16)
          have hRR : R = R2 := hR.out.eq hR2 (fun c => (dr_perm hTp.out c).symm)
          subst hRR
          have h2 := rows_of _ _ R w16 hd.seesB (fun _ h => h) (by omega)
          clear h1 hd hl16 d16 c15 SR15 hR2
          go_wp2_with fail
          refine h2.mono ?_
          rintro e w17 ⟨u17, rfl, hx, d17⟩
          have c17 := Lib.hid (c16.out.trans d17)
          have h3 := rsame_of _ _ _ _ R R w17 (SR16.out w17 d17) hx.seesB (by omega) (by omega)
          rw [decide_eq_true rfl] at h3
          clear h2 hx d17 c16 SR16
          go_wp2_with fail
          refine h3.mono ?_
          rintro e w18 ⟨rfl, d18⟩
          have c18 := Lib.hid (c17.out.trans d18)
          clear h3 d18 c17
          go_wp2_with fail
          go_ret
          exact ⟨rfl, c18.out⟩

end Go.Proofs.Ytlmeponoadhheaa
