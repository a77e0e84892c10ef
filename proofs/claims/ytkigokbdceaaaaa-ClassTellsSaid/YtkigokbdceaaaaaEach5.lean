/-
  The law ClassEach's walk.
-/
import Derived.Test.YtkigokbdceaaaaaWords5
namespace Go.Proofs.Ytkigokbdceaaaaa
set_option linter.unusedVariables false
open Go.RowKit

set_option maxHeartbeats 1000000 in
set_option maxRecDepth 100000 in
theorem each_many (v : Value) (cs : List Cls) (w : World) (hv : SeesC (fun k => k < w.heap.size) w v cs) (hm : 100 < cs.length) :
    Calls Try.prog 7 #[v] w fun e w' => e = .returned (.bool true) ∧ Ch0 w w' := by
  obtain ⟨a, c, rfl, hl⟩ := hv.len
  clear hv
  go_enter Try.func7, Try.ntmps7
  go_wp2_with fail
  refine (awake5 _).mono ?_
  rintro e w0 ⟨rfl, c0⟩
  have C0 := Lib.hid c0
  clear c0
  go_wp2_with fail
  refine (awake5 _).mono ?_
  rintro e w1 ⟨rfl, c1⟩
  have C1 := Lib.hid c1
  clear c1
  go_wp2_with fail
  go_ret
  exact ⟨rfl, C0.out.trans C1.out⟩

def eachPre (cs : List Cls) (j : Nat) : Bool := decide (cs.length < 64) && (cs.take j).all Cls.rightB

theorem eachPre_succ {cs : List Cls} {j : Nat} (hj : j < cs.length) : eachPre cs (j + 1) = (eachPre cs j && cs[j].rightB) := by
  unfold eachPre
  rw [List.take_succ_eq_append_getElem hj, List.all_append, Bool.and_assoc]
  simp

theorem eachPre_all (cs : List Cls) : eachPre cs cs.length = decide (newC cs = 0) := by
  unfold eachPre newC allRight
  rw [List.take_length, Bool.eq_iff_iff]
  by_cases h : cs.all Cls.rightB = true
  · rw [h, if_pos rfl]
    by_cases h64 : 64 ≤ cs.length
    · rw [if_pos h64]; simp; omega
    · rw [if_neg h64]; simp; omega
  · rw [if_neg h]; simp [h]

theorem newC_one (c : Cls) : newC [c] = if c.rightB = true then 0 else 1 := by
  unfold newC allRight
  simp

set_option maxHeartbeats 4000000 in
set_option maxRecDepth 100000 in
theorem each_walk (v : Value) (cs : List Cls) (w : World) (hv : SeesC (fun k => k < w.heap.size) w v cs) (hf : Fit cs) (hm : cs.length ≤ 100) :
    Calls Try.prog 7 #[v] w fun e w' => e = .returned (.bool true) ∧ Ch0 w w' := by
  obtain ⟨a, c, rfl, hl⟩ := hv.len
  have HV := Lib.hid hv
  have HF := Lib.hid hf
  clear hv hf
  have hd : decide (100 < (cs.length : Int)) = false := decide_eq_false (by omega)
  obtain ⟨B0, hB0⟩ : ∃ b, decide ((cs.length : Int) < 64) = b := ⟨_, rfl⟩
  have HB0 : Hid (eachPre cs 0 = B0) := by
    unfold Hid eachPre
    rw [← hB0, Bool.eq_iff_iff]
    simp
    omega
  go_enter Try.func7, Try.ntmps7
  go_wp2_with fail
  refine (awake5 _).mono ?_
  rintro e w0 ⟨rfl, c0⟩
  have C0 := Lib.hid c0
  clear c0
  go_wp2_with fail
  go_loopw [3, 25] (fun p i wr => ∃ j : Nat, j ≤ cs.length ∧ i = .int .i64 j ∧ p = .bool (eachPre cs j) ∧ Ch0 w wr) (fun _ i _ => cs.length - (intOf i).toNat)
  case atStart => exact ⟨0, Nat.zero_le _, rfl, by rw [HB0.out], C0.out⟩
  case round =>
    obtain ⟨j, hj, rfl, rfl, hc⟩ := hrel
    have HC := Lib.hid hc
    clear hc
    by_cases hlt : j < cs.length
    · have hsee := HV.out.keep HC.out (fun _ _ q => q)
      obtain ⟨g, o, c', hg, hsl, hcells⟩ := SeesC.cells hsee (by omega)
      obtain ⟨rfl, rfl⟩ : a = some ⟨g, o, none⟩ ∧ c = c' := by simpa using hsl
      obtain ⟨m0, m1, m2, m3⟩ := hcells j hlt
      have hfit := HF.out cs[j] (List.getElem_mem hlt)
      have hR := fun w => right_any cs[j].kind cs[j].refs cs[j].data cs[j].final w ⟨hfit.r0, hfit.r1⟩ ⟨hfit.d0, hfit.d1⟩
      have hN := fun w => newcls_any _ _ [cs[j]] _ (sees_one cs[j] w) (by intro x hx; simp at hx; subst hx; exact hfit)
      rw [newC_one] at hN
      have hpre := eachPre_succ hlt
      have hB : ∃ b, cs[j].rightB = b := ⟨_, rfl⟩
      obtain ⟨b, hb⟩ := hB
      rw [show rightB cs[j].kind cs[j].refs cs[j].data cs[j].final = b from hb] at hR
      have hnt : ∀ w w' u, NewT w w' [cs[j]] u → (b = true → ∃ p, u = .pointer (some p)) ∧ (b = false → u = .pointer none) := by
        intro w w' u hu
        unfold NewT at hu
        rw [newC_one, hb] at hu
        rcases hu with ⟨h, p, hp, _⟩ | ⟨h, hp⟩
        · refine ⟨fun _ => ⟨_, hp⟩, fun hb' => ?_⟩
          rw [hb'] at h; simp at h
        · refine ⟨fun hb' => ?_, fun _ => hp⟩
          rw [hb'] at h; simp at h
      rw [hb] at hN hpre
      have HR := Lib.hid hR
      have HN := Lib.hid hN
      have HNT := Lib.hid hnt
      have HP := Lib.hid hpre
      clear hsee hsl hcells hfit hR hN hpre hnt hb
      generalize cs[j].kind = k at *
      generalize cs[j].refs = r at *
      generalize cs[j].data = d at *
      generalize cs[j].final = f at *
      obtain ⟨pj, hpj⟩ : ∃ x, eachPre cs j = x := ⟨_, rfl⟩
      rw [hpj]
      rw [hpj] at HP
      clear hpj
      go_wp2_with fail
      refine (HN.out _).mono ?_
      rintro e w1 ⟨u, rfl, hu, c1⟩
      have n0 := c1.cell (a := ⟨g, o + j * 4, none⟩) (((Ch.refl (fun _ => False) _).alloc _).cell m0 (fun q => q)) (fun q => q)
      have n1 := c1.cell (a := ⟨g, o + j * 4 + 1, none⟩) (((Ch.refl (fun _ => False) _).alloc _).cell m1 (fun q => q)) (fun q => q)
      have n2 := c1.cell (a := ⟨g, o + j * 4 + 2, none⟩) (((Ch.refl (fun _ => False) _).alloc _).cell m2 (fun q => q)) (fun q => q)
      have n3 := c1.cell (a := ⟨g, o + j * 4 + 3, none⟩) (((Ch.refl (fun _ => False) _).alloc _).cell m3 (fun q => q)) (fun q => q)
      have C1 := Lib.hid ((HC.out.alloc _).trans c1)
      have HU := HNT.out _ _ _ hu
      clear c1 hu
      cases b
      · obtain rfl := HU.2 rfl
        rw [if_neg (by simp)]
        clear HU
        go_wp2_with fail
        refine (HR.out _).mono ?_
        rintro e w2 ⟨rfl, c2⟩
        have n0 := c2.cell n0 (fun q => q)
        have n1 := c2.cell n1 (fun q => q)
        have n2 := c2.cell n2 (fun q => q)
        have n3 := c2.cell n3 (fun q => q)
        have C2 := Lib.hid (C1.out.trans c2)
        clear c2
        go_wp2_with fail
        refine (HR.out _).mono ?_
        rintro e w3 ⟨rfl, c3⟩
        have n0 := c3.cell n0 (fun q => q)
        have n1 := c3.cell n1 (fun q => q)
        have n2 := c3.cell n2 (fun q => q)
        have n3 := c3.cell n3 (fun q => q)
        have C3 := Lib.hid (C2.out.trans c3)
        clear c3
        cases pj
        · go_wp2_with fail
          go_roundw
          case rel => exact ⟨j + 1, by omega, by go_num, by rw [HP.out]; rfl, C3.out⟩
          case measure => simp [intOf]; omega
        · go_wp2_with fail
          refine (HR.out _).mono ?_
          rintro e w4 ⟨rfl, c4⟩
          have C4 := Lib.hid (C3.out.trans c4)
          clear c4
          go_wp2_with fail
          go_roundw
          case rel => exact ⟨j + 1, by omega, by go_num, by rw [HP.out]; rfl, C4.out⟩
          case measure => simp [intOf]; omega
      · obtain ⟨p, rfl⟩ := HU.1 rfl
        rw [if_pos rfl]
        clear HU
        go_wp2_with fail
        refine (HR.out _).mono ?_
        rintro e w2 ⟨rfl, c2⟩
        have n0 := c2.cell n0 (fun q => q)
        have n1 := c2.cell n1 (fun q => q)
        have n2 := c2.cell n2 (fun q => q)
        have n3 := c2.cell n3 (fun q => q)
        have C2 := Lib.hid (C1.out.trans c2)
        clear c2
        go_wp2_with fail
        refine (HR.out _).mono ?_
        rintro e w3 ⟨rfl, c3⟩
        have n0 := c3.cell n0 (fun q => q)
        have n1 := c3.cell n1 (fun q => q)
        have n2 := c3.cell n2 (fun q => q)
        have n3 := c3.cell n3 (fun q => q)
        have C3 := Lib.hid (C2.out.trans c3)
        clear c3
        cases pj
        · go_wp2_with fail
          go_roundw
          case rel => exact ⟨j + 1, by omega, by go_num, by rw [HP.out]; rfl, C3.out⟩
          case measure => simp [intOf]; omega
        · go_wp2_with fail
          refine (HR.out _).mono ?_
          rintro e w4 ⟨rfl, c4⟩
          have C4 := Lib.hid (C3.out.trans c4)
          clear c4
          go_wp2_with fail
          go_roundw
          case rel => exact ⟨j + 1, by omega, by go_num, by rw [HP.out]; rfl, C4.out⟩
          case measure => simp [intOf]; omega
    · obtain rfl : j = cs.length := by omega
      rw [eachPre_all]
      obtain ⟨E, hE⟩ : ∃ E, newC cs = E := ⟨_, rfl⟩
      rw [hE]
      have hnew := newcls_any _ _ cs _ (HV.out.keep HC.out (fun _ _ q => q)) HF.out
      rw [hE] at hnew
      have HNEW := Lib.hid hnew
      have HE := Lib.hid hE
      clear hnew hE HB0
      by_cases hE0 : E = 0
      · subst hE0
        rw [decide_eq_true rfl]
        go_wp2_with fail
        refine HNEW.out.mono ?_
        rintro e w1 ⟨u, rfl, hu, c1⟩
        rcases hu with ⟨-, p, rfl, ht⟩ | ⟨h0, -⟩
        · have C1 := Lib.hid (HC.out.trans c1)
          have HT := Lib.hid ht
          clear c1 ht
          go_wp2_with fail
          go_loopw [75] (fun i wq => ∃ j : Nat, j ≤ cs.length ∧ i = .int .i64 j ∧ Ch0 w1 wq) (fun i _ => cs.length - (intOf i).toNat)
          case atStart => exact ⟨0, Nat.zero_le _, rfl, Ch.refl _ _⟩
          case round =>
            obtain ⟨j, hj, rfl, hc⟩ := hrel
            have HC2 := Lib.hid hc
            have HT4 := Lib.hid (HT.out.keep hc (fun _ _ _ q => q))
            clear hc
            by_cases hlt : j < cs.length
            · have hsee := HV.out.keep (C1.out.trans HC2.out) (fun _ _ q => q)
              obtain ⟨g, o, c', hg, hsl, hcells⟩ := SeesC.cells hsee (by omega)
              obtain ⟨rfl, rfl⟩ : a = some ⟨g, o, none⟩ ∧ c = c' := by simpa using hsl
              obtain ⟨m0, m1, m2, m3⟩ := hcells j hlt
              have hov := of_yes _ _ _ cs j hlt _ HT4.out
              unfold Cls.val at hov
              generalize cs[j].kind = k at *
              generalize cs[j].refs = r at *
              generalize cs[j].data = d at *
              generalize cs[j].final = f at *
              have HOV := Lib.hid hov
              clear hsee hsl hcells hov
              go_wp2_with fail
              refine HOV.out.mono ?_
              rintro e w5 ⟨rfl, c5⟩
              have m0 := c5.cell m0 (fun q => q)
              have m1 := c5.cell m1 (fun q => q)
              have m2 := c5.cell m2 (fun q => q)
              have m3 := c5.cell m3 (fun q => q)
              have hg5 : g < w5.heap.size := block_lt_of_cell m0
              have HC5 := Lib.hid (HC2.out.trans c5)
              clear c5
              go_wp2_with fail
              go_quiet (fail)
              go_wp2_with fail
              go_roundw
              case rel => exact ⟨j + 1, by omega, by go_num, (HC5.out.alloc _).drewN _⟩
              case measure => simp [intOf]; omega
            · obtain rfl : j = cs.length := by omega
              go_wp2_with fail
              go_ret
              exact ⟨rfl, C1.out.trans HC2.out⟩
        · exact absurd HE.out h0
      · have hE' : (E == 0) = false := beq_eq_false_iff_ne.2 hE0
        rw [decide_eq_false hE0]
        clear hE0
        go_wp2_with fail
        refine HNEW.out.mono ?_
        rintro e w1 ⟨u, rfl, hu, c1⟩
        have C1 := Lib.hid (HC.out.trans c1)
        clear c1 hu
        go_wp2_with fail
        go_loopw [75] (fun i wq => ∃ j : Nat, j ≤ cs.length ∧ i = .int .i64 j ∧ Ch0 w1 wq) (fun i _ => cs.length - (intOf i).toNat)
        case atStart => exact ⟨0, Nat.zero_le _, rfl, Ch.refl _ _⟩
        case round =>
          obtain ⟨j, hj, rfl, hc⟩ := hrel
          have HC2 := Lib.hid hc
          clear hc
          by_cases hlt : j < cs.length
          · go_wp2_with fail
            go_roundw
            case rel => exact ⟨j + 1, by omega, by go_num, HC2.out⟩
            case measure => simp [intOf]; omega
          · obtain rfl : j = cs.length := by omega
            go_wp2_with fail
            go_ret
            exact ⟨rfl, C1.out.trans HC2.out⟩

end Go.Proofs.Ytkigokbdceaaaaa
