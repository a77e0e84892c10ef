/-
  The law ClassTells' walk.
-/
import Derived.Test.YtkigokbdceaaaaaWords5
import Derived.Test.YtkigokbdceaaaaaEach5
import Derived.Deep.RegionHeld3
namespace Go.Proofs.Ytkigokbdceaaaaa
set_option linter.unusedVariables false
open Go.RowKit

theorem quiet_eq {P : Program} {f : FuncId} {args : Array Value} {w : World} {n : Nat} {v : Value} (h : Calls P f args (w.drewN n) fun e w' => e = .returned v ∧ w.drewN n = w') :
    Calls P f args (w.drewN n) fun e w'' => e = .returned v ∧ ∃ m, w'' = w.drewN m := h.mono fun _ _ ⟨he, hw⟩ => ⟨he, n, hw.symm⟩

set_option maxHeartbeats 1000000 in
set_option maxRecDepth 100000 in
theorem tells_many (v : Value) (cs : List Cls) (n l f : Int) (w : World) (hv : SeesC (fun k => k < w.heap.size) w v cs) (hm : 100 < cs.length) :
    Calls Try.prog 3 #[v, .int .i64 n, .int .i64 l, .int .i64 f] w fun e w' => e = .returned (.bool true) ∧ Ch0 w w' := by
  obtain ⟨a, c, rfl, hl⟩ := hv.len
  clear hv
  go_enter Try.func3, Try.ntmps3
  go_wp2_with fail
  refine (awake5 _).mono ?_
  rintro e w0 ⟨rfl, c0⟩
  have C0 := Lib.hid c0
  clear c0
  go_wp2_with fail
  refine (awake5 _).mono ?_
  rintro e w1 ⟨rfl, c1⟩
  have C1 := Lib.hid c1
  clear c1
  go_wp2_with fail
  go_ret
  exact ⟨rfl, C0.out.trans C1.out⟩

theorem words_case (s : Int × Int × Int) (hb : s.2.2 = 0 → 0 ≤ s.1 ∧ s.1 ≤ 60 ∧ 0 ≤ s.2.1 ∧ s.2.1 ≤ 60) :
    (s.2.2 = 0 ∧ 0 ≤ s.1 ∧ s.1 ≤ 60 ∧ 0 ≤ s.2.1 ∧ s.2.1 ≤ 60 ∧ wordsOf s = 2 + s.1 + s.2.1) ∨ (s.2.2 ≠ 0 ∧ wordsOf s = 0) := by
  by_cases hG : s.2.2 = 0
  · obtain ⟨b1, b2, b3, b4⟩ := hb hG
    exact .inl ⟨hG, b1, b2, b3, b4, by unfold wordsOf; rw [if_pos hG]⟩
  · exact .inr ⟨hG, by unfold wordsOf; rw [if_neg hG]⟩

set_option maxHeartbeats 8000000 in
set_option maxRecDepth 100000 in
theorem tells_walk (v : Value) (cs : List Cls) (n l fl : Int) (w : World) (hv : SeesC (fun k => k < w.heap.size) w v cs) (hf : Fit cs) (hm : cs.length ≤ 100) :
    Calls Try.prog 3 #[v, .int .i64 n, .int .i64 l, .int .i64 fl] w fun e w' => e = .returned (.bool true) ∧ Ch0 w w' := by
  obtain ⟨a, c, rfl, hl⟩ := hv.len
  have HV := Lib.hid hv
  have HF := Lib.hid hf
  clear hv hf
  have hd : decide (100 < (cs.length : Int)) = false := decide_eq_false (by omega)
  go_enter Try.func3, Try.ntmps3
  go_wp2_with fail
  refine (awake5 _).mono ?_
  rintro e w0 ⟨rfl, c0⟩
  have C0 := Lib.hid c0
  clear c0
  go_wp2_with fail
  go_loopw [34] (fun i wr => ∃ j : Nat, j ≤ cs.length ∧ i = .int .i64 j ∧ Ch0 w wr) (fun i _ => cs.length - (intOf i).toNat)
  case atStart => exact ⟨0, Nat.zero_le _, rfl, C0.out⟩
  case round =>
    obtain ⟨j, hj, rfl, hc⟩ := hrel
    have HC := Lib.hid hc
    clear hc
    by_cases hlt : j < cs.length
    · have hsee := HV.out.keep HC.out (fun _ _ q => q)
      obtain ⟨g, o, c', hg, hsl, hcells⟩ := SeesC.cells hsee (by omega)
      obtain ⟨rfl, rfl⟩ : a = some ⟨g, o, none⟩ ∧ c = c' := by simpa using hsl
      obtain ⟨m0, m1, m2, m3⟩ := hcells j hlt
      have hfit := HF.out cs[j] (List.getElem_mem hlt)
      have hR := fun w => right_any cs[j].kind cs[j].refs cs[j].data cs[j].final w ⟨hfit.r0, hfit.r1⟩ ⟨hfit.d0, hfit.d1⟩
      have hRR := fun w => rright_any cs[j].kind cs[j].refs cs[j].data cs[j].final w
      generalize rightB cs[j].kind cs[j].refs cs[j].data cs[j].final = b at *
      have HR := Lib.hid hR
      have HRR := Lib.hid hRR
      clear hsee hsl hcells hfit hR hRR
      generalize cs[j].kind = k at *
      generalize cs[j].refs = r at *
      generalize cs[j].data = d at *
      generalize cs[j].final = f at *
      have i1 : (0 : Int) ≤ (j : Int) := by omega
      have i2 : (j : Int) < cs.length := by omega
      go_wp2_with fail
      go_region_held3 (fun w' => w'.cell? ⟨g, o + j * 4, none⟩ = some (.int .i64 k) ∧ w'.cell? ⟨g, o + j * 4 + 1, none⟩ = some (.int .i64 r) ∧ w'.cell? ⟨g, o + j * 4 + 2, none⟩ = some (.int .i64 d) ∧ w'.cell? ⟨g, o + j * 4 + 3, none⟩ = some (.bool f))
        (first
          | go_keep
          | exact ⟨cy.cell (cx.cell (by simpa using m0) (fun q => q)) (fun q => q), cy.cell (cx.cell (by simpa using m1) (fun q => q)) (fun q => q), cy.cell (cx.cell (by simpa using m2) (fun q => q)) (fun q => q), cy.cell (cx.cell (by simpa using m3) (fun q => q)) (fun q => q)⟩
          | exact ⟨cx.cell (by simpa using m0) (fun q => q), cx.cell (by simpa using m1) (fun q => q), cx.cell (by simpa using m2) (fun q => q), cx.cell (by simpa using m3) (fun q => q)⟩)
        (first
          | (go_at_call 9; refine (HR.out _).mono ?_; rintro e wx ⟨rfl, cx⟩)
          | (go_at_call 10; refine (HRR.out _).mono ?_; rintro e wy ⟨rfl, cy⟩))
      have C3 := Lib.hid ((HC.out.drew.trans cx).trans cy)
      rename_i hheld
      clear hheld cx cy i1 i2
      cases b
      · go_wp2_with fail
        go_roundw
        case rel => exact ⟨j + 1, by omega, by go_num, C3.out⟩
        case measure => simp [intOf]; omega
      · go_wp2_with fail
        go_roundw
        case rel => exact ⟨j + 1, by omega, by go_num, C3.out⟩
        case measure => simp [intOf]; omega
    · obtain rfl : j = cs.length := by omega
      obtain ⟨E, hE⟩ : ∃ E, newC cs = E := ⟨_, rfl⟩
      have hnew := newcls_any _ _ cs _ (HV.out.keep HC.out (fun _ _ q => q)) HF.out
      rw [hE] at hnew
      have HNEW := Lib.hid hnew
      have hrn := fun W h => rnew_cls (fun k => k < w.heap.size) (.slice a cs.length c) cs W h
      rw [hE] at hrn
      have HRN := Lib.hid hrn
      have HE := Lib.hid hE
      clear hnew hE hrn
      by_cases hE0 : E = 0
      · subst hE0
        go_wp2_with fail
        refine HNEW.out.mono ?_
        rintro e w1 ⟨u, rfl, hu, c1⟩
        rcases hu with ⟨-, p, rfl, ht⟩ | ⟨h0, -⟩
        · have C1 := Lib.hid (HC.out.trans c1)
          have HT := Lib.hid ht
          clear c1 ht
          go_wp2_with fail
          refine (HRN.out _ (HV.out.keep C1.out (fun _ _ q => q))).mono ?_
          rintro e w2 ⟨rfl, c2⟩
          have HT2 := Lib.hid (HT.out.keep c2 (fun _ _ _ q => q))
          have C2 := Lib.hid (C1.out.trans c2)
          clear c2
          have HALL : Hid (∀ W, Ch0 w2 W → Calls Try.prog 15 #[.pointer (some ⟨p, 0, none⟩), .int .i64 n, .int .i64 l] W fun e w' =>
              e = .returned (.tuple #[.int .i64 (shapeC cs n l).1, .int .i64 (shapeC cs n l).2.1, .int .i64 (shapeC cs n l).2.2]) ∧ Ch0 W w') := fun W hc => shape_any _ _ p cs n l W (HT2.out.keep hc (fun _ _ _ q => q))
          have HRSH : Hid (∀ W, Ch0 w2 W → Calls Try.prog 16 #[.slice a cs.length c, .int .i64 n, .int .i64 l] W fun e w' =>
              e = .returned (.tuple #[.int .i64 (shapeC cs n l).1, .int .i64 (shapeC cs n l).2.1, .int .i64 (shapeC cs n l).2.2]) ∧ Ch0 W w') := fun W hc => rshape_any _ _ cs n l W (HV.out.keep (C2.out.trans hc) (fun _ _ q => q)) HT2.out.right HT2.out.le
          have HWD : Hid (∀ W, Ch0 w2 W → Calls Try.prog 17 #[.pointer (some ⟨p, 0, none⟩), .int .i64 n, .int .i64 l] W fun e w' =>
              e = .returned (.tuple #[.int .i64 (wordsOf (shapeC cs n l)), .int .i64 (shapeC cs n l).2.2]) ∧ Ch0 W w') := fun W hc => twords_any _ _ p cs n l W (HT2.out.keep hc (fun _ _ _ q => q))
          have HHD : Hid (∀ W, Ch0 w2 W → Calls Try.prog 18 #[.pointer (some ⟨p, 0, none⟩), .int .i64 n, .int .i64 fl] W fun e w' => e = .returned (.bool (holdsC cs n fl)) ∧ Ch0 W w') := fun W hc => holds_any _ _ p cs n fl W (HT2.out.keep hc (fun _ _ _ q => q))
          have HRH : Hid (∀ W, Ch0 w2 W → Calls Try.prog 19 #[.slice a cs.length c, .int .i64 n, .int .i64 fl] W fun e w' => e = .returned (.bool (holdsC cs n fl)) ∧ W = w') := fun W hc => rholds_any _ _ cs n fl W (HV.out.keep (C2.out.trans hc) (fun _ _ q => q)) HT2.out.le
          have HLN : Hid (∀ W, Ch0 w2 W → Calls Try.prog 14 #[.pointer (some ⟨p, 0, none⟩)] W fun e w' => e = .returned (.int .i64 cs.length) ∧ W = w') := fun W hc => tlen_any _ _ p cs W (HT2.out.keep hc (fun _ _ _ q => q))
          have hbd := shapeC_bounds HT2.out n l
          have hcase := words_case (shapeC cs n l) hbd
          clear hbd
          generalize wordsOf (shapeC cs n l) = S at *
          generalize (shapeC cs n l).1 = A at *
          generalize (shapeC cs n l).2.1 = B at *
          generalize (shapeC cs n l).2.2 = G at *
          generalize holdsC cs n fl = hh at *
          have hlt64 := HT2.out.le
          clear HNEW HRN HE C0 HC HF
          by_cases hn : 1 ≤ n ∧ n ≤ cs.length
          · obtain ⟨i, rfl⟩ : ∃ i : Nat, n = (i : Int) + 1 := ⟨(n - 1).toNat, by omega⟩
            have hi : i < cs.length := by omega
            have hov := of_yes _ _ _ cs i hi _ HT2.out
            obtain ⟨g, o, c', hg, hsl, hcells⟩ := SeesC.cells (HV.out.keep C2.out (fun _ _ q => q)) (by omega)
            obtain ⟨rfl, rfl⟩ : a = some ⟨g, o, none⟩ ∧ c = c' := by simpa using hsl
            obtain ⟨m0, m1, m2, m3⟩ := hcells i hi
            unfold Cls.val at hov
            have HOV := Lib.hid hov
            clear hov hsl hcells hn
            generalize cs[i].kind = k at *
            generalize cs[i].refs = r at *
            generalize cs[i].data = d at *
            generalize cs[i].final = f at *
            have g1 : decide ((1 : Int) ≤ (i : Int) + 1) = true := decide_eq_true (by omega)
            have g2 : decide ((i : Int) + 1 ≤ cs.length) = true := decide_eq_true (by omega)
            go_wp2_with fail
            refine HOV.out.mono ?_
            rintro e w3 ⟨rfl, c3⟩
            have m0 := c3.cell m0 (fun q => q)
            have m1 := c3.cell m1 (fun q => q)
            have m2 := c3.cell m2 (fun q => q)
            have m3 := c3.cell m3 (fun q => q)
            have hg3 : g < w3.heap.size := block_lt_of_cell m0
            have H3 := Lib.hid c3
            clear c3
            go_wp2_with fail
            have q1 : IntKind.i64.wrap ((i : Int) + 1 - 1) = i := by rw [IntWalk.i64_in _ (by omega)]; omega
            have q2 : (0 : Int) ≤ i := by omega
            have q3 : (i : Int) < cs.length := by omega
            go_quiet ((go_at_call 14; exact quiet_eq (HLN.out _ ((H3.out.alloc _).drewN _))))
            clear q1 q2 q3
            have C4 := Lib.hid ((H3.out.alloc (.cells #[.int .i64 k, .int .i64 r, .int .i64 d, .bool f] 26)).drewN nq)
            go_wp2_with fail
            refine (HALL.out _ C4.out).mono ?_
            rintro e w5 ⟨rfl, c5⟩
            have C5 := Lib.hid (C4.out.trans c5)
            clear c5
            go_wp2_with fail
            refine (HRSH.out _ C5.out).mono ?_
            rintro e w6 ⟨rfl, c6⟩
            have C6 := Lib.hid (C5.out.trans c6)
            clear c6
            go_wp2_with fail
            refine (HWD.out _ C6.out).mono ?_
            rintro e w7 ⟨rfl, c7⟩
            have C7 := Lib.hid (C6.out.trans c7)
            clear c7
            rcases hcase with ⟨rfl, b1, b2, b3, b4, rfl⟩ | ⟨hG, rfl⟩
            · go_wp2_with fail
              refine (HHD.out _ C7.out).mono ?_
              rintro e w8 ⟨rfl, c8⟩
              have C8 := Lib.hid (C7.out.trans c8)
              clear c8
              go_wp2_with fail
              refine (HRH.out _ C8.out).mono ?_
              rintro e w' ⟨rfl, rfl⟩
              go_wp2_with fail
              go_ret
              exact ⟨rfl, C2.out.trans C8.out⟩
            · have hG' : (G == 0) = false := beq_eq_false_iff_ne.2 hG
              clear hG
              go_wp2_with fail
              refine (HHD.out _ C7.out).mono ?_
              rintro e w8 ⟨rfl, c8⟩
              have C8 := Lib.hid (C7.out.trans c8)
              clear c8
              go_wp2_with fail
              refine (HRH.out _ C8.out).mono ?_
              rintro e w' ⟨rfl, rfl⟩
              go_wp2_with fail
              go_ret
              exact ⟨rfl, C2.out.trans C8.out⟩
          · have hov := of_no _ cs.length n w2 hlt64 (fun W hc => HLN.out W hc) hn
            have HOV := Lib.hid hov
            have hth : decide (1 ≤ n) = false ∨ (decide (1 ≤ n) = true ∧ decide (n ≤ (cs.length : Int)) = false) := by
              by_cases h1 : 1 ≤ n
              · exact .inr ⟨decide_eq_true h1, decide_eq_false (by omega)⟩
              · exact .inl (decide_eq_false h1)
            clear hov hn
            rcases hth with hth | ⟨hth, hth2⟩
            all_goals
              go_wp2_with fail
              refine HOV.out.mono ?_
              unfold Cls.none Cls.val
              rintro e w3 ⟨rfl, c3⟩
              have H3 := Lib.hid c3
              clear c3
              go_wp2_with fail
              go_quiet ((go_at_call 14; exact quiet_eq (HLN.out _ ((H3.out.alloc _).drewN _))))
              have C4 := Lib.hid ((H3.out.alloc (.cells #[.int .i64 0, .int .i64 0, .int .i64 0, .bool false] 26)).drewN nq)
              go_wp2_with fail
              refine (HALL.out _ C4.out).mono ?_
              rintro e w5 ⟨rfl, c5⟩
              have C5 := Lib.hid (C4.out.trans c5)
              clear c5
              go_wp2_with fail
              refine (HRSH.out _ C5.out).mono ?_
              rintro e w6 ⟨rfl, c6⟩
              have C6 := Lib.hid (C5.out.trans c6)
              clear c6
              go_wp2_with fail
              refine (HWD.out _ C6.out).mono ?_
              rintro e w7 ⟨rfl, c7⟩
              have C7 := Lib.hid (C6.out.trans c7)
              clear c7
              rcases hcase with ⟨rfl, b1, b2, b3, b4, rfl⟩ | ⟨hG, rfl⟩
              · go_wp2_with fail
                refine (HHD.out _ C7.out).mono ?_
                rintro e w8 ⟨rfl, c8⟩
                have C8 := Lib.hid (C7.out.trans c8)
                clear c8
                go_wp2_with fail
                refine (HRH.out _ C8.out).mono ?_
                rintro e w' ⟨rfl, rfl⟩
                go_wp2_with fail
                go_ret
                exact ⟨rfl, C2.out.trans C8.out⟩
              · have hG' : (G == 0) = false := beq_eq_false_iff_ne.2 hG
                clear hG
                go_wp2_with fail
                refine (HHD.out _ C7.out).mono ?_
                rintro e w8 ⟨rfl, c8⟩
                have C8 := Lib.hid (C7.out.trans c8)
                clear c8
                go_wp2_with fail
                refine (HRH.out _ C8.out).mono ?_
                rintro e w' ⟨rfl, rfl⟩
                go_wp2_with fail
                go_ret
                exact ⟨rfl, C2.out.trans C8.out⟩
        · exact absurd HE.out h0
      · have hE' : (E != 0) = true := bne_iff_ne.2 hE0
        clear hE0
        go_wp2_with fail
        refine HNEW.out.mono ?_
        rintro e w1 ⟨u, rfl, hu, c1⟩
        rcases hu with ⟨h0, -⟩ | ⟨-, rfl⟩
        · exact absurd (HE.out.symm.trans h0) (bne_iff_ne.1 hE')
        · have C1 := Lib.hid (HC.out.trans c1)
          clear c1
          go_wp2_with fail
          refine (HRN.out _ (HV.out.keep C1.out (fun _ _ q => q))).mono ?_
          rintro e w2 ⟨rfl, c2⟩
          have C2 := Lib.hid (C1.out.trans c2)
          clear c2
          go_wp2_with fail
          go_ret
          exact ⟨rfl, C2.out⟩

end Go.Proofs.Ytkigokbdceaaaaa
