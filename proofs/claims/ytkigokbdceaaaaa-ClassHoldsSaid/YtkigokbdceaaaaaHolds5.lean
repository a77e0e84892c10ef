/-
  The law ClassHolds' walk.
-/
import Derived.Test.YtkigokbdceaaaaaWords5
namespace Go.Proofs.Ytkigokbdceaaaaa
set_option linter.unusedVariables false
open Go.RowKit

set_option maxHeartbeats 1000000 in
set_option maxRecDepth 100000 in
theorem holds_out (v : Value) (cs : List Cls) (n l : Int) (w : World) (hv : SeesC (fun k => k < w.heap.size) w v cs) (hm : 100 < cs.length ∨ cs.length = 0) :
    Calls Try.prog 6 #[v, .int .u8 n, .int .i64 l] w fun e w' => e = .returned (.bool true) ∧ Ch0 w w' := by
  obtain ⟨a, c, rfl, hl⟩ := hv.len
  clear hv
  rcases hm with hm | hm
  · go_enter Try.func6, Try.ntmps6
    go_wp2_with fail
    refine (awake5 _).mono ?_
    rintro e w0 ⟨rfl, c0⟩
    have C0 := Lib.hid c0
    clear c0
    go_wp2_with fail
    refine (awake5 _).mono ?_
    rintro e w1 ⟨rfl, c1⟩
    have C1 := Lib.hid c1
    clear c1
    go_wp2_with fail
    go_ret
    exact ⟨rfl, C0.out.trans C1.out⟩
  · rw [hm]
    clear hm hl
    go_enter Try.func6, Try.ntmps6
    go_wp2_with fail
    refine (awake5 _).mono ?_
    rintro e w0 ⟨rfl, c0⟩
    have C0 := Lib.hid c0
    clear c0
    go_wp2_with fail
    refine (awake5 _).mono ?_
    rintro e w1 ⟨rfl, c1⟩
    have C1 := Lib.hid c1
    clear c1
    go_wp2_with fail
    go_ret
    exact ⟨rfl, C0.out.trans C1.out⟩

theorem holdsC_at {cs : List Cls} {i : Nat} (hi : i < cs.length) (l : Int) : holdsC cs ((i : Int) + 1) l = holds1 cs[i] l := by
  unfold holdsC
  rw [dif_pos (by omega)]
  congr 1
  simp

theorem holdsC_none {cs : List Cls} (n l : Int) (h : ¬ (1 ≤ n ∧ n ≤ cs.length)) : holdsC cs n l = false := by
  unfold holdsC
  rw [dif_neg h]

theorem holds1_pos (c : Cls) (l : Int) (h : 0 < l) : holds1 c l = true := by
  unfold holds1; rw [decide_eq_true (show 0 ≤ l by omega), decide_eq_true h]; rfl
theorem holds1_neg (c : Cls) (l : Int) (h : l < 0) : holds1 c l = false := by
  unfold holds1; rw [decide_eq_false (by omega)]; rfl
theorem holds1_zero {c : Cls} (h : c.right) : holds1 c 0 = !(c.kind == 3 || (c.kind == 4 || c.kind == 5)) := by
  have hk : c.kind = 1 ∨ c.kind = 2 ∨ c.kind = 3 ∨ c.kind = 4 ∨ c.kind = 5 := by
    rcases h with ⟨h, _⟩ | ⟨h, _⟩ | ⟨h, _⟩ <;> omega
  obtain ⟨k, r, d, f⟩ := c
  rcases hk with h | h | h | h | h <;> (simp only at h; subst h; rfl)

set_option maxHeartbeats 4000000 in
set_option maxRecDepth 100000 in
theorem holds_walk (v : Value) (cs : List Cls) (m : Nat) (l : Int) (w : World) (hv : SeesC (fun k => k < w.heap.size) w v cs) (hf : Fit cs) (hm : cs.length ≤ 100) (h0 : 0 < cs.length) (hm255 : m ≤ 255) :
    Calls Try.prog 6 #[v, .int .u8 m, .int .i64 l] w fun e w' => e = .returned (.bool true) ∧ Ch0 w w' := by
  obtain ⟨g, o, c, hg, rfl, hcells⟩ := SeesC.cells hv h0
  have HN := Lib.hid (fun w' (hc : Ch0 w w') => newcls_any _ _ cs w' (hv.keep hc (fun _ _ q => q)) hf)
  clear hv hf
  have hd : decide (100 < (cs.length : Int)) = false := decide_eq_false (by omega)
  have hd0 : ((cs.length : Int) == 0) = false := beq_eq_false_iff_ne.2 (by omega)
  obtain ⟨i, hi'⟩ : ∃ i : Nat, i = m % cs.length := ⟨_, rfl⟩
  have hi : i < cs.length := by rw [hi']; exact Nat.mod_lt _ h0
  have e1 : (m : Int) % (cs.length : Int) = i := by rw [hi']; push_cast; rfl
  clear hi'
  obtain ⟨m0, m1, m2, m3⟩ := hcells i hi
  clear hcells
  obtain ⟨E, hE⟩ : ∃ E, newC cs = E := ⟨_, rfl⟩
  by_cases hnew : newC cs = 0
  · have HNW := Lib.hid hnew
    clear hnew hE
    have hKs : ∃ K, cs[i].kind = K := ⟨_, rfl⟩
    obtain ⟨K, hK⟩ := hKs
    have HK := Lib.hid hK
    rw [hK] at m0
    clear hK
    generalize cs[i].refs = r at m1
    generalize cs[i].data = d at m2
    generalize cs[i].final = f at m3
    obtain ⟨s3, hs3⟩ : ∃ s, (K == 3) = s := ⟨_, rfl⟩
    obtain ⟨s4, hs4⟩ : ∃ s, (K == 4) = s := ⟨_, rfl⟩
    obtain ⟨s5, hs5⟩ : ∃ s, (K == 5) = s := ⟨_, rfl⟩
    have HZ : Hid (∀ h : cs[i].right, holds1 cs[i] 0 = !(s3 || (s4 || s5))) := by
      intro h
      rw [holds1_zero h, HK.out, hs3, hs4, hs5]
    have hlc : l < 0 ∨ l = 0 ∨ 0 < l := by omega
    have HG := Lib.hid hg
    clear hg
    rcases hlc with hl | hl | hl
    · have HA : Hid (holds1 cs[i] l = false) := holds1_neg _ _ hl
      have g0 : (l == 0) = false := beq_eq_false_iff_ne.2 (by omega)
      have g1 : decide (0 < l) = false := decide_eq_false (by omega)
      cases s3 <;> cases s4 <;> cases s5
      all_goals
        as_aux_lemma =>
          go_enter Try.func6, Try.ntmps6
          go_wp2_with fail
          refine (awake5 _).mono ?_
          rintro e w0 ⟨rfl, c0⟩
          have C0 := Lib.hid c0
          clear c0
          go_wp2_with fail
          refine (HN.out _ C0.out).mono ?_
          rintro e w1 ⟨u, rfl, hu, c1⟩
          rw [HNW.out]
          rcases hu with ⟨-, p, rfl, ht⟩ | ⟨h0, -⟩
          · have n0 := c1.cell (C0.out.cell m0 (fun q => q)) (fun q => q)
            have n1 := c1.cell (C0.out.cell m1 (fun q => q)) (fun q => q)
            have n2 := c1.cell (C0.out.cell m2 (fun q => q)) (fun q => q)
            have n3 := c1.cell (C0.out.cell m3 (fun q => q)) (fun q => q)
            have C1 := Lib.hid ((C0.out.trans c1).alloc (.cells #[.int .i64 K, .int .i64 r, .int .i64 d, .bool f] 26))
            have HT := Lib.hid (ht.keep ((Ch.refl (fun _ => False) w1).alloc (.cells #[.int .i64 K, .int .i64 r, .int .i64 d, .bool f] 26)) (fun _ _ _ q => q))
            have b0 := fun W h => holds_any w0.heap.size w1.heap.size p cs ((i : Int) + 1) 0 W h
            have b1 := fun W h => holds_any w0.heap.size w1.heap.size p cs ((i : Int) + 1) 1 W h
            have b2 := fun W h => holds_any w0.heap.size w1.heap.size p cs ((i : Int) + 1) l W h
            have b3 := fun W h => holds_any w0.heap.size w1.heap.size p cs 0 l W h
            have b4 := fun W h => holds_any w0.heap.size w1.heap.size p cs ((cs.length : Int) + 1) l W h
            rw [holdsC_at hi, HZ.out (allRight_get ht.right i hi), show (i : Int) + 1 = 1 + i by omega] at b0
            rw [holdsC_at hi, holds1_pos _ _ (by omega), show (i : Int) + 1 = 1 + i by omega] at b1
            rw [holdsC_at hi, HA.out, show (i : Int) + 1 = 1 + i by omega] at b2
            rw [holdsC_none _ _ (by omega)] at b3 b4
            have B0 := Lib.hid b0
            have B1 := Lib.hid b1
            have B2 := Lib.hid b2
            have B3 := Lib.hid b3
            have B4 := Lib.hid b4
            clear b0 b1 b2 b3 b4 c1 ht m0 m1 m2 m3
            go_wp2_with fail
            refine (B0.out _ HT.out).mono ?_
            rintro e w2 ⟨rfl, c2⟩
            have HT2 := Lib.hid (HT.out.keep c2 (fun _ _ _ q => q))
            have C2 := Lib.hid (C1.out.trans c2)
            clear c2
            go_wp2_with fail
            refine (B1.out _ HT2.out).mono ?_
            rintro e w3 ⟨rfl, c3⟩
            have HT3 := Lib.hid (HT2.out.keep c3 (fun _ _ _ q => q))
            have C3 := Lib.hid (C2.out.trans c3)
            clear c3
            go_wp2_with fail
            refine (B2.out _ HT3.out).mono ?_
            rintro e w4 ⟨rfl, c4⟩
            have HT4 := Lib.hid (HT3.out.keep c4 (fun _ _ _ q => q))
            have C4 := Lib.hid (C3.out.trans c4)
            clear c4
            go_wp2_with fail
            refine (B3.out _ HT4.out).mono ?_
            rintro e w5 ⟨rfl, c5⟩
            have HT5 := Lib.hid (HT4.out.keep c5 (fun _ _ _ q => q))
            have C5 := Lib.hid (C4.out.trans c5)
            clear c5
            go_wp2_with fail
            refine (B4.out _ HT5.out).mono ?_
            rintro e w6 ⟨rfl, c6⟩
            have C6 := Lib.hid (C5.out.trans c6)
            clear c6
            go_wp2_with fail
            go_ret
            exact ⟨rfl, C6.out⟩
          · exact absurd HNW.out h0
    · subst hl
      skip
      cases s3 <;> cases s4 <;> cases s5
      all_goals
        as_aux_lemma =>
          go_enter Try.func6, Try.ntmps6
          go_wp2_with fail
          refine (awake5 _).mono ?_
          rintro e w0 ⟨rfl, c0⟩
          have C0 := Lib.hid c0
          clear c0
          go_wp2_with fail
          refine (HN.out _ C0.out).mono ?_
          rintro e w1 ⟨u, rfl, hu, c1⟩
          rw [HNW.out]
          rcases hu with ⟨-, p, rfl, ht⟩ | ⟨h0, -⟩
          · have n0 := c1.cell (C0.out.cell m0 (fun q => q)) (fun q => q)
            have n1 := c1.cell (C0.out.cell m1 (fun q => q)) (fun q => q)
            have n2 := c1.cell (C0.out.cell m2 (fun q => q)) (fun q => q)
            have n3 := c1.cell (C0.out.cell m3 (fun q => q)) (fun q => q)
            have C1 := Lib.hid ((C0.out.trans c1).alloc (.cells #[.int .i64 K, .int .i64 r, .int .i64 d, .bool f] 26))
            have HT := Lib.hid (ht.keep ((Ch.refl (fun _ => False) w1).alloc (.cells #[.int .i64 K, .int .i64 r, .int .i64 d, .bool f] 26)) (fun _ _ _ q => q))
            have b0 := fun W h => holds_any w0.heap.size w1.heap.size p cs ((i : Int) + 1) 0 W h
            have b1 := fun W h => holds_any w0.heap.size w1.heap.size p cs ((i : Int) + 1) 1 W h
            have b2 := fun W h => holds_any w0.heap.size w1.heap.size p cs ((i : Int) + 1) 0 W h
            have b3 := fun W h => holds_any w0.heap.size w1.heap.size p cs 0 0 W h
            have b4 := fun W h => holds_any w0.heap.size w1.heap.size p cs ((cs.length : Int) + 1) 0 W h
            rw [holdsC_at hi, HZ.out (allRight_get ht.right i hi), show (i : Int) + 1 = 1 + i by omega] at b0
            rw [holdsC_at hi, holds1_pos _ _ (by omega), show (i : Int) + 1 = 1 + i by omega] at b1
            rw [holdsC_at hi, HZ.out (allRight_get ht.right i hi), show (i : Int) + 1 = 1 + i by omega] at b2
            rw [holdsC_none _ _ (by omega)] at b3 b4
            have B0 := Lib.hid b0
            have B1 := Lib.hid b1
            have B2 := Lib.hid b2
            have B3 := Lib.hid b3
            have B4 := Lib.hid b4
            clear b0 b1 b2 b3 b4 c1 ht m0 m1 m2 m3
            go_wp2_with fail
            refine (B0.out _ HT.out).mono ?_
            rintro e w2 ⟨rfl, c2⟩
            have HT2 := Lib.hid (HT.out.keep c2 (fun _ _ _ q => q))
            have C2 := Lib.hid (C1.out.trans c2)
            clear c2
            go_wp2_with fail
            refine (B1.out _ HT2.out).mono ?_
            rintro e w3 ⟨rfl, c3⟩
            have HT3 := Lib.hid (HT2.out.keep c3 (fun _ _ _ q => q))
            have C3 := Lib.hid (C2.out.trans c3)
            clear c3
            go_wp2_with fail
            refine (B2.out _ HT3.out).mono ?_
            rintro e w4 ⟨rfl, c4⟩
            have HT4 := Lib.hid (HT3.out.keep c4 (fun _ _ _ q => q))
            have C4 := Lib.hid (C3.out.trans c4)
            clear c4
            go_wp2_with fail
            refine (B3.out _ HT4.out).mono ?_
            rintro e w5 ⟨rfl, c5⟩
            have HT5 := Lib.hid (HT4.out.keep c5 (fun _ _ _ q => q))
            have C5 := Lib.hid (C4.out.trans c5)
            clear c5
            go_wp2_with fail
            refine (B4.out _ HT5.out).mono ?_
            rintro e w6 ⟨rfl, c6⟩
            have C6 := Lib.hid (C5.out.trans c6)
            clear c6
            go_wp2_with fail
            go_ret
            exact ⟨rfl, C6.out⟩
          · exact absurd HNW.out h0
    · have HA : Hid (holds1 cs[i] l = true) := holds1_pos _ _ hl
      have g0 : decide (0 < l) = true := decide_eq_true hl
      cases s3 <;> cases s4 <;> cases s5
      all_goals
        as_aux_lemma =>
          go_enter Try.func6, Try.ntmps6
          go_wp2_with fail
          refine (awake5 _).mono ?_
          rintro e w0 ⟨rfl, c0⟩
          have C0 := Lib.hid c0
          clear c0
          go_wp2_with fail
          refine (HN.out _ C0.out).mono ?_
          rintro e w1 ⟨u, rfl, hu, c1⟩
          rw [HNW.out]
          rcases hu with ⟨-, p, rfl, ht⟩ | ⟨h0, -⟩
          · have n0 := c1.cell (C0.out.cell m0 (fun q => q)) (fun q => q)
            have n1 := c1.cell (C0.out.cell m1 (fun q => q)) (fun q => q)
            have n2 := c1.cell (C0.out.cell m2 (fun q => q)) (fun q => q)
            have n3 := c1.cell (C0.out.cell m3 (fun q => q)) (fun q => q)
            have C1 := Lib.hid ((C0.out.trans c1).alloc (.cells #[.int .i64 K, .int .i64 r, .int .i64 d, .bool f] 26))
            have HT := Lib.hid (ht.keep ((Ch.refl (fun _ => False) w1).alloc (.cells #[.int .i64 K, .int .i64 r, .int .i64 d, .bool f] 26)) (fun _ _ _ q => q))
            have b0 := fun W h => holds_any w0.heap.size w1.heap.size p cs ((i : Int) + 1) 0 W h
            have b1 := fun W h => holds_any w0.heap.size w1.heap.size p cs ((i : Int) + 1) 1 W h
            have b2 := fun W h => holds_any w0.heap.size w1.heap.size p cs ((i : Int) + 1) l W h
            have b3 := fun W h => holds_any w0.heap.size w1.heap.size p cs 0 l W h
            have b4 := fun W h => holds_any w0.heap.size w1.heap.size p cs ((cs.length : Int) + 1) l W h
            rw [holdsC_at hi, HZ.out (allRight_get ht.right i hi), show (i : Int) + 1 = 1 + i by omega] at b0
            rw [holdsC_at hi, holds1_pos _ _ (by omega), show (i : Int) + 1 = 1 + i by omega] at b1
            rw [holdsC_at hi, HA.out, show (i : Int) + 1 = 1 + i by omega] at b2
            rw [holdsC_none _ _ (by omega)] at b3 b4
            have B0 := Lib.hid b0
            have B1 := Lib.hid b1
            have B2 := Lib.hid b2
            have B3 := Lib.hid b3
            have B4 := Lib.hid b4
            clear b0 b1 b2 b3 b4 c1 ht m0 m1 m2 m3
            go_wp2_with fail
            refine (B0.out _ HT.out).mono ?_
            rintro e w2 ⟨rfl, c2⟩
            have HT2 := Lib.hid (HT.out.keep c2 (fun _ _ _ q => q))
            have C2 := Lib.hid (C1.out.trans c2)
            clear c2
            go_wp2_with fail
            refine (B1.out _ HT2.out).mono ?_
            rintro e w3 ⟨rfl, c3⟩
            have HT3 := Lib.hid (HT2.out.keep c3 (fun _ _ _ q => q))
            have C3 := Lib.hid (C2.out.trans c3)
            clear c3
            go_wp2_with fail
            refine (B2.out _ HT3.out).mono ?_
            rintro e w4 ⟨rfl, c4⟩
            have HT4 := Lib.hid (HT3.out.keep c4 (fun _ _ _ q => q))
            have C4 := Lib.hid (C3.out.trans c4)
            clear c4
            go_wp2_with fail
            refine (B3.out _ HT4.out).mono ?_
            rintro e w5 ⟨rfl, c5⟩
            have HT5 := Lib.hid (HT4.out.keep c5 (fun _ _ _ q => q))
            have C5 := Lib.hid (C4.out.trans c5)
            clear c5
            go_wp2_with fail
            refine (B4.out _ HT5.out).mono ?_
            rintro e w6 ⟨rfl, c6⟩
            have C6 := Lib.hid (C5.out.trans c6)
            clear c6
            go_wp2_with fail
            go_ret
            exact ⟨rfl, C6.out⟩
          · exact absurd HNW.out h0
  · have hn' : (E != 0) = true := by rw [← hE]; exact bne_iff_ne.2 hnew
    have HNW := Lib.hid hnew
    have HE := Lib.hid hE
    clear hnew hE m0 m1 m2 m3
    go_enter Try.func6, Try.ntmps6
    go_wp2_with fail
    refine (awake5 _).mono ?_
    rintro e w0 ⟨rfl, c0⟩
    have C0 := Lib.hid c0
    clear c0
    go_wp2_with fail
    refine (HN.out _ C0.out).mono ?_
    rintro e w1 ⟨u, rfl, hu, c1⟩
    rcases hu with ⟨h0, -⟩ | ⟨-, rfl⟩
    · exact absurd h0 HNW.out
    · have C1 := Lib.hid (C0.out.trans c1)
      rw [HE.out]
      clear c1
      go_wp2_with fail
      go_ret
      exact ⟨rfl, C1.out⟩

end Go.Proofs.Ytkigokbdceaaaaa
