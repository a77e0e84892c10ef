/-
  The law ClassWords' walk.
-/
import Derived.Test.YtkigokbdceaaaaaAwake5
namespace Go.Proofs.Ytkigokbdceaaaaa
set_option linter.unusedVariables false
open Go.RowKit

set_option maxHeartbeats 400000 in
set_option maxRecDepth 100000 in
theorem words_many (v : Value) (cs : List Cls) (n l : Int) (w : World) (hv : SeesC (fun k => k < w.heap.size) w v cs) (hm : 100 < cs.length) :
    Calls Try.prog 4 #[v, .int .i64 n, .int .i64 l] w fun e w' => e = .returned (.bool true) ∧ Ch0 w w' := by
  obtain ⟨a, c, rfl, hl⟩ := hv.len
  clear hv
  go_enter Try.func4, Try.ntmps4
  go_wp2_with fail
  refine (awake5 _).mono ?_
  rintro e w0 ⟨rfl, c0⟩
  have C0 := Lib.hid c0
  clear c0
  go_wp2_with fail
  refine (awake5 _).mono ?_
  rintro e w1 ⟨rfl, c1⟩
  have C1 := Lib.hid c1
  clear c1
  go_wp2_with fail
  go_ret
  exact ⟨rfl, C0.out.trans C1.out⟩

theorem shapeC_ok {cs : List Cls} {n l : Int} (h : (shapeC cs n l).2.2 = 0) : ∃ i : Nat, ∃ hi : i < cs.length, n = i + 1 ∧ 0 ≤ l ∧ l ≤ 30 ∧ (l = 0 ∨ cs[i].kind = 2) ∧ shapeC cs n l = (cs[i].refs + l, cs[i].data, 0) := by
  by_cases hn : 1 ≤ n ∧ n ≤ cs.length
  · refine ⟨(n - 1).toNat, by omega, by omega, ?_⟩
    have e1 : shapeC cs n l = shape1 (cs[(n - 1).toNat]'(by omega)) l := by unfold shapeC; rw [dif_pos hn]
    rw [e1] at h ⊢
    unfold shape1 at h ⊢
    by_cases h1 : l < 0 ∨ (0 < l ∧ (cs[(n - 1).toNat]'(by omega)).kind ≠ 2)
    · rw [if_pos h1] at h; simp at h
    · rw [if_neg h1] at h ⊢
      by_cases h2 : 30 < l
      · rw [if_pos h2] at h; simp at h
      · rw [if_neg h2]
        refine ⟨by omega, by omega, ?_, rfl⟩
        by_cases hk : (cs[(n - 1).toNat]'(by omega)).kind = 2
        · exact .inr hk
        · left; omega
  · unfold shapeC at h
    rw [dif_neg hn] at h
    simp at h

theorem shapeC_at {cs : List Cls} {i : Nat} (hi : i < cs.length) (l : Int) : shapeC cs ((i : Int) + 1) l = shape1 cs[i] l := by
  unfold shapeC
  rw [dif_pos (by omega)]
  congr 1
  simp

/-- what the law asks of a class and a length that fit -/
theorem words_facts {c : Cls} {l : Int} (hr : c.right) (h0 : 0 ≤ l) (h30 : l ≤ 30) (hk : l = 0 ∨ c.kind = 2) :
    0 ≤ c.refs + l ∧ 0 ≤ c.data ∧ 2 + (c.refs + l) + c.data ≤ 32 ∧
    ((c.kind ≠ 2 ∧ l = 0 ∧ wordsOf (shape1 c (l + 1)) = 0 ∧ (shape1 c (l + 1)).2.2 = 1) ∨
     (c.kind = 2 ∧ 2 + (c.refs + l) + c.data = 32 ∧ wordsOf (shape1 c (l + 1)) = 0 ∧ (shape1 c (l + 1)).2.2 = 8) ∨
     (c.kind = 2 ∧ wordsOf (shape1 c (l + 1)) = 2 + (c.refs + l) + c.data + 1 ∧ (shape1 c (l + 1)).2.2 = 0)) := by
  have hsm := right_small hr
  have hz : c.kind = 2 → c.refs = 0 ∧ c.data = 0 := by
    intro hk
    rcases hr with ⟨h, _⟩ | ⟨_, h⟩ | ⟨h, _⟩
    · omega
    · exact h
    · omega
  by_cases h2 : c.kind = 2
  · obtain ⟨z1, z2⟩ := hz h2
    refine ⟨by omega, by omega, by omega, .inr ?_⟩
    by_cases e30 : l = 30
    · left
      have e1 : shape1 c (l + 1) = (0, 0, 8) := by unfold shape1; rw [if_neg (by simp [h2]; omega), if_pos (by omega)]
      rw [e1]
      exact ⟨h2, by omega, rfl, rfl⟩
    · right
      have e1 : shape1 c (l + 1) = (c.refs + (l + 1), c.data, 0) := by unfold shape1; rw [if_neg (by simp [h2]; omega), if_neg (by omega)]
      rw [e1]
      refine ⟨h2, ?_, rfl⟩
      unfold wordsOf
      rw [if_pos rfl]
      simp only
      omega
  · have hl : l = 0 := hk.resolve_right h2
    have e1 : shape1 c (l + 1) = (0, 0, 1) := by unfold shape1; rw [if_pos (.inr ⟨by omega, h2⟩)]
    refine ⟨by omega, by omega, by omega, .inl ?_⟩
    rw [e1]
    exact ⟨h2, hl, rfl, rfl⟩

set_option maxHeartbeats 2000000 in
set_option maxRecDepth 100000 in
theorem words_walk (v : Value) (cs : List Cls) (n l : Int) (w : World) (hv : SeesC (fun k => k < w.heap.size) w v cs) (hf : Fit cs) (hm : cs.length ≤ 100) (hl0 : -9223372036854775808 ≤ l ∧ l ≤ 9223372036854775807) :
    Calls Try.prog 4 #[v, .int .i64 n, .int .i64 l] w fun e w' => e = .returned (.bool true) ∧ Ch0 w w' := by
  obtain ⟨a, c, rfl, hl⟩ := hv.len
  have HN := Lib.hid (fun w' (hc : Ch0 w w') => newcls_any _ _ cs w' (hv.keep hc (fun _ _ q => q)) hf)
  clear hv hf
  have hd : decide (100 < (cs.length : Int)) = false := decide_eq_false (by omega)
  obtain ⟨E, hE⟩ : ∃ E, newC cs = E := ⟨_, rfl⟩
  by_cases hnew : newC cs = 0
  · obtain rfl : E = 0 := by rw [← hE]; exact hnew
    by_cases he : (shapeC cs n l).2.2 = 0
    · obtain ⟨i, hi, rfl, hl1, hl30, hlk, hs⟩ := shapeC_ok he
      have HS := Lib.hid hs
      have HNW := Lib.hid hnew
      clear he hs hnew hE hl0
      go_enter Try.func4, Try.ntmps4
      go_wp2_with fail
      refine (awake5 _).mono ?_
      rintro e w0 ⟨rfl, c0⟩
      have C0 := Lib.hid c0
      clear c0
      go_wp2_with fail
      refine (HN.out _ C0.out).mono ?_
      rintro e w1 ⟨u, rfl, hu, c1⟩
      rw [HNW.out]
      rcases hu with ⟨-, p, rfl, ht⟩ | ⟨h0, -⟩
      · have C1 := Lib.hid (C0.out.trans c1)
        have HT := Lib.hid ht
        obtain ⟨f1, f2, f3, hcase⟩ := words_facts (allRight_get ht.right i hi) hl1 hl30 hlk
        have hw := twords_any _ _ _ _ ((i : Int) + 1) l _ ht
        have hw2 := fun W h => twords_any w0.heap.size w1.heap.size p cs ((i : Int) + 1) (l + 1) W h
        have hsh := fun W h => shape_any w0.heap.size w1.heap.size p cs ((i : Int) + 1) l W h
        have hov := fun W h => of_yes w0.heap.size w1.heap.size p cs i hi W h
        rw [HS.out] at hw hsh
        rw [shapeC_at hi] at hw2
        simp only [wordsOf, if_true] at hw
        unfold Cls.val at hov
        generalize wordsOf (shape1 cs[i] (l + 1)) = X at *
        generalize (shape1 cs[i] (l + 1)).2.2 = G at *
        generalize cs[i].kind = K at *
        generalize cs[i].refs + l = R at *
        generalize cs[i].refs = r at *
        generalize cs[i].data = D at *
        generalize cs[i].final = f at *
        have HOV := Lib.hid hov
        have HSH := Lib.hid hsh
        have HW := Lib.hid hw
        have HW2 := Lib.hid hw2
        clear hov hsh hw hw2 hlk HS c1 ht HN
        have q0 : IntKind.i64.wrap (2 + R + D) = 2 + R + D := IntWalk.i64_in _ (by omega)
        rcases hcase with ⟨hK, rfl, rfl, rfl⟩ | ⟨rfl, hA, rfl, rfl⟩ | ⟨rfl, hX, rfl⟩
        · have hK' : (K != 2) = true := bne_iff_ne.2 hK
          clear hK
          go_wp2_with fail
          refine HW.out.mono ?_
          rintro e w2 ⟨rfl, c2⟩
          have HT2 := Lib.hid (HT.out.keep c2 (fun _ _ _ q => q))
          have C2 := Lib.hid (C1.out.trans c2)
          clear c2
          go_wp2_with fail
          refine (HSH.out _ HT2.out).mono ?_
          rintro e w3 ⟨rfl, c3⟩
          have HT3 := Lib.hid (HT2.out.keep c3 (fun _ _ _ q => q))
          have C3 := Lib.hid (C2.out.trans c3)
          clear c3
          go_wp2_with fail
          refine (HOV.out _ HT3.out).mono ?_
          rintro e w4 ⟨rfl, c4⟩
          have HT4 := Lib.hid ((HT3.out.keep c4 (fun _ _ _ q => q)).keep ((Ch.refl (fun _ => False) w4).alloc (.cells #[.int .i64 K, .int .i64 r, .int .i64 D, .bool f] 26)) (fun _ _ _ q => q))
          have C4 := Lib.hid ((C3.out.trans c4).alloc (.cells #[.int .i64 K, .int .i64 r, .int .i64 D, .bool f] 26))
          clear c4
          go_wp2_with fail
          refine (HW2.out _ HT4.out).mono ?_
          rintro e w5 ⟨rfl, c5⟩
          have m0 := c5.cell (a := ⟨w4.heap.size, 0, none⟩) (v := .int .i64 K) (by simp) (fun q => q)
          have C5 := Lib.hid (C4.out.trans c5)
          clear c5
          go_wp2_with fail
          go_ret
          exact ⟨rfl, C5.out⟩
        · rw [hA] at HW
          have hRD : R = 30 - D := by omega
          have q1 : (32 != 2 + R + D) = false := by rw [hRD]; simp; omega
          have HRD := Lib.hid hRD
          clear hA hRD q0
          go_wp2_with fail
          refine HW.out.mono ?_
          rintro e w2 ⟨rfl, c2⟩
          have HT2 := Lib.hid (HT.out.keep c2 (fun _ _ _ q => q))
          have C2 := Lib.hid (C1.out.trans c2)
          clear c2
          go_wp2_with fail
          refine (HSH.out _ HT2.out).mono ?_
          rintro e w3 ⟨rfl, c3⟩
          have HT3 := Lib.hid (HT2.out.keep c3 (fun _ _ _ q => q))
          have C3 := Lib.hid (C2.out.trans c3)
          clear c3
          go_wp2_with fail
          refine (HOV.out _ HT3.out).mono ?_
          rintro e w4 ⟨rfl, c4⟩
          have HT4 := Lib.hid ((HT3.out.keep c4 (fun _ _ _ q => q)).keep ((Ch.refl (fun _ => False) w4).alloc (.cells #[.int .i64 2, .int .i64 r, .int .i64 D, .bool f] 26)) (fun _ _ _ q => q))
          have C4 := Lib.hid ((C3.out.trans c4).alloc (.cells #[.int .i64 2, .int .i64 r, .int .i64 D, .bool f] 26))
          clear c4
          go_wp2_with fail
          refine (HW2.out _ HT4.out).mono ?_
          rintro e w5 ⟨rfl, c5⟩
          have m0 := c5.cell (a := ⟨w4.heap.size, 0, none⟩) (v := .int .i64 2) (by simp) (fun q => q)
          have C5 := Lib.hid (C4.out.trans c5)
          clear c5
          go_wp2_with fail
          go_ret
          exact ⟨rfl, C5.out⟩
        · rw [hX] at HW2
          clear hX
          go_wp2_with fail
          refine HW.out.mono ?_
          rintro e w2 ⟨rfl, c2⟩
          have HT2 := Lib.hid (HT.out.keep c2 (fun _ _ _ q => q))
          have C2 := Lib.hid (C1.out.trans c2)
          clear c2
          go_wp2_with fail
          refine (HSH.out _ HT2.out).mono ?_
          rintro e w3 ⟨rfl, c3⟩
          have HT3 := Lib.hid (HT2.out.keep c3 (fun _ _ _ q => q))
          have C3 := Lib.hid (C2.out.trans c3)
          clear c3
          go_wp2_with fail
          refine (HOV.out _ HT3.out).mono ?_
          rintro e w4 ⟨rfl, c4⟩
          have HT4 := Lib.hid ((HT3.out.keep c4 (fun _ _ _ q => q)).keep ((Ch.refl (fun _ => False) w4).alloc (.cells #[.int .i64 2, .int .i64 r, .int .i64 D, .bool f] 26)) (fun _ _ _ q => q))
          have C4 := Lib.hid ((C3.out.trans c4).alloc (.cells #[.int .i64 2, .int .i64 r, .int .i64 D, .bool f] 26))
          clear c4
          go_wp2_with fail
          refine (HW2.out _ HT4.out).mono ?_
          rintro e w5 ⟨rfl, c5⟩
          have m0 := c5.cell (a := ⟨w4.heap.size, 0, none⟩) (v := .int .i64 2) (by simp) (fun q => q)
          have C5 := Lib.hid (C4.out.trans c5)
          clear c5
          go_wp2_with fail
          go_ret
          exact ⟨rfl, C5.out⟩
      · exact absurd HNW.out h0
    · have HE := Lib.hid he
      have he' : ((shapeC cs n l).2.2 != 0) = true := bne_iff_ne.2 he
      have HNW := Lib.hid hnew
      clear he hnew hE
      go_enter Try.func4, Try.ntmps4
      go_wp2_with fail
      refine (awake5 _).mono ?_
      rintro e w0 ⟨rfl, c0⟩
      have C0 := Lib.hid c0
      clear c0
      go_wp2_with fail
      refine (HN.out _ C0.out).mono ?_
      rintro e w1 ⟨u, rfl, hu, c1⟩
      rw [HNW.out]
      rcases hu with ⟨-, p, rfl, ht⟩ | ⟨h0, -⟩
      · have C1 := Lib.hid (C0.out.trans c1)
        have hw := twords_any _ _ _ _ n l _ ht
        rw [show wordsOf (shapeC cs n l) = 0 by unfold wordsOf; rw [if_neg HE.out]] at hw
        have HW := Lib.hid hw
        clear c1 ht hw
        go_wp2_with fail
        refine HW.out.mono ?_
        rintro e w2 ⟨rfl, c2⟩
        have C2 := Lib.hid (C1.out.trans c2)
        clear c2
        go_wp2_with fail
        go_ret
        exact ⟨rfl, C2.out⟩
      · exact absurd HNW.out h0
  · have hn' : (E != 0) = true := by rw [← hE]; exact bne_iff_ne.2 hnew
    have HNW := Lib.hid hnew
    have HE := Lib.hid hE
    clear hnew hE
    go_enter Try.func4, Try.ntmps4
    go_wp2_with fail
    refine (awake5 _).mono ?_
    rintro e w0 ⟨rfl, c0⟩
    have C0 := Lib.hid c0
    clear c0
    go_wp2_with fail
    refine (HN.out _ C0.out).mono ?_
    rintro e w1 ⟨u, rfl, hu, c1⟩
    rcases hu with ⟨h0, -⟩ | ⟨-, rfl⟩
    · exact absurd h0 HNW.out
    · have C1 := Lib.hid (C0.out.trans c1)
      rw [HE.out]
      clear c1
      go_wp2_with fail
      go_ret
      exact ⟨rfl, C1.out⟩

end Go.Proofs.Ytkigokbdceaaaaa
