/-
  gleaninglaw12.QueueApart answers true: the walk.
-/
import Derived.Test.YtlmccjmbidfflaaFM12
import Derived.Test.YtlmccjmbidfflaaConcat12
namespace Go.Proofs.Ytlmccjmbidfflaa
set_option linter.unusedVariables false
open Go.RowKit

theorem umod4 (x : Int) : ∃ m : Nat, m < 4 ∧ (IntKind.u64.wrap x).tmod 4 = (m : Int) := by
  have h0 : 0 ≤ IntKind.u64.wrap x := by
    simp [IntKind.wrap, IntKind.signed, IntKind.bits]
    omega
  refine ⟨((IntKind.u64.wrap x).tmod 4).toNat, ?_, ?_⟩
  · rw [Int.tmod_eq_emod_of_nonneg h0]; omega
  · rw [Int.tmod_eq_emod_of_nonneg h0]; omega

set_option maxRecDepth 100000 in
set_option maxHeartbeats 4000000 in
theorem apart_walk (l : List QOp) (v : Value) (w : World) (hsee : SeesQ (fun k => k < w.heap.size) w v l) (hfit : ∀ o ∈ l, o.Fits) :
    Calls Try.prog 4 #[v] w fun e w' => e = .returned (.bool true) ∧ Ch0 w w' := by
  have HA := Lib.hid awake12
  obtain ⟨a, c, rfl, hlen⟩ := hsee.len
  by_cases h200 : l.length ≤ 200
  · have g1 : decide ((200 : Int) < l.length) = false := decide_eq_false (by omega)
    have HS := Lib.hid hsee
    have HF := Lib.hid hfit
    clear hsee hfit
    go_enter Try.func4, Try.ntmps4
    go_wp2_with fail
    refine (HA.out _).mono ?_
    rintro e w1 ⟨rfl, c1⟩
    have h0 := Lib.hid (qs_new w1)
    have cs := Lib.hid c1.size
    replace c1 := Lib.hid (c1.alloc (.cells #[.slice none 0 0, .slice none 0 0, .slice none 0 0, .slice none 0 0, .map none] 29))
    go_wp2_with fail
    have f0 : ∀ k, k = w1.heap.size → w.heap.size ≤ k := by
      rintro k rfl
      exact cs.out
    generalize w1.heap.size = sB at *
    go_loopw [28] (fun i wr => ∃ j : Nat, j ≤ l.length ∧ i = .int .i64 j ∧ ∃ O q L, Ch0 w wr ∧ Qs wr sB O q L ∧ (∀ k, O k → w.heap.size ≤ k) ∧ ∀ k, (q k).length ≤ j) (fun i _ => l.length - (intOf i).toNat)
    case atStart => exact ⟨0, Nat.zero_le _, rfl, _, _, _, c1.out, h0.out, f0, fun _ => Nat.le_refl _⟩
    case round =>
      obtain ⟨j, hj, rfl, O, q, L, c2, h2, f2, hq⟩ := hrel
      clear c1 h0 f0
      replace c2 := Lib.hid c2
      replace h2 := Lib.hid h2
      replace f2 := Lib.hid f2
      replace hq := Lib.hid hq
      by_cases hlt : j < l.length
      · obtain ⟨o, ho⟩ : ∃ o, l[j]? = some o := ⟨_, List.getElem?_eq_getElem hlt⟩
        obtain ⟨g, off, c', -, hv, hc⟩ := SeesQ.cell HS.out (by omega)
        obtain ⟨rfl, rfl⟩ : a = some ⟨g, off, none⟩ ∧ c = c' := by simpa using hv
        have hc0 := hc j o ho
        have hK : ∀ w', Ch0 w w' → w'.cell? ⟨g, off + j * 3, none⟩ = some (.int .i64 o.kind) ∧ w'.cell? ⟨g, off + j * 3 + 1, none⟩ = some (.int .i64 o.q) ∧ w'.cell? ⟨g, off + j * 3 + 2, none⟩ = some (.int .i64 o.x) :=
          fun w' cw => ⟨cw.cell hc0.1 (fun e => e), cw.cell hc0.2.1 (fun e => e), cw.cell hc0.2.2 (fun e => e)⟩
        obtain ⟨k1, k2, k3⟩ := hK _ c2.out
        have HK := Lib.hid hK
        clear hc0 hK hc hv
        have i1 : (0 : Int) ≤ j := by omega
        have i2 : (j : Int) < l.length := by omega
        obtain ⟨m, hm4, hm⟩ := umod4 o.q
        obtain ⟨p, hp, hpm⟩ : ∃ p : Nat, (1 : Int) + (m : Int) = (p : Int) ∧ p = m + 1 := ⟨m + 1, by omega, rfl⟩
        replace hpm := Lib.hid hpm
        go_wp2_with fail
        have hB : (wr.alloc (.cells #[.int .i64 0, .int .i64 0, .int .i64 0, .int .i64 0, .int .i64 0] 42)).heap[wr.heap.size]? = some (.cells (ints [0, 0, 0, 0, 0]) 42 (0, 0)) := heap_alloc_new wr _
        have cB := Lib.hid ((Ch.refl (fun k => k = wr.heap.size) wr).alloc (.cells #[.int .i64 0, .int .i64 0, .int .i64 0, .int .i64 0, .int .i64 0] 42))
        have hBn : ¬ O wr.heap.size := fun e => by have := h2.out.small _ e; omega
        have hBw := c2.out.size
        replace hB := Lib.hid hB
        generalize wr.alloc (.cells #[.int .i64 0, .int .i64 0, .int .i64 0, .int .i64 0, .int .i64 0] 42) = w3 at *
        generalize hwB : wr.heap.size = wB at *
        obtain ⟨wo, rfl⟩ : ∃ wo, wo = wr := ⟨wr, rfl⟩
        go_loopw [7] (fun i wr' => ∃ p' : Nat, 1 ≤ p' ∧ p' ≤ 5 ∧ i = .int .i64 p' ∧ ∃ xs : List Int, xs.length = 5 ∧ wr'.heap[wB]? = some (.cells (ints xs) 42 (0, 0)) ∧ (∀ k, k + 1 < p' → xs.getD (k + 1) 0 = ((q k).length : Int)) ∧ Ch (fun k => k = wB) wo wr') (fun i _ => 5 - (intOf i).toNat)
        case atStart => exact ⟨1, by omega, by omega, rfl, _, rfl, hB.out, fun k hk => by omega, cB.out⟩
        case round =>
          obtain ⟨p', hp1, hp5, rfl, xs, hx5, hb, hxs, d1⟩ := hrel
          clear hB cB
          by_cases hp' : p' = 5
          · subst hp'
            have d0 : Ch0 w wr := c2.out.trans' d1 (fun _ _ e => e) (fun k hk e => by omega)
            obtain ⟨k4, k5, k6⟩ := HK.out _ d0
            have h3 := Lib.hid (h2.out.keep d1 (fun k a b => hBn (b ▸ a)))
            replace hxs := Lib.hid hxs
            replace d1 := Lib.hid d1
            replace hb := Lib.hid hb
            replace d0 := Lib.hid d0
            have j1 : (q m).length < 4294967296 := by have := hq.out m; omega
            have hsum : ∀ (q5 : Nat → List Int) (d : Int), (∀ k, k < 4 → ((q5 k).length : Int) = (q k).length + (if k = m then d else 0)) → ∀ k, k < 4 → ((q5 k).length : Int) = xs.getD (k + 1) 0 + (if k = m then d else 0) := by
              intro q5 d h k hk
              rw [h k hk, hxs.out k (by omega)]
            by_cases hk : o.kind = 2
            · have t1 : (o.kind == 2) = true := beq_iff_eq.2 hk
              clear hk
              cases hq0 : q m with
              | nil =>
                go_wp2_with fail
                refine (poll_in h3.out m hm4 _ (by have := hpm.out; omega)).mono ?_
                rintro e w5 ⟨rfl, O5, h5, t5⟩
                rw [hq0] at h5 ⊢
                simp only [List.headD_nil, List.tail_nil, if_true] at h5 ⊢
                have e5 : ∀ k, k < 4 → ((updF q m [] k).length : Int) = (q k).length + (if k = m then (0 : Int) else 0) := by
                  intro k hk
                  unfold updF
                  by_cases e : k = m
                  · subst e; simp [hq0]
                  · simp [e]
                have c5 := Lib.hid (Ch0.turn d0.out t5 f2.out)
                have hb5 := t5.1.keep hb.out hBn
                have eA := hsum _ _ e5
                have eL : ∀ k, k < 4 → ((updF q m []) k).length ≤ j + 1 := by
                  intro k hk
                  have h1 := e5 k hk
                  have h2 := hq.out k
                  split at h1 <;> omega
                have eG : ∀ k, ((updF q m []) k).length ≤ j + 1 := by
                  intro k
                  have h1 := hq.out k
                  unfold updF
                  split <;> simp <;> omega
                generalize hq5 : (updF q m []) = q5 at *
                clear hq5 e5 t5 hsum
                have hcl : (cat q5 4).length < 4294967296 := by
                  have h0 := eL 0 (by omega)
                  have h1 := eL 1 (by omega)
                  have h2 := eL 2 (by omega)
                  have h3 := eL 3 (by omega)
                  simp [cat, List.range_succ]
                  omega
                replace h5 := Lib.hid h5
                replace hb5 := Lib.hid hb5
                replace eA := Lib.hid eA
                replace eL := Lib.hid eL
                replace eG := Lib.hid eG
                obtain ⟨w6, hw6⟩ : ∃ w6, w6 = w5 := ⟨_, rfl⟩
                rw [← hw6] at c5 hb5 h5
                rw [← hw6]
                clear hw6
                go_wp2_with fail
                go_loopw [13, 14] (fun nn i wr' => ∃ p' : Nat, 1 ≤ p' ∧ p' ≤ 5 ∧ i = .int .i64 p' ∧ nn = .int .i64 ((cat q5 (p' - 1)).length : Int) ∧ SameW w6 wr') (fun _ i _ => 5 - (intOf i).toNat)
                case atStart => exact ⟨1, by omega, by omega, rfl, rfl, SameW.rfl' _⟩
                case round =>
                  obtain ⟨p', hp1, hp5, rfl, rfl, hs⟩ := hrel
                  obtain rfl : w6 = wr := hs
                  by_cases hp' : p' = 5
                  · subst hp'
                    have hal := all_in h5.out hcl
                    go_wp2_with fail
                    refine hal.mono ?_
                    rintro e w7 ⟨v7, rfl, c7, r7, -⟩
                    obtain ⟨a7, x7, rfl, -, -⟩ := r7.isSlice
                    have c8 := Lib.hid (c5.out.1.trans c7)
                    have h8 := Lib.hid (h5.out.keep c7 (fun _ _ e => e))
                    clear hal c7 r7
                    go_wp2_with fail
                    go_roundw
                    case rel => exact ⟨j + 1, by omega, by go_num, _, _, _, c8.out, h8.out, c5.out.2, eG.out⟩
                    case measure => simp [intOf]; omega
                  · obtain ⟨k', rfl⟩ : ∃ k', p' = k' + 1 := ⟨p' - 1, by omega⟩
                    have hk4 : k' < 4 := by omega
                    have hln := h5.out.len k' hk4
                    have hX := eA.out k' hk4
                    have hcell := cell_ints hb5.out (k' + 1) (by omega)
                    have hcs : (cat q5 (k' + 1)).length = (cat q5 k').length + (q5 k').length := by rw [cat_succ, List.length_append]
                    have hc1 := cat_le q5 (show k' + 1 ≤ 4 by omega)
                    rw [hcs] at hc1
                    simp only [Nat.add_sub_cancel] at *
                    generalize xs.getD (k' + 1) 0 = X at *
                    have hHC := Lib.hid hcs
                    generalize (cat q5 k').length = nc at *
                    generalize (q5 k').length = nk at *
                    obtain ⟨pp, hpp⟩ : ∃ pp : Nat, k' + 1 = pp := ⟨_, rfl⟩
                    have i5 : ((k' + 1 : Nat) : Int) = (pp : Int) := by rw [hpp]
                    have i3 : (0 : Int) ≤ pp := by omega
                    have i4 : (pp : Int) < 5 := by omega
                    have hq1 : pp ≤ 4 := by omega
                    rw [i5]
                    rw [hpp] at hcell
                    have HPP := Lib.hid hpp
                    by_cases hkm : k' = m
                    · have t9 : ((pp : Int) == (p : Int)) = true := beq_iff_eq.2 (by have := hpm.out; omega)
                      rw [if_pos hkm, Int.add_zero] at hX
                      obtain rfl : X = (nk : Int) := hX.symm
                      have t8 : ((nk : Int) != (nk : Int)) = false := by simp
                      clear hpp i5 hX hkm hp1 hp5 hp' hk4 hcs
                      go_wp2_with fail
                      refine (hln _ (by have := HPP.out; omega)).mono ?_
                      rintro e w7 ⟨rfl, hs⟩
                      obtain rfl : w6 = w7 := hs
                      clear hln
                      go_wp2_with fail
                      go_roundw
                      case rel =>
                        first
                          | refine ⟨pp + 1, by omega, by omega, by go_num, ?_, SameW.rfl' _⟩
                          | ((repeat apply Exists.intro); refine ⟨⟨pp + 1, by omega, by omega, by go_num, ?_, SameW.rfl' _⟩, rfl⟩)
                        rw [← HPP.out]
                        simp only [Nat.add_sub_cancel]
                        rw [hHC.out]
                        go_num
                      case measure => simp [intOf]; omega
                    · have t9 : ((pp : Int) == (p : Int)) = false := beq_eq_false_iff_ne.2 (by have := hpm.out; omega)
                      rw [if_neg hkm, Int.add_zero] at hX
                      obtain rfl : X = (nk : Int) := hX.symm
                      have t8 : ((nk : Int) != (nk : Int)) = false := by simp
                      clear hpp i5 hX hkm hp1 hp5 hp' hk4 hcs
                      go_wp2_with fail
                      refine (hln _ (by have := HPP.out; omega)).mono ?_
                      rintro e w7 ⟨rfl, hs⟩
                      obtain rfl : w6 = w7 := hs
                      clear hln
                      go_wp2_with fail
                      go_roundw
                      case rel =>
                        first
                          | refine ⟨pp + 1, by omega, by omega, by go_num, ?_, SameW.rfl' _⟩
                          | ((repeat apply Exists.intro); refine ⟨⟨pp + 1, by omega, by omega, by go_num, ?_, SameW.rfl' _⟩, rfl⟩)
                        rw [← HPP.out]
                        simp only [Nat.add_sub_cancel]
                        rw [hHC.out]
                        go_num
                      case measure => simp [intOf]; omega
              | cons y ys =>
                go_wp2_with fail
                refine (poll_in h3.out m hm4 _ (by have := hpm.out; omega)).mono ?_
                rintro e w5 ⟨rfl, O5, h5, t5⟩
                rw [hq0] at h5 ⊢
                simp only [List.headD_cons, List.tail_cons, reduceCtorEq, if_false] at h5 ⊢
                have hym : ys.length ≤ j := by have := hq.out m; rw [hq0] at this; simp at this; omega
                have e5 : ∀ k, k < 4 → ((updF q m ys k).length : Int) = (q k).length + (if k = m then (-1 : Int) else 0) := by
                  intro k hk
                  unfold updF
                  by_cases e : k = m
                  · subst e; simp [hq0]
                    omega
                  · simp [e]
                have c5 := Lib.hid (Ch0.turn d0.out t5 f2.out)
                have hb5 := t5.1.keep hb.out hBn
                have eA := hsum _ _ e5
                have eL : ∀ k, k < 4 → ((updF q m ys) k).length ≤ j + 1 := by
                  intro k hk
                  have h1 := e5 k hk
                  have h2 := hq.out k
                  split at h1 <;> omega
                have eG : ∀ k, ((updF q m ys) k).length ≤ j + 1 := by
                  intro k
                  have h1 := hq.out k
                  unfold updF
                  split <;> simp <;> omega
                generalize hq5 : (updF q m ys) = q5 at *
                clear hq5 e5 t5 hsum
                have hcl : (cat q5 4).length < 4294967296 := by
                  have h0 := eL 0 (by omega)
                  have h1 := eL 1 (by omega)
                  have h2 := eL 2 (by omega)
                  have h3 := eL 3 (by omega)
                  simp [cat, List.range_succ]
                  omega
                replace h5 := Lib.hid h5
                replace hb5 := Lib.hid hb5
                replace eA := Lib.hid eA
                replace eL := Lib.hid eL
                replace eG := Lib.hid eG
                obtain ⟨w6, hw6⟩ : ∃ w6, w6 = w5 := ⟨_, rfl⟩
                rw [← hw6] at c5 hb5 h5
                rw [← hw6]
                clear hw6
                go_wp2_with fail
                go_loopw [13, 14] (fun nn i wr' => ∃ p' : Nat, 1 ≤ p' ∧ p' ≤ 5 ∧ i = .int .i64 p' ∧ nn = .int .i64 ((cat q5 (p' - 1)).length : Int) ∧ SameW w6 wr') (fun _ i _ => 5 - (intOf i).toNat)
                case atStart => exact ⟨1, by omega, by omega, rfl, rfl, SameW.rfl' _⟩
                case round =>
                  obtain ⟨p', hp1, hp5, rfl, rfl, hs⟩ := hrel
                  obtain rfl : w6 = wr := hs
                  by_cases hp' : p' = 5
                  · subst hp'
                    have hal := all_in h5.out hcl
                    go_wp2_with fail
                    refine hal.mono ?_
                    rintro e w7 ⟨v7, rfl, c7, r7, -⟩
                    obtain ⟨a7, x7, rfl, -, -⟩ := r7.isSlice
                    have c8 := Lib.hid (c5.out.1.trans c7)
                    have h8 := Lib.hid (h5.out.keep c7 (fun _ _ e => e))
                    clear hal c7 r7
                    go_wp2_with fail
                    go_roundw
                    case rel => exact ⟨j + 1, by omega, by go_num, _, _, _, c8.out, h8.out, c5.out.2, eG.out⟩
                    case measure => simp [intOf]; omega
                  · obtain ⟨k', rfl⟩ : ∃ k', p' = k' + 1 := ⟨p' - 1, by omega⟩
                    have hk4 : k' < 4 := by omega
                    have hln := h5.out.len k' hk4
                    have hX := eA.out k' hk4
                    have hcell := cell_ints hb5.out (k' + 1) (by omega)
                    have hcs : (cat q5 (k' + 1)).length = (cat q5 k').length + (q5 k').length := by rw [cat_succ, List.length_append]
                    have hc1 := cat_le q5 (show k' + 1 ≤ 4 by omega)
                    rw [hcs] at hc1
                    simp only [Nat.add_sub_cancel] at *
                    generalize xs.getD (k' + 1) 0 = X at *
                    have hHC := Lib.hid hcs
                    generalize (cat q5 k').length = nc at *
                    generalize (q5 k').length = nk at *
                    obtain ⟨pp, hpp⟩ : ∃ pp : Nat, k' + 1 = pp := ⟨_, rfl⟩
                    have i5 : ((k' + 1 : Nat) : Int) = (pp : Int) := by rw [hpp]
                    have i3 : (0 : Int) ≤ pp := by omega
                    have i4 : (pp : Int) < 5 := by omega
                    have hq1 : pp ≤ 4 := by omega
                    rw [i5]
                    rw [hpp] at hcell
                    have HPP := Lib.hid hpp
                    by_cases hkm : k' = m
                    · have t9 : ((pp : Int) == (p : Int)) = true := beq_iff_eq.2 (by have := hpm.out; omega)
                      rw [if_pos hkm] at hX
                      have g5 : IntKind.i64.wrap (X + -1) = (nk : Int) := by rw [IntWalk.i64_in _ (by omega)]; omega
                      have t8 : ((nk : Int) != (nk : Int)) = false := by simp
                      clear hpp i5 hX hkm hp1 hp5 hp' hk4 hcs
                      go_wp2_with fail
                      refine (hln _ (by have := HPP.out; omega)).mono ?_
                      rintro e w7 ⟨rfl, hs⟩
                      obtain rfl : w6 = w7 := hs
                      clear hln
                      go_wp2_with fail
                      go_roundw
                      case rel =>
                        first
                          | refine ⟨pp + 1, by omega, by omega, by go_num, ?_, SameW.rfl' _⟩
                          | ((repeat apply Exists.intro); refine ⟨⟨pp + 1, by omega, by omega, by go_num, ?_, SameW.rfl' _⟩, rfl⟩)
                        rw [← HPP.out]
                        simp only [Nat.add_sub_cancel]
                        rw [hHC.out]
                        go_num
                      case measure => simp [intOf]; omega
                    · have t9 : ((pp : Int) == (p : Int)) = false := beq_eq_false_iff_ne.2 (by have := hpm.out; omega)
                      rw [if_neg hkm, Int.add_zero] at hX
                      obtain rfl : X = (nk : Int) := hX.symm
                      have t8 : ((nk : Int) != (nk : Int)) = false := by simp
                      clear hpp i5 hX hkm hp1 hp5 hp' hk4 hcs
                      go_wp2_with fail
                      refine (hln _ (by have := HPP.out; omega)).mono ?_
                      rintro e w7 ⟨rfl, hs⟩
                      obtain rfl : w6 = w7 := hs
                      clear hln
                      go_wp2_with fail
                      go_roundw
                      case rel =>
                        first
                          | refine ⟨pp + 1, by omega, by omega, by go_num, ?_, SameW.rfl' _⟩
                          | ((repeat apply Exists.intro); refine ⟨⟨pp + 1, by omega, by omega, by go_num, ?_, SameW.rfl' _⟩, rfl⟩)
                        rw [← HPP.out]
                        simp only [Nat.add_sub_cancel]
                        rw [hHC.out]
                        go_num
                      case measure => simp [intOf]; omega
            · have t1 : (o.kind == 2) = false := beq_eq_false_iff_ne.2 hk
              clear hk
              by_cases hx : o.x ∈ L
              · go_wp2_with fail
                refine (put_in h3.out m hm4 _ (by have := hpm.out; omega) o.x j1).mono ?_
                rintro e w5 ⟨rfl, O5, h5, t5⟩
                rw [if_pos hx, if_pos hx] at h5
                rw [show decide (o.x ∉ L) = false from decide_eq_false (fun q => q hx)]
                have e5 : ∀ k, k < 4 → ((q k).length : Int) = (q k).length + (if k = m then (0 : Int) else 0) := by
                  intro k hk
                  split <;> simp
                have c5 := Lib.hid (Ch0.turn d0.out t5 f2.out)
                have hb5 := t5.1.keep hb.out hBn
                have eA := hsum _ _ e5
                have eL : ∀ k, k < 4 → (q k).length ≤ j + 1 := by
                  intro k hk
                  have h1 := e5 k hk
                  have h2 := hq.out k
                  split at h1 <;> omega
                have eG : ∀ k, (q k).length ≤ j + 1 := by
                  intro k
                  have h1 := hq.out k
                  omega
                obtain ⟨q5, hq5⟩ : ∃ q5, q5 = q := ⟨q, rfl⟩
                rw [← hq5] at h5 eA eL eG
                clear hq5 e5 t5 hsum
                have hcl : (cat q5 4).length < 4294967296 := by
                  have h0 := eL 0 (by omega)
                  have h1 := eL 1 (by omega)
                  have h2 := eL 2 (by omega)
                  have h3 := eL 3 (by omega)
                  simp [cat, List.range_succ]
                  omega
                replace h5 := Lib.hid h5
                replace hb5 := Lib.hid hb5
                replace eA := Lib.hid eA
                replace eL := Lib.hid eL
                replace eG := Lib.hid eG
                obtain ⟨w6, hw6⟩ : ∃ w6, w6 = w5 := ⟨_, rfl⟩
                rw [← hw6] at c5 hb5 h5
                rw [← hw6]
                clear hw6
                go_wp2_with fail
                go_loopw [13, 14] (fun nn i wr' => ∃ p' : Nat, 1 ≤ p' ∧ p' ≤ 5 ∧ i = .int .i64 p' ∧ nn = .int .i64 ((cat q5 (p' - 1)).length : Int) ∧ SameW w6 wr') (fun _ i _ => 5 - (intOf i).toNat)
                case atStart => exact ⟨1, by omega, by omega, rfl, rfl, SameW.rfl' _⟩
                case round =>
                  obtain ⟨p', hp1, hp5, rfl, rfl, hs⟩ := hrel
                  obtain rfl : w6 = wr := hs
                  by_cases hp' : p' = 5
                  · subst hp'
                    have hal := all_in h5.out hcl
                    go_wp2_with fail
                    refine hal.mono ?_
                    rintro e w7 ⟨v7, rfl, c7, r7, -⟩
                    obtain ⟨a7, x7, rfl, -, -⟩ := r7.isSlice
                    have c8 := Lib.hid (c5.out.1.trans c7)
                    have h8 := Lib.hid (h5.out.keep c7 (fun _ _ e => e))
                    clear hal c7 r7
                    go_wp2_with fail
                    go_roundw
                    case rel => exact ⟨j + 1, by omega, by go_num, _, _, _, c8.out, h8.out, c5.out.2, eG.out⟩
                    case measure => simp [intOf]; omega
                  · obtain ⟨k', rfl⟩ : ∃ k', p' = k' + 1 := ⟨p' - 1, by omega⟩
                    have hk4 : k' < 4 := by omega
                    have hln := h5.out.len k' hk4
                    have hX := eA.out k' hk4
                    have hcell := cell_ints hb5.out (k' + 1) (by omega)
                    have hcs : (cat q5 (k' + 1)).length = (cat q5 k').length + (q5 k').length := by rw [cat_succ, List.length_append]
                    have hc1 := cat_le q5 (show k' + 1 ≤ 4 by omega)
                    rw [hcs] at hc1
                    simp only [Nat.add_sub_cancel] at *
                    generalize xs.getD (k' + 1) 0 = X at *
                    have hHC := Lib.hid hcs
                    generalize (cat q5 k').length = nc at *
                    generalize (q5 k').length = nk at *
                    obtain ⟨pp, hpp⟩ : ∃ pp : Nat, k' + 1 = pp := ⟨_, rfl⟩
                    have i5 : ((k' + 1 : Nat) : Int) = (pp : Int) := by rw [hpp]
                    have i3 : (0 : Int) ≤ pp := by omega
                    have i4 : (pp : Int) < 5 := by omega
                    have hq1 : pp ≤ 4 := by omega
                    rw [i5]
                    rw [hpp] at hcell
                    have HPP := Lib.hid hpp
                    by_cases hkm : k' = m
                    · have t9 : ((pp : Int) == (p : Int)) = true := beq_iff_eq.2 (by have := hpm.out; omega)
                      rw [if_pos hkm, Int.add_zero] at hX
                      obtain rfl : X = (nk : Int) := hX.symm
                      have t8 : ((nk : Int) != (nk : Int)) = false := by simp
                      clear hpp i5 hX hkm hp1 hp5 hp' hk4 hcs
                      go_wp2_with fail
                      refine (hln _ (by have := HPP.out; omega)).mono ?_
                      rintro e w7 ⟨rfl, hs⟩
                      obtain rfl : w6 = w7 := hs
                      clear hln
                      go_wp2_with fail
                      go_roundw
                      case rel =>
                        first
                          | refine ⟨pp + 1, by omega, by omega, by go_num, ?_, SameW.rfl' _⟩
                          | ((repeat apply Exists.intro); refine ⟨⟨pp + 1, by omega, by omega, by go_num, ?_, SameW.rfl' _⟩, rfl⟩)
                        rw [← HPP.out]
                        simp only [Nat.add_sub_cancel]
                        rw [hHC.out]
                        go_num
                      case measure => simp [intOf]; omega
                    · have t9 : ((pp : Int) == (p : Int)) = false := beq_eq_false_iff_ne.2 (by have := hpm.out; omega)
                      rw [if_neg hkm, Int.add_zero] at hX
                      obtain rfl : X = (nk : Int) := hX.symm
                      have t8 : ((nk : Int) != (nk : Int)) = false := by simp
                      clear hpp i5 hX hkm hp1 hp5 hp' hk4 hcs
                      go_wp2_with fail
                      refine (hln _ (by have := HPP.out; omega)).mono ?_
                      rintro e w7 ⟨rfl, hs⟩
                      obtain rfl : w6 = w7 := hs
                      clear hln
                      go_wp2_with fail
                      go_roundw
                      case rel =>
                        first
                          | refine ⟨pp + 1, by omega, by omega, by go_num, ?_, SameW.rfl' _⟩
                          | ((repeat apply Exists.intro); refine ⟨⟨pp + 1, by omega, by omega, by go_num, ?_, SameW.rfl' _⟩, rfl⟩)
                        rw [← HPP.out]
                        simp only [Nat.add_sub_cancel]
                        rw [hHC.out]
                        go_num
                      case measure => simp [intOf]; omega
              · go_wp2_with fail
                refine (put_in h3.out m hm4 _ (by have := hpm.out; omega) o.x j1).mono ?_
                rintro e w5 ⟨rfl, O5, h5, t5⟩
                rw [if_neg hx, if_neg hx] at h5
                rw [show decide (o.x ∉ L) = true from decide_eq_true hx]
                have e5 : ∀ k, k < 4 → ((updF q m (q m ++ [o.x]) k).length : Int) = (q k).length + (if k = m then (1 : Int) else 0) := by
                  intro k hk
                  unfold updF
                  by_cases e : k = m
                  · subst e; simp
                  · simp [e]
                have c5 := Lib.hid (Ch0.turn d0.out t5 f2.out)
                have hb5 := t5.1.keep hb.out hBn
                have eA := hsum _ _ e5
                have eL : ∀ k, k < 4 → ((updF q m (q m ++ [o.x])) k).length ≤ j + 1 := by
                  intro k hk
                  have h1 := e5 k hk
                  have h2 := hq.out k
                  split at h1 <;> omega
                have eG : ∀ k, ((updF q m (q m ++ [o.x])) k).length ≤ j + 1 := by
                  intro k
                  have h1 := hq.out k
                  have h2 := hq.out m
                  unfold updF
                  split <;> simp <;> omega
                generalize hq5 : (updF q m (q m ++ [o.x])) = q5 at *
                clear hq5 e5 t5 hsum
                have hcl : (cat q5 4).length < 4294967296 := by
                  have h0 := eL 0 (by omega)
                  have h1 := eL 1 (by omega)
                  have h2 := eL 2 (by omega)
                  have h3 := eL 3 (by omega)
                  simp [cat, List.range_succ]
                  omega
                replace h5 := Lib.hid h5
                replace hb5 := Lib.hid hb5
                replace eA := Lib.hid eA
                replace eL := Lib.hid eL
                replace eG := Lib.hid eG
                obtain ⟨w6, hw6⟩ : ∃ w6, w6 = w5 := ⟨_, rfl⟩
                rw [← hw6] at c5 hb5 h5
                rw [← hw6]
                clear hw6
                go_wp2_with fail
                go_loopw [13, 14] (fun nn i wr' => ∃ p' : Nat, 1 ≤ p' ∧ p' ≤ 5 ∧ i = .int .i64 p' ∧ nn = .int .i64 ((cat q5 (p' - 1)).length : Int) ∧ SameW w6 wr') (fun _ i _ => 5 - (intOf i).toNat)
                case atStart => exact ⟨1, by omega, by omega, rfl, rfl, SameW.rfl' _⟩
                case round =>
                  obtain ⟨p', hp1, hp5, rfl, rfl, hs⟩ := hrel
                  obtain rfl : w6 = wr := hs
                  by_cases hp' : p' = 5
                  · subst hp'
                    have hal := all_in h5.out hcl
                    go_wp2_with fail
                    refine hal.mono ?_
                    rintro e w7 ⟨v7, rfl, c7, r7, -⟩
                    obtain ⟨a7, x7, rfl, -, -⟩ := r7.isSlice
                    have c8 := Lib.hid (c5.out.1.trans c7)
                    have h8 := Lib.hid (h5.out.keep c7 (fun _ _ e => e))
                    clear hal c7 r7
                    go_wp2_with fail
                    go_roundw
                    case rel => exact ⟨j + 1, by omega, by go_num, _, _, _, c8.out, h8.out, c5.out.2, eG.out⟩
                    case measure => simp [intOf]; omega
                  · obtain ⟨k', rfl⟩ : ∃ k', p' = k' + 1 := ⟨p' - 1, by omega⟩
                    have hk4 : k' < 4 := by omega
                    have hln := h5.out.len k' hk4
                    have hX := eA.out k' hk4
                    have hcell := cell_ints hb5.out (k' + 1) (by omega)
                    have hcs : (cat q5 (k' + 1)).length = (cat q5 k').length + (q5 k').length := by rw [cat_succ, List.length_append]
                    have hc1 := cat_le q5 (show k' + 1 ≤ 4 by omega)
                    rw [hcs] at hc1
                    simp only [Nat.add_sub_cancel] at *
                    generalize xs.getD (k' + 1) 0 = X at *
                    have hHC := Lib.hid hcs
                    generalize (cat q5 k').length = nc at *
                    generalize (q5 k').length = nk at *
                    obtain ⟨pp, hpp⟩ : ∃ pp : Nat, k' + 1 = pp := ⟨_, rfl⟩
                    have i5 : ((k' + 1 : Nat) : Int) = (pp : Int) := by rw [hpp]
                    have i3 : (0 : Int) ≤ pp := by omega
                    have i4 : (pp : Int) < 5 := by omega
                    have hq1 : pp ≤ 4 := by omega
                    rw [i5]
                    rw [hpp] at hcell
                    have HPP := Lib.hid hpp
                    by_cases hkm : k' = m
                    · have t9 : ((pp : Int) == (p : Int)) = true := beq_iff_eq.2 (by have := hpm.out; omega)
                      rw [if_pos hkm] at hX
                      have g5 : IntKind.i64.wrap (X + 1) = (nk : Int) := by rw [IntWalk.i64_in _ (by omega)]; omega
                      have t8 : ((nk : Int) != (nk : Int)) = false := by simp
                      clear hpp i5 hX hkm hp1 hp5 hp' hk4 hcs
                      go_wp2_with fail
                      refine (hln _ (by have := HPP.out; omega)).mono ?_
                      rintro e w7 ⟨rfl, hs⟩
                      obtain rfl : w6 = w7 := hs
                      clear hln
                      go_wp2_with fail
                      go_roundw
                      case rel =>
                        first
                          | refine ⟨pp + 1, by omega, by omega, by go_num, ?_, SameW.rfl' _⟩
                          | ((repeat apply Exists.intro); refine ⟨⟨pp + 1, by omega, by omega, by go_num, ?_, SameW.rfl' _⟩, rfl⟩)
                        rw [← HPP.out]
                        simp only [Nat.add_sub_cancel]
                        rw [hHC.out]
                        go_num
                      case measure => simp [intOf]; omega
                    · have t9 : ((pp : Int) == (p : Int)) = false := beq_eq_false_iff_ne.2 (by have := hpm.out; omega)
                      rw [if_neg hkm, Int.add_zero] at hX
                      obtain rfl : X = (nk : Int) := hX.symm
                      have t8 : ((nk : Int) != (nk : Int)) = false := by simp
                      clear hpp i5 hX hkm hp1 hp5 hp' hk4 hcs
                      go_wp2_with fail
                      refine (hln _ (by have := HPP.out; omega)).mono ?_
                      rintro e w7 ⟨rfl, hs⟩
                      obtain rfl : w6 = w7 := hs
                      clear hln
                      go_wp2_with fail
                      go_roundw
                      case rel =>
                        first
                          | refine ⟨pp + 1, by omega, by omega, by go_num, ?_, SameW.rfl' _⟩
                          | ((repeat apply Exists.intro); refine ⟨⟨pp + 1, by omega, by omega, by go_num, ?_, SameW.rfl' _⟩, rfl⟩)
                        rw [← HPP.out]
                        simp only [Nat.add_sub_cancel]
                        rw [hHC.out]
                        go_num
                      case measure => simp [intOf]; omega
          · obtain ⟨k', rfl⟩ : ∃ k', p' = k' + 1 := ⟨p' - 1, by omega⟩
            have hk4 : k' < 4 := by omega
            have hln := (h2.out.keep d1 (fun k a b => hBn (b ▸ a))).len k' hk4
            have hcell := cell_ints hb (k' + 1) (by omega)
            have hfree := frozen_of_row wr wB (k' + 1) _ _ hb
            have hset := heap_setCell_same wr wB (k' + 1) _ _ (.int .i64 ((q k').length : Int)) hb
            rw [ints_set] at hset
            have d2 : Ch (fun k => k = wB) wo (wr.setCell ⟨wB, k' + 1, none⟩ (.int .i64 ((q k').length : Int))) := d1.setCell (fun _ => rfl) _
            have e5 : (xs.set (k' + 1) ((q k').length : Int)).length = 5 := by simp [hx5]
            have exs : ∀ k, k + 1 < k' + 1 + 1 → (xs.set (k' + 1) ((q k').length : Int)).getD (k + 1) 0 = ((q k).length : Int) := by
              intro k hk
              by_cases e : k = k'
              · subst e
                rw [List.getD_eq_getElem?_getD, List.getElem?_set_self (by rw [hx5]; omega)]
                rfl
              · have := hxs k (by omega)
                rw [← this]
                simp [List.getD_eq_getElem?_getD, List.getElem?_set, show ¬ k' = k from fun q => e q.symm]
            have HE := Lib.hid (And.intro e5 (And.intro hset (And.intro exs d2)))
            clear hset d2 d1 e5 exs hxs hx5 hb
            have hlq := hq.out k'
            generalize (q k').length = nk at *
            obtain ⟨pp, hpp⟩ : ∃ pp : Nat, k' + 1 = pp := ⟨_, rfl⟩
            have i3 : (0 : Int) ≤ pp := by omega
            have i4 : (pp : Int) < 5 := by omega
            have i5 : ((k' + 1 : Nat) : Int) = (pp : Int) := by rw [hpp]
            rw [i5]
            rw [hpp] at hcell hfree
            have hq1 : pp ≤ 4 := by omega
            have HPP := Lib.hid (And.intro hpp hlq)
            clear hpp i5 hlq hp1 hp5 hp' hk4
            go_wp2_with fail
            refine (hln _ (by have := HPP.out.1; omega)).mono ?_
            rintro e w4 ⟨rfl, hs⟩
            obtain rfl : wr = w4 := hs
            clear hln
            go_wp2_with fail
            go_roundw
            case rel => exact ⟨pp + 1, by omega, by omega, by go_num, _, HE.out.1, by rw [← HPP.out.1]; exact HE.out.2.1, by rw [← HPP.out.1]; exact HE.out.2.2.1, by rw [← HPP.out.1]; exact HE.out.2.2.2⟩
            case measure => simp [intOf]; omega
      · obtain rfl : j = l.length := by omega
        go_wp2_with fail
        go_ret
        exact ⟨rfl, c2.out⟩
  · have g1 : decide ((200 : Int) < l.length) = true := decide_eq_true (by omega)
    clear hsee hfit
    go_enter Try.func4, Try.ntmps4
    go_wp2_with fail
    refine (HA.out _).mono ?_
    rintro e w1 ⟨rfl, c1⟩
    have d1 := Lib.hid c1
    clear c1
    go_wp2_with fail
    refine (HA.out _).mono ?_
    rintro e w2 ⟨rfl, c2⟩
    have d2 := Lib.hid (d1.out.trans c2)
    clear c2
    go_wp2_with fail
    go_ret
    exact ⟨rfl, d2.out⟩

end Go.Proofs.Ytlmccjmbidfflaa
