/-
  Contract of the document's Add: each thing becomes one that is greater.
-/
import Derived.Test.YtlmccjmbidfflaaRefQ12
import Derived.Test.YtlmccjmbidfflaaQuietTail
namespace Go.Proofs.Ytlmccjmbidfflaa
set_option linter.unusedVariables false
open Go.RowKit Go.Sort

theorem RowAt.set {w : World} {e : TypeId} {g o n cap : Nat} {xs : List Value} (h : RowAt w e 1 (.slice (some ⟨g, o, none⟩) n cap) n xs) (j : Nat) (hj : j < n) (u : Value) :
    RowAt (w.setCell ⟨g, o + j, none⟩ u) e 1 (.slice (some ⟨g, o, none⟩) n cap) n (xs.set j u) := by
  refine ⟨by simpa using h.1, ?_⟩
  rcases h.2 with ⟨hc, _⟩ | ⟨g', o', cap', cur, hv, hg, hn, hm, hs, ht⟩
  · cases hc
  · cases hv
    refine .inr ⟨g, o, cap, _, rfl, heap_setCell_same w g (o + j) cur e u hg, hn, hm, by simpa using hs, ?_⟩
    rw [Array.toList_setIfInBounds, ← ht, List.drop_set, if_neg (by omega), List.take_set]
    congr 1
    omega

/-- one cell of a row is other -/
theorem RS.setAt {w : World} {b : Nat} {T : TypeId} {N : Nat} {O : Nat → Prop} {q : Nat → List Int} {vs : Nat → Value} (h : RS w b T N O q vs) {i : Nat} (hi : i < N) {g o c : Nat} (hv : vs i = .slice (some ⟨g, o, none⟩) (q i).length c) (j : Nat) (hj : j < (q i).length) (y : Int) :
    RS (w.setCell ⟨g, o + j, none⟩ (.int .i64 y)) b T N O (updF q i ((q i).set j y)) vs ∧ Turn w (w.setCell ⟨g, o + j, none⟩ (.int .i64 y)) O O := by
  have hrg : rblk (vs i) = some g := by rw [hv]; rfl
  have hO := h.rowO i hi g hrg
  have cs : Ch (fun k => k = g) w (w.setCell ⟨g, o + j, none⟩ (.int .i64 y)) := Ch.setCell (S := fun k => k = g) (Ch.refl _ _) (p := ⟨g, o + j, none⟩) (fun _ => rfl) _
  refine ⟨⟨cs.keep h.blk (fun e => hO.2 e.symm), h.own, fun k hk => Nat.lt_of_lt_of_le (h.small k hk) cs.size, fun m hm => ?_, h.rowO, h.apart⟩, cs.mono (fun k _ e => by rw [e]; exact hO.1), fun _ e => .inl e⟩
  by_cases hmi : m = i
  · subst hmi
    rw [updF_same]
    have hr := h.row m hm
    rw [hv] at hr ⊢
    have := hr.set j hj (.int .i64 y)
    rw [List.length_set, List.map_set]
    exact this
  · rw [updF_other _ _ _ hmi]
    exact (h.row m hm).keep cs (fun k hk e => by subst e; exact h.apart m i hm hi hmi k hk hrg)

/-- the queues while they are added to -/
def addQ (q : Nat → List Int) (n : Int) (m j : Nat) : Nat → List Int := fun k => if k < m then (q k).map (· + n) else if k = m then ((q k).take j).map (· + n) ++ (q k).drop j else q k

theorem addQ_zero (q : Nat → List Int) (n : Int) (m : Nat) : addQ q n m 0 = fun k => if k < m then (q k).map (· + n) else q k := by
  funext k
  unfold addQ
  by_cases h : k < m <;> simp [h]

theorem addQ_len (q : Nat → List Int) (n : Int) (m j k : Nat) : (addQ q n m j k).length = (q k).length := by
  unfold addQ
  split
  · simp
  · split
    · simp; omega
    · rfl

theorem addQ_get (q : Nat → List Int) (n : Int) (m j : Nat) (hj : j < (q m).length) : (addQ q n m j m).getD j 0 = (q m).getD j 0 := by
  have e : addQ q n m j m = ((q m).take j).map (· + n) ++ (q m).drop j := by unfold addQ; rw [if_neg (by omega), if_pos rfl]
  rw [e, List.getD_eq_getElem?_getD, List.getD_eq_getElem?_getD, List.getElem?_append_right (by simp; omega), List.getElem?_drop]
  congr 2
  simp; omega

theorem addQ_step (q : Nat → List Int) (n : Int) (m j : Nat) (hj : j < (q m).length) : updF (addQ q n m j) m ((addQ q n m j m).set j ((q m).getD j 0 + n)) = addQ q n m (j + 1) := by
  funext k
  unfold updF
  by_cases hk : k = m
  · subst hk
    rw [if_pos rfl]
    unfold addQ
    rw [if_neg (by omega), if_pos rfl, if_neg (by omega), if_pos rfl, List.take_succ_eq_append_getElem hj]
    have e : (q k).drop j = (q k).getD j 0 :: (q k).drop (j + 1) := by
      rw [List.drop_eq_getElem_cons hj]; simp [List.getD_eq_getElem?_getD, hj]
    have e2 : (q k)[j] = (q k).getD j 0 := by simp [List.getD_eq_getElem?_getD, hj]
    rw [e, List.set_append_right _ _ (by simp; omega), e2]
    simp only [List.length_map, List.length_take]
    rw [show j - min j (q k).length = 0 by omega, List.set_cons_zero, List.map_append, List.append_assoc]
    rfl
  · rw [if_neg hk]
    unfold addQ
    by_cases h : k < m <;> simp [h, hk]

theorem addQ_next (q : Nat → List Int) (n : Int) (m : Nat) : addQ q n m (q m).length = addQ q n (m + 1) 0 := by
  funext k
  rw [addQ_zero]
  unfold addQ
  by_cases hk : k = m
  · subst hk
    simp
  · by_cases h : k < m
    · simp [h, show k < m + 1 by omega]
    · simp [h, hk, show ¬ k < m + 1 by omega]

/-- what was ever put in, behind it -/
def addE (E C : List Int) (n least : Int) : List Int := (E.filter (fun e => decide (e + n ∈ C) || decide (least ≤ e))).map (· + n)

theorem addE_step (E C : List Int) (n least : Int) (j : Nat) (hj : j < E.length) :
    addE (E.take (j + 1)) C n least = addE (E.take j) C n least ++ (if (decide (E.getD j 0 + n ∈ C) || decide (least ≤ E.getD j 0)) = true then [E.getD j 0 + n] else []) := by
  unfold addE
  have e : E.getD j 0 = E[j] := by simp [List.getD_eq_getElem?_getD, hj]
  rw [List.take_succ_eq_append_getElem hj, List.filter_append, List.map_append, e]
  congr 1
  by_cases h : (decide (E[j] + n ∈ C) || decide (least ≤ E[j])) = true
  · rw [if_pos h]; simp only [List.filter_cons, List.filter_nil, h, if_true]; rfl
  · rw [if_neg h]; simp only [List.filter_cons, List.filter_nil, h]; rfl

theorem addE_len (E C : List Int) (n least : Int) : (addE E C n least).length ≤ E.length := by
  unfold addE
  rw [List.length_map]
  exact List.length_filter_le _ _

theorem mem_take_step {C : List Int} {m : Nat} (h : m < C.length) (y : Int) : decide (y ∈ C.take (m + 1)) = (decide (y ∈ C.take m) || (C.getD m 0 == y)) := by
  have e : C.getD m 0 = C[m] := by simp [List.getD_eq_getElem?_getD, h]
  rw [e, List.take_succ_eq_append_getElem h, Bool.eq_iff_iff]
  rw [Bool.or_eq_true, decide_eq_true_iff, decide_eq_true_iff, beq_iff_eq, List.mem_append, List.mem_singleton]
  exact or_congr Iff.rfl eq_comm

set_option maxRecDepth 100000 in
set_option maxHeartbeats 2000000 in
theorem radd_in {w : World} {b : Nat} {O : Nat → Prop} {q : Nat → List Int} (h : RQs w b O q) (n least : Int) (hn : 0 ≤ n ∧ n ≤ 1000) (hB : ∀ i, i < 5 → ∀ x ∈ q i, 0 ≤ x ∧ x ≤ 1099511627776) (hlen : ∀ i, i < 5 → (q i).length < 1048576) :
    Calls Try.prog 21 #[.pointer (some ⟨b, 0, none⟩), .int .i64 n, .int .i64 least] w fun e w' => e = .returned (.tuple #[]) ∧
      ∃ O', RQs w' b O' (updF (addQ q n 4 0) 4 (addE (q 4) (cat (addQ q n 4 0) 4) n least)) ∧ Turn w w' O O' := by
  obtain ⟨vs, h⟩ := h
  have HB := Lib.hid hB
  have HL := Lib.hid hlen
  have H0 : Hid (RQ w b O (addQ q n 0 0) vs) := by
    have e : addQ q n 0 0 = q := by rw [addQ_zero]; funext k; simp
    rw [e]; exact Lib.hid h
  obtain ⟨n0, n1⟩ := hn
  clear h hB hlen
  go_enter Try.func21, Try.ntmps21
  go_wp2_with fail
  go_loopw [6] (fun i wr => ∃ m : Nat, m ≤ 4 ∧ i = .int .i64 m ∧ RQ wr b O (addQ q n m 0) vs ∧ Turn w wr O O) (fun i _ => 4 - (intOf i).toNat)
  case atStart => exact ⟨0, by omega, rfl, H0.out, Turn.refl _ _⟩
  case round =>
    obtain ⟨m, hm, rfl, h1, t1⟩ := hrel
    clear H0
    by_cases hlt : m < 4
    · obtain ⟨a, c, ev, ki, -, -⟩ := h1.facts (show m < 5 by omega)
      rw [addQ_len] at ev ki
      have hlm := HL.out m (by omega)
      have hBm := Lib.hid (HB.out m (by omega))
      replace h1 := Lib.hid h1
      replace t1 := Lib.hid t1
      replace ev := Lib.hid ev
      have i1 : (0 : Int) ≤ m := by omega
      have i2 : (m : Int) < 4 := by omega
      go_wp2_with fail
      go_loopw [24] (fun i wr2 => ∃ j : Nat, j ≤ (q m).length ∧ i = .int .i64 j ∧ RQ wr2 b O (addQ q n m j) vs ∧ Turn w wr2 O O) (fun i _ => (q m).length - (intOf i).toNat)
      case atStart => exact ⟨0, by omega, rfl, h1.out, t1.out⟩
      case round =>
        obtain ⟨j, hj, rfl, h2, t2⟩ := hrel
        clear h1 t1 ki
        by_cases hlt2 : j < (q m).length
        · have hrow := h2.row m (by omega)
          rw [addQ_len, ev.out] at hrow
          obtain ⟨g, o, c1, -, hs1, hc1⟩ := SeesI.at (xs := addQ q n m j m) (by have := hrow.sees; rw [← addQ_len q n m j m] at this; exact this) (by rw [addQ_len]; omega)
          rw [addQ_len] at hs1
          obtain ⟨rfl, rfl⟩ : a = some ⟨g, o, none⟩ ∧ c = c1 := by simpa using hs1
          have kx := hc1 j (by rw [addQ_len]; omega)
          rw [addQ_get q n m j hlt2] at kx
          have kb := h2.cell (show m < 5 by omega)
          rw [ev.out] at kb
          obtain ⟨x0, x1⟩ := hBm.out ((q m).getD j 0) (by simp [List.getD_eq_getElem?_getD, hlt2])
          have fz := h2.row m (by omega)
          rw [ev.out] at fz
          have hst : ∀ w2, Ch0 wr w2 → RQ (w2.setCell ⟨g, o + j, none⟩ (.int .i64 ((q m).getD j 0 + n))) b O (addQ q n m (j + 1)) vs ∧ Turn w (w2.setCell ⟨g, o + j, none⟩ (.int .i64 ((q m).getD j 0 + n))) O O := fun w2 c2 => by
            obtain ⟨z1, z2⟩ := (h2.keep c2 (fun _ _ e => e)).setAt (show m < 5 by omega) (by rw [addQ_len]; exact ev.out) j (by rw [addQ_len]; exact hlt2) ((q m).getD j 0 + n)
            rw [addQ_step q n m j hlt2] at z1
            exact ⟨z1, (t2.after c2).trans z2⟩
          replace hst := Lib.hid hst
          obtain ⟨cur, hcur⟩ := fz.block rfl
          replace hcur := Lib.hid hcur
          clear fz hs1 hc1 hrow h2 t2
          generalize (q m).getD j 0 = X at *
          have kx0 := Lib.hid kx
          replace kx := cellB kx
          replace kb := cellB kb
          have i3 : (0 : Int) ≤ j := by omega
          have i4 : (j : Int) < (q m).length := by omega
          go_wp2_with fail
          refine wp_region_tailB 19 (by kernel_rfl) (by kernel_rfl) ?_
          simp only [List.take_succ_cons, List.take_zero, List.drop_succ_cons, List.drop_zero]
          repeat (go_big_quiet_step (fail))
          refine wpQuiet_nil ?_
          intro _ hw1
          obtain ⟨⟨dq, osq⟩, hw2⟩ := hw1
          subst hw2
          have c1 := chB wr dq osq
          generalize grow (redrawn wr dq) osq = w7 at *
          have k7 := c1.cell kx0.out (fun e => e)
          have f7 := frozen_of_row w7 g (o + j) _ _ (c1.keep hcur.out (fun e => e))
          replace hst := Lib.hid (hst.out w7 c1)
          clear kx kb kx0 hcur c1
          go_wp2_with fail
          go_roundw
          case rel => exact ⟨j + 1, by omega, by go_num, hst.out.1, hst.out.2⟩
          case measure => simp [intOf]; omega
        · obtain rfl : j = (q m).length := by omega
          rw [addQ_next] at h2
          replace h2 := Lib.hid h2
          replace t2 := Lib.hid t2
          go_wp2_with fail
          go_roundw
          case rel => exact ⟨m + 1, by omega, by go_num, h2.out, t2.out⟩
          case measure => simp [intOf]; omega
    · obtain rfl : m = 4 := by omega
      have hC : ∀ k, k ≤ 4 → (cat (addQ q n 4 0) k).length ≤ k * 1048576 := by
        intro k
        induction k with
        | zero => intro _; simp [cat]
        | succ k ih =>
          intro hk
          have := ih (by omega)
          have := HL.out k (by omega)
          rw [cat_succ, List.length_append, addQ_len]
          omega
      have hC4 := hC 4 (by omega)
      have hall := rall_in (h := ⟨vs, h1⟩) (by omega)
      obtain ⟨a, c, ev, -, -, -⟩ := h1.facts (show 4 < 5 by omega)
      have e4 : addQ q n 4 0 4 = q 4 := by rw [addQ_zero]; simp
      rw [e4] at ev
      have hE := HL.out 4 (by omega)
      have hBE := Lib.hid (HB.out 4 (by omega))
      have hrow4 := h1.row 4 (by omega)
      rw [e4] at hrow4
      have hend : Hid (∀ w2 w3 v', Ch0 wr w2 → Ch0 w2 w3 → (∀ k, rblk v' = some k → wr.heap.size ≤ k) → ∀ xs : List Int, RowAt w3 3 1 v' xs.length (xs.map (Value.int .i64)) →
          ∃ O', RQs (w3.setCell ⟨b, 4, none⟩ v') b O' (updF (addQ q n 4 0) 4 xs) ∧ Turn w (w3.setCell ⟨b, 4, none⟩ v') O O') := Lib.hid (fun w2 w3 v' c2 c3 b3 xs r3 => by
        obtain ⟨z1, z2⟩ := h1.turn (show 4 < 5 by omega) (xs := xs) ((c2.trans c3).of0) r3 (by
          cases hv : rblk v' with
          | none => exact .inr (.inl rfl)
          | some g => exact .inr (.inr ⟨g, rfl, b3 g hv⟩))
        exact ⟨_, ⟨_, z1⟩, t1.trans z2⟩)
      have k4 := h1.cell (show 4 < 5 by omega)
      rw [ev] at k4
      have hcb := Lib.hid h1.blk
      rw [ev] at hrow4
      clear h1 t1 e4 hC ev
      generalize hCe : cat (addQ q n 4 0) 4 = C at *
      replace hCe := Lib.hid hCe
      generalize h5e : addQ q n 4 0 = q5 at *
      replace h5e := Lib.hid h5e
      generalize hEe : q 4 = E at *
      replace hEe := Lib.hid hEe
      go_wp2_with fail
      refine hall.mono ?_
      rintro e w5 ⟨v5, rfl, c5, r5, b5⟩
      have hsE := hrow4.sees.keep c5 (fun _ _ e => e)
      have hsC := r5.sees
      obtain ⟨ca, cc, rfl, -, -⟩ := r5.isSlice
      have k5 := c5.cell k4 (fun e => e)
      replace hcb := Lib.hid (c5.keep hcb.out (fun e => e))
      clear hall k4 hrow4 r5 b5
      replace hsE := Lib.hid hsE
      replace hsC := Lib.hid hsC
      replace c5 := Lib.hid c5
      go_wp2_with fail
      go_loopw [8, 54] (fun v i w6 => ∃ j : Nat, j ≤ E.length ∧ i = .int .i64 j ∧ Ch0 w5 w6 ∧ RowAt w6 3 1 v (addE (E.take j) C n least).length ((addE (E.take j) C n least).map (Value.int .i64)) ∧ ∀ k, rblk v = some k → w5.heap.size ≤ k) (fun _ i _ => E.length - (intOf i).toNat)
      case atStart => exact ⟨0, Nat.zero_le _, rfl, Ch.refl _ _, by simpa [addE] using RowAt.nil, fun k hk => by cases hk⟩
      case round =>
        obtain ⟨j, hj, rfl, d6, r6, b6⟩ := hrel
        have k6 := d6.cell k5 (fun e => e)
        obtain ⟨oa, oc, rfl, -, -⟩ := r6.isSlice
        by_cases hjl : j < E.length
        · obtain ⟨g, o, c1, -, hs1, hc1⟩ := SeesI.at (hsE.out.keep d6 (fun _ _ e => e)) (by omega)
          obtain ⟨rfl, rfl⟩ : a = some ⟨g, o, none⟩ ∧ c = c1 := by simpa using hs1
          have kx := hc1 j hjl
          obtain ⟨x0, x1⟩ := hBE.out (E.getD j 0) (by simp [List.getD_eq_getElem?_getD, hjl])
          have hst := Lib.hid (addE_step E C n least j hjl)
          have hln := addE_len (E.take j) C n least
          rw [List.length_take] at hln
          clear hs1 hc1
          generalize E.getD j 0 = X at *
          generalize addE (E.take j) C n least = A at *
          replace d6 := Lib.hid d6
          replace r6 := Lib.hid r6
          replace b6 := Lib.hid b6
          have i3 : (0 : Int) ≤ j := by omega
          have i4 : (j : Int) < E.length := by omega
          clear k5
          go_wp2_with fail
          obtain ⟨w6, hw6⟩ : ∃ w6, wr = w6 := ⟨_, rfl⟩
          subst hw6
          go_loopw [11, 59] (fun v i w7 => ∃ m : Nat, m ≤ C.length ∧ i = .int .i64 m ∧ v = .bool (decide (X + n ∈ C.take m)) ∧ Ch0 wr w7) (fun _ i _ => C.length - (intOf i).toNat)
          case atStart => exact ⟨0, Nat.zero_le _, rfl, by simp, Ch.refl _ _⟩
          case round =>
            obtain ⟨m, hm, rfl, rfl, d7⟩ := hrel
            have k7 := d7.cell k6 (fun e => e)
            have kx7 := d7.cell kx (fun e => e)
            by_cases hml : m < C.length
            · obtain ⟨g2, o2, c2, -, hs2, hc2⟩ := SeesI.at (hsC.out.keep (d6.out.trans d7) (fun _ _ e => e)) (by omega)
              obtain ⟨rfl, rfl⟩ : ca = some ⟨g2, o2, none⟩ ∧ cc = c2 := by simpa using hs2
              have ky := hc2 m hml
              have hnx : Hid (decide (X + n ∈ C.take (m + 1)) = (decide (X + n ∈ C.take m) || (C.getD m 0 == X + n))) := Lib.hid (mem_take_step hml _)
              clear hs2 hc2 k6 kx
              generalize C.getD m 0 = Y at *
              generalize decide (X + n ∈ C.take m) = dm at *
              replace d7 := Lib.hid d7
              replace k7 := cellB k7
              replace kx7 := cellB kx7
              replace ky := cellB ky
              have i5 : (0 : Int) ≤ m := by omega
              have i6 : (m : Int) < C.length := by omega
              obtain ⟨t, ht⟩ : ∃ t, (Y == X + n) = t := ⟨_, rfl⟩
              cases dm
              · go_wp2_with fail
                refine wp_region_quiet_below (by kernel_rfl) (by kernel_rfl) ?_
                repeat (go_big_quiet_step (fail))
                refine wpQuiet_nil ?_
                intro _ hw1
                obtain ⟨⟨dq, osq⟩, hw2⟩ := hw1
                subst hw2
                have c1 := chB wr dq osq
                generalize grow (redrawn wr dq) osq = w7 at *
                replace d7 := Lib.hid (d7.out.trans c1)
                clear k7 kx7 ky c1
                rw [ht] at hnx
                go_wp2_with fail
                go_roundw
                case rel => exact ⟨m + 1, by omega, by go_num, by rw [hnx.out]; rfl, d7.out⟩
                case measure => simp [intOf]; omega
              · go_wp2_with fail
                refine wp_region_quiet_below (by kernel_rfl) (by kernel_rfl) ?_
                repeat (go_big_quiet_step (fail))
                refine wpQuiet_nil ?_
                intro _ hw1
                obtain ⟨⟨dq, osq⟩, hw2⟩ := hw1
                subst hw2
                have c1 := chB wr dq osq
                generalize grow (redrawn wr dq) osq = w7 at *
                replace d7 := Lib.hid (d7.out.trans c1)
                clear k7 kx7 ky c1
                go_wp2_with fail
                go_roundw
                case rel => exact ⟨m + 1, by omega, by go_num, by rw [hnx.out]; rfl, d7.out⟩
                case measure => simp [intOf]; omega
            · obtain rfl : m = C.length := by omega
              rw [List.take_length]
              clear kx k6
              have d8 := Lib.hid (d6.out.trans d7)
              have r8 := r6.out.keep d7 (fun _ _ e => e)
              obtain ⟨ty, hty⟩ : ∃ ty, decide (X + n ∈ C) = ty := ⟨_, rfl⟩
              rw [hty] at hst ⊢
              replace hty := Lib.hid hty
              obtain ⟨tl, htl⟩ : ∃ tl, decide (least ≤ X) = tl := ⟨_, rfl⟩
              rw [htl] at hst
              clear d6 d7 r6
              have cX : Ch0 wr (wr.alloc (.cells #[.int .i64 (X + n)] 3)) := (Ch.refl _ _).alloc _
              obtain ⟨a9, c9, w9, hrun, r9, d9, b9⟩ := run_int (r8.keep cX (fun _ _ e => e)) (by omega) wr.heap.size (X + n) (heap_alloc_new wr _) 25
              have dd : Ch0 w5 w9 := (d8.out.trans cX).trans' d9 (fun _ _ e => e) (fun k hk e => by have := b6.out k e; omega)
              have bb : ∀ k, rblk (.slice a9 (A.length + 1) c9) = some k → w5.heap.size ≤ k := fun k hk => b9.elim (fun e => b6.out k (by rw [← e]; exact hk)) (fun e => by have e2 := e.symm.trans hk; have := (d8.out.trans cX).size; simp only [Option.some.injEq] at e2; omega)
              have HF := Lib.hid (And.intro dd (And.intro r9 bb))
              replace r8 := Lib.hid r8
              clear dd r9 bb d9 b9 cX
              cases ty
              · cases tl
                · have h0 : X < least := by rw [decide_eq_false_iff_not] at htl; omega
                  clear htl
                  go_wp2_with fail
                  go_roundw
                  case rel => exact ⟨j + 1, by omega, by go_num, d8.out, by rw [hst.out]; simpa using r8.out, b6.out⟩
                  case measure => simp [intOf]; omega
                · go_wp2_with (at_builtin; refine wpList_append_run rfl _ _ 25 25 rfl rfl rfl hrun ?_)
                  go_roundw
                  case rel => exact ⟨j + 1, by omega, by go_num, HF.out.1, by rw [hst.out]; simpa using HF.out.2.1, HF.out.2.2⟩
                  case measure => simp [intOf]; omega
              · go_wp2_with (at_builtin; refine wpList_append_run rfl _ _ 25 25 rfl rfl rfl hrun ?_)
                go_roundw
                case rel => exact ⟨j + 1, by omega, by go_num, HF.out.1, by rw [hst.out]; simpa using HF.out.2.1, HF.out.2.2⟩
                case measure => simp [intOf]; omega
        · obtain rfl : j = E.length := by omega
          have eT : E.take E.length = E := List.take_length
          rw [eT] at r6 b6 ⊢
          clear eT
          have he := hend.out wr wr _ (c5.out.trans d6) (Ch.refl _ _) (fun k hk => by have := b6 k hk; have := c5.out.size; omega) _ r6
          have kf := frozen_of_row wr b 4 _ _ (d6.keep hcb.out (fun e => e))
          replace he := Lib.hid he
          clear r6 d6 b6 hend k5
          go_wp2_with fail
          go_end0
          exact ⟨rfl, by rw [h5e.out, hCe.out, hEe.out]; exact he.out⟩

end Go.Proofs.Ytlmccjmbidfflaa
