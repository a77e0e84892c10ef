/-
  Contracts of the document's Has, and of its Same of two nodes.
-/
import Derived.Test.YtlmeponoadhheaaG3
import Derived.Test.YtlmeponoadhheaaSame1
namespace Go.Proofs.Ytlmeponoadhheaa
set_option linter.unusedVariables false
open Go.RowKit

set_option maxHeartbeats 400000 in
theorem has_any (D : Nat → Prop) (v : Value) (xs : List Int) (x : Int) (w : World) (h : SeesI D w v xs) :
    Calls Try.prog 54 #[v, .int .i64 x] w fun e w' => e = .returned (.bool (decide (x ∈ xs))) ∧ SameW w w' := by
  obtain ⟨a, c, rfl, hlen⟩ := h.len
  have HS := Lib.hid h
  clear h
  obtain ⟨y, hy⟩ : ∃ y : Bool, y = decide (x ∈ xs) := ⟨_, rfl⟩
  rw [← hy]
  replace hy := Lib.hid hy
  go_enter Try.func54, Try.ntmps54
  go_wp2_with fail
  go_loop [8] (fun i => ∃ j : Nat, j ≤ xs.length ∧ i = .int .i64 j ∧ ∀ m, m < j → xs.getD m 0 ≠ x) (fun i => xs.length - (intOf i).toNat)
  case atStart => exact ⟨0, Nat.zero_le _, rfl, fun m hm => by omega⟩
  case round =>
    obtain ⟨j, hj, rfl, hne⟩ := hrel
    have HN := Lib.hid hne
    clear hne
    by_cases hlt : j < xs.length
    · obtain ⟨g, o, c1, -, e1, hcell⟩ := HS.out.cell (by omega)
      obtain ⟨rfl, rfl⟩ : a = some ⟨g, o, none⟩ ∧ c = c1 := by simpa using e1
      have hx := hcell j hlt
      have HM : Hid (xs.getD j 0 ∈ xs) := Lib.hid (by simp [List.getD_eq_getElem?_getD, hlt])
      clear hcell e1
      generalize hX : xs.getD j 0 = X at *
      replace hX := Lib.hid hX
      have i1 : (0 : Int) ≤ j := by omega
      have i2 : (j : Int) < xs.length := by omega
      by_cases hxx : X = x
      · subst hxx
        have t1 : (X == X) = true := by simp
        go_wp2_with fail
        go_ret
        exact ⟨by rw [hy.out, decide_eq_true HM.out]; rfl, SameW.rfl' _⟩
      · have t1 : (X == x) = false := by simpa using hxx
        clear hxx
        go_wp2_with fail
        go_round
        case rel =>
          refine ⟨j + 1, by omega, by go_num, fun m hm => ?_⟩
          by_cases e : m = j
          · subst e; rw [hX.out]; simpa using t1
          · exact HN.out m (by omega)
        case measure => simp [intOf]; omega
    · obtain rfl : j = xs.length := by omega
      go_wp2_with fail
      go_ret
      refine ⟨?_, SameW.rfl' _⟩
      rw [hy.out, decide_eq_false]
      · rfl
      intro h
      obtain ⟨m, hm, e⟩ := List.getElem_of_mem h
      exact HN.out m hm (by simp [List.getD_eq_getElem?_getD, hm, e])

/-- a node as a value: its fields, its lists -/
structure NV (D : Nat → Prop) (w : World) (v : Value) (nd : GN) (vr vd : Value) : Prop where
  v : v = .agg #[.int .i64 nd.id, .int .i64 nd.cls, vr, vd, .bool nd.fin]
  refs : SeesI D w vr nd.refs
  data : SeesI D w vd nd.data

theorem NV.keep {D S : Nat → Prop} {w w' : World} {v : Value} {nd : GN} {vr vd : Value} (h : NV D w v nd vr vd) (c : Ch S w w') (hd : ∀ k, D k → ¬ S k) : NV D w' v nd vr vd := ⟨h.v, h.refs.keep c hd, h.data.keep c hd⟩

set_option maxRecDepth 100000 in
set_option maxHeartbeats 4000000 in
theorem rsame_any (D E : Nat → Prop) (u v : Value) (a b : GN) (ar ad br bd : Value) (w : World) (hu : NV D w u a ar ad) (hv : NV E w v b br bd) :
    Calls Try.prog 39 #[u, v] w fun e w' => e = .returned (.bool (decide (a = b))) ∧ Ch0 w w' := by
  obtain ⟨rfl, hu1, hu2⟩ := hu
  obtain ⟨rfl, hv1, hv2⟩ := hv
  obtain ⟨ai, ac, al, am, af⟩ := a
  obtain ⟨bi, bc, bl, bm, bf⟩ := b
  simp only at hu1 hu2 hv1 hv2 ⊢
  obtain ⟨a1, c1, rfl, l1⟩ := hu1.len
  obtain ⟨a2, c2, rfl, l2⟩ := hu2.len
  obtain ⟨a3, c3, rfl, l3⟩ := hv1.len
  obtain ⟨a4, c4, rfl, l4⟩ := hv2.len
  have cA : Ch0 w ((w.alloc (.cells #[.int .i64 ai, .int .i64 ac, .slice a1 al.length c1, .slice a2 am.length c2, .bool af] 36)).alloc (.cells #[.int .i64 bi, .int .i64 bc, .slice a3 bl.length c3, .slice a4 bm.length c4, .bool bf] 36)) := ((Ch.refl _ _).alloc _).alloc _
  have B2 := heap_alloc_new (w.alloc (.cells #[.int .i64 ai, .int .i64 ac, .slice a1 al.length c1, .slice a2 am.length c2, .bool af] 36)) (.cells #[.int .i64 bi, .int .i64 bc, .slice a3 bl.length c3, .slice a4 bm.length c4, .bool bf] 36)
  have B1 := ((Ch.refl (fun _ => False) _).alloc (.cells #[.int .i64 bi, .int .i64 bc, .slice a3 bl.length c3, .slice a4 bm.length c4, .bool bf] 36)).keep (heap_alloc_new w (.cells #[.int .i64 ai, .int .i64 ac, .slice a1 al.length c1, .slice a2 am.length c2, .bool af] 36)) (fun e => e)
  rw [World.size_alloc] at B2
  obtain ⟨y, hy⟩ : ∃ y : Bool, y = decide ((⟨ai, ac, al, am, af⟩ : GN) = ⟨bi, bc, bl, bm, bf⟩) := ⟨_, rfl⟩
  rw [← hy]
  have hno : ¬ (ai = bi ∧ ac = bc ∧ al = bl ∧ am = bm ∧ af = bf) → y = false := fun h => by
    rw [hy]; apply decide_eq_false
    intro e; cases e; exact h ⟨rfl, rfl, rfl, rfl, rfl⟩
  have hye : (ai = bi ∧ ac = bc ∧ al = bl ∧ am = bm ∧ af = bf) → y = true := by
    rintro ⟨rfl, rfl, rfl, rfl, rfl⟩; rw [hy]; exact decide_eq_true rfl
  replace hno := Lib.hid hno
  replace hye := Lib.hid hye
  replace cA := Lib.hid cA
  replace B1 := Lib.hid B1
  replace B2 := Lib.hid B2
  clear hy
  by_cases q1 : ai = bi
  case neg =>
    have t1 : (ai != bi) = true := by simpa using q1
    have hyf := Lib.hid (hno.out (fun h => q1 h.1))
    clear q1 hno hye hu1 hu2 hv1 hv2 B1 B2
    go_enter Try.func39, Try.ntmps39
    go_wp2_with fail
    go_ret
    exact ⟨by rw [hyf.out]; rfl, cA.out⟩
  subst q1
  have t1 : (ai != ai) = false := by simp
  by_cases q2 : ac = bc
  case neg =>
    have t2 : (ac != bc) = true := by simpa using q2
    have hyf := Lib.hid (hno.out (fun h => q2 h.2.1))
    clear q2 hno hye hu1 hu2 hv1 hv2 B1 B2
    go_enter Try.func39, Try.ntmps39
    go_wp2_with fail
    go_ret
    exact ⟨by rw [hyf.out]; rfl, cA.out⟩
  subst q2
  have t2 : (ac != ac) = false := by simp
  by_cases q3 : af = bf
  case neg =>
    have hyf := Lib.hid (hno.out (fun h => q3 h.2.2.2.2))
    clear hno hye hu1 hu2 hv1 hv2 B1 B2
    cases af <;> cases bf <;> first | exact absurd rfl q3 | skip
    all_goals
      clear q3
      go_enter Try.func39, Try.ntmps39
      go_wp2_with fail
      go_ret
      exact ⟨by rw [hyf.out]; rfl, cA.out⟩
  subst q3
  have hye2 : Hid (al = bl → am = bm → y = true) := Lib.hid (fun e1 e2 => hye.out ⟨rfl, rfl, e1, e2, rfl⟩)
  clear hye
  have t3 : (af != af) = false := by simp
  by_cases q4 : al.length = bl.length
  case neg =>
    have t4 : ((al.length : Int) != (bl.length : Int)) = true := bne_iff_ne.2 (by omega)
    have hyf := Lib.hid (hno.out (fun h => q4 (by rw [h.2.2.1])))
    clear q4 hno hye2 hu1 hu2 hv1 hv2 B1 B2
    go_enter Try.func39, Try.ntmps39
    go_wp2_with fail
    go_ret
    exact ⟨by rw [hyf.out]; rfl, cA.out⟩
  have t4 : ((al.length : Int) != (bl.length : Int)) = false := by rw [q4]; simp
  by_cases q5 : am.length = bm.length
  case neg =>
    have t5 : ((am.length : Int) != (bm.length : Int)) = true := bne_iff_ne.2 (by omega)
    have hyf := Lib.hid (hno.out (fun h => q5 (by rw [h.2.2.2.1])))
    clear q4 q5 hno hye2 hu1 hu2 hv1 hv2 B1 B2
    go_enter Try.func39, Try.ntmps39
    go_wp2_with fail
    go_ret
    exact ⟨by rw [hyf.out]; rfl, cA.out⟩
  have t5 : ((am.length : Int) != (bm.length : Int)) = false := by rw [q5]; simp
  obtain ⟨n1, hn1⟩ : ∃ n1, n1 = bl.length := ⟨_, rfl⟩
  obtain ⟨n2, hn2⟩ : ∃ n2, n2 = bm.length := ⟨_, rfl⟩
  rw [← hn1] at B1 B2 cA t4 hv1 ⊢
  rw [← hn2] at B1 B2 cA t5 hv2 ⊢
  have HU1 := Lib.hid (hu1.keep cA.out (fun _ _ e => e))
  have HU2 := Lib.hid (hu2.keep cA.out (fun _ _ e => e))
  have HV1 := Lib.hid (hv1.keep cA.out (fun _ _ e => e))
  have HV2 := Lib.hid (hv2.keep cA.out (fun _ _ e => e))
  replace hn1 := Lib.hid hn1
  replace hn2 := Lib.hid hn2
  have Q4 := Lib.hid q4
  have Q5 := Lib.hid q5
  clear hu1 hu2 hv1 hv2 q4 q5
  go_enter Try.func39, Try.ntmps39
  go_wp2_with fail
  generalize hB : w.heap.size = B at *
  clear hB
  generalize ((w.alloc (.cells #[.int .i64 ai, .int .i64 ac, .slice a1 al.length c1, .slice a2 am.length c2, .bool af] 36)).alloc (.cells #[.int .i64 ai, .int .i64 ac, .slice a3 n1 c3, .slice a4 n2 c4, .bool af] 36)) = W at *
  clear t1 t2 t3 t4 t5
  go_loopw [47] (fun i wr => ∃ j : Nat, j ≤ al.length ∧ i = .int .i64 j ∧ (∀ m, m < j → al.getD m 0 = bl.getD m 0) ∧ ∃ n, wr = W.drewN n) (fun i _ => al.length - (intOf i).toNat)
  case atStart => exact ⟨0, Nat.zero_le _, rfl, fun m hm => by omega, 0, rfl⟩
  case round =>
    obtain ⟨j, hj, rfl, heq, nq, rfl⟩ := hrel
    have x2 : W.cell? ⟨B, 2, none⟩ = some (.slice a1 al.length c1) := cell_of_row _ B 2 _ _ _ B1.out
    have x3 : W.cell? ⟨B, 3, none⟩ = some (.slice a2 am.length c2) := cell_of_row _ B 3 _ _ _ B1.out
    have z2 : W.cell? ⟨B + 1, 2, none⟩ = some (.slice a3 n1 c3) := cell_of_row _ (B + 1) 2 _ _ _ B2.out
    have z3 : W.cell? ⟨B + 1, 3, none⟩ = some (.slice a4 n2 c4) := cell_of_row _ (B + 1) 3 _ _ _ B2.out
    have HE := Lib.hid heq
    clear heq
    by_cases hlt : j < al.length
    · obtain ⟨g, o, c', -, e1, hc1⟩ := SeesI.cell HU1.out (by omega)
      have hlt' : j < bl.length := by rw [← Q4.out]; exact hlt
      have hv1' := HV1.out
      rw [hn1.out] at hv1'
      obtain ⟨g', o', c'', -, e2, hc2⟩ := SeesI.cell hv1' (by omega)
      obtain ⟨rfl, rfl⟩ : a1 = some ⟨g, o, none⟩ ∧ c1 = c' := by simpa using e1
      obtain ⟨rfl, rfl⟩ : a3 = some ⟨g', o', none⟩ ∧ c3 = c'' := by simpa using e2
      have h1 : W.cell? ⟨g, o + j, none⟩ = some (.int .i64 (al.getD j 0)) := hc1 j hlt
      have h2 : W.cell? ⟨g', o' + j, none⟩ = some (.int .i64 (bl.getD j 0)) := hc2 j hlt'
      clear e1 e2 hc1 hc2 hv1'
      have i1 : (0 : Int) ≤ j := by omega
      have i2 : (j : Int) < al.length := by omega
      have i3 : (j : Int) < n1 := by rw [hn1.out]; omega
      by_cases hxy : al.getD j 0 = bl.getD j 0
      · have HX : Hid (∀ m, m < j + 1 → al.getD m 0 = bl.getD m 0) := Lib.hid (fun m hm => by
          by_cases e : m = j
          · subst e; exact hxy
          · exact HE.out m (by omega))
        have t1 : (al.getD j 0 != bl.getD j 0) = false := by simpa using hxy
        generalize al.getD j 0 = X at *
        generalize bl.getD j 0 = Y at *
        clear hxy
        go_wp2_with fail
        go_quiet (fail)
        go_wp2_with fail
        go_roundw
        case rel =>
          exact ⟨j + 1, by omega, by go_num, HX.out, _, by first | rfl | exact World.drewN_drewN _ _ _⟩
        case measure => simp [intOf]; omega
      · have t1 : (al.getD j 0 != bl.getD j 0) = true := by simpa using hxy
        have hyf := Lib.hid (hno.out (fun h => hxy (by rw [h.2.2.1])))
        generalize al.getD j 0 = X at *
        generalize bl.getD j 0 = Y at *
        clear hxy
        go_wp2_with fail
        go_quiet (fail)
        go_wp2_with fail
        go_ret
        exact ⟨by rw [hyf.out]; rfl, (cA.out.drewN _).drewN _⟩
    · obtain rfl : j = al.length := by omega
      have hbl : bl.length = al.length := Q4.out.symm
      have hal := Lib.hid (ext_getD Q4.out HE.out)
      clear HE hbl hlt
      go_wp2_with fail
      go_loopw [65] (fun i wr => ∃ j : Nat, j ≤ am.length ∧ i = .int .i64 j ∧ (∀ m, m < j → am.getD m 0 = bm.getD m 0) ∧ ∃ n, wr = W.drewN n) (fun i _ => am.length - (intOf i).toNat)
      case atStart => exact ⟨0, Nat.zero_le _, rfl, fun m hm => by omega, nq, rfl⟩
      case round =>
        obtain ⟨j, hj, rfl, heq, nq2, rfl⟩ := hrel
        clear x2 x3 z2 z3
        have x3 : W.cell? ⟨B, 3, none⟩ = some (.slice a2 am.length c2) := cell_of_row _ B 3 _ _ _ B1.out
        have z3 : W.cell? ⟨B + 1, 3, none⟩ = some (.slice a4 n2 c4) := cell_of_row _ (B + 1) 3 _ _ _ B2.out
        have HE := Lib.hid heq
        clear heq
        by_cases hlt : j < am.length
        · obtain ⟨g, o, c', -, e1, hc1⟩ := SeesI.cell HU2.out (by omega)
          have hlt' : j < bm.length := by rw [← Q5.out]; exact hlt
          have hv2' := HV2.out
          rw [hn2.out] at hv2'
          obtain ⟨g', o', c'', -, e2, hc2⟩ := SeesI.cell hv2' (by omega)
          obtain ⟨rfl, rfl⟩ : a2 = some ⟨g, o, none⟩ ∧ c2 = c' := by simpa using e1
          obtain ⟨rfl, rfl⟩ : a4 = some ⟨g', o', none⟩ ∧ c4 = c'' := by simpa using e2
          have h1 : W.cell? ⟨g, o + j, none⟩ = some (.int .i64 (am.getD j 0)) := hc1 j hlt
          have h2 : W.cell? ⟨g', o' + j, none⟩ = some (.int .i64 (bm.getD j 0)) := hc2 j hlt'
          clear e1 e2 hc1 hc2 hv2'
          have i1 : (0 : Int) ≤ j := by omega
          have i2 : (j : Int) < am.length := by omega
          have i3 : (j : Int) < n2 := by rw [hn2.out]; omega
          by_cases hxy : am.getD j 0 = bm.getD j 0
          · have HX : Hid (∀ m, m < j + 1 → am.getD m 0 = bm.getD m 0) := Lib.hid (fun m hm => by
              by_cases e : m = j
              · subst e; exact hxy
              · exact HE.out m (by omega))
            have t1 : (am.getD j 0 != bm.getD j 0) = false := by simpa using hxy
            generalize am.getD j 0 = X at *
            generalize bm.getD j 0 = Y at *
            clear hxy
            go_wp2_with fail
            go_quiet (fail)
            go_wp2_with fail
            go_roundw
            case rel => exact ⟨j + 1, by omega, by go_num, HX.out, _, by first | rfl | exact World.drewN_drewN _ _ _⟩
            case measure => simp [intOf]; omega
          · have t1 : (am.getD j 0 != bm.getD j 0) = true := by simpa using hxy
            have hyf := Lib.hid (hno.out (fun h => hxy (by rw [h.2.2.2.1])))
            generalize am.getD j 0 = X at *
            generalize bm.getD j 0 = Y at *
            clear hxy
            go_wp2_with fail
            go_quiet (fail)
            go_wp2_with fail
            go_ret
            exact ⟨by rw [hyf.out]; rfl, (cA.out.drewN _).drewN _⟩
        · obtain rfl : j = am.length := by omega
          have hyt := Lib.hid (hye2.out hal.out (ext_getD Q5.out HE.out))
          clear HE hlt
          go_wp2_with fail
          go_ret
          exact ⟨by rw [hyt.out]; rfl, cA.out.drewN _⟩

end Go.Proofs.Ytlmeponoadhheaa
