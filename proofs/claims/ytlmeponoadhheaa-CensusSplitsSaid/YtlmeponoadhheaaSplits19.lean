/-
  CensusSplits: the walk.
-/
import Derived.Test.YtlmeponoadhheaaSplits
namespace Go.Proofs.Ytlmeponoadhheaa
set_option linter.unusedVariables false
open Go.RowKit

/-- a list of names, its block behind B -/
def NamesAt (w : World) (B : Nat) (v : Value) (xs : List Int) : Prop := RowAt w 3 1 v xs.length (xs.map (Value.int .i64)) ∧ ∀ k, rblk v = some k → B ≤ k

theorem NamesAt.keep {w w' : World} {B : Nat} {v : Value} {xs : List Int} (h : NamesAt w B v xs) (c : Ch0 w w') : NamesAt w' B v xs := ⟨h.1.keep c (fun _ _ e => e), h.2⟩

theorem NamesAt.add {w : World} {B : Nat} {v : Value} {xs : List Int} (h : NamesAt w B v xs) (hB : B ≤ w.heap.size) (hl : xs.length ≤ 1000) (x : Int) : ∃ a' c' w', (Builtin.append_ #[34, 34] 34 #[v, .slice (some ⟨w.heap.size, 0, none⟩) 1 1]).run Try.prog (w.alloc (.cells #[.int .i64 x] 3)) = .ok (.slice a' (xs.length + 1) c') w' ∧
    NamesAt w' B (.slice a' (xs.length + 1) c') (xs ++ [x]) ∧ Ch (fun k => rblk v = some k) w w' ∧ (rblk (.slice a' (xs.length + 1) c') = rblk v ∨ ∀ k, rblk (.slice a' (xs.length + 1) c') = some k → w.heap.size ≤ k) := by
  have cX : Ch0 w (w.alloc (.cells #[.int .i64 x] 3)) := (Ch.refl _ _).alloc _
  obtain ⟨a4, c4, w4, hrun, r4, d4, b4⟩ := run_int (h.1.keep cX (fun _ _ e => e)) (by omega) w.heap.size x (heap_alloc_new w _) 34
  refine ⟨a4, c4, w4, hrun, ⟨by rw [List.length_append]; exact r4, fun k hk => ?_⟩, (cX.mono (fun _ _ e => e.elim)).trans' d4 (fun _ _ e => e) (fun _ _ e => e), ?_⟩
  · rcases b4 with e | e
    · rw [e] at hk; exact h.2 k hk
    · rw [e] at hk; cases hk; rw [World.size_alloc]; omega
  · rcases b4 with e | e
    · exact .inl e
    · exact .inr (fun k hk => by rw [e] at hk; cases hk; rw [World.size_alloc]; omega)

theorem sees_b {D : Nat → Prop} {w : World} {v : Value} {ks : List Bool} (h : Sees D w v 1 ks.length (ks.map Value.bool)) (hp : 0 < ks.length) :
    ∃ g o c, D g ∧ v = .slice (some ⟨g, o, none⟩) ks.length c ∧ ∀ j, j < ks.length → w.cell? ⟨g, o + j, none⟩ = some (.bool (ks.getD j false)) := by
  obtain ⟨h0, a, c, hv, hn, hm, hl⟩ := h
  rcases hl with hl | ⟨g, o, hg, rfl, hi⟩
  · omega
  · refine ⟨g, o, c, hg, hv, fun j hj => hi j _ ?_⟩
    simp [List.getD_eq_getElem?_getD, hj]

set_option maxRecDepth 100000 in
set_option maxHeartbeats 4000000 in
theorem splits19_walk (cs : List Cls) (ns : List Int) (ks : List Bool) (cv nv kv : Value) (w : World) (hs : SeesN (fun k => k < w.heap.size) w cv nv cs ns) (hf : Fit cs) (hk : Sees (fun k => k < w.heap.size) w kv 1 ks.length (ks.map Value.bool)) :
    Calls Try.prog 27 #[cv, nv, kv] w fun e w' => e = .returned (.bool true) ∧ Ch0 w w' := by
  have HM : Hid (∀ w', Ch0 w w' → _) := Lib.hid (fun w' (c : Ch0 w w') => mad_at2 hs hf w' c)
  have hnf := Lib.hid (u8_le hs.nf)
  have HK := Lib.hid hk
  obtain ⟨ca, cc, rfl, -⟩ := hs.c.len
  obtain ⟨na, nc, rfl, -⟩ := hs.n.len
  obtain ⟨ka, kc, rfl, -⟩ := hk.len
  clear hs hf hk
  go_enter Try.func27, Try.ntmps27
  go_wp2_with fail
  refine (HM.out w (Ch.refl _ _)).mono ?_
  rintro e w1 ⟨c1, h1⟩
  have H2 := HM.out w1 c1
  by_cases hB : madB cs ns = true
  case neg =>
    have hBf : madB cs ns = false := by simpa using hB
    rcases h1 with ⟨-, rfl⟩ | ⟨h, -⟩
    case inr => rw [hBf] at h; cases h
    replace c1 := Lib.hid c1
    clear hB
    go_wp2_with fail
    refine H2.mono ?_
    rintro e w2 ⟨d2, ⟨-, rfl⟩ | ⟨h, -⟩⟩
    case inr => rw [hBf] at h; cases h
    have c2 := Lib.hid (c1.out.trans d2)
    have H3 := HM.out w2 c2.out
    clear H2 d2 c1
    go_wp2_with fail
    refine H3.mono ?_
    rintro e w3 ⟨d3, ⟨-, rfl⟩ | ⟨h, -⟩⟩
    case inr => rw [hBf] at h; cases h
    have c3 := Lib.hid (c2.out.trans d3)
    clear H3 d3 c2 HM
    go_wp2_with fail
    refine (awake_at w3 c3.out).mono ?_
    rintro e w4 ⟨rfl, c4⟩
    replace c4 := Lib.hid c4
    go_wp2_with fail
    refine (awake_at w4 c4.out).mono ?_
    rintro e w5 ⟨rfl, c5⟩
    replace c5 := Lib.hid c5
    go_wp2_with fail
    go_ret
    exact ⟨rfl, c5.out⟩
  rcases h1 with ⟨h, -⟩ | ⟨-, a1, a2, pa, la, ha, Oa, rfl, Ga, fa, -⟩
  · rw [hB] at h; cases h
  obtain ⟨hn60, hcs0, hcs63, hal⟩ := mad_ok hB
  have hid := graphC_ids hcs0 hnf.out
  have hlen := graphC_len hcs0 hnf.out
  have hfa1 : Hid (∀ k, Oa k → k < w1.heap.size) := Lib.hid (fun k h => Ga.g.small k h)
  have hha : Hid (ha ≤ w1.heap.size) := Lib.hid Ga.hiw
  replace c1 := Lib.hid c1
  replace Ga := Lib.hid Ga
  clear fa
  go_wp2_with fail
  refine H2.mono ?_
  rintro e w2 ⟨d2, ⟨h, -⟩ | ⟨-, b1, b2, pb, lb, hb, Ob, rfl, Gb, fb, -⟩⟩
  · rw [hB] at h; cases h
  have c2 := Lib.hid (c1.out.trans d2)
  have Ga2 := Lib.hid (Ga.out.new d2)
  have hfb1 : Hid (∀ k, Ob k → k < w2.heap.size ∧ w1.heap.size ≤ k) := Lib.hid (fun k h => ⟨Gb.g.small k h, fb k h⟩)
  have hhb : Hid (hb ≤ w2.heap.size) := Lib.hid Gb.hiw
  have H3 := HM.out w2 c2.out
  replace Gb := Lib.hid Gb
  clear H2 d2 fb Ga
  go_wp2_with fail
  refine H3.mono ?_
  rintro e w3 ⟨d3, ⟨h, -⟩ | ⟨-, e1, e2, pc, lc, hc, Oc, rfl, Gc, fc, hlc⟩⟩
  · rw [hB] at h; cases h
  have c3 := Lib.hid (c2.out.trans d3)
  have Ga3 := Lib.hid (Ga2.out.new d3)
  have Gb3 := Lib.hid (Gb.out.new d3)
  have dAB : Hid (∀ k, Oa k → ¬ Ob k) := Lib.hid (fun k h1 h2 => by have := hfa1.out k h1; have := (hfb1.out k h2).2; omega)
  have dAC : Hid (∀ k, Oa k → ¬ Oc k) := Lib.hid (fun k h1 h2 => by have := hfa1.out k h1; have := fc k h2; have := (hfb1.out); have := d3.size; have := c1.out.size; have := Ga2.out.g.small k h1; omega)
  have dBC : Hid (∀ k, Ob k → ¬ Oc k) := Lib.hid (fun k h1 h2 => by have := (hfb1.out k h1).1; have := fc k h2; omega)
  have tAB : Hid (∀ k, la ≤ k → k < ha → ¬ Ob k) := Lib.hid (fun k _ h1 h2 => by have := hha.out; have := (hfb1.out k h2).2; omega)
  have tAC : Hid (∀ k, la ≤ k → k < ha → ¬ Oc k) := Lib.hid (fun k _ h1 h2 => by have := Ga2.out.hiw; have := fc k h2; omega)
  have tBC : Hid (∀ k, lb ≤ k → k < hb → ¬ Oc k) := Lib.hid (fun k _ h1 h2 => by have := hhb.out; have := fc k h2; omega)
  have tCB : Hid (∀ k, lc ≤ k → k < hc → ¬ Ob k) := Lib.hid (fun k h0 _ h2 => by have := (hfb1.out k h2).1; omega)
  have hOb : Hid (∀ k, Ob k → w.heap.size ≤ k) := Lib.hid (fun k h => by have := (hfb1.out k h).2; have := c1.out.size; omega)
  have hOc : Hid (∀ k, Oc k → w.heap.size ≤ k) := Lib.hid (fun k h => by have := fc k h; have := c2.out.size; omega)
  have Gc3 := Lib.hid Gc
  have hpart : Hid (∀ nd ∈ graphC cs ns, (nd.id ∈ namesB ks true ns.length ↔ nd.id ∉ namesB ks false ns.length)) := Lib.hid (fun nd hnd => names_part (by rw [← hid]; exact mem_ids.2 ⟨nd, hnd, rfl⟩))
  generalize graphC cs ns = L at *
  clear H3 d3 fc hlc Ga2 Gb Gc HM hfa1 hfb1 hha hhb c1 c2 hid
  replace hlen := Lib.hid hlen
  go_wp2_with fail
  refine (awake19 w3).mono ?_
  rintro e w4 ⟨rfl, d4⟩
  have c4 := Lib.hid (c3.out.trans d4)
  have Ga4 := Lib.hid (Ga3.out.new d4)
  have Gb4 := Lib.hid (Gb3.out.new d4)
  have Gc4 := Lib.hid (Gc3.out.new d4)
  clear Ga3 Gb3 Gc3 c3 d4
  by_cases h60 : ks.length ≤ 60
  case neg =>
    have g1 : decide ((60 : Int) < ks.length) = true := decide_eq_true (by omega)
    clear h60 Ga4 Gb4 Gc4
    go_wp2_with fail
    refine (awake_at w4 c4.out).mono ?_
    rintro e w5 ⟨rfl, c5⟩
    replace c5 := Lib.hid c5
    go_wp2_with fail
    go_ret
    exact ⟨rfl, c5.out⟩
  have g1 : decide ((60 : Int) < ks.length) = false := decide_eq_false (by omega)
  go_wp2_with fail
  clear g1
  have hSt : Hid (∀ v : Value, v = .slice none 0 0 → NamesAt w4 w4.heap.size v []) := Lib.hid (fun v e => by subst e; exact ⟨RowAt.nil, fun k hk => by cases hk⟩)
  go_loopw [16, 17, 58] (fun s o i wr => ∃ j : Nat, j ≤ ns.length ∧ i = .int .i64 j ∧ NamesAt wr w4.heap.size s (namesB ks true j) ∧ NamesAt wr w4.heap.size o (namesB ks false j) ∧ (∀ k, rblk s = some k → rblk o ≠ some k) ∧ Ch0 w4 wr) (fun _ _ i _ => ns.length - (intOf i).toNat)
  case atStart => exact ⟨0, Nat.zero_le _, rfl, hSt.out _ rfl, hSt.out _ rfl, (fun k hk => by cases hk), Ch.refl _ _⟩
  case round =>
    obtain ⟨j, hj, rfl, hs, ho, hso, d⟩ := hrel
    clear hSt
    obtain ⟨sa, sc, es, -, -⟩ := hs.1.isSlice
    obtain ⟨oa, oc, eo, -, -⟩ := ho.1.isSlice
    have hls := namesB_len ks true j
    have hlo := namesB_len ks false j
    subst es
    subst eo
    by_cases hlt : j < ns.length
    · have i1 : (0 : Int) ≤ j := by omega
      have i2 : (j : Int) < ns.length := by omega
      have t1 : IntKind.i64.wrap ((j : Int) + 1) = (j : Int) + 1 := IntWalk.i64_in _ (by omega)
      have hn1 := namesB_succ ks true j
      have hn2 := namesB_succ ks false j
      have hcase : (∃ g o, ka = some ⟨g, o, none⟩ ∧ decide (j < ks.length) = true ∧ (j : Int) < ks.length ∧ ks.getD j false = true ∧ wr.cell? ⟨g, o + j, none⟩ = some (.bool true)) ∨ (∃ g o, ka = some ⟨g, o, none⟩ ∧ decide (j < ks.length) = true ∧ (j : Int) < ks.length ∧ ks.getD j false = false ∧ wr.cell? ⟨g, o + j, none⟩ = some (.bool false)) ∨ (decide (j < ks.length) = false ∧ ks.getD j false = false) := by
        by_cases hjk : j < ks.length
        · obtain ⟨g, o, c', -, e2, hcell⟩ := sees_b ((HK.out.keep (c4.out.trans d) (fun _ _ e => e))) (by omega)
          obtain ⟨rfl, rfl⟩ : ka = some ⟨g, o, none⟩ ∧ kc = c' := by simpa using e2
          have hx := hcell j hjk
          cases hb : ks.getD j false with
          | true => rw [hb] at hx; exact .inl ⟨g, o, rfl, decide_eq_true hjk, by omega, rfl, hx⟩
          | false => rw [hb] at hx; exact .inr (.inl ⟨g, o, rfl, decide_eq_true hjk, by omega, rfl, hx⟩)
        · exact .inr (.inr ⟨decide_eq_false hjk, by rw [List.getD_eq_getElem?_getD, List.getElem?_eq_none (by omega)]; rfl⟩)
      have hBs : w4.heap.size ≤ wr.heap.size := d.size
      have hYes : ks.getD j false = true → ∃ a' c' w', (Builtin.append_ #[34, 34] 34 #[.slice sa (namesB ks true j).length sc, .slice (some ⟨wr.heap.size, 0, none⟩) 1 1]).run Try.prog (wr.alloc (.cells #[.int .i64 ((j : Int) + 1)] 3)) = .ok (.slice a' ((namesB ks true j).length + 1) c') w' ∧
          Hid (NamesAt w' w4.heap.size (.slice a' ((namesB ks true j).length + 1) c') (namesB ks true (j + 1)) ∧ NamesAt w' w4.heap.size (.slice oa (namesB ks false j).length oc) (namesB ks false (j + 1)) ∧ (∀ k, rblk (.slice a' ((namesB ks true j).length + 1) c') = some k → rblk (.slice oa (namesB ks false j).length oc) ≠ some k) ∧ Ch0 w4 w') := fun hb => by
        obtain ⟨a', c', w', hrun, hN, hC, hbk⟩ := hs.add hBs (by omega) ((j : Int) + 1)
        rw [hb] at hn1 hn2
        simp only [beq_self_eq_true, if_true, Bool.true_beq, Bool.false_eq_true, if_false, List.append_nil] at hn1 hn2
        refine ⟨a', c', w', hrun, Lib.hid ⟨by rw [hn1]; exact hN, by rw [hn2]; exact ⟨ho.1.keep hC (fun k h1 h2 => hso k h2 h1), ho.2⟩, fun k h1 h2 => ?_, d.trans' hC (fun _ _ e => e) (fun k hk e => by have := hs.2 k e; omega)⟩⟩
        rcases hbk with e | e
        · rw [e] at h1; exact hso k h1 h2
        · have := e k h1; have := ho.1.lt h2; omega
      have hNo : ks.getD j false = false → ∃ a' c' w', (Builtin.append_ #[34, 34] 34 #[.slice oa (namesB ks false j).length oc, .slice (some ⟨wr.heap.size, 0, none⟩) 1 1]).run Try.prog (wr.alloc (.cells #[.int .i64 ((j : Int) + 1)] 3)) = .ok (.slice a' ((namesB ks false j).length + 1) c') w' ∧
          Hid (NamesAt w' w4.heap.size (.slice sa (namesB ks true j).length sc) (namesB ks true (j + 1)) ∧ NamesAt w' w4.heap.size (.slice a' ((namesB ks false j).length + 1) c') (namesB ks false (j + 1)) ∧ (∀ k, rblk (.slice sa (namesB ks true j).length sc) = some k → rblk (.slice a' ((namesB ks false j).length + 1) c') ≠ some k) ∧ Ch0 w4 w') := fun hb => by
        obtain ⟨a', c', w', hrun, hN, hC, hbk⟩ := ho.add hBs (by omega) ((j : Int) + 1)
        rw [hb] at hn1 hn2
        simp only [beq_self_eq_true, if_true, Bool.false_beq, Bool.not_true, Bool.false_eq_true, if_false, List.append_nil] at hn1 hn2
        refine ⟨a', c', w', hrun, Lib.hid ⟨by rw [hn1]; exact ⟨hs.1.keep hC (fun k h1 h2 => hso k h1 h2), hs.2⟩, by rw [hn2]; exact hN, fun k h1 h2 => ?_, d.trans' hC (fun _ _ e => e) (fun k hk e => by have := ho.2 k e; omega)⟩⟩
        rcases hbk with e | e
        · rw [e] at h2; exact hso k h1 h2
        · have := e k h2; have := hs.1.lt h1; omega
      clear hs ho hso d hls hlo hn1 hn2
      generalize namesB ks true j = nS at *
      generalize namesB ks false j = nO at *
      rcases hcase with ⟨g, o, rfl, g1, g2, hb, hx⟩ | ⟨g, o, rfl, g1, g2, hb, hx⟩ | ⟨g1, hb⟩
      · obtain ⟨a', c', w', hrun, HE⟩ := hYes hb
        clear hYes hNo hb
        go_wp2_with (at_builtin; refine wpList_append_run rfl _ _ 34 34 rfl rfl rfl hrun ?_)
        go_roundw
        case rel => exact ⟨j + 1, by omega, by go_num, HE.out.1, HE.out.2.1, HE.out.2.2.1, HE.out.2.2.2⟩
        case measure => simp [intOf]; omega
      · obtain ⟨a', c', w', hrun, HE⟩ := hNo hb
        clear hYes hNo hb
        go_wp2_with (at_builtin; refine wpList_append_run rfl _ _ 34 34 rfl rfl rfl hrun ?_)
        go_roundw
        case rel => exact ⟨j + 1, by omega, by go_num, HE.out.1, HE.out.2.1, HE.out.2.2.1, HE.out.2.2.2⟩
        case measure => simp [intOf]; omega
      · obtain ⟨a', c', w', hrun, HE⟩ := hNo hb
        clear hYes hNo hb
        go_wp2_with (at_builtin; refine wpList_append_run rfl _ _ 34 34 rfl rfl rfl hrun ?_)
        go_roundw
        case rel => exact ⟨j + 1, by omega, by go_num, HE.out.1, HE.out.2.1, HE.out.2.2.1, HE.out.2.2.2⟩
        case measure => simp [intOf]; omega
    · have hjn : j = ns.length := by omega
      have i2 : (ns.length : Int) ≤ j := by omega
      rw [← hjn] at hpart
      have c5 := Lib.hid (c4.out.trans d)
      have Ga5 := Lib.hid (Ga4.out.new d)
      have Gb5 := Lib.hid (Gb4.out.new d)
      have Gc5 := Lib.hid (Gc4.out.new d)
      have h1 := keep_of Gb5.out (by have := hlen.out; omega) _ _ (namesB ks true j) hs.1.sees
      have hob : Hid (∀ k, rblk (.slice oa (namesB ks false j).length oc) = some k → ¬ Ob k) := Lib.hid (fun k h1 h2 => by have := ho.2 k h1; have := Gb4.out.g.small k h2; omega)
      have HO := Lib.hid ho.1
      replace hjn := Lib.hid hjn
      clear hs ho hso d hls Ga4 Gb4 Gc4 c4
      generalize hA : namesB ks true j = NA at *
      generalize hB' : namesB ks false j = NB at *
      clear hA hB'
      go_wp2_with fail
      refine h1.mono ?_
      rintro e w6 ⟨rfl, Gb6, t6⟩
      have c6 := Lib.hid (c5.out.trans' t6.1 (fun _ _ e => e) (fun k hk e => by have := hOb.out k e; omega))
      have Ga6 := Lib.hid (Ga5.out.keep t6.1 dAB.out tAB.out)
      have Gc6 := Lib.hid (Gc5.out.keep t6.1 (fun k h1 h2 => dBC.out k h2 h1) tCB.out)
      have HO6 := HO.out.keep t6.1 hob.out
      have h2 := keep_of Gc6.out (by have := hlen.out; omega) _ _ NB HO6.sees
      replace Gb6 := Lib.hid Gb6
      clear h1 t6 c5 Ga5 Gb5 Gc5 HO HO6
      go_wp2_with fail
      refine h2.mono ?_
      rintro e w7 ⟨rfl, Gc7, t7⟩
      have c7 := Lib.hid (c6.out.trans' t7.1 (fun _ _ e => e) (fun k hk e => by have := hOc.out k e; omega))
      have Ga7 := Lib.hid (Ga6.out.keep t7.1 dAC.out tAC.out)
      have Gb7 := Lib.hid (Gb6.out.keep t7.1 dBC.out tBC.out)
      have hL60 : L.length ≤ 60 := by have := hlen.out; omega
      have hkl : ∀ K, (keepL L K).length ≤ 60 := fun K => by
        rw [keepL_length]
        unfold keepN
        have := List.length_filter_le (fun nd : GN => decide (nd.id ∈ K)) L
        omega
      replace hkl := Lib.hid hkl
      have h3 := cof_of Ga7.out (by omega)
      replace Gc7 := Lib.hid Gc7
      clear h2 t7 c6 Ga6 Gc6 Gb6
      go_wp2_with fail
      refine h3.mono ?_
      rintro e w8 ⟨v8, X, rfl, hX, hr8, hl8, d8⟩
      have c8 := Lib.hid (c7.out.trans d8)
      have Ga8 := Lib.hid (Ga7.out.new d8)
      have Gb8 := Lib.hid (Gb7.out.new d8)
      have hw8 := Lib.hid c8.out.size
      have hGs := Lib.hid (fun k (h : Oa k) => Ga8.out.g.small k h)
      have hGh := Lib.hid Ga8.out.hiw
      have Gc8 := Lib.hid (Gc7.out.new d8)
      have FX := Lib.hid (few_of_rows Ga8.out.wf (by omega) hX (by omega))
      have hlX : X.length ≤ 60 := by omega
      have SX := Lib.hid hr8
      have h1 := cof_of Gb8.out (by have := hkl.out NA; omega)
      obtain ⟨xa, xc, rfl, -⟩ := hr8.seesB.len
      replace hX := Lib.hid hX
      clear h3 d8 c7 Ga7 Gb7 Gc7 hl8 hr8
      go_wp2_with fail
      refine h1.mono ?_
      rintro e w9 ⟨v9, Y, rfl, hY, hr9, hl9, d9⟩
      have c9 := Lib.hid (c8.out.trans d9)
      have Ga9 := Lib.hid (Ga8.out.new d9)
      have Gc9 := Lib.hid (Gc8.out.new d9)
      have FY := Lib.hid (few_of_rows Gb8.out.wf (by have := hkl.out NA; omega) hY (by have := hkl.out NA; omega))
      have hlY : Y.length ≤ 60 := by have := hkl.out NA; omega
      have SX9 : Hid (HasR w9 106 (fun k => k < w8.heap.size) (.slice xa X.length xc) X) := Lib.hid ⟨SX.out.1.keep d9 (fun _ _ e => e), fun k hk => SX.out.1.lt hk⟩
      have SY := Lib.hid hr9
      have h2 := cof_of Gc9.out (by have := hkl.out NB; omega)
      obtain ⟨ya, yc, rfl, -⟩ := hr9.seesB.len
      replace hY := Lib.hid hY
      clear h1 d9 c8 Ga8 Gb8 Gc8 hl9 hr9 SX
      go_wp2_with fail
      refine h2.mono ?_
      rintro e w10 ⟨v10, Z, rfl, hZ, hr10, hl10, d10⟩
      have c10 := c9.out.trans d10
      have FZ := Lib.hid (few_of_rows Gc9.out.wf (by have := hkl.out NB; omega) hZ (by have := hkl.out NB; omega))
      have hlZ : Z.length ≤ 60 := by have := hkl.out NB; omega
      have SY10 := SY.out.keep d10 (fun _ _ e => e)
      have SX10 := SX9.out.keep d10 (fun _ _ e => e)
      obtain ⟨a', cc', w11, hrun, r11, d11, b11⟩ := run_crows SY10.1 (by omega) hr10.seesB (by omega) 101
      obtain ⟨za, zc, rfl, -⟩ := hr10.seesB.len
      have c11 := Lib.hid (c10.trans' d11 (fun _ _ e => e) (fun k hk e => by have := SY10.2 k e; have := hw8.out; omega))
      have hal : (Y ++ Z).length = Y.length + Z.length := List.length_append
      have SX11 : SeesR (fun k => k < w11.heap.size) w11 (.slice xa X.length xc) X := by
        have h1 := SX10.keep d11 (fun k hk e => by have := SY10.2 k e; omega)
        exact h1.seesB
      have SW := Lib.hid (stay (HasR.seesB (T := 106) (D := fun _ => True) ⟨r11, fun _ _ => trivial⟩))
      have FW : Few (Y ++ Z) := ⟨by rw [hal]; omega, fun r hr => by
        rcases List.mem_append.1 hr with h | h
        · exact FY.out.2 r h
        · exact FZ.out.2 r h⟩
      have h3 := cdiff_of _ _ _ X (Y ++ Z) w11 SX11 SW.out.here (fun _ h => h) FX.out FW
      have Ga11 := Lib.hid ((Ga9.out.new d10).keep d11 (fun k h1 h2 => by have := SY10.2 k h2; have := hGs.out k h1; omega) (fun k _ h1 h2 => by have := SY10.2 k h2; have := hGh.out; omega))
      replace FW := Lib.hid FW
      replace hZ := Lib.hid hZ
      replace hal := Lib.hid hal
      clear h2 hr10 hl10 d10 c10 SY10 SX10 r11 d11 b11 SX11 c9 Ga9 Gc9 SX9 SY FY FZ FX
      go_wp2_with (at_builtin; refine wpList_append_run rfl _ _ 101 101 rfl rfl rfl hrun ?_)
      refine h3.mono ?_
      rintro e w12 ⟨v12, Df, rfl, hDf, hr12, hl12, d12⟩
      have c12 := Lib.hid (c11.out.trans d12)
      have SW12 := Lib.hid (SW.out.on d12)
      have SD := Lib.hid (stay hr12.seesB)
      have hl12' : Df.length ≤ 200 := by have := hal.out; omega
      have Ga12 := Lib.hid (Ga11.out.new d12)
      have hall := split_rows hpart.out hX.out hY.out hZ.out hDf
      have htw := split_words hpart.out hY.out hZ.out
      replace hall := Lib.hid hall
      replace htw := Lib.hid htw
      obtain ⟨da, dc, rfl, -⟩ := hr12.seesB.len
      clear h3 hr12 hl12 d12 c11 SW Ga11 hDf hX hY hZ hrun
      go_wp2_with fail
      go_loopw [100] (fun i wr => ∃ j : Nat, j ≤ Df.length ∧ i = .int .i64 j ∧ Ch0 w12 wr) (fun i _ => Df.length - (intOf i).toNat)
      case atStart => exact ⟨0, Nat.zero_le _, rfl, Ch.refl _ _⟩
      case round =>
        obtain ⟨j2, hj2, rfl, d⟩ := hrel
        by_cases hlt2 : j2 < Df.length
        · obtain ⟨g, o, c', -, e2, hcell⟩ := (SD.out wr d).row (by omega)
          obtain ⟨rfl, rfl⟩ : da = some ⟨g, o, none⟩ ∧ dc = c' := by simpa using e2
          obtain ⟨x0, x1, x2, x3, x4⟩ := hcell j2 hlt2
          obtain ⟨z1, z2, z4, z3⟩ := hall.out _ (List.getElem_mem hlt2)
          have i1 : (0 : Int) ≤ j2 := by omega
          have i3 : (j2 : Int) < Df.length := by omega
          clear e2 hcell
          generalize Df[j2] = r at *
          rw [z1] at x1
          rw [z2] at x2
          rw [z4] at x4
          have g3 : decide (r.refs < 0) = false := decide_eq_false (by omega)
          replace d := Lib.hid d
          clear z1 z2 z3 z4
          go_wp2_with fail
          go_roundw
          case rel => exact ⟨j2 + 1, by omega, by go_num, d.out⟩
          case measure => simp [intOf]; omega
        · have i3 : (Df.length : Int) ≤ j2 := by omega
          have hfd : ∀ (a b c d e : Value) (w : World), (Instr.field 106 (.agg #[a, b, c, d, e]) 2).run Try.prog w = .ok c w := fun a b c d e w => by first | rfl | kernel_rfl
          have h1 := total_of _ _ (Y ++ Z) wr (SW12.out wr d) (fun _ h => h) FW.out
          have c13 := Lib.hid (c12.out.trans d)
          have Ga13 := Lib.hid (Ga12.out.new d)
          clear d c12 Ga12 SW12 SD
          unfold R5.val at h1
          go_wp2_with fail
          refine h1.mono ?_
          rintro e w14 ⟨rfl, d14⟩
          have c14 := Lib.hid (c13.out.trans d14)
          have h2 := words_of (Ga13.out.new d14) (by omega)
          rw [htw.out]
          generalize gwords L = G at *
          clear h1 d14 c13 Ga13
          go_wp2_with fail
          refine h2.mono ?_
          rintro e w15 ⟨rfl, d15⟩
          have c15 := Lib.hid (c14.out.trans d15)
          clear h2 d15 c14
          go_wp2_with fail
          go_ret
          exact ⟨rfl, c15.out⟩

end Go.Proofs.Ytlmeponoadhheaa
