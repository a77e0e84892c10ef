/-
  gleaninglaw10.StrengthRoots answers true: the walk.
-/
import Derived.Test.YtlmeponoadhheaaTells10
import Derived.Test.YtlmeponoadhheaaProc2
import Derived.Test.YtlmeponoadhheaaGl
namespace Go.Proofs.Ytlmeponoadhheaa
set_option linter.unusedVariables false
open Go.RowKit

theorem step_int2 {w1 : World} {v : Value} {n : Nat} {xs : List Int} {x y' : Int} {a : Option Addr} {c : Nat} (hrow : RowAt w1 3 1 v n (xs.map (Value.int .i64))) (ev : v = .slice a n c) (hlen : n < 4294967296)
    {ops : Array Oper} {o : Oper} {aa : Act} {K : Act → World → Prop} {Q : Exit → Act → World → Prop} {E : Prop} (wx : World) (G : Nat) (hgd : o.guard = none) (s y : Operand)
    (ho : o.op = .call { callee := .builtin .append, args := #[s, y], argTypes := #[34, 34] }) (hs : aa.eval s = .slice a n c) (hy : aa.eval y = .slice (some ⟨G, 0, none⟩) 2 2)
    (hG : wx.heap[G]? = some (.cells #[.int .i64 x, .int .i64 y'] 3 (0, 0))) (c0 : Ch0 w1 wx)
    (hK : ∀ a' c' w', RowAt w' 3 1 (.slice a' (n + 2) c') (n + 2) ((xs ++ [x, y']).map (Value.int .i64)) → Ch (fun k => rblk v = some k) wx w' → (rblk (.slice a' (n + 2) c') = rblk v ∨ rblk (.slice a' (n + 2) c') = some wx.heap.size) →
      Ch0 w1 wx → K (aa.put o.dst (.slice a' (n + 2) c')) w') :
    if Region.wanted o (yielded ops aa.tmps) = true then Oper.wp Try.prog o aa wx K Q else E := by
  obtain ⟨i0, hi, hz0, hz1, hz2⟩ := info_parts Try.info3
  have hse : Sees (fun k => k = G) wx (.slice (some ⟨G, 0, none⟩) 2 2) 1 2 [.int .i64 x, .int .i64 y'] := by
    refine ⟨rfl, _, 2, rfl, Nat.le_refl _, by decide, .inr ⟨G, 0, rfl, rfl, fun i u hu => ?_⟩⟩
    rw [Nat.zero_add, cell_of_row _ G i _ _ _ hG]
    simpa using hu
  refine step_append_at (P := Try.prog) hgd s y 34 ho 3 i0 _ 1 8 Try.underlying34 hi hz0 hz1 hz2 rfl v n (xs.map (Value.int .i64)) (hs.trans ev.symm) (hrow.keep c0 (fun _ _ q => q)) _ 2 [.int .i64 x, .int .i64 y'] hy hse (one_ints [x, y']) ?_ ?_ ?_
  · unfold maxLen; omega
  · omega
  · intro a' c' w' h2 h3 h4
    refine hK a' c' w' ?_ h3 h4 c0
    simpa using h2

set_option maxRecDepth 100000 in
set_option maxHeartbeats 4000000 in
theorem roots10_walk (cs : List Cls) (ns : List Int) (rs : List (Int × Int × Int)) (cv nv rv u : Value) (roots : List Int) (level : Int) (w : World) (hs : SeesW (fun k => k < w.heap.size) w cv nv rv cs ns rs) (hf : Fit cs) (hu : SeesI (fun k => k < w.heap.size) w u roots) :
    Calls Try.prog 12 #[.agg #[cv, nv, rv], u, .int .i64 level] w fun e w' => e = .returned (.bool true) ∧ Ch0 w w' := by
  obtain ⟨na, nc, rfl, hnl⟩ := hs.n.len
  obtain ⟨ca, cc, rfl, -⟩ := hs.c.len
  obtain ⟨ra, rc, rfl, -⟩ := hs.r.len
  have HA := Lib.hid awake10
  have HM : Hid (∀ W, Ch0 w W → _) := Lib.hid (fun W (c : Ch0 w W) => made_at hs hf c)
  obtain ⟨ua, uc, rfl, hul⟩ := hu.len
  have HU := Lib.hid hu
  clear hs hf hu
  have cA : Ch0 w (w.alloc (.cells #[.slice ca cs.length cc, .slice na ns.length nc, .slice ra rs.length rc] 72)) := (Ch.refl _ _).alloc _
  have x1 := cell_of_row _ w.heap.size 1 _ _ _ (heap_alloc_new w (.cells #[.slice ca cs.length cc, .slice na ns.length nc, .slice ra rs.length rc] 72))
  simp only [List.getElem?_toArray, List.getElem?_cons_zero, List.getElem?_cons_succ] at x1
  replace cA := Lib.hid cA
  go_enter Try.func12, Try.ntmps12
  go_wp2_with fail
  generalize w.alloc (.cells #[.slice ca cs.length cc, .slice na ns.length nc, .slice ra rs.length rc] 72) = W0 at *
  generalize w.heap.size = P at *
  refine (HM.out _ cA.out).mono ?_
  rintro e w1 (⟨hmB, rfl, d1⟩ | ⟨hmB, b1, b2, p, lo, hi, O1, O2, D, rfl, hD⟩)
  · have HE := Lib.hid (cA.out.trans d1)
    clear d1 HM hmB
    go_wp2_with fail
    refine (HA.out _).mono ?_
    rintro e w2 ⟨rfl, d2⟩
    have HE2 := Lib.hid (HE.out.trans d2)
    clear d2
    go_wp2_with fail
    refine (HA.out _).mono ?_
    rintro e w3 ⟨rfl, d3⟩
    have HE3 := Lib.hid (HE2.out.trans d3)
    clear d3
    go_wp2_with fail
    go_ret
    exact ⟨rfl, HE3.out⟩
  have hmW := madeW_of hmB
  have hnn := hmW.n
  have hLn := hmW.ok.len
  replace hmW := Lib.hid hmW
  replace hD := Lib.hid hD
  clear hmB HM
  generalize madeL cs ns rs = L at *
  go_wp2_with fail
  refine (HA.out _).mono ?_
  rintro e w2 ⟨rfl, d2⟩
  have hD2 := Lib.hid (hD.out.new d2)
  clear hD d2
  by_cases b4 : roots.length ≤ 40
  case neg =>
    have g4 : decide ((40 : Int) < roots.length) = true := decide_eq_true (by omega)
    clear b4
    go_wp2_with fail
    refine (HA.out _).mono ?_
    rintro e w3 ⟨rfl, d3⟩
    have HE3 := Lib.hid (cA.out.trans (hD2.out.new d3).ch)
    clear d3
    go_wp2_with fail
    go_ret
    exact ⟨rfl, HE3.out⟩
  have g4 : decide ((40 : Int) < roots.length) = false := decide_eq_false (by omega)
  go_wp2_with fail
  go_loopw [10, 34] (fun tv i wr => ∃ (j : Nat) (T : List Int), j ≤ roots.length ∧ i = .int .i64 j ∧ T.length = 2 * j ∧ (∀ x ∈ T, x ∈ roots) ∧ (∀ x ∈ roots.take j, x ∈ T) ∧ RowAt wr 3 1 tv T.length (T.map (Value.int .i64)) ∧ (∀ k, rblk tv = some k → w2.heap.size ≤ k) ∧ Ch0 w2 wr) (fun _ i _ => roots.length - (intOf i).toNat)
  case atStart => exact ⟨0, [], Nat.zero_le _, rfl, rfl, (fun x hx => by cases hx), (fun x hx => by simp at hx), RowAt.nil, (fun k hk => by cases hk), Ch.refl _ _⟩
  case round =>
    obtain ⟨j, T, hj, rfl, hTl, hT1, hT2, hTr, hTf, c⟩ := hrel
    obtain ⟨a3, c3, rfl, -, -⟩ := hTr.isSlice
    have hD := hD2.out.new c
    by_cases hlt : j < roots.length
    · obtain ⟨g, o, cc1, -, e1, hcell⟩ := SeesI.cell (HU.out.keep (cA.out.trans hD.ch) (fun _ _ e => e)) (by omega)
      obtain ⟨rfl, rfl⟩ : ua = some ⟨g, o, none⟩ ∧ uc = cc1 := by simpa using e1
      obtain ⟨q, hq⟩ : ∃ q : Nat, q = roots.length - 1 - j := ⟨_, rfl⟩
      have hx := hcell j hlt
      have hy := hcell q (by omega)
      have t1 : IntKind.i64.wrap ((roots.length : Int) - 1) = (roots.length : Int) - 1 := IntWalk.i64_in _ (by omega)
      have t2 : IntKind.i64.wrap ((roots.length : Int) - 1 - j) = q := (IntWalk.i64_in _ (by omega)).trans (by omega)
      have i1 : (0 : Int) ≤ j := by omega
      have i2 : (j : Int) < roots.length := by omega
      have i3 : (0 : Int) ≤ q := by omega
      have i4 : (q : Int) < roots.length := by omega
      have hx' : ∀ w', Ch0 w2 w' → w'.cell? ⟨g, o + q, none⟩ = some (.int .i64 (roots.getD q 0)) ∧ w'.cell? ⟨g, o + j, none⟩ = some (.int .i64 (roots.getD j 0)) := fun w' c => by
        obtain ⟨g', o', cc2, -, e2, hcell2⟩ := SeesI.cell (HU.out.keep (cA.out.trans (hD2.out.ch.trans c)) (fun _ _ e => e)) (by omega)
        cases e2
        exact ⟨hcell2 q (by omega), hcell2 j hlt⟩
      replace hx' := Lib.hid hx'
      have hX : Hid (roots.getD j 0 ∈ roots ∧ roots.getD q 0 ∈ roots ∧ roots.take (j + 1) = roots.take j ++ [roots.getD j 0]) := Lib.hid ⟨by rw [List.getD_eq_getElem?_getD, List.getElem?_eq_getElem hlt]; exact List.getElem_mem _, by rw [List.getD_eq_getElem?_getD, List.getElem?_eq_getElem (by omega)]; exact List.getElem_mem _, take_snocI roots hlt⟩
      clear hcell e1 hq
      generalize roots.getD j 0 = X at *
      generalize roots.getD q 0 = Y at *
      replace hT1 := Lib.hid hT1
      replace hT2 := Lib.hid hT2
      replace hTf := Lib.hid hTf
      replace c := Lib.hid c
      replace hD := Lib.hid hD
      have hlen : T.length < 4294967296 := by omega
      replace hTr := Lib.hid hTr
      replace hTl := Lib.hid hTl
      have hsz := hD.out.ch.size
      have hsz2 := c.out.size
      go_wp2_with fail
      go_region_held3 (fun w' => w'.cell? ⟨g, o + q, none⟩ = some (.int .i64 Y) ∧ w'.cell? ⟨g, o + j, none⟩ = some (.int .i64 X))
        (first | exact hx'.out _ (c.out.trans ((Ch.refl _ wr).alloc _).drew) | exact hx'.out _ (c.out.trans ((Ch.refl _ wr).alloc _)) | exact hx'.out _ ((c.out.trans d5).trans' d4 (fun _ _ e => e) (fun k hk e => by have := hTf.out k e; omega)) | go_keep)
        ((refine step_int2 hTr.out rfl hlen _ _ (by rfl) _ _ (by rfl) (by rfl) (by rfl) (by exact heap_alloc_new wr _) (by first | exact ((Ch.refl _ wr).alloc _).drew | exact (Ch.refl _ wr).alloc _) ?_; intro a4 c4 w4 r4 d4 b4 d5))
      rename_i hheld
      have d6 : Ch0 w2 w4 := (c.out.trans d5).trans' d4 (fun _ _ e => e) (fun k hk e => by have := hTf.out k e; omega)
      have HF : Hid ((T ++ [Y, X]).length = 2 * (j + 1) ∧ (∀ x ∈ T ++ [Y, X], x ∈ roots) ∧ (∀ x ∈ roots.take (j + 1), x ∈ T ++ [Y, X]) ∧ RowAt w4 3 1 (.slice a4 (T.length + 2) c4) (T ++ [Y, X]).length ((T ++ [Y, X]).map (Value.int .i64)) ∧ (∀ k, rblk (.slice a4 (T.length + 2) c4) = some k → w2.heap.size ≤ k)) := by
        refine Lib.hid ⟨by rw [List.length_append, hTl.out]; simp; omega, fun x hx => ?_, fun x hx => ?_, by rw [List.length_append]; exact r4, fun k hk => ?_⟩
        · rcases List.mem_append.1 hx with q | q
          · exact hT1.out x q
          · simp at q
            rcases q with q | q
            · rw [q]; exact hX.out.2.1
            · rw [q]; exact hX.out.1
        · rw [hX.out.2.2] at hx
          rcases List.mem_append.1 hx with q | q
          · exact List.mem_append.2 (.inl (hT2.out x q))
          · rw [List.mem_singleton.1 q]; simp
        · rcases b4 with e | e
          · rw [e] at hk; exact hTf.out k hk
          · rw [e] at hk; cases hk; have := d5.size; omega
      have z1 := (hx'.out _ d6).2
      have hD4 := hD2.out.new d6
      replace d6 := Lib.hid d6
      clear hheld d4 r4 b4 d5 hx hy
      by_cases hin : X ∈ ids L
      · obtain ⟨nd, hnd, rfl⟩ := mem_ids.1 hin
        have hof1 : Hid (ofL cs L nd.id roots = 1) := Lib.hid (ofL_root hX.out.1 hin)
        have hny := node_yes hD4.g.g hnd (by have := (hmW.out.ok.wf nd hnd).refs; omega) (by have := (hmW.out.ok.wf nd hnd).data; omega)
        replace hD4 := Lib.hid hD4
        go_wp2_with fail
        refine hny.mono ?_
        rintro e w5 ⟨nv, vr, vd, rfl, hcp, c5⟩
        obtain ⟨ar, cr, rfl, -, -⟩ := hcp.refs.isSlice
        obtain ⟨ad, cd, rfl, -, -⟩ := hcp.data.isSlice
        obtain rfl : nv = .agg #[.int .i64 nd.id, .int .i64 nd.cls, .slice ar nd.refs.length cr, .slice ad nd.data.length cd, .bool nd.fin] := hcp.v
        have y0 := (Held1.new hcp).y0
        have cb : Ch0 w5 (w5.alloc (.cells #[.int .i64 nd.id, .int .i64 nd.cls, .slice ar nd.refs.length cr, .slice ad nd.data.length cd, .bool nd.fin] 36)) := (Ch.refl _ _).alloc _
        have hD5 := Lib.hid (hD4.out.new (c5.trans cb))
        replace c5 := Lib.hid (c5.trans cb)
        have hof := of_of hD5.out.g (by omega) _ _ roots (HU.out.keep (cA.out.trans hD5.out.ch) (fun _ _ e => e)) (by omega) nd.id
        rw [hof1.out] at hof
        clear hny hcp cb hnd
        go_wp2_with fail
        refine hof.mono ?_
        rintro e w6 ⟨rfl, c6⟩
        have HE := Lib.hid (c5.out.trans c6)
        clear hof c6 y0
        go_wp2_with fail
        go_roundw
        case rel => exact ⟨j + 1, T ++ [Y, nd.id], by omega, by go_num, HF.out.1, HF.out.2.1, HF.out.2.2.1, HF.out.2.2.2.1.keep HE.out (fun _ _ e => e), HF.out.2.2.2.2, d6.out.trans HE.out⟩
        case measure => simp [intOf]; omega
      · have hno := node_no hD4.g.g hin
        replace hD4 := Lib.hid hD4
        clear hin
        go_wp2_with fail
        refine hno.mono ?_
        rintro e w5 ⟨rfl, c5⟩
        unfold noNode
        have HE := Lib.hid (c5.trans ((Ch.refl _ w5).alloc (.cells #[.int .i64 0, .int .i64 0, .slice none 0 0, .slice none 0 0, .bool false] 36)))
        clear hno c5
        go_wp2_with fail
        go_roundw
        case rel => exact ⟨j + 1, T ++ [Y, X], by omega, by go_num, HF.out.1, HF.out.2.1, HF.out.2.2.1, HF.out.2.2.2.1.keep HE.out (fun _ _ e => e), HF.out.2.2.2.2, d6.out.trans HE.out⟩
        case measure => simp [intOf]; omega
    · obtain rfl : j = roots.length := by omega
      rw [List.take_length] at hT2
      have hsm : withinL cs L level T = withinL cs L level roots := within_same (fun x => ⟨hT1 x, hT2 x⟩)
      have hwi := within_of hD.g (by omega) _ _ roots (HU.out.keep (cA.out.trans hD.ch) (fun _ _ e => e)) (by omega) level
      have HT := Lib.hid (And.intro hTr (And.intro hTl hsm))
      replace hD := Lib.hid hD
      clear hTr hTl hsm hT1 hT2 hTf c
      go_wp2_with fail
      refine hwi.mono ?_
      rintro e w3 ⟨v5, rfl, r5, f5, c5⟩
      obtain ⟨a5, cc5, rfl, -, -⟩ := r5.isSlice
      have hD5 := Lib.hid (hD.out.new c5)
      have hwj := within_of hD5.out.g (by omega) _ _ T ((HT.out.1.keep c5 (fun _ _ e => e)).sees) (by have := HT.out.2.1; omega) level
      rw [HT.out.2.2] at hwj
      replace r5 := Lib.hid r5
      clear hwi c5 f5 hD
      go_wp2_with fail
      refine hwj.mono ?_
      rintro e w4 ⟨v6, rfl, r6, f6, c6⟩
      obtain ⟨a6, cc6, rfl, -, -⟩ := r6.isSlice
      have hD6 := Lib.hid (hD5.out.new c6)
      have hsm := same_any _ _ _ _ _ _ w4 ((r5.out.keep c6 (fun _ _ e => e)).sees) r6.sees
      rw [decide_eq_true rfl] at hsm
      clear hwj c6 f6 hD5 r5 r6
      go_wp2_with fail
      refine hsm.mono ?_
      rintro e w5 ⟨rfl, n5, hw5⟩
      have hD7 := Lib.hid (hD6.out.new (hw5 ▸ ch_drewN' w4 n5 : Ch0 w4 w5))
      clear hsm hw5 hD6
      have hre := reach_of hD7.out.g (by omega) _ _ [] (RowAt.nil (w := w5) (e := 3) (size := 1)).sees (by decide)
      rw [close_none (by omega)] at hre
      go_wp2_with fail
      refine hre.mono ?_
      rintro e w6 ⟨v7, rfl, r7, f7, c7⟩
      obtain ⟨a7, cc7, rfl, -, -⟩ := r7.isSlice
      have hD8 := Lib.hid (hD7.out.new c7)
      have hwk := within_of hD8.out.g (by omega) _ _ [] (RowAt.nil (w := w6) (e := 3) (size := 1)).sees (by decide) 3
      rw [within_none (by omega)] at hwk
      clear hre c7 f7 r7 hD7
      go_wp2_with fail
      refine hwk.mono ?_
      rintro e w7 ⟨v8, rfl, r8, f8, c8⟩
      obtain ⟨a8, cc8, rfl, -, -⟩ := r8.isSlice
      have HE := Lib.hid (cA.out.trans (hD8.out.new c8).ch)
      clear hwk c8 f8 r8 hD8
      go_wp2_with fail
      go_ret
      exact ⟨rfl, HE.out⟩

end Go.Proofs.Ytlmeponoadhheaa
