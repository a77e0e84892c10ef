/-
  gleaninglaw13.ProcessAgain answers true: the walk. (Printed by pagain.py.)
-/
import Derived.Test.YtlmeponoadhheaaPAwake
import Derived.Test.YtlmeponoadhheaaKeepF
import Derived.Test.YtlmeponoadhheaaApply
namespace Go.Proofs.Ytlmeponoadhheaa
set_option linter.unusedVariables false
open Go.RowKit Go.Sort

/-- append of all of a slice of integers, at a step of a region that draws its order -/
theorem step_ints {wx : World} {v : Value} {n : Nat} {xs : List Int} (hrow : RowAt wx 3 1 v n (xs.map (Value.int .i64))) (hlen : n < 4294967296) {D : Nat → Prop} {y : Value} {ys : List Int} (hy : SeesI D wx y ys) (hlen2 : ys.length < 4294967296)
    {ops : Array Oper} {o : Oper} {aa : Act} {K : Act → World → Prop} {Q : Exit → Act → World → Prop} {E : Prop} (hgd : o.guard = none) (s x : Operand)
    (ho : o.op = .call { callee := .builtin .append, args := #[s, x], argTypes := #[34, 34] }) (hs : aa.eval s = v) (hx : aa.eval x = y)
    (hK : ∀ a' c' w', RowAt w' 3 1 (.slice a' (n + ys.length) c') (n + ys.length) ((xs ++ ys).map (Value.int .i64)) → Ch (fun k => rblk v = some k) wx w' → (rblk (.slice a' (n + ys.length) c') = rblk v ∨ rblk (.slice a' (n + ys.length) c') = some wx.heap.size) →
      K (aa.put o.dst (.slice a' (n + ys.length) c')) w') :
    if Region.wanted o (yielded ops aa.tmps) = true then Oper.wp Try.prog o aa wx K Q else E := by
  obtain ⟨i0, hi, hz0, hz1, hz2⟩ := info_parts Try.info3
  refine step_append_at (P := Try.prog) hgd s x 34 ho 3 i0 _ 1 8 Try.underlying34 hi hz0 hz1 hz2 rfl v n (xs.map (Value.int .i64)) hs hrow _ _ _ hx hy (one_ints ys) ?_ ?_ ?_
  · unfold maxLen; omega
  · omega
  · intro a' c' w' h2 h3 h4
    refine hK a' c' w' ?_ h3 h4
    simpa using h2

/-- append([]int{}, ys...), at a step of a region that draws its order -/
theorem step_copy {w0 : World} {D : Nat → Prop} {y : Value} {ys : List Int} (hy : SeesI D (w0.alloc (.cells #[] 3)) y ys) (hlen2 : ys.length < 4294967296)
    {ops : Array Oper} {o : Oper} {aa : Act} {K : Act → World → Prop} {Q : Exit → Act → World → Prop} {E : Prop} (hgd : o.guard = none) (s x : Operand)
    (ho : o.op = .call { callee := .builtin .append, args := #[s, x], argTypes := #[34, 34] }) (hs : aa.eval s = .slice (some ⟨w0.heap.size, 0, none⟩) 0 0) (hx : aa.eval x = y)
    (hK : ∀ a' c' w', RowAt w' 3 1 (.slice a' ys.length c') ys.length (ys.map (Value.int .i64)) → Ch0 w0 w' → (∀ k, rblk (.slice a' ys.length c') = some k → w0.heap.size ≤ k) → K (aa.put o.dst (.slice a' ys.length c')) w') :
    if Region.wanted o (yielded ops aa.tmps) = true then Oper.wp Try.prog o aa (w0.alloc (.cells #[] 3)) K Q else E := by
  have hr : RowAt (w0.alloc (.cells #[] 3)) 3 1 (.slice (some ⟨w0.heap.size, 0, none⟩) 0 0) 0 (([] : List Int).map (Value.int .i64)) :=
    ⟨rfl, .inr ⟨w0.heap.size, 0, 0, #[], rfl, heap_alloc_new w0 _, Nat.le_refl _, by decide, by simp, by simp⟩⟩
  refine step_ints hr (by decide) hy hlen2 hgd s x ho hs hx ?_
  intro a' c' w' h2 h3 h4
  have e : 0 + ys.length = ys.length := Nat.zero_add _
  rw [e] at h2 h4 ⊢
  rw [List.nil_append] at h2
  refine hK a' c' w' h2 (((Ch.refl (fun _ => False) w0).alloc _).trans' h3 (fun _ _ e => e) (fun k hk e => ?_)) (fun k hk => ?_)
  · have e' : w0.heap.size = k := by simpa [rblk] using e
    omega
  · rcases h4 with q | q
    · rw [q] at hk
      have e' : w0.heap.size = k := by simpa [rblk] using hk
      omega
    · rw [q] at hk
      cases hk
      rw [World.size_alloc]; omega

theorem RunOut.sees3 {w w' : World} {cs : List Cls} {L : List GN} {kp : Int → Bool} {roots : List Int} {lv cv fv : Value} {s t C F : List Int} (h : RunOut w w' cs L kp roots lv cv fv s t C F) : SeesI (Rb lv cv fv) w' lv t ∧ SeesI (Rb lv cv fv) w' cv C ∧ SeesI (Rb lv cv fv) w' fv F :=
  ⟨h.l.sees.mono (fun _ e => .inl e), h.c.sees.mono (fun _ e => .inr (.inl e)), h.f.sees.mono (fun _ e => .inr (.inr e))⟩

theorem RunOut.lt {w w' : World} {cs : List Cls} {L : List GN} {kp : Int → Bool} {roots : List Int} {lv cv fv : Value} {s t C F : List Int} (h : RunOut w w' cs L kp roots lv cv fv s t C F) : ∀ k, Rb lv cv fv k → k < w'.heap.size := by
  rintro k (e | e | e)
  · exact h.l.lt e
  · exact h.c.lt e
  · exact h.f.lt e

set_option maxRecDepth 100000 in
set_option maxHeartbeats 4000000 in
theorem again13_walk (cs : List Cls) (ns : List Int) (rs : List (Int × Int × Int)) (cv nv rv u : Value) (roots : List Int) (bits : Int) (w : World) (hs : SeesW (fun k => k < w.heap.size) w cv nv rv cs ns rs) (hf : Fit cs) (hu : SeesI (fun k => k < w.heap.size) w u roots) (hb0 : 0 ≤ bits) (hb1 : bits < 18446744073709551616) :
    Calls Try.prog 20 #[.agg #[cv, nv, rv], u, .int .u64 bits] w fun e w' => e = .returned (.bool true) ∧ Ch0 w w' := by
  obtain ⟨na, nc, rfl, hnl⟩ := hs.n.len
  obtain ⟨ca, cc, rfl, -⟩ := hs.c.len
  obtain ⟨ra, rc, rfl, -⟩ := hs.r.len
  have HA := Lib.hid awake13
  have HM : Hid (∀ W, Ch0 w W → _) := Lib.hid (fun W (c : Ch0 w W) => pmade_at hs hf c)
  obtain ⟨ua, uc, rfl, hul⟩ := hu.len
  have HU := Lib.hid hu
  clear hs hf hu
  have cA : Ch0 w ((w.alloc (.cells #[.slice ca cs.length cc, .slice na ns.length nc, .slice ra rs.length rc] 84)).alloc (.cells #[.int .u64 bits] 90)) := ((Ch.refl _ _).alloc _).alloc _
  have x1 : ((w.alloc (.cells #[.slice ca cs.length cc, .slice na ns.length nc, .slice ra rs.length rc] 84)).alloc (.cells #[.int .u64 bits] 90)).cell? ⟨w.heap.size, 1, none⟩ = some (.slice na ns.length nc) := (((Ch.refl (fun _ => False) (w.alloc (.cells #[.slice ca cs.length cc, .slice na ns.length nc, .slice ra rs.length rc] 84)))).alloc _ : Ch0 _ _).cell ((by first | (simp; done) | simpa using cell_of_row _ w.heap.size 1 _ _ _ (heap_alloc_new w (.cells #[.slice ca cs.length cc, .slice na ns.length nc, .slice ra rs.length rc] 84)))) (fun e => e)
  have xb0 : ((w.alloc (.cells #[.slice ca cs.length cc, .slice na ns.length nc, .slice ra rs.length rc] 84)).alloc (.cells #[.int .u64 bits] 90)).cell? ⟨w.heap.size + 1, 0, none⟩ = some (.int .u64 bits) := (by first | (simp; done) | simpa using cell_of_one (heap_alloc_new (w.alloc (.cells #[.slice ca cs.length cc, .slice na ns.length nc, .slice ra rs.length rc] 84)) (.cells #[.int .u64 bits] 90)))
  replace cA := Lib.hid cA
  have hmf : ∀ (fn : Fn) (first cap : Array Value) (w : World), (Instr.makeFunc fn first cap).run Try.prog w = .ok (.func fn first cap) w := fun _ _ _ _ => rfl
  go_enter Try.func20, Try.ntmps20
  go_wp2_with fail
  generalize (w.alloc (.cells #[.slice ca cs.length cc, .slice na ns.length nc, .slice ra rs.length rc] 84)).alloc (.cells #[.int .u64 bits] 90) = W0 at *
  generalize w.heap.size = P at *
  refine (HM.out _ cA.out).mono ?_
  rintro e w1 (⟨hmB, rfl, d1⟩ | ⟨hmB, b1, b2, p, lo, hi, O1, O2, D, rfl, hD⟩)
  · have HE := Lib.hid (cA.out.trans d1)
    clear d1 HM hmB
    go_wp2_with fail
    refine (HA.out _).mono ?_
    rintro e w2 ⟨rfl, d2⟩
    have HE2 := Lib.hid (HE.out.trans d2)
    clear d2
    go_wp2_with fail
    refine (HA.out _).mono ?_
    rintro e w3 ⟨rfl, d3⟩
    have HE3 := Lib.hid (HE2.out.trans d3)
    clear d3
    go_wp2_with fail
    go_ret
    exact ⟨rfl, HE3.out⟩
  have hmW := madeW_of hmB
  have hnn := hmW.n
  have hLn := hmW.ok.len
  have hL40 : (madeL cs ns rs).length ≤ 40 := by omega
  replace hLn := Lib.hid hLn
  replace hmW := Lib.hid hmW
  replace hD := Lib.hid hD
  clear hmB HM
  generalize madeL cs ns rs = L at *
  go_wp2_with fail
  refine (HA.out _).mono ?_
  rintro e w2 ⟨rfl, d2⟩
  have hD2 := Lib.hid (hD.out.new d2)
  clear hD d2
  by_cases b4 : roots.length ≤ 40
  case neg =>
    have g4 : decide ((40 : Int) < roots.length) = true := decide_eq_true (by omega)
    clear b4
    go_wp2_with fail
    refine (HA.out _).mono ?_
    rintro e w3 ⟨rfl, d3⟩
    have HE3 := Lib.hid (cA.out.trans (hD2.out.new d3).ch)
    clear d3
    go_wp2_with fail
    go_ret
    exact ⟨rfl, HE3.out⟩
  have g4 : decide ((40 : Int) < roots.length) = false := decide_eq_false (by omega)
  have hlow : Hid (Low L) := Lib.hid (fun nd hnd => by
    have h1 := (hmW.out.ok.mem).1 (mem_ids.2 ⟨nd, hnd, rfl⟩)
    have := hmW.out.n
    omega)
  have hrise : Hid (Rising L) := Lib.hid hD2.out.r.rise
  have hr1 := prun_res hD2.out.g (by omega) (hmW.out.right) (hmW.out.ok.refs) _ _ (keepOk_of (kp := fun id => keptB id bits) hlow.out (enters_of Try.func77 (by kernel_rfl) rfl) (clo_again1 bits hb0 hb1 (P + 1) w2 (hD2.out.ch.cell xb0 (fun e => e)))) _ _ (roots := roots) (HU.out.keep (cA.out.trans hD2.out.ch) (fun _ _ e => e)) (by omega)
  go_wp2_with fail
  refine hr1.mono ?_
  rintro e v1 ⟨la1, lc1, ca1, cc1, fa1, fc1, s1, t1, C1, F1, rfl, hPR1, hRA1, hRO1, c1⟩
  have hNO1 := Lib.hid (hRO1.off hD2.out.g.small c1)
  have dd : Ch0 _ (v1.alloc (.cells #[.slice la1 t1.length lc1, .slice ca1 C1.length cc1, .slice fa1 F1.length fc1] 86)) := c1.alloc _
  have hD3 := Lib.hid (hD2.out.new dd)
  replace hRA1 := Lib.hid hRA1
  replace hPR1 := Lib.hid hPR1
  clear hr1 hRO1 c1 dd
  go_wp2_with fail
  generalize v1.alloc (.cells #[.slice la1 t1.length lc1, .slice ca1 C1.length cc1, .slice fa1 F1.length fc1] 86) = W1 at *
  generalize v1.heap.size = Q1 at *
  obtain ⟨s0, s1', s2⟩ := hRA1.out.sees3
  have hap := papply_of hD3.out.g (by omega) _ _ _ _ t1 C1 F1 s0 s1' s2 (fun k e => hNO1.out k (.inr e)) hRA1.out.lt
  rw [hPR1.out.behind hrise.out hmW.out.right hmW.out.ok.wf hmW.out.ok.refs] at hap
  refine hap.mono ?_
  rintro e w8 ⟨rfl, hg8, tu8⟩
  have hD6 := Lib.hid (hD3.out.first hg8 tu8)
  have R1 := Lib.hid (hRA1.out.turn tu8.1 hNO1.out)
  have xb8 := Lib.hid (hD6.out.ch.cell xb0 (fun e => e))
  have ht1 : t1.length ≤ 40 := Nat.le_trans (hPR1.out.t_len hrise.out) hL40
  have hL2 : (behind cs L t1 C1 F1).length = t1.length := behind_len hPR1.out hrise.out
  have hF1l : F1.length ≤ 40 := Nat.le_trans hPR1.out.f_len hL40
  have hrf2 := behind_refs hPR1.out hrise.out hmW.out.right hmW.out.ok.wf hmW.out.ok.refs
  have hri2 : Rising (behind cs L t1 C1 F1) := behind_rising hrise.out
  have hid2 : ids (behind cs L t1 C1 F1) = t1 := behind_ids hrise.out (hPR1.out.t_up hrise.out) hPR1.out.t_ids
  have hlo2 : Low (behind cs L t1 C1 F1) := fun nd hnd => by
    obtain ⟨nd', h1, h2, rfl⟩ := mem_behind.1 hnd
    exact hlow.out nd' h1
  have hag : Hid (∀ M : List Int, (∀ x ∈ roots, x ∈ M) → finL (behind cs L t1 C1 F1) (liveL cs (behind cs L t1 C1 F1) (fun _ => true) M) = []) := Lib.hid (fun M hM => hPR1.out.again hrise.out (fun _ _ => rfl) hM)
  obtain ⟨L2, hL2e⟩ : ∃ L2, L2 = behind cs L t1 C1 F1 := ⟨_, rfl⟩
  rw [← hL2e] at hD6 hL2 hrf2 hri2 hag hid2 hlo2
  replace hrf2 := Lib.hid hrf2
  replace hri2 := Lib.hid hri2
  replace hid2 := Lib.hid hid2
  replace hlo2 := Lib.hid hlo2
  replace hL2 := Lib.hid hL2
  clear hap hg8 tu8 hRA1 hD3 hL2e hD2 xb0 x1 s0 s1' s2 hPR1 hNO1
  have z2 := R1.out.cells.2.2
  have z0 := R1.out.cells.1
  have xx : Hid (∀ w', Ch0 w8 w' → w'.cell? ⟨Q1, 2, none⟩ = some (.slice fa1 F1.length fc1)) := Lib.hid (fun w' c => (R1.out.new c).cells.2.2)
  go_wp2_with fail
  go_region_held3 (fun w' => w'.cell? ⟨Q1, 2, none⟩ = some (.slice fa1 F1.length fc1))
    (first | exact xx.out _ d5 | exact xx.out _ d4 | exact xx.out _ ((Ch.refl _ w8).drew.alloc _) | exact xx.out _ (Ch.refl _ w8).drew | go_keep)
    ((first
      | (refine step_copy (w0 := w8.drew) (HU.out.keep (cA.out.trans (hD6.out.new ((Ch.refl _ w8).drew.alloc _)).ch) (fun _ _ e => e)) (by omega) rfl _ _ (by rfl) (by rfl) (by rfl) ?_; intro a4 c4 w4 r4 d4' b4; have d4 : Ch0 w8 w4 := (Ch.refl _ w8).drew.trans d4')
      | (refine step_ints r4 (by omega) (R1.out.new d4).f.sees (by omega) rfl _ _ (by rfl) (by rfl) (by rfl) ?_; intro a5 c5 w5 r5 d5' b5; have d5 : Ch0 w8 w5 := d4.trans' d5' (fun _ _ e => e) (fun k hk e => by have : w8.heap.size ≤ k := b4 k e; omega))))
  rename_i hheld
  have hf5 : ∀ k, rblk (.slice a5 (roots.length + F1.length) c5) = some k → w8.heap.size ≤ k := fun k hk => by
    rcases b5 with q | q
    · rw [q] at hk; exact b4 k hk
    · rw [q] at hk; cases hk; exact d4.size
  have HM0 : Hid ((∀ x ∈ roots, x ∈ roots ++ F1) ∧ (roots ++ F1).length = roots.length + F1.length ∧ RowAt w5 3 1 (.slice a5 (roots.length + F1.length) c5) (roots ++ F1).length ((roots ++ F1).map (Value.int .i64)) ∧ (∀ k, rblk (.slice a5 (roots.length + F1.length) c5) = some k → w8.heap.size ≤ k) ∧ Ch0 w8 w5) :=
    Lib.hid ⟨fun x hx => List.mem_append.2 (.inl hx), List.length_append, by rw [List.length_append]; exact r5, hf5, d5⟩
  have z0' := d5.cell z0 (fun e => e)
  clear hheld r4 d4 d4' b4 r5 d5 d5' b5 hf5 z2 z0 xx
  go_wp2_with fail

  go_loopw [12, 54] (fun v i wr => ∃ (j : Nat) (M : List Int), j ≤ t1.length ∧ i = .int .i64 j ∧ (∀ x ∈ roots, x ∈ M) ∧ M.length ≤ 80 + j ∧ RowAt wr 3 1 v M.length (M.map (Value.int .i64)) ∧ (∀ k, rblk v = some k → w8.heap.size ≤ k) ∧ Ch0 w8 wr) (fun _ i _ => t1.length - (intOf i).toNat)
  case atStart => exact ⟨0, _, Nat.zero_le _, rfl, HM0.out.1, by have := HM0.out.2.1; omega, HM0.out.2.2.1, HM0.out.2.2.2.1, HM0.out.2.2.2.2⟩
  case round =>
    clear HM0 z0'
    obtain ⟨j, M, hj, rfl, hro, hMl, hM, hMf, c⟩ := hrel
    obtain ⟨am, cm, rfl, -, -⟩ := hM.isSlice
    by_cases hlt : j < t1.length
    · obtain ⟨g, o, c1, -, e1, hcell⟩ := SeesI.cell (R1.out.new c).l.sees (by omega)
      obtain ⟨rfl, rfl⟩ : la1 = some ⟨g, o, none⟩ ∧ lc1 = c1 := by simpa using e1
      have hx := hcell j hlt
      have hxI : t1.getD j 0 ∈ ids L2 := by rw [hid2.out]; simp [List.getD_eq_getElem?_getD, hlt]
      have i1 : (0 : Int) ≤ j := by omega
      have i2 : (j : Int) < t1.length := by omega
      have z0 := (R1.out.new c).cells.1
      obtain ⟨nd, hnd, hid⟩ := List.mem_map.1 hxI
      have hD7 := Lib.hid (hD6.out.new c)
      have hwf := hD7.out.g.wf _ hnd
      have hr60 := hwf.refs
      have hd60 := hwf.data
      have hny := node_yes hD7.out.g.g hnd (by omega) (by omega)
      rw [hid] at hny
      have hlw := hlo2.out _ hnd
      rw [hid] at hlw
      replace hid := Lib.hid hid
      have HR : Hid ((∀ x ∈ roots, x ∈ M) ∧ RowAt wr 3 1 (.slice am M.length cm) M.length (M.map (Value.int .i64)) ∧ (∀ k, rblk (.slice am M.length cm) = some k → w8.heap.size ≤ k) ∧ Ch0 w8 wr) := Lib.hid ⟨hro, hM, hMf, c⟩
      clear hcell e1 hxI hwf hnd hro hM hMf c
      generalize t1.getD j 0 = X at *
      have hkp : Hid (∀ w, _) := Lib.hid (kept_any X bits hlw.1 hlw.2 hb0 hb1)
      clear hlw
      go_wp2_with fail
      refine hny.mono ?_
      rintro e w9 ⟨nv, vr, vd, rfl, hcp, c9'⟩
      obtain ⟨ar, cr, rfl, -, -⟩ := hcp.refs.isSlice
      obtain ⟨ad, cd, rfl, -, -⟩ := hcp.data.isSlice
      obtain rfl : nv = .agg #[.int .i64 X, .int .i64 nd.cls, .slice ar nd.refs.length cr, .slice ad nd.data.length cd, .bool nd.fin] := hid.out ▸ hcp.v
      have c9 := c9'.alloc (.cells #[.int .i64 X, .int .i64 nd.cls, .slice ar nd.refs.length cr, .slice ad nd.data.length cd, .bool nd.fin] 36)
      have hx9 := c9.cell hx (fun e => e)
      have z9 := c9.cell z0 (fun e => e)
      have bN := heap_alloc_new w9 (.cells #[.int .i64 X, .int .i64 nd.cls, .slice ar nd.refs.length cr, .slice ad nd.data.length cd, .bool nd.fin] 36)
      have y0 := cell_of_row _ w9.heap.size 0 _ _ _ bN
      simp only [List.getElem?_toArray, List.getElem?_cons_zero] at y0
      have hai := aim_of (hD7.out.new c9).g X
      replace c9 := Lib.hid c9
      clear hny hcp c9' bN hx z0
      go_wp2_with fail
      generalize w9.alloc (.cells #[.int .i64 X, .int .i64 nd.cls, .slice ar nd.refs.length cr, .slice ad nd.data.length cd, .bool nd.fin] 36) = wA at *
      generalize w9.heap.size = QA at *
      generalize (gaim cs L2 X).1 = to at *
      generalize (gaim cs L2 X).2 = kd at *
      refine hai.mono ?_
      rintro e wB ⟨rfl, cB⟩
      have dB := Lib.hid (c9.out.trans cB)
      have y0' := cB.cell y0 (fun e => e)
      have yb := (HR.out.2.2.2.trans dB.out).cell xb8.out (fun e => e)
      have HS : Hid ((∀ x ∈ roots, x ∈ M) ∧ RowAt wB 3 1 (.slice am M.length cm) M.length (M.map (Value.int .i64)) ∧ (∀ k, rblk (.slice am M.length cm) = some k → w8.heap.size ≤ k) ∧ Ch0 w8 wB) := Lib.hid ⟨HR.out.1, HR.out.2.1.keep dB.out (fun _ _ e => e), HR.out.2.2.1, HR.out.2.2.2.trans dB.out⟩
      clear hai cB hx9 z9 y0 c9 HR dB
      by_cases h3 : kd = 3
      case neg =>
        have e3 : (kd == 3) = false := by simpa using h3
        clear h3
        go_wp2_with fail
        go_roundw
        case rel => exact ⟨j + 1, M, by omega, by go_num, HS.out.1, by omega, HS.out.2⟩
        case measure => simp [intOf]; omega
      have e3 : (kd == 3) = true := by simpa using h3
      clear h3
      by_cases h0 : to = 0
      case pos =>
        have e0 : (to != 0) = false := by simp [h0]
        clear h0
        go_wp2_with fail
        go_roundw
        case rel => exact ⟨j + 1, M, by omega, by go_num, HS.out.1, by omega, HS.out.2⟩
        case measure => simp [intOf]; omega
      have e0 : (to != 0) = true := by simpa using h0
      clear h0
      have hk1 := hkp.out wB
      clear hkp
      cases hkx : keptB X bits with
      | false =>
        rw [hkx] at hk1
        clear hkx
        go_wp2_with fail
        refine hk1.mono ?_
        rintro e wC ⟨rfl, hs⟩
        obtain rfl : wB = wC := hs
        clear hk1
        go_wp2_with fail
        go_roundw
        case rel => exact ⟨j + 1, M, by omega, by go_num, HS.out.1, by omega, HS.out.2⟩
        case measure => simp [intOf]; omega
      | true =>
        rw [hkx] at hk1
        clear hkx
        go_wp2_with fail
        refine hk1.mono ?_
        rintro e wC ⟨rfl, hs⟩
        obtain rfl : wB = wC := hs
        have ca : Ch0 wB (wB.alloc (.cells #[.int .i64 to] 3)) := (Ch.refl _ _).alloc _
        obtain ⟨a6, c6, w6, hrun, r6, d6, b6⟩ := run_int (HS.out.2.1.keep ca (fun _ _ e => e)) (by omega) wB.heap.size to (heap_alloc_new wB _) 34
        have HE : Hid ((∀ x ∈ roots, x ∈ M ++ [to]) ∧ (M ++ [to]).length = M.length + 1 ∧ RowAt w6 3 1 (.slice a6 (M.length + 1) c6) (M ++ [to]).length ((M ++ [to]).map (Value.int .i64)) ∧ (∀ k, rblk (.slice a6 (M.length + 1) c6) = some k → w8.heap.size ≤ k) ∧ Ch0 w8 w6) := by
          refine Lib.hid ⟨fun x hx => List.mem_append.2 (.inl (HS.out.1 x hx)), by simp, by rw [List.length_append]; exact r6, fun k hk => ?_, (HS.out.2.2.2.trans ca).trans' d6 (fun _ _ e => e) (fun k hk e => by have := HS.out.2.2.1 k e; omega)⟩
          rcases b6 with q | q
          · rw [q] at hk; exact HS.out.2.2.1 k hk
          · rw [q] at hk; cases hk; rw [World.size_alloc]; have := HS.out.2.2.2.size; omega
        clear hk1 ca r6 d6 b6 HS
        go_wp2_with (at_builtin; refine wpList_append_run rfl _ _ 34 34 rfl rfl rfl hrun ?_)
        go_roundw
        case rel => exact ⟨j + 1, M ++ [to], by omega, by go_num, HE.out.1, by have := HE.out.2.1; omega, HE.out.2.2.1, HE.out.2.2.2.1, HE.out.2.2.2.2⟩
        case measure => simp [intOf]; omega
    · obtain rfl : j = t1.length := by omega
      have hD7 := Lib.hid (hD6.out.new c)
      have R2 := Lib.hid (R1.out.new c)
      have hag2 := Lib.hid (hag.out M hro)
      have hsM := hM.sees
      clear c hD6 R1 hag hro hM hMf
      have hr2 := prun_res hD7.out.g (by have := hL2.out; omega) (hmW.out.right) (hrf2.out) _ _ (keepOk_of (kp := fun _ => true) hlo2.out (enters_of Try.func78 (by kernel_rfl) rfl) (fun W id cls ar nr cr ad na cd f _ _ _ => clo_again2 W id cls ar nr cr ad na cd f)) _ _ (roots := M) (hsM) (by omega)
      go_wp2_with fail
      refine hr2.mono ?_
      rintro e v2 ⟨la2, lc2, ca2, cc2, fa2, fc2, s2, t2, C2, F2, rfl, hPR2, hRA2, hRO2, c2⟩
      have hNO2 := Lib.hid (hRO2.off hD7.out.g.small c2)
      have dd : Ch0 _ (v2.alloc (.cells #[.slice la2 t2.length lc2, .slice ca2 C2.length cc2, .slice fa2 F2.length fc2] 86)) := c2.alloc _
      replace R2 := Lib.hid (R2.out.new dd)
      have hD8 := Lib.hid (hD7.out.new dd)
      replace hRA2 := Lib.hid hRA2
      replace hPR2 := Lib.hid hPR2
      clear hr2 hRO2 c2 dd
      clear hsM
      have z0 := R2.out.cells.1
      have hF2e : F2 = [] := hPR2.out.ef.trans (by rw [hPR2.out.es]; exact hag2.out)
      have hF2 : ((F2.length : Int) == 0) = true := by rw [hF2e]; rfl
      clear hF2e
      go_wp2_with fail
      generalize v2.alloc (.cells #[.slice la2 t2.length lc2, .slice ca2 C2.length cc2, .slice fa2 F2.length fc2] 86) = W2 at *
      generalize v2.heap.size = Q2 at *
      have hfd1 : ∀ (a b c : Value) (w : World), (Instr.field 86 (.agg #[a, b, c]) 1).run Try.prog w = .ok b w := fun a b c w => by first | rfl | kernel_rfl
      have hwh : Hid (∀ s t C F, PR cs L2 (fun _ => false) t1 s t C F → t = t1 ∧ C = [] ∧ F = []) := Lib.hid (fun s t C F h => by
        have h' : PR cs L2 (fun _ => false) (ids L2) s t C F := by rw [hid2.out]; exact h
        have := h'.whole hri2.out hmW.out.right hD8.out.g.wf hrf2.out
        exact ⟨this.2.1.trans hid2.out, this.2.2⟩)
      have hr3 := prun_res hD8.out.g (have := hL2.out; by omega) hmW.out.right hrf2.out _ _ (show KeepOk .nilFunc (fun _ => false) _ _ from .inl ⟨rfl, rfl⟩) _ _ (roots := t1) R2.out.l.sees (by omega)
      refine hr3.mono ?_
      rintro e v3 ⟨la3, lc3, ca3, cc3, fa3, fc3, s3, t3, C3, F3, rfl, hPR3, -, -, c3⟩
      obtain ⟨-, rfl, -⟩ := hwh.out _ _ _ _ hPR3
      have hD9 := Lib.hid (hD8.out.new c3)
      have R3 := Lib.hid (R2.out.new c3)
      have z0 := R3.out.cells.1
      clear hr3 hPR3 c3 R2
      have hr4 := prun_res hD9.out.g (have := hL2.out; by omega) hmW.out.right hrf2.out _ _ (show KeepOk .nilFunc (fun _ => false) _ _ from .inl ⟨rfl, rfl⟩) _ _ (roots := t1) R3.out.l.sees (by omega)
      go_wp2_with fail
      refine hr4.mono ?_
      rintro e v4 ⟨la4, lc4, ca4, cc4, fa4, fc4, s4, t4, C4, F4, rfl, hPR4, -, hRO4, c4⟩
      obtain ⟨e4, -, -⟩ := hwh.out _ _ _ _ hPR4
      have hNO4 := hRO4.off hD9.out.g.small c4
      have hD10 := Lib.hid (hD9.out.new c4)
      obtain ⟨q0, q1, q2⟩ := hRO4.sees3
      have hap := papply_of hD10.out.g (have := hL2.out; by omega) _ _ _ _ t4 C4 F4 q0 q1 q2 (fun k e => hNO4 k (.inr e)) hRO4.lt
      rw [hPR4.behind hri2.out hmW.out.right hD10.out.g.wf hrf2.out, behind_len hPR4 hri2.out, e4, hL2.out, Int.sub_self] at hap
      clear hr4 hPR4 hRO4 c4 hNO4 q0 q1 q2 z0
      go_wp2_with fail
      refine hap.mono ?_
      rintro e v5 ⟨rfl, hg5, tu5⟩
      have HE := Lib.hid (cA.out.trans (hD10.out.first hg5 tu5).ch)
      clear hap hg5 tu5
      go_wp2_with fail
      go_ret
      exact ⟨rfl, HE.out⟩

end Go.Proofs.Ytlmeponoadhheaa
