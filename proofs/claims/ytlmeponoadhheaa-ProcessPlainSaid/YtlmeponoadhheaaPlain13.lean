/-
  gleaninglaw13.ProcessPlain answers true: the walk. (Printed by pplain.py.)
-/
import Derived.Test.YtlmeponoadhheaaPAwake
import Derived.Test.YtlmeponoadhheaaKeepF
namespace Go.Proofs.Ytlmeponoadhheaa
set_option linter.unusedVariables false
open Go.RowKit Go.Sort

def plc : List Cls := [⟨1, 2, 0, false⟩, ⟨2, 0, 0, false⟩]

theorem plc_cls {k : Int} (h1 : 1 ≤ k) (h2 : k ≤ plc.length) : k = 1 ∨ k = 2 := by
  have : (plc.length : Int) = 2 := rfl
  omega

theorem plc_kind {L : List GN} (hr : Rising L) (hw : ∀ nd ∈ L, WfN plc nd) : ∀ x ∈ ids L, (gaim plc L x).2 = 0 := by
  intro x hx
  obtain ⟨nd, hnd, rfl⟩ := mem_ids.1 hx
  have hat := gat_at hr hnd
  have hc : holdsC plc nd.cls 0 = true := by
    rcases plc_cls (hw nd hnd).c1 (hw nd hnd).c2 with e | e <;> rw [e] <;> decide
  unfold gaim
  rw [hat]
  simp only [hc]
  rfl

theorem plc_fin {L : List GN} (hw : ∀ nd ∈ L, WfN plc nd) (hf : ∀ nd ∈ L, nd.fin = finalOf plc nd.cls) : ∀ nd ∈ L, nd.fin = false := by
  intro nd hnd
  rw [hf nd hnd]
  rcases plc_cls (hw nd hnd).c1 (hw nd hnd).c2 with e | e <;> rw [e] <;> decide

set_option maxRecDepth 100000 in
set_option maxHeartbeats 4000000 in
theorem plain13_walk (ns : List Int) (rs : List (Int × Int × Int)) (nv rv u : Value) (roots : List Int) (w : World) (hn : Sees (fun k => k < w.heap.size) w nv 1 ns.length (ns.map (Value.int .u8))) (hr : Sees (fun k => k < w.heap.size) w rv 3 rs.length (rs.flatMap u3)) (hnf : ∀ x ∈ ns, isU8 x) (hrf : ∀ x ∈ rs, isU8 x.1 ∧ isU8 x.2.1 ∧ isU8 x.2.2) (hu : SeesI (fun k => k < w.heap.size) w u roots) :
    Calls Try.prog 15 #[nv, rv, u] w fun e w' => e = .returned (.bool true) ∧ Ch0 w w' := by
  have cA : Ch0 w (w.alloc (.cells #[.int .i64 1, .int .i64 2, .int .i64 0, .bool false, .int .i64 2, .int .i64 0, .int .i64 0, .bool false] 40)) := (Ch.refl _ _).alloc _
  have hfit : Fit plc := by intro c hc; simp [plc] at hc; rcases hc with rfl | rfl <;> constructor <;> decide
  have hs : SeesW (fun k => k < (w.alloc (.cells #[.int .i64 1, .int .i64 2, .int .i64 0, .bool false, .int .i64 2, .int .i64 0, .int .i64 0, .bool false] 40)).heap.size) (w.alloc (.cells #[.int .i64 1, .int .i64 2, .int .i64 0, .bool false, .int .i64 2, .int .i64 0, .int .i64 0, .bool false] 40)) (.slice (some ⟨w.heap.size, 0, none⟩) 2 2) nv rv plc ns rs :=
    ⟨(sees_two ⟨1, 2, 0, false⟩ ⟨2, 0, 0, false⟩ w).mono (fun k hk => by rw [World.size_alloc]; omega), (hn.keep cA (fun _ _ e => e)).mono (fun k hk => by rw [World.size_alloc]; omega), (hr.keep cA (fun _ _ e => e)).mono (fun k hk => by rw [World.size_alloc]; omega), hnf, hrf⟩
  obtain ⟨na, nc, rfl, hnl⟩ := hn.len
  obtain ⟨ra, rc, rfl, -⟩ := hr.len
  have HA := Lib.hid awake13
  have HM := Lib.hid (pmade_at hs hfit (Ch.refl _ _))
  obtain ⟨ua, uc, rfl, hul⟩ := hu.len
  have HU := Lib.hid hu
  clear hs hfit hu hn hr hnf hrf
  obtain ⟨cs, hcs⟩ : ∃ cs, cs = plc := ⟨_, rfl⟩
  rw [← hcs] at HM
  replace hcs := Lib.hid hcs
  replace cA := Lib.hid cA
  go_enter Try.func15, Try.ntmps15
  go_wp2_with fail
  generalize w.alloc (.cells #[.int .i64 1, .int .i64 2, .int .i64 0, .bool false, .int .i64 2, .int .i64 0, .int .i64 0, .bool false] 40) = W0 at *
  generalize w.heap.size = P at *
  refine HM.out.mono ?_
  rintro e w1 (⟨hmB, rfl, d1⟩ | ⟨hmB, b1, b2, p, lo, hi, O1, O2, D, rfl, hD⟩)
  · have HE := Lib.hid (cA.out.trans d1)
    clear d1 HM hmB
    go_wp2_with fail
    refine (HA.out _).mono ?_
    rintro e w2 ⟨rfl, d2⟩
    have HE2 := Lib.hid (HE.out.trans d2)
    clear d2
    go_wp2_with fail
    refine (HA.out _).mono ?_
    rintro e w3 ⟨rfl, d3⟩
    have HE3 := Lib.hid (HE2.out.trans d3)
    clear d3
    go_wp2_with fail
    go_ret
    exact ⟨rfl, HE3.out⟩
  have hmW := madeW_of hmB
  have hnn := hmW.n
  have hLn := hmW.ok.len
  have hL40 : (madeL cs ns rs).length ≤ 40 := by omega
  replace hLn := Lib.hid hLn
  replace hmW := Lib.hid hmW
  replace hD := Lib.hid hD
  clear hmB HM
  generalize madeL cs ns rs = L at *
  go_wp2_with fail
  refine (HA.out _).mono ?_
  rintro e w2 ⟨rfl, d2⟩
  have hD2 := Lib.hid (hD.out.new d2)
  clear hD d2
  by_cases b4 : roots.length ≤ 40
  case neg =>
    have g4 : decide ((40 : Int) < roots.length) = true := decide_eq_true (by omega)
    clear b4
    go_wp2_with fail
    refine (HA.out _).mono ?_
    rintro e w3 ⟨rfl, d3⟩
    have HE3 := Lib.hid (cA.out.trans (hD2.out.new d3).ch)
    clear d3
    go_wp2_with fail
    go_ret
    exact ⟨rfl, HE3.out⟩
  have g4 : decide ((40 : Int) < roots.length) = false := decide_eq_false (by omega)
  have hlow : Hid (Low L) := Lib.hid (fun nd hnd => by
    have h1 := (hmW.out.ok.mem).1 (mem_ids.2 ⟨nd, hnd, rfl⟩)
    have := hmW.out.n
    omega)
  have hrise : Hid (Rising L) := Lib.hid hD2.out.r.rise
  have hr1 := prun_res hD2.out.g (by omega) (hmW.out.right) (hmW.out.ok.refs) _ _ (keepOk_of (kp := fun _ => true) hlow.out (enters_of Try.func66 (by kernel_rfl) rfl) (fun W id cls ar nr cr ad na cd f _ _ _ => clo_plain1 W id cls ar nr cr ad na cd f)) _ _ (roots := roots) (HU.out.keep (cA.out.trans hD2.out.ch) (fun _ _ e => e)) (by omega)
  go_wp2_with fail
  refine hr1.mono ?_
  rintro e v1 ⟨la1, lc1, ca1, cc1, fa1, fc1, s1, t1, C1, F1, rfl, hPR1, hRA1, hRO1, c1⟩
  have hNO1 := Lib.hid (hRO1.off hD2.out.g.small c1)
  have dd : Ch0 _ (v1.alloc (.cells #[.slice la1 t1.length lc1, .slice ca1 C1.length cc1, .slice fa1 F1.length fc1] 86)) := c1.alloc _
  have hD3 := Lib.hid (hD2.out.new dd)
  replace hRA1 := Lib.hid hRA1
  replace hPR1 := Lib.hid hPR1
  clear hr1 hRO1 c1 dd
  go_wp2_with fail
  generalize v1.alloc (.cells #[.slice la1 t1.length lc1, .slice ca1 C1.length cc1, .slice fa1 F1.length fc1] 86) = W1 at *
  generalize v1.heap.size = Q1 at *
  have hkd : Hid (∀ x ∈ ids L, (gaim cs L x).2 = 0) := Lib.hid (by have := hmW.out.ok.wf; rw [hcs.out] at this ⊢; exact plc_kind hrise.out this)
  have hfi : Hid (∀ nd ∈ L, nd.fin = false) := Lib.hid (by have := hmW.out.ok.wf; have h2 := hmW.out.ok.fin; rw [hcs.out] at this h2; exact plc_fin this h2)
  obtain ⟨h1, h2, h3⟩ := hPR1.out.plain hrise.out hmW.out.right hmW.out.ok.wf hmW.out.ok.refs hkd.out hfi.out
  subst h1 h2
  have hcl : Hid (∀ w', Ch0 W1 w' → _) := Lib.hid (fun w' (c : Ch0 W1 w') => rclose_of (hD3.out.new c).r hmW.out.right (by omega) _ _ roots (HU.out.keep (cA.out.trans (hD3.out.new c).ch) (fun _ _ e => e)) 1)
  have hrun : Hid (∀ w', Ch0 W1 w' → _) := Lib.hid (fun w' (c : Ch0 W1 w') => prun_res (hD3.out.new c).g (by omega) hmW.out.right hmW.out.ok.refs _ _ (show KeepOk .nilFunc (fun _ => false) _ _ from .inl ⟨rfl, rfl⟩) _ _ (roots := roots) (HU.out.keep (cA.out.trans (hD3.out.new c).ch) (fun _ _ e => e)) (by omega))
  have hsa : Hid (∀ w' D v xs, Ch0 W1 w' → SeesI D w' v xs → xs = closeL cs L 1 roots → Calls Try.prog 41 #[.slice la1 t1.length lc1, v] w' fun e w'' => e = .returned (.bool true) ∧ Ch0 w' w'') := Lib.hid (fun w' D v xs c hs e => by
    have := same_any _ _ _ _ _ _ w' (hRA1.out.new c).l.sees hs
    rw [e, ← h3, decide_eq_true rfl] at this
    exact this.mono (fun _ _ ⟨a, n, b⟩ => ⟨a, b ▸ ch_drewN' w' n⟩))
  have hsb : Hid (∀ w' D v xs, Ch0 W1 w' → SeesI D w' v xs → xs = closeL cs L 1 roots → Calls Try.prog 41 #[v, .slice la1 t1.length lc1] w' fun e w'' => e = .returned (.bool true) ∧ Ch0 w' w'') := Lib.hid (fun w' D v xs c hs e => by
    have := same_any _ _ _ _ _ _ w' hs (hRA1.out.new c).l.sees
    rw [e, ← h3, decide_eq_true rfl] at this
    exact this.mono (fun _ _ ⟨a, n, b⟩ => ⟨a, b ▸ ch_drewN' w' n⟩))
  have hpl : Hid (∀ s t C F, PR cs L (fun _ => false) roots s t C F → t = closeL cs L 1 roots) := Lib.hid (fun s t C F h => (h.plain hrise.out hmW.out.right hmW.out.ok.wf hmW.out.ok.refs hkd.out hfi.out).2.2)
  have hce : Hid (Ch0 w W1) := Lib.hid (cA.out.trans hD3.out.ch)
  have xx : Hid (∀ w', Ch0 W1 w' → w'.cell? ⟨Q1, 0, none⟩ = some (.slice la1 t1.length lc1) ∧ w'.cell? ⟨Q1, 1, none⟩ = some (.slice ca1 0 cc1) ∧ w'.cell? ⟨Q1, 2, none⟩ = some (.slice fa1 0 fc1)) := Lib.hid (fun w' c => (hRA1.out.new c).cells)
  obtain ⟨z0, z1, z2⟩ := xx.out W1 (Ch.refl _ _)
  have l0 : ([] : List Int).length = 0 := rfl
  have hfd : ∀ (a b c : Value) (w : World), (Instr.field 86 (.agg #[a, b, c]) 0).run Try.prog w = .ok a w := fun a b c w => by first | rfl | kernel_rfl
  clear hkd hfi h3 hPR1 hD2 hRA1 hNO1
  go_wp2_with fail
  go_region_held3 (fun w' => w'.cell? ⟨Q1, 0, none⟩ = some (.slice la1 t1.length lc1) ∧ w'.cell? ⟨Q1, 1, none⟩ = some (.slice ca1 0 cc1) ∧ w'.cell? ⟨Q1, 2, none⟩ = some (.slice fa1 0 fc1))
    (first | exact xx.out _ d5 | exact xx.out _ d4 | exact xx.out _ d3 | exact xx.out _ d2 | exact xx.out _ (Ch.refl _ W1).drew | go_keep)
    ((first
      | (go_at_call 60; refine (hcl.out _ (Ch.refl _ W1).drew).mono ?_; rintro e wx ⟨vx, rfl, rx, fx, cx⟩; obtain ⟨ax, ccx, rfl, -, -⟩ := rx.isSlice; have d2 : Ch0 W1 wx := (Ch.refl _ W1).drew.trans cx)
      | (go_at_call 65; refine (hrun.out _ d3).mono ?_; rintro e wz ⟨laz, lcz, caz, ccz, faz, fcz, sz, tz, Cz, Fz, rfl, hPz, -, hROz, cz⟩; have d4 : Ch0 W1 wz := d3.trans cz)
      | (go_at_call 41; with_reducible refine (hsa.out _ _ _ _ d2 rx.sees rfl).mono ?_; rintro e wy ⟨rfl, cy⟩; have d3 : Ch0 W1 wy := d2.trans cy)
      | (go_at_call 41; with_reducible refine (hsb.out _ _ _ _ d4 hROz.l.sees (hpl.out _ _ _ _ hPz)).mono ?_; rintro e wu ⟨rfl, cu⟩; have d5 : Ch0 W1 wu := d4.trans cu)))
  rename_i hheld
  have HE := Lib.hid (hce.out.trans d5)
  clear hheld
  go_wp2_with fail
  go_ret
  exact ⟨rfl, HE.out⟩

end Go.Proofs.Ytlmeponoadhheaa
