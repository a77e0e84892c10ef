/-
  The law's awake (process); its made, of a world that stands.
-/
import Derived.Test.YtlmeponoadhheaaPRun
import Derived.Test.YtlmeponoadhheaaProc4
import Derived.Test.YtlmeponoadhheaaMadeP
import Derived.Test.YtlmeponoadhheaaTells10
namespace Go.Proofs.Ytlmeponoadhheaa
set_option linter.unusedVariables false
open Go.RowKit Go.Sort

theorem quietS {P : Program} {f : FuncId} {args : Array Value} {w : World} {d : Nat} {os : Array Obj} {v : Value}
    (h : Calls P f args (grow (redrawn w d) os) fun e w' => e = .returned v ∧ SameW (grow (redrawn w d) os) w') : Calls P f args (grow (redrawn w d) os) fun e w'' => e = .returned v ∧ ∃ p : Regrown, w'' = grow (redrawn w p.d) p.os :=
  quietB (h.mono fun _ _ ⟨a, b⟩ => ⟨a, by obtain rfl := b; exact Ch.refl _ _⟩)

/-- made, of a world whose arguments stand -/
theorem pmade_at {cs : List Cls} {ns : List Int} {rs : List (Int × Int × Int)} {cv nv rv : Value} {w W : World} (hs : SeesW (fun k => k < w.heap.size) w cv nv rv cs ns rs) (hf : Fit cs) (c : Ch0 w W) :
    Calls Try.prog 63 #[.agg #[cv, nv, rv]] W fun e w' => (madeB cs ns rs = false ∧ e = .returned (.tuple #[.pointer none, .pointer none, .bool false]) ∧ Ch0 W w') ∨
      (madeB cs ns rs = true ∧ ∃ b1 b2 p lo hi O1 O2 D, e = .returned (.tuple #[.pointer (some ⟨b1, 0, none⟩), .pointer (some ⟨b2, 0, none⟩), .bool true]) ∧ Duo W w' cs p lo hi b1 O1 (madeL cs ns rs) b2 O2 D cv (madeL cs ns rs)) :=
  (pmade_of cs ns rs cv nv rv W ((hs.keep c (fun _ _ e => e)).mono (fun k hk => by have := c.size; omega)) hf).mono fun _ _ h => h.imp (fun q => q) (fun ⟨q, b1, b2, p, lo, hi, O1, O2, he, hd⟩ => ⟨q, b1, b2, p, lo, hi, O1, O2, _, he, hd⟩)

def pc1 : List Cls := [⟨4, 1, 2, false⟩, ⟨1, 0, 0, true⟩]
def pl1 : List GN := addL pc1 [] 1 1 0
def pl2 : List GN := addL pc1 pl1 2 2 0
def pl3 : List GN := setRefL pl2 1 0 2

theorem pl3_close : closeL pc1 pl3 1 [1] = [1] := by
  refine rising_ext (rchL_rising (by decide)) (by decide) (fun x => ⟨fun hx => ?_, fun hx => ?_⟩)
  · have hr := mem_closeL.1 hx
    clear hx
    induction hr with
    | root a _ =>
      unfold startL at a
      rw [if_neg (by omega)] at a
      simpa using a
    | step _ b _ ih =>
      rw [List.mem_singleton.1 ih, show nextL pc1 pl3 1 1 = [] by decide] at b
      cases b
  · rw [List.mem_singleton.1 hx]
    exact close_root (by simp) (by decide)

theorem pl3_end : closeL pc1 pl3 1 [1, 2] = [1, 2] := by
  refine rising_ext (rchL_rising (by decide)) (by decide) (fun x => ⟨fun hx => ?_, fun hx => ?_⟩)
  · have := closeL_ids hx
    have e : ids pl3 = [1, 2] := by decide
    rwa [e] at this
  · have e : ids pl3 = [1, 2] := by decide
    exact close_root hx (e ▸ hx)

theorem pl3_run {s t C F : List Int} (h : PR pc1 pl3 (fun _ => false) [1] s t C F) : t = [1, 2] ∧ C = [1] ∧ F = [2] := by
  have hs : s = [1] := by rw [h.es, live_none, pl3_close]
  have hF : F = [2] := by rw [h.ef, hs]; decide
  have ht : t = [1, 2] := by
    rw [h.et]
    unfold endL
    rw [hs, show ([1] : List Int) ++ finL pl3 [1] = [1, 2] by decide, pl3_end]
  refine ⟨ht, ?_, hF⟩
  rw [h.ec, hs, ht]
  decide

set_option maxRecDepth 100000 in
set_option maxHeartbeats 1000000 in
theorem awake13 (w : World) : Calls Try.prog 64 #[] w fun e w' => e = .returned (.bool true) ∧ Ch0 w w' := by
  have x1 : addE pc1 [] 1 1 0 = 0 := by decide
  have x2 : addE pc1 pl1 2 2 0 = 0 := by decide
  have x3 : setRefE pl2 1 0 2 = 0 := by decide
  have x7 : pl3.length ≤ 900 := by decide
  go_enter Try.func64, Try.ntmps64
  go_wp2_with fail
  refine (newcls_any _ _ pc1 _ (sees_two ⟨4, 1, 2, false⟩ ⟨1, 0, 0, true⟩ w) (by intro c hc; simp [pc1] at hc; rcases hc with rfl | rfl <;> constructor <;> decide)).mono ?_
  rintro e w1 ⟨u, rfl, hT, c1⟩
  have x0 : newC pc1 = 0 := by decide
  obtain ⟨p, rfl, hTab⟩ := newT_zero hT x0
  have cA : Ch0 w w1 := ((Ch.refl (fun _ => False) w).alloc _).trans c1
  have hn := gnew_of hTab (Nat.le_refl _)
  rw [x0]
  replace cA := Lib.hid cA
  clear c1 hT hTab x0
  generalize (w.alloc (.cells #[.int .i64 4, .int .i64 1, .int .i64 2, .bool false, .int .i64 1, .int .i64 0, .int .i64 0, .bool true] 40)).heap.size = lo at *
  go_wp2_with fail
  refine hn.mono ?_
  rintro e w2 ⟨b, rfl, O, hG, hO, c2⟩
  have hM : Mine w w2 O := ⟨cA.out.trans c2, fun k hk => by have := hO k hk; have := cA.out.size; omega⟩
  have ha := add_of hG 1 1 0 (by omega)
  rw [x1] at ha
  replace hM := Lib.hid hM
  clear hn hO c2 cA hG
  go_wp2_with fail
  refine ha.mono ?_
  rintro e w3 ⟨rfl, O3, hG3, t3⟩
  have hM3 := Lib.hid (hM.out.turn t3)
  have ha := add_of hG3 2 2 0 (by omega)
  rw [show addE pc1 (addL pc1 [] 1 1 0) 2 2 0 = 0 from x2] at ha
  clear hM t3 hG3
  go_wp2_with fail
  refine ha.mono ?_
  rintro e w4 ⟨rfl, O4, hG4, t4⟩
  have hM4 := Lib.hid (hM3.out.turn t4)
  have hs := setref_of hG4 1 0 2
  rw [show setRefE (addL pc1 (addL pc1 [] 1 1 0) 2 2 0) 1 0 2 = 0 from x3] at hs
  clear hM3 t4 hG4 ha
  go_wp2_with fail
  refine hs.mono ?_
  rintro e w5 ⟨rfl, hG5, t5⟩
  have hM5 := Lib.hid (hM4.out.turn t5)
  replace hG5 : Gt w5 b O4 pc1 pl3 p lo w1.heap.size := hG5
  have hA := prun_res (hG5.new ((Ch.refl _ w5).alloc _)) x7 (by decide) (by unfold RefsIn; decide) .nilFunc (fun _ => false) (.inl ⟨rfl, rfl⟩) _ _ (sees_int1 w5 1) (by decide)
  replace hG5 := Lib.hid hG5
  clear hM4 t5 hs
  go_wp2_with fail
  refine hA.mono ?_
  rintro e w6 ⟨la, lc, ca, cc, fa, fc, s, t, C, F, rfl, hPR, hR, -, c6'⟩
  obtain ⟨rfl, rfl, rfl⟩ := pl3_run hPR
  have c6 := (((Ch.refl (fun _ => False) w5).alloc _).trans c6').alloc (.cells #[.slice la 2 lc, .slice ca 1 cc, .slice fa 1 fc] 86)
  have HE := Lib.hid (hM5.out.ch.trans c6)
  obtain ⟨y0, y1, y2⟩ := hR.cells
  obtain ⟨g, o, c1, -, e1, hcell⟩ := SeesI.cell hR.c.sees (by decide)
  obtain ⟨rfl, rfl⟩ : ca = some ⟨g, o, none⟩ ∧ cc = c1 := by simpa using e1
  have q0 := hcell 0 (by decide)
  obtain ⟨g2, o2, c2', -, e2, hcell2⟩ := SeesI.cell hR.f.sees (by decide)
  obtain ⟨rfl, rfl⟩ : fa = some ⟨g2, o2, none⟩ ∧ fc = c2' := by simpa using e2
  have q1 := hcell2 0 (by decide)
  simp only [Nat.add_zero, List.getD_cons_zero] at q0 q1
  have l1 : ([1, 2] : List Int).length = 2 := rfl
  have l2 : ([1] : List Int).length = 1 := rfl
  have l3 : ([2] : List Int).length = 1 := rfl
  simp only [l1, l2, l3] at q0 q1 y0 y1 y2
  clear hA hPR hR c6 c6' hcell hcell2 e1 e2
  go_wp2_with fail
  go_ret
  exact ⟨rfl, HE.out⟩

end Go.Proofs.Ytlmeponoadhheaa
