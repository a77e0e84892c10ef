/-
  gleaninglaw10.StrengthAims answers true: the walk.
-/
import Derived.Test.YtlmeponoadhheaaTells10
import Derived.Test.YtlmeponoadhheaaProc2
import Derived.Test.YtlmeponoadhheaaGl
namespace Go.Proofs.Ytlmeponoadhheaa
set_option linter.unusedVariables false
open Go.RowKit

theorem idx6 (w : World) (k v : Int) (h : (k = 0 ∧ v = 0) ∨ (k = 3 ∧ v = 2) ∨ (k = 4 ∧ v = 3) ∨ (k = 5 ∧ v = 5)) :
    (Instr.index 81 (.agg #[.int .i64 0, .int .i64 0, .int .i64 0, .int .i64 2, .int .i64 3, .int .i64 5]) (.int .i64 k)).run Try.prog w = .ok (.int .i64 v) w := by
  rcases h with ⟨rfl, rfl⟩ | ⟨rfl, rfl⟩ | ⟨rfl, rfl⟩ | ⟨rfl, rfl⟩ <;> kernel_rfl

set_option maxRecDepth 100000 in
set_option maxHeartbeats 4000000 in
theorem aims10_walk (cs : List Cls) (ns : List Int) (rs : List (Int × Int × Int)) (cv nv rv u : Value) (roots : List Int) (w : World) (hs : SeesW (fun k => k < w.heap.size) w cv nv rv cs ns rs) (hf : Fit cs) (hu : SeesI (fun k => k < w.heap.size) w u roots) :
    Calls Try.prog 11 #[.agg #[cv, nv, rv], u] w fun e w' => e = .returned (.bool true) ∧ Ch0 w w' := by
  obtain ⟨na, nc, rfl, hnl⟩ := hs.n.len
  obtain ⟨ca, cc, rfl, -⟩ := hs.c.len
  obtain ⟨ra, rc, rfl, -⟩ := hs.r.len
  have HA := Lib.hid awake10
  have HM : Hid (∀ W, Ch0 w W → _) := Lib.hid (fun W (c : Ch0 w W) => made_at hs hf c)
  obtain ⟨ua, uc, rfl, hul⟩ := hu.len
  have HU := Lib.hid hu
  clear hs hf hu
  have cA : Ch0 w (w.alloc (.cells #[.slice ca cs.length cc, .slice na ns.length nc, .slice ra rs.length rc] 72)) := (Ch.refl _ _).alloc _
  have x1 := cell_of_row _ w.heap.size 1 _ _ _ (heap_alloc_new w (.cells #[.slice ca cs.length cc, .slice na ns.length nc, .slice ra rs.length rc] 72))
  simp only [List.getElem?_toArray, List.getElem?_cons_zero, List.getElem?_cons_succ] at x1
  replace cA := Lib.hid cA
  go_enter Try.func11, Try.ntmps11
  go_wp2_with fail
  generalize w.alloc (.cells #[.slice ca cs.length cc, .slice na ns.length nc, .slice ra rs.length rc] 72) = W0 at *
  generalize w.heap.size = P at *
  refine (HM.out _ cA.out).mono ?_
  rintro e w1 (⟨hmB, rfl, d1⟩ | ⟨hmB, b1, b2, p, lo, hi, O1, O2, D, rfl, hD⟩)
  · have HE := Lib.hid (cA.out.trans d1)
    clear d1 HM hmB
    go_wp2_with fail
    refine (HA.out _).mono ?_
    rintro e w2 ⟨rfl, d2⟩
    have HE2 := Lib.hid (HE.out.trans d2)
    clear d2
    go_wp2_with fail
    refine (HA.out _).mono ?_
    rintro e w3 ⟨rfl, d3⟩
    have HE3 := Lib.hid (HE2.out.trans d3)
    clear d3
    go_wp2_with fail
    go_ret
    exact ⟨rfl, HE3.out⟩
  have hmW := madeW_of hmB
  have hnn := hmW.n
  have hLn := hmW.ok.len
  replace hmW := Lib.hid hmW
  replace hD := Lib.hid hD
  clear hmB HM
  generalize madeL cs ns rs = L at *
  go_wp2_with fail
  refine (HA.out _).mono ?_
  rintro e w2 ⟨rfl, d2⟩
  have hD2 := Lib.hid (hD.out.new d2)
  clear hD d2
  by_cases b4 : roots.length ≤ 40
  case neg =>
    have g4 : decide ((40 : Int) < roots.length) = true := decide_eq_true (by omega)
    clear b4
    go_wp2_with fail
    refine (HA.out _).mono ?_
    rintro e w3 ⟨rfl, d3⟩
    have HE3 := Lib.hid (cA.out.trans (hD2.out.new d3).ch)
    clear d3
    go_wp2_with fail
    go_ret
    exact ⟨rfl, HE3.out⟩
  have g4 : decide ((40 : Int) < roots.length) = false := decide_eq_false (by omega)
  go_wp2_with fail
  go_loopw [8, 9] (fun pv i wr => ∃ (k : Nat) (pl : Bool), 1 ≤ k ∧ k ≤ ns.length + 1 ∧ i = .int .i64 k ∧ pv = .bool pl ∧ (pl = true → ∀ id : Int, 1 ≤ id → id < k → (gaim cs L id).2 = 0 ∧ isFin L id = false) ∧ Ch0 w2 wr) (fun _ i _ => ns.length + 1 - (intOf i).toNat)
  case atStart => exact ⟨1, true, by omega, by omega, rfl, rfl, (fun _ id h1 h2 => by omega), Ch.refl _ _⟩
  case round =>
    obtain ⟨k, pl, hk1, hk, rfl, rfl, hpl, c⟩ := hrel
    have hD := hD2.out.new c
    have y1 := hD.ch.cell x1 (fun e => e)
    by_cases hlt : k ≤ ns.length
    · have g5 : decide ((k : Int) ≤ ns.length) = true := decide_eq_true (by omega)
      have hin : (k : Int) ∈ ids L := (hmW.out.ok.mem).2 ⟨by omega, by omega⟩
      obtain ⟨nd, hnd, hid⟩ := mem_ids.1 hin
      have hat : gat L (k : Int) = some nd := by rw [← hid]; exact gat_at hD.r.rise hnd
      have hfi : Hid (isFin L (k : Int) = nd.fin) := Lib.hid (by unfold isFin; rw [hat])
      have hny := node_yes hD.g.g hnd (by have := (hmW.out.ok.wf nd hnd).refs; omega) (by have := (hmW.out.ok.wf nd hnd).data; omega)
      rw [hid] at hny
      replace hid := Lib.hid hid
      have hg := gaim_in hmW.out.right hmW.out.ok.wf hmW.out.ok.refs (k : Int)
      have haims : Hid (∀ w', Ch0 wr w' → _) := Lib.hid (fun w' (c : Ch0 wr w') => aim_of (hD.g.new c) (k : Int))
      have t5 : IntKind.i64.wrap ((k : Int) + 1) = (k : Int) + 1 := IntWalk.i64_in _ (by omega)
      have hla : Hid ((gaim cs L (k : Int)).2 = 3 ∨ (gaim cs L (k : Int)).2 = 4 ∨ (gaim cs L (k : Int)).2 = 5 → (gaim cs L (k : Int)).1 ≠ 0 → (gaim cs L (k : Int)).1 ∈ ids L → ofL cs L (k : Int) roots ≠ 0 → ofL cs L (k : Int) roots ≤ kindLevel (gaim cs L (k : Int)).2 → ofL cs L (gaim cs L (k : Int)).1 roots ≠ 0 ∧ ofL cs L (gaim cs L (k : Int)).1 roots ≤ kindLevel (gaim cs L (k : Int)).2) := Lib.hid ofL_aim
      have hox : Hid (∀ w', Ch0 wr w' → _) := Lib.hid (fun w' (c : Ch0 wr w') => of_of (hD.g.new c) (by omega) _ _ roots (HU.out.keep (cA.out.trans (hD.ch.trans c)) (fun _ _ e => e)) (by omega) (k : Int))
      have hoy : Hid (∀ w', Ch0 wr w' → _) := Lib.hid (fun w' (c : Ch0 wr w') => of_of (hD.g.new c) (by omega) _ _ roots (HU.out.keep (cA.out.trans (hD.ch.trans c)) (fun _ _ e => e)) (by omega) (gaim cs L (k : Int)).1)
      have hplN : Hid ((gaim cs L (k : Int)).2 = 0 → nd.fin = false → pl = true → (∀ id : Int, 1 ≤ id → id < ((k + 1 : Nat) : Int) → (gaim cs L id).2 = 0 ∧ isFin L id = false)) := Lib.hid (fun h1 h2 h3 id q1 q2 => by
        by_cases e : id = k
        · subst e; exact ⟨h1, by rw [hfi.out]; exact h2⟩
        · exact hpl h3 id q1 (by omega))
      replace hD := Lib.hid hD
      replace c := Lib.hid c
      clear hpl hat hin hfi
      generalize (gaim cs L (k : Int)).1 = to at *
      generalize (gaim cs L (k : Int)).2 = kd at *
      generalize ofL cs L (k : Int) roots = x at *
      generalize ofL cs L to roots = y at *
      go_wp2_with fail
      refine hny.mono ?_
      rintro e w3 ⟨nv, vr, vd, rfl, hcp, c3⟩
      obtain ⟨ar, cr, rfl, -, -⟩ := hcp.refs.isSlice
      obtain ⟨ad, cd, rfl, -, -⟩ := hcp.data.isSlice
      obtain rfl : nv = .agg #[.int .i64 nd.id, .int .i64 nd.cls, .slice ar nd.refs.length cr, .slice ad nd.data.length cd, .bool nd.fin] := hcp.v
      have y4 := (Held1.new hcp).y4
      have cb : Ch0 w3 (w3.alloc (.cells #[.int .i64 nd.id, .int .i64 nd.cls, .slice ar nd.refs.length cr, .slice ad nd.data.length cd, .bool nd.fin] 36)) := (Ch.refl _ _).alloc _
      have c4 := c3.trans cb
      have ham := haims.out _ c4
      replace c4 := Lib.hid c4
      clear hny hcp cb c3 haims
      generalize nd.fin = F at *
      generalize nd.id = ND at *
      go_wp2_with fail
      generalize w3.alloc (.cells #[.int .i64 ND, .int .i64 nd.cls, .slice ar nd.refs.length cr, .slice ad nd.data.length cd, .bool F] 36) = W4 at *
      generalize w3.heap.size = P4 at *
      refine ham.mono ?_
      rintro e w5 ⟨rfl, c5⟩
      have y4' := c5.cell y4 (fun e => e)
      have c6 := c4.out.trans c5
      have hox2 := hox.out _ c6
      replace c6 := Lib.hid c6
      clear ham c5 y4 c4 hox
      have hcase : (kd = 0 ∧ to = 0) ∨ (kd = 3 ∧ (to = 0 ∨ to ∈ ids L)) ∨ (kd = 4 ∧ (to = 0 ∨ to ∈ ids L)) ∨ (kd = 5 ∧ (to = 0 ∨ to ∈ ids L)) := by
        rcases hg with ⟨q1, q2⟩ | ⟨q1, q2 | q2 | q2⟩
        · exact .inl ⟨q2, q1⟩
        · exact .inr (.inl ⟨q2, q1⟩)
        · exact .inr (.inr (.inl ⟨q2, q1⟩))
        · exact .inr (.inr (.inr ⟨q2, q1⟩))
      clear hg
      obtain ⟨pn, hpn⟩ : ∃ pn : Bool, pn = (pl && (decide (kd = 0) && !F)) := ⟨_, rfl⟩
      rcases hcase with ⟨rfl, rfl⟩ | ⟨rfl, hto⟩ | ⟨rfl, hto⟩ | ⟨rfl, hto⟩
      · have hpnE : Hid (pn = true → (∀ id : Int, 1 ≤ id → id < ((k + 1 : Nat) : Int) → (gaim cs L id).2 = 0 ∧ isFin L id = false)) := Lib.hid (fun h => by
          rw [hpn] at h
          simp at h
          exact hplN.out rfl h.2 h.1)
        have ix := fun w => idx6 w 0 0 (by simp)
        clear hla hoy
        cases pl <;> cases F
        all_goals
          simp at hpn
          subst hpn
          go_wp2_with fail
          refine hox2.mono ?_
          rintro e w7 ⟨rfl, c7⟩
          have HE := Lib.hid (c.out.trans (c6.out.trans c7))
          clear hox2 c7 y4'
          go_wp2_with fail
          go_roundw
          case rel => exact ⟨k + 1, _, by omega, by omega, by go_num, rfl, (fun h => hpnE.out (by first | trivial | exact h)), HE.out⟩
          case measure => simp [intOf]; omega
      · obtain rfl : pn = false := by rw [hpn]; simp
        have ix := fun w => idx6 w 3 2 (by simp)
        have hla' := hla.out (by simp)
        rw [show kindLevel 3 = 2 from rfl] at hla'
        clear hla
        clear hplN hpn
        rcases (show (to == 0) = true ∨ ((to == 0) = false ∧ (x == 0) = true) ∨ ((to == 0) = false ∧ (x == 0) = false ∧ decide (2 < x) = true) ∨ ((to == 0) = false ∧ (x == 0) = false ∧ decide (2 < x) = false ∧ (y == 0) = false ∧ decide (2 < y) = false) by
          by_cases q1 : to = 0
          · left; simp [q1]
          by_cases q2 : x = 0
          · right; left; exact ⟨by simpa using q1, by simpa using q2⟩
          by_cases q3 : 2 < x
          · right; right; left; exact ⟨by simpa using q1, by simpa using q2, decide_eq_true q3⟩
          · right; right; right
            have := hla' q1 (hto.resolve_left q1) q2 (by omega)
            exact ⟨by simpa using q1, by simpa using q2, decide_eq_false q3, beq_eq_false_iff_ne.2 this.1, decide_eq_false (by omega)⟩) with s1 | ⟨s1, s2⟩ | ⟨s1, s2, s3⟩ | ⟨s1, s2, s3, s4, s5⟩
        all_goals
          clear hla' hto
          cases pl
        all_goals
          go_wp2_with fail
          refine hox2.mono ?_
          rintro e w7 ⟨rfl, c7⟩
          have c8 := c6.out.trans c7
          have hoy2 := hoy.out _ c8
          have HE := Lib.hid (c.out.trans c8)
          clear hox2 c7 y4' c8 hoy
          go_wp2_with fail
        all_goals
          first
            | (refine hoy2.mono ?_
               rintro e w9 ⟨rfl, c9⟩
               replace HE := Lib.hid (HE.out.trans c9)
               clear hoy2 c9
               go_wp2_with fail
               go_roundw
               case rel => exact ⟨k + 1, false, by omega, by omega, by go_num, rfl, (fun h => by cases h), HE.out⟩
               case measure => simp [intOf]; omega)
            | (go_roundw
               case rel => exact ⟨k + 1, false, by omega, by omega, by go_num, rfl, (fun h => by cases h), HE.out⟩
               case measure => simp [intOf]; omega)
      · obtain rfl : pn = false := by rw [hpn]; simp
        have ix := fun w => idx6 w 4 3 (by simp)
        have hla' := hla.out (by simp)
        rw [show kindLevel 4 = 3 from rfl] at hla'
        clear hla
        clear hplN hpn
        rcases (show (to == 0) = true ∨ ((to == 0) = false ∧ (x == 0) = true) ∨ ((to == 0) = false ∧ (x == 0) = false ∧ decide (3 < x) = true) ∨ ((to == 0) = false ∧ (x == 0) = false ∧ decide (3 < x) = false ∧ (y == 0) = false ∧ decide (3 < y) = false) by
          by_cases q1 : to = 0
          · left; simp [q1]
          by_cases q2 : x = 0
          · right; left; exact ⟨by simpa using q1, by simpa using q2⟩
          by_cases q3 : 3 < x
          · right; right; left; exact ⟨by simpa using q1, by simpa using q2, decide_eq_true q3⟩
          · right; right; right
            have := hla' q1 (hto.resolve_left q1) q2 (by omega)
            exact ⟨by simpa using q1, by simpa using q2, decide_eq_false q3, beq_eq_false_iff_ne.2 this.1, decide_eq_false (by omega)⟩) with s1 | ⟨s1, s2⟩ | ⟨s1, s2, s3⟩ | ⟨s1, s2, s3, s4, s5⟩
        all_goals
          clear hla' hto
          cases pl
        all_goals
          go_wp2_with fail
          refine hox2.mono ?_
          rintro e w7 ⟨rfl, c7⟩
          have c8 := c6.out.trans c7
          have hoy2 := hoy.out _ c8
          have HE := Lib.hid (c.out.trans c8)
          clear hox2 c7 y4' c8 hoy
          go_wp2_with fail
        all_goals
          first
            | (refine hoy2.mono ?_
               rintro e w9 ⟨rfl, c9⟩
               replace HE := Lib.hid (HE.out.trans c9)
               clear hoy2 c9
               go_wp2_with fail
               go_roundw
               case rel => exact ⟨k + 1, false, by omega, by omega, by go_num, rfl, (fun h => by cases h), HE.out⟩
               case measure => simp [intOf]; omega)
            | (go_roundw
               case rel => exact ⟨k + 1, false, by omega, by omega, by go_num, rfl, (fun h => by cases h), HE.out⟩
               case measure => simp [intOf]; omega)
      · obtain rfl : pn = false := by rw [hpn]; simp
        have ix := fun w => idx6 w 5 5 (by simp)
        have hla' := hla.out (by simp)
        rw [show kindLevel 5 = 5 from rfl] at hla'
        clear hla
        clear hplN hpn
        rcases (show (to == 0) = true ∨ ((to == 0) = false ∧ (x == 0) = true) ∨ ((to == 0) = false ∧ (x == 0) = false ∧ decide (5 < x) = true) ∨ ((to == 0) = false ∧ (x == 0) = false ∧ decide (5 < x) = false ∧ (y == 0) = false ∧ decide (5 < y) = false) by
          by_cases q1 : to = 0
          · left; simp [q1]
          by_cases q2 : x = 0
          · right; left; exact ⟨by simpa using q1, by simpa using q2⟩
          by_cases q3 : 5 < x
          · right; right; left; exact ⟨by simpa using q1, by simpa using q2, decide_eq_true q3⟩
          · right; right; right
            have := hla' q1 (hto.resolve_left q1) q2 (by omega)
            exact ⟨by simpa using q1, by simpa using q2, decide_eq_false q3, beq_eq_false_iff_ne.2 this.1, decide_eq_false (by omega)⟩) with s1 | ⟨s1, s2⟩ | ⟨s1, s2, s3⟩ | ⟨s1, s2, s3, s4, s5⟩
        all_goals
          clear hla' hto
          cases pl
        all_goals
          go_wp2_with fail
          refine hox2.mono ?_
          rintro e w7 ⟨rfl, c7⟩
          have c8 := c6.out.trans c7
          have hoy2 := hoy.out _ c8
          have HE := Lib.hid (c.out.trans c8)
          clear hox2 c7 y4' c8 hoy
          go_wp2_with fail
        all_goals
          first
            | (refine hoy2.mono ?_
               rintro e w9 ⟨rfl, c9⟩
               replace HE := Lib.hid (HE.out.trans c9)
               clear hoy2 c9
               go_wp2_with fail
               go_roundw
               case rel => exact ⟨k + 1, false, by omega, by omega, by go_num, rfl, (fun h => by cases h), HE.out⟩
               case measure => simp [intOf]; omega)
            | (go_roundw
               case rel => exact ⟨k + 1, false, by omega, by omega, by go_num, rfl, (fun h => by cases h), HE.out⟩
               case measure => simp [intOf]; omega)
    · have g5 : decide ((k : Int) ≤ ns.length) = false := decide_eq_false (by omega)
      have hof : Hid (pl = true → ∀ id : Int, ofL cs L id roots = 1 ∨ ofL cs L id roots = 0) := Lib.hid (fun h id => ofL_plain (fun x hx => (hpl h x ((hmW.out.ok.mem).1 hx).1 (by have := ((hmW.out.ok.mem).1 hx).2; omega)).1) (by
        unfold finalsL
        rw [show L.filter (fun nd => nd.fin) = [] from List.filter_eq_nil_iff.2 (fun nd hnd => by
          have hin := mem_ids.2 ⟨nd, hnd, rfl⟩
          have := (hpl h nd.id ((hmW.out.ok.mem).1 hin).1 (by have := ((hmW.out.ok.mem).1 hin).2; omega)).2
          unfold isFin at this
          rw [gat_at hD.r.rise hnd] at this
          simpa using this)]
        rfl))
      replace hD := Lib.hid hD
      replace c := Lib.hid c
      clear hpl
      go_wp2_with fail
      go_loopw [17] (fun i wr => ∃ q : Nat, 1 ≤ q ∧ q ≤ ns.length + 1 ∧ i = .int .i64 q ∧ Ch0 w2 wr) (fun i _ => ns.length + 1 - (intOf i).toNat)
      case atStart => exact ⟨1, by omega, by omega, rfl, c.out⟩
      case round =>
        obtain ⟨q, hq1, hq, rfl, d⟩ := hrel
        have hDq := hD2.out.new d
        have y1' := hDq.ch.cell x1 (fun e => e)
        by_cases hlt2 : q ≤ ns.length
        · have h5 : decide ((q : Int) ≤ ns.length) = true := decide_eq_true (by omega)
          cases pl with
          | false =>
            have HE := Lib.hid (cA.out.trans hDq.ch)
            clear hDq d
            go_wp2_with fail
            go_ret
            exact ⟨rfl, HE.out⟩
          | true =>
            have hox := of_of hDq.g (by omega) _ _ roots (HU.out.keep (cA.out.trans hDq.ch) (fun _ _ e => e)) (by omega) (q : Int)
            have t5 : IntKind.i64.wrap ((q : Int) + 1) = (q : Int) + 1 := IntWalk.i64_in _ (by omega)
            have h01 := hof.out (by trivial) (q : Int)
            replace d := Lib.hid d
            clear hDq
            generalize ofL cs L (q : Int) roots = x at *
            rcases h01 with rfl | rfl
            all_goals
              go_wp2_with fail
              refine hox.mono ?_
              rintro e w7 ⟨rfl, c7⟩
              have HE := Lib.hid (d.out.trans c7)
              clear hox c7
              go_wp2_with fail
              go_roundw
              case rel => exact ⟨q + 1, by omega, by omega, by go_num, HE.out⟩
              case measure => simp [intOf]; omega
        · obtain rfl : q = ns.length + 1 := by omega
          have HE := Lib.hid (cA.out.trans hDq.ch)
          clear hDq d
          go_wp2_with fail
          go_ret
          exact ⟨rfl, HE.out⟩

end Go.Proofs.Ytlmeponoadhheaa
