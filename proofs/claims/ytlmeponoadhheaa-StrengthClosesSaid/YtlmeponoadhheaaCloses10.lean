/-
  gleaninglaw10.StrengthCloses answers true: the walk.
-/
import Derived.Test.YtlmeponoadhheaaTells10
import Derived.Test.YtlmeponoadhheaaGl
namespace Go.Proofs.Ytlmeponoadhheaa
set_option linter.unusedVariables false
open Go.RowKit

set_option maxRecDepth 100000 in
set_option maxHeartbeats 4000000 in
theorem closes10_walk (cs : List Cls) (ns : List Int) (rs : List (Int × Int × Int)) (cv nv rv u : Value) (roots : List Int) (level : Int) (w : World) (hs : SeesW (fun k => k < w.heap.size) w cv nv rv cs ns rs) (hf : Fit cs) (hu : SeesI (fun k => k < w.heap.size) w u roots) :
    Calls Try.prog 13 #[.agg #[cv, nv, rv], u, .int .i64 level] w fun e w' => e = .returned (.bool true) ∧ Ch0 w w' := by
  obtain ⟨na, nc, rfl, hnl⟩ := hs.n.len
  obtain ⟨ca, cc, rfl, -⟩ := hs.c.len
  obtain ⟨ra, rc, rfl, -⟩ := hs.r.len
  have HA := Lib.hid awake10
  have HM : Hid (∀ W, Ch0 w W → _) := Lib.hid (fun W (c : Ch0 w W) => made_at hs hf c)
  obtain ⟨ua, uc, rfl, hul⟩ := hu.len
  have HU := Lib.hid hu
  clear hs hf hu
  have cA : Ch0 w (w.alloc (.cells #[.slice ca cs.length cc, .slice na ns.length nc, .slice ra rs.length rc] 72)) := (Ch.refl _ _).alloc _
  have x1 := cell_of_row _ w.heap.size 1 _ _ _ (heap_alloc_new w (.cells #[.slice ca cs.length cc, .slice na ns.length nc, .slice ra rs.length rc] 72))
  simp only [List.getElem?_toArray, List.getElem?_cons_zero, List.getElem?_cons_succ] at x1
  replace cA := Lib.hid cA
  go_enter Try.func13, Try.ntmps13
  go_wp2_with fail
  generalize w.alloc (.cells #[.slice ca cs.length cc, .slice na ns.length nc, .slice ra rs.length rc] 72) = W0 at *
  generalize w.heap.size = P at *
  refine (HM.out _ cA.out).mono ?_
  rintro e w1 (⟨hmB, rfl, d1⟩ | ⟨hmB, b1, b2, p, lo, hi, O1, O2, D, rfl, hD⟩)
  · have HE := Lib.hid (cA.out.trans d1)
    clear d1 HM hmB
    go_wp2_with fail
    refine (HA.out _).mono ?_
    rintro e w2 ⟨rfl, d2⟩
    have HE2 := Lib.hid (HE.out.trans d2)
    clear d2
    go_wp2_with fail
    refine (HA.out _).mono ?_
    rintro e w3 ⟨rfl, d3⟩
    have HE3 := Lib.hid (HE2.out.trans d3)
    clear d3
    go_wp2_with fail
    go_ret
    exact ⟨rfl, HE3.out⟩
  have hmW := madeW_of hmB
  have hnn := hmW.n
  have hLn := hmW.ok.len
  replace hmW := Lib.hid hmW
  replace hD := Lib.hid hD
  clear hmB HM
  generalize madeL cs ns rs = L at *
  go_wp2_with fail
  refine (HA.out _).mono ?_
  rintro e w2 ⟨rfl, d2⟩
  have hD2 := Lib.hid (hD.out.new d2)
  clear hD d2
  by_cases b4 : roots.length ≤ 40
  case neg =>
    have g4 : decide ((40 : Int) < roots.length) = true := decide_eq_true (by omega)
    clear b4
    go_wp2_with fail
    refine (HA.out _).mono ?_
    rintro e w3 ⟨rfl, d3⟩
    have HE3 := Lib.hid (cA.out.trans (hD2.out.new d3).ch)
    clear d3
    go_wp2_with fail
    go_ret
    exact ⟨rfl, HE3.out⟩
  have g4 : decide ((40 : Int) < roots.length) = false := decide_eq_false (by omega)
  have hwi := within_of hD2.out.g (by omega) _ _ roots (HU.out.keep (cA.out.trans hD2.out.ch) (fun _ _ e => e)) (by omega) level
  have hwl := within_len (cs := cs) (L := L) (lv := level) (r := roots)
  have hidem : Hid (1 ≤ level → withinL cs L level (withinL cs L level roots) = withinL cs L level roots) := Lib.hid within_idem
  have hwhy : Hid (∀ x ∈ withinL cs L level roots, x ∈ ids L ∧ (x ∈ roots ∨ x ∈ finalsL L ∨ ∃ y ∈ withinL cs L level roots, x ∈ gholds cs L y ∨ (gaim cs L y).1 = x)) := Lib.hid (fun x hx => by
    refine ⟨closeL_ids (within_in hx), ?_⟩
    rcases close_why (within_in hx) with q | q | ⟨y, q1, q2⟩
    · exact .inl q
    · exact .inr (.inl q)
    · refine .inr (.inr ⟨y, ?_, q2⟩)
      unfold withinL at hx ⊢
      split at hx
      · cases hx
      · rename_i e; rw [if_neg e]; exact q1)
  go_wp2_with fail
  refine hwi.mono ?_
  rintro e w3 ⟨v3, rfl, r3, f3, c3⟩
  obtain ⟨a3, cc3, rfl, -, -⟩ := r3.isSlice
  have hD3 := Lib.hid (hD2.out.new c3)
  have hwj := within_of hD3.out.g (by omega) _ _ (withinL cs L level roots) r3.sees (by omega) level
  replace r3 := Lib.hid r3
  clear hwi c3 f3 hD2
  generalize hW : withinL cs L level roots = A at *
  replace hW := Lib.hid hW
  refine (if hlv : 1 ≤ level then ?ka else ?kb)
  case' ka =>
    have g5 : decide (1 ≤ level) = true := decide_eq_true hlv
    rw [hidem.out hlv] at hwj
    clear hlv
    go_wp2_with fail
    refine hwj.mono ?_
    rintro e w4 ⟨v4, rfl, r4, f4, c4⟩
    obtain ⟨a4, cc4, rfl, -, -⟩ := r4.isSlice
    have hsm := same_any _ _ _ _ _ _ w4 r4.sees ((r3.out.keep c4 (fun _ _ e => e)).sees)
    rw [decide_eq_true rfl] at hsm
    have c4' := Lib.hid c4
    clear hwj r4 f4 c4 g5
    go_wp2_with fail
    refine hsm.mono ?_
    rintro e wz ⟨rfl, n5, hw5⟩
    have hc : Hid (Ch0 w3 wz) := Lib.hid (c4'.out.trans (hw5 ▸ ch_drewN' w4 n5 : Ch0 w4 wz))
    clear hsm hw5 c4'
    go_wp2_with fail
  case' kb =>
    have g5 : decide (1 ≤ level) = false := decide_eq_false hlv
    have hc : Hid (Ch0 w3 w3) := Lib.hid (Ch.refl _ _)
    clear hwj hlv
    go_wp2_with fail
  all_goals
    go_loopw [53] (fun i wr => ∃ k : Nat, k ≤ A.length ∧ i = .int .i64 k ∧ Ch0 w3 wr) (fun i _ => A.length - (intOf i).toNat)
    case atStart => exact ⟨0, Nat.zero_le _, rfl, hc.out⟩
    case round =>
      clear hc
      obtain ⟨k, hk, rfl, c⟩ := hrel
      by_cases hlt : k < A.length
      · have hD := hD3.out.new c
        obtain ⟨g, o, cc1, -, e1, hcell⟩ := SeesI.cell ((r3.out.keep c (fun _ _ e => e)).sees) (by omega)
        obtain ⟨rfl, rfl⟩ : a3 = some ⟨g, o, none⟩ ∧ cc3 = cc1 := by simpa using e1
        have hx := hcell k hlt
        have hmem : A.getD k 0 ∈ A := by rw [List.getD_eq_getElem?_getD, List.getElem?_eq_getElem hlt]; exact List.getElem_mem _
        obtain ⟨hxi, hy⟩ := hwhy.out _ hmem
        have i1 : (0 : Int) ≤ k := by omega
        have i2 : (k : Int) < A.length := by omega
        clear hcell e1 hmem
        generalize A.getD k 0 = X at *
        obtain ⟨nd, hnd, rfl⟩ := mem_ids.1 hxi
        have hfin : nd.id ∈ finalsL L → nd.fin = true := fun h => by
          unfold finalsL at h
          obtain ⟨x, hx, e⟩ := mem_ids.1 h
          obtain ⟨h1, h2⟩ := List.mem_filter.1 hx
          rw [← rising_one hD.r.rise h1 hnd e]; exact h2
        have HX := Lib.hid (And.intro hy hfin)
        have hny := node_yes hD.g.g hnd (by have := (hmW.out.ok.wf nd hnd).refs; omega) (by have := (hmW.out.ok.wf nd hnd).data; omega)
        replace hD := Lib.hid hD
        replace c := Lib.hid c
        clear hxi hy hfin hnd
        go_wp2_with fail
        refine hny.mono ?_
        rintro e w6 ⟨nv, vr, vd, rfl, hcp, c6⟩
        obtain ⟨ar, cr, rfl, -, -⟩ := hcp.refs.isSlice
        obtain ⟨ad, cd, rfl, -, -⟩ := hcp.data.isSlice
        obtain rfl : nv = .agg #[.int .i64 nd.id, .int .i64 nd.cls, .slice ar nd.refs.length cr, .slice ad nd.data.length cd, .bool nd.fin] := hcp.v
        have y4 := (Held1.new hcp).y4
        have cb : Ch0 w6 (w6.alloc (.cells #[.int .i64 nd.id, .int .i64 nd.cls, .slice ar nd.refs.length cr, .slice ad nd.data.length cd, .bool nd.fin] 36)) := (Ch.refl _ _).alloc _
        have c7 := c6.trans cb
        have hD7 := Lib.hid (hD.out.new c7)
        have hx7 := c7.cell hx (fun e => e)
        have hh := has_any _ _ _ nd.id _ (HU.out.keep (cA.out.trans hD7.out.ch) (fun _ _ e => e))
        replace c7 := Lib.hid (c.out.trans c7)
        clear hny hcp cb c6 hD hx c
        generalize nd.fin = F at *
        generalize nd.id = X at *
        go_wp2_with fail
        generalize w6.alloc (.cells #[.int .i64 X, .int .i64 nd.cls, .slice ar nd.refs.length cr, .slice ad nd.data.length cd, .bool F] 36) = W7 at *
        generalize w6.heap.size = P7 at *
        refine hh.mono ?_
        rintro e w8 ⟨rfl, hs8⟩
        obtain rfl : W7 = w8 := hs8
        clear hh
        obtain ⟨led, hled, hl2⟩ : ∃ led : Bool, (decide (X ∈ roots) = true → led = true) ∧ (decide (X ∈ roots) = false → led = F) := ⟨decide (X ∈ roots) || F, by cases decide (X ∈ roots) <;> simp, by cases decide (X ∈ roots) <;> simp⟩
        have hl0 : Hid (led = false → X ∉ roots ∧ F = false) := Lib.hid (fun h => by
          cases hd : decide (X ∈ roots) with
          | true => rw [hled hd] at h; cases h
          | false => exact ⟨of_decide_eq_false hd, by rw [← hl2 hd]; exact h⟩)
        cases hd : decide (X ∈ roots)
        case' true => obtain rfl := hled hd
        case' false => obtain rfl : F = led := (hl2 hd).symm
        all_goals
          clear hd hled hl2
          go_wp2_with fail
          clear y4
          go_loopw [14, 77] (fun lv i wq => ∃ (t : Nat) (lb : Bool), t ≤ A.length ∧ i = .int .i64 t ∧ lv = .bool lb ∧ (lb = false → X ∉ roots ∧ F = false ∧ ∀ y ∈ A.take t, (gaim cs L y).1 ≠ X ∧ X ∉ gholds cs L y) ∧ Ch0 W7 wq) (fun _ i _ => A.length - (intOf i).toNat)
          case atStart => exact ⟨0, _, Nat.zero_le _, rfl, rfl, (fun h => ⟨(hl0.out h).1, (hl0.out h).2, fun y hy => by simp at hy⟩), Ch.refl _ _⟩
          case round =>
            clear hl0
            obtain ⟨t, lb, ht, rfl, rfl, hlb, d⟩ := hrel
            by_cases hlt2 : t < A.length
            · have hDq := hD7.out.new d
              have hsA := (r3.out.keep (c7.out.trans d) (fun _ _ e => e)).sees
              obtain ⟨g', o', cc2, -, e2, hcell⟩ := SeesI.cell hsA (by omega)
              cases e2
              have hxt := hcell t hlt2
              have hxk := hcell k hlt
              have hX2 : A.getD k 0 = X := by
                have q1 := d.cell hx7 (fun e => e)
                rw [hxk] at q1
                simpa using q1
              rw [hX2] at hxk
              have hyA : A.take (t + 1) = A.take t ++ [A.getD t 0] := take_step hlt2
              have haim := aim_of hDq.g (A.getD t 0)
              have hHo : Hid (∀ w', Ch0 wr w' → _) := Lib.hid (fun w' (c : Ch0 wr w') => holds_of (hDq.g.new c) (A.getD t 0))
              have j1 : (0 : Int) ≤ t := by omega
              have j2 : (t : Int) < A.length := by omega
              have hk2 : (k : Int) < A.length := by omega
              have hk1 : (0 : Int) ≤ k := by omega
              replace hyA := Lib.hid hyA
              replace hDq := Lib.hid hDq
              replace d := Lib.hid d
              replace hlb := Lib.hid hlb
              clear hcell hsA hX2 hx7
              have hgo : Hid (lb = false → (gaim cs L (A.getD t 0)).1 ≠ X → X ∉ gholds cs L (A.getD t 0) → (false = false → X ∉ roots ∧ F = false ∧ ∀ y ∈ A.take (t + 1), (gaim cs L y).1 ≠ X ∧ X ∉ gholds cs L y)) := Lib.hid (fun h1 h2 h3 _ => by
                obtain ⟨q1, q2, q3⟩ := hlb.out h1
                refine ⟨q1, q2, fun y hy => ?_⟩
                rw [hyA.out] at hy
                rcases List.mem_append.1 hy with q | q
                · exact q3 y q
                · rw [List.mem_singleton.1 q]; exact ⟨h2, h3⟩)
              generalize (gaim cs L (A.getD t 0)).1 = to at *
              generalize (gaim cs L (A.getD t 0)).2 = kd at *
              generalize gholds cs L (A.getD t 0) = H at *
              generalize A.getD t 0 = Y at *
              go_wp2_with fail
              refine haim.mono ?_
              rintro e w9 ⟨rfl, c9⟩
              have hHo2 : Hid (∀ w', Ch0 w9 w' → _) := Lib.hid (fun w' (c : Ch0 w9 w') => hHo.out _ (c9.trans c))
              have x1'' := c9.cell hxt (fun e => e)
              have x2'' := c9.cell hxk (fun e => e)
              have x1' := cellB (c9.cell hxt (fun e => e))
              have x2' := cellB (c9.cell hxk (fun e => e))
              replace c9 := Lib.hid (d.out.trans c9)
              clear haim hHo hxt hxk
              rcases (show lb = true ∨ (lb = false ∧ to = X) ∨ (lb = false ∧ to ≠ X) by cases lb <;> simp [Classical.em]) with rfl | ⟨rfl, hto⟩ | ⟨rfl, hto⟩
              · clear x1'' x2''
                go_wp2_with fail
                refine wp_region_quiet_below (by kernel_rfl) (by kernel_rfl) ?_
                repeat (go_big_quiet_step (fail))
                refine wpQuiet_nil ?_
                intro _ hw'
                obtain ⟨⟨dq, osq⟩, hw''⟩ := hw'
                subst hw''
                have HE := Lib.hid (c9.out.trans (chB w9 dq osq))
                clear x1' x2' hHo2
                go_wp2_with fail
                go_roundw
                case rel => exact ⟨t + 1, true, by omega, by go_num, rfl, (fun h => by cases h), HE.out⟩
                case measure => simp [intOf]; omega
              · have t0 : (to == X) = true := by simpa using hto
                clear x1'' x2'' hto
                go_wp2_with fail
                refine wp_region_quiet_below (by kernel_rfl) (by kernel_rfl) ?_
                repeat (go_big_quiet_step (fail))
                refine wpQuiet_nil ?_
                intro _ hw'
                obtain ⟨⟨dq, osq⟩, hw''⟩ := hw'
                subst hw''
                have HE := Lib.hid (c9.out.trans (chB w9 dq osq))
                clear x1' x2' hHo2
                go_wp2_with fail
                go_roundw
                case rel => exact ⟨t + 1, true, by omega, by go_num, rfl, (fun h => by cases h), HE.out⟩
                case measure => simp [intOf]; omega
              · have t0 : (to == X) = false := by simpa using hto
                have hto' := Lib.hid hto
                clear x1' x2' hto
                have xx : Hid (∀ w', Ch0 w9 w' → w'.cell? ⟨g, o + t, none⟩ = some (.int .i64 Y) ∧ w'.cell? ⟨g, o + k, none⟩ = some (.int .i64 X)) := Lib.hid (fun w' c => ⟨c.cell x1'' (fun e => e), c.cell x2'' (fun e => e)⟩)
                go_wp2_with fail
                go_region_held3 (fun w' => w'.cell? ⟨g, o + t, none⟩ = some (.int .i64 Y) ∧ w'.cell? ⟨g, o + k, none⟩ = some (.int .i64 X))
                  (first | exact xx.out _ ((Ch.refl _ w9).drew.trans cx) | exact xx.out _ (Ch.refl _ w9).drew | go_keep)
                  ((first
                    | (go_at_call 34; refine (hHo2.out _ (Ch.refl _ _).drew).mono ?_; rintro e wx ⟨vx, rfl, rx, fx, cx⟩; obtain ⟨ax, cx', rfl, -, -⟩ := rx.isSlice)
                    | (go_at_call 54; refine (has_any _ _ _ X _ rx.sees).mono ?_; rintro e wy ⟨rfl, hsy⟩; obtain rfl : wx = wy := hsy)))
                rename_i hheld
                have HE := Lib.hid (c9.out.trans ((Ch.refl _ w9).drew.trans cx))
                clear hheld cx rx fx xx x1'' x2'' hHo2
                go_wp2_with fail
                go_roundw
                case rel => exact ⟨t + 1, decide (X ∈ H), by omega, by go_num, rfl, (fun h => hgo.out (by trivial) hto'.out (of_decide_eq_false h) (by trivial)), HE.out⟩
                case measure => simp [intOf]; omega
            · obtain rfl : t = A.length := by omega
              rw [List.take_length] at hlb
              obtain rfl : lb = true := by
                cases lb with
                | true => rfl
                | false =>
                  exfalso
                  obtain ⟨q1, q2, q3⟩ := hlb rfl
                  rcases HX.out.1 with q | q | ⟨y, q, q'⟩
                  · exact q1 q
                  · rw [HX.out.2 q] at q2; cases q2
                  · rcases q' with q' | q'
                    · exact (q3 y q).2 q'
                    · exact (q3 y q).1 q'
              have HE := Lib.hid (c7.out.trans d)
              clear hlb d
              go_wp2_with fail
              go_roundw
              case rel => exact ⟨k + 1, by omega, by go_num, HE.out⟩
              case measure => simp [intOf]; omega
      · obtain rfl : k = A.length := by omega
        have HE := Lib.hid (cA.out.trans (hD3.out.new c).ch)
        clear c
        go_wp2_with fail
        go_ret
        exact ⟨rfl, HE.out⟩

end Go.Proofs.Ytlmeponoadhheaa
