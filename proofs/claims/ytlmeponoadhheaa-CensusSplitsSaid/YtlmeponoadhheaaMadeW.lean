/-
  gleaninglaw10.made: the two graphs of a world.
-/
import Derived.Test.YtlmeponoadhheaaMade0
import Derived.Test.YtlmeponoadhheaaWArg
import Derived.Test.YtlmeponoadhheaaDuo
namespace Go.Proofs.Ytlmeponoadhheaa
set_option linter.unusedVariables false
open Go.RowKit

def madeB (cs : List Cls) (ns : List Int) (rs : List (Int × Int × Int)) : Bool := decide (ns.length ≤ 40) && (decide (rs.length ≤ 200) && (decide (1 ≤ cs.length) && (decide (cs.length ≤ 63) && decide (newC cs = 0))))

theorem Duo.base {w0 W0 w : World} {cs : List Cls} {p lo hi b1 b2 : Nat} {O1 O2 D : Nat → Prop} {cv : Value} {L1 L2 : List GN} (t : Duo W0 w cs p lo hi b1 O1 L1 b2 O2 D cv L2) (c : Ch0 w0 W0) (hd : ∀ k, D k → k < w0.heap.size) : Duo w0 w cs p lo hi b1 O1 L1 b2 O2 D cv L2 :=
  ⟨t.g, t.r, t.ap, t.t2, hd, c.trans t.ch, fun k hk => Nat.le_trans c.size (t.f1 k hk), fun k hk => Nat.le_trans c.size (t.f2 k hk)⟩

theorem duo_start {W0 w6 : World} {cs : List Cls} {p lo hi b1 b2 : Nat} {O1 D : Nat → Prop} {cv : Value} (hG : Gt w6 b1 O1 cs [] p lo hi) (hb : w6.heap[b2]? = some (.cells #[cv, .slice none 0 0] 59 (0, 0))) (hcv : SeesC D w6 cv cs)
    (hD : ∀ k, D k → k < W0.heap.size) (hO : ∀ k, O1 k → W0.heap.size ≤ k) (hn : ¬ O1 b2) (h2 : W0.heap.size ≤ b2) (hlh : hi ≤ b2) (hc : Ch0 W0 w6) : Duo W0 w6 cs p lo hi b1 O1 [] b2 (fun k => k = b2) D cv [] := by
  have hlt : b2 < w6.heap.size := lt_of_block hb
  exact ⟨hG, ⟨⟨.slice none 0 0, fun _ => .slice none 0 0, fun _ => .slice none 0 0, fun _ => none, hb, rfl, RowAt.nil, (fun k hk => by cases hk), (fun k hk => by rw [hk]; exact hlt), (fun nd h => by cases h), (fun nd h => by cases h), (fun nd h => by cases h), (fun nd h => by cases h), List.Pairwise.nil⟩,
      hcv, (fun k hk e => by have := hD k hk; omega), (fun k hk => by have := hD k hk; have := hc.size; omega), (fun nd h => by cases h)⟩, (fun k h1 h2 => hn (h2 ▸ h1)), (fun k h1 h2 e => by omega), hD, hc, hO, (fun k hk => by rw [hk]; exact h2)⟩

theorem sees_u8 {D : Nat → Prop} {w : World} {v : Value} {xs : List Int} (h : Sees D w v 1 xs.length (xs.map (Value.int .u8))) (hp : 0 < xs.length) :
    ∃ g o c, D g ∧ v = .slice (some ⟨g, o, none⟩) xs.length c ∧ ∀ j, j < xs.length → w.cell? ⟨g, o + j, none⟩ = some (.int .u8 (xs.getD j 0)) := by
  obtain ⟨h0, a, c, hv, hn, hm, hl⟩ := h
  rcases hl with hl | ⟨g, o, hg, rfl, hi⟩
  · omega
  · refine ⟨g, o, c, hg, hv, fun j hj => hi j _ ?_⟩
    simp [List.getD_eq_getElem?_getD, hj]

theorem u3_get (rs : List (Int × Int × Int)) (j : Nat) (h : j < rs.length) (i : Nat) : i < 3 → (rs.flatMap u3)[j * 3 + i]? = (u3 (rs.getD j (0, 0, 0)))[i]? := by
  induction rs generalizing j with
  | nil => simp at h
  | cons a l ih =>
    intro hi
    cases j with
    | zero =>
      show (u3 a ++ l.flatMap u3)[0 * 3 + i]? = _
      rw [List.getElem?_append_left (by simp [u3]; omega)]
      simp
    | succ j =>
      show (u3 a ++ l.flatMap u3)[(j + 1) * 3 + i]? = _
      rw [List.getElem?_append_right (by simp [u3]; omega)]
      have : (j + 1) * 3 + i - (u3 a).length = j * 3 + i := by simp [u3]; omega
      rw [this, ih j (by simpa using h) hi]
      simp

theorem sees_u3 {D : Nat → Prop} {w : World} {v : Value} {rs : List (Int × Int × Int)} (h : Sees D w v 3 rs.length (rs.flatMap u3)) (hp : 0 < rs.length) :
    ∃ g o c, D g ∧ v = .slice (some ⟨g, o, none⟩) rs.length c ∧ ∀ j, j < rs.length →
      w.cell? ⟨g, o + j * 3, none⟩ = some (.int .u8 (rs.getD j (0, 0, 0)).1) ∧ w.cell? ⟨g, o + j * 3 + 1, none⟩ = some (.int .u8 (rs.getD j (0, 0, 0)).2.1) ∧ w.cell? ⟨g, o + j * 3 + 2, none⟩ = some (.int .u8 (rs.getD j (0, 0, 0)).2.2) := by
  obtain ⟨h0, a, c, hv, hn, hm, hl⟩ := h
  rcases hl with hl | ⟨g, o, hg, rfl, hi⟩
  · omega
  · refine ⟨g, o, c, hg, hv, fun j hj => ⟨?_, ?_, ?_⟩⟩
    · exact hi (j * 3) _ (by rw [show j * 3 = j * 3 + 0 from rfl, u3_get rs j hj 0 (by omega)]; rfl)
    · rw [Nat.add_assoc]; exact hi (j * 3 + 1) _ (by rw [u3_get rs j hj 1 (by omega)]; rfl)
    · rw [Nat.add_assoc]; exact hi (j * 3 + 2) _ (by rw [u3_get rs j hj 2 (by omega)]; rfl)

theorem kM_get {cs : List Cls} {k : Int} (h1 : 1 ≤ k) (h2 : k ≤ cs.length) : ∃ (m : Nat) (hm : m < cs.length), k = (m : Int) + 1 ∧ kindOf cs k = cs[m].kind := by
  refine ⟨(k - 1).toNat, by omega, by omega, ?_⟩
  unfold kindOf
  rw [List.getD_eq_getElem?_getD, List.getElem?_eq_getElem (by omega)]
  rfl

set_option maxRecDepth 100000 in
set_option maxHeartbeats 4000000 in
theorem made_of (cs : List Cls) (ns : List Int) (rs : List (Int × Int × Int)) (cv nv rv : Value) (w : World) (hs : SeesW (fun k => k < w.heap.size) w cv nv rv cs ns rs) (hf : Fit cs) :
    Calls Try.prog 55 #[.agg #[cv, nv, rv]] w fun e w' => (madeB cs ns rs = false ∧ e = .returned (.tuple #[.pointer none, .pointer none, .bool false]) ∧ Ch0 w w') ∨
      (madeB cs ns rs = true ∧ ∃ b1 b2 p lo hi O1 O2, e = .returned (.tuple #[.pointer (some ⟨b1, 0, none⟩), .pointer (some ⟨b2, 0, none⟩), .bool true]) ∧ Duo w w' cs p lo hi b1 O1 (madeL cs ns rs) b2 O2 (fun k => k < w.heap.size) cv (madeL cs ns rs)) := by
  obtain ⟨ca, cc, rfl, hcl⟩ := hs.c.len
  obtain ⟨na, nc, rfl, hnl⟩ := hs.n.len
  obtain ⟨ra, rc, rfl, hrl⟩ := hs.r.len
  have HS := Lib.hid hs
  have HF := Lib.hid hf
  clear hs hf
  have cA : Ch0 w (w.alloc (.cells #[.slice ca cs.length cc, .slice na ns.length nc, .slice ra rs.length rc] 72)) := (Ch.refl _ _).alloc _
  have bx := heap_alloc_new w (.cells #[.slice ca cs.length cc, .slice na ns.length nc, .slice ra rs.length rc] 72)
  have x0 := cell_of_row _ w.heap.size 0 _ _ _ bx
  have x1 := cell_of_row _ w.heap.size 1 _ _ _ bx
  have x2 := cell_of_row _ w.heap.size 2 _ _ _ bx
  simp only [List.getElem?_toArray, List.getElem?_cons_zero, List.getElem?_cons_succ] at x0 x1 x2
  clear bx
  replace cA := Lib.hid cA
  go_enter Try.func55, Try.ntmps55
  by_cases b1 : ns.length ≤ 40
  case neg =>
    have g1 : decide ((40 : Int) < ns.length) = true := decide_eq_true (by omega)
    have HE : Hid (madeB cs ns rs = false) := Lib.hid (by unfold madeB; rw [decide_eq_false b1]; rfl)
    clear b1
    go_wp2_with fail
    go_ret3
    exact .inl ⟨HE.out, rfl, cA.out⟩
  have g1 : decide ((40 : Int) < ns.length) = false := decide_eq_false (by omega)
  by_cases b2 : rs.length ≤ 200
  case neg =>
    have g2 : decide ((200 : Int) < rs.length) = true := decide_eq_true (by omega)
    have HE : Hid (madeB cs ns rs = false) := Lib.hid (by unfold madeB; rw [decide_eq_false b2]; simp)
    clear b2
    go_wp2_with fail
    go_ret3
    exact .inl ⟨HE.out, rfl, cA.out⟩
  have g2 : decide ((200 : Int) < rs.length) = false := decide_eq_false (by omega)
  by_cases b3 : 1 ≤ cs.length
  case neg =>
    have g3 : ((cs.length : Int) == 0) = true := by rw [show cs.length = 0 by omega]; rfl
    have HE : Hid (madeB cs ns rs = false) := Lib.hid (by unfold madeB; rw [decide_eq_false b3]; simp)
    clear b3
    go_wp2_with fail
    go_ret3
    exact .inl ⟨HE.out, rfl, cA.out⟩
  have g3 : ((cs.length : Int) == 0) = false := beq_eq_false_iff_ne.2 (by omega)
  by_cases b4 : cs.length ≤ 63
  case neg =>
    have g4 : decide ((63 : Int) < cs.length) = true := decide_eq_true (by omega)
    have HE : Hid (madeB cs ns rs = false) := Lib.hid (by unfold madeB; rw [decide_eq_false b4]; simp)
    clear b4
    go_wp2_with fail
    go_ret3
    exact .inl ⟨HE.out, rfl, cA.out⟩
  have g4 : decide ((63 : Int) < cs.length) = false := decide_eq_false (by omega)
  have HR : Hid (∀ w', Ch0 w w' → _) := Lib.hid (fun w' (c : Ch0 w w') => rnew_cls _ _ cs w' (HS.out.c.keep c (fun _ _ e => e)))
  have HN : Hid (∀ w', Ch0 w w' → _) := Lib.hid (fun w' (c : Ch0 w w') => newcls_any _ _ cs w' (HS.out.c.keep c (fun _ _ e => e)) HF.out)
  by_cases b5 : newC cs = 0
  case neg =>
    have g5 : (newC cs != 0) = true := by simpa using b5
    have HE : Hid (madeB cs ns rs = false) := Lib.hid (by unfold madeB; rw [decide_eq_false b5]; simp)
    clear b5 HN
    generalize newC cs = ec at *
    go_wp2_with fail
    generalize w.alloc (.cells #[.slice ca cs.length cc, .slice na ns.length nc, .slice ra rs.length rc] 72) = W0 at *
    refine (HR.out _ cA.out).mono ?_
    rintro e w3 ⟨rfl, d3⟩
    have HD := Lib.hid (cA.out.trans d3)
    clear d3
    go_wp2_with fail
    go_ret3
    exact .inl ⟨HE.out, rfl, HD.out⟩
  have HB : Hid (madeB cs ns rs = true) := Lib.hid (by unfold madeB; rw [decide_eq_true b1, decide_eq_true b2, decide_eq_true b3, decide_eq_true b4, decide_eq_true b5]; rfl)
  rw [b5] at HR HN
  have g5 : ((0 : Int) != 0) = false := rfl
  have hcz := Lib.hid (newC_zero b5)
  replace b5 := Lib.hid b5
  go_wp2_with fail
  generalize hW0 : w.alloc (.cells #[.slice ca cs.length cc, .slice na ns.length nc, .slice ra rs.length rc] 72) = W0 at *
  have hP : w.heap.size < W0.heap.size := by rw [← hW0, World.size_alloc]; omega
  generalize hPe : w.heap.size = P at *
  replace hPe := Lib.hid hPe
  clear hW0
  refine (HR.out _ cA.out).mono ?_
  rintro e w3 ⟨rfl, d3⟩
  have y0 := d3.cell x0 (fun e => e)
  have y1 := d3.cell x1 (fun e => e)
  have y2 := d3.cell x2 (fun e => e)
  replace d3 := Lib.hid d3
  clear HR
  go_wp2_with fail
  refine (HN.out _ (cA.out.trans d3.out)).mono ?_
  rintro e w5 ⟨t, rfl, hT, d5⟩
  obtain ⟨p, rfl, hTab⟩ := newT_zero hT b5.out
  have z0 := d5.cell y0 (fun e => e)
  have d6 := Lib.hid (d3.out.trans d5)
  have hn := Lib.hid (fun w' (c : Ch0 w5 w') => gnew_of (hTab.keep c (fun _ _ _ e => e)) c.size)
  have hhi := Lib.hid (Nat.le_refl w5.heap.size)
  clear hT d5 d3 HN hTab y0 y1 y2
  generalize w3.heap.size = lo at *
  generalize hiD : w5.heap.size = hi at *
  replace hiD := Lib.hid hiD
  have q1 : ∀ A1 : Obj, (w5.alloc A1).drew.cell? ⟨P, 0, none⟩ = some (.slice ca cs.length cc) := fun A1 => ((((Ch.refl (fun _ => False) w5).alloc A1).drew).cell z0 (fun e => e))
  replace q1 := Lib.hid q1
  go_wp2_with fail
  go_region_held3 (fun w' => w'.cell? ⟨P, 0, none⟩ = some (.slice ca cs.length cc))
    (first | exact q1.out _ | exact cx.cell (by assumption) (fun e => e) | go_keep)
    ((go_at_call 31; refine (hn.out _ (by first | exact (Ch.refl _ _).drew | exact ((Ch.refl _ _).alloc _).drew)).mono ?_; rintro e wx ⟨b1, rfl, O1, hG, hO1, cx⟩))
  all_goals
    have hs5 : W0.heap.size ≤ w5.heap.size := d6.out.size
    have hi5 := hiD.out
    first
      | (have hD0 := Lib.hid (duo_start (W0 := W0) (D := fun k => k < P) (b2 := wx.heap.size) (hG.new ((Ch.refl _ wx).alloc (.cells #[.slice ca cs.length cc, .slice none 0 0] 59))) (heap_alloc_new wx _) (HS.out.c.keep ((cA.out.trans d6.out).trans (((Ch.refl _ w5).drew.trans cx).alloc _)) (fun _ _ e => e)) (fun k hk => by omega) (fun k hk => by have := hO1 k hk; simp only [World.size_drew] at this; omega) (fun e => by have := hG.small _ e; omega) (by have := cx.size; simp only [World.size_drew] at this; omega) (by have := cx.size; simp only [World.size_drew] at this; omega) (d6.out.trans (((Ch.refl _ w5).drew.trans cx).alloc _)))
         generalize wx.heap.size = b2 at *
         generalize (fun k => k = b2) = O2 at *
         generalize wx.alloc (.cells #[.slice ca cs.length cc, .slice none 0 0] 59) = W1 at *)
      | (have hD0 := Lib.hid (duo_start (W0 := W0) (D := fun k => k < P) (b2 := w5.heap.size) hG (cx.keep (heap_alloc_new w5 (.cells #[.slice ca cs.length cc, .slice none 0 0] 59)) (fun e => e)) (HS.out.c.keep ((cA.out.trans d6.out).trans ((((Ch.refl _ w5).alloc _).drew).trans cx)) (fun _ _ e => e)) (fun k hk => by omega) (fun k hk => by have := hO1 k hk; simp only [World.size_drew, World.size_alloc] at this; omega) (fun e => by have := hO1 _ e; simp only [World.size_drew, World.size_alloc] at this; omega) (by omega) (by omega) (d6.out.trans ((((Ch.refl _ w5).alloc _).drew).trans cx)))
         generalize w5.heap.size = b2 at *
         generalize (fun k => k = b2) = O2 at *
         generalize wx = W1 at *)
    clear cx hG hO1 hn q1 hi5
  all_goals
    have y0 := hD0.out.ch.cell x0 (fun e => e)
    have y1 := hD0.out.ch.cell x1 (fun e => e)
    go_wp2_with fail
  all_goals
    clear y0 y1
    go_loopw [61] (fun i wr => ∃ j : Nat, j ≤ ns.length ∧ i = .int .i64 j ∧ ∃ O1 O2, Duo W0 wr cs p lo hi b1 O1 (addsM cs ns j) b2 O2 (fun k => k < P) (.slice ca cs.length cc) (addsM cs ns j)) (fun i _ => ns.length - (intOf i).toNat)
    case atStart => exact ⟨0, Nat.zero_le _, rfl, _, _, hD0.out⟩
    case round =>
      obtain ⟨j, hj, rfl, O1, O2, hD⟩ := hrel
      clear hD0
      have y0 := hD.ch.cell x0 (fun e => e)
      have y1 := hD.ch.cell x1 (fun e => e)
      have y2 := hD.ch.cell x2 (fun e => e)
      by_cases hlt : j < ns.length
      · have hSW := HS.out.keep (cA.out.trans hD.ch) (fun _ _ e => e)
        obtain ⟨g, o, c1, -, e1, hcell⟩ := sees_u8 hSW.n (by omega)
        obtain ⟨rfl, rfl⟩ : na = some ⟨g, o, none⟩ ∧ nc = c1 := by simpa using e1
        have hx := hcell j hlt
        have hxr : isU8 (ns.getD j 0) := HS.out.nf _ (by rw [List.getD_eq_getElem?_getD, List.getElem?_eq_getElem hlt]; exact List.getElem_mem _)
        obtain ⟨g2, o2, c2, -, e2, hcc⟩ := SeesC.cells hSW.c (by omega)
        obtain ⟨rfl, rfl⟩ : ca = some ⟨g2, o2, none⟩ ∧ cc = c2 := by simpa using e2
        have hk := kM_in (cs := cs) (by omega) (ns.getD j 0)
        have hst : Hid (addsM cs ns (j + 1) = addL cs (addsM cs ns j) ((j : Int) + 1) (kM cs (ns.getD j 0)) (lenM cs (kM cs (ns.getD j 0)))) := Lib.hid rfl
        have hkM : kM cs (ns.getD j 0) = 1 + (ns.getD j 0) % (cs.length : Int) := rfl
        obtain ⟨m, hm, hkm, hkd⟩ := kM_get hk.1 hk.2
        obtain ⟨c0, -, -, -⟩ := hcc m hm
        rw [← hkd] at c0
        have i1 : (0 : Int) ≤ j := by omega
        have i2 : (j : Int) < ns.length := by omega
        have i3 : (0 : Int) ≤ m := by omega
        have i4 : (m : Int) < cs.length := by omega
        have i5 : ((cs.length : Int) == 0) = false := g3
        clear hcell e1 e2 hcc hSW
        obtain ⟨x1', x2'⟩ := hxr
        generalize ns.getD j 0 = X at *
        have t1 : IntKind.i64.wrap X = X := IntWalk.i64_in _ (by omega)
        have t2 : X.tmod (cs.length : Int) = X % (cs.length : Int) := Int.tmod_eq_emod_of_nonneg x1'
        have t3 : IntKind.i64.wrap (1 + X % (cs.length : Int)) = kM cs X := by rw [← hkM]; exact IntWalk.i64_in _ (by omega)
        have t4 : IntKind.i64.wrap (X % (cs.length : Int)) = X % (cs.length : Int) := IntWalk.i64_in _ (by omega)
        have t5 : IntKind.i64.wrap (kM cs X - 1) = m := by rw [hkm]; exact (congrArg _ (by omega)).trans (IntWalk.i64_in _ (by omega))
        replace hD := Lib.hid hD
        replace hkM := Lib.hid hkM
        obtain ⟨LEN, hLEN⟩ : ∃ LEN, LEN = lenM cs (kM cs X) := ⟨_, rfl⟩
        rw [← hLEN] at hst
        have t6 : IntKind.i64.wrap ((j : Int) + 1) = (j : Int) + 1 := IntWalk.i64_in _ (by omega)
        have HA : Hid (∀ n, _) := Lib.hid (fun n => add_of (hD.out.new (ch_drewN' wr n)).g ((j : Int) + 1) (kM cs X) LEN (by omega))
        have hk12 := Lib.hid (And.intro hk hkm)
        replace hLEN := Lib.hid hLEN
        clear hk hkm hkd
        have hg6 : (LEN = 2 ∧ (kindOf cs (kM cs X) == 2) = true) ∨ (LEN = 0 ∧ (kindOf cs (kM cs X) == 2) = false) := by
          rw [hLEN.out]
          unfold lenM
          by_cases q : kindOf cs (kM cs X) = 2
          · left; rw [if_pos q]; exact ⟨rfl, by simpa using q⟩
          · right; rw [if_neg q]; exact ⟨rfl, by simpa using q⟩
        rcases hg6 with ⟨rfl, g6⟩ | ⟨rfl, g6⟩
        all_goals
          clear hLEN
          generalize kindOf cs (kM cs X) = KD at *
          generalize kM cs X = K at *
          go_wp2_with fail
          go_quiet (fail)
          rename_i nq
          go_wp2_with fail
          refine (HA.out nq).mono ?_
          rintro e wa ⟨rfl, Oa, hGa, ta⟩
          have hDa := (hD.out.new (ch_drewN' wr nq)).first hGa ta
          rw [← hst.out] at hDa
          have hLen : (addsM cs ns j).length = j := (addsM_ok hcz.out.1 (by omega) ns j (by omega)).len
          have hR := fun len => radd_of hDa.r hcz.out.1 hcz.out.2 (by omega) ((j : Int) + 1) K len (by omega)
          replace hDa := Lib.hid hDa
          clear HA hGa ta hLen
          go_wp2_with fail
          refine (hR _).mono ?_
          rintro e wb ⟨rfl, Ob, hRb, tb⟩
          have hDb := hDa.out.second hRb tb
          rw [← hst.out] at hDb
          replace hDb := Lib.hid hDb
          clear hR hRb tb
          go_wp2_with fail
          go_roundw
          case rel => exact ⟨j + 1, by omega, by go_num, _, _, hDb.out⟩
          case measure => simp [intOf]; omega
      · obtain rfl : j = ns.length := by omega
        have hmo := Lib.hid (addsM_ok hcz.out.1 (by omega) ns ns.length (by omega))
        obtain ⟨L0, hL0⟩ : ∃ L0, L0 = addsM cs ns ns.length := ⟨_, rfl⟩
        rw [← hL0] at hmo
        rw [← hL0] at hD
        replace hD := Lib.hid hD
        have hmade : Hid (madeL cs ns rs = refsM L0 ns.length rs rs.length) := Lib.hid (by unfold madeL; rw [hL0])
        have hz : Hid (ns.length = 0 → L0 = []) := Lib.hid (fun e => by rw [hL0, e]; rfl)
        clear hL0
        go_wp2_with fail
        go_loopw [99] (fun i wr => ∃ j : Nat, j ≤ rs.length ∧ i = .int .i64 j ∧ ∃ O1 O2, Duo W0 wr cs p lo hi b1 O1 (refsM L0 ns.length rs j) b2 O2 (fun k => k < P) (.slice ca cs.length cc) (refsM L0 ns.length rs j)) (fun i _ => rs.length - (intOf i).toNat)
        case atStart => exact ⟨0, Nat.zero_le _, rfl, _, _, hD.out⟩
        case round =>
          clear hD y0 y1 y2
          obtain ⟨j, hj, rfl, O1, O2, hD⟩ := hrel
          have y1 := hD.ch.cell x1 (fun e => e)
          have y2 := hD.ch.cell x2 (fun e => e)
          by_cases hlt : j < rs.length
          · by_cases hn0 : ns.length = 0
            · have e0 : ((ns.length : Int) == 0) = true := by rw [hn0]; rfl
              have HE : Hid (Duo W0 wr cs p lo hi b1 O1 (madeL cs ns rs) b2 O2 (fun k => k < P) (.slice ca cs.length cc) (madeL cs ns rs)) := Lib.hid (by rw [hmade.out, hz.out hn0, refsM_nil]; rw [hz.out hn0, refsM_nil] at hD; exact hD)
              clear hn0 hD
              go_wp2_with fail
              go_ret3
              obtain rfl := hPe.out
              exact .inr ⟨HB.out, _, _, _, _, _, _, _, rfl, HE.out.base cA.out (fun k hk => hk)⟩
            · have e0 : ((ns.length : Int) == 0) = false := beq_eq_false_iff_ne.2 (by omega)
              have hok := refsM_ok hmo.out ns.length rs j
              have hSW := HS.out.keep (cA.out.trans hD.ch) (fun _ _ e => e)
              obtain ⟨g, o, c1, -, e1, hcell⟩ := sees_u3 hSW.r (by omega)
              obtain ⟨rfl, rfl⟩ : ra = some ⟨g, o, none⟩ ∧ rc = c1 := by simpa using e1
              obtain ⟨r0, r1, r2⟩ := hcell j hlt
              have hxr := HS.out.rf (rs.getD j (0, 0, 0)) (by rw [List.getD_eq_getElem?_getD, List.getElem?_eq_getElem hlt]; exact List.getElem_mem _)
              have hst : Hid (refsM L0 ns.length rs (j + 1) = refM (refsM L0 ns.length rs j) ns.length (rs.getD j (0, 0, 0))) := Lib.hid rfl
              generalize refsM L0 ns.length rs j = L at *
              generalize rs.getD j (0, 0, 0) = r at *
              obtain ⟨X, Y, Z⟩ := r
              simp only at r0 r1 r2 hxr
              obtain ⟨hX, hY, hZ⟩ := hxr
              have hX1 := hX.1
              have hX2 := hX.2
              have hY1 := hY.1
              have hY2 := hY.2
              have hZ1 := hZ.1
              have hZ2 := hZ.2
              obtain ⟨m, hm, hmX⟩ : ∃ m : Nat, m < ns.length ∧ X % (ns.length : Int) = (m : Int) := by
                have q1 := Int.emod_nonneg X (show (ns.length : Int) ≠ 0 by omega)
                have q2 := Int.emod_lt_of_pos X (show (0 : Int) < ns.length by omega)
                exact ⟨(X % (ns.length : Int)).toNat, by omega, by omega⟩
              have hLl := hok.len
              obtain ⟨nv, vr, vd, ow, gg⟩ := hD.r.g
              have k1 := gg.cells.2
              obtain ⟨gn, on, cn, rfl, -, hnode⟩ := gg.node (by omega)
              obtain ⟨-, -, n2, -, -⟩ := hnode m (by omega)
              obtain ⟨ar, cr, ev, -, -⟩ := (gg.refs _ (List.getElem_mem (show m < L.length by omega))).isSlice
              rw [ev] at n2
              have hmany : manyM L m = (L[m]'(by omega)).refs.length := by unfold manyM; rw [List.getElem?_eq_getElem (by omega)]
              rw [← hmany] at n2
              have hmany60 : manyM L m ≤ 60 := by rw [hmany]; exact (hok.wf _ (List.getElem_mem _)).refs
              have hrM : Hid (refM L ns.length (X, Y, Z) = if 0 < manyM L m then setRefL L (1 + (m : Int)) (Y % (manyM L m : Int)) (Z % ((ns.length : Int) + 1)) else L) := Lib.hid (by unfold refM; simp only [hmX, Int.toNat_natCast])
              generalize manyM L m = MM at *
              have i1 : (0 : Int) ≤ j := by omega
              have i2 : (j : Int) < rs.length := by omega
              have i3 : (0 : Int) ≤ m := by omega
              have i4 : (m : Int) < L.length := by omega
              have t1 : IntKind.i64.wrap X = X := IntWalk.i64_in _ (by omega)
              have t2 : IntKind.i64.wrap Y = Y := IntWalk.i64_in _ (by omega)
              have t3 : IntKind.i64.wrap Z = Z := IntWalk.i64_in _ (by omega)
              have t4 : X.tmod (ns.length : Int) = m := by rw [Int.tmod_eq_emod_of_nonneg hX1]; exact hmX
              have t5 : IntKind.i64.wrap (m : Int) = m := IntWalk.i64_in _ (by omega)
              have t6 : IntKind.i64.wrap (1 + (m : Int)) = 1 + (m : Int) := IntWalk.i64_in _ (by omega)
              have t7 : IntKind.i64.wrap (1 + (m : Int) - 1) = m := (congrArg _ (by omega)).trans t5
              have t8 : IntKind.i64.wrap ((ns.length : Int) + 1) = (ns.length : Int) + 1 := IntWalk.i64_in _ (by omega)
              have e3 : (((ns.length : Int) + 1) == 0) = false := beq_eq_false_iff_ne.2 (by omega)
              obtain ⟨T, hT⟩ : ∃ T, T = Z % ((ns.length : Int) + 1) := ⟨_, rfl⟩
              have t9 : Z.tmod ((ns.length : Int) + 1) = T := by rw [Int.tmod_eq_emod_of_nonneg hZ1, hT]
              rw [← hT] at hrM
              have hTb : 0 ≤ T ∧ T ≤ ns.length := by
                have q1 := Int.emod_nonneg Z (show (ns.length : Int) + 1 ≠ 0 by omega)
                have q2 := Int.emod_lt_of_pos Z (show (0 : Int) < (ns.length : Int) + 1 by omega)
                omega
              have t10 : IntKind.i64.wrap T = T := IntWalk.i64_in _ (by omega)
              clear hcell e1 hSW hT hok hnode ev hmany gg hX hY hZ hmX
              replace hD := Lib.hid hD
              by_cases hMM : 0 < MM
              · have e4 : decide ((0 : Int) < MM) = true := decide_eq_true (by omega)
                have e5 : ((MM : Int) == 0) = false := beq_eq_false_iff_ne.2 (by omega)
                obtain ⟨B, hB⟩ : ∃ B, B = Y % (MM : Int) := ⟨_, rfl⟩
                have t11 : Y.tmod (MM : Int) = B := by rw [Int.tmod_eq_emod_of_nonneg hY1, hB]
                have hBb : 0 ≤ B ∧ B < 60 := by
                  have q1 := Int.emod_nonneg Y (show (MM : Int) ≠ 0 by omega)
                  have q2 := Int.emod_lt_of_pos Y (show (0 : Int) < (MM : Int) by omega)
                  omega
                have t12 : IntKind.i64.wrap B = B := IntWalk.i64_in _ (by omega)
                rw [← hB, if_pos hMM] at hrM
                clear hB
                go_wp2_with fail
                go_quiet (fail)
                rename_i nq
                have hHn := hD.out.new (ch_drewN' wr nq)
                have hA := setref_of hHn.g (1 + (m : Int)) B T
                replace hHn := Lib.hid hHn
                go_wp2_with fail
                refine hA.mono ?_
                rintro e wa ⟨rfl, hGa, ta⟩
                have hDa := hHn.out.first hGa ta
                have hRs := rsetref_any hDa.r (1 + (m : Int)) B T
                replace hDa := Lib.hid hDa
                clear hA hGa ta hHn
                go_wp2_with fail
                refine hRs.mono ?_
                rintro e wb ⟨rfl, hRb, tb⟩
                have hDb := hDa.out.second hRb tb
                rw [← hrM.out, ← hst.out] at hDb
                replace hDb := Lib.hid hDb
                clear hRs hRb tb
                go_wp2_with fail
                go_roundw
                case rel => exact ⟨j + 1, by omega, by go_num, _, _, hDb.out⟩
                case measure => simp [intOf]; omega
              · rw [if_neg hMM] at hrM
                obtain rfl : MM = 0 := by omega
                clear hMM
                go_wp2_with fail
                go_quiet (fail)
                rename_i nq
                have hHn := hD.out.new (ch_drewN' wr nq)
                rw [← hrM.out, ← hst.out] at hHn
                replace hHn := Lib.hid hHn
                go_wp2_with fail
                go_roundw
                case rel => exact ⟨j + 1, by omega, by go_num, _, _, hHn.out⟩
                case measure => simp [intOf]; omega
          · obtain rfl : j = rs.length := by omega
            have HE : Hid (Duo W0 wr cs p lo hi b1 O1 (madeL cs ns rs) b2 O2 (fun k => k < P) (.slice ca cs.length cc) (madeL cs ns rs)) := Lib.hid (by rw [hmade.out]; exact hD)
            clear hD
            go_wp2_with fail
            go_ret3
            obtain rfl := hPe.out
            exact .inr ⟨HB.out, _, _, _, _, _, _, _, rfl, HE.out.base cA.out (fun k hk => hk)⟩

end Go.Proofs.Ytlmeponoadhheaa
