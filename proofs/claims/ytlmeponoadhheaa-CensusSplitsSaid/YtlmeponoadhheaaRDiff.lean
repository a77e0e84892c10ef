/-
  Contract of the document's Diff.
-/
import Derived.Test.YtlmeponoadhheaaLeast
import Derived.Test.YtlmeponoadhheaaRP
import Derived.Test.YtlmeponoadhheaaCDiff
namespace Go.Proofs.Ytlmeponoadhheaa
set_option linter.unusedVariables false
open Go.RowKit Go.Sort

theorem dr_nil (A : List R5) (c : Int) : dr A [] c = S5 c A := by
  unfold dr R5.plus S5
  simp [sm]

def asB : Value → Bool
  | .bool b => b
  | _ => false

theorem above_le (L : List R5) (p : Int × Bool) : above L p ≤ L.length := by
  unfold above
  split
  · exact List.length_filter_le _ _
  · exact Nat.zero_le _

theorem fitS {A : List R5} (ha : Few A) (j : Nat) (c : Int) : Fit5 (S5 c (A.take j)) := ((ha.take j).S5 c).mono (by decide)
theorem fitD {A Bs : List R5} (ha : Few A) (hb : Few Bs) (j : Nat) (c : Int) : Fit5 (dr A (Bs.take j) c) := ((ha.S5 c).plus ((hb.take j).S5 c) (.inr rfl)).mono (by decide)

theorem nz_case {r : R5} (h : r.nz = true) : (r.cnt != 0) = true ∨ ((r.cnt != 0) = false ∧ (r.wds != 0) = true) ∨ ((r.cnt != 0) = false ∧ (r.wds != 0) = false ∧ (r.refs != 0) = true) ∨ ((r.cnt != 0) = false ∧ (r.wds != 0) = false ∧ (r.refs != 0) = false ∧ (r.fin != 0) = true) := by
  unfold R5.nz at h
  simp at h
  simp
  omega

set_option maxRecDepth 100000 in
set_option maxHeartbeats 4000000 in
theorem rdiff_of (D : Nat → Prop) (va vb : Value) (A Bs : List R5) (w : World) (hsa : SeesR D w va A) (hsb : SeesR D w vb Bs) (hd : ∀ k, D k → k < w.heap.size) (ha : Few A) (hb : Few Bs) :
    Calls Try.prog 92 #[va, vb] w fun e w' => ∃ v L, e = .returned v ∧ IsRows (dr A Bs) L ∧ HasR w' 110 (fun k => w.heap.size ≤ k) v L ∧ L.length ≤ A.length + Bs.length ∧ Ch0 w w' := by
  have HL : Hid (∀ w', Ch0 w w' → _) := Lib.hid (fun w' (c : Ch0 w w') => fun ab first => least_of D D va vb A Bs ab first w' (hsa.keep c (fun _ _ e => e)) (hsb.keep c (fun _ _ e => e)) ha.1 hb.1)
  obtain ⟨aa, ca, rfl, -⟩ := hsa.len
  obtain ⟨ac, cc, rfl, -⟩ := hsb.len
  have HSA := Lib.hid hsa
  have HSB := Lib.hid hsb
  have HD := Lib.hid hd
  have HA := Lib.hid ha
  have HB := Lib.hid hb
  have hA5 : A.length ≤ 500 := ha.1
  have hB5 : Bs.length ≤ 500 := hb.1
  have hst := Next.start (dr A Bs) (A ++ Bs)
  have hst2 := above_le (A ++ Bs) (leastF (A ++ Bs) 0 true)
  rw [List.length_append] at hst2
  have h0 := HL.out w (Ch.refl _ _) 0 true
  generalize leastF (A ++ Bs) 0 true = p at *
  obtain ⟨p1, p2⟩ := p
  simp only at h0
  replace hst := Lib.hid hst
  replace hst2 := Lib.hid hst2
  clear hsa hsb hd ha hb
  go_enter Try.func92, Try.ntmps92
  go_wp2_with fail
  refine h0.mono ?_
  rintro e w1 ⟨rfl, c1⟩
  replace c1 := Lib.hid c1
  clear h0
  go_wp2_with fail
  go_loopw [5, 6, 7] (fun u c k wr => ∃ out p, c = .int .i64 p.1 ∧ k = .bool p.2 ∧ Next (dr A Bs) (A ++ Bs) out p ∧ HasR wr 110 (fun k => w.heap.size ≤ k) u out ∧ out.length + above (A ++ Bs) p ≤ A.length + Bs.length ∧ Ch0 w wr) (fun _ c k _ => above (A ++ Bs) (intOf c, asB k))
  case atStart => exact ⟨[], (p1, p2), rfl, rfl, hst.out, ⟨RowAt.nil, fun k hk => by cases hk⟩, by simpa using hst2.out, c1.out⟩
  case round =>
    obtain ⟨out, ⟨c, k⟩, rfl, rfl, hN, hR, hn, d⟩ := hrel
    clear hst hst2 c1
    simp only at *
    obtain ⟨av, cv, ev, -, -⟩ := hR.1.isSlice
    subst ev
    cases k with
    | false =>
      have HE := Lib.hid (And.intro hN.rows (And.intro hR d))
      have hn' : out.length ≤ A.length + Bs.length := by omega
      replace hn' := Lib.hid hn'
      clear hN hR hn d
      go_wp2_with fail
      go_ret
      exact ⟨_, out, rfl, HE.out.1, HE.out.2.1, hn'.out, HE.out.2.2⟩
    | true =>
      have hst1 := hN.step (fun c => dr_cls A Bs c)
      have hab := above_step (A ++ Bs) c (hN.2.2 rfl)
      have ho : out.length ≤ 1000 := by omega
      replace hN := Lib.hid hN
      replace hR := Lib.hid hR
      replace hn := Lib.hid hn
      replace hst1 := Lib.hid hst1
      replace hab := Lib.hid hab
      have cX : Ch0 wr (wr.alloc (.cells #[.int .i64 c, .int .i64 0, .int .i64 0, .int .i64 0, .int .i64 0] 110)) := (Ch.refl _ _).alloc _
      have bX := heap_alloc_new wr (.cells #[.int .i64 c, .int .i64 0, .int .i64 0, .int .i64 0, .int .i64 0] 110)
      have hB8 : w.heap.size ≤ wr.heap.size := d.size
      have hrB : ∀ k, rblk (.slice av out.length cv) = some k → k ≠ wr.heap.size := fun k hk e => by have := hR.out.1.lt hk; omega
      replace cX := Lib.hid (d.trans cX)
      replace bX := Lib.hid bX
      replace hrB := Lib.hid hrB
      replace hR := Lib.hid (hR.out.keep ((Ch.refl (fun _ => False) wr).alloc (.cells #[.int .i64 c, .int .i64 0, .int .i64 0, .int .i64 0, .int .i64 0] 110)) (fun _ _ e => e))
      clear d
      go_wp2_with fail
      generalize wr.alloc (.cells #[.int .i64 c, .int .i64 0, .int .i64 0, .int .i64 0, .int .i64 0] 110) = w5 at *
      generalize wr.heap.size = B8 at *
      go_loopw [22] (fun i wr => ∃ j : Nat, j ≤ A.length ∧ i = .int .i64 j ∧ wr.heap[B8]? = some (.cells (R5.cells (S5 c (A.take j))).toArray 110 (0, 0)) ∧ Ch (fun k => k = B8) w5 wr) (fun i _ => A.length - (intOf i).toNat)
      case atStart => exact ⟨0, Nat.zero_le _, rfl, bX.out, Ch.refl _ _⟩
      case round =>
        obtain ⟨j, hj, rfl, b3, d⟩ := hrel
        clear bX
        by_cases hlt : j < A.length
        · obtain ⟨g, o, c', hDg, e2, hcell⟩ := ((HSA.out.keep cX.out (fun _ _ e => e)).keep d (fun k hk e => by have := HD.out k hk; omega)).row (by omega)
          obtain ⟨rfl, rfl⟩ : aa = some ⟨g, o, none⟩ ∧ ca = c' := by simpa using e2
          obtain ⟨x0, x1, x2, x3, x4⟩ := hcell j hlt
          have i1 : (0 : Int) ≤ j := by omega
          have i2 : (j : Int) < A.length := by omega
          have hsn : (S5 c (A.take (j + 1))) = if A[j].cls = c then ((S5 c (A.take j))).plus A[j] 1 else (S5 c (A.take j)) := by rw [List.take_succ_eq_append_getElem hlt, S5_snoc]
          have hpl := fun w' => rplus_of ((S5 c (A.take j))) A[j] 1 (.inl rfl) (fitS HA.out j c) (HA.out.fit (List.getElem_mem hlt)) w'
          clear hcell e2
          generalize (S5 c (A.take j)) = T at *
          generalize hT : (S5 c (A.take (j + 1))) = T1 at *
          replace hT := Lib.hid hT
          generalize A[j] = r at *
          simp only [R5.cells] at b3
          by_cases hrc : r.cls = c
          · rw [if_pos hrc] at hsn
            rw [← hsn] at hpl
            have g1 : (r.cls == c) = true := by simpa using hrc
            clear hsn hrc
            obtain ⟨y0, y1, y2, y3, y4⟩ := cells5 b3
            simp only [R5.val] at hpl
            replace b3 := Lib.hid b3
            replace d := Lib.hid d
            go_wp2_with fail
            replace y0 := cellB y0
            replace y1 := cellB y1
            replace y2 := cellB y2
            replace y3 := cellB y3
            replace y4 := cellB y4
            replace x0 := cellB x0
            replace x1 := cellB x1
            replace x2 := cellB x2
            replace x3 := cellB x3
            replace x4 := cellB x4
            refine wp_region_tailB 6 (by kernel_rfl) (by kernel_rfl) ?_
            simp only [List.take_succ_cons, List.take_zero, List.drop_succ_cons, List.drop_zero]
            repeat (go_big_quiet_step ((go_at_call 120; exact quietB (hpl _))))
            refine wpQuiet_nil ?_
            intro _ hw1
            obtain ⟨⟨dq, osq⟩, hw2⟩ := hw1
            subst hw2
            have c1 := chB wr dq osq
            generalize grow (redrawn wr dq) osq = w7 at *
            have b5 := c1.keep b3.out (fun e => e)
            obtain ⟨z0, z1, z2, z3, z4⟩ := cells5 b5
            obtain ⟨f0, f1, f2, f3, f4⟩ := free5 b5
            clear x0 x1 x2 x3 x4 y0 y1 y2 y3 y4 hpl
            replace d := Lib.hid (d.out.trans' c1 (fun _ _ e => e) (fun _ _ e => e.elim))
            clear c1 b3
            replace b5 := Lib.hid b5
            go_wp2_with fail
            obtain ⟨q1, q2⟩ := set5 b5.out (.int .i64 T1.cls) (.int .i64 T1.cnt) (.int .i64 T1.wds) (.int .i64 T1.refs) (.int .i64 T1.fin)
            go_roundw
            case rel => exact ⟨j + 1, by omega, by go_num, by rw [q1, hT.out]; rfl, d.out.trans' q2 (fun _ _ e => e) (fun _ _ e => e)⟩
            case measure => simp [intOf]; omega
          · rw [if_neg hrc] at hsn
            have g1 : (r.cls == c) = false := by simpa using hrc
            subst hsn
            clear hpl hrc
            replace b3 := Lib.hid b3
            replace d := Lib.hid d
            go_wp2_with fail
            go_roundw
            case rel => exact ⟨j + 1, by omega, by go_num, by rw [hT.out]; exact b3.out, d.out⟩
            case measure => simp [intOf]; omega
        · have i2 : (A.length : Int) ≤ j := by omega
          have e1 : A.take j = A := List.take_of_length_le (by omega)
          rw [e1] at b3
          clear e1
          have b30 := Lib.hid b3
          have d0 := Lib.hid d
          clear b3 d
          go_wp2_with fail
          clear i2 hj hlt
          go_loopw [41] (fun i wr => ∃ j : Nat, j ≤ Bs.length ∧ i = .int .i64 j ∧ wr.heap[B8]? = some (.cells (R5.cells (dr A (Bs.take j) c)).toArray 110 (0, 0)) ∧ Ch (fun k => k = B8) w5 wr) (fun i _ => Bs.length - (intOf i).toNat)
          case atStart => exact ⟨0, Nat.zero_le _, rfl, by rw [b30.out, show Bs.take 0 = [] from rfl, dr_nil], d0.out⟩
          case round =>
            obtain ⟨j, hj, rfl, b3, d⟩ := hrel
            clear b30 d0
            by_cases hlt : j < Bs.length
            · obtain ⟨g, o, c', hDg, e2, hcell⟩ := ((HSB.out.keep cX.out (fun _ _ e => e)).keep d (fun k hk e => by have := HD.out k hk; omega)).row (by omega)
              obtain ⟨rfl, rfl⟩ : ac = some ⟨g, o, none⟩ ∧ cc = c' := by simpa using e2
              obtain ⟨x0, x1, x2, x3, x4⟩ := hcell j hlt
              have i1 : (0 : Int) ≤ j := by omega
              have i2 : (j : Int) < Bs.length := by omega
              have hsn : (dr A (Bs.take (j + 1)) c) = if Bs[j].cls = c then ((dr A (Bs.take j) c)).plus Bs[j] (-1) else (dr A (Bs.take j) c) := by rw [List.take_succ_eq_append_getElem hlt, dr_snoc]
              have hpl := fun w' => rplus_of ((dr A (Bs.take j) c)) Bs[j] (-1) (.inr rfl) (fitD HA.out HB.out j c) (HB.out.fit (List.getElem_mem hlt)) w'
              clear hcell e2
              generalize (dr A (Bs.take j) c) = T at *
              generalize hT : (dr A (Bs.take (j + 1)) c) = T1 at *
              replace hT := Lib.hid hT
              generalize Bs[j] = r at *
              simp only [R5.cells] at b3
              by_cases hrc : r.cls = c
              · rw [if_pos hrc] at hsn
                rw [← hsn] at hpl
                have g1 : (r.cls == c) = true := by simpa using hrc
                clear hsn hrc
                obtain ⟨y0, y1, y2, y3, y4⟩ := cells5 b3
                simp only [R5.val] at hpl
                replace b3 := Lib.hid b3
                replace d := Lib.hid d
                go_wp2_with fail
                replace y0 := cellB y0
                replace y1 := cellB y1
                replace y2 := cellB y2
                replace y3 := cellB y3
                replace y4 := cellB y4
                replace x0 := cellB x0
                replace x1 := cellB x1
                replace x2 := cellB x2
                replace x3 := cellB x3
                replace x4 := cellB x4
                refine wp_region_tailB 6 (by kernel_rfl) (by kernel_rfl) ?_
                simp only [List.take_succ_cons, List.take_zero, List.drop_succ_cons, List.drop_zero]
                repeat (go_big_quiet_step ((go_at_call 120; exact quietB (hpl _))))
                refine wpQuiet_nil ?_
                intro _ hw1
                obtain ⟨⟨dq, osq⟩, hw2⟩ := hw1
                subst hw2
                have c1 := chB wr dq osq
                generalize grow (redrawn wr dq) osq = w7 at *
                have b5 := c1.keep b3.out (fun e => e)
                obtain ⟨z0, z1, z2, z3, z4⟩ := cells5 b5
                obtain ⟨f0, f1, f2, f3, f4⟩ := free5 b5
                clear x0 x1 x2 x3 x4 y0 y1 y2 y3 y4 hpl
                replace d := Lib.hid (d.out.trans' c1 (fun _ _ e => e) (fun _ _ e => e.elim))
                clear c1 b3
                replace b5 := Lib.hid b5
                go_wp2_with fail
                obtain ⟨q1, q2⟩ := set5 b5.out (.int .i64 T1.cls) (.int .i64 T1.cnt) (.int .i64 T1.wds) (.int .i64 T1.refs) (.int .i64 T1.fin)
                go_roundw
                case rel => exact ⟨j + 1, by omega, by go_num, by rw [q1, hT.out]; rfl, d.out.trans' q2 (fun _ _ e => e) (fun _ _ e => e)⟩
                case measure => simp [intOf]; omega
              · rw [if_neg hrc] at hsn
                have g1 : (r.cls == c) = false := by simpa using hrc
                subst hsn
                clear hpl hrc
                replace b3 := Lib.hid b3
                replace d := Lib.hid d
                go_wp2_with fail
                go_roundw
                case rel => exact ⟨j + 1, by omega, by go_num, by rw [hT.out]; exact b3.out, d.out⟩
                case measure => simp [intOf]; omega
            · have i2 : (Bs.length : Int) ≤ j := by omega
              have e1 : Bs.take j = Bs := List.take_of_length_le (by omega)
              rw [e1] at b3
              clear e1
              have hR6 : HasR wr 110 (fun k => w.heap.size ≤ k) (.slice av out.length cv) out := ⟨hR.out.1.keep d (fun k hk e => hrB.out k hk e), hR.out.2⟩
              have cW : Ch0 w wr := cX.out.trans' d (fun _ _ e => e) (fun k hk e => by omega)
              generalize hT : dr A Bs c = T at *
              replace hT := Lib.hid hT
              simp only [R5.cells] at b3
              obtain ⟨y0, y1, y2, y3, y4⟩ := cells5 b3
              replace b3 := Lib.hid b3
              clear d cX hj hlt
              by_cases hz : T.nz = true
              · rw [if_pos hz] at hst1
                have hca := nz_case hz
                have cX2 : Ch0 wr (wr.alloc (.cells #[.int .i64 T.cls, .int .i64 T.cnt, .int .i64 T.wds, .int .i64 T.refs, .int .i64 T.fin] 110)) := (Ch.refl _ _).alloc _
                have bX2 := heap_alloc_new wr (.cells #[.int .i64 T.cls, .int .i64 T.cnt, .int .i64 T.wds, .int .i64 T.refs, .int .i64 T.fin] 110)
                have hR7 := hR6.keep cX2 (fun _ _ e => e)
                obtain ⟨a', c', w9, hrun, r9, d9, b9⟩ := run_rrows hR7.1 (by omega) (sees_one5 bX2) (by simp) 103
                simp only [List.length_singleton] at hrun r9 b9
                have hl := HL.out w9 ((cW.trans cX2).trans' d9 (fun _ _ e => e) (fun k hk e => by have := hR7.2 k e; omega)) c false
                have HE : Hid (HasR w9 110 (fun k => w.heap.size ≤ k) (.slice a' (out.length + 1) c') (out ++ [T]) ∧ Ch0 w w9) := by
                  refine Lib.hid ⟨⟨r9, fun k hk => ?_⟩, (cW.trans cX2).trans' d9 (fun _ _ e => e) (fun k hk e => by have := hR7.2 k e; omega)⟩
                  rcases b9 with e | e
                  · rw [e] at hk; exact hR7.2 k hk
                  · rw [e] at hk; cases hk; have := cW.size; simp only [World.size_alloc]; omega
                generalize leastF (A ++ Bs) c false = q at *
                obtain ⟨q1, q2⟩ := q
                clear hR6 hR7 cX2 bX2 r9 d9 b9 cW hz hR
                rcases hca with g | ⟨g, h2⟩ | ⟨g, h2, h3⟩ | ⟨g, h2, h3, h4⟩
                all_goals
                  go_wp2_with (at_builtin; refine wpList_append_run rfl _ _ 103 103 rfl rfl rfl hrun ?_)
                  refine hl.mono ?_
                  rintro e w10 ⟨rfl, c10⟩
                  have HF := Lib.hid (And.intro (HE.out.1.keep c10 (fun _ _ e => e)) (HE.out.2.trans c10))
                  clear c10 HE
                  go_wp2_with fail
                  go_roundw
                  case rel => exact ⟨out ++ [T], (q1, q2), rfl, rfl, hst1.out, by simpa using HF.out.1, by have := hab.out; have := hn.out; simp only [List.length_append, List.length_singleton]; omega, HF.out.2⟩
                  case measure => simp only [intOf, asB]; exact hab.out
              · rw [if_neg hz] at hst1
                have hz0 := nz_false.1 (show T.nz = false by simpa using hz)
                have g0 : (T.cnt != 0) = false := by simp [hz0.1]
                have g1 : (T.wds != 0) = false := by simp [hz0.2.1]
                have g2 : (T.refs != 0) = false := by simp [hz0.2.2.1]
                have g3 : (T.fin != 0) = false := by simp [hz0.2.2.2]
                have hl := HL.out wr cW c false
                have HE := Lib.hid (And.intro hR6 cW)
                generalize leastF (A ++ Bs) c false = q at *
                obtain ⟨q1, q2⟩ := q
                clear hR6 cW hz hz0 hR
                go_wp2_with fail
                refine hl.mono ?_
                rintro e w10 ⟨rfl, c10⟩
                have HF := Lib.hid (And.intro (HE.out.1.keep c10 (fun _ _ e => e)) (HE.out.2.trans c10))
                clear c10 HE
                go_wp2_with fail
                go_roundw
                case rel => exact ⟨out, (q1, q2), rfl, rfl, hst1.out, HF.out.1, by have := hab.out; have := hn.out; omega, HF.out.2⟩
                case measure => simp only [intOf, asB]; exact hab.out

end Go.Proofs.Ytlmeponoadhheaa

