/-
  Contract of the document's Of: the rows of a graph, class by class.
-/
import Derived.Test.YtlmeponoadhheaaCOf
import Derived.Test.YtlmeponoadhheaaLeast
namespace Go.Proofs.Ytlmeponoadhheaa
set_option linter.unusedVariables false
open Go.RowKit

theorem dr_nil0 (A : List R5) (c : Int) : dr A [] c = S5 c A := by
  unfold dr R5.plus S5
  simp [sm]

theorem cnt_nz {L : List GN} (c : Int) : (0 < (S5 c (grows L)).cnt ∧ (S5 c (grows L)).nz = true) ∨ ((S5 c (grows L)).cnt = 0 ∧ (S5 c (grows L)).nz = false) := by
  have h0 : ∀ L : List GN, 0 ≤ sm R5.cnt c (grows L) ∧ (∀ nd ∈ L, nd.cls = c → 0 < sm R5.cnt c (grows L)) := by
    intro L
    induction L with
    | nil => exact ⟨Int.le_refl _, fun nd h => by cases h⟩
    | cons a l ih =>
      have e : sm R5.cnt c (grows (a :: l)) = (if a.cls = c then 1 else 0) + sm R5.cnt c (grows l) := rfl
      rw [e]
      refine ⟨by split <;> omega, fun nd hnd hc => ?_⟩
      rcases List.mem_cons.1 hnd with rfl | h
      · rw [if_pos hc]; omega
      · have := ih.2 nd h hc
        split <;> omega
  by_cases he : ∃ nd ∈ L, nd.cls = c
  · obtain ⟨nd, hnd, hc⟩ := he
    have := (h0 L).2 nd hnd hc
    left
    refine ⟨this, ?_⟩
    cases hz : (S5 c (grows L)).nz with
    | true => rfl
    | false => have := (nz_false.1 hz).1; unfold S5 at this; simp only at this; omega
  · right
    have hn : ∀ x ∈ grows L, x.cls ≠ c := by
      intro x hx e
      obtain ⟨nd, hnd, rfl⟩ := List.mem_map.1 hx
      exact he ⟨nd, hnd, e⟩
    unfold S5
    simp only [sm_none hn]
    exact ⟨trivial, rfl⟩

/-- the rows of the classes below one -/
def OfTo (L : List GN) (q : Int) (out : List R5) : Prop := out.Pairwise (fun a b => a.cls < b.cls) ∧ ∀ r, r ∈ out ↔ (r = S5 r.cls (grows L) ∧ r.nz = true ∧ r.cls < q)

theorem grows_cls {cs : List Cls} {L : List GN} (hw : ∀ nd ∈ L, WfN cs nd) {c : Int} (h : (S5 c (grows L)).nz = true) : 1 ≤ c ∧ c ≤ cs.length := by
  have hm := dr_nz_mem (a := grows L) (b := []) (c := c) (by rw [dr_nil0]; exact h)
  rw [List.append_nil] at hm
  obtain ⟨x, hx, rfl⟩ := List.mem_map.1 hm
  obtain ⟨nd, hnd, rfl⟩ := List.mem_map.1 hx
  exact ⟨(hw nd hnd).c1, (hw nd hnd).c2⟩

theorem OfTo.start {cs : List Cls} {L : List GN} (hw : ∀ nd ∈ L, WfN cs nd) : OfTo L 1 [] :=
  ⟨List.Pairwise.nil, fun r => ⟨(fun h => by cases h), (fun ⟨h1, h2, h3⟩ => by
    have := (grows_cls hw (c := r.cls) (by rw [← h1]; exact h2)).1
    omega)⟩⟩

theorem OfTo.step {L : List GN} {q : Int} {out : List R5} (h : OfTo L q out) : OfTo L (q + 1) (if (S5 q (grows L)).nz then out ++ [S5 q (grows L)] else out) := by
  have hlt : ∀ r ∈ out, r.cls < q := fun r hr => ((h.2 r).1 hr).2.2
  constructor
  · split
    · rw [List.pairwise_append]
      exact ⟨h.1, List.pairwise_singleton _ _, fun a ha b hb => by rw [List.mem_singleton.1 hb]; exact hlt a ha⟩
    · exact h.1
  · intro r
    by_cases hz : (S5 q (grows L)).nz = true
    · rw [if_pos hz, List.mem_append, h.2 r, List.mem_singleton]
      constructor
      · rintro (⟨h1, h2, h3⟩ | rfl)
        · exact ⟨h1, h2, by omega⟩
        · exact ⟨rfl, hz, by show q < q + 1; omega⟩
      · rintro ⟨h1, h2, h3⟩
        by_cases e : r.cls = q
        · exact .inr (by rw [h1, e])
        · exact .inl ⟨h1, h2, by omega⟩
    · rw [if_neg hz, h.2 r]
      constructor
      · rintro ⟨h1, h2, h3⟩; exact ⟨h1, h2, by omega⟩
      · rintro ⟨h1, h2, h3⟩
        refine ⟨h1, h2, ?_⟩
        by_cases e : r.cls = q
        · rw [h1, e] at h2; exact absurd h2 hz
        · omega

theorem OfTo.rows {cs : List Cls} {L : List GN} (hw : ∀ nd ∈ L, WfN cs nd) {out : List R5} (h : OfTo L ((cs.length : Int) + 1) out) : IsRows (fun c => S5 c (grows L)) out :=
  ⟨h.1, fun r => by
    rw [h.2 r]
    exact ⟨fun h => ⟨h.1, h.2.1⟩, fun h => ⟨h.1, h.2, by
      have e : r = S5 r.cls (grows L) := h.1
      have := (grows_cls hw (c := r.cls) (by rw [← e]; exact h.2)).2; omega⟩⟩⟩

theorem OfTo.len {L : List GN} {q : Nat} {out : List R5} (h : OfTo L ((q : Int) + 1) out) (h1 : ∀ r ∈ out, 1 ≤ r.cls) : out.length ≤ q := by
  have : ∀ (n : Nat) (l : List R5), l.Pairwise (fun a b => a.cls < b.cls) → (∀ r ∈ l, (n : Int) + 1 ≤ r.cls ∧ r.cls < (q : Int) + 1) → l.length + n ≤ q ∨ l = [] := by
    intro n l
    induction l generalizing n with
    | nil => intro _ _; exact .inr rfl
    | cons a l ih =>
      intro hp hb
      rw [List.pairwise_cons] at hp
      have ha := hb a List.mem_cons_self
      rcases ih (n + 1) hp.2 (fun r hr => by have := hp.1 r hr; have := hb r (List.mem_cons_of_mem _ hr); omega) with e | e
      · left; simp only [List.length_cons]; omega
      · left; subst e; simp only [List.length_cons, List.length_nil]; omega
  rcases this 0 out h.1 (fun r hr => ⟨by have := h1 r hr; omega, ((h.2 r).1 hr).2.2⟩) with e | e
  · omega
  · subst e; simp

set_option maxRecDepth 100000 in
set_option maxHeartbeats 4000000 in
theorem rof_of {w : World} {b : Nat} {O D : Nat → Prop} {cs : List Cls} {cv : Value} {L : List GN} (h : Rt w b O D cs cv L) (hcs : cs.length ≤ 100) (hL : L.length ≤ 500) :
    Calls Try.prog 82 #[.pointer (some ⟨b, 0, none⟩)] w fun e w' => ∃ v R, e = .returned v ∧ IsRows (fun c => S5 c (grows L)) R ∧ HasR w' 110 (fun k => w.heap.size ≤ k) v R ∧ R.length ≤ 100 ∧ Ch0 w w' := by
  have hF : Few (grows L) := few_grows h.wf hL
  have HW := Lib.hid h.wf
  obtain ⟨ca, cc, ecv, -⟩ := Sees.len h.c
  obtain ⟨nv, vr, vd, ow, hg⟩ := h.g
  obtain ⟨na, nc, env, -, -⟩ := hg.row.isSlice
  obtain ⟨k0, k1⟩ := hg.cells
  subst env
  rw [ecv] at k0
  have hst := OfTo.start h.wf
  have hbl : b < w.heap.size := lt_of_block hg.blk
  have HG := Lib.hid hg
  have hc1 : ∀ r : R5, r = S5 r.cls (grows L) → r.nz = true → 1 ≤ r.cls := fun r h1 h2 => (grows_cls h.wf (c := r.cls) (by rw [← h1]; exact h2)).1
  replace hc1 := Lib.hid hc1
  replace hF := Lib.hid hF
  replace hst := Lib.hid hst
  clear h hg ecv
  go_enter Try.func82, Try.ntmps82
  go_wp2_with fail
  go_loopw [3, 4] (fun u c wr => ∃ (q : Nat) (out : List R5), q ≤ cs.length ∧ c = .int .i64 ((q : Int) + 1) ∧ OfTo L ((q : Int) + 1) out ∧ HasR wr 110 (fun k => w.heap.size ≤ k) u out ∧ Ch0 w wr) (fun _ c _ => cs.length + 1 - (intOf c).toNat)
  case atStart => exact ⟨0, [], Nat.zero_le _, rfl, hst.out, ⟨RowAt.nil, fun k hk => by cases hk⟩, Ch.refl _ _⟩
  case round =>
    obtain ⟨q, out, hq, rfl, hO, hR, d⟩ := hrel
    clear hst
    obtain ⟨av, cv', ev, -, -⟩ := hR.1.isSlice
    subst ev
    have hol : out.length ≤ q := hO.len (fun r hr => by have := (hO.2 r).1 hr; exact hc1.out r this.1 this.2.1)
    have j0 := d.cell k0 (fun e => e)
    have j1 := d.cell k1 (fun e => e)
    by_cases hlt : q < cs.length
    · have g1 : decide ((q : Int) + 1 ≤ cs.length) = true := decide_eq_true (by omega)
      have hst1 := Lib.hid hO.step
      have cX : Ch0 wr (wr.alloc (.cells #[.int .i64 ((q : Int) + 1), .int .i64 0, .int .i64 0, .int .i64 0, .int .i64 0] 110)) := (Ch.refl _ _).alloc _
      have bX := heap_alloc_new wr (.cells #[.int .i64 ((q : Int) + 1), .int .i64 0, .int .i64 0, .int .i64 0, .int .i64 0] 110)
      have m0 := cX.cell j0 (fun e => e)
      have m1 := cX.cell j1 (fun e => e)
      have hR5 := hR.keep cX (fun _ _ e => e)
      have hrB : Hid (∀ k, rblk (.slice av out.length cv') = some k → k ≠ wr.heap.size) := Lib.hid (fun k hk e => by have := hR.1.lt hk; omega)
      have hbB : b ≠ wr.heap.size := by have := d.size; omega
      have hwB : w.heap.size ≤ wr.heap.size := d.size
      replace cX := Lib.hid (d.trans cX)
      replace bX := Lib.hid bX
      replace hR5 := Lib.hid hR5
      clear hR hO d
      have y9 : IntKind.i64.wrap ((q : Int) + 1 + 1) = (q : Int) + 1 + 1 := IntWalk.i64_in _ (by omega)
      go_wp2_with fail
      generalize wr.alloc (.cells #[.int .i64 ((q : Int) + 1), .int .i64 0, .int .i64 0, .int .i64 0, .int .i64 0] 110) = w5 at *
      generalize wr.heap.size = B5 at *
      clear j0 j1
      go_loopw [25] (fun i wr => ∃ j : Nat, j ≤ L.length ∧ i = .int .i64 j ∧ wr.heap[B5]? = some (.cells (R5.cells (S5 ((q : Int) + 1) ((grows L).take j))).toArray 110 (0, 0)) ∧ Ch (fun k => k = B5) w5 wr) (fun i _ => L.length - (intOf i).toNat)
      case atStart => exact ⟨0, Nat.zero_le _, rfl, bX.out, Ch.refl _ _⟩
      case round =>
        obtain ⟨j, hj, rfl, b3, d⟩ := hrel
        clear bX
        have n0 := d.cell m0 (fun e => hbB e)
        have n1 := d.cell m1 (fun e => hbB e)
        by_cases hjt : j < L.length
        · have hGr := (HG.out.keep cX.out (fun _ _ e => e)).keep d (fun k hk e => by have := HG.out.small k hk; omega)
          obtain ⟨g, o, c', e2, -, hcell⟩ := hGr.node (by omega)
          obtain ⟨rfl, rfl⟩ : na = some ⟨g, o, none⟩ ∧ nc = c' := by simpa using e2
          obtain ⟨x0, x1, x2, x3, x4⟩ := hcell j hjt
          have hnd : L[j] ∈ L := List.getElem_mem hjt
          have hwf := HW.out _ hnd
          have q1 := hwf.refs
          have q2 := hwf.data
          have hrf := hGr.refs _ hnd
          obtain ⟨ar, cr, er, -, -⟩ := hrf.isSlice
          obtain ⟨ad, cd, ed, -, -⟩ := (hGr.data _ hnd).isSlice
          rw [er] at x2 hrf
          rw [ed] at x3
          have hgl : j < (grows L).length := by simpa [grows] using hjt
          have hgj : (grows L)[j] = grow5 L[j] := by simp [grows]
          have hsn : S5 ((q : Int) + 1) ((grows L).take (j + 1)) = if L[j].cls = (q : Int) + 1 then (S5 ((q : Int) + 1) ((grows L).take j)).plus (grow5 L[j]) 1 else S5 ((q : Int) + 1) ((grows L).take j) := by
            rw [List.take_succ_eq_append_getElem hgl, S5_snoc, hgj]; rfl
          have hTi : Fit5 (S5 ((q : Int) + 1) ((grows L).take j)) := ((hF.out.take j).S5 _).mono (by decide)
          have hTc : (S5 ((q : Int) + 1) ((grows L).take j)).cls = (q : Int) + 1 := rfl
          have i1 : (0 : Int) ≤ j := by omega
          have i2 : (j : Int) < L.length := by omega
          have hRlt : Hid (∀ k, rblk (.slice ar L[j].refs.length cr) = some k → k < wr.heap.size ∧ k ≠ B5) := Lib.hid (fun k hk => ⟨hrf.lt hk, fun e => by
            have h1 := hGr.ownN _ hnd k (.inl (by rw [er]; exact hk))
            have := HG.out.small k h1.1
            omega⟩)
          clear e2 hcell hGr hwf hgl hgj er ed hnd
          generalize S5 ((q : Int) + 1) ((grows L).take j) = T at *
          generalize hT : S5 ((q : Int) + 1) ((grows L).take (j + 1)) = T' at *
          replace hT := Lib.hid hT
          generalize L[j] = nd at *
          obtain ⟨tc, t1, t2, t3, t4⟩ := T
          simp only at hTc
          subst hTc
          simp only [R5.cells] at b3
          unfold Fit5 R5.In at hTi
          simp only at hTi
          obtain ⟨⟨l1, u1⟩, ⟨l2, u2⟩, ⟨l3, u3⟩, l4, u4⟩ := hTi
          by_cases hcl : nd.cls = (q : Int) + 1
          · rw [if_pos hcl] at hsn
            have g2 : (nd.cls != (q : Int) + 1) = false := by simpa using hcl
            have cN : Ch0 wr (wr.alloc (.cells #[.int .i64 nd.id, .int .i64 nd.cls, .slice ar nd.refs.length cr, .slice ad nd.data.length cd, .bool nd.fin] 36)) := (Ch.refl _ _).alloc _
            have bN := heap_alloc_new wr (.cells #[.int .i64 nd.id, .int .i64 nd.cls, .slice ar nd.refs.length cr, .slice ad nd.data.length cd, .bool nd.fin] 36)
            have b4 := cN.keep b3 (fun e => e)
            obtain ⟨y0, y1, y2, y3, y4⟩ := cells5 b4
            obtain ⟨f0, f1, f2, f3, f4⟩ := free5 b4
            have hne : wr.heap.size ≠ B5 := fun e => by have := lt_of_block b3; omega
            have hne' : B5 ≠ wr.heap.size := Ne.symm hne
            have s1 := heap_setCell_same _ B5 1 _ _ (.int .i64 (t1 + 1)) b4
            have s2 := heap_setCell_same _ B5 2 _ _ (.int .i64 (t2 + 2 + (nd.refs.length : Int) + (nd.data.length : Int))) s1
            have cS : Ch (fun k => k = B5) (wr.alloc (.cells #[.int .i64 nd.id, .int .i64 nd.cls, .slice ar nd.refs.length cr, .slice ad nd.data.length cd, .bool nd.fin] 36)) (((wr.alloc (.cells #[.int .i64 nd.id, .int .i64 nd.cls, .slice ar nd.refs.length cr, .slice ad nd.data.length cd, .bool nd.fin] 36)).setCell ⟨B5, 1, none⟩ (.int .i64 (t1 + 1))).setCell ⟨B5, 2, none⟩ (.int .i64 (t2 + 2 + (nd.refs.length : Int) + (nd.data.length : Int)))) := Ch.setCell (S := fun k => k = B5) (Ch.setCell (S := fun k => k = B5) (Ch.refl _ _) (p := ⟨B5, 1, none⟩) (fun _ => rfl) _) (p := ⟨B5, 2, none⟩) (fun _ => rfl) _
            have bN2 := cS.keep bN hne
            have hRef := Lib.hid ((hrf.keep cN (fun _ _ e => e)).keep cS (fun k hk e => (hRlt.out k hk).2 e))
            have d4 := Lib.hid ((d.trans' cN (fun _ _ e => e) (fun _ _ e => e.elim)).trans' cS (fun _ _ e => e) (fun _ _ e => e))
            have s3 : (((wr.alloc (.cells #[.int .i64 nd.id, .int .i64 nd.cls, .slice ar nd.refs.length cr, .slice ad nd.data.length cd, .bool nd.fin] 36)).setCell ⟨B5, 1, none⟩ (.int .i64 (t1 + 1))).setCell ⟨B5, 2, none⟩ (.int .i64 (t2 + 2 + (nd.refs.length : Int) + (nd.data.length : Int)))).heap[B5]? = some (.cells #[.int .i64 ((q : Int) + 1), .int .i64 (t1 + 1), .int .i64 (t2 + 2 + (nd.refs.length : Int) + (nd.data.length : Int)), .int .i64 t3, .int .i64 t4] 110 (0, 0)) := s2
            have v1 : IntKind.i64.wrap (t1 + 1) = t1 + 1 := IntWalk.i64_in _ (by omega)
            have v2 : IntKind.i64.wrap (t2 + 2) = t2 + 2 := IntWalk.i64_in _ (by omega)
            have v3 : IntKind.i64.wrap (t2 + 2 + (nd.refs.length : Int)) = t2 + 2 + (nd.refs.length : Int) := IntWalk.i64_in _ (by omega)
            have v4 : IntKind.i64.wrap (t2 + 2 + (nd.refs.length : Int) + (nd.data.length : Int)) = t2 + 2 + (nd.refs.length : Int) + (nd.data.length : Int) := IntWalk.i64_in _ (by omega)
            replace s3 := Lib.hid s3
            replace bN2 := Lib.hid bN2
            have hT2 : Hid (T' = ⟨(q : Int) + 1, t1 + 1, t2 + 2 + (nd.refs.length : Int) + (nd.data.length : Int), t3 + live5 nd.refs, t4 + if nd.fin then 1 else 0⟩) := Lib.hid (by
              rw [hsn]
              unfold R5.plus grow5
              exact R5.ext4 rfl (by simp only; omega) (by simp only; omega) (by simp only; omega) (by simp only; omega))
            have hRd : Hid (∀ k, rblk (.slice ar nd.refs.length cr) = some k → k ≠ B5) := Lib.hid (fun k hk => (hRlt.out k hk).2)
            clear hsn hcl b3 d cN hrf hRlt b4 bN s1 s2 cS
            go_wp2_with fail
            generalize ((wr.alloc (.cells #[.int .i64 nd.id, .int .i64 nd.cls, .slice ar nd.refs.length cr, .slice ad nd.data.length cd, .bool nd.fin] 36)).setCell ⟨B5, 1, none⟩ (.int .i64 (t1 + 1))).setCell ⟨B5, 2, none⟩ (.int .i64 (t2 + 2 + (nd.refs.length : Int) + (nd.data.length : Int))) = w8 at *
            generalize wr.heap.size = B7 at *
            generalize hWd : t2 + 2 + (nd.refs.length : Int) + (nd.data.length : Int) = Wd at *
            clear y0 y1 y2 y3 y4 f0 f1 f2 f3 f4 v1 v2 v3 v4 hWd x0 x1 x2 x3 x4
            go_loopw [58] (fun i wr => ∃ k : Nat, k ≤ nd.refs.length ∧ i = .int .i64 k ∧ wr.heap[B5]? = some (.cells #[.int .i64 ((q : Int) + 1), .int .i64 (t1 + 1), .int .i64 Wd, .int .i64 (t3 + live5 (nd.refs.take k)), .int .i64 t4] 110 (0, 0)) ∧ Ch (fun k => k = B5) w8 wr) (fun i _ => nd.refs.length - (intOf i).toNat)
            case atStart => exact ⟨0, Nat.zero_le _, rfl, by rw [s3.out]; simp [live5], Ch.refl _ _⟩
            case round =>
              obtain ⟨k, hk, rfl, b3, dd⟩ := hrel
              clear s3
              have hll := live5_le (nd.refs.take k)
              have hln : (nd.refs.take k).length ≤ 60 := by rw [List.length_take]; omega
              have b77 := dd.keep bN2.out hne
              obtain ⟨x0, x1, x2, x3, x4⟩ := cells5 b77
              obtain ⟨z0, z1, z2, z3, z4⟩ := cells5 b3
              obtain ⟨f0, f1, f2, f3, f4⟩ := free5 b3
              by_cases hkt : k < nd.refs.length
              · obtain ⟨g3, o3, c3, -, e3, hc3⟩ := SeesI.cell (D := fun k => rblk (.slice ar nd.refs.length cr) = some k) (xs := nd.refs) (w := wr) (v := .slice ar nd.refs.length cr) ((hRef.out.keep dd (fun k hk e => hRd.out k hk e)).sees) (by omega)
                obtain ⟨rfl, rfl⟩ : ar = some ⟨g3, o3, none⟩ ∧ cr = c3 := by simpa using e3
                have hx := hc3 k hkt
                have hls := live5_snoc (nd.refs.take k) (nd.refs.getD k 0)
                have htk : nd.refs.take (k + 1) = nd.refs.take k ++ [nd.refs.getD k 0] := by rw [List.take_succ_eq_append_getElem hkt]; simp [List.getD_eq_getElem?_getD, hkt]
                rw [← htk] at hls
                clear e3 hc3 htk
                have k1 : (0 : Int) ≤ k := by omega
                have k2 : (k : Int) < nd.refs.length := by omega
                generalize nd.refs.getD k 0 = X at *
                generalize live5 (nd.refs.take k) = S at *
                generalize hS' : live5 (nd.refs.take (k + 1)) = S' at *
                replace hS' := Lib.hid hS'
                replace dd := Lib.hid dd
                have w1 : IntKind.i64.wrap (t3 + S + 1) = t3 + S + 1 := IntWalk.i64_in _ (by omega)
                by_cases hX : X = 0
                · rw [if_pos hX, Int.add_zero] at hls
                  have g1 : (X != 0) = false := by simpa using hX
                  subst hls
                  replace b3 := Lib.hid b3
                  clear hX f0 f1 f2 f3 f4 z0 z1 z2 z3 z4 w1 hll b77
                  go_wp2_with fail
                  go_roundw
                  case rel => exact ⟨k + 1, by omega, by go_num, by rw [hS'.out]; exact b3.out, dd.out⟩
                  case measure => simp [intOf]; omega
                · rw [if_neg hX] at hls
                  have g1 : (X != 0) = true := by simpa using hX
                  have q5 := heap_setCell_same wr B5 3 _ _ (.int .i64 (t3 + S + 1)) b3
                  have q6 : Ch (fun k => k = B5) w8 (wr.setCell ⟨B5, 3, none⟩ (.int .i64 (t3 + S + 1))) := Ch.setCell dd.out (fun _ => rfl) _
                  replace q5 := Lib.hid q5
                  replace q6 := Lib.hid q6
                  replace hls := Lib.hid hls
                  clear hX b3 hll b77
                  go_wp2_with fail
                  go_roundw
                  case rel => exact ⟨k + 1, by omega, by go_num, by rw [hS'.out, hls.out, ← Int.add_assoc]; exact q5.out, q6.out⟩
                  case measure => simp [intOf]; omega
              · have e1 : nd.refs.take k = nd.refs := List.take_of_length_le (by omega)
                rw [e1] at b3 z3 hll
                have k2 : (nd.refs.length : Int) ≤ k := by omega
                have hdd := d4.out.trans' dd (fun _ _ e => e) (fun _ _ e => e)
                generalize live5 nd.refs = S at *
                have w1 : IntKind.i64.wrap (t4 + 1) = t4 + 1 := IntWalk.i64_in _ (by omega)
                cases hfin : nd.fin with
                | false =>
                  rw [hfin] at x4 hT2
                  simp only [Bool.false_eq_true, if_false, Int.add_zero] at hT2
                  replace b3 := Lib.hid b3
                  replace hdd := Lib.hid hdd
                  clear hll b77 dd e1 hRef d4 w1
                  go_wp2_with fail
                  go_roundw
                  case rel => exact ⟨j + 1, by omega, by go_num, by rw [hT.out, hT2.out]; exact b3.out, hdd.out⟩
                  case measure => simp [intOf]; omega
                | true =>
                  rw [hfin] at x4 hT2
                  simp only [if_true] at hT2
                  have q5 := heap_setCell_same wr B5 4 _ _ (.int .i64 (t4 + 1)) b3
                  have q6 : Ch (fun k => k = B5) w5 (wr.setCell ⟨B5, 4, none⟩ (.int .i64 (t4 + 1))) := Ch.setCell hdd (fun _ => rfl) _
                  replace q5 := Lib.hid q5
                  replace q6 := Lib.hid q6
                  clear hll b77 dd e1 hRef d4 b3 hdd
                  go_wp2_with fail
                  go_roundw
                  case rel => exact ⟨j + 1, by omega, by go_num, by rw [hT.out, hT2.out]; exact q5.out, q6.out⟩
                  case measure => simp [intOf]; omega
          · rw [if_neg hcl] at hsn
            have g2 : (nd.cls != (q : Int) + 1) = true := by simpa using hcl
            have cN : Ch0 wr (wr.alloc (.cells #[.int .i64 nd.id, .int .i64 nd.cls, .slice ar nd.refs.length cr, .slice ad nd.data.length cd, .bool nd.fin] 36)) := (Ch.refl _ _).alloc _
            have b4 := Lib.hid (cN.keep b3 (fun e => e))
            have d4 := Lib.hid (d.trans' cN (fun _ _ e => e) (fun _ _ e => e.elim))
            clear hcl b3 d cN hrf hRlt
            go_wp2_with fail
            go_roundw
            case rel => exact ⟨j + 1, by omega, by go_num, by rw [hT.out, hsn]; exact b4.out, d4.out⟩
            case measure => simp [intOf]; omega
        · have i2 : (L.length : Int) ≤ j := by omega
          have e1 : (grows L).take j = grows L := List.take_of_length_le (by simp [grows]; omega)
          rw [e1] at b3
          clear e1
          have hR6 : HasR wr 110 (fun k => w.heap.size ≤ k) (.slice av out.length cv') out := ⟨hR5.out.1.keep d (fun k hk e => hrB.out k hk e), hR5.out.2⟩
          have cW : Ch0 w wr := cX.out.trans' d (fun _ _ e => e) (fun k hk e => by omega)
          have hcn := cnt_nz (L := L) ((q : Int) + 1)
          generalize hT : S5 ((q : Int) + 1) (grows L) = T at *
          replace hT := Lib.hid hT
          simp only [R5.cells] at b3
          obtain ⟨y0, y1, y2, y3, y4⟩ := cells5 b3
          clear d cX hR5
          rcases hcn with ⟨hc0, hz⟩ | ⟨hc0, hz⟩
          · rw [if_pos hz] at hst1
            have g3 : decide (0 < T.cnt) = true := decide_eq_true hc0
            have cX2 : Ch0 wr (wr.alloc (.cells #[.int .i64 T.cls, .int .i64 T.cnt, .int .i64 T.wds, .int .i64 T.refs, .int .i64 T.fin] 110)) := (Ch.refl _ _).alloc _
            have bX2 := heap_alloc_new wr (.cells #[.int .i64 T.cls, .int .i64 T.cnt, .int .i64 T.wds, .int .i64 T.refs, .int .i64 T.fin] 110)
            have hR7 := hR6.keep cX2 (fun _ _ e => e)
            obtain ⟨a', c'', w9, hrun, r9, d9, b9⟩ := run_rrows hR7.1 (by omega) (sees_one5 bX2) (by simp) 103
            simp only [List.length_singleton] at hrun r9 b9
            have HE : Hid (HasR w9 110 (fun k => w.heap.size ≤ k) (.slice a' (out.length + 1) c'') (out ++ [T]) ∧ Ch0 w w9) := by
              refine Lib.hid ⟨⟨r9, fun k hk => ?_⟩, (cW.trans cX2).trans' d9 (fun _ _ e => e) (fun k hk e => by have := hR7.2 k e; omega)⟩
              rcases b9 with e | e
              · rw [e] at hk; exact hR7.2 k hk
              · rw [e] at hk; cases hk; have := cW.size; simp only [World.size_alloc]; omega
            clear hR6 hR7 cX2 bX2 r9 d9 b9 cW hz hc0 b3
            go_wp2_with (at_builtin; refine wpList_append_run rfl _ _ 103 103 rfl rfl rfl hrun ?_)
            go_roundw
            case rel => exact ⟨q + 1, out ++ [T], by omega, by go_num, hst1.out, by simpa using HE.out.1, HE.out.2⟩
            case measure => simp only [intOf]; omega
          · rw [if_neg (by rw [hz]; simp)] at hst1
            have g3 : decide (0 < T.cnt) = false := decide_eq_false (by omega)
            have HE := Lib.hid (And.intro hR6 cW)
            clear hR6 cW hz hc0 b3
            go_wp2_with fail
            go_roundw
            case rel => exact ⟨q + 1, out, by omega, by go_num, hst1.out, HE.out.1, HE.out.2⟩
            case measure => simp only [intOf]; omega
    · have g1 : decide ((q : Int) + 1 ≤ cs.length) = false := decide_eq_false (by omega)
      have hqe : q = cs.length := by omega
      rw [hqe] at hO
      have HE := Lib.hid (And.intro (hO.rows HW.out) (And.intro hR d))
      clear hO hR d hqe
      go_wp2_with fail
      go_ret
      exact ⟨_, out, rfl, HE.out.1, HE.out.2.1, by omega, HE.out.2.2⟩

end Go.Proofs.Ytlmeponoadhheaa
