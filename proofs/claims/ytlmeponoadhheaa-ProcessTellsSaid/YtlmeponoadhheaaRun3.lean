/-
  Contract of a processing's finals.
-/
import Derived.Test.YtlmeponoadhheaaRun2
import Derived.Test.YtlmeponoadhheaaGl
namespace Go.Proofs.Ytlmeponoadhheaa
set_option linter.unusedVariables false
open Go.RowKit

section
variable {M r b : Nat} {w : World} {lv cv fv : Value} {live cleared final : List Int}

/-- one more is to be finalized, stored -/
theorem RunS.final1 {wx w4 : World} {fv' : Value} {fl' : List Int} (h : RunS M w r b lv cv fv live cleared final) (hM : M ≤ w.heap.size) (c5 : Ch0 w wx) (c4 : Ch (fun k => rblk fv = some k) wx w4) (r4 : RowAt w4 3 1 fv' fl'.length (fl'.map (Value.int .i64))) (b4 : rblk fv' = rblk fv ∨ rblk fv' = some wx.heap.size) :
    RunS M (w4.setCell ⟨r, 3, none⟩ fv') r b lv cv fv' live cleared fl' ∧ Ch (fun k => k = r ∨ rblk fv = some k) w (w4.setCell ⟨r, 3, none⟩ fv') := by
  have hx := h.new c5
  have hne := h.ne
  have hb4 : w4.heap[r]? = some (.cells #[.pointer (some ⟨b, 0, none⟩), lv, cv, fv] 152 (0, 0)) := c4.keep hx.blk (fun e => hne.2.2 _ e rfl)
  have hl4 := hx.l.keep c4 (fun k hk e => (h.ap2 k e) hk)
  have hc4 := hx.c.keep c4 (fun k hk e => (h.ap k hk).2 e)
  have hn4 := row_ne_cells r4 hb4 (by decide)
  have cS : Ch (fun k => k = r) w4 (w4.setCell ⟨r, 3, none⟩ fv') := (Ch.refl (fun k => k = r) w4).setCell (p := ⟨r, 3, none⟩) (fun _ => rfl) fv'
  have hnew : ∀ k, rblk fv' = some k → M ≤ k ∧ rblk lv ≠ some k ∧ rblk cv ≠ some k := fun k hk => by
    rcases b4 with e | e
    · rw [e] at hk
      exact ⟨h.fb k hk, h.ap2 k hk, fun q => (h.ap k q).2 hk⟩
    · rw [e] at hk
      cases hk
      refine ⟨by have := c5.size; omega, fun q => ?_, fun q => ?_⟩
      · have := hx.l.lt q; omega
      · have := hx.c.lt q; omega
  refine ⟨⟨?_, hl4.keep cS hne.1, hc4.keep cS hne.2.1, r4.keep cS hn4, h.lb, h.cb, fun k hk => (hnew k hk).1, h.rb, fun k hk => ⟨(h.ap k hk).1, fun e => (hnew k e).2.2 hk⟩, fun k hk => (hnew k hk).2.1⟩, ?_⟩
  · rw [heap_setCell_same w4 r 3 _ _ _ hb4]
    rfl
  · exact (c5.of0.trans (c4.mono (fun k _ e => .inr e))).trans (cS.mono (fun k _ e => .inl e))

end

section
variable {r b : Nat} {w0 w : World} {O : Nat → Prop} {cs : List Cls} {L : List GN} {p lo hi : Nat} {lv cv fv : Value} {live cleared final : List Int}

theorem fin_snoc {live : List Int} {j : Nat} (hj : j < L.length) (hr : Rising L) : (ids (L.take (j + 1))).filter (fun id => isFin L id && !decide (id ∈ live)) = (ids (L.take j)).filter (fun id => isFin L id && !decide (id ∈ live)) ++ (if (L[j].fin && !decide (L[j].id ∈ live)) = true then [L[j].id] else []) := by
  rw [take_snocG L j hj]
  have h1 : isFin L L[j].id = L[j].fin := by unfold isFin; rw [gat_at hr (List.getElem_mem hj)]
  unfold ids
  rw [List.map_append, List.filter_append]
  congr 1
  simp only [List.map_cons, List.map_nil, List.filter, h1]
  cases (L[j].fin && !decide (L[j].id ∈ live)) <;> rfl

set_option maxRecDepth 100000 in
set_option maxHeartbeats 2000000 in
theorem pfinals_of (hg : Gt w0 b O cs L p lo hi) (hL : L.length ≤ 900) (c0 : Ch0 w0 w) (hr0 : w0.heap.size ≤ r) (hhi : hi ≤ w0.heap.size) (h : RunS w0.heap.size w r b lv cv fv live cleared []) (hup : live.Pairwise (· < ·)) (hl : live.length ≤ 1000) :
    Calls Try.prog 116 #[.pointer (some ⟨r, 0, none⟩)] w fun e w' => e = .returned (.tuple #[]) ∧ ∃ lv' fv', RunS w0.heap.size w' r b lv' cv fv' (closeL cs L 1 (live ++ finL L live)) cleared (finL L live) ∧ Ch0 w0 w' := by
  have hids := ids_of (hg.new c0) (by omega)
  obtain ⟨k0, k1, k2, k3⟩ := h.cells
  have HG := Lib.hid hg
  have H := Lib.hid h
  have HUP := Lib.hid hup
  have hrise : Hid (Rising L) := Lib.hid (by obtain ⟨_, _, _, _, _, _, gs⟩ := hg.g; exact gs.rise)
  replace c0 := Lib.hid c0
  clear hg h hup
  go_enter Try.func116, Try.ntmps116
  go_wp2_with fail
  refine hids.mono ?_
  rintro e w1 ⟨vi, rfl, r1, f1, c1⟩
  obtain ⟨ia, ic, ev, -, -⟩ := r1.isSlice
  rw [show (ids L).length = L.length by simp [ids]] at ev r1
  subst ev
  have hR1 := Lib.hid (H.out.new c1)
  have d1 := Lib.hid (c0.out.trans c1)
  have f1' : Hid (∀ k, rblk (.slice ia L.length ic) = some k → w.heap.size ≤ k ∧ k < w1.heap.size) := Lib.hid (fun k hk => ⟨f1 k hk, r1.lt hk⟩)
  have hold : Hid ((∀ k, rblk fv = some k → k < w.heap.size) ∧ r < w.heap.size) := Lib.hid ⟨fun k hk => H.out.f.lt hk, lt_of_block H.out.blk⟩
  replace r1 := Lib.hid r1
  clear hids f1 c1 k0 k1 k2 k3
  go_wp2_with fail
  go_loopw [12] (fun i wr => ∃ (j : Nat) (fv' : Value), j ≤ L.length ∧ i = .int .i64 j ∧ RunS w0.heap.size wr r b lv cv fv' live cleared ((ids (L.take j)).filter (fun id => isFin L id && !decide (id ∈ live))) ∧ Ch0 w0 wr ∧ RowAt wr 3 1 (.slice ia L.length ic) L.length ((ids L).map (Value.int .i64)) ∧ ∀ k, rblk (.slice ia L.length ic) = some k → k ≠ r ∧ rblk fv' ≠ some k ∧ k < wr.heap.size) (fun i _ => L.length - (intOf i).toNat)
  case atStart => exact ⟨0, fv, Nat.zero_le _, rfl, hR1.out, d1.out, r1.out, fun k hk => ⟨by have := (f1'.out k hk).1; have := hold.out.2; omega, fun e => by have := (f1'.out k hk).1; have := hold.out.1 k e; omega, (f1'.out k hk).2⟩⟩
  case round =>
    clear hR1 d1 r1
    obtain ⟨j, fv', hj, rfl, hR, d, hI, hDr⟩ := hrel
    by_cases hlt : j < L.length
    · have hIs := hI.sees
      rw [show L.length = (ids L).length by simp [ids]] at hIs
      obtain ⟨g, o, c1, -, e1, hcell⟩ := SeesI.cell hIs (by simp [ids]; omega)
      rw [show (ids L).length = L.length by simp [ids]] at e1
      obtain ⟨rfl, rfl⟩ : ia = some ⟨g, o, none⟩ ∧ ic = c1 := by simpa using e1
      have hx := hcell j (by simp [ids]; omega)
      rw [show (ids L).getD j 0 = L[j].id by simp [ids, List.getD_eq_getElem?_getD, hlt]] at hx
      have hsn := fin_snoc (live := live) hlt hrise.out
      have hcl : ((ids (L.take j)).filter (fun id => isFin L id && !decide (id ∈ live))).length ≤ 1000 := by
        have h1 := List.length_filter_le (fun id => isFin L id && !decide (id ∈ live)) (ids (L.take j))
        have h2 : (ids (L.take j)).length ≤ L.length := by simp [ids]; omega
        omega
      have hG := HG.out.new d
      have hnd : L[j] ∈ L := List.getElem_mem hlt
      have hny := node_yes hG.g hnd (by have := (HG.out.wf _ hnd).refs; omega) (by have := (HG.out.wf _ hnd).data; omega)
      have hisv : Hid (∀ w', Ch0 wr w' → _) := Lib.hid (fun w' (c : Ch0 wr w') => is_any (hR.new c) HUP.out (by omega) L[j].id)
      obtain ⟨q0, -, -, -⟩ := hR.cells
      have i1 : (0 : Int) ≤ j := by omega
      have i2 : (j : Int) < L.length := by omega
      clear hcell e1 hIs hG hnd
      generalize hcj : (ids (L.take j)).filter (fun id => isFin L id && !decide (id ∈ live)) = cj at *
      replace hcj := Lib.hid hcj
      replace hsn := Lib.hid hsn
      generalize L[j] = nd at *
      replace hR := Lib.hid hR
      replace d := Lib.hid d
      replace hI := Lib.hid hI
      replace hDr := Lib.hid hDr
      go_wp2_with fail
      refine hny.mono ?_
      rintro e w2 ⟨nv, vr, vd, rfl, hcp, c2⟩
      obtain ⟨ar, cr, rfl, -, -⟩ := hcp.refs.isSlice
      obtain ⟨ad, cd, rfl, -, -⟩ := hcp.data.isSlice
      obtain rfl : nv = .agg #[.int .i64 nd.id, .int .i64 nd.cls, .slice ar nd.refs.length cr, .slice ad nd.data.length cd, .bool nd.fin] := hcp.v
      have y4 := (Held1.new hcp).y4
      have cb : Ch0 w2 (w2.alloc (.cells #[.int .i64 nd.id, .int .i64 nd.cls, .slice ar nd.refs.length cr, .slice ad nd.data.length cd, .bool nd.fin] 36)) := (Ch.refl _ _).alloc _
      have c3 := c2.trans cb
      have hi3 := hisv.out _ c3
      have hs3 : (w2.alloc (.cells #[.int .i64 nd.id, .int .i64 nd.cls, .slice ar nd.refs.length cr, .slice ad nd.data.length cd, .bool nd.fin] 36)).heap.size = w2.heap.size + 1 := World.size_alloc _ _
      obtain ⟨W3, hW3⟩ : ∃ W3, W3 = w2.alloc (.cells #[.int .i64 nd.id, .int .i64 nd.cls, .slice ar nd.refs.length cr, .slice ad nd.data.length cd, .bool nd.fin] 36) := ⟨_, rfl⟩
      rw [← hW3] at c3 y4 hi3 hs3
      have hR3 := hR.out.new c3
      obtain ⟨-, -, -, k3⟩ := hR3.cells
      obtain ⟨fa, fc, efv, -, -⟩ := hR3.f.isSlice
      subst efv
      have HK3 : Hid (RowAt W3 3 1 (.slice (some ⟨g, o, none⟩) L.length ic) L.length ((ids L).map (Value.int .i64)) ∧ (∀ k, rblk (.slice (some ⟨g, o, none⟩) L.length ic) = some k → k ≠ r ∧ rblk (.slice fa cj.length fc) ≠ some k ∧ k < W3.heap.size) ∧ Ch0 w0 W3) := Lib.hid ⟨hI.out.keep c3 (fun _ _ e => e), fun k hk => ⟨(hDr.out k hk).1, (hDr.out k hk).2.1, Nat.lt_of_lt_of_le (hDr.out k hk).2.2 c3.size⟩, d.out.trans c3⟩
      replace hR3 := Lib.hid hR3
      clear hny hcp c2 cb c3 hisv q0 hI
      cases hfin : nd.fin with
      | false =>
        have hst : Hid ((ids (L.take (j + 1))).filter (fun id => isFin L id && !decide (id ∈ live)) = cj) := Lib.hid (by rw [hsn.out, hfin]; simp)
        rw [hfin] at y4 hW3
        clear hi3 hfin hsn hcj hR d hDr
        subst hW3
        go_wp2_with fail
        go_roundw
        case rel => exact ⟨j + 1, _, by omega, by go_num, by rw [hst.out]; exact hR3.out, HK3.out.2.2, HK3.out.1, HK3.out.2.1⟩
        case measure => simp [intOf]; omega
      | true =>
        rw [hfin] at y4 hW3
        cases hin : decide (nd.id ∈ live) with
        | true =>
          rw [hin] at hi3
          have hst : Hid ((ids (L.take (j + 1))).filter (fun id => isFin L id && !decide (id ∈ live)) = cj) := Lib.hid (by rw [hsn.out, hfin, hin]; simp)
          clear hfin hin hsn hcj hR d hDr
          subst hW3
          go_wp2_with fail
          refine hi3.mono ?_
          rintro e w5 ⟨rfl, hs5⟩
          obtain rfl := hs5
          clear hi3
          go_wp2_with fail
          go_roundw
          case rel => exact ⟨j + 1, _, by omega, by go_num, by rw [hst.out]; exact hR3.out, HK3.out.2.2, HK3.out.1, HK3.out.2.1⟩
          case measure => simp [intOf]; omega
        | false =>
          rw [hin] at hi3
          have hst : Hid ((ids (L.take (j + 1))).filter (fun id => isFin L id && !decide (id ∈ live)) = cj ++ [nd.id]) := Lib.hid (by rw [hsn.out, hfin, hin]; simp)
          have cA : Ch0 W3 (W3.alloc (.cells #[.int .i64 nd.id] 3)) := (Ch.refl _ _).alloc _
          obtain ⟨a4, c4, w4, hrun, r4, d4, b4⟩ := run_int (hR3.out.f.keep cA (fun _ _ e => e)) (by omega) W3.heap.size nd.id (heap_alloc_new W3 _) 34
          have hblk4 := d4.keep (cA.keep hR3.out.blk (fun e => e)) (fun e => hR3.out.ne.2.2 _ e rfl)
          have f4 := frozen_of_row w4 r 3 _ _ hblk4
          have q4 := cell_of_row w4 r 3 _ _ _ hblk4
          simp only [List.getElem?_toArray, List.getElem?_cons_zero, List.getElem?_cons_succ] at q4
          have hS := RunS.final1 (fl' := cj ++ [nd.id]) hR3.out HK3.out.2.2.size cA d4 (by rw [List.length_append]; exact r4) b4
          have HF : Hid (RunS w0.heap.size (w4.setCell ⟨r, 3, none⟩ (.slice a4 (cj.length + 1) c4)) r b lv cv (.slice a4 (cj.length + 1) c4) live cleared (cj ++ [nd.id]) ∧ Ch0 w0 (w4.setCell ⟨r, 3, none⟩ (.slice a4 (cj.length + 1) c4)) ∧
              RowAt (w4.setCell ⟨r, 3, none⟩ (.slice a4 (cj.length + 1) c4)) 3 1 (.slice (some ⟨g, o, none⟩) L.length ic) L.length ((ids L).map (Value.int .i64)) ∧ ∀ k, rblk (.slice (some ⟨g, o, none⟩) L.length ic) = some k → k ≠ r ∧ rblk (.slice a4 (cj.length + 1) c4) ≠ some k ∧ k < (w4.setCell ⟨r, 3, none⟩ (.slice a4 (cj.length + 1) c4)).heap.size) := by
            refine Lib.hid ⟨hS.1, HK3.out.2.2.trans' hS.2 (fun _ _ e => e) (fun k hk e => ?_), HK3.out.1.keep hS.2 (fun k hk e => ?_), fun k hk => ⟨(HK3.out.2.1 k hk).1, fun e => ?_, ?_⟩⟩
            · rcases e with e | e
              · have := hR3.out.rb; omega
              · have := hR3.out.fb k e; omega
            · rcases e with e | e
              · exact (HK3.out.2.1 k hk).1 e
              · exact (HK3.out.2.1 k hk).2.1 e
            · rcases b4 with q | q
              · rw [q] at e; exact (HK3.out.2.1 k hk).2.1 e
              · rw [q] at e
                cases e
                have := (HK3.out.2.1 _ hk).2.2
                rw [World.size_alloc] at this
                omega
            · have := (HK3.out.2.1 k hk).2.2
              have := hS.2.size
              omega
          clear hS r4 d4 b4 cA hblk4 hfin hin hsn hcj hR d hDr
          rw [hs3] at hrun
          subst hW3
          go_wp2_with fail
          refine hi3.mono ?_
          rintro e w5 ⟨rfl, hs5⟩
          obtain rfl := hs5
          clear hi3
          go_wp2_with (at_builtin; refine wpList_append_run rfl _ _ 34 34 rfl rfl rfl hrun ?_)
          go_roundw
          case rel => exact ⟨j + 1, _, by omega, by go_num, by rw [hst.out]; exact HF.out.1, HF.out.2⟩
          case measure => simp [intOf]; omega
    · obtain rfl : j = L.length := by omega
      rw [List.take_length] at hR
      have hfl : (finL L live).length ≤ 1000 := by
        have := List.length_filter_le (fun id => isFin L id && !decide (id ∈ live)) (ids L)
        have e : (ids L).length = L.length := by simp [ids]
        unfold finL
        omega
      have hR' : RunS w0.heap.size wr r b lv cv fv' live cleared (finL L live) := hR
      have hen := enter_of (HG.out.new d) (by omega) hR' (fun e => by have := HG.out.g; have h2 := HG.out.g; obtain ⟨_, _, _, _, _, _, gs⟩ := h2; have := gs.small r e; omega) (fun k h1 h2 e => by omega) _ fv' (finL L live) hR'.f.sees hl hfl d.size
      obtain ⟨-, -, -, k3⟩ := hR'.cells
      have hHd : Hid (w0.heap.size ≤ r ∧ Ch0 w0 wr) := Lib.hid ⟨hr0, d⟩
      obtain ⟨fa, fc, efv, -, -⟩ := hR'.f.isSlice
      subst efv
      clear hR hR' d hI hDr
      go_wp2_with fail
      refine hen.mono ?_
      rintro e w6 ⟨rfl, lv', hR6, c6⟩
      have HE := Lib.hid (And.intro hR6 (hHd.out.2.trans' c6 (fun _ _ e => e) (fun k hk e => by have e' : k = r := e; have := hHd.out.1; omega)))
      clear hen hR6 c6
      go_wp2_with fail
      go_end0
      exact ⟨rfl, _, _, HE.out⟩

end

end Go.Proofs.Ytlmeponoadhheaa
