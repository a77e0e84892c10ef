/-
  Contract of (*graph.Graph).Keep.
-/
import Derived.Test.YtlmeponoadhheaaK
namespace Go.Proofs.Ytlmeponoadhheaa
set_option linter.unusedVariables false
open Go.RowKit

theorem zeroBoolG (w : World) : (zeroValue 4).run Try.prog w = .ok (.bool false) w := by
  have h : ∃ i, Try.prog.info? 4 = some i ∧ i.zero = some (.bool false) := by
    have e : (Try.prog.info? 4).map (fun i => i.zero) = some (some (.bool false)) := by kernel_rfl
    rw [Option.map_eq_some_iff] at e
    exact e
  obtain ⟨i, h1, h2⟩ := h
  simp [zeroValue, typeInfo, h1, h2, Result.andThen]

def memF (L : List Int) : Int → Option Value := fun k => if k ∈ L then some (.bool true) else none

theorem memF_put (L : List Int) (x : Int) : iput (memF L) x (.bool true) = memF (L ++ [x]) := by
  funext k
  unfold iput memF
  by_cases h : k = x <;> simp [h]

theorem memF_get (L : List Int) (x : Int) : ((memF L x).getD (.bool false)) = .bool (decide (x ∈ L)) := by
  unfold memF; split <;> simp_all

/-- the map while names go -/
def goF (L : List GN) (pn : Int → Nat) (ks : List Int) (left : Int → Bool) : Int → Option Value := fun k => if k ∈ ids L ∧ (left k = true ∨ k ∈ ks) then some (.pointer (some ⟨pn k, 0, none⟩)) else none

theorem goF_stay (L : List GN) (pn : Int → Nat) (ks : List Int) (left : Int → Bool) (x : Int) (hx : x ∈ ks) : ∀ k, goF L pn ks left k = goF L pn ks (fun i => left i && !(i == x)) k := by
  intro k
  unfold goF
  by_cases e : k = x
  · subst e; simp [hx]
  · simp [e]

theorem goF_go (L : List GN) (pn : Int → Nat) (ks : List Int) (left : Int → Bool) (x : Int) (hx : x ∉ ks) : ∀ k, idel (goF L pn ks left) x k = goF L pn ks (fun i => left i && !(i == x)) k := by
  intro k
  unfold idel goF
  by_cases e : k = x
  · subst e; simp [hx]
  · simp [e]

theorem goF_some {L : List GN} {pn : Int → Nat} {ks : List Int} {left : Int → Bool} {k : Int} {v : Value} (h : goF L pn ks left k = some v) : k ∈ ids L := by
  unfold goF at h
  split at h
  · rename_i e; exact e.1
  · cases h

theorem IM.pos {w : World} {r n : Nat} {f : Int → Option Value} (h : IM w r n f) {k : Int} (hk : (f k).isSome = true) : 0 < n := by
  obtain ⟨es, clock, hb, hs, hn, h1, h2⟩ := h
  obtain ⟨v, hv⟩ := Option.isSome_iff_exists.1 hk
  obtain ⟨x, hx, _⟩ := h2 k v hv
  have := List.length_pos_of_mem hx
  rw [Array.length_toList] at this
  omega

theorem keepL_length (L : List GN) (ks : List Int) : (keepL L ks).length = (keepN L ks).length := by simp [keepL]

theorem keepL_setR (L : List GN) (ks : List Int) (R : Int → List Int) (h : ∀ nd ∈ keepN L ks, R nd.id = cutR (ids (keepN L ks)) nd.refs) : setR (keepN L ks) R = keepL L ks := by
  unfold keepL setR cutN
  apply List.map_congr_left
  intro nd hnd
  rw [h nd hnd]

set_option maxRecDepth 100000 in
set_option maxHeartbeats 4000000 in
theorem keep_gr {w : World} {b : Nat} {O : Nat → Prop} {tv : Value} {L : List GN} (h : Gr w b O tv L) (hL : L.length ≤ 1000000) (hrl : ∀ nd ∈ L, nd.refs.length ≤ 1000000) (D : Nat → Prop) (v : Value) (ks : List Int) (hk : SeesI D w v ks) :
    Calls Try.prog 49 #[.pointer (some ⟨b, 0, none⟩), v] w fun e w' => e = .returned (.int .i64 ((L.length : Int) - (keepL L ks).length)) ∧ Gr w' b O tv (keepL L ks) ∧ Turn w w' O O := by
  obtain ⟨r, n, pn, vr, vd, ow, h⟩ := h
  obtain ⟨G, hG⟩ : ∃ G : Int, G = (L.length : Int) - (keepL L ks).length := ⟨_, rfl⟩
  rw [← hG]
  have hnL : n = L.length := by
    have := h.map.count (rising_nodup h.rise) (fun k => by unfold gmap; split <;> simp_all)
    rw [← this]; simp [ids]
  obtain ⟨a, c, rfl, hklen⟩ := hk.len
  have mk2 : (Instr.makeMap 32 none).run Try.prog w = .ok (.map (some w.heap.size)) (w.alloc (.map #[] 0)) := by simp [Instr.makeMap, Result.andThen]
  have hM := (IM.made w).congr (g := memF []) (m := 0) (fun k => by simp [memF]) rfl
  have cM : Ch0 w (w.alloc (.map #[] 0)) := (Ch.refl _ _).alloc _
  have hMs : (w.alloc (.map #[] 0)).heap.size = w.heap.size + 1 := by simp
  have hbl := h.small b h.ownB
  have hrw := h.small r h.ownR
  replace hM := Lib.hid hM
  replace cM := Lib.hid cM
  replace hMs := Lib.hid hMs
  have HG := Lib.hid h
  have HK := Lib.hid hk
  have HR := Lib.hid hrl
  replace hG := Lib.hid hG
  replace hnL := Lib.hid hnL
  clear h hk hrl
  go_enter Try.func49, Try.ntmps49
  go_wp2_with fail
  generalize w.alloc (.map #[] 0) = W1 at *
  obtain ⟨kB, hkB⟩ : ∃ kB, kB = w.heap.size := ⟨_, rfl⟩
  rw [← hkB] at hM hMs ⊢
  replace hkB := Lib.hid hkB
  clear mk2
  go_loopw [19] (fun i wr => ∃ j nK : Nat, j ≤ ks.length ∧ i = .int .i64 j ∧ IM wr kB nK (memF (ks.take j)) ∧ Ch0 w wr ∧ wr.heap.size = kB + 1) (fun i _ => ks.length - (intOf i).toNat)
  case atStart => exact ⟨0, 0, Nat.zero_le _, rfl, by simpa using hM.out, cM.out, hMs.out⟩
  case round =>
    obtain ⟨j, nK, hj, rfl, hM1, d, hsz⟩ := hrel
    clear hM cM hMs
    by_cases hlt : j < ks.length
    · obtain ⟨g, o, c1, -, e1, hcell⟩ := SeesI.cell (HK.out.keep d (fun _ _ e => e)) (by omega)
      obtain ⟨rfl, rfl⟩ : a = some ⟨g, o, none⟩ ∧ c = c1 := by simpa using e1
      have hx := hcell j hlt
      have hsn : ks.take (j + 1) = ks.take j ++ [ks.getD j 0] := by
        rw [List.take_succ_eq_append_getElem hlt]; simp [List.getD_eq_getElem?_getD, hlt]
      obtain ⟨w2, hup, hM2, u2, s2⟩ := hM1.update (P := Try.prog) (t := 32) Try.underlying32 Try.underlying3 (ks.getD j 0) (.bool true)
      rw [memF_put, ← hsn] at hM2
      have HE := Lib.hid (And.intro hM2 (And.intro (d.trans' u2 (fun _ _ e => e) (fun k hk e => by have := hkB.out; omega)) (s2.trans hsz)))
      clear hM1 d hsz hcell e1 hsn hM2 u2 s2
      generalize ks.getD j 0 = X at *
      have i1 : (0 : Int) ≤ j := by omega
      have i2 : (j : Int) < ks.length := by omega
      go_wp2_with (at_mapUpdate; refine wpList_mapUpdate_run rfl _ _ _ 32 rfl rfl rfl rfl hup ?_)
      go_roundw
      case rel => exact ⟨j + 1, _, by omega, by go_num, HE.out.1, HE.out.2.1, HE.out.2.2⟩
      case measure => simp [intOf]; omega
    · obtain rfl : j = ks.length := by omega
      rw [List.take_length] at hM1
      have hS1 := HG.out.keep d (fun _ _ e => e)
      obtain ⟨w3, hrg, hI, c3, s3⟩ := hS1.map.range (P := Try.prog) (t := 128) Try.underlying128
      have hI' : IR w3 r wr.heap.size n (goF L pn ks (fun k => decide (k ∈ ids L))) (fun k => decide (k ∈ ids L)) := by
        have e : (fun k => (gmap L pn k).isSome) = fun k => decide (k ∈ ids L) := by funext k; unfold gmap; split <;> simp_all
        rw [e] at hI
        exact hI.congr (fun k => by unfold gmap goF; by_cases e : k ∈ ids L <;> simp [e])
      have g1 := hS1.cells.2
      have hM3 := Lib.hid (hM1.keep c3 (fun e => e))
      have d3 := Lib.hid (Ch.of0 (S := fun k => k = r) (d.trans c3))
      replace hI' := Lib.hid hI'
      rw [hsz] at hrg hI'
      clear hM1 hI c3 hS1 d s3
      go_wp2_with fail
      clear g1 hrg
      go_loopw [8] (fun gv wr => ∃ left, ∃ gone m : Nat, gv = .int .i64 gone ∧ IR wr r (kB + 1) m (goF L pn ks left) left ∧ m + gone = L.length ∧ Ch (fun k => k = r) w wr ∧ IM wr kB nK (memF ks)) (fun _ wr => iterLeft wr r (kB + 1))
      case atStart => exact ⟨_, 0, n, rfl, hI'.out, by rw [hnL.out]; rfl, d3.out, hM3.out⟩
      case round =>
        obtain ⟨left, gone, m, rfl, hI, hmg, d4, hM4⟩ := hrel
        clear hI' d3 hM3
        replace hI := Lib.hid hI
        replace d4 := Lib.hid d4
        replace hM4 := Lib.hid hM4
        go_wp2_with (at_next; refine wpList_next_IR rfl _ rfl rfl hI.out ?_ ?_)
        · intro hl
          have hm1 : IM wr r m (gmap (keepN L ks) pn) := hI.out.map.congr (fun k => by
            unfold goF gmap
            by_cases e : k ∈ ids (keepN L ks)
            · rw [if_pos e, if_pos ⟨((keepN_ids k).1 e).1, .inr ((keepN_ids k).1 e).2⟩]
            · rw [if_neg e, if_neg]
              rintro ⟨e1, e2 | e2⟩
              · rw [hl k] at e2; cases e2
              · exact e ((keepN_ids k).2 ⟨e1, e2⟩)) rfl
          have hcnt := hm1.count (rising_nodup (keepN_rising HG.out.rise ks)) (fun k => by unfold gmap; split <;> simp_all)
          have hgone : (gone : Int) = G := by
            rw [hG.out, keepL_length]
            simp only [ids, List.length_map] at hcnt
            omega
          have hS := HG.out.sub (ks := ks) d4.out hm1
          obtain ⟨w6, hrg, hJ, c6, s6⟩ := hS.map.range (P := Try.prog) (t := 128) Try.underlying128
          have g1 := hS.cells.2
          have hJ' : IR w6 r wr.heap.size m (gmap (keepN L ks) pn) (fun k => decide (k ∈ ids (keepN L ks))) := by
            have e : (fun k => (gmap (keepN L ks) pn k).isSome) = fun k => decide (k ∈ ids (keepN L ks)) := by funext k; unfold gmap; split <;> simp_all
            rw [e] at hJ; exact hJ
          have hS6 : GS w6 b O tv (setR (keepN L ks) (fun k => ((gat (keepN L ks) k).getD default).refs)) r m pn vr vd ow := (hS.keep c6 (fun _ _ e => e)).as (by
            unfold setR
            conv => lhs; rw [← List.map_id' (keepN L ks)]
            apply List.map_congr_left
            intro nd hnd
            show nd = (⟨nd.id, nd.cls, ((gat (keepN L ks) nd.id).getD default).refs, nd.data, nd.fin⟩ : GN)
            rw [(keepN_rising HG.out.rise ks).at hnd]
            rfl)
          have d6 : Ch O w w6 := (d4.out.mono (fun k _ e => by rw [e]; exact HG.out.ownR)).trans0 c6
          have hJB : w.heap.size ≤ wr.heap.size := d4.out.size
          generalize wr.heap.size = bJ at *
          replace hJ' := Lib.hid hJ'
          replace hS6 := Lib.hid hS6
          replace d6 := Lib.hid d6
          rw [hgone]
          clear hl hm1 hcnt hgone hJ c6 s6 hI d4 hM4 hS hmg
          go_wp2_with fail
          clear g1 hrg
          go_loopw [11] (fun _ wr => ∃ left R, IR wr r bJ m (gmap (keepN L ks) pn) left ∧ GS wr b O tv (setR (keepN L ks) R) r m pn vr vd ow ∧ Ch O w wr ∧ ∀ nd ∈ keepN L ks, R nd.id = if left nd.id = true then nd.refs else cutR (ids (keepN L ks)) nd.refs) (fun _ wr => iterLeft wr r bJ)
          case atStart =>
            refine ⟨_, _, hJ'.out, hS6.out, d6.out, fun nd hnd => ?_⟩
            show ((gat (keepN L ks) nd.id).getD default).refs = if decide (nd.id ∈ ids (keepN L ks)) = true then nd.refs else _
            have hmm : nd.id ∈ ids (keepN L ks) := List.mem_map.2 ⟨nd, hnd, rfl⟩
            rw [if_pos (decide_eq_true hmm), (keepN_rising HG.out.rise ks).at hnd]
            rfl
          case round =>
            obtain ⟨left, R, hI7, hS7, d7, hR7⟩ := hrel
            clear hJ' hS6 d6
            replace hI7 := Lib.hid hI7
            replace hS7 := Lib.hid hS7
            replace d7 := Lib.hid d7
            replace hR7 := Lib.hid hR7
            go_wp2_with (at_next; refine wpList_next_IR rfl _ rfl rfl hI7.out ?_ ?_)
            · intro hl
              have hfin : Gr wr b O tv (keepL L ks) ∧ Turn w wr O O := by
                refine ⟨⟨r, m, pn, vr, vd, ow, hS7.out.as (keepL_setR L ks R (fun nd hnd => ?_))⟩, d7.out, fun k hk => .inl hk⟩
                rw [hR7.out nd hnd, if_neg (by rw [hl]; simp)]
              replace hfin := Lib.hid hfin
              clear hl hI7 hS7 d7 hR7
              go_wp2_with fail
              go_ret
              exact ⟨rfl, hfin.out⟩
            · intro x vx w8 hlx hfx hI8 e8 s8 hm8 hen
              have hxK : x ∈ ids (keepN L ks) := by
                unfold gmap at hfx
                split at hfx
                · assumption
                · cases hfx
              obtain rfl : vx = .pointer (some ⟨pn x, 0, none⟩) := by
                unfold gmap at hfx
                rw [if_pos hxK] at hfx
                exact (Option.some.inj hfx).symm
              obtain ⟨nd, hnd, rfl⟩ := List.mem_map.1 hxK
              have hRx : R nd.id = nd.refs := by rw [hR7.out nd hnd, if_pos hlx]
              have hrn := HR.out nd (mem_keepN.1 hnd).1
              have hJO : ∀ k, O k → ¬ k = bJ := fun k hk e => by have := HG.out.small k hk; omega
              have hS8 := hS7.out.keep e8 hJO
              have d8 : Ch O w w8 := d7.out.trans' e8 (fun _ _ e => e) (fun k hk e => by omega)
              have hnd' : (⟨nd.id, nd.cls, R nd.id, nd.data, nd.fin⟩ : GN) ∈ setR (keepN L ks) R := List.mem_map.2 ⟨nd, hnd, rfl⟩
              have hN8 := hS8.node _ hnd'
              obtain ⟨a9, c9, ev, -, -⟩ := hN8.refs.isSlice
              obtain ⟨-, -, k2, -, -⟩ := hN8.cells
              simp only at ev k2
              rw [hRx] at ev
              rw [ev] at k2
              have hRy : Hid (∀ y ∈ keepN L ks, ∀ Q, (updI R nd.id Q) y.id = if (left y.id && !(y.id == nd.id)) = true then y.refs else (if y.id = nd.id then Q else cutR (ids (keepN L ks)) y.refs)) := Lib.hid (fun y hy Q => by
                by_cases e : y.id = nd.id
                · rw [e, updI_same]; simp
                · rw [updI_other _ _ _ e, hR7.out y hy]; simp [e])
              have hS9 : GS w8 b O tv (setR (keepN L ks) (updI R nd.id (cutTo (ids (keepN L ks)) 0 nd.refs))) r m pn vr vd ow := hS8.as (setR_same (fun y hy => by
                by_cases e : y.id = nd.id
                · rw [e, updI_same, cutTo_zero, hRx]
                · rw [updI_other _ _ _ e]))
              have hm8' := hm8
              generalize hT : iterLeft wr r bJ = T at *
              replace hS9 := Lib.hid hS9
              replace hI8 := Lib.hid hI8
              replace d8 := Lib.hid d8
              replace hm8 := Lib.hid hm8
              replace hJO := Lib.hid hJO
              replace hT := Lib.hid hT
              clear hlx hfx hxK e8 s8 hS8 hN8 hI7 hS7 d7 hR7 hnd' hm8' hRx
              go_wp2_with fail
              go_loopw [60] (fun i wr2 => ∃ j : Nat, j ≤ nd.refs.length ∧ i = .int .i64 j ∧ IR wr2 r bJ m (gmap (keepN L ks) pn) (fun i => left i && !(i == nd.id)) ∧ GS wr2 b O tv (setR (keepN L ks) (updI R nd.id (cutTo (ids (keepN L ks)) j nd.refs))) r m pn vr vd ow ∧ Ch O w wr2 ∧ iterLeft wr2 r bJ < T) (fun i _ => nd.refs.length - (intOf i).toNat)
              case atStart => exact ⟨0, Nat.zero_le _, rfl, hI8.out, hS9.out, d8.out, hm8.out⟩
              case round =>
                obtain ⟨j, hj, rfl, hI10, hS10, d10, hm10⟩ := hrel
                clear hI8 hS9 d8 hm8 k2
                have hnd2 : (⟨nd.id, nd.cls, cutTo (ids (keepN L ks)) j nd.refs, nd.data, nd.fin⟩ : GN) ∈ setR (keepN L ks) (updI R nd.id (cutTo (ids (keepN L ks)) j nd.refs)) :=
                  List.mem_map.2 ⟨nd, hnd, by rw [updI_same]⟩
                have hN := hS10.node _ hnd2
                by_cases hlt : j < nd.refs.length
                · obtain ⟨g, o, c1, -, e1, hcell⟩ := SeesI.cell hN.refs.sees (by rw [cutTo_length]; omega)
                  simp only [cutTo_length] at e1 hcell
                  rw [ev] at e1
                  obtain ⟨rfl, rfl⟩ : a9 = some ⟨g, o, none⟩ ∧ c9 = c1 := by simpa using e1
                  have hx := hcell j hlt
                  rw [cutTo_get _ _ _ hlt] at hx
                  have g1 := hS10.cells.2
                  have hlk := hS10.lookup (nd.refs.getD j 0)
                  rw [setR_ids] at hlk
                  obtain ⟨-, -, k2, -, -⟩ := hN.cells
                  simp only at k2
                  rw [ev] at k2
                  have i1 : (0 : Int) ≤ j := by omega
                  have i2 : (j : Int) < nd.refs.length := by omega
                  by_cases hin : nd.refs.getD j 0 ∈ ids (keepN L ks)
                  · rw [if_pos hin] at hlk
                    have HE := Lib.hid (And.intro hI10 (And.intro (show GS wr b O tv (setR (keepN L ks) (updI R nd.id (cutTo (ids (keepN L ks)) (j + 1) nd.refs))) r m pn vr vd ow from hS10.as (by rw [cutTo_in _ _ _ hlt hin])) (And.intro d10 hm10)))
                    clear hI10 hS10 d10 hm10 hN hnd2 hcell e1 hin
                    generalize nd.refs.getD j 0 = X at *
                    go_wp2_with (at_lookup; refine wpList_lookup_run rfl _ _ 128 rfl rfl rfl hlk ?_)
                    go_roundw
                    case rel => exact ⟨j + 1, by omega, by go_num, HE.out.1, HE.out.2.1, HE.out.2.2.1, HE.out.2.2.2⟩
                    case measure => simp [intOf]; omega
                  · rw [if_neg hin] at hlk
                    have hr0 := hN.refs
                    simp only at hr0
                    obtain ⟨g', o', c', e', hrow, hcl, hfz⟩ := hr0.set j (by rw [cutTo_length]; exact hlt) (.int .i64 0)
                    rw [cutTo_length] at e'
                    rw [ev] at e'
                    obtain ⟨e1', e2'⟩ : (some ⟨g, o, none⟩ : Option Addr) = some ⟨g', o', none⟩ ∧ c9 = c' := by simpa using e'
                    cases e1'
                    have cs : Ch (fun k => rblk (vr nd.id) = some k) wr (wr.setCell ⟨g, o + j, none⟩ (.int .i64 0)) := Ch.setCell (S := fun k => rblk (vr nd.id) = some k) (Ch.refl _ _) (p := ⟨g, o + j, none⟩) (fun _ => by rw [ev]; rfl) _
                    have hne : rblk (vr nd.id) ≠ some (pn nd.id) := by
                      intro e
                      obtain ⟨cur, hcur⟩ := hN.refs.block e
                      rw [hN.blk] at hcur; cases hcur
                    have hto := hS10.turn hnd2 (g := fun nd => { nd with refs := nd.refs.set j 0 }) (fun _ => rfl) (cs.mono (fun k _ e => .inr (.inl e)))
                      ⟨cs.keep hN.blk hne, by simpa using hrow, hN.data.keep cs (fun k e1 e2 => hN.apart k e2 e1), hN.apart⟩
                    obtain ⟨hto, htt⟩ := hto
                    have hto2 : GS (wr.setCell ⟨g, o + j, none⟩ (.int .i64 0)) b O tv (setR (keepN L ks) (updI R nd.id (cutTo (ids (keepN L ks)) (j + 1) nd.refs))) r m pn vr vd ow := hto.as (by
                      show upd (setR _ _) nd.id (fun nd => { nd with refs := nd.refs.set j 0 }) = _
                      rw [setR_upd, updI_same, ← cutTo_out _ _ _ hlt hin]
                      apply setR_same
                      intro y hy
                      by_cases e : y.id = nd.id
                      · rw [e, updI_same, updI_same]
                      · rw [updI_other _ _ _ e, updI_other _ _ _ e, updI_other _ _ _ e])
                    have hrr : ¬ O bJ := fun e => hJO.out bJ e rfl
                    have hIn : ∀ k, rblk (vr nd.id) = some k → O k := fun k hk => (hS10.ownN _ hnd2 k (.inr (.inl hk))).1
                    have hnr : ¬ rblk (vr nd.id) = some r := fun e => hS10.ne_r hnd2 (.inr (.inl e)) rfl
                    have hnJ : ¬ rblk (vr nd.id) = some bJ := fun e => hrr (hIn bJ e)
                    have hI11 := hI10.keep cs hnr hnJ
                    have hm11 : iterLeft (wr.setCell ⟨g, o + j, none⟩ (.int .i64 0)) r bJ < T := by rw [iterLeft_keep hI10 cs hnr hnJ]; exact hm10
                    have d11 : Ch O w (wr.setCell ⟨g, o + j, none⟩ (.int .i64 0)) := d10.trans (cs.mono (fun k _ e => hIn k e))
                    have HE := Lib.hid (And.intro hI11 (And.intro hto2 (And.intro d11 hm11)))
                    obtain ⟨u, hu⟩ : ∃ u, wr.cell? ⟨g, o + j, none⟩ = some u := ⟨_, hx⟩
                    clear hI10 hS10 d10 hm10 hN hnd2 hcell e1 hin hto htt hto2 hrr hIn hnr hnJ hI11 hm11 d11 hrow hcl hne cs hr0 hu
                    generalize nd.refs.getD j 0 = X at *
                    go_wp2_with (at_lookup; refine wpList_lookup_run rfl _ _ 128 rfl rfl rfl hlk ?_)
                    go_roundw
                    case rel => exact ⟨j + 1, by omega, by go_num, HE.out.1, HE.out.2.1, HE.out.2.2.1, HE.out.2.2.2⟩
                    case measure => simp [intOf]; omega
                · obtain rfl : j = nd.refs.length := by omega
                  have HE := Lib.hid (And.intro hI10 (And.intro hS10 (And.intro d10 hm10)))
                  clear hI10 hS10 d10 hm10 hN hnd2 ev
                  go_wp2_with fail
                  go_roundw
                  case rel =>
                    refine ⟨_, _, HE.out.1, HE.out.2.1, HE.out.2.2.1, fun y hy => ?_⟩
                    rw [hRy.out y hy]
                    by_cases e : y.id = nd.id
                    · have : y = nd := (keepN_rising HG.out.rise ks).inj hy hnd e
                      subst this
                      simp [cutTo_all]
                    · simp [e]
                  case measure => rw [hT.out]; exact HE.out.2.2.2
        · intro x vx w5 hlx hfx hI5 e5 s5 hm5 hen
          have hxL := goF_some hfx
          have hM5 := hM4.out.keep e5 (by omega)
          have hlk := hM5.lookup (P := Try.prog) (t := 32) (z := .bool false) Try.underlying32 Try.underlying3 (zeroBoolG w5) x false
          rw [memF_get] at hlk
          simp only [Bool.false_eq_true, if_false] at hlk
          have d5 : Ch (fun k => k = r) w w5 := d4.out.trans' e5 (fun _ _ e => e) (fun k hk e => by have := hkB.out; omega)
          by_cases hx : x ∈ ks
          · rw [decide_eq_true hx] at hlk
            have HE := Lib.hid (And.intro (hI5.congr (goF_stay L pn ks left x hx)) (And.intro d5 (And.intro hM5 hm5)))
            clear hfx hI5 e5 s5 hm5 hM5 d5 hx hI d4 hM4 hlx hxL
            go_wp2_with (at_lookup; refine wpList_lookup_run rfl _ _ 32 rfl rfl rfl hlk ?_)
            go_roundw
            case rel => exact ⟨_, gone, m, rfl, HE.out.1, hmg, HE.out.2.1, HE.out.2.2.1⟩
            case measure => exact HE.out.2.2.2
          · rw [decide_eq_false hx] at hlk
            have hsome : (goF L pn ks left x).isSome = true := by rw [hfx]; rfl
            have hmpos := hI5.map.pos hsome
            have g1 := (cell_of_row w5 b 1 _ _ _ (d5.keep HG.out.blk HG.out.b_ne_r) : w5.cell? ⟨b, 1, none⟩ = some (.map (some r)))
            obtain ⟨w6, hdel, hI6, u6, s6, q6⟩ := hI5.delete (P := Try.prog) (t := 128) (kt := 3) (ty := 0) Try.underlying128 Try.underlying3 x hsome (by simp)
            have HE := Lib.hid (And.intro (hI6.congr (goF_go L pn ks left x hx)) (And.intro (d5.trans u6) (And.intro (hM5.keep u6 (by have := hkB.out; omega)) (show iterLeft w6 r (kB + 1) < iterLeft wr r (kB + 1) by rw [q6]; exact hm5))))
            clear hfx hI5 e5 s5 hm5 hM5 d5 hx hI d4 hM4 hlx hxL hI6 u6 s6 q6 hsome
            go_wp2_with (first | (at_lookup; refine wpList_lookup_run rfl _ _ 32 rfl rfl rfl hlk ?_) | (at_delete; refine wpList_delete_run rfl _ _ 128 3 rfl rfl rfl hdel ?_))
            go_roundw
            case rel => exact ⟨_, gone + 1, m - 1, by go_num, HE.out.1, by omega, HE.out.2.1, HE.out.2.2.1⟩
            case measure => exact HE.out.2.2.2

end Go.Proofs.Ytlmeponoadhheaa
