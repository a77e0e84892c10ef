/-
  Contract of strength.Within (and so of Reach).
-/
import Derived.Test.YtlmeponoadhheaaS1
import Derived.ScopeJumps
import Derived.WalkMore
namespace Go.Proofs.Ytlmeponoadhheaa
set_option linter.unusedVariables false
open Go.RowKit

theorem wp_scope_jumps2 {P : Program} {a : Act} {w : World} {Q : Exit → Act → World → Prop} {c rest : Code} (l : Nat) (J : Act → World → Prop) (μ : Act → World → Nat) (hf : findLabel c l = some (Code.skip.seq rest))
    (first : (∀ a w, J a w → rest.wp P (Exit.jump l J Q) a w) → c.wp P (Exit.jump l J Q) a w)
    (pass : ∀ a w, J a w → rest.wp P (Exit.jump l (fun a' w' => J a' w' ∧ μ a' w' < μ a w) Q) a w) : (Code.scope c).wp P Q a w := by
  refine wp_scope_jumps l J μ hf (first fun a w h => ?_) (fun a w h => wp_seq (wp_skip (pass a w h)))
  refine Code.wp_mono ?_ (pass a w h)
  intro e a' w' hq
  cases e <;> first | exact hq | exact ⟨hq.1, hq.2.1⟩

def mapSize (w : World) (r : Nat) : Nat := match w.heap[r]? with
  | some (.map es _) => es.size
  | _ => 0

theorem IM.mapSize {w : World} {r n : Nat} {f : Int → Option Value} (h : IM w r n f) : mapSize w r = n := by
  obtain ⟨es, clock, hb, hs, hn, _⟩ := h
  unfold Go.Proofs.Ytlmeponoadhheaa.mapSize
  rw [hb]; exact hn

def lenOf (v : Value) : Nat := match v with
  | .slice _ n _ => n
  | _ => 0

/-- a row less its last element -/
theorem RowAt.init {w : World} {e : TypeId} {a : Option Addr} {n c : Nat} {xs : List Value} {x : Value} (h : RowAt w e 1 (.slice a (n + 1) c) (n + 1) (xs ++ [x])) : RowAt w e 1 (.slice a n c) n xs := by
  obtain ⟨hl, h2⟩ := h
  have hxl : xs.length = n := by simp at hl; omega
  refine ⟨by omega, ?_⟩
  rcases h2 with ⟨q, hq⟩ | ⟨g, o, cap, cur, q, hg, hn, hm, hs, ht⟩
  · omega
  · cases q
    refine .inr ⟨g, o, c, cur, rfl, hg, by omega, hm, hs, ?_⟩
    have h3 : (cur.toList.drop o).take (n * 1) = ((cur.toList.drop o).take ((n + 1) * 1)).take n := by
      rw [List.take_take]
      congr 1
      omega
    rw [h3, ht, List.take_append_of_le_length (by omega), List.take_of_length_le (by omega)]

/-- what holds at each jump of Within: kB is the map 'seen', T the slice 'todo' -/
def WInv (cs : List Cls) (L : List GN) (level : Int) (roots : List Int) (w : World) (kB : Nat) (T : Value) (w' : World) : Prop :=
  ∃ seen todo : List Int, Srch (ids L) (nextL cs L level) (fun x => x ∈ startL L level roots) seen todo ∧ IM w' kB seen.length (memF seen) ∧ RowAt w' 3 1 T todo.length (todo.map (Value.int .i64)) ∧
    (∀ k, rblk T = some k → kB < k) ∧ Ch0 w w' ∧ 100 * (L.length - seen.length) + todo.length ≤ 101 * L.length + roots.length

section
variable {w : World} {b : Nat} {O : Nat → Prop} {cs : List Cls} {L : List GN} {p lo hi : Nat}

set_option maxRecDepth 100000 in
set_option maxHeartbeats 4000000 in
theorem within_of (h : Gt w b O cs L p lo hi) (hL : L.length ≤ 1000) (D : Nat → Prop) (v : Value) (roots : List Int) (hv : SeesI D w v roots) (hrl : roots.length ≤ 100000) (level : Int) :
    Calls Try.prog 57 #[.pointer (some ⟨b, 0, none⟩), .int .i64 level, v] w fun e w' => ∃ u, e = .returned u ∧ RowAt w' 3 1 u (withinL cs L level roots).length ((withinL cs L level roots).map (Value.int .i64)) ∧ (∀ k, rblk u = some k → w.heap.size ≤ k) ∧ Ch0 w w' := by
  by_cases hlv : level < 1
  · have e0 : withinL cs L level roots = [] := by unfold withinL; rw [if_pos hlv]
    rw [e0]
    obtain ⟨va, vc, rfl, -⟩ := hv.len
    clear h hv e0
    go_enter Try.func57, Try.ntmps57
    go_wp2_with fail
    go_step3
    go_wp2_with fail
    rw [Exit.noGoto_ret]
    go_ret
    exact ⟨_, rfl, RowAt.nil, (fun k hk => by cases hk), Ch.refl _ _⟩
  have e0 : withinL cs L level roots = closeL cs L level roots := by unfold withinL; rw [if_neg hlv]
  rw [e0]
  have mk2 : (Instr.makeMap 32 none).run Try.prog w = .ok (.map (some w.heap.size)) (w.alloc (.map #[] 0)) := by simp [Instr.makeMap, Result.andThen]
  have hM := (IM.made w).congr (g := memF []) (m := 0) (fun k => by simp [memF]) rfl
  have cM : Ch0 w (w.alloc (.map #[] 0)) := (Ch.refl _ _).alloc _
  have hMs : (w.alloc (.map #[] 0)).heap.size = w.heap.size + 1 := by simp
  have hcl := clone_ints D v roots _ (hv.keep cM (fun _ _ e => e)) (by omega)
  have HG := Lib.hid h
  replace hM := Lib.hid hM
  replace cM := Lib.hid cM
  replace hMs := Lib.hid hMs
  obtain ⟨va, vc, rfl, -⟩ := hv.len
  clear h hv e0
  obtain ⟨kB, hkB⟩ : ∃ kB, kB = w.heap.size := ⟨_, rfl⟩
  rw [← hkB] at hM hMs
  replace hkB := Lib.hid hkB
  have g1 : decide (level < 1) = false := decide_eq_false hlv
  have HF : Hid (∀ w', Ch0 w w' → _) := Lib.hid (fun w' (c : Ch0 w w') => finals_of (HG.out.new c) (by omega))
  go_enter Try.func57, Try.ntmps57
  go_wp2_with fail
  refine wp_scope_jumps2 0 (fun a' w' => ∃ (T : Value) (u3 u4 u5 u6 u9 u10 u11 u12 u13 u14 u15 u16 u17 u18 u19 u20 u21 u22 u23 u24 u25 u26 u27 u28 u29 u30 u31 u32 u33 u34 u35 u36 u37 u38 u39 u40 u41 u42 u43 u44 u45 u46 u47 u48 u49 u50 u51 u52 u53 u54 u55 u56 u57 u58 u59 u60 u61 : Value), a' = { tmps := #[.pointer (some ⟨b, 0, none⟩), .int .i64 level, .slice va roots.length vc, u3, u4, u5, u6, .map (some kB), T, u9, u10, u11, u12, u13, u14, u15, u16, u17, u18, u19, u20, u21, u22, u23, u24, u25, u26, u27, u28, u29, u30, u31, u32, u33, u34, u35, u36, u37, u38, u39, u40, u41, u42, u43, u44, u45, u46, u47, u48, u49, u50, u51, u52, u53, u54, u55, u56, u57, u58, u59, u60, u61], defers := [] } ∧ WInv cs L level roots w kB T w') (fun a' w' => 100 * (L.length - mapSize w' kB) + lenOf (a'.tmps.getD 8 undef)) rfl ?first ?pass
  case first =>
    intro hpass
    replace hpass := Lib.hid hpass
    have hkk := hkB.out
    subst hkk
    go_wp2_with fail
    generalize w.alloc (.map #[] 0) = W1 at *
    clear mk2
    refine hcl.mono ?_
    rintro e w2 ⟨v2, rfl, r2, f2, c2⟩
    obtain ⟨a2, cc2, rfl, -, -⟩ := r2.isSlice
    have hM2 := Lib.hid (hM.out.keep c2 (fun e => e))
    have d2 := Lib.hid (cM.out.trans c2)
    have hf2 : ∀ k, rblk (.slice a2 roots.length cc2) = some k → w.heap.size < k := fun k hk => by have := f2 k hk; have := hMs.out; omega
    replace hf2 := Lib.hid hf2
    replace r2 := Lib.hid r2
    clear hcl hM cM hMs f2 c2
    by_cases h4 : 4 ≤ level
    · have g4 : decide (4 ≤ level) = true := decide_eq_true h4
      have hfn := HF.out w2 d2.out
      replace h4 := Lib.hid h4
      go_wp2_with fail
      refine hfn.mono ?_
      rintro e w3 ⟨v3, rfl, r3, f3, c3⟩
      have hfl := finalsL_len L
      obtain ⟨a5, c5, w5, hrun, r5, d5, b5⟩ := run_ints (r2.out.keep c3 (fun _ _ e => e)) (by omega) r3.sees (by omega) 34
      obtain ⟨a3, c3', ev3, -, -⟩ := r3.isSlice
      subst ev3
      have hW : WInv cs L level roots w w.heap.size (.slice a5 (roots.length + (finalsL L).length) c5) w5 := by
        refine ⟨[], roots ++ finalsL L, Srch.start (fun x _ => by unfold startL; rw [if_pos h4.out]), ?_, by rw [List.length_append]; exact r5, ?_, ?_, by simp; omega⟩
        · refine (hM2.out.keep c3 (fun e => e)).keep d5 (fun e => ?_)
          have := hf2.out _ e; omega
        · intro k hk
          rcases b5 with e | e
          · rw [e] at hk; exact hf2.out k hk
          · rw [e] at hk; cases hk; have := hM2.out.lt; have := c3.size; omega
        · exact (d2.out.trans c3).trans' d5 (fun _ _ e => e) (fun k hk e => by have := hf2.out k e; omega)
      replace hW := Lib.hid hW
      clear hfn r2 hM2 d2 hf2 r3 f3 c3 r5 d5 b5 HF
      go_wp2_with (at_builtin; refine wpList_append_run rfl _ _ 34 34 rfl rfl rfl hrun ?_)
      go_step3
      rename_i Q0 K hK
      show K _ _
      refine hK _ _ ?_
      exact hpass.out _ _ ⟨_, _, _, _, _, _, _, _, _, _, _, _, _, _, _, _, _, _, _, _, _, _, _, _, _, _, _, _, _, _, _, _, _, _, _, _, _, _, _, _, _, _, _, _, _, _, _, _, _, _, _, _, _, _, _, _, _, _, rfl, hW.out⟩
    · have g4 : decide (4 ≤ level) = false := decide_eq_false h4
      have hW : WInv cs L level roots w w.heap.size (.slice a2 roots.length cc2) w2 := by
        refine ⟨[], roots, Srch.start (fun x _ => by unfold startL; rw [if_neg h4, List.append_nil]), hM2.out, r2.out, hf2.out, d2.out, by simp; omega⟩
      replace hW := Lib.hid hW
      clear h4 r2 hM2 d2 hf2 HF
      go_wp2_with fail
      go_step3
      rename_i Q0 K hK
      show K _ _
      refine hK _ _ ?_
      exact hpass.out _ _ ⟨_, _, _, _, _, _, _, _, _, _, _, _, _, _, _, _, _, _, _, _, _, _, _, _, _, _, _, _, _, _, _, _, _, _, _, _, _, _, _, _, _, _, _, _, _, _, _, _, _, _, _, _, _, _, _, _, _, _, rfl, hW.out⟩
  case pass =>
    rintro a' w' ⟨T, u3, u4, u5, u6, u9, u10, u11, u12, u13, u14, u15, u16, u17, u18, u19, u20, u21, u22, u23, u24, u25, u26, u27, u28, u29, u30, u31, u32, u33, u34, u35, u36, u37, u38, u39, u40, u41, u42, u43, u44, u45, u46, u47, u48, u49, u50, u51, u52, u53, u54, u55, u56, u57, u58, u59, u60, u61, rfl, hI⟩
    clear hcl hM cM hMs mk2 HF
    obtain ⟨seen, todo, hS, hM, hr, hf, hc, hm⟩ := hI
    have hsl := hS.len
    have hidl : (ids L).length = L.length := by simp [ids]
    rcases (show todo = [] ∨ ∃ t0s x, todo = t0s ++ [x] from by
      rcases List.eq_nil_or_concat todo with h | ⟨a, b, h⟩
      · exact .inl h
      · exact .inr ⟨a, b, by simpa using h⟩) with rfl | ⟨t0s, x, rfl⟩
    · obtain ⟨ta, tc, rfl, -, -⟩ := hr.isSlice
      have hdone := hS.done
      have hks : ∀ k, k ∈ closeL cs L level roots ↔ (memF seen k).isSome = true := fun k => by
        rw [mem_closeL, ← hdone k]
        unfold memF
        by_cases e : k ∈ seen <;> simp [e]
      have hrise : (closeL cs L level roots).Pairwise (· < ·) := rchL_rising (rising_ids HG.out.g.rise)
      have hwf : ∀ k, (memF seen k).isSome = true → (Lit.int .i64 k).wf = true := fun k hk => by
        have h1 := closeL_ids ((hks k).2 hk)
        obtain ⟨nd, hnd, rfl⟩ := List.mem_map.1 h1
        have h2 := (HG.out.wf nd hnd).id
        have h3 := (HG.out.wf nd hnd).idm
        simp [Lit.wf, IntKind.min, IntKind.max, IntKind.signed, IntKind.bits]
        omega
      have cA : Ch0 w' (w'.alloc (.cells #[.map (some kB)] 32)) := (Ch.refl _ _).alloc _
      have hs := sortedB_c (hM.keep cA (fun e => e)) hwf (by omega) hrise hks (bB := w'.heap.size) (cell_of_one (heap_alloc_new w' _))
      have hk := keysB_c kB w'
      have HC := Lib.hid (hc.trans cA)
      have hsz := Lib.hid hc.size
      clear hdone hks hrise hwf cA hS hM hr hf hc
      go_wp2_with fail
      refine hk.mono ?_
      rintro e w1 ⟨rfl, rfl⟩
      clear hk
      go_wp2_with fail
      refine hs.mono ?_
      rintro e w2 ⟨u, rfl, r2, f2, c2⟩
      have HE := Lib.hid (And.intro r2 (And.intro (show ∀ k, rblk u = some k → w.heap.size ≤ k from fun k hk => by have := f2 k hk; rw [World.size_alloc] at this; have := hsz.out; omega) (HC.out.trans c2)))
      clear hs r2 f2 c2
      go_wp2_with fail
      simp only [Exit.jump]
      go_ret
      exact ⟨u, rfl, HE.out⟩
    · have hlen : (t0s ++ [x]).length = t0s.length + 1 := by simp
      rw [hlen] at hr hm
      obtain ⟨ta, tc, rfl, htc, -⟩ := hr.isSlice
      rw [List.map_append] at hr
      have hrI := hr.init
      obtain ⟨g, o, c1, -, e1, hcell⟩ := SeesI.cell (xs := t0s ++ [x]) (v := .slice ta (t0s.length + 1) tc) (w := w') (by
        show Sees _ _ _ 1 (t0s ++ [x]).length _
        rw [hlen, List.map_append]; exact hr.sees) (by omega)
      rw [hlen] at e1 hcell
      obtain ⟨rfl, rfl⟩ : ta = some ⟨g, o, none⟩ ∧ tc = c1 := by simpa using e1
      have hx := hcell t0s.length (by omega)
      rw [show (t0s ++ [x]).getD t0s.length 0 = x by simp [List.getD_eq_getElem?_getD]] at hx
      have hGw := HG.out.new hc
      have hnl := nextL_len HG.out.wf level x
      have hmz := hM.mapSize
      have hf0 : ∀ k, rblk (.slice (some ⟨g, o, none⟩) t0s.length tc) = some k → kB < k := fun k hk => hf k hk
      have i1 : (0 : Int) ≤ t0s.length := by omega
      have i2 : (t0s.length : Int) < (t0s.length : Int) + 1 := by omega
      have i3 : (t0s.length : Int) ≤ tc := by omega
      have t0 : (((t0s.length : Int) + 1) == 0) = false := beq_eq_false_iff_ne.2 (by omega)
      have hk1 := hc.size
      have hkl := hM.lt
      clear hcell e1 hr hf hlen
      /- where nothing is seen anew -/
      have hold : (x ∉ ids L ∨ x ∈ seen) → ∀ wz, Ch0 w' wz → WInv cs L level roots w kB (.slice (some ⟨g, o, none⟩) t0s.length tc) wz ∧ mapSize wz kB = seen.length := fun hn wz cz =>
        ⟨⟨seen, t0s, hS.old hn, hM.keep cz (fun e => e), hrI.keep cz (fun _ _ e => e), hf0, hc.trans cz, by omega⟩, (hM.keep cz (fun e => e)).mapSize⟩
      replace hold := Lib.hid hold
      by_cases hin : x ∈ ids L
      case neg =>
        have hno := node_no hGw.g hin
        have hHO := Lib.hid (hold.out (.inl hin))
        clear hin hS hM hrI hf0 hGw hold
        go_wp2_with fail
        refine hno.mono ?_
        rintro e w1 ⟨rfl, c1⟩
        unfold noNode
        clear hno
        replace c1 := Lib.hid c1
        go_wp2_with fail
        have HE := Lib.hid (hHO.out _ (c1.out.alloc (.cells #[.int .i64 0, .int .i64 0, .slice none 0 0, .slice none 0 0, .bool false] 36)))
        generalize w1.alloc _ = wz at *
        go_step3
        refine ⟨rfl, ⟨_, _, _, _, _, _, _, _, _, _, _, _, _, _, _, _, _, _, _, _, _, _, _, _, _, _, _, _, _, _, _, _, _, _, _, _, _, _, _, _, _, _, _, _, _, _, _, _, _, _, _, _, _, _, _, _, _, _, rfl, HE.out.1⟩, ?_⟩
        simp only [lenOf, HE.out.2, hmz]
        simp
      obtain ⟨nd, hnd, hid⟩ := List.mem_map.1 hin
      have hwf := HG.out.wf _ hnd
      have hr60 := hwf.refs
      have hd60 := hwf.data
      have hny := node_yes hGw.g hnd (by omega) (by omega)
      rw [hid] at hny
      replace hid := Lib.hid hid
      clear hwf hnd
      have HLK : Hid (∀ wz, Ch0 w' wz → _) := Lib.hid (fun wz (cz : Ch0 w' wz) => (hM.keep cz (fun e => e)).lookup (P := Try.prog) (t := 32) (z := .bool false) Try.underlying32 Try.underlying3 (zeroBoolG wz) x false)
      by_cases hse : x ∈ seen
      case pos =>
        have hHO := Lib.hid (hold.out (.inr hse))
        rw [show (memF seen x).getD (.bool false) = .bool true by rw [memF_get, decide_eq_true hse]] at HLK
        clear hin hse hS hM hrI hf0 hGw hold
        go_wp2_with fail
        refine hny.mono ?_
        rintro e w1 ⟨nv, vr, vd, rfl, hcp, c1⟩
        obtain ⟨ar, cr, rfl, -, -⟩ := hcp.refs.isSlice
        obtain ⟨ad, cd, rfl, -, -⟩ := hcp.data.isSlice
        obtain rfl : nv = .agg #[.int .i64 nd.id, .int .i64 nd.cls, .slice ar nd.refs.length cr, .slice ad nd.data.length cd, .bool nd.fin] := hcp.v
        have c2 := c1.alloc (.cells #[.int .i64 nd.id, .int .i64 nd.cls, .slice ar nd.refs.length cr, .slice ad nd.data.length cd, .bool nd.fin] 36)
        have hlk := HLK.out _ c2
        simp only [Bool.false_eq_true, if_false] at hlk
        have HE := Lib.hid (hHO.out _ c2)
        clear hny hcp c1 c2 HLK
        go_wp2_with (at_lookup; refine wpList_lookup_run rfl _ _ 32 rfl rfl rfl hlk ?_)
        generalize w1.alloc _ = wz at *
        go_step3
        refine ⟨rfl, ⟨_, _, _, _, _, _, _, _, _, _, _, _, _, _, _, _, _, _, _, _, _, _, _, _, _, _, _, _, _, _, _, _, _, _, _, _, _, _, _, _, _, _, _, _, _, _, _, _, _, _, _, _, _, _, _, _, _, _, rfl, HE.out.1⟩, ?_⟩
        simp only [lenOf, HE.out.2, hmz]
        simp
      rw [show (memF seen x).getD (.bool false) = .bool false by rw [memF_get, decide_eq_false hse]] at HLK
      have hsl1 := hS.lenS hin hse
      have hSn := hS.new hin hse
      have hIM : Hid (∀ wz, Ch0 w' wz → ∃ wu, _) := Lib.hid (fun wz (cz : Ch0 w' wz) => (hM.keep cz (fun e => e)).update (P := Try.prog) (t := 32) Try.underlying32 Try.underlying3 x (.bool true))
      have hnone : (memF seen x).isSome = false := by unfold memF; rw [if_neg hse]; rfl
      simp only [hnone, Bool.false_eq_true, if_false, memF_put] at hIM
      replace hSn := Lib.hid hSn
      replace hrI := Lib.hid hrI
      replace hf0 := Lib.hid hf0
      clear hin hse hS hM hGw hold hnone
      go_wp2_with fail
      refine hny.mono ?_
      rintro e w1 ⟨nv, vr, vd, rfl, hcp, c1⟩
      obtain ⟨ar, cr, rfl, -, -⟩ := hcp.refs.isSlice
      obtain ⟨ad, cd, rfl, -, -⟩ := hcp.data.isSlice
      obtain rfl : nv = .agg #[.int .i64 nd.id, .int .i64 nd.cls, .slice ar nd.refs.length cr, .slice ad nd.data.length cd, .bool nd.fin] := hcp.v
      have c2 := c1.alloc (.cells #[.int .i64 nd.id, .int .i64 nd.cls, .slice ar nd.refs.length cr, .slice ad nd.data.length cd, .bool nd.fin] 36)
      have hlk := HLK.out _ c2
      simp only [Bool.false_eq_true, if_false] at hlk
      obtain ⟨wu, hup, hM2, u2, s2⟩ := hIM.out _ c2
      have hwsz := c2.size
      have hcu : Ch0 w wu := (hc.trans c2).trans' u2 (fun _ _ e => e) (fun k hk e => by have := hkB.out; omega)
      have hnx := next_of (HG.out.new hcu) x level
      have hr3 := (hrI.out.keep c2 (fun _ _ e => e)).keep u2 (fun k hk e => by have := hf0.out k hk; omega)
      replace c2 := Lib.hid c2
      clear hny hcp c1 HLK hIM
      go_wp2_with (first | (at_lookup; refine wpList_lookup_run rfl _ _ 32 rfl rfl rfl hlk ?_) | (at_mapUpdate; refine wpList_mapUpdate_run rfl _ _ _ 32 rfl rfl rfl rfl hup ?_))
      refine hnx.mono ?_
      rintro e w3 ⟨v3, rfl, r3, f3, c3⟩
      obtain ⟨a3, c3', ev3, -, -⟩ := r3.isSlice
      obtain ⟨a5, c5, w5, hrun, r5, d5, b5⟩ := run_ints (hr3.keep c3 (fun _ _ e => e)) (by omega) r3.sees (by omega) 34
      subst ev3
      have hgB : ∀ k, rblk (.slice (some ⟨g, o, none⟩) t0s.length tc) = some k → kB < k := hf0.out
      have hM5 := (hM2.keep c3 (fun e => e)).keep d5 (fun e => by have := hgB _ e; omega)
      have hmz5 := hM5.mapSize
      have hW : WInv cs L level roots w kB (.slice a5 (t0s.length + (nextL cs L level x).length) c5) w5 := by
        refine ⟨seen ++ [x], t0s ++ nextL cs L level x, hSn.out, by simpa using hM5, by rw [List.length_append]; exact r5, ?_, ?_, ?_⟩
        · intro k hk
          rcases b5 with e | e
          · rw [e] at hk; exact hgB k hk
          · rw [e] at hk; cases hk
            have := c3.size
            have := hcu.size
            omega
        · exact (hcu.trans c3).trans' d5 (fun _ _ e => e) (fun k hk e => by have := hgB k e; have := hkB.out; omega)
        · simp only [List.length_append, List.length_singleton]
          omega
      have HE := Lib.hid (And.intro hW hmz5)
      replace hnl := Lib.hid hnl
      replace hsl1 := Lib.hid hsl1
      replace hmz := Lib.hid hmz
      clear hnx hr3 r3 f3 c3 r5 d5 b5 hM5 hmz5 hW hcu hM2 u2 s2 hSn hrI hf0 hgB hlk hup
      go_wp2_with (at_builtin; refine wpList_append_run rfl _ _ 34 34 rfl rfl rfl hrun ?_)
      go_step3
      refine ⟨rfl, ⟨_, _, _, _, _, _, _, _, _, _, _, _, _, _, _, _, _, _, _, _, _, _, _, _, _, _, _, _, _, _, _, _, _, _, _, _, _, _, _, _, _, _, _, _, _, _, _, _, _, _, _, _, _, _, _, _, _, _, rfl, HE.out.1⟩, ?_⟩
      have h1 := HE.out.2
      have h2 := hmz.out
      have h3 := hnl.out
      have h4 := hsl1.out
      simp only [h1, h2]
      simp [lenOf]
      omega

/-- Reach: within the level of what is Strong -/
theorem reach_of (h : Gt w b O cs L p lo hi) (hL : L.length ≤ 1000) (D : Nat → Prop) (v : Value) (roots : List Int) (hv : SeesI D w v roots) (hrl : roots.length ≤ 100000) :
    Calls Try.prog 59 #[.pointer (some ⟨b, 0, none⟩), v] w fun e w' => ∃ u, e = .returned u ∧ RowAt w' 3 1 u (closeL cs L 1 roots).length ((closeL cs L 1 roots).map (Value.int .i64)) ∧ (∀ k, rblk u = some k → w.heap.size ≤ k) ∧ Ch0 w w' := by
  have hw := within_of h hL D v roots hv hrl 1
  rw [show withinL cs L 1 roots = closeL cs L 1 roots by unfold withinL; rw [if_neg (by omega)]] at hw
  obtain ⟨va, vc, rfl, -⟩ := hv.len
  clear h hv
  go_enter Try.func59, Try.ntmps59
  go_wp2_with fail
  refine hw.mono ?_
  rintro e w1 ⟨u, rfl, r1, f1, c1⟩
  have HE := Lib.hid (And.intro r1 (And.intro f1 c1))
  clear hw r1 f1 c1
  go_wp2_with fail
  go_ret
  exact ⟨u, rfl, HE.out⟩

end

end Go.Proofs.Ytlmeponoadhheaa
