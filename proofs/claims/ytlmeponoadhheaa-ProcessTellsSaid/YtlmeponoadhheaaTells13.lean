/-
  gleaninglaw13.ProcessTells answers true: the walk. (Printed by ptells.py.)
-/
import Derived.Test.YtlmeponoadhheaaPAwake
import Derived.Test.YtlmeponoadhheaaKeepF
import Derived.Test.YtlmeponoadhheaaApply
import Derived.Test.YtlmeponoadhheaaRApply
import Derived.Test.YtlmeponoadhheaaRRun3
namespace Go.Proofs.Ytlmeponoadhheaa
set_option linter.unusedVariables false
open Go.RowKit Go.Sort

theorem live_congr {cs : List Cls} {L : List GN} {k k' : Int → Bool} {r : List Int} (h : ∀ x ∈ ids L, k x = k' x) : liveL cs L k r = liveL cs L k' r := by
  unfold liveL
  apply rchL_congr
  intro x
  have key : ∀ (k k' : Int → Bool), (∀ x ∈ ids L, k x = k' x) → Rch (ids L) (nextK cs L k) (fun x => x ∈ r) x → Rch (ids L) (nextK cs L k') (fun x => x ∈ r) x := by
    intro k k' h hx
    induction hx with
    | root a b => exact .root a b
    | @step x y h1 b c ih =>
      refine .step ih ?_ c
      unfold nextK softTo at b ⊢
      rw [← h x h1.inV]
      exact b
  exact ⟨key k k' h, key k' k (fun x hx => (h x hx).symm)⟩

theorem PR.congr {cs : List Cls} {L : List GN} {k k' : Int → Bool} {roots s t C F : List Int} (h : PR cs L k roots s t C F) (hk : ∀ x ∈ ids L, k x = k' x) : PR cs L k' roots s t C F :=
  ⟨h.es.trans (live_congr hk), h.ef, h.et, h.ec⟩

theorem PR.uniq {cs : List Cls} {L : List GN} {k : Int → Bool} {roots s t C F s' t' C' F' : List Int} (h : PR cs L k roots s t C F) (h' : PR cs L k roots s' t' C' F') : s' = s ∧ t' = t ∧ C' = C ∧ F' = F := by
  have e1 : s' = s := h'.es.trans h.es.symm
  have e2 : t' = t := by rw [h'.et, h.et, e1]
  exact ⟨e1, e2, by rw [h'.ec, h.ec, e1, e2], by rw [h'.ef, h.ef, e1]⟩

theorem ids_filter_snoc (P : Int → Bool) (L : List GN) {j : Nat} (hj : j < L.length) : (ids (L.take (j + 1))).filter P = (ids (L.take j)).filter P ++ (if P L[j].id = true then [L[j].id] else []) := by
  rw [take_snocG L j hj]
  unfold ids
  rw [List.map_append, List.filter_append]
  congr 1
  cases h : P L[j].id <;> simp [List.filter, h]

/-- a Result of the document in memory -/
structure ResAtD (w : World) (Q : Nat) (la : Option Addr) (lc : Nat) (ca : Option Addr) (cc : Nat) (fa : Option Addr) (fc : Nat) (t C F : List Int) : Prop where
  blk : w.heap[Q]? = some (.cells #[.slice la t.length lc, .slice ca C.length cc, .slice fa F.length fc] 94 (0, 0))
  l : RowAt w 3 1 (.slice la t.length lc) t.length (t.map (Value.int .i64))
  c : RowAt w 3 1 (.slice ca C.length cc) C.length (C.map (Value.int .i64))
  f : RowAt w 3 1 (.slice fa F.length fc) F.length (F.map (Value.int .i64))

theorem ResAtD.keep {w w' : World} {Q : Nat} {la ca fa : Option Addr} {lc cc fc : Nat} {t C F : List Int} {S : Nat → Prop} (h : ResAtD w Q la lc ca cc fa fc t C F) (c : Ch S w w') (h0 : ¬ S Q) (hl : ∀ k, rblk (.slice la t.length lc) = some k → ¬ S k) (hc : ∀ k, rblk (.slice ca C.length cc) = some k → ¬ S k) (hf : ∀ k, rblk (.slice fa F.length fc) = some k → ¬ S k) : ResAtD w' Q la lc ca cc fa fc t C F :=
  ⟨c.keep h.blk h0, h.l.keep c hl, h.c.keep c hc, h.f.keep c hf⟩

theorem ResAtD.new {w w' : World} {Q : Nat} {la ca fa : Option Addr} {lc cc fc : Nat} {t C F : List Int} (h : ResAtD w Q la lc ca cc fa fc t C F) (c : Ch0 w w') : ResAtD w' Q la lc ca cc fa fc t C F :=
  h.keep c (fun e => e) (fun _ _ e => e) (fun _ _ e => e) (fun _ _ e => e)

theorem ResAtD.cells {w : World} {Q : Nat} {la ca fa : Option Addr} {lc cc fc : Nat} {t C F : List Int} (h : ResAtD w Q la lc ca cc fa fc t C F) : w.cell? ⟨Q, 0, none⟩ = some (.slice la t.length lc) ∧ w.cell? ⟨Q, 1, none⟩ = some (.slice ca C.length cc) ∧ w.cell? ⟨Q, 2, none⟩ = some (.slice fa F.length fc) :=
  ⟨cell_of_row w Q 0 _ _ _ h.blk, cell_of_row w Q 1 _ _ _ h.blk, cell_of_row w Q 2 _ _ _ h.blk⟩

section
variable {w w' : World} {Q : Nat} {la ca fa : Option Addr} {lc cc fc : Nat} {t C F : List Int}

theorem ResAtD.turn {O : Nat → Prop} (h : ResAtD w Q la lc ca cc fa fc t C F) (c : Ch O w w') (hn : ∀ k, (k = Q ∨ Rb (.slice la t.length lc) (.slice ca C.length cc) (.slice fa F.length fc) k) → ¬ O k) : ResAtD w' Q la lc ca cc fa fc t C F :=
  h.keep c (hn _ (.inl rfl)) (fun k e => hn k (.inr (.inl e))) (fun k e => hn k (.inr (.inr (.inl e)))) (fun k e => hn k (.inr (.inr (.inr e))))

theorem ResAtD.lt (h : ResAtD w Q la lc ca cc fa fc t C F) : ∀ k, Rb (.slice la t.length lc) (.slice ca C.length cc) (.slice fa F.length fc) k → k < w.heap.size := by
  rintro k (e | e | e)
  · exact h.l.lt e
  · exact h.c.lt e
  · exact h.f.lt e

theorem ResAtD.sees3 (h : ResAtD w Q la lc ca cc fa fc t C F) : SeesI (Rb (.slice la t.length lc) (.slice ca C.length cc) (.slice fa F.length fc)) w (.slice la t.length lc) t ∧ SeesI (Rb (.slice la t.length lc) (.slice ca C.length cc) (.slice fa F.length fc)) w (.slice ca C.length cc) C ∧ SeesI (Rb (.slice la t.length lc) (.slice ca C.length cc) (.slice fa F.length fc)) w (.slice fa F.length fc) F :=
  ⟨h.l.sees.mono (fun _ e => .inl e), h.c.sees.mono (fun _ e => .inr (.inl e)), h.f.sees.mono (fun _ e => .inr (.inr e))⟩

end

set_option maxRecDepth 100000 in
set_option maxHeartbeats 4000000 in
theorem tells13_walk (cs : List Cls) (ns : List Int) (rs : List (Int × Int × Int)) (cv nv rv u : Value) (roots : List Int) (bits : Int) (w : World) (hs : SeesW (fun k => k < w.heap.size) w cv nv rv cs ns rs) (hf : Fit cs) (hu : SeesI (fun k => k < w.heap.size) w u roots) (hb0 : 0 ≤ bits) (hb1 : bits < 18446744073709551616) :
    Calls Try.prog 18 #[.agg #[cv, nv, rv], u, .int .u64 bits] w fun e w' => e = .returned (.bool true) ∧ Ch0 w w' := by
  obtain ⟨na, nc, rfl, hnl⟩ := hs.n.len
  obtain ⟨ca, cc, rfl, -⟩ := hs.c.len
  obtain ⟨ra, rc, rfl, -⟩ := hs.r.len
  have HA := Lib.hid awake13
  have HM : Hid (∀ W, Ch0 w W → _) := Lib.hid (fun W (c : Ch0 w W) => pmade_at hs hf c)
  obtain ⟨ua, uc, rfl, hul⟩ := hu.len
  have HU := Lib.hid hu
  clear hs hf hu
  have cA : Ch0 w ((w.alloc (.cells #[.slice ca cs.length cc, .slice na ns.length nc, .slice ra rs.length rc] 84)).alloc (.cells #[.int .u64 bits] 90)) := ((Ch.refl _ _).alloc _).alloc _
  have x1 : ((w.alloc (.cells #[.slice ca cs.length cc, .slice na ns.length nc, .slice ra rs.length rc] 84)).alloc (.cells #[.int .u64 bits] 90)).cell? ⟨w.heap.size, 1, none⟩ = some (.slice na ns.length nc) := (((Ch.refl (fun _ => False) (w.alloc (.cells #[.slice ca cs.length cc, .slice na ns.length nc, .slice ra rs.length rc] 84)))).alloc _ : Ch0 _ _).cell ((by first | (simp; done) | simpa using cell_of_row _ w.heap.size 1 _ _ _ (heap_alloc_new w (.cells #[.slice ca cs.length cc, .slice na ns.length nc, .slice ra rs.length rc] 84)))) (fun e => e)
  have xb0 : ((w.alloc (.cells #[.slice ca cs.length cc, .slice na ns.length nc, .slice ra rs.length rc] 84)).alloc (.cells #[.int .u64 bits] 90)).cell? ⟨w.heap.size + 1, 0, none⟩ = some (.int .u64 bits) := (by first | (simp; done) | simpa using cell_of_one (heap_alloc_new (w.alloc (.cells #[.slice ca cs.length cc, .slice na ns.length nc, .slice ra rs.length rc] 84)) (.cells #[.int .u64 bits] 90)))
  replace cA := Lib.hid cA
  have hmf : ∀ (fn : Fn) (first cap : Array Value) (w : World), (Instr.makeFunc fn first cap).run Try.prog w = .ok (.func fn first cap) w := fun _ _ _ _ => rfl
  go_enter Try.func18, Try.ntmps18
  go_wp2_with fail
  generalize (w.alloc (.cells #[.slice ca cs.length cc, .slice na ns.length nc, .slice ra rs.length rc] 84)).alloc (.cells #[.int .u64 bits] 90) = W0 at *
  generalize w.heap.size = P at *
  refine (HM.out _ cA.out).mono ?_
  rintro e w1 (⟨hmB, rfl, d1⟩ | ⟨hmB, b1, b2, p, lo, hi, O1, O2, D, rfl, hD⟩)
  · have HE := Lib.hid (cA.out.trans d1)
    clear d1 HM hmB
    go_wp2_with fail
    refine (HA.out _).mono ?_
    rintro e w2 ⟨rfl, d2⟩
    have HE2 := Lib.hid (HE.out.trans d2)
    clear d2
    go_wp2_with fail
    refine (HA.out _).mono ?_
    rintro e w3 ⟨rfl, d3⟩
    have HE3 := Lib.hid (HE2.out.trans d3)
    clear d3
    go_wp2_with fail
    go_ret
    exact ⟨rfl, HE3.out⟩
  have hmW := madeW_of hmB
  have hnn := hmW.n
  have hLn := hmW.ok.len
  have hL40 : (madeL cs ns rs).length ≤ 40 := by omega
  replace hLn := Lib.hid hLn
  replace hmW := Lib.hid hmW
  replace hD := Lib.hid hD
  clear hmB HM
  generalize madeL cs ns rs = L at *
  go_wp2_with fail
  refine (HA.out _).mono ?_
  rintro e w2 ⟨rfl, d2⟩
  have hD2 := Lib.hid (hD.out.new d2)
  clear hD d2
  by_cases b4 : roots.length ≤ 40
  case neg =>
    have g4 : decide ((40 : Int) < roots.length) = true := decide_eq_true (by omega)
    clear b4
    go_wp2_with fail
    refine (HA.out _).mono ?_
    rintro e w3 ⟨rfl, d3⟩
    have HE3 := Lib.hid (cA.out.trans (hD2.out.new d3).ch)
    clear d3
    go_wp2_with fail
    go_ret
    exact ⟨rfl, HE3.out⟩
  have g4 : decide ((40 : Int) < roots.length) = false := decide_eq_false (by omega)
  have hlow : Hid (Low L) := Lib.hid (fun nd hnd => by
    have h1 := (hmW.out.ok.mem).1 (mem_ids.2 ⟨nd, hnd, rfl⟩)
    have := hmW.out.n
    omega)
  have hrise : Hid (Rising L) := Lib.hid hD2.out.r.rise
  have hr1 := prun_res hD2.out.g (by omega) (hmW.out.right) (hmW.out.ok.refs) _ _ (keepOk_of (kp := fun id => keptB id bits) hlow.out (enters_of Try.func72 (by kernel_rfl) rfl) (clo_tells1 bits hb0 hb1 (P + 1) w2 (hD2.out.ch.cell xb0 (fun e => e)))) _ _ (roots := roots) (HU.out.keep (cA.out.trans hD2.out.ch) (fun _ _ e => e)) (by omega)
  go_wp2_with fail
  refine hr1.mono ?_
  rintro e v1 ⟨la1, lc1, ca1, cc1, fa1, fc1, s1, t1, C1, F1, rfl, hPR1, hRA1, hRO1, c1⟩
  have hNO1 := Lib.hid (hRO1.off hD2.out.g.small c1)
  have hNP1 := Lib.hid (hRO1.off hD2.out.r.small c1)
  have dd : Ch0 _ (v1.alloc (.cells #[.slice la1 t1.length lc1, .slice ca1 C1.length cc1, .slice fa1 F1.length fc1] 86)) := c1.alloc _
  have hD3 := Lib.hid (hD2.out.new dd)
  replace hRA1 := Lib.hid hRA1
  replace hPR1 := Lib.hid hPR1
  clear hr1 hRO1 c1 dd
  obtain ⟨nv, vr, vd, ow, gg⟩ := hD3.out.r.g
  obtain ⟨aN, cN, rfl, -, -⟩ := gg.row.isSlice
  have k1 := gg.cells.2
  have z1 := k1
  have HG := Lib.hid gg
  have xb1 := Lib.hid (hD3.out.ch.cell xb0 (fun e => e))
  clear gg
  go_wp2_with fail
  generalize v1.alloc (.cells #[.slice la1 t1.length lc1, .slice ca1 C1.length cc1, .slice fa1 F1.length fc1] 86) = W1 at *
  generalize v1.heap.size = Q1 at *
  clear hD2 x1 xb0 hmf
  go_loopw [11, 47] (fun kv i wr => ∃ j : Nat, j ≤ L.length ∧ i = .int .i64 j ∧ RowAt wr 3 1 kv ((ids (L.take j)).filter (fun id => keptB id bits)).length (((ids (L.take j)).filter (fun id => keptB id bits)).map (Value.int .i64)) ∧ (∀ k, rblk kv = some k → W1.heap.size ≤ k) ∧ Ch0 W1 wr) (fun _ i _ => L.length - (intOf i).toNat)
  case atStart => exact ⟨0, Nat.zero_le _, rfl, by simpa [ids] using RowAt.nil, (fun k e => by cases e), Ch.refl _ _⟩
  case round =>
    clear z1
    obtain ⟨j, hj, rfl, hM, hMf, c⟩ := hrel
    obtain ⟨am, cm, rfl, -, -⟩ := hM.isSlice
    have z1 := c.cell k1 (fun e => e)
    by_cases hlt : j < L.length
    · obtain ⟨gn, on, cn, e1, -, hnode⟩ := (HG.out.keep c (fun _ _ e => e)).node (by omega)
      obtain ⟨rfl, rfl⟩ : aN = some ⟨gn, on, none⟩ ∧ cN = cn := by simpa using e1
      obtain ⟨n0, -, -, -, -⟩ := hnode j hlt
      have hlw := hlow.out _ (List.getElem_mem hlt)
      have hsn := ids_filter_snoc (fun id => keptB id bits) L hlt
      have i1 : (0 : Int) ≤ j := by omega
      have i2 : (j : Int) < L.length := by omega
      have hcl : ((ids (L.take j)).filter (fun id => keptB id bits)).length ≤ 40 := by
        have h1 := List.length_filter_le (fun id => keptB id bits) (ids (L.take j))
        have h2 : (ids (L.take j)).length ≤ L.length := by simp [ids]; omega
        omega
      clear hnode e1
      generalize (ids (L.take j)).filter (fun id => keptB id bits) = kj at *
      replace hsn := Lib.hid hsn
      generalize L[j].id = X at *
      have hkp : Hid (∀ w, _) := Lib.hid (kept_any X bits hlw.1 hlw.2 hb0 hb1)
      have HM := Lib.hid (And.intro hM (And.intro hMf c))
      have q0 := cellB n0
      have q1 := cellB z1
      have q2 := cellB (c.cell xb1.out (fun e => e))
      have hn0 := Lib.hid (And.intro n0 z1)
      clear hM hMf c hlw n0 z1
      go_wp2_with fail
      refine wp_region_quiet_below (by kernel_rfl) (by kernel_rfl) ?_
      repeat (go_big_quiet_step ((go_at_call 68; exact quietS (hkp.out _))))
      refine wpQuiet_nil ?_
      intro _ hw'
      obtain ⟨⟨dq, osq⟩, hw''⟩ := hw'
      subst hw''
      have HM2 := Lib.hid (And.intro (HM.out.1.keep (chB wr dq osq) (fun _ _ e => e)) (And.intro HM.out.2.1 (HM.out.2.2.trans (chB wr dq osq))))
      have n1 := (chB wr dq osq).cell hn0.out.1 (fun e => e)
      have z2 := (chB wr dq osq).cell hn0.out.2 (fun e => e)
      clear q0 q1 q2 HM hkp hn0
      generalize grow (redrawn wr dq) osq = w7 at *
      cases hkx : keptB X bits with
      | false =>
        have hno : Hid ((ids (L.take (j + 1))).filter (fun id => keptB id bits) = kj) := Lib.hid (by rw [hsn.out]; simp [hkx])
        clear hsn hkx
        go_wp2_with fail
        go_roundw
        case rel => exact ⟨j + 1, by omega, by go_num, by rw [hno.out]; exact HM2.out.1, HM2.out.2⟩
        case measure => simp [intOf]; omega
      | true =>
        have hyes : Hid ((ids (L.take (j + 1))).filter (fun id => keptB id bits) = kj ++ [X]) := Lib.hid (by rw [hsn.out]; simp [hkx])
        clear hsn hkx
        have ca : Ch0 w7 (w7.alloc (.cells #[.int .i64 X] 3)) := (Ch.refl _ _).alloc _
        obtain ⟨a6, c6, w6, hrun, r6, d6, b6⟩ := run_int (HM2.out.1.keep ca (fun _ _ e => e)) (by omega) w7.heap.size X (heap_alloc_new w7 _) 34
        have HE : Hid (RowAt w6 3 1 (.slice a6 (kj.length + 1) c6) (kj ++ [X]).length ((kj ++ [X]).map (Value.int .i64)) ∧ (∀ k, rblk (.slice a6 (kj.length + 1) c6) = some k → W1.heap.size ≤ k) ∧ Ch0 W1 w6) := by
          refine Lib.hid ⟨by rw [List.length_append]; exact r6, fun k hk => ?_, (HM2.out.2.2.trans ca).trans' d6 (fun _ _ e => e) (fun k hk e => by have := HM2.out.2.1 k e; omega)⟩
          rcases b6 with q | q
          · rw [q] at hk; exact HM2.out.2.1 k hk
          · rw [q] at hk; cases hk; have := HM2.out.2.2.size; rw [World.size_alloc]; omega
        clear ca r6 d6 b6 HM2
        go_wp2_with (at_builtin; refine wpList_append_run rfl _ _ 34 34 rfl rfl rfl hrun ?_)
        go_roundw
        case rel => exact ⟨j + 1, by omega, by go_num, by rw [hyes.out]; exact HE.out.1, HE.out.2⟩
        case measure => simp [intOf]; omega
    · obtain rfl : j = L.length := by omega
      rw [List.take_length] at hM ⊢
      have hD4 := Lib.hid (hD3.out.new c)
      have R1 := Lib.hid (hRA1.out.new c)
      obtain ⟨ks, hks⟩ : ∃ ks, ks = (ids L).filter (fun id => keptB id bits) := ⟨_, rfl⟩
      rw [← hks] at hM ⊢
      have hcg : Hid (∀ x ∈ ids L, decide (x ∈ ks) = keptB x bits) := Lib.hid (fun x hx => by
        rw [hks]
        cases h : keptB x bits <;> simp [h, hx])
      replace hks := Lib.hid hks
      have hrr := rrun_of hD4.out.r hmW.out.right hmW.out.ok.refs (by omega) _ _ hM.sees _ _ (roots := roots) (HU.out.keep (cA.out.trans hD4.out.ch) (fun _ _ e => e)) (by omega)
      clear hM hMf c hRA1 hD3 z1 k1 HG
      go_wp2_with fail
      refine hrr.mono ?_
      rintro e v2 ⟨lv2, cv2, fv2, s2, t2, C2, F2, rfl, hRO2, c2⟩
      obtain ⟨-, et, ec, ef⟩ := hPR1.out.uniq (hRO2.pr.congr hcg.out)
      have l2 := hRO2.l
      have k2 := hRO2.c
      have f2 := hRO2.f
      rw [et] at l2
      rw [ec] at k2
      rw [ef] at f2
      obtain ⟨la2, lc2, rfl, -, -⟩ := l2.isSlice
      obtain ⟨ca2, cc2, rfl, -, -⟩ := k2.isSlice
      obtain ⟨fa2, fc2, rfl, -, -⟩ := f2.isSlice
      have hNO2 : Hid (∀ k, (k = v2.heap.size ∨ Rb (.slice la2 t1.length lc2) (.slice ca2 C1.length cc2) (.slice fa2 F1.length fc2) k) → ¬ O2 k) := Lib.hid (hRO2.off hD4.out.r.small c2)
      have hNO21 : Hid (∀ k, (k = v2.heap.size ∨ Rb (.slice la2 t1.length lc2) (.slice ca2 C1.length cc2) (.slice fa2 F1.length fc2) k) → ¬ O1 k) := Lib.hid (hRO2.off hD4.out.g.small c2)
      have cB : Ch0 v2 (v2.alloc (.cells #[.slice la2 t1.length lc2, .slice ca2 C1.length cc2, .slice fa2 F1.length fc2] 94)) := (Ch.refl _ _).alloc _
      have bN := heap_alloc_new v2 (.cells #[.slice la2 t1.length lc2, .slice ca2 C1.length cc2, .slice fa2 F1.length fc2] 94)
      have hD5 := Lib.hid (hD4.out.new (c2.trans cB))
      have R5 := Lib.hid (R1.out.new (c2.trans cB))
      have M5 := Lib.hid (And.intro bN (And.intro (l2.keep cB (fun _ _ e => e)) (And.intro (k2.keep cB (fun _ _ e => e)) (f2.keep cB (fun _ _ e => e)))))
      obtain ⟨a0, a1, a2⟩ := R5.out.cells
      clear hrr hRO2 et ec ef l2 k2 f2 c2 cB bN R1 hD4
      go_wp2_with fail
      generalize v2.alloc (.cells #[.slice la2 t1.length lc2, .slice ca2 C1.length cc2, .slice fa2 F1.length fc2] 94) = W5 at *
      generalize v2.heap.size = Q5 at *
      have hs1 := same_any _ _ _ _ _ _ W5 R5.out.l.sees M5.out.2.1.sees
      rw [decide_eq_true rfl] at hs1
      refine hs1.mono ?_
      rintro e w6 ⟨rfl, n6, hw6⟩
      have c6 : Ch0 W5 w6 := hw6 ▸ ch_drewN' W5 n6
      have R6 := Lib.hid (R5.out.new c6)
      have hD6 := Lib.hid (hD5.out.new c6)
      have M6 := Lib.hid (And.intro (c6.keep M5.out.1 (fun e => e)) (And.intro (M5.out.2.1.keep c6 (fun _ _ e => e)) (And.intro (M5.out.2.2.1.keep c6 (fun _ _ e => e)) (M5.out.2.2.2.keep c6 (fun _ _ e => e)))))
      clear hs1 hw6 c6 R5 hD5 M5 a0 a1 a2
      obtain ⟨a0, a1, a2⟩ := R6.out.cells
      have b0 := cell_of_row w6 Q5 0 _ _ _ M6.out.1
      have b1' := cell_of_row w6 Q5 1 _ _ _ M6.out.1
      have b2' := cell_of_row w6 Q5 2 _ _ _ M6.out.1
      simp only [List.getElem?_toArray, List.getElem?_cons_zero, List.getElem?_cons_succ] at b0 b1' b2'
      have hs2 := same_any _ _ _ _ _ _ w6 R6.out.c.sees M6.out.2.2.1.sees
      rw [decide_eq_true rfl] at hs2
      go_wp2_with fail
      refine hs2.mono ?_
      rintro e w7 ⟨rfl, n7, hw7⟩
      have c7 : Ch0 w6 w7 := hw7 ▸ ch_drewN' w6 n7
      have R7 := Lib.hid (R6.out.new c7)
      have hD7 := Lib.hid (hD6.out.new c7)
      have M7 := Lib.hid (And.intro (c7.keep M6.out.1 (fun e => e)) (And.intro (M6.out.2.1.keep c7 (fun _ _ e => e)) (And.intro (M6.out.2.2.1.keep c7 (fun _ _ e => e)) (M6.out.2.2.2.keep c7 (fun _ _ e => e)))))
      clear hs2 hw7 R6 hD6 M6
      replace a2 := c7.cell a2 (fun e => e)
      replace b2' := c7.cell b2' (fun e => e)
      clear c7 a0 a1 b0 b1'
      have hs3 := same_any _ _ _ _ _ _ w7 R7.out.f.sees M7.out.2.2.2.sees
      rw [decide_eq_true rfl] at hs3
      go_wp2_with fail
      refine hs3.mono ?_
      rintro e w8 ⟨rfl, n8, hw8⟩
      have c8 : Ch0 w7 w8 := hw8 ▸ ch_drewN' w7 n8
      have R8 := Lib.hid (R7.out.new c8)
      have hD8 := Lib.hid (hD7.out.new c8)
      have M8 := Lib.hid (And.intro (c8.keep M7.out.1 (fun e => e)) (And.intro (M7.out.2.1.keep c8 (fun _ _ e => e)) (And.intro (M7.out.2.2.1.keep c8 (fun _ _ e => e)) (M7.out.2.2.2.keep c8 (fun _ _ e => e)))))
      clear hs3 hw8 c8 R7 hD7 M7 a2 b2'
      obtain ⟨nv, vr, vd, ow, gg⟩ := hD8.out.r.g
      obtain ⟨aN, cN, rfl, -, -⟩ := gg.row.isSlice
      have k1 := gg.cells.2
      have HG := Lib.hid gg
      clear gg
      go_wp2_with fail
      go_loopw [103] (fun i wr => ∃ j : Nat, j ≤ L.length ∧ i = .int .i64 j ∧ Ch0 w8 wr) (fun i _ => L.length - (intOf i).toNat)
      case atStart => exact ⟨0, Nat.zero_le _, rfl, Ch.refl _ _⟩
      case round =>
        obtain ⟨j, hj, rfl, c⟩ := hrel
        have z1 := c.cell k1 (fun e => e)
        by_cases hlt : j < L.length
        · have gg := HG.out.keep c (fun _ _ e => e)
          obtain ⟨gn, on, cn, e1, -, hnode⟩ := gg.node (by omega)
          obtain ⟨rfl, rfl⟩ : aN = some ⟨gn, on, none⟩ ∧ cN = cn := by simpa using e1
          obtain ⟨n0, n1, n2, n3, n4⟩ := hnode j hlt
          have HRR := gg.refs _ (List.getElem_mem hlt)
          have HDD := gg.data _ (List.getElem_mem hlt)
          obtain ⟨br, er, ev, -, -⟩ := HRR.isSlice
          obtain ⟨bd, ed, ew, -, -⟩ := HDD.isSlice
          rw [ev] at n2 HRR
          rw [ew] at n3 HDD
          have hwf := (hD8.out.new c).g.wf _ (List.getElem_mem hlt)
          have hr60 := hwf.refs
          have hd60 := hwf.data
          have hny := node_yes (hD8.out.new c).g.g (List.getElem_mem hlt) (by omega) (by omega)
          have i1 : (0 : Int) ≤ j := by omega
          have i2 : (j : Int) < L.length := by omega
          clear hnode e1 gg ev ew hwf
          generalize L[j] = nd at *
          replace HRR := Lib.hid HRR
          replace HDD := Lib.hid HDD
          replace c := Lib.hid c
          go_wp2_with fail
          refine hny.mono ?_
          rintro e x1 ⟨nv', vr', vd', rfl, hcp, q1⟩
          obtain ⟨ar, cr, rfl, -, -⟩ := hcp.refs.isSlice
          obtain ⟨ad, cd, rfl, -, -⟩ := hcp.data.isSlice
          obtain rfl : nv' = .agg #[.int .i64 nd.id, .int .i64 nd.cls, .slice ar nd.refs.length cr, .slice ad nd.data.length cd, .bool nd.fin] := hcp.v
          have cA7 : Ch0 x1 (x1.alloc (.cells #[.int .i64 nd.id, .int .i64 nd.cls, .slice ar nd.refs.length cr, .slice ad nd.data.length cd, .bool nd.fin] 36)) := (Ch.refl _ _).alloc _
          have cc' := q1.trans cA7
          have bN := heap_alloc_new x1 (.cells #[.int .i64 nd.id, .int .i64 nd.cls, .slice ar nd.refs.length cr, .slice ad nd.data.length cd, .bool nd.fin] 36)
          have y0 := cell_of_row _ x1.heap.size 0 _ _ _ bN
          have y1 := cell_of_row _ x1.heap.size 1 _ _ _ bN
          have y2 := cell_of_row _ x1.heap.size 2 _ _ _ bN
          have y3 := cell_of_row _ x1.heap.size 3 _ _ _ bN
          have y4 := cell_of_row _ x1.heap.size 4 _ _ _ bN
          simp only [List.getElem?_toArray, List.getElem?_cons_zero, List.getElem?_cons_succ] at y0 y1 y2 y3 y4
          have HC1 := Lib.hid (hcp.refs.keep cA7 (fun _ _ e => e))
          have HC2 := Lib.hid (hcp.data.keep cA7 (fun _ _ e => e))
          have HB1 := Lib.hid (HRR.out.keep cc' (fun _ _ e => e))
          have HB2 := Lib.hid (HDD.out.keep cc' (fun _ _ e => e))
          have m0 := cellB (cc'.cell n0 (fun e => e))
          have m1 := cellB (cc'.cell n1 (fun e => e))
          have m2 := cellB (cc'.cell n2 (fun e => e))
          have m3 := cellB (cc'.cell n3 (fun e => e))
          have m4 := cellB (cc'.cell n4 (fun e => e))
          have mz := cellB (cc'.cell z1 (fun e => e))
          have d2 := Lib.hid (c.out.trans cc')
          clear hny hcp q1 cA7 cc' bN n0 n1 n2 n3 n4 z1 HRR HDD c
          replace y0 := cellB y0
          replace y1 := cellB y1
          replace y2 := cellB y2
          replace y3 := cellB y3
          replace y4 := cellB y4
          go_wp2_with fail
          generalize x1.alloc (.cells #[.int .i64 nd.id, .int .i64 nd.cls, .slice ar nd.refs.length cr, .slice ad nd.data.length cd, .bool nd.fin] 36) = x2 at *
          generalize x1.heap.size = qx at *
          have HRS : Hid (∀ wq, Ch0 x2 wq → _) := Lib.hid (fun wq (cq : Ch0 x2 wq) => rsame_any (fun _ => True) (fun _ => True) _ _ nd nd _ _ _ _ wq ⟨rfl, (HC1.out.keep cq (fun _ _ e => e)).sees.mono (fun _ _ => trivial), (HC2.out.keep cq (fun _ _ e => e)).sees.mono (fun _ _ => trivial)⟩ ⟨rfl, (HB1.out.keep cq (fun _ _ e => e)).sees.mono (fun _ _ => trivial), (HB2.out.keep cq (fun _ _ e => e)).sees.mono (fun _ _ => trivial)⟩)
          rw [decide_eq_true (rfl : nd = nd)] at HRS
          refine wp_region_quiet_below (by kernel_rfl) (by kernel_rfl) ?_
          repeat (go_big_quiet_step ((go_at_call 39; exact quietB (HRS.out _ (chB _ _ _)))))
          refine wpQuiet_nil ?_
          intro _ hw'
          obtain ⟨⟨dq, osq⟩, hw''⟩ := hw'
          subst hw''
          have d3 := Lib.hid (d2.out.trans (chB x2 dq osq))
          clear y0 y1 y2 y3 y4 m0 m1 m2 m3 m4 mz HRS HC1 HC2 HB1 HB2 d2
          go_wp2_with fail
          go_roundw
          case rel => exact ⟨j + 1, by omega, by go_num, d3.out⟩
          case measure => simp [intOf]; omega
        · obtain rfl : j = L.length := by omega
          have hD9 := Lib.hid (hD8.out.new c)
          have R9 := Lib.hid (R8.out.new c)
          have M9 := Lib.hid (show ResAtD wr Q5 la2 lc2 ca2 cc2 fa2 fc2 t1 C1 F1 from ⟨c.keep M8.out.1 (fun e => e), M8.out.2.1.keep c (fun _ _ e => e), M8.out.2.2.1.keep c (fun _ _ e => e), M8.out.2.2.2.keep c (fun _ _ e => e)⟩)
          clear c R8 M8 hD8 HG k1
          obtain ⟨u0, u1, u2⟩ := R9.out.cells
          obtain ⟨m0, m1, m2⟩ := M9.out.cells
          have hap : Hid (∀ w', Ch0 wr w' → _) := Lib.hid (fun w' (c : Ch0 wr w') => papply_of (hD9.out.new c).g (by omega) _ _ _ _ t1 C1 F1 (R9.out.new c).sees3.1 (R9.out.new c).sees3.2.1 (R9.out.new c).sees3.2.2 (fun k e => hNO1.out k (.inr e)) (R9.out.new c).lt)
          rw [hPR1.out.behind hrise.out hmW.out.right hmW.out.ok.wf hmW.out.ok.refs, behind_len hPR1.out hrise.out] at hap
          have hrp : Hid (∀ w' L1, Duo W0 w' cs p lo hi b1 O1 L1 b2 O2 D (.slice ca cs.length cc) L → ResAtD w' Q5 la2 lc2 ca2 cc2 fa2 fc2 t1 C1 F1 → _) := Lib.hid (fun w' L1 hd (hm : ResAtD w' Q5 la2 lc2 ca2 cc2 fa2 fc2 t1 C1 F1) => rapply_of hd.r hmW.out.right (by omega) _ _ _ _ t1 C1 F1 hm.sees3.1 hm.sees3.2.1 hm.sees3.2.2 (fun k e => hNO2.out k (.inr e)))
          rw [hPR1.out.behind hrise.out hmW.out.right hmW.out.ok.wf hmW.out.ok.refs, behind_len hPR1.out hrise.out] at hrp
          have hl2 : (behind cs L t1 C1 F1).length ≤ 40 := by
            have := hPR1.out.t_len hrise.out
            rw [behind_len hPR1.out hrise.out]; omega
          obtain ⟨L2, hL2e⟩ : ∃ L2, L2 = behind cs L t1 C1 F1 := ⟨_, rfl⟩
          rw [← hL2e] at hap hrp hl2
          clear hL2e hPR1 hcg hks
          have hsm : Hid (∀ (w' : World) (D E : Nat → Prop) u v, SeesI D w' u (ids L2) → SeesI E w' v (ids L2) → Calls Try.prog 41 #[u, v] w' fun e w'' => e = .returned (.bool true) ∧ Ch0 w' w'') := Lib.hid (fun w' D E u v h1 h2 => by
            have := same_any _ _ _ _ _ _ w' h1 h2
            rw [decide_eq_true rfl] at this
            exact this.mono (fun _ _ ⟨a, n, b⟩ => ⟨a, b ▸ ch_drewN' w' n⟩))
          have xx : Hid (∀ w', Ch0 wr w' → (w'.cell? ⟨Q1, 0, none⟩ = some (.slice la1 t1.length lc1) ∧ w'.cell? ⟨Q1, 1, none⟩ = some (.slice ca1 C1.length cc1) ∧ w'.cell? ⟨Q1, 2, none⟩ = some (.slice fa1 F1.length fc1)) ∧ (w'.cell? ⟨Q5, 0, none⟩ = some (.slice la2 t1.length lc2) ∧ w'.cell? ⟨Q5, 1, none⟩ = some (.slice ca2 C1.length cc2) ∧ w'.cell? ⟨Q5, 2, none⟩ = some (.slice fa2 F1.length fc2))) := Lib.hid (fun w' c => ⟨(R9.out.new c).cells, (M9.out.new c).cells⟩)
          go_wp2_with fail
          go_region_held3 (fun w' => (w'.cell? ⟨Q1, 0, none⟩ = some (.slice la1 t1.length lc1) ∧ w'.cell? ⟨Q1, 1, none⟩ = some (.slice ca1 C1.length cc1) ∧ w'.cell? ⟨Q1, 2, none⟩ = some (.slice fa1 F1.length fc1)) ∧ (w'.cell? ⟨Q5, 0, none⟩ = some (.slice la2 t1.length lc2) ∧ w'.cell? ⟨Q5, 1, none⟩ = some (.slice ca2 C1.length cc2) ∧ w'.cell? ⟨Q5, 2, none⟩ = some (.slice fa2 F1.length fc2)))
            (first | exact ⟨(Ry.out.new ((ci.trans cj).trans ck)).cells, (My.out.new ((ci.trans cj).trans ck)).cells⟩ | exact ⟨(Ry.out.new (ci.trans cj)).cells, (My.out.new (ci.trans cj)).cells⟩ | exact ⟨(Ry.out.new ci).cells, (My.out.new ci).cells⟩ | exact ⟨Ry.out.cells, My.out.cells⟩ | exact ⟨Rx.out.cells, Mx.out.cells⟩ | exact xx.out _ (Ch.refl _ wr).drew | go_keep)
            ((first
              | (go_at_call 74; refine (hap.out _ (Ch.refl _ wr).drew).mono ?_; rintro e wx ⟨rfl, hgx, tux⟩; have hDx := Lib.hid ((hD9.out.new (Ch.refl _ wr).drew).first hgx tux); have Rx := Lib.hid ((R9.out.new (Ch.refl _ wr).drew).turn tux.1 hNO1.out); have Mx := Lib.hid ((M9.out.new (Ch.refl _ wr).drew).turn tux.1 hNO21.out))
              | (go_at_call 75; refine (hrp.out _ _ hDx.out Mx.out).mono ?_; rintro e wy ⟨rfl, O', hry, tuy⟩; have hDy := Lib.hid (hDx.out.second hry tuy); have Ry := Lib.hid (Rx.out.turn tuy.1 hNP1.out); have My := Lib.hid (Mx.out.turn tuy.1 hNO2.out))
              | (go_at_call 35; refine (ids_of hDy.out.g (by omega)).mono ?_; rintro e wi ⟨vi, rfl, ri, fi, ci⟩; obtain ⟨ai, ci', rfl, -, -⟩ := ri.isSlice)
              | (go_at_call 52; refine (rids_of (hDy.out.new ci).r (by omega)).mono ?_; rintro e wj ⟨vj, rfl, rj, fj, cj⟩; obtain ⟨aj, cj', rfl, -, -⟩ := rj.isSlice)
              | (go_at_call 41; refine (hsm.out _ _ _ _ _ (ri.keep cj (fun _ _ e => e)).sees rj.sees).mono ?_; rintro e wk ⟨rfl, ck⟩)))
          rename_i hheld
          have hD10 := Lib.hid (hDy.out.new ((ci.trans cj).trans ck))
          clear hheld hap hrp hsm xx u0 u1 u2 m0 m1 m2 ri rj fi fj ci cj ck hDy Ry My hry tuy hDx Rx Mx hgx tux hD9 R9 M9
          obtain ⟨nv, vr, vd, ow, gg⟩ := hD10.out.r.g
          obtain ⟨aN, cN, rfl, -, -⟩ := gg.row.isSlice
          have k1 := gg.cells.2
          have HG := Lib.hid gg
          clear gg
          go_wp2_with fail
          go_loopw [154] (fun i wr => ∃ j : Nat, j ≤ L2.length ∧ i = .int .i64 j ∧ Ch0 wk wr) (fun i _ => L2.length - (intOf i).toNat)
          case atStart => exact ⟨0, Nat.zero_le _, rfl, Ch.refl _ _⟩
          case round =>
            obtain ⟨j, hj, rfl, c⟩ := hrel
            have z1 := c.cell k1 (fun e => e)
            by_cases hlt : j < L2.length
            · have gg := HG.out.keep c (fun _ _ e => e)
              obtain ⟨gn, on, cn, e1, -, hnode⟩ := gg.node (by omega)
              obtain ⟨rfl, rfl⟩ : aN = some ⟨gn, on, none⟩ ∧ cN = cn := by simpa using e1
              obtain ⟨n0, n1, n2, n3, n4⟩ := hnode j hlt
              have HRR := gg.refs _ (List.getElem_mem hlt)
              have HDD := gg.data _ (List.getElem_mem hlt)
              obtain ⟨br, er, ev, -, -⟩ := HRR.isSlice
              obtain ⟨bd, ed, ew, -, -⟩ := HDD.isSlice
              rw [ev] at n2 HRR
              rw [ew] at n3 HDD
              have hwf := (hD10.out.new c).g.wf _ (List.getElem_mem hlt)
              have hr60 := hwf.refs
              have hd60 := hwf.data
              have hny := node_yes (hD10.out.new c).g.g (List.getElem_mem hlt) (by omega) (by omega)
              have i1 : (0 : Int) ≤ j := by omega
              have i2 : (j : Int) < L2.length := by omega
              clear hnode e1 gg ev ew hwf
              generalize L2[j] = nd at *
              replace HRR := Lib.hid HRR
              replace HDD := Lib.hid HDD
              replace c := Lib.hid c
              go_wp2_with fail
              refine hny.mono ?_
              rintro e x1 ⟨nv', vr', vd', rfl, hcp, q1⟩
              obtain ⟨ar, cr, rfl, -, -⟩ := hcp.refs.isSlice
              obtain ⟨ad, cd, rfl, -, -⟩ := hcp.data.isSlice
              obtain rfl : nv' = .agg #[.int .i64 nd.id, .int .i64 nd.cls, .slice ar nd.refs.length cr, .slice ad nd.data.length cd, .bool nd.fin] := hcp.v
              have cA7 : Ch0 x1 (x1.alloc (.cells #[.int .i64 nd.id, .int .i64 nd.cls, .slice ar nd.refs.length cr, .slice ad nd.data.length cd, .bool nd.fin] 36)) := (Ch.refl _ _).alloc _
              have cc' := q1.trans cA7
              have bN := heap_alloc_new x1 (.cells #[.int .i64 nd.id, .int .i64 nd.cls, .slice ar nd.refs.length cr, .slice ad nd.data.length cd, .bool nd.fin] 36)
              have y0 := cell_of_row _ x1.heap.size 0 _ _ _ bN
              have y1 := cell_of_row _ x1.heap.size 1 _ _ _ bN
              have y2 := cell_of_row _ x1.heap.size 2 _ _ _ bN
              have y3 := cell_of_row _ x1.heap.size 3 _ _ _ bN
              have y4 := cell_of_row _ x1.heap.size 4 _ _ _ bN
              simp only [List.getElem?_toArray, List.getElem?_cons_zero, List.getElem?_cons_succ] at y0 y1 y2 y3 y4
              have HC1 := Lib.hid (hcp.refs.keep cA7 (fun _ _ e => e))
              have HC2 := Lib.hid (hcp.data.keep cA7 (fun _ _ e => e))
              have HB1 := Lib.hid (HRR.out.keep cc' (fun _ _ e => e))
              have HB2 := Lib.hid (HDD.out.keep cc' (fun _ _ e => e))
              have m0 := cellB (cc'.cell n0 (fun e => e))
              have m1 := cellB (cc'.cell n1 (fun e => e))
              have m2 := cellB (cc'.cell n2 (fun e => e))
              have m3 := cellB (cc'.cell n3 (fun e => e))
              have m4 := cellB (cc'.cell n4 (fun e => e))
              have mz := cellB (cc'.cell z1 (fun e => e))
              have d2 := Lib.hid (c.out.trans cc')
              clear hny hcp q1 cA7 cc' bN n0 n1 n2 n3 n4 z1 HRR HDD c
              replace y0 := cellB y0
              replace y1 := cellB y1
              replace y2 := cellB y2
              replace y3 := cellB y3
              replace y4 := cellB y4
              go_wp2_with fail
              generalize x1.alloc (.cells #[.int .i64 nd.id, .int .i64 nd.cls, .slice ar nd.refs.length cr, .slice ad nd.data.length cd, .bool nd.fin] 36) = x2 at *
              generalize x1.heap.size = qx at *
              have HRS : Hid (∀ wq, Ch0 x2 wq → _) := Lib.hid (fun wq (cq : Ch0 x2 wq) => rsame_any (fun _ => True) (fun _ => True) _ _ nd nd _ _ _ _ wq ⟨rfl, (HC1.out.keep cq (fun _ _ e => e)).sees.mono (fun _ _ => trivial), (HC2.out.keep cq (fun _ _ e => e)).sees.mono (fun _ _ => trivial)⟩ ⟨rfl, (HB1.out.keep cq (fun _ _ e => e)).sees.mono (fun _ _ => trivial), (HB2.out.keep cq (fun _ _ e => e)).sees.mono (fun _ _ => trivial)⟩)
              rw [decide_eq_true (rfl : nd = nd)] at HRS
              refine wp_region_quiet_below (by kernel_rfl) (by kernel_rfl) ?_
              repeat (go_big_quiet_step ((go_at_call 39; exact quietB (HRS.out _ (chB _ _ _)))))
              refine wpQuiet_nil ?_
              intro _ hw'
              obtain ⟨⟨dq, osq⟩, hw''⟩ := hw'
              subst hw''
              have d3 := Lib.hid (d2.out.trans (chB x2 dq osq))
              clear y0 y1 y2 y3 y4 m0 m1 m2 m3 m4 mz HRS HC1 HC2 HB1 HB2 d2
              go_wp2_with fail
              go_roundw
              case rel => exact ⟨j + 1, by omega, by go_num, d3.out⟩
              case measure => simp [intOf]; omega
            · obtain rfl : j = L2.length := by omega
              have HE := Lib.hid (cA.out.trans (hD10.out.new c).ch)
              clear c
              go_wp2_with fail
              go_ret
              exact ⟨rfl, HE.out⟩

end Go.Proofs.Ytlmeponoadhheaa
