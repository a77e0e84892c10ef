/-
  Contract of process.Run.
-/
import Derived.Test.YtlmeponoadhheaaSoft
import Derived.Test.YtlmeponoadhheaaRun3
import Derived.Test.YtlmeponoadhheaaStillQ
namespace Go.Proofs.Ytlmeponoadhheaa
set_option linter.unusedVariables false
open Go.RowKit

theorem sees_int2 (w : World) (x y : Int) : SeesI (fun k => k = w.heap.size) (w.alloc (.cells #[.int .i64 x, .int .i64 y] 3)) (.slice (some ⟨w.heap.size, 0, none⟩) 2 2) [x, y] := by
  refine ⟨rfl, _, 2, rfl, Nat.le_refl _, by decide, .inr ⟨w.heap.size, 0, rfl, rfl, fun i u hu => ?_⟩⟩
  rw [Nat.zero_add, cell_of_row _ w.heap.size i _ _ _ (heap_alloc_new w _)]
  simpa using hu

theorem sees_int1' (w : World) (x : Int) : SeesI (fun k => k = w.heap.size) (w.alloc (.cells #[.int .i64 x] 3)) (.slice (some ⟨w.heap.size, 0, none⟩) 1 1) [x] := sees_one_cell (heap_alloc_new w _)

theorem clrL_len {cs : List Cls} {L : List GN} {kinds live old : List Int} : (clrL cs L kinds live old).length ≤ live.length := List.length_filter_le _ _

theorem RunS.lt_r {M r b : Nat} {w : World} {lv cv fv : Value} {live cleared final : List Int} (h : RunS M w r b lv cv fv live cleared final) : r < w.heap.size := by
  have := h.blk
  rw [Array.getElem?_eq_some_iff] at this
  exact this.1

/-- what Run hands back -/
structure RunOut (w w' : World) (cs : List Cls) (L : List GN) (kp : Int → Bool) (roots : List Int) (lv cv fv : Value) (s t C F : List Int) : Prop where
  pr : PR cs L kp roots s t C F
  l : RowAt w' 3 1 lv t.length (t.map (Value.int .i64))
  c : RowAt w' 3 1 cv C.length (C.map (Value.int .i64))
  f : RowAt w' 3 1 fv F.length (F.map (Value.int .i64))
  lb : ∀ k, rblk lv = some k → w.heap.size ≤ k
  cb : ∀ k, rblk cv = some k → w.heap.size ≤ k
  fb : ∀ k, rblk fv = some k → w.heap.size ≤ k

section
variable {b : Nat} {w : World} {O : Nat → Prop} {cs : List Cls} {L : List GN} {p lo hi : Nat} {roots : List Int}

set_option maxRecDepth 100000 in
set_option maxHeartbeats 4000000 in
theorem prun_of (hg : Gt w b O cs L p lo hi) (hL : L.length ≤ 900) (hal : allRight cs = true) (hin : RefsIn L) (kv : Value) (kp : Int → Bool) (hk : KeepOk kv kp w L) (D : Nat → Prop) (v : Value) (hv : SeesI D w v roots) (hrl : roots.length ≤ 1000) :
    Calls Try.prog 65 #[.pointer (some ⟨b, 0, none⟩), kv, v] w fun e w' => ∃ lv cv fv s t C F, e = .returned (.agg #[lv, cv, fv]) ∧ RunOut w w' cs L kp roots lv cv fv s t C F ∧ Ch0 w w' := by
  have hrise : Hid (Rising L) := Lib.hid (by obtain ⟨_, _, _, _, _, _, gs⟩ := hg.g; exact gs.rise)
  obtain ⟨Wb, hWb⟩ : ∃ Wb, Wb = w.alloc (.cells #[.slice none 0 0, .slice none 0 0, .slice none 0 0] 86) := ⟨_, rfl⟩
  have cW : Ch0 w Wb := hWb ▸ (Ch.refl _ _).alloc _
  have hsz : w.heap.size + 1 = Wb.heap.size := by rw [hWb, World.size_alloc]
  have hbox : Wb.heap[w.heap.size]? = some (.cells #[.slice none 0 0, .slice none 0 0, .slice none 0 0] 86 (0, 0)) := hWb ▸ heap_alloc_new w _
  replace hg := hg.new cW
  replace hk := hk.new cW
  replace hv := Sees.keep hv cW (fun _ _ e => e)
  have hrO : Hid (¬ O Wb.heap.size) := Lib.hid (fun e => by have := hg.small _ e; omega)
  have hrT : Hid (∀ k, lo ≤ k → k < hi → k ≠ Wb.heap.size) := Lib.hid (fun k h1 h2 => by have := hg.hiw; omega)
  have hhi : Hid (hi ≤ Wb.heap.size) := Lib.hid hg.hiw
  have hR0 : RunS Wb.heap.size (Wb.alloc (.cells #[.pointer (some ⟨b, 0, none⟩), .slice none 0 0, .slice none 0 0, .slice none 0 0] 152)) Wb.heap.size b (.slice none 0 0) (.slice none 0 0) (.slice none 0 0) [] [] [] :=
    ⟨heap_alloc_new Wb _, RowAt.nil, RowAt.nil, RowAt.nil, (fun k e => by cases e), (fun k e => by cases e), (fun k e => by cases e), Nat.le_refl _, (fun k e => by cases e), (fun k e => by cases e)⟩
  have c0 : Ch0 Wb (Wb.alloc (.cells #[.pointer (some ⟨b, 0, none⟩), .slice none 0 0, .slice none 0 0, .slice none 0 0] 152)) := (Ch.refl _ _).alloc _
  have HG := Lib.hid hg
  have HK := Lib.hid hk
  have HI := Lib.hid hin
  have HAL := Lib.hid hal
  have hen := enter_of (hg.new c0) (by omega) hR0 hrO.out hrT.out D v roots (Sees.keep hv c0 (fun _ _ e => e)) (by simp) hrl c0.size
  rw [List.nil_append] at hen
  replace c0 := Lib.hid c0
  replace hWb := Lib.hid hWb
  replace hsz := Lib.hid hsz
  replace hbox := Lib.hid hbox
  replace cW := Lib.hid cW
  obtain ⟨va, vc, rfl, -⟩ := hv.len
  clear hg hk hin hal hv hR0
  go_enter Try.func65, Try.ntmps65
  go_wp2_with fail
  rw [← hWb.out, hsz.out]
  refine hen.mono ?_
  rintro e w1 ⟨rfl, lv1, hR1, c1⟩
  have d1 : Ch0 Wb w1 := c0.out.trans' c1 (fun _ _ e => e) (fun k hk e => by have e' : k = Wb.heap.size := e; omega)
  have hso := soft_of HG.out hL HAL.out HI.out d1 kv kp HK.out hR1
  clear hen hR1 c1 c0 d1
  go_wp2_with fail
  refine hso.mono ?_
  rintro e w2 ⟨rfl, lv2, hR2, c2⟩
  have hlen2 : (liveL cs L kp roots).length ≤ L.length := by
    have := rchL_len (V := ids L) (nx := nextK cs L kp) (S := fun x => x ∈ roots)
    have e : (ids L).length = L.length := by simp [ids]
    unfold liveL
    omega
  have hup2 := live_rising hrise.out (cs := cs) (keep := kp) (r := roots)
  obtain ⟨s, hs⟩ : ∃ s, s = liveL cs L kp roots := ⟨_, rfl⟩
  rw [← hs] at hR2 hlen2 hup2
  replace hs := Lib.hid hs
  have cA : Ch0 w2 (w2.alloc (.cells #[.int .i64 3, .int .i64 4] 3)) := (Ch.refl _ _).alloc _
  have hcl := clear_of HG.out (c2.trans cA) (hR2.new cA) hup2 (by omega) (by simp) _ _ [3, 4] (sees_int2 w2 3 4) (fun k hk => ⟨by have := hR2.lt_r; omega, fun e => by have := hR2.c.lt e; omega, by rw [World.size_alloc]; omega⟩)
  rw [List.nil_append] at hcl
  clear hso hR2 c2 cA
  go_wp2_with fail
  refine hcl.mono ?_
  rintro e w3 ⟨rfl, cv3, hR3, c3⟩
  have hfi := pfinals_of HG.out (by omega) c3 (Nat.le_refl _) hhi.out hR3 hup2 (by omega)
  obtain ⟨t, ht⟩ : ∃ t, t = closeL cs L 1 (s ++ finL L s) := ⟨_, rfl⟩
  have hlen4 : t.length ≤ L.length := by
    have := rchL_len (V := ids L) (nx := nextL cs L 1) (S := fun x => x ∈ startL L 1 (s ++ finL L s))
    have e : (ids L).length = L.length := by simp [ids]
    rw [ht]
    unfold closeL
    omega
  have hup4 : t.Pairwise (· < ·) := ht ▸ rchL_rising (rising_ids hrise.out)
  rw [← ht] at hfi
  replace ht := Lib.hid ht
  clear hcl hR3 c3
  go_wp2_with fail
  refine hfi.mono ?_
  rintro e w4 ⟨rfl, lv4, fv4, hR4, c4⟩
  have hc1 : (clrL cs L [3, 4] s []).length ≤ s.length := clrL_len
  have cA : Ch0 w4 (w4.alloc (.cells #[.int .i64 3, .int .i64 4] 3)) := (Ch.refl _ _).alloc _
  have hcl := clear_of HG.out (c4.trans cA) (hR4.new cA) hup4 (by omega) (by omega) _ _ [3, 4] (sees_int2 w4 3 4) (fun k hk => ⟨by have := hR4.lt_r; omega, fun e => by have := hR4.c.lt e; omega, by rw [World.size_alloc]; omega⟩)
  clear hfi hR4 c4 cA
  go_wp2_with fail
  refine hcl.mono ?_
  rintro e w5 ⟨rfl, cv5, hR5, c5⟩
  have hc2 : (clrL cs L [3, 4] t (clrL cs L [3, 4] s [])).length ≤ t.length := clrL_len
  have cA : Ch0 w5 (w5.alloc (.cells #[.int .i64 5] 3)) := (Ch.refl _ _).alloc _
  have hcl2 := clear_of HG.out (c5.trans cA) (hR5.new cA) hup4 (by omega) (by rw [List.length_append]; omega) _ _ [5] (sees_int1' w5 5) (fun k hk => ⟨by have := hR5.lt_r; omega, fun e => by have := hR5.c.lt e; omega, by rw [World.size_alloc]; omega⟩)
  clear hcl hR5 c5 cA
  go_wp2_with fail
  refine hcl2.mono ?_
  rintro e w6 ⟨rfl, cv6, hR6, c6⟩
  have hPR : PR cs L kp roots s t (clrL cs L [3, 4] s [] ++ clrL cs L [3, 4] t (clrL cs L [3, 4] s []) ++ clrL cs L [5] t (clrL cs L [3, 4] s [] ++ clrL cs L [3, 4] t (clrL cs L [3, 4] s []))) (finL L s) := ⟨hs.out, rfl, ht.out, rfl⟩
  obtain ⟨-, q1, q2, q3⟩ := hR6.cells
  obtain ⟨la, lc, e1, -, -⟩ := hR6.l.isSlice
  obtain ⟨ca, cc, e2, -, -⟩ := hR6.c.isSlice
  obtain ⟨fa, fc, e3, -, -⟩ := hR6.f.isSlice
  have HB := Lib.hid (And.intro hR6.lb (And.intro hR6.cb hR6.fb))
  have hM : w.heap.size ≤ Wb.heap.size := by have := hsz.out; omega
  have hbx := c6.keep hbox.out (fun e => e)
  have z0 := cell_of_row w6 w.heap.size 0 _ _ _ hbx
  have z1 := cell_of_row w6 w.heap.size 1 _ _ _ hbx
  have z2 := cell_of_row w6 w.heap.size 2 _ _ _ hbx
  simp only [List.getElem?_toArray, List.getElem?_cons_zero, List.getElem?_cons_succ] at z0 z1 z2
  have f0 := frozen_of_row w6 w.heap.size 0 _ _ hbx
  have f1 := frozen_of_row w6 w.heap.size 1 _ _ hbx
  have f2 := frozen_of_row w6 w.heap.size 2 _ _ hbx
  have HE := Lib.hid (And.intro (RunOut.mk (w := w) hPR hR6.l hR6.c hR6.f (fun k hk => Nat.le_trans hM (hR6.lb k hk)) (fun k hk => Nat.le_trans hM (hR6.cb k hk)) (fun k hk => Nat.le_trans hM (hR6.fb k hk))) (cW.out.trans c6))
  generalize clrL cs L [3, 4] s [] ++ clrL cs L [3, 4] t (clrL cs L [3, 4] s []) ++ clrL cs L [5] t (clrL cs L [3, 4] s [] ++ clrL cs L [3, 4] t (clrL cs L [3, 4] s [])) = C at *
  generalize finL L s = F at *
  subst e1 e2 e3
  clear hcl2 hR6 c6 hPR hc1 hc2 hlen2 hlen4 hup2 hup4
  go_wp2_with fail
  refine wp_region_still_tail 13 (by kernel_rfl) (by kernel_rfl) ?_
  simp only [List.take_succ_cons, List.take_zero, List.drop_succ_cons, List.drop_zero]
  refine still_of_quiet _ _ ?_
  repeat (go_big_quiet_step (fail))
  refine wpQuiet_nil ?_
  change wpList _ _ _ _ _ w6.drew
  go_wp2_with fail
  have hb1 : (w6.setCell ⟨w.heap.size, 0, none⟩ (.slice la t.length lc)).heap[w.heap.size]? = some (.cells #[.slice la t.length lc, .slice none 0 0, .slice none 0 0] 86 (0, 0)) := by
    rw [heap_setCell_same w6 w.heap.size 0 _ _ _ hbx]; rfl
  have hb2 : ((w6.setCell ⟨w.heap.size, 0, none⟩ (.slice la t.length lc)).setCell ⟨w.heap.size, 1, none⟩ (.slice ca C.length cc)).heap[w.heap.size]? = some (.cells #[.slice la t.length lc, .slice ca C.length cc, .slice none 0 0] 86 (0, 0)) := by
    rw [heap_setCell_same _ w.heap.size 1 _ _ _ hb1]; rfl
  have hb3 : (((w6.setCell ⟨w.heap.size, 0, none⟩ (.slice la t.length lc)).setCell ⟨w.heap.size, 1, none⟩ (.slice ca C.length cc)).setCell ⟨w.heap.size, 2, none⟩ (.slice fa F.length fc)).drew.heap[w.heap.size]? = some (.cells #[.slice la t.length lc, .slice ca C.length cc, .slice fa F.length fc] 86 (0, 0)) := by
    show (World.setCell _ _ _).heap[w.heap.size]? = _
    rw [heap_setCell_same _ w.heap.size 2 _ _ _ hb2]; rfl
  have cS : Ch (fun k => k = w.heap.size) w6 (((w6.setCell ⟨w.heap.size, 0, none⟩ (.slice la t.length lc)).setCell ⟨w.heap.size, 1, none⟩ (.slice ca C.length cc)).setCell ⟨w.heap.size, 2, none⟩ (.slice fa F.length fc)).drew :=
    ((((Ch.refl (fun k => k = w.heap.size) w6).setCell (p := ⟨w.heap.size, 0, none⟩) (fun _ => rfl) _).setCell (p := ⟨w.heap.size, 1, none⟩) (fun _ => rfl) _).setCell (p := ⟨w.heap.size, 2, none⟩) (fun _ => rfl) _).drew
  generalize (((w6.setCell ⟨w.heap.size, 0, none⟩ (.slice la t.length lc)).setCell ⟨w.heap.size, 1, none⟩ (.slice ca C.length cc)).setCell ⟨w.heap.size, 2, none⟩ (.slice fa F.length fc)).drew = wF at *
  have y0 := cell_of_row wF w.heap.size 0 _ _ _ hb3
  have y1 := cell_of_row wF w.heap.size 1 _ _ _ hb3
  have y2 := cell_of_row wF w.heap.size 2 _ _ _ hb3
  simp only [List.getElem?_toArray, List.getElem?_cons_zero, List.getElem?_cons_succ] at y0 y1 y2
  have hRO := HE.out.1
  have hne := hsz.out
  refine bodyPost_ret (v := .agg #[.slice la t.length lc, .slice ca C.length cc, .slice fa F.length fc]) (by simp [results, Try.results65, go_sem, *]) rfl ⟨_, _, _, s, t, C, F, rfl, ⟨hRO.pr, hRO.l.keep cS (fun k hk e => ?_), hRO.c.keep cS (fun k hk e => ?_), hRO.f.keep cS (fun k hk e => ?_), hRO.lb, hRO.cb, hRO.fb⟩, HE.out.2.trans' cS (fun _ _ e => e) (fun k hk e => ?_)⟩
  · have := HB.out.1 k hk; have e' : k = w.heap.size := e; omega
  · have := HB.out.2.1 k hk; have e' : k = w.heap.size := e; omega
  · have := HB.out.2.2 k hk; have e' : k = w.heap.size := e; omega
  · have e' : k = w.heap.size := e; omega

end

/-- a Result in memory -/
structure ResAt (w : World) (Q : Nat) (la : Option Addr) (lc : Nat) (ca : Option Addr) (cc : Nat) (fa : Option Addr) (fc : Nat) (t C F : List Int) : Prop where
  blk : w.heap[Q]? = some (.cells #[.slice la t.length lc, .slice ca C.length cc, .slice fa F.length fc] 86 (0, 0))
  l : RowAt w 3 1 (.slice la t.length lc) t.length (t.map (Value.int .i64))
  c : RowAt w 3 1 (.slice ca C.length cc) C.length (C.map (Value.int .i64))
  f : RowAt w 3 1 (.slice fa F.length fc) F.length (F.map (Value.int .i64))

theorem ResAt.keep {w w' : World} {Q : Nat} {la ca fa : Option Addr} {lc cc fc : Nat} {t C F : List Int} {S : Nat → Prop} (h : ResAt w Q la lc ca cc fa fc t C F) (c : Ch S w w') (h0 : ¬ S Q) (hl : ∀ k, rblk (.slice la t.length lc) = some k → ¬ S k) (hc : ∀ k, rblk (.slice ca C.length cc) = some k → ¬ S k) (hf : ∀ k, rblk (.slice fa F.length fc) = some k → ¬ S k) : ResAt w' Q la lc ca cc fa fc t C F :=
  ⟨c.keep h.blk h0, h.l.keep c hl, h.c.keep c hc, h.f.keep c hf⟩

theorem ResAt.new {w w' : World} {Q : Nat} {la ca fa : Option Addr} {lc cc fc : Nat} {t C F : List Int} (h : ResAt w Q la lc ca cc fa fc t C F) (c : Ch0 w w') : ResAt w' Q la lc ca cc fa fc t C F :=
  h.keep c (fun e => e) (fun _ _ e => e) (fun _ _ e => e) (fun _ _ e => e)

theorem ResAt.cells {w : World} {Q : Nat} {la ca fa : Option Addr} {lc cc fc : Nat} {t C F : List Int} (h : ResAt w Q la lc ca cc fa fc t C F) : w.cell? ⟨Q, 0, none⟩ = some (.slice la t.length lc) ∧ w.cell? ⟨Q, 1, none⟩ = some (.slice ca C.length cc) ∧ w.cell? ⟨Q, 2, none⟩ = some (.slice fa F.length fc) :=
  ⟨cell_of_row w Q 0 _ _ _ h.blk, cell_of_row w Q 1 _ _ _ h.blk, cell_of_row w Q 2 _ _ _ h.blk⟩

/-- what Run hands back, its slices shown, and as it is where it is stored -/
theorem prun_res {b : Nat} {w : World} {O : Nat → Prop} {cs : List Cls} {L : List GN} {p lo hi : Nat} {roots : List Int} (hg : Gt w b O cs L p lo hi) (hL : L.length ≤ 900) (hal : allRight cs = true) (hin : RefsIn L) (kv : Value) (kp : Int → Bool) (hk : KeepOk kv kp w L) (D : Nat → Prop) (v : Value) (hv : SeesI D w v roots) (hrl : roots.length ≤ 1000) :
    Calls Try.prog 65 #[.pointer (some ⟨b, 0, none⟩), kv, v] w fun e w' => ∃ la lc ca cc fa fc s t C F, e = .returned (.agg #[.slice la t.length lc, .slice ca C.length cc, .slice fa F.length fc]) ∧ PR cs L kp roots s t C F ∧
      ResAt (w'.alloc (.cells #[.slice la t.length lc, .slice ca C.length cc, .slice fa F.length fc] 86)) w'.heap.size la lc ca cc fa fc t C F ∧ RunOut w w' cs L kp roots (.slice la t.length lc) (.slice ca C.length cc) (.slice fa F.length fc) s t C F ∧ Ch0 w w' := by
  refine (prun_of hg hL hal hin kv kp hk D v hv hrl).mono ?_
  rintro e w' ⟨lv, cv, fv, s, t, C, F, rfl, hR, c⟩
  obtain ⟨la, lc, rfl, -, -⟩ := hR.l.isSlice
  obtain ⟨ca, cc, rfl, -, -⟩ := hR.c.isSlice
  obtain ⟨fa, fc, rfl, -, -⟩ := hR.f.isSlice
  have cB : Ch0 w' (w'.alloc (.cells #[.slice la t.length lc, .slice ca C.length cc, .slice fa F.length fc] 86)) := (Ch.refl _ _).alloc _
  exact ⟨la, lc, ca, cc, fa, fc, s, t, C, F, rfl, hR.pr, ⟨heap_alloc_new w' _, hR.l.keep cB (fun _ _ e => e), hR.c.keep cB (fun _ _ e => e), hR.f.keep cB (fun _ _ e => e)⟩, hR, c⟩

/-- the blocks of a Result's rows -/
def Rb (lv cv fv : Value) (k : Nat) : Prop := rblk lv = some k ∨ rblk cv = some k ∨ rblk fv = some k

theorem RunOut.off {w w' : World} {cs : List Cls} {L : List GN} {kp : Int → Bool} {roots : List Int} {lv cv fv : Value} {s t C F : List Int} {O : Nat → Prop} (h : RunOut w w' cs L kp roots lv cv fv s t C F) (hs : ∀ k, O k → k < w.heap.size) (c : Ch0 w w') : ∀ k, (k = w'.heap.size ∨ Rb lv cv fv k) → ¬ O k := by
  rintro k (rfl | e | e | e) ho
  · have := hs _ ho; have := c.size; omega
  · have := hs _ ho; have := h.lb k e; omega
  · have := hs _ ho; have := h.cb k e; omega
  · have := hs _ ho; have := h.fb k e; omega

section
variable {w w' : World} {Q : Nat} {la ca fa : Option Addr} {lc cc fc : Nat} {t C F : List Int}

theorem ResAt.turn {O : Nat → Prop} (h : ResAt w Q la lc ca cc fa fc t C F) (c : Ch O w w') (hn : ∀ k, (k = Q ∨ Rb (.slice la t.length lc) (.slice ca C.length cc) (.slice fa F.length fc) k) → ¬ O k) : ResAt w' Q la lc ca cc fa fc t C F :=
  h.keep c (hn _ (.inl rfl)) (fun k e => hn k (.inr (.inl e))) (fun k e => hn k (.inr (.inr (.inl e)))) (fun k e => hn k (.inr (.inr (.inr e))))

theorem ResAt.lt (h : ResAt w Q la lc ca cc fa fc t C F) : ∀ k, Rb (.slice la t.length lc) (.slice ca C.length cc) (.slice fa F.length fc) k → k < w.heap.size := by
  rintro k (e | e | e)
  · exact h.l.lt e
  · exact h.c.lt e
  · exact h.f.lt e

theorem ResAt.sees3 (h : ResAt w Q la lc ca cc fa fc t C F) : SeesI (Rb (.slice la t.length lc) (.slice ca C.length cc) (.slice fa F.length fc)) w (.slice la t.length lc) t ∧ SeesI (Rb (.slice la t.length lc) (.slice ca C.length cc) (.slice fa F.length fc)) w (.slice ca C.length cc) C ∧ SeesI (Rb (.slice la t.length lc) (.slice ca C.length cc) (.slice fa F.length fc)) w (.slice fa F.length fc) F :=
  ⟨h.l.sees.mono (fun _ e => .inl e), h.c.sees.mono (fun _ e => .inr (.inl e)), h.f.sees.mono (fun _ e => .inr (.inr e))⟩

end

end Go.Proofs.Ytlmeponoadhheaa
