/-
  Contract of (*graph.Graph).Add.
-/
import Derived.Test.YtlmeponoadhheaaG6
namespace Go.Proofs.Ytlmeponoadhheaa
set_option linter.unusedVariables false
open Go.RowKit

theorem rowAt_new {w : World} {g n : Nat} {xs : List Int} (h : w.heap[g]? = some (.cells (ints xs) 3 (0, 0))) (hn : xs.length = n) (hm : n ≤ maxLen) : RowAt w 3 1 (.slice (some ⟨g, 0, none⟩) n n) xs.length (xs.map (Value.int .i64)) := by
  subst hn
  exact ⟨by simp, .inr ⟨g, 0, xs.length, _, rfl, h, Nat.le_refl _, hm, by simp [ints], by simp [ints, List.take_of_length_le]⟩⟩

/-- what a new node's three blocks are, in either order -/
theorem three_blocks (W : World) (A1 A2 A3 : Obj) : (((W.alloc A1).alloc A2).alloc A3).drew.heap[W.heap.size]? = some A1 ∧ (((W.alloc A1).alloc A2).alloc A3).drew.heap[W.heap.size + 1]? = some A2 ∧ (((W.alloc A1).alloc A2).alloc A3).drew.heap[W.heap.size + 1 + 1]? = some A3 := by
  have h1 := heap_alloc_new W A1
  have h2 := heap_alloc_new (W.alloc A1) A2
  have h3 := heap_alloc_new ((W.alloc A1).alloc A2) A3
  rw [World.size_alloc] at h2 h3
  rw [World.size_alloc] at h3
  have c2 : Ch0 (W.alloc A1) (((W.alloc A1).alloc A2).alloc A3).drew := (((Ch.refl _ _).alloc _).alloc _).drew
  have c3 : Ch0 ((W.alloc A1).alloc A2) (((W.alloc A1).alloc A2).alloc A3).drew := ((Ch.refl _ _).alloc _).drew
  exact ⟨c2.keep h1 (fun e => e), c3.keep h2 (fun e => e), h3⟩

section
variable {w : World} {b : Nat} {O : Nat → Prop} {tv : Value} {L : List GN} {cs : List Cls} {p lo hi : Nat}

set_option maxRecDepth 100000 in
set_option maxHeartbeats 2000000 in
theorem add_of (h : Gt w b O cs L p lo hi) (id cls len : Int) (him : id ≤ 9223372036854775807) :
    Calls Try.prog 32 #[.pointer (some ⟨b, 0, none⟩), .int .i64 id, .int .i64 cls, .int .i64 len] w fun e w' => e = .returned (.int .i64 (addE cs L id cls len)) ∧ ∃ O', Gt w' b O' cs (addL cs L id cls len) p lo hi ∧ Turn w w' O O' := by
  have hG := h
  obtain ⟨hg, ht, hoff, hiw, hwf⟩ := h
  obtain ⟨r, n, pn, vr, vd, ow, h⟩ := hg
  obtain ⟨g0, g1⟩ := h.cells
  have hsh := shape_any lo hi p cs cls len w ht
  have hbad : ∀ w', Ch0 w w' → addE cs L id cls len ≠ 0 → ∃ O', Gt w' b O' cs (addL cs L id cls len) p lo hi ∧ Turn w w' O O' := by
    intro w' c he
    unfold addL
    rw [if_neg he]
    exact ⟨O, hG.new c, Turn.of0 O c⟩
  by_cases hs : (shapeC cs cls len).2.2 ≠ 0
  · have e1 : addE cs L id cls len = (shapeC cs cls len).2.2 := by unfold addE; rw [if_pos hs]
    rw [e1] at hbad ⊢
    have t0 : ((shapeC cs cls len).2.2 != 0) = true := by simpa using hs
    replace hbad := Lib.hid hbad
    replace hs := Lib.hid hs
    clear hG ht hoff hiw hwf h e1
    generalize (shapeC cs cls len).2.2 = s3 at *
    generalize (shapeC cs cls len).2.1 = s2 at *
    generalize (shapeC cs cls len).1 = s1 at *
    go_enter Try.func32, Try.ntmps32
    go_wp2_with fail
    refine hsh.mono ?_
    rintro e w1 ⟨rfl, c1⟩
    have HE := Lib.hid (hbad.out _ c1 hs.out)
    clear hsh c1 hbad
    go_wp2_with fail
    go_ret
    exact ⟨rfl, HE.out⟩
  · have hs0 : (shapeC cs cls len).2.2 = 0 := Classical.byContradiction hs
    obtain ⟨b1, b2, b3, b4⟩ := shapeC_bounds ht cls len hs0
    obtain ⟨cl1, cl2⟩ := shapeC_cls hs0
    obtain ⟨i, hi1, hi2⟩ : ∃ i : Nat, cls = (i : Int) + 1 ∧ i < cs.length := ⟨(cls - 1).toNat, by omega, by omega⟩
    rw [hs0] at hsh
    have t0 : ((0 : Int) != 0) = false := rfl
    by_cases h1 : id < 1
    · have e1 : addE cs L id cls len = 1 := by unfold addE; rw [if_neg hs, if_pos (.inl h1)]
      rw [e1] at hbad ⊢
      replace hbad := Lib.hid hbad
      clear hG ht hoff hiw hwf h e1 hs hs0 hi1 b1 b2 b3 b4 cl1 cl2
      generalize (shapeC cs cls len).2.1 = s2 at *
      generalize (shapeC cs cls len).1 = s1 at *
      go_enter Try.func32, Try.ntmps32
      go_wp2_with fail
      refine hsh.mono ?_
      rintro e w1 ⟨rfl, c1⟩
      have HE := Lib.hid (hbad.out _ c1 (by omega))
      clear hsh c1 hbad
      go_wp2_with fail
      go_ret
      exact ⟨rfl, HE.out⟩
    · have h1' : 1 ≤ id := by omega
      by_cases h2 : id ∈ ids L
      · have e1 : addE cs L id cls len = 1 := by unfold addE; rw [if_neg hs, if_pos (.inr h2)]
        rw [e1] at hbad ⊢
        have HL : Hid (∀ w', Ch0 w w' → Calls Try.prog 99 #[.pointer (some ⟨b, 0, none⟩), .int .i64 id] w' fun e w'' => e = .returned (.pointer (some ⟨pn id, 0, none⟩)) ∧ SameW w' w'') := Lib.hid (fun w' c => look_yes (h.keep c (fun _ _ e => e)) h2)
        replace hbad := Lib.hid hbad
        clear hG ht hoff hiw hwf h e1 hs hs0 hi1 b1 b2 b3 b4 cl1 cl2 h1 h2
        generalize (shapeC cs cls len).2.1 = s2 at *
        generalize (shapeC cs cls len).1 = s1 at *
        go_enter Try.func32, Try.ntmps32
        go_wp2_with fail
        refine hsh.mono ?_
        rintro e w1 ⟨rfl, c1⟩
        have hl := HL.out _ c1
        have HE := Lib.hid (hbad.out _ c1 (by omega))
        clear hsh c1 hbad
        go_wp2_with fail
        refine hl.mono ?_
        rintro e w2 ⟨rfl, hs⟩
        obtain rfl : w1 = w2 := hs
        clear hl
        go_wp2_with fail
        go_ret
        exact ⟨rfl, HE.out⟩
      · have e1 : addE cs L id cls len = 0 := by unfold addE; rw [if_neg hs, if_neg (by rintro (e | e); exact h1 e; exact h2 e)]
        rw [e1]
        have HL : Hid (∀ w', Ch0 w w' → Calls Try.prog 99 #[.pointer (some ⟨b, 0, none⟩), .int .i64 id] w' fun e w'' => e = .returned (.pointer none) ∧ SameW w' w'') := Lib.hid (fun w' c => look_no (h.keep c (fun _ _ e => e)) h2)
        have HO : Hid (∀ w', Ch0 w w' → Calls Try.prog 100 #[.pointer (some ⟨p, 0, none⟩), .int .i64 cls] w' fun e w'' => e = .returned (.tuple #[cs[i].val, .int .i64 0]) ∧ Ch0 w' w'') :=
          Lib.hid (fun w' c => by rw [hi1]; exact of_yes lo hi p cs i hi2 w' (ht.keep c (fun _ _ _ e => e)))
        obtain ⟨nr, hnr⟩ := Int.eq_ofNat_of_zero_le b1
        obtain ⟨ndt, hnd⟩ := Int.eq_ofNat_of_zero_le b3
        have hfin : cs[i].final = finalOf cs cls := by
          unfold finalOf
          rw [hi1, show ((i : Int) + 1 - 1).toNat = i by omega]
          simp [List.getD_eq_getElem?_getD, hi2]
        have hLN : addL cs L id cls len = ins ⟨id, cls, List.replicate nr 0, List.replicate ndt 0, cs[i].final⟩ L := by
          unfold addL; rw [if_pos e1, hfin]
          unfold newNode
          rw [hnr, hnd]; rfl
        have hfine : ∀ w3 w' n' P Vr Vd, Ch0 w w3 → Ch (fun k => k = r) w3 w' → NodeAt w' P ⟨id, cls, List.replicate nr 0, List.replicate ndt 0, cs[i].final⟩ Vr Vd → (∀ k, nblk P Vr Vd k → w.heap.size ≤ k) →
            IM w' r n' (iput (gmap L pn) id (.pointer (some ⟨P, 0, none⟩))) → ∃ O', Gt w' b O' cs (addL cs L id cls len) p lo hi ∧ Turn w w' O O' := by
          intro w3 w' n' P Vr Vd c3 c4 hN hf hm
          obtain ⟨q1, q2⟩ := h.add (w' := w') (nd := ⟨id, cls, List.replicate nr 0, List.replicate ndt 0, cs[i].final⟩) h2 (c3.trans' c4 (fun _ _ e => e.elim) (fun _ _ e => e)) hN hf hm
          refine ⟨_, hG.turn (by rw [hLN]; exact q1) q2 (addL_wf ht hwf id cls len him), q2⟩
        have hmap : ∀ w', Ch0 w w' → IM w' r n (gmap L pn) := fun w' c => h.map.keep c (fun e => e)
        rw [hnr, hnd] at hsh
        rw [hnr] at b2
        rw [hnd] at b4
        have hrl : r < w.heap.size := h.map.lt
        have hbr : b ≠ r := h.b_ne_r
        have hbl : b < w.heap.size := lt_of_block h.blk
        replace hfine := Lib.hid hfine
        replace hmap := Lib.hid hmap
        clear hG ht hoff hiw hwf h e1 hs hs0 hi1 b1 b3 cl1 cl2 h1 h2 hnr hnd hfin hLN hbad
        unfold Cls.val at HO
        generalize cs[i].kind = K at *
        generalize cs[i].refs = K1 at *
        generalize cs[i].data = K2 at *
        generalize cs[i].final = K3 at *
        go_enter Try.func32, Try.ntmps32
        go_wp2_with fail
        refine hsh.mono ?_
        rintro e w1 ⟨rfl, c1⟩
        have hl := HL.out _ c1
        replace g0 := c1.cell g0 (fun e => e)
        replace g1 := c1.cell g1 (fun e => e)
        replace c1 := Lib.hid c1
        clear hsh
        go_wp2_with fail
        refine hl.mono ?_
        rintro e w2 ⟨rfl, hs⟩
        obtain rfl : w1 = w2 := hs
        have ho := HO.out _ c1.out
        clear hl HO HL
        go_wp2_with fail
        refine ho.mono ?_
        rintro e w2 ⟨rfl, c2⟩
        have c3 := c1.out.trans c2
        have hz : (zeroValue 40).run Try.prog w2 = .ok (.agg #[.int .i64 0, .int .i64 0, .int .i64 0, .bool false]) w2 := zeroCls w2
        replace g0 := c2.cell g0 (fun e => e)
        replace g1 := c2.cell g1 (fun e => e)
        clear ho c1 c2
        have cb := (Ch.refl (fun _ => False) w2).alloc (.cells #[.int .i64 K, .int .i64 K1, .int .i64 K2, .bool K3] 40)
        have bx := heap_alloc_new w2 (.cells #[.int .i64 K, .int .i64 K1, .int .i64 K2, .bool K3] 40)
        replace g1 := cb.cell g1 (fun e => e)
        have c4 := c3.trans cb
        have k3 : (w2.alloc (.cells #[.int .i64 K, .int .i64 K1, .int .i64 K2, .bool K3] 40)).cell? ⟨w2.heap.size, 3, none⟩ = some (.bool K3) := cell_of_row _ w2.heap.size 3 _ _ _ bx
        go_wp2_with fail
        generalize hB : w2.heap.size = B at *
        generalize w2.alloc (.cells #[.int .i64 K, .int .i64 K1, .int .i64 K2, .bool K3] 40) = W0 at *
        have hBW := lt_of_block bx
        have mkR := fun (w : World) => make_ints w nr (by omega)
        have mkD := fun (w : World) => make_ints w ndt (by omega)
        obtain ⟨CR, hCR⟩ : ∃ CR, CR = ints (List.replicate nr 0) := ⟨_, rfl⟩
        obtain ⟨CD, hCD⟩ : ∃ CD, CD = ints (List.replicate ndt 0) := ⟨_, rfl⟩
        simp only [← hCR] at mkR
        simp only [← hCD] at mkD
        replace hCR := Lib.hid hCR
        replace hCD := Lib.hid hCD
        have hbW : b < W0.heap.size := by have := c4.size; omega
        have m1 : b ≠ W0.heap.size := by omega
        have m2 : b ≠ W0.heap.size + 1 := by omega
        have m3 : b ≠ W0.heap.size + 1 + 1 := by omega
        have m4 : B ≠ W0.heap.size := by omega
        have m5 : B ≠ W0.heap.size + 1 := by omega
        have m6 : B ≠ W0.heap.size + 1 + 1 := by omega
        have key : ∀ A1 A2 A3 : Obj, (((W0.alloc A1).alloc A2).alloc A3).drew.cell? ⟨b, 1, none⟩ = some (.map (some r)) ∧ (((W0.alloc A1).alloc A2).alloc A3).drew.cell? ⟨B, 3, none⟩ = some (.bool K3) := fun A1 A2 A3 =>
          ⟨(((((Ch.refl (fun _ => False) W0).alloc _).alloc _).alloc _).drew).cell g1 (fun e => e), (((((Ch.refl (fun _ => False) W0).alloc _).alloc _).alloc _).drew).cell k3 (fun e => e)⟩
        replace key := Lib.hid key
        have key2 : ∀ A1 A2 : Obj, ((W0.alloc A1).alloc A2).drew.cell? ⟨b, 1, none⟩ = some (.map (some r)) ∧ ((W0.alloc A1).alloc A2).drew.cell? ⟨B, 3, none⟩ = some (.bool K3) := fun A1 A2 =>
          ⟨((((Ch.refl (fun _ => False) W0).alloc _).alloc _).drew).cell g1 (fun e => e), ((((Ch.refl (fun _ => False) W0).alloc _).alloc _).drew).cell k3 (fun e => e)⟩
        replace key2 := Lib.hid key2
        have key1 : ∀ A1 : Obj, (W0.alloc A1).drew.cell? ⟨b, 1, none⟩ = some (.map (some r)) ∧ (W0.alloc A1).drew.cell? ⟨B, 3, none⟩ = some (.bool K3) := fun A1 =>
          ⟨(((Ch.refl (fun _ => False) W0).alloc _).drew).cell g1 (fun e => e), (((Ch.refl (fun _ => False) W0).alloc _).drew).cell k3 (fun e => e)⟩
        replace key1 := Lib.hid key1
        obtain ⟨wA, hupA, hmA, uA, sA⟩ := (hmap.out _ (((c4.alloc (.cells CR 3)).alloc (.cells CD 3)).alloc (.cells #[.int .i64 id, .int .i64 cls, .slice (some ⟨W0.heap.size, 0, none⟩) nr nr, .slice (some ⟨W0.heap.size + 1, 0, none⟩) ndt ndt, .bool K3] 36)).drew).update (P := Try.prog) (t := 128) Try.underlying128 Try.underlying3 id (.pointer (some ⟨W0.heap.size + 1 + 1, 0, none⟩))
        obtain ⟨wB, hupB, hmB, uB, sB⟩ := (hmap.out _ (((c4.alloc (.cells CD 3)).alloc (.cells CR 3)).alloc (.cells #[.int .i64 id, .int .i64 cls, .slice (some ⟨W0.heap.size + 1, 0, none⟩) nr nr, .slice (some ⟨W0.heap.size, 0, none⟩) ndt ndt, .bool K3] 36)).drew).update (P := Try.prog) (t := 128) Try.underlying128 Try.underlying3 id (.pointer (some ⟨W0.heap.size + 1 + 1, 0, none⟩))
        have hBr : B ≠ r := by have := c3.size; omega
        have kA := Lib.hid (And.intro (uA.cell (key.out _ _ _).1 hbr) (uA.cell (key.out _ _ _).2 hBr))
        have kB := Lib.hid (And.intro (uB.cell (key.out _ _ _).1 hbr) (uB.cell (key.out _ _ _).2 hBr))
        replace hmA := Lib.hid hmA
        replace hmB := Lib.hid hmB
        replace uA := Lib.hid uA
        replace uB := Lib.hid uB
        clear sA sB
        go_region_held3 (fun w' => w'.cell? ⟨b, 1, none⟩ = some (.map (some r)) ∧ w'.cell? ⟨B, 3, none⟩ = some (.bool K3)) (first | exact kA.out | exact kB.out | exact key.out _ _ _ | exact key1.out _ | exact key2.out _ _ | go_keep) (fail)
        · have hE : ∃ O', Gt wA b O' cs (addL cs L id cls len) p lo hi ∧ Turn w wA O O' := by
            obtain ⟨t1, t2, t3⟩ := three_blocks W0 (.cells CR 3) (.cells CD 3) (.cells #[.int .i64 id, .int .i64 cls, .slice (some ⟨W0.heap.size, 0, none⟩) nr nr, .slice (some ⟨W0.heap.size + 1, 0, none⟩) ndt ndt, .bool K3] 36)
            have q1 := t1.trans (show _ = some (Obj.cells (ints (List.replicate nr 0)) 3 (0, 0)) by rw [hCR.out])
            have q2 := t2.trans (show _ = some (Obj.cells (ints (List.replicate ndt 0)) 3 (0, 0)) by rw [hCD.out])
            have hW := c4.size
            have e1 := (rowAt_new q1 (n := nr) (by simp) (by unfold maxLen; omega)).keep uA.out (fun k hk e => by simp [rblk] at hk; omega)
            have e2 := (rowAt_new q2 (n := ndt) (by simp) (by unfold maxLen; omega)).keep uA.out (fun k hk e => by simp [rblk] at hk; omega)
            refine hfine.out _ wA _ (W0.heap.size + 1 + 1) _ _ (((c4.alloc _).alloc _).alloc _).drew uA.out ⟨uA.out.keep t3 (by omega), e1, e2, fun k h1 h2 => by simp [rblk] at h1 h2; omega⟩ ?_ hmA.out
            rintro k (e | e | e)
            · omega
            · simp [rblk] at e; omega
            · simp [rblk] at e; omega
          replace hE := Lib.hid hE
          clear kA kB hupA hupB hmA hmB uA uB g0 g1 k3 bx key key1 key2 c3 c4 cb m1 m2 m3 m4 m5 m6 hz mkR mkD
          go_wp2_with fail
          go_ret
          exact ⟨rfl, hE.out⟩
        · have hE : ∃ O', Gt wB b O' cs (addL cs L id cls len) p lo hi ∧ Turn w wB O O' := by
            obtain ⟨t1, t2, t3⟩ := three_blocks W0 (.cells CD 3) (.cells CR 3) (.cells #[.int .i64 id, .int .i64 cls, .slice (some ⟨W0.heap.size + 1, 0, none⟩) nr nr, .slice (some ⟨W0.heap.size, 0, none⟩) ndt ndt, .bool K3] 36)
            have q1 := t2.trans (show _ = some (Obj.cells (ints (List.replicate nr 0)) 3 (0, 0)) by rw [hCR.out])
            have q2 := t1.trans (show _ = some (Obj.cells (ints (List.replicate ndt 0)) 3 (0, 0)) by rw [hCD.out])
            have hW := c4.size
            have e1 := (rowAt_new q1 (n := nr) (by simp) (by unfold maxLen; omega)).keep uB.out (fun k hk e => by simp [rblk] at hk; omega)
            have e2 := (rowAt_new q2 (n := ndt) (by simp) (by unfold maxLen; omega)).keep uB.out (fun k hk e => by simp [rblk] at hk; omega)
            refine hfine.out _ wB _ (W0.heap.size + 1 + 1) _ _ (((c4.alloc _).alloc _).alloc _).drew uB.out ⟨uB.out.keep t3 (by omega), e1, e2, fun k h1 h2 => by simp [rblk] at h1 h2; omega⟩ ?_ hmB.out
            rintro k (e | e | e)
            · omega
            · simp [rblk] at e; omega
            · simp [rblk] at e; omega
          replace hE := Lib.hid hE
          clear kA kB hupA hupB hmA hmB uA uB g0 g1 k3 bx key key1 key2 c3 c4 cb m1 m2 m3 m4 m5 m6 hz mkR mkD
          go_wp2_with fail
          go_ret
          exact ⟨rfl, hE.out⟩

end

end Go.Proofs.Ytlmeponoadhheaa
