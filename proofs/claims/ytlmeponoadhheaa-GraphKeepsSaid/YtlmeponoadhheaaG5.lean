/-
  Contracts of (*graph.Graph).Aim, graph.New.
-/
import Derived.Test.YtlmeponoadhheaaG4
namespace Go.Proofs.Ytlmeponoadhheaa
set_option linter.unusedVariables false
open Go.RowKit

/-- where a node aims, and its kind -/
def gaim (cs : List Cls) (L : List GN) (id : Int) : Int × Int :=
  match gat L id with
  | none => (0, 0)
  | some nd => if holdsC cs nd.cls 0 = true then (0, 0) else (nd.refs.getD 0 0, kindOf cs nd.cls)

theorem zeroCls (w : World) : (zeroValue 40).run Try.prog w = .ok (.agg #[.int .i64 0, .int .i64 0, .int .i64 0, .bool false]) w := by
  obtain ⟨i0, hi, hz0, hz1, hz2⟩ := info_parts Try.info40
  simp [zeroValue, typeInfo, hi, hz0, Result.andThen]

section
variable {w : World} {b : Nat} {O : Nat → Prop} {tv : Value} {L : List GN} {cs : List Cls} {p lo hi : Nat}

set_option maxRecDepth 100000 in
set_option maxHeartbeats 1000000 in
theorem aim_of (h : Gt w b O cs L p lo hi) (id : Int) :
    Calls Try.prog 40 #[.pointer (some ⟨b, 0, none⟩), .int .i64 id] w fun e w' => e = .returned (.tuple #[.int .i64 (gaim cs L id).1, .int .i64 (gaim cs L id).2]) ∧ Ch0 w w' := by
  obtain ⟨hg, ht, hoff, hiw, hwf⟩ := h
  obtain ⟨r, n, pn, vr, vd, ow, h⟩ := hg
  cases hat : gat L id with
  | none =>
    have e0 : gaim cs L id = (0, 0) := by unfold gaim; rw [hat]
    rw [e0]
    have hl := look_no h (gat_none hat)
    clear h hat e0 ht hoff hwf hiw
    go_enter Try.func40, Try.ntmps40
    go_wp2_with fail
    refine hl.mono ?_
    rintro e w1 ⟨rfl, hs⟩
    obtain rfl : w = w1 := hs
    clear hl
    go_wp2_with fail
    go_quiet (fail)
    go_wp2_with fail
    go_ret2
    exact ⟨rfl, (Ch.refl _ _).drewN _⟩
  | some nd =>
    obtain ⟨hnd, rfl⟩ := gat_mem hat
    have hid : nd.id ∈ ids L := List.mem_map.2 ⟨nd, hnd, rfl⟩
    have hl := look_yes h hid
    have hN := h.node nd hnd
    obtain ⟨a, c, ev, hlc, hcm⟩ := hN.refs.isSlice
    have hW := hwf nd hnd
    have HN := Lib.hid hN
    have HT := Lib.hid ht
    obtain ⟨g0, g1⟩ := h.cells
    obtain ⟨k0, k1, k2, k3, k4⟩ := hN.cells
    rw [ev] at k2
    replace ev := Lib.hid ev
    generalize pn nd.id = P at *
    have HH : Hid (∀ w', Ch0 w w' → Calls Try.prog 102 #[.pointer (some ⟨p, 0, none⟩), .int .i64 nd.cls, .int .i64 0] w' fun e w'' => e = .returned (.bool (holdsC cs nd.cls 0)) ∧ Ch0 w' w'') :=
      Lib.hid (fun w' c => holds_any lo hi p cs nd.cls 0 w' (HT.out.keep c (fun _ _ _ e => e)))
    cases hB : holdsC cs nd.cls 0 with
    | true =>
      have e0 : gaim cs L nd.id = (0, 0) := by unfold gaim; rw [hat]; simp [hB]
      rw [e0]
      rw [hB] at HH
      clear h hat e0 ht hoff hwf hiw hN hid hnd hW hB
      go_enter Try.func40, Try.ntmps40
      go_wp2_with fail
      refine hl.mono ?_
      rintro e w1 ⟨rfl, hs⟩
      obtain rfl : w = w1 := hs
      clear hl
      go_wp2_with fail
      go_region_held3 (fun w' => w'.cell? ⟨b, 0, none⟩ = some (.pointer (some ⟨p, 0, none⟩)) ∧ w'.cell? ⟨P, 1, none⟩ = some (.int .i64 nd.cls))
        (first | go_keep | exact ⟨cx.cell (by simpa using g0) (fun e => e), cx.cell (by simpa using k1) (fun e => e)⟩)
        ((go_at_call 102; refine (HH.out _ ?_).mono ?_; exact (Ch.refl _ _).drew; rintro e wx ⟨rfl, cx⟩))
      rename_i hheld
      have HC := Lib.hid ((Ch.refl (fun _ => False) w).drew.trans cx)
      clear hheld cx HH
      go_wp2_with fail
      go_ret2
      exact ⟨rfl, HC.out⟩
    | false =>
      obtain ⟨i, hi1, hi2⟩ : ∃ i : Nat, nd.cls = (i : Int) + 1 ∧ i < cs.length := ⟨(nd.cls - 1).toNat, by have := hW.c1; omega, by have := hW.c2; have := hW.c1; omega⟩
      have hr1 := hW.aim hB
      have e0 : gaim cs L nd.id = (nd.refs.getD 0 0, cs[i].kind) := by
        unfold gaim; rw [hat]; simp only [hB, Bool.false_eq_true, if_false]
        unfold kindOf
        rw [hi1, show ((i : Int) + 1 - 1).toNat = i by omega]
        simp [List.getD_eq_getElem?_getD, hi2]
      rw [e0]
      rw [hB] at HH
      have HO : Hid (∀ w', Ch0 w w' → Calls Try.prog 100 #[.pointer (some ⟨p, 0, none⟩), .int .i64 nd.cls] w' fun e w'' => e = .returned (.tuple #[cs[i].val, .int .i64 0]) ∧ Ch0 w' w'') :=
        Lib.hid (fun w' c => by rw [hi1]; exact of_yes lo hi p cs i hi2 w' (HT.out.keep c (fun _ _ _ e => e)))
      obtain ⟨g, o, c1, -, e1, hcell⟩ := SeesI.cell HN.out.refs.sees (by omega)
      rw [ev.out] at e1
      obtain ⟨rfl, rfl⟩ : a = some ⟨g, o, none⟩ ∧ c = c1 := by simpa using e1
      have hx := hcell 0 (by omega)
      rw [Nat.add_zero] at hx
      have hlen0 : (0 : Int) < nd.refs.length := by omega
      clear h hat e0 ht hoff hwf hiw hN hid hnd hW hB e1 hcell hi1
      unfold Cls.val at HO
      generalize nd.refs.getD 0 0 = X at *
      generalize cs[i].kind = K at *
      generalize cs[i].refs = K1 at *
      generalize cs[i].data = K2 at *
      generalize cs[i].final = K3 at *
      go_enter Try.func40, Try.ntmps40
      go_wp2_with fail
      refine hl.mono ?_
      rintro e w1 ⟨rfl, hs⟩
      obtain rfl : w = w1 := hs
      clear hl
      go_wp2_with fail
      go_region_held3 (fun w' => w'.cell? ⟨b, 0, none⟩ = some (.pointer (some ⟨p, 0, none⟩)) ∧ w'.cell? ⟨P, 1, none⟩ = some (.int .i64 nd.cls))
        (first | go_keep | exact ⟨cx.cell (by simpa using g0) (fun e => e), cx.cell (by simpa using k1) (fun e => e)⟩)
        ((go_at_call 102; refine (HH.out _ ?_).mono ?_; exact (Ch.refl _ _).drew; rintro e wx ⟨rfl, cx⟩))
      rename_i hheld
      have HC := (Ch.refl (fun _ => False) w).drew.trans cx
      replace g0 := HC.cell g0 (fun e => e)
      replace k1 := HC.cell k1 (fun e => e)
      replace k2 := HC.cell k2 (fun e => e)
      replace hx := HC.cell hx (fun e => e)
      replace HC := Lib.hid HC
      clear hheld cx HH
      have hz : (zeroValue 40).run Try.prog wx = .ok (.agg #[.int .i64 0, .int .i64 0, .int .i64 0, .bool false]) wx := zeroCls wx
      have n0 := World.new_ne wx _ g0
      have n1 := World.new_ne wx _ k1
      go_wp2_with fail
      go_region_held3 (fun w' => w'.cell? ⟨b, 0, none⟩ = some (.pointer (some ⟨p, 0, none⟩)) ∧ w'.cell? ⟨P, 1, none⟩ = some (.int .i64 nd.cls))
        (first | go_keep | exact ⟨cy.cell (by first | simpa using g0 | (simp [*])) (fun e => e), cy.cell (by first | simpa using k1 | (simp [*])) (fun e => e)⟩ | exact ⟨(cy.alloc _).cell (by first | simpa using g0 | (simp [*])) (fun e => e), (cy.alloc _).cell (by first | simpa using k1 | (simp [*])) (fun e => e)⟩)
        ((go_at_call 100; refine (HO.out _ ?_).mono ?_; (first | exact HC.out.drew | exact (HC.out.alloc _).drew | exact HC.out.drew.alloc _); rintro e wy ⟨rfl, cy⟩; (first | (have bx : wy.heap[wx.heap.size]? = some (.cells #[.int .i64 0, .int .i64 0, .int .i64 0, .bool false] 40 (0, 0)) := cy.keep (show _ = some (Obj.cells #[.int .i64 0, .int .i64 0, .int .i64 0, .bool false] 40 (0, 0)) from heap_alloc_new wx _) (fun e => e); have b0 : wy.cell? ⟨wx.heap.size, 0, none⟩ = some (.int .i64 0) := cell_of_row wy _ 0 _ _ _ bx; have b1 : wy.cell? ⟨wx.heap.size, 1, none⟩ = some (.int .i64 0) := cell_of_row wy _ 1 _ _ _ bx; have b2 : wy.cell? ⟨wx.heap.size, 2, none⟩ = some (.int .i64 0) := cell_of_row wy _ 2 _ _ _ bx; have b3 : wy.cell? ⟨wx.heap.size, 3, none⟩ = some (.bool false) := cell_of_row wy _ 3 _ _ _ bx; have f0 := frozen_of_row wy _ 0 _ _ bx; have f1 := frozen_of_row wy _ 1 _ _ bx; have f2 := frozen_of_row wy _ 2 _ _ bx; have f3 := frozen_of_row wy _ 3 _ _ bx) | skip)))
      · rename_i hheld
        have cz := (HC.out.drew.trans cy).alloc (.cells #[.int .i64 K, .int .i64 K1, .int .i64 K2, .bool K3] 40)
        have cw : Ch0 wx (wy.alloc (.cells #[.int .i64 K, .int .i64 K1, .int .i64 K2, .bool K3] 40)) := ((Ch.refl (fun _ => False) wx).drew.trans cy).alloc _
        have j2 := cw.cell k2 (fun e => e)
        have jx := cw.cell hx (fun e => e)
        replace cz := Lib.hid cz
        clear hheld cy cw HO k2 hx g0 k1 g1 k0 k3 k4 n0 n1 hz
        go_wp2_with fail
        go_quiet (fail)
        go_wp2_with fail
        go_ret2
        exact ⟨rfl, cz.out.drewN _⟩
      · rename_i hheld
        have cw : Ch0 wx ((((wy.setCell ⟨wx.heap.size, 0, none⟩ (.int .i64 K)).setCell ⟨wx.heap.size, 1, none⟩ (.int .i64 K1)).setCell ⟨wx.heap.size, 2, none⟩ (.int .i64 K2)).setCell ⟨wx.heap.size, 3, none⟩ (.bool K3)) := by
          have c1 : Ch (fun k => k = wx.heap.size) wy ((((wy.setCell ⟨wx.heap.size, 0, none⟩ (.int .i64 K)).setCell ⟨wx.heap.size, 1, none⟩ (.int .i64 K1)).setCell ⟨wx.heap.size, 2, none⟩ (.int .i64 K2)).setCell ⟨wx.heap.size, 3, none⟩ (.bool K3)) :=
            ((((Ch.refl (fun k => k = wx.heap.size) wy).setCell (p := ⟨wx.heap.size, 0, none⟩) (fun _ => rfl) _).setCell (p := ⟨wx.heap.size, 1, none⟩) (fun _ => rfl) _).setCell (p := ⟨wx.heap.size, 2, none⟩) (fun _ => rfl) _).setCell (p := ⟨wx.heap.size, 3, none⟩) (fun _ => rfl) _
          exact (((Ch.refl (fun _ => False) wx).alloc _).drew.trans cy).trans' c1 (fun _ _ e => e) (fun k hk e => by omega)
        have cz := Lib.hid (HC.out.trans cw)
        have j2 := cw.cell k2 (fun e => e)
        have jx := cw.cell hx (fun e => e)
        clear hheld cy cw HO k2 hx g0 k1 g1 k0 k3 k4 n0 n1 hz bx
        go_wp2_with fail
        go_quiet (fail)
        go_wp2_with fail
        go_ret2
        exact ⟨rfl, cz.out.drewN _⟩

end

/-! ### a new graph -/

set_option maxHeartbeats 400000 in
theorem gnew_any (tv : Option Addr) (w : World) :
    Calls Try.prog 31 #[.pointer tv] w fun e w' => ∃ b, e = .returned (.pointer (some ⟨b, 0, none⟩)) ∧ Gr w' b (fun k => w.heap.size ≤ k ∧ k < w'.heap.size) (.pointer tv) [] ∧ Ch0 w w' := by
  have mk1 : (Instr.makeMap 128 none).run Try.prog w = .ok (.map (some w.heap.size)) (w.alloc (.map #[] 0)) := by simp [Instr.makeMap, Result.andThen]
  have hc : Ch0 w ((w.alloc (.map #[] 0)).alloc (.cells #[.pointer tv, .map (some w.heap.size)] 130)) := ((Ch.refl _ _).alloc _).alloc _
  have hm : IM ((w.alloc (.map #[] 0)).alloc (.cells #[.pointer tv, .map (some w.heap.size)] 130)) w.heap.size 0 (gmap [] (fun _ => 0)) :=
    ((IM.made w).keep ((Ch.refl (fun _ => False) _).alloc _) (fun e => e)).congr (fun k => by simp [gmap, ids]) rfl
  have hb := heap_alloc_new (w.alloc (.map #[] 0)) (.cells #[.pointer tv, .map (some w.heap.size)] 130)
  rw [World.size_alloc] at hb
  have HG : Hid (Gr ((w.alloc (.map #[] 0)).alloc (.cells #[.pointer tv, .map (some w.heap.size)] 130)) (w.heap.size + 1) (fun k => w.heap.size ≤ k ∧ k < ((w.alloc (.map #[] 0)).alloc (.cells #[.pointer tv, .map (some w.heap.size)] 130)).heap.size) (.pointer tv) []) := by
    refine Lib.hid ⟨w.heap.size, 0, fun _ => 0, fun _ => .slice none 0 0, fun _ => .slice none 0 0, fun _ => none, hb, ⟨by omega, by simp⟩, ⟨Nat.le_refl _, by simp; omega⟩, fun k hk => hk.2, hm, fun nd h => (by cases h), fun nd h => (by cases h), List.Pairwise.nil⟩
  have HC := Lib.hid hc
  clear hc hm hb
  go_enter Try.func31, Try.ntmps31
  go_wp2_with fail
  go_ret
  exact ⟨_, rfl, HG.out, HC.out⟩

end Go.Proofs.Ytlmeponoadhheaa
