/-
  Contracts of (*graph.Graph).node, graph.put, SetRef, SetNum, Done.
-/
import Derived.Test.YtlmeponoadhheaaG
import Derived.Deep.QuietTactic
import Derived.BigQuiet
namespace Go.Proofs.Ytlmeponoadhheaa
set_option linter.unusedVariables false
open Go.RowKit

/-- an element of a row is stored -/
theorem RowAt.set {w : World} {e : TypeId} {v : Value} {n : Nat} {xs : List Value} (h : RowAt w e 1 v n xs) (i : Nat) (hi : i < n) (u : Value) :
    ∃ g o cap, v = .slice (some ⟨g, o, none⟩) n cap ∧ RowAt (w.setCell ⟨g, o + i, none⟩ u) e 1 v n (xs.set i u) ∧ w.cell? ⟨g, o + i, none⟩ = xs[i]? ∧ w.frozen? ⟨g, o + i, none⟩ = false := by
  have hs := h.sees
  obtain ⟨hl, h2⟩ := h
  rcases h2 with ⟨_, rfl⟩ | ⟨g, o, cap, cur, rfl, hg, hn, hm, hsz, ht⟩
  · omega
  · have hi2 : i < xs.length := by omega
    refine ⟨g, o, cap, rfl, ⟨by simp [hl], .inr ⟨g, o, cap, _, rfl, heap_setCell_same w g (o + i) _ _ u hg, hn, hm, by simpa using hsz, ?_⟩⟩, ?_, frozen_of_row w g _ _ _ hg⟩
    · rw [Array.toList_setIfInBounds, ← ht, List.drop_set, if_neg (by omega), List.take_set]
      congr 1
      omega
    · rw [cell_of_row w g _ _ _ _ hg, ← ht, List.getElem?_take, if_pos (by omega), List.getElem?_drop, Array.getElem?_toList]

theorem zeroPtr (w : World) : (zeroValue 133).run Try.prog w = .ok (.pointer none) w := by
  have h : ∃ i, Try.prog.info? 133 = some i ∧ i.zero = some (.pointer none) := by
    have e : (Try.prog.info? 133).map (fun i => i.zero) = some (some (.pointer none)) := by kernel_rfl
    rw [Option.map_eq_some_iff] at e
    exact e
  obtain ⟨i, h1, h2⟩ := h
  simp [zeroValue, typeInfo, h1, h2, Result.andThen]

section
variable {w : World} {b : Nat} {O : Nat → Prop} {tv : Value} {L : List GN} {r n : Nat} {pn : Int → Nat} {vr vd : Int → Value} {ow : Nat → Option Int}

theorem GS.cells (h : GS w b O tv L r n pn vr vd ow) : w.cell? ⟨b, 0, none⟩ = some tv ∧ w.cell? ⟨b, 1, none⟩ = some (.map (some r)) :=
  ⟨cell_of_row w b _ _ _ _ h.blk, cell_of_row w b _ _ _ _ h.blk⟩

theorem GS.lookup (h : GS w b O tv L r n pn vr vd ow) (id : Int) :
    (Instr.lookup 128 (.map (some r)) (.int .i64 id) false).run Try.prog w = .ok (.pointer (if id ∈ ids L then some ⟨pn id, 0, none⟩ else none)) w := by
  have := h.map.lookup (P := Try.prog) (t := 128) (z := .pointer none) Try.underlying128 Try.underlying3 (zeroPtr w) id false
  rw [this]
  unfold gmap
  by_cases e : id ∈ ids L <;> simp [e]

set_option maxHeartbeats 400000 in
theorem look_any (h : GS w b O tv L r n pn vr vd ow) (id : Int) :
    Calls Try.prog 99 #[.pointer (some ⟨b, 0, none⟩), .int .i64 id] w fun e w' => e = .returned (.pointer (if id ∈ ids L then some ⟨pn id, 0, none⟩ else none)) ∧ SameW w w' := by
  have hl := h.lookup id
  obtain ⟨k0, k1⟩ := h.cells
  generalize (if id ∈ ids L then some (⟨pn id, 0, none⟩ : Addr) else none) = R at *
  clear h
  go_enter Try.func99, Try.ntmps99
  go_wp2_with (at_lookup; refine wpList_lookup_run rfl _ _ 128 rfl rfl rfl hl ?_)
  go_ret
  exact ⟨rfl, SameW.rfl' _⟩

theorem look_yes (h : GS w b O tv L r n pn vr vd ow) {id : Int} (hid : id ∈ ids L) :
    Calls Try.prog 99 #[.pointer (some ⟨b, 0, none⟩), .int .i64 id] w fun e w' => e = .returned (.pointer (some ⟨pn id, 0, none⟩)) ∧ SameW w w' := by
  have := look_any h id
  rw [if_pos hid] at this
  exact this

theorem look_no (h : GS w b O tv L r n pn vr vd ow) {id : Int} (hid : id ∉ ids L) :
    Calls Try.prog 99 #[.pointer (some ⟨b, 0, none⟩), .int .i64 id] w fun e w' => e = .returned (.pointer none) ∧ SameW w w' := by
  have := look_any h id
  rw [if_neg hid] at this
  exact this

end

set_option maxHeartbeats 400000 in
theorem put_ok (w : World) (v : Value) (xs : List Int) (i : Nat) (x : Int) (h : RowAt w 3 1 v xs.length (xs.map (Value.int .i64))) (hi : i < xs.length) :
    Calls Try.prog 105 #[v, .int .i64 (i : Int), .int .i64 x] w fun e w' => e = .returned (.int .i64 0) ∧ RowAt w' 3 1 v xs.length ((xs.set i x).map (Value.int .i64)) ∧ Ch (fun k => rblk v = some k) w w' := by
  obtain ⟨g, o, cap, rfl, h1, h2, h3⟩ := h.set i hi (.int .i64 x)
  have hc : Hid (RowAt (w.setCell ⟨g, o + i, none⟩ (.int .i64 x)) 3 1 (.slice (some ⟨g, o, none⟩) xs.length cap) xs.length ((xs.set i x).map (Value.int .i64)) ∧ Ch (fun k => rblk (.slice (some ⟨g, o, none⟩) xs.length cap) = some k) w (w.setCell ⟨g, o + i, none⟩ (.int .i64 x))) := by
    refine Lib.hid ⟨?_, Ch.setCell (S := fun k => rblk (.slice (some ⟨g, o, none⟩) xs.length cap) = some k) (Ch.refl _ _) (p := ⟨g, o + i, none⟩) (fun _ => rfl) _⟩
    rw [List.map_set]; exact h1
  obtain ⟨u, hu⟩ : ∃ u, w.cell? ⟨g, o + i, none⟩ = some u := by
    rw [h2]; exact ⟨_, List.getElem?_eq_getElem (by simpa using hi)⟩
  have i1 : (0 : Int) ≤ i := by omega
  have i2 : (i : Int) < xs.length := by omega
  clear h h1 h2
  go_enter Try.func105, Try.ntmps105
  go_wp2_with fail
  go_ret
  exact ⟨rfl, hc.out⟩

set_option maxHeartbeats 400000 in
theorem put_no (w : World) (a : Option Addr) (n c : Nat) (field x : Int) (hf : ¬ (0 ≤ field ∧ field < n)) :
    Calls Try.prog 105 #[.slice a n c, .int .i64 field, .int .i64 x] w fun e w' => e = .returned (.int .i64 1) ∧ SameW w w' := by
  by_cases h0 : field < 0
  · clear hf
    go_enter Try.func105, Try.ntmps105
    go_wp2_with fail
    go_ret
    exact ⟨rfl, SameW.rfl' _⟩
  · have h1 : (n : Int) ≤ field := by omega
    have h2 : 0 ≤ field := by omega
    clear hf h0
    go_enter Try.func105, Try.ntmps105
    go_wp2_with fail
    go_ret
    exact ⟨rfl, SameW.rfl' _⟩

/-! ### what is set -/

def setRefE (L : List GN) (id field to : Int) : Int :=
  match gat L id with
  | none => 7
  | some nd => if 0 ≤ field ∧ field < nd.refs.length then (if to ≠ 0 ∧ to ∉ ids L then 7 else 0) else 1

def setRefL (L : List GN) (id field to : Int) : List GN :=
  if setRefE L id field to = 0 then upd L id (fun nd => { nd with refs := nd.refs.set field.toNat to }) else L

def setNumE (L : List GN) (id field : Int) : Int :=
  match gat L id with
  | none => 7
  | some nd => if 0 ≤ field ∧ field < nd.data.length then 0 else 1

def setNumL (L : List GN) (id field x : Int) : List GN :=
  if setNumE L id field = 0 then upd L id (fun nd => { nd with data := nd.data.set field.toNat x }) else L

def doneE (L : List GN) (id : Int) : Int := if id ∈ ids L then 0 else 7

def doneL (L : List GN) (id : Int) : List GN := upd L id (fun nd => { nd with fin := false })

theorem upd_out {L : List GN} {id : Int} {g : GN → GN} (h : id ∉ ids L) : upd L id g = L := by
  unfold upd
  have : ∀ nd ∈ L, (if nd.id = id then g nd else nd) = nd := fun nd hnd => if_neg (fun e => h (List.mem_map.2 ⟨nd, hnd, e⟩))
  rw [List.map_congr_left this, List.map_id']

section
variable {w : World} {b : Nat} {O : Nat → Prop} {tv : Value} {L : List GN}

set_option maxHeartbeats 1000000 in
theorem setref_any (h : Gr w b O tv L) (id field to : Int) :
    Calls Try.prog 42 #[.pointer (some ⟨b, 0, none⟩), .int .i64 id, .int .i64 field, .int .i64 to] w fun e w' =>
      e = .returned (.int .i64 (setRefE L id field to)) ∧ Gr w' b O tv (setRefL L id field to) ∧ Turn w w' O O := by
  have hg := h
  obtain ⟨r, n, pn, vr, vd, ow, h⟩ := h
  have hend : ∀ w', SameW w w' → setRefE L id field to ≠ 0 → Gr w' b O tv (setRefL L id field to) ∧ Turn w w' O O := by
    intro w' hs he
    obtain rfl : w = w' := hs
    unfold setRefL
    rw [if_neg he]
    exact ⟨hg, Turn.refl _ _⟩
  cases hat : gat L id with
  | none =>
    have e7 : setRefE L id field to = 7 := by unfold setRefE; rw [hat]
    rw [e7] at hend ⊢
    have hl := look_no h (gat_none hat)
    replace hend := Lib.hid hend
    clear h hg e7 hat
    go_enter Try.func42, Try.ntmps42
    go_wp2_with fail
    refine hl.mono ?_
    rintro e w1 ⟨rfl, hs⟩
    obtain rfl : w = w1 := hs
    clear hl
    go_wp2_with fail
    go_ret
    exact ⟨rfl, hend.out _ (SameW.rfl' _) (by omega)⟩
  | some nd =>
    obtain ⟨hnd, rfl⟩ := gat_mem hat
    have hid : nd.id ∈ ids L := List.mem_map.2 ⟨nd, hnd, rfl⟩
    have hl := look_yes h hid
    have hN := h.node nd hnd
    obtain ⟨k0, k1, k2, k3, k4⟩ := hN.cells
    obtain ⟨a, c, ev, hlc, hcm⟩ := hN.refs.isSlice
    by_cases hf : 0 ≤ field ∧ field < nd.refs.length
    · obtain ⟨i, rfl⟩ := Int.eq_ofNat_of_zero_le hf.1
      have hi : i < nd.refs.length := by omega
      have hi2 : (i : Int) < nd.refs.length := by omega
      have hi3 : (0 : Int) ≤ i := by omega
      by_cases hto : to ≠ 0 ∧ to ∉ ids L
      · have e7 : setRefE L nd.id i to = 7 := by unfold setRefE; rw [hat]; simp only; rw [if_pos hf, if_pos hto]
        rw [e7] at hend ⊢
        have hl2 := look_no h hto.2
        have t0 : (to != 0) = true := by simpa using hto.1
        rw [ev] at k2
        replace hend := Lib.hid hend
        clear h hg e7 hat hnd hid hN hf hto
        go_enter Try.func42, Try.ntmps42
        go_wp2_with fail
        refine hl.mono ?_
        rintro e w1 ⟨rfl, hs⟩
        obtain rfl : w = w1 := hs
        clear hl
        go_wp2_with fail
        refine hl2.mono ?_
        rintro e w1 ⟨rfl, hs⟩
        obtain rfl : w = w1 := hs
        clear hl2
        go_wp2_with fail
        go_ret
        exact ⟨rfl, hend.out _ (SameW.rfl' _) (by omega)⟩
      · have e0 : setRefE L nd.id i to = 0 := by unfold setRefE; rw [hat]; simp only; rw [if_pos hf, if_neg hto]
        have hp := put_ok w (vr nd.id) nd.refs i to hN.refs hi
        have hfin : ∀ w', RowAt w' 3 1 (vr nd.id) nd.refs.length ((nd.refs.set i to).map (Value.int .i64)) ∧ Ch (fun k => rblk (vr nd.id) = some k) w w' → Gr w' b O tv (setRefL L nd.id i to) ∧ Turn w w' O O := by
          rintro w' ⟨hr, hc⟩
          unfold setRefL
          rw [if_pos e0]
          have hne : rblk (vr nd.id) ≠ some (pn nd.id) := by
            intro e
            obtain ⟨cur, hcur⟩ := hN.refs.block e
            rw [hN.blk] at hcur; cases hcur
          obtain ⟨h1, h2⟩ := h.turn hnd (g := fun nd => { nd with refs := nd.refs.set (i : Int).toNat to }) (fun _ => rfl) (hc.mono (fun k _ e => .inr (.inl e)))
            ⟨hc.keep hN.blk hne, by simpa using hr, hN.data.keep hc (fun k e1 e2 => hN.apart k e2 e1), hN.apart⟩
          exact ⟨⟨_, _, _, _, _, _, h1⟩, h2⟩
        rw [e0]
        by_cases h0 : to = 0
        · have t0 : (to != 0) = false := by simp [h0]
          rw [ev] at k2 hp
          replace hfin := Lib.hid hfin
          clear h hg e0 hat hnd hid hN hf hto hend h0
          go_enter Try.func42, Try.ntmps42
          go_wp2_with fail
          refine hl.mono ?_
          rintro e w1 ⟨rfl, hs⟩
          obtain rfl : w = w1 := hs
          clear hl
          go_wp2_with fail
          refine hp.mono ?_
          rintro e w1 ⟨rfl, hr⟩
          replace hr := Lib.hid hr
          clear hp
          go_wp2_with fail
          go_ret
          exact ⟨rfl, hfin.out _ (by rw [ev]; exact hr.out)⟩
        · have t0 : (to != 0) = true := by simpa using h0
          have hl2 := look_yes h (id := to) (by
            refine Classical.byContradiction fun e => hto ⟨h0, e⟩)
          rw [ev] at k2 hp
          replace hfin := Lib.hid hfin
          clear h hg e0 hat hnd hid hN hf hto hend h0
          go_enter Try.func42, Try.ntmps42
          go_wp2_with fail
          refine hl.mono ?_
          rintro e w1 ⟨rfl, hs⟩
          obtain rfl : w = w1 := hs
          clear hl
          go_wp2_with fail
          refine hl2.mono ?_
          rintro e w1 ⟨rfl, hs⟩
          obtain rfl : w = w1 := hs
          clear hl2
          go_wp2_with fail
          refine hp.mono ?_
          rintro e w1 ⟨rfl, hr⟩
          replace hr := Lib.hid hr
          clear hp
          go_wp2_with fail
          go_ret
          exact ⟨rfl, hfin.out _ (by rw [ev]; exact hr.out)⟩
    · have e1 : setRefE L nd.id field to = 1 := by unfold setRefE; rw [hat]; simp only; rw [if_neg hf]
      rw [e1] at hend ⊢
      have hp := put_no w a nd.refs.length c field to hf
      rw [ev] at k2
      replace hend := Lib.hid hend
      by_cases h0 : 0 ≤ field
      · have h1 : (nd.refs.length : Int) ≤ field := by omega
        clear h hg e1 hat hnd hid hN hf ev
        go_enter Try.func42, Try.ntmps42
        go_wp2_with fail
        refine hl.mono ?_
        rintro e w1 ⟨rfl, hs⟩
        obtain rfl : w = w1 := hs
        clear hl
        go_wp2_with fail
        refine hp.mono ?_
        rintro e w1 ⟨rfl, hs⟩
        obtain rfl : w = w1 := hs
        clear hp
        go_wp2_with fail
        go_ret
        exact ⟨rfl, hend.out _ (SameW.rfl' _) (by omega)⟩
      · have h1 : field < 0 := by omega
        clear h hg e1 hat hnd hid hN hf ev h0
        go_enter Try.func42, Try.ntmps42
        go_wp2_with fail
        refine hl.mono ?_
        rintro e w1 ⟨rfl, hs⟩
        obtain rfl : w = w1 := hs
        clear hl
        go_wp2_with fail
        refine hp.mono ?_
        rintro e w1 ⟨rfl, hs⟩
        obtain rfl : w = w1 := hs
        clear hp
        go_wp2_with fail
        go_ret
        exact ⟨rfl, hend.out _ (SameW.rfl' _) (by omega)⟩

set_option maxHeartbeats 1000000 in
theorem setnum_any (h : Gr w b O tv L) (id field x : Int) :
    Calls Try.prog 43 #[.pointer (some ⟨b, 0, none⟩), .int .i64 id, .int .i64 field, .int .i64 x] w fun e w' =>
      e = .returned (.int .i64 (setNumE L id field)) ∧ Gr w' b O tv (setNumL L id field x) ∧ Turn w w' O O := by
  have hg := h
  obtain ⟨r, n, pn, vr, vd, ow, h⟩ := h
  have hend : ∀ w', SameW w w' → setNumE L id field ≠ 0 → Gr w' b O tv (setNumL L id field x) ∧ Turn w w' O O := by
    intro w' hs he
    obtain rfl : w = w' := hs
    unfold setNumL
    rw [if_neg he]
    exact ⟨hg, Turn.refl _ _⟩
  cases hat : gat L id with
  | none =>
    have e7 : setNumE L id field = 7 := by unfold setNumE; rw [hat]
    rw [e7] at hend ⊢
    have hl := look_no h (gat_none hat)
    replace hend := Lib.hid hend
    clear h hg e7 hat
    go_enter Try.func43, Try.ntmps43
    go_wp2_with fail
    refine hl.mono ?_
    rintro e w1 ⟨rfl, hs⟩
    obtain rfl : w = w1 := hs
    clear hl
    go_wp2_with fail
    go_ret
    exact ⟨rfl, hend.out _ (SameW.rfl' _) (by omega)⟩
  | some nd =>
    obtain ⟨hnd, rfl⟩ := gat_mem hat
    have hid : nd.id ∈ ids L := List.mem_map.2 ⟨nd, hnd, rfl⟩
    have hl := look_yes h hid
    have hN := h.node nd hnd
    obtain ⟨k0, k1, k2, k3, k4⟩ := hN.cells
    obtain ⟨a, c, ev, hlc, hcm⟩ := hN.data.isSlice
    by_cases hf : 0 ≤ field ∧ field < nd.data.length
    · obtain ⟨i, rfl⟩ := Int.eq_ofNat_of_zero_le hf.1
      have hi : i < nd.data.length := by omega
      have e0 : setNumE L nd.id i = 0 := by unfold setNumE; rw [hat]; simp only; rw [if_pos hf]
      have hp := put_ok w (vd nd.id) nd.data i x hN.data hi
      have hfin : ∀ w', RowAt w' 3 1 (vd nd.id) nd.data.length ((nd.data.set i x).map (Value.int .i64)) ∧ Ch (fun k => rblk (vd nd.id) = some k) w w' → Gr w' b O tv (setNumL L nd.id i x) ∧ Turn w w' O O := by
        rintro w' ⟨hr, hc⟩
        unfold setNumL
        rw [if_pos e0]
        have hne : rblk (vd nd.id) ≠ some (pn nd.id) := by
          intro e
          obtain ⟨cur, hcur⟩ := hN.data.block e
          rw [hN.blk] at hcur; cases hcur
        obtain ⟨h1, h2⟩ := h.turn hnd (g := fun nd => { nd with data := nd.data.set (i : Int).toNat x }) (fun _ => rfl) (hc.mono (fun k _ e => .inr (.inr e)))
          ⟨hc.keep hN.blk hne, hN.refs.keep hc (fun k e1 e2 => hN.apart k e1 e2), by simpa using hr, hN.apart⟩
        exact ⟨⟨_, _, _, _, _, _, h1⟩, h2⟩
      rw [e0]
      rw [ev] at k3 hp
      replace hfin := Lib.hid hfin
      clear h hg e0 hat hnd hid hN hf hend
      go_enter Try.func43, Try.ntmps43
      go_wp2_with fail
      refine hl.mono ?_
      rintro e w1 ⟨rfl, hs⟩
      obtain rfl : w = w1 := hs
      clear hl
      go_wp2_with fail
      refine hp.mono ?_
      rintro e w1 ⟨rfl, hr⟩
      replace hr := Lib.hid hr
      clear hp
      go_wp2_with fail
      go_ret
      exact ⟨rfl, hfin.out _ (by rw [ev]; exact hr.out)⟩
    · have e1 : setNumE L nd.id field = 1 := by unfold setNumE; rw [hat]; simp only; rw [if_neg hf]
      rw [e1] at hend ⊢
      have hp := put_no w a nd.data.length c field x hf
      rw [ev] at k3
      replace hend := Lib.hid hend
      clear h hg e1 hat hnd hid hN hf ev
      go_enter Try.func43, Try.ntmps43
      go_wp2_with fail
      refine hl.mono ?_
      rintro e w1 ⟨rfl, hs⟩
      obtain rfl : w = w1 := hs
      clear hl
      go_wp2_with fail
      refine hp.mono ?_
      rintro e w1 ⟨rfl, hs⟩
      obtain rfl : w = w1 := hs
      clear hp
      go_wp2_with fail
      go_ret
      exact ⟨rfl, hend.out _ (SameW.rfl' _) (by omega)⟩

set_option maxHeartbeats 1000000 in
theorem done_any (h : Gr w b O tv L) (id : Int) :
    Calls Try.prog 48 #[.pointer (some ⟨b, 0, none⟩), .int .i64 id] w fun e w' =>
      e = .returned (.int .i64 (doneE L id)) ∧ Gr w' b O tv (doneL L id) ∧ Turn w w' O O := by
  have hg := h
  obtain ⟨r, n, pn, vr, vd, ow, h⟩ := h
  cases hat : gat L id with
  | none =>
    have e7 : doneE L id = 7 := if_neg (gat_none hat)
    have eL : doneL L id = L := upd_out (gat_none hat)
    rw [e7, eL]
    have hl := look_no h (gat_none hat)
    replace hg := Lib.hid hg
    clear h e7 hat eL
    go_enter Try.func48, Try.ntmps48
    go_wp2_with fail
    refine hl.mono ?_
    rintro e w1 ⟨rfl, hs⟩
    obtain rfl : w = w1 := hs
    clear hl
    go_wp2_with fail
    go_ret
    exact ⟨rfl, hg.out, Turn.refl _ _⟩
  | some nd =>
    obtain ⟨hnd, rfl⟩ := gat_mem hat
    have hid : nd.id ∈ ids L := List.mem_map.2 ⟨nd, hnd, rfl⟩
    have e0 : doneE L nd.id = 0 := if_pos hid
    have hl := look_yes h hid
    have hN := h.node nd hnd
    obtain ⟨k0, k1, k2, k3, k4⟩ := hN.cells
    have hfz := frozen_of_row w (pn nd.id) 4 _ _ hN.blk
    have hfin : Gr (w.setCell ⟨pn nd.id, 4, none⟩ (.bool false)) b O tv (doneL L nd.id) ∧ Turn w (w.setCell ⟨pn nd.id, 4, none⟩ (.bool false)) O O := by
      have cs : Ch (fun k => k = pn nd.id) w (w.setCell ⟨pn nd.id, 4, none⟩ (.bool false)) := Ch.setCell (S := fun k => k = pn nd.id) (Ch.refl _ _) (p := ⟨pn nd.id, 4, none⟩) (fun _ => rfl) _
      have hne : ∀ {v : Value} {xs : List Value} {m : Nat}, RowAt w 3 1 v m xs → ∀ k, rblk v = some k → ¬ k = pn nd.id := by
        rintro v xs m hr k hk rfl
        obtain ⟨cur, hcur⟩ := hr.block hk
        rw [hN.blk] at hcur; cases hcur
      obtain ⟨h1, h2⟩ := h.turn hnd (g := fun nd => { nd with fin := false }) (fun _ => rfl) (cs.mono (fun k _ e => .inl e))
        ⟨by rw [heap_setCell_same w _ 4 _ _ _ hN.blk]; rfl, hN.refs.keep cs (hne hN.refs), hN.data.keep cs (hne hN.data), hN.apart⟩
      exact ⟨⟨_, _, _, _, _, _, h1⟩, h2⟩
    rw [e0]
    replace hfin := Lib.hid hfin
    clear h hg e0 hat hnd hid hN
    go_enter Try.func48, Try.ntmps48
    go_wp2_with fail
    refine hl.mono ?_
    rintro e w1 ⟨rfl, hs⟩
    obtain rfl : w = w1 := hs
    clear hl
    go_wp2_with fail
    go_ret
    exact ⟨rfl, hfin.out⟩

end

end Go.Proofs.Ytlmeponoadhheaa
