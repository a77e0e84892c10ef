/-
  Texts of this seat, laid one behind the other: G, G2, G3, G4, G5, G6, G7, K, K2, Shelf, Keys, G9, GOf, RSame.
-/
import Derived.Test.YtlmeponoadhheaaGen
import Derived.Test.YtlmeponoadhheaaCls
import Derived.Deep.QuietTactic
import Derived.BigQuiet
import Derived.Deep.RegionHeld3
import Derived.Deep.DrawnRows
import Derived.Shelf.SlIterI.Nil
import Derived.Shelf.SortM.Plain
import Derived.Shelf.SortM.SortNone
/-
  A graph in memory: what its nodes are, how they lie; how a turn of one node turns it.
-/
namespace Go.Proofs.Ytlmeponoadhheaa
set_option linter.unusedVariables false
open Go.RowKit

/-- a node -/
structure GN where
  id : Int
  cls : Int
  refs : List Int
  data : List Int
  fin : Bool
deriving DecidableEq

instance : Inhabited GN := ⟨⟨0, 0, [], [], false⟩⟩

def ids (L : List GN) : List Int := L.map GN.id

/-- the node of a name -/
def gat (L : List GN) (id : Int) : Option GN := L.find? (fun nd => nd.id == id)

theorem gat_mem {L : List GN} {id : Int} {nd : GN} (h : gat L id = some nd) : nd ∈ L ∧ nd.id = id := by
  unfold gat at h
  exact ⟨List.mem_of_find?_eq_some h, by simpa using List.find?_some h⟩

theorem gat_none {L : List GN} {id : Int} (h : gat L id = none) : id ∉ ids L := by
  unfold gat at h
  rw [List.find?_eq_none] at h
  intro hm
  obtain ⟨nd, hnd, rfl⟩ := List.mem_map.1 hm
  exact h nd hnd (by simp)

theorem gat_isSome (L : List GN) (id : Int) : (gat L id).isSome = decide (id ∈ ids L) := by
  cases h : gat L id with
  | none => simp [gat_none h]
  | some nd =>
    obtain ⟨h1, rfl⟩ := gat_mem h
    simp [ids, List.mem_map]
    exact ⟨nd, h1, rfl⟩

/-- names rise -/
def Rising (L : List GN) : Prop := L.Pairwise (fun a b => a.id < b.id)

theorem Rising.inj {L : List GN} (h : Rising L) {a b : GN} (ha : a ∈ L) (hb : b ∈ L) (e : a.id = b.id) : a = b := by
  unfold Rising at h
  induction L with
  | nil => cases ha
  | cons c L ih =>
    rw [List.pairwise_cons] at h
    rcases List.mem_cons.1 ha with ea | ha'
    · rcases List.mem_cons.1 hb with eb | hb'
      · rw [ea, eb]
      · have := h.1 b hb'; rw [ea] at e; omega
    · rcases List.mem_cons.1 hb with eb | hb'
      · have := h.1 a ha'; rw [eb] at e; omega
      · exact ih h.2 ha' hb'

theorem Rising.at {L : List GN} (h : Rising L) {a : GN} (ha : a ∈ L) : gat L a.id = some a := by
  cases e : gat L a.id with
  | none => exact absurd (List.mem_map.2 ⟨a, ha, rfl⟩) (gat_none e)
  | some b =>
    obtain ⟨h1, h2⟩ := gat_mem e
    rw [h.inj h1 ha h2]

/-- one node is other; its name stays -/
def upd (L : List GN) (id : Int) (g : GN → GN) : List GN := L.map (fun nd => if nd.id = id then g nd else nd)

theorem upd_ids (L : List GN) (id : Int) (g : GN → GN) (hg : ∀ nd, (g nd).id = nd.id) : ids (upd L id g) = ids L := by
  unfold ids upd
  rw [List.map_map]
  apply List.map_congr_left
  intro nd _
  simp only [Function.comp]
  split <;> simp [hg]

theorem rising_of_ids {L L' : List GN} (h : Rising L) (e : ids L' = ids L) : Rising L' := by
  unfold Rising at *
  have h1 : (ids L).Pairwise (· < ·) := by unfold ids; rw [List.pairwise_map]; exact h
  rw [← e] at h1
  unfold ids at h1
  rw [List.pairwise_map] at h1
  exact h1

/-- a node in memory, at block p -/
structure NodeAt (w : World) (p : Nat) (nd : GN) (vr vd : Value) : Prop where
  blk : w.heap[p]? = some (.cells #[.int .i64 nd.id, .int .i64 nd.cls, vr, vd, .bool nd.fin] 36 (0, 0))
  refs : RowAt w 3 1 vr nd.refs.length (nd.refs.map (Value.int .i64))
  data : RowAt w 3 1 vd nd.data.length (nd.data.map (Value.int .i64))
  apart : ∀ k, rblk vr = some k → rblk vd ≠ some k

/-- the blocks of a node -/
def nblk (p : Nat) (vr vd : Value) (k : Nat) : Prop := k = p ∨ rblk vr = some k ∨ rblk vd = some k

theorem NodeAt.keep {w w' : World} {p : Nat} {nd : GN} {vr vd : Value} (h : NodeAt w p nd vr vd) {S : Nat → Prop} (c : Ch S w w') (hS : ∀ k, nblk p vr vd k → ¬ S k) : NodeAt w' p nd vr vd where
  blk := c.keep h.blk (hS p (.inl rfl))
  refs := h.refs.keep c (fun k hk => hS k (.inr (.inl hk)))
  data := h.data.keep c (fun k hk => hS k (.inr (.inr hk)))
  apart := h.apart

theorem NodeAt.lt {w : World} {p : Nat} {nd : GN} {vr vd : Value} (h : NodeAt w p nd vr vd) {k : Nat} (hk : nblk p vr vd k) : k < w.heap.size := by
  rcases hk with rfl | hk | hk
  · exact lt_of_block h.blk
  · exact h.refs.lt hk
  · exact h.data.lt hk

theorem NodeAt.cells {w : World} {p : Nat} {nd : GN} {vr vd : Value} (h : NodeAt w p nd vr vd) :
    w.cell? ⟨p, 0, none⟩ = some (.int .i64 nd.id) ∧ w.cell? ⟨p, 1, none⟩ = some (.int .i64 nd.cls) ∧ w.cell? ⟨p, 2, none⟩ = some vr ∧ w.cell? ⟨p, 3, none⟩ = some vd ∧ w.cell? ⟨p, 4, none⟩ = some (.bool nd.fin) :=
  ⟨cell_of_row w p _ _ _ _ h.blk, cell_of_row w p _ _ _ _ h.blk, cell_of_row w p _ _ _ _ h.blk, cell_of_row w p _ _ _ _ h.blk, cell_of_row w p _ _ _ _ h.blk⟩

/-- the map of a graph -/
def gmap (L : List GN) (pn : Int → Nat) : Int → Option Value := fun k => if k ∈ ids L then some (.pointer (some ⟨pn k, 0, none⟩)) else none

/-- A graph in block b, its table tv, its nodes L; its own blocks O. -/
structure GS (w : World) (b : Nat) (O : Nat → Prop) (tv : Value) (L : List GN) (r n : Nat) (pn : Int → Nat) (vr vd : Int → Value) (ow : Nat → Option Int) : Prop where
  blk : w.heap[b]? = some (.cells #[tv, .map (some r)] 130 (0, 0))
  ownB : O b
  ownR : O r
  small : ∀ k, O k → k < w.heap.size
  map : IM w r n (gmap L pn)
  node : ∀ nd ∈ L, NodeAt w (pn nd.id) nd (vr nd.id) (vd nd.id)
  ownN : ∀ nd ∈ L, ∀ k, nblk (pn nd.id) (vr nd.id) (vd nd.id) k → O k ∧ ow k = some nd.id
  rise : Rising L

def Gr (w : World) (b : Nat) (O : Nat → Prop) (tv : Value) (L : List GN) : Prop := ∃ r n pn vr vd ow, GS w b O tv L r n pn vr vd ow

section
variable {w w' : World} {b : Nat} {O : Nat → Prop} {tv : Value} {L : List GN} {r n : Nat} {pn : Int → Nat} {vr vd : Int → Value} {ow : Nat → Option Int}

theorem GS.keep (h : GS w b O tv L r n pn vr vd ow) {S : Nat → Prop} (c : Ch S w w') (hn : ∀ k, O k → ¬ S k) : GS w' b O tv L r n pn vr vd ow where
  blk := c.keep h.blk (hn b h.ownB)
  ownB := h.ownB
  ownR := h.ownR
  small := fun k hk => Nat.lt_of_lt_of_le (h.small k hk) c.size
  map := h.map.keep c (hn r h.ownR)
  node := fun nd hnd => (h.node nd hnd).keep c (fun k hk => hn k (h.ownN nd hnd k hk).1)
  ownN := h.ownN
  rise := h.rise

theorem Gr.keep (h : Gr w b O tv L) {S : Nat → Prop} (c : Ch S w w') (hn : ∀ k, O k → ¬ S k) : Gr w' b O tv L := by
  obtain ⟨r, n, pn, vr, vd, ow, h⟩ := h
  exact ⟨r, n, pn, vr, vd, ow, h.keep c hn⟩

theorem Gr.small (h : Gr w b O tv L) : ∀ k, O k → k < w.heap.size := by
  obtain ⟨r, n, pn, vr, vd, ow, h⟩ := h
  exact h.small

theorem Gr.rise (h : Gr w b O tv L) : Rising L := by
  obtain ⟨r, n, pn, vr, vd, ow, h⟩ := h
  exact h.rise

/-- a node's blocks are neither the graph's own nor its map's -/
theorem GS.ne_b (h : GS w b O tv L r n pn vr vd ow) {nd : GN} (hnd : nd ∈ L) {k : Nat} (hk : nblk (pn nd.id) (vr nd.id) (vd nd.id) k) : k ≠ b := by
  rintro rfl
  have hN := h.node nd hnd
  rcases hk with e | e | e
  · have := hN.blk; rw [← e, h.blk] at this; cases this
  · obtain ⟨cur, hc⟩ := hN.refs.block e; rw [h.blk] at hc; cases hc
  · obtain ⟨cur, hc⟩ := hN.data.block e; rw [h.blk] at hc; cases hc

theorem GS.ne_r (h : GS w b O tv L r n pn vr vd ow) {nd : GN} (hnd : nd ∈ L) {k : Nat} (hk : nblk (pn nd.id) (vr nd.id) (vd nd.id) k) : k ≠ r := by
  rintro rfl
  obtain ⟨es, clock, he, _⟩ := h.map
  have hN := h.node nd hnd
  rcases hk with e | e | e
  · have := hN.blk; rw [← e, he] at this; cases this
  · obtain ⟨cur, hc⟩ := hN.refs.block e; rw [he] at hc; cases hc
  · obtain ⟨cur, hc⟩ := hN.data.block e; rw [he] at hc; cases hc

theorem GS.b_ne_r (h : GS w b O tv L r n pn vr vd ow) : b ≠ r := by
  rintro rfl
  obtain ⟨es, clock, he, _⟩ := h.map
  rw [h.blk] at he; cases he

/-- another node's blocks -/
theorem GS.other (h : GS w b O tv L r n pn vr vd ow) {nd nd' : GN} (hnd : nd ∈ L) (hnd' : nd' ∈ L) (hne : nd'.id ≠ nd.id) {k : Nat} (hk : nblk (pn nd.id) (vr nd.id) (vd nd.id) k) : ¬ nblk (pn nd'.id) (vr nd'.id) (vd nd'.id) k := by
  intro hk'
  have h1 := (h.ownN nd hnd k hk).2
  have h2 := (h.ownN nd' hnd' k hk').2
  rw [h1] at h2
  exact hne (Option.some.inj h2).symm

/-- One node is other, in place. -/
theorem GS.turn (h : GS w b O tv L r n pn vr vd ow) {nd : GN} (hnd : nd ∈ L) {g : GN → GN} (hg : ∀ nd, (g nd).id = nd.id) (c : Ch (fun k => nblk (pn nd.id) (vr nd.id) (vd nd.id) k) w w')
    (hN : NodeAt w' (pn nd.id) (g nd) (vr nd.id) (vd nd.id)) : GS w' b O tv (upd L nd.id g) r n pn vr vd ow ∧ Turn w w' O O := by
  have hm : ∀ nd', nd' ∈ upd L nd.id g → (nd' = g nd) ∨ (nd' ∈ L ∧ nd'.id ≠ nd.id) := by
    intro nd' h'
    obtain ⟨x, hx, rfl⟩ := List.mem_map.1 h'
    by_cases e : x.id = nd.id
    · rw [if_pos e]; left; rw [h.rise.inj hx hnd e]
    · rw [if_neg e]; exact .inr ⟨hx, e⟩
  refine ⟨⟨c.keep h.blk (fun e => h.ne_b hnd e rfl), h.ownB, h.ownR, fun k hk => Nat.lt_of_lt_of_le (h.small k hk) c.size, ?_, ?_, ?_, rising_of_ids h.rise (upd_ids L nd.id g hg)⟩, ⟨c.mono (fun k _ e => (h.ownN nd hnd k e).1), fun k hk => .inl hk⟩⟩
  · refine (h.map.keep c (fun e => h.ne_r hnd e rfl)).congr (fun k => ?_) rfl
    unfold gmap
    rw [upd_ids L nd.id g hg]
  · intro nd' h'
    rcases hm nd' h' with rfl | ⟨h1, h2⟩
    · rw [hg]; exact hN
    · exact (h.node nd' h1).keep c (fun k hk e => h.other hnd h1 h2 e hk)
  · intro nd' h'
    rcases hm nd' h' with rfl | ⟨h1, h2⟩
    · rw [hg]; exact h.ownN nd hnd
    · exact h.ownN nd' h1

end

end Go.Proofs.Ytlmeponoadhheaa

/-
  Contracts of (*graph.Graph).node, graph.put, SetRef, SetNum, Done.
-/
namespace Go.Proofs.Ytlmeponoadhheaa
set_option linter.unusedVariables false
open Go.RowKit

/-- an element of a row is stored -/
theorem RowAt.set {w : World} {e : TypeId} {v : Value} {n : Nat} {xs : List Value} (h : RowAt w e 1 v n xs) (i : Nat) (hi : i < n) (u : Value) :
    ∃ g o cap, v = .slice (some ⟨g, o, none⟩) n cap ∧ RowAt (w.setCell ⟨g, o + i, none⟩ u) e 1 v n (xs.set i u) ∧ w.cell? ⟨g, o + i, none⟩ = xs[i]? ∧ w.frozen? ⟨g, o + i, none⟩ = false := by
  have hs := h.sees
  obtain ⟨hl, h2⟩ := h
  rcases h2 with ⟨_, rfl⟩ | ⟨g, o, cap, cur, rfl, hg, hn, hm, hsz, ht⟩
  · omega
  · have hi2 : i < xs.length := by omega
    refine ⟨g, o, cap, rfl, ⟨by simp [hl], .inr ⟨g, o, cap, _, rfl, heap_setCell_same w g (o + i) _ _ u hg, hn, hm, by simpa using hsz, ?_⟩⟩, ?_, frozen_of_row w g _ _ _ hg⟩
    · rw [Array.toList_setIfInBounds, ← ht, List.drop_set, if_neg (by omega), List.take_set]
      congr 1
      omega
    · rw [cell_of_row w g _ _ _ _ hg, ← ht, List.getElem?_take, if_pos (by omega), List.getElem?_drop, Array.getElem?_toList]

theorem zeroPtr (w : World) : (zeroValue 133).run Try.prog w = .ok (.pointer none) w := by
  have h : ∃ i, Try.prog.info? 133 = some i ∧ i.zero = some (.pointer none) := by
    have e : (Try.prog.info? 133).map (fun i => i.zero) = some (some (.pointer none)) := by kernel_rfl
    rw [Option.map_eq_some_iff] at e
    exact e
  obtain ⟨i, h1, h2⟩ := h
  simp [zeroValue, typeInfo, h1, h2, Result.andThen]

section
variable {w : World} {b : Nat} {O : Nat → Prop} {tv : Value} {L : List GN} {r n : Nat} {pn : Int → Nat} {vr vd : Int → Value} {ow : Nat → Option Int}

theorem GS.cells (h : GS w b O tv L r n pn vr vd ow) : w.cell? ⟨b, 0, none⟩ = some tv ∧ w.cell? ⟨b, 1, none⟩ = some (.map (some r)) :=
  ⟨cell_of_row w b _ _ _ _ h.blk, cell_of_row w b _ _ _ _ h.blk⟩

theorem GS.lookup (h : GS w b O tv L r n pn vr vd ow) (id : Int) :
    (Instr.lookup 128 (.map (some r)) (.int .i64 id) false).run Try.prog w = .ok (.pointer (if id ∈ ids L then some ⟨pn id, 0, none⟩ else none)) w := by
  have := h.map.lookup (P := Try.prog) (t := 128) (z := .pointer none) Try.underlying128 Try.underlying3 (zeroPtr w) id false
  rw [this]
  unfold gmap
  by_cases e : id ∈ ids L <;> simp [e]

set_option maxHeartbeats 400000 in
theorem look_any (h : GS w b O tv L r n pn vr vd ow) (id : Int) :
    Calls Try.prog 99 #[.pointer (some ⟨b, 0, none⟩), .int .i64 id] w fun e w' => e = .returned (.pointer (if id ∈ ids L then some ⟨pn id, 0, none⟩ else none)) ∧ SameW w w' := by
  have hl := h.lookup id
  obtain ⟨k0, k1⟩ := h.cells
  generalize (if id ∈ ids L then some (⟨pn id, 0, none⟩ : Addr) else none) = R at *
  clear h
  go_enter Try.func99, Try.ntmps99
  go_wp2_with (at_lookup; refine wpList_lookup_run rfl _ _ 128 rfl rfl rfl hl ?_)
  go_ret
  exact ⟨rfl, SameW.rfl' _⟩

theorem look_yes (h : GS w b O tv L r n pn vr vd ow) {id : Int} (hid : id ∈ ids L) :
    Calls Try.prog 99 #[.pointer (some ⟨b, 0, none⟩), .int .i64 id] w fun e w' => e = .returned (.pointer (some ⟨pn id, 0, none⟩)) ∧ SameW w w' := by
  have := look_any h id
  rw [if_pos hid] at this
  exact this

theorem look_no (h : GS w b O tv L r n pn vr vd ow) {id : Int} (hid : id ∉ ids L) :
    Calls Try.prog 99 #[.pointer (some ⟨b, 0, none⟩), .int .i64 id] w fun e w' => e = .returned (.pointer none) ∧ SameW w w' := by
  have := look_any h id
  rw [if_neg hid] at this
  exact this

end

set_option maxHeartbeats 400000 in
theorem put_ok (w : World) (v : Value) (xs : List Int) (i : Nat) (x : Int) (h : RowAt w 3 1 v xs.length (xs.map (Value.int .i64))) (hi : i < xs.length) :
    Calls Try.prog 105 #[v, .int .i64 (i : Int), .int .i64 x] w fun e w' => e = .returned (.int .i64 0) ∧ RowAt w' 3 1 v xs.length ((xs.set i x).map (Value.int .i64)) ∧ Ch (fun k => rblk v = some k) w w' := by
  obtain ⟨g, o, cap, rfl, h1, h2, h3⟩ := h.set i hi (.int .i64 x)
  have hc : Hid (RowAt (w.setCell ⟨g, o + i, none⟩ (.int .i64 x)) 3 1 (.slice (some ⟨g, o, none⟩) xs.length cap) xs.length ((xs.set i x).map (Value.int .i64)) ∧ Ch (fun k => rblk (.slice (some ⟨g, o, none⟩) xs.length cap) = some k) w (w.setCell ⟨g, o + i, none⟩ (.int .i64 x))) := by
    refine Lib.hid ⟨?_, Ch.setCell (S := fun k => rblk (.slice (some ⟨g, o, none⟩) xs.length cap) = some k) (Ch.refl _ _) (p := ⟨g, o + i, none⟩) (fun _ => rfl) _⟩
    rw [List.map_set]; exact h1
  obtain ⟨u, hu⟩ : ∃ u, w.cell? ⟨g, o + i, none⟩ = some u := by
    rw [h2]; exact ⟨_, List.getElem?_eq_getElem (by simpa using hi)⟩
  have i1 : (0 : Int) ≤ i := by omega
  have i2 : (i : Int) < xs.length := by omega
  clear h h1 h2
  go_enter Try.func105, Try.ntmps105
  go_wp2_with fail
  go_ret
  exact ⟨rfl, hc.out⟩

set_option maxHeartbeats 400000 in
theorem put_no (w : World) (a : Option Addr) (n c : Nat) (field x : Int) (hf : ¬ (0 ≤ field ∧ field < n)) :
    Calls Try.prog 105 #[.slice a n c, .int .i64 field, .int .i64 x] w fun e w' => e = .returned (.int .i64 1) ∧ SameW w w' := by
  by_cases h0 : field < 0
  · clear hf
    go_enter Try.func105, Try.ntmps105
    go_wp2_with fail
    go_ret
    exact ⟨rfl, SameW.rfl' _⟩
  · have h1 : (n : Int) ≤ field := by omega
    have h2 : 0 ≤ field := by omega
    clear hf h0
    go_enter Try.func105, Try.ntmps105
    go_wp2_with fail
    go_ret
    exact ⟨rfl, SameW.rfl' _⟩

/-! ### what is set -/

def setRefE (L : List GN) (id field to : Int) : Int :=
  match gat L id with
  | none => 7
  | some nd => if 0 ≤ field ∧ field < nd.refs.length then (if to ≠ 0 ∧ to ∉ ids L then 7 else 0) else 1

def setRefL (L : List GN) (id field to : Int) : List GN :=
  if setRefE L id field to = 0 then upd L id (fun nd => { nd with refs := nd.refs.set field.toNat to }) else L

def setNumE (L : List GN) (id field : Int) : Int :=
  match gat L id with
  | none => 7
  | some nd => if 0 ≤ field ∧ field < nd.data.length then 0 else 1

def setNumL (L : List GN) (id field x : Int) : List GN :=
  if setNumE L id field = 0 then upd L id (fun nd => { nd with data := nd.data.set field.toNat x }) else L

def doneE (L : List GN) (id : Int) : Int := if id ∈ ids L then 0 else 7

def doneL (L : List GN) (id : Int) : List GN := upd L id (fun nd => { nd with fin := false })

theorem upd_out {L : List GN} {id : Int} {g : GN → GN} (h : id ∉ ids L) : upd L id g = L := by
  unfold upd
  have : ∀ nd ∈ L, (if nd.id = id then g nd else nd) = nd := fun nd hnd => if_neg (fun e => h (List.mem_map.2 ⟨nd, hnd, e⟩))
  rw [List.map_congr_left this, List.map_id']

section
variable {w : World} {b : Nat} {O : Nat → Prop} {tv : Value} {L : List GN}

set_option maxHeartbeats 1000000 in
theorem setref_any (h : Gr w b O tv L) (id field to : Int) :
    Calls Try.prog 42 #[.pointer (some ⟨b, 0, none⟩), .int .i64 id, .int .i64 field, .int .i64 to] w fun e w' =>
      e = .returned (.int .i64 (setRefE L id field to)) ∧ Gr w' b O tv (setRefL L id field to) ∧ Turn w w' O O := by
  have hg := h
  obtain ⟨r, n, pn, vr, vd, ow, h⟩ := h
  have hend : ∀ w', SameW w w' → setRefE L id field to ≠ 0 → Gr w' b O tv (setRefL L id field to) ∧ Turn w w' O O := by
    intro w' hs he
    obtain rfl : w = w' := hs
    unfold setRefL
    rw [if_neg he]
    exact ⟨hg, Turn.refl _ _⟩
  cases hat : gat L id with
  | none =>
    have e7 : setRefE L id field to = 7 := by unfold setRefE; rw [hat]
    rw [e7] at hend ⊢
    have hl := look_no h (gat_none hat)
    replace hend := Lib.hid hend
    clear h hg e7 hat
    go_enter Try.func42, Try.ntmps42
    go_wp2_with fail
    refine hl.mono ?_
    rintro e w1 ⟨rfl, hs⟩
    obtain rfl : w = w1 := hs
    clear hl
    go_wp2_with fail
    go_ret
    exact ⟨rfl, hend.out _ (SameW.rfl' _) (by omega)⟩
  | some nd =>
    obtain ⟨hnd, rfl⟩ := gat_mem hat
    have hid : nd.id ∈ ids L := List.mem_map.2 ⟨nd, hnd, rfl⟩
    have hl := look_yes h hid
    have hN := h.node nd hnd
    obtain ⟨k0, k1, k2, k3, k4⟩ := hN.cells
    obtain ⟨a, c, ev, hlc, hcm⟩ := hN.refs.isSlice
    by_cases hf : 0 ≤ field ∧ field < nd.refs.length
    · obtain ⟨i, rfl⟩ := Int.eq_ofNat_of_zero_le hf.1
      have hi : i < nd.refs.length := by omega
      have hi2 : (i : Int) < nd.refs.length := by omega
      have hi3 : (0 : Int) ≤ i := by omega
      by_cases hto : to ≠ 0 ∧ to ∉ ids L
      · have e7 : setRefE L nd.id i to = 7 := by unfold setRefE; rw [hat]; simp only; rw [if_pos hf, if_pos hto]
        rw [e7] at hend ⊢
        have hl2 := look_no h hto.2
        have t0 : (to != 0) = true := by simpa using hto.1
        rw [ev] at k2
        replace hend := Lib.hid hend
        clear h hg e7 hat hnd hid hN hf hto
        go_enter Try.func42, Try.ntmps42
        go_wp2_with fail
        refine hl.mono ?_
        rintro e w1 ⟨rfl, hs⟩
        obtain rfl : w = w1 := hs
        clear hl
        go_wp2_with fail
        refine hl2.mono ?_
        rintro e w1 ⟨rfl, hs⟩
        obtain rfl : w = w1 := hs
        clear hl2
        go_wp2_with fail
        go_ret
        exact ⟨rfl, hend.out _ (SameW.rfl' _) (by omega)⟩
      · have e0 : setRefE L nd.id i to = 0 := by unfold setRefE; rw [hat]; simp only; rw [if_pos hf, if_neg hto]
        have hp := put_ok w (vr nd.id) nd.refs i to hN.refs hi
        have hfin : ∀ w', RowAt w' 3 1 (vr nd.id) nd.refs.length ((nd.refs.set i to).map (Value.int .i64)) ∧ Ch (fun k => rblk (vr nd.id) = some k) w w' → Gr w' b O tv (setRefL L nd.id i to) ∧ Turn w w' O O := by
          rintro w' ⟨hr, hc⟩
          unfold setRefL
          rw [if_pos e0]
          have hne : rblk (vr nd.id) ≠ some (pn nd.id) := by
            intro e
            obtain ⟨cur, hcur⟩ := hN.refs.block e
            rw [hN.blk] at hcur; cases hcur
          obtain ⟨h1, h2⟩ := h.turn hnd (g := fun nd => { nd with refs := nd.refs.set (i : Int).toNat to }) (fun _ => rfl) (hc.mono (fun k _ e => .inr (.inl e)))
            ⟨hc.keep hN.blk hne, by simpa using hr, hN.data.keep hc (fun k e1 e2 => hN.apart k e2 e1), hN.apart⟩
          exact ⟨⟨_, _, _, _, _, _, h1⟩, h2⟩
        rw [e0]
        by_cases h0 : to = 0
        · have t0 : (to != 0) = false := by simp [h0]
          rw [ev] at k2 hp
          replace hfin := Lib.hid hfin
          clear h hg e0 hat hnd hid hN hf hto hend h0
          go_enter Try.func42, Try.ntmps42
          go_wp2_with fail
          refine hl.mono ?_
          rintro e w1 ⟨rfl, hs⟩
          obtain rfl : w = w1 := hs
          clear hl
          go_wp2_with fail
          refine hp.mono ?_
          rintro e w1 ⟨rfl, hr⟩
          replace hr := Lib.hid hr
          clear hp
          go_wp2_with fail
          go_ret
          exact ⟨rfl, hfin.out _ (by rw [ev]; exact hr.out)⟩
        · have t0 : (to != 0) = true := by simpa using h0
          have hl2 := look_yes h (id := to) (by
            refine Classical.byContradiction fun e => hto ⟨h0, e⟩)
          rw [ev] at k2 hp
          replace hfin := Lib.hid hfin
          clear h hg e0 hat hnd hid hN hf hto hend h0
          go_enter Try.func42, Try.ntmps42
          go_wp2_with fail
          refine hl.mono ?_
          rintro e w1 ⟨rfl, hs⟩
          obtain rfl : w = w1 := hs
          clear hl
          go_wp2_with fail
          refine hl2.mono ?_
          rintro e w1 ⟨rfl, hs⟩
          obtain rfl : w = w1 := hs
          clear hl2
          go_wp2_with fail
          refine hp.mono ?_
          rintro e w1 ⟨rfl, hr⟩
          replace hr := Lib.hid hr
          clear hp
          go_wp2_with fail
          go_ret
          exact ⟨rfl, hfin.out _ (by rw [ev]; exact hr.out)⟩
    · have e1 : setRefE L nd.id field to = 1 := by unfold setRefE; rw [hat]; simp only; rw [if_neg hf]
      rw [e1] at hend ⊢
      have hp := put_no w a nd.refs.length c field to hf
      rw [ev] at k2
      replace hend := Lib.hid hend
      by_cases h0 : 0 ≤ field
      · have h1 : (nd.refs.length : Int) ≤ field := by omega
        clear h hg e1 hat hnd hid hN hf ev
        go_enter Try.func42, Try.ntmps42
        go_wp2_with fail
        refine hl.mono ?_
        rintro e w1 ⟨rfl, hs⟩
        obtain rfl : w = w1 := hs
        clear hl
        go_wp2_with fail
        refine hp.mono ?_
        rintro e w1 ⟨rfl, hs⟩
        obtain rfl : w = w1 := hs
        clear hp
        go_wp2_with fail
        go_ret
        exact ⟨rfl, hend.out _ (SameW.rfl' _) (by omega)⟩
      · have h1 : field < 0 := by omega
        clear h hg e1 hat hnd hid hN hf ev h0
        go_enter Try.func42, Try.ntmps42
        go_wp2_with fail
        refine hl.mono ?_
        rintro e w1 ⟨rfl, hs⟩
        obtain rfl : w = w1 := hs
        clear hl
        go_wp2_with fail
        refine hp.mono ?_
        rintro e w1 ⟨rfl, hs⟩
        obtain rfl : w = w1 := hs
        clear hp
        go_wp2_with fail
        go_ret
        exact ⟨rfl, hend.out _ (SameW.rfl' _) (by omega)⟩

set_option maxHeartbeats 1000000 in
theorem setnum_any (h : Gr w b O tv L) (id field x : Int) :
    Calls Try.prog 43 #[.pointer (some ⟨b, 0, none⟩), .int .i64 id, .int .i64 field, .int .i64 x] w fun e w' =>
      e = .returned (.int .i64 (setNumE L id field)) ∧ Gr w' b O tv (setNumL L id field x) ∧ Turn w w' O O := by
  have hg := h
  obtain ⟨r, n, pn, vr, vd, ow, h⟩ := h
  have hend : ∀ w', SameW w w' → setNumE L id field ≠ 0 → Gr w' b O tv (setNumL L id field x) ∧ Turn w w' O O := by
    intro w' hs he
    obtain rfl : w = w' := hs
    unfold setNumL
    rw [if_neg he]
    exact ⟨hg, Turn.refl _ _⟩
  cases hat : gat L id with
  | none =>
    have e7 : setNumE L id field = 7 := by unfold setNumE; rw [hat]
    rw [e7] at hend ⊢
    have hl := look_no h (gat_none hat)
    replace hend := Lib.hid hend
    clear h hg e7 hat
    go_enter Try.func43, Try.ntmps43
    go_wp2_with fail
    refine hl.mono ?_
    rintro e w1 ⟨rfl, hs⟩
    obtain rfl : w = w1 := hs
    clear hl
    go_wp2_with fail
    go_ret
    exact ⟨rfl, hend.out _ (SameW.rfl' _) (by omega)⟩
  | some nd =>
    obtain ⟨hnd, rfl⟩ := gat_mem hat
    have hid : nd.id ∈ ids L := List.mem_map.2 ⟨nd, hnd, rfl⟩
    have hl := look_yes h hid
    have hN := h.node nd hnd
    obtain ⟨k0, k1, k2, k3, k4⟩ := hN.cells
    obtain ⟨a, c, ev, hlc, hcm⟩ := hN.data.isSlice
    by_cases hf : 0 ≤ field ∧ field < nd.data.length
    · obtain ⟨i, rfl⟩ := Int.eq_ofNat_of_zero_le hf.1
      have hi : i < nd.data.length := by omega
      have e0 : setNumE L nd.id i = 0 := by unfold setNumE; rw [hat]; simp only; rw [if_pos hf]
      have hp := put_ok w (vd nd.id) nd.data i x hN.data hi
      have hfin : ∀ w', RowAt w' 3 1 (vd nd.id) nd.data.length ((nd.data.set i x).map (Value.int .i64)) ∧ Ch (fun k => rblk (vd nd.id) = some k) w w' → Gr w' b O tv (setNumL L nd.id i x) ∧ Turn w w' O O := by
        rintro w' ⟨hr, hc⟩
        unfold setNumL
        rw [if_pos e0]
        have hne : rblk (vd nd.id) ≠ some (pn nd.id) := by
          intro e
          obtain ⟨cur, hcur⟩ := hN.data.block e
          rw [hN.blk] at hcur; cases hcur
        obtain ⟨h1, h2⟩ := h.turn hnd (g := fun nd => { nd with data := nd.data.set (i : Int).toNat x }) (fun _ => rfl) (hc.mono (fun k _ e => .inr (.inr e)))
          ⟨hc.keep hN.blk hne, hN.refs.keep hc (fun k e1 e2 => hN.apart k e1 e2), by simpa using hr, hN.apart⟩
        exact ⟨⟨_, _, _, _, _, _, h1⟩, h2⟩
      rw [e0]
      rw [ev] at k3 hp
      replace hfin := Lib.hid hfin
      clear h hg e0 hat hnd hid hN hf hend
      go_enter Try.func43, Try.ntmps43
      go_wp2_with fail
      refine hl.mono ?_
      rintro e w1 ⟨rfl, hs⟩
      obtain rfl : w = w1 := hs
      clear hl
      go_wp2_with fail
      refine hp.mono ?_
      rintro e w1 ⟨rfl, hr⟩
      replace hr := Lib.hid hr
      clear hp
      go_wp2_with fail
      go_ret
      exact ⟨rfl, hfin.out _ (by rw [ev]; exact hr.out)⟩
    · have e1 : setNumE L nd.id field = 1 := by unfold setNumE; rw [hat]; simp only; rw [if_neg hf]
      rw [e1] at hend ⊢
      have hp := put_no w a nd.data.length c field x hf
      rw [ev] at k3
      replace hend := Lib.hid hend
      clear h hg e1 hat hnd hid hN hf ev
      go_enter Try.func43, Try.ntmps43
      go_wp2_with fail
      refine hl.mono ?_
      rintro e w1 ⟨rfl, hs⟩
      obtain rfl : w = w1 := hs
      clear hl
      go_wp2_with fail
      refine hp.mono ?_
      rintro e w1 ⟨rfl, hs⟩
      obtain rfl : w = w1 := hs
      clear hp
      go_wp2_with fail
      go_ret
      exact ⟨rfl, hend.out _ (SameW.rfl' _) (by omega)⟩

set_option maxHeartbeats 1000000 in
theorem done_any (h : Gr w b O tv L) (id : Int) :
    Calls Try.prog 48 #[.pointer (some ⟨b, 0, none⟩), .int .i64 id] w fun e w' =>
      e = .returned (.int .i64 (doneE L id)) ∧ Gr w' b O tv (doneL L id) ∧ Turn w w' O O := by
  have hg := h
  obtain ⟨r, n, pn, vr, vd, ow, h⟩ := h
  cases hat : gat L id with
  | none =>
    have e7 : doneE L id = 7 := if_neg (gat_none hat)
    have eL : doneL L id = L := upd_out (gat_none hat)
    rw [e7, eL]
    have hl := look_no h (gat_none hat)
    replace hg := Lib.hid hg
    clear h e7 hat eL
    go_enter Try.func48, Try.ntmps48
    go_wp2_with fail
    refine hl.mono ?_
    rintro e w1 ⟨rfl, hs⟩
    obtain rfl : w = w1 := hs
    clear hl
    go_wp2_with fail
    go_ret
    exact ⟨rfl, hg.out, Turn.refl _ _⟩
  | some nd =>
    obtain ⟨hnd, rfl⟩ := gat_mem hat
    have hid : nd.id ∈ ids L := List.mem_map.2 ⟨nd, hnd, rfl⟩
    have e0 : doneE L nd.id = 0 := if_pos hid
    have hl := look_yes h hid
    have hN := h.node nd hnd
    obtain ⟨k0, k1, k2, k3, k4⟩ := hN.cells
    have hfz := frozen_of_row w (pn nd.id) 4 _ _ hN.blk
    have hfin : Gr (w.setCell ⟨pn nd.id, 4, none⟩ (.bool false)) b O tv (doneL L nd.id) ∧ Turn w (w.setCell ⟨pn nd.id, 4, none⟩ (.bool false)) O O := by
      have cs : Ch (fun k => k = pn nd.id) w (w.setCell ⟨pn nd.id, 4, none⟩ (.bool false)) := Ch.setCell (S := fun k => k = pn nd.id) (Ch.refl _ _) (p := ⟨pn nd.id, 4, none⟩) (fun _ => rfl) _
      have hne : ∀ {v : Value} {xs : List Value} {m : Nat}, RowAt w 3 1 v m xs → ∀ k, rblk v = some k → ¬ k = pn nd.id := by
        rintro v xs m hr k hk rfl
        obtain ⟨cur, hcur⟩ := hr.block hk
        rw [hN.blk] at hcur; cases hcur
      obtain ⟨h1, h2⟩ := h.turn hnd (g := fun nd => { nd with fin := false }) (fun _ => rfl) (cs.mono (fun k _ e => .inl e))
        ⟨by rw [heap_setCell_same w _ 4 _ _ _ hN.blk]; rfl, hN.refs.keep cs (hne hN.refs), hN.data.keep cs (hne hN.data), hN.apart⟩
      exact ⟨⟨_, _, _, _, _, _, h1⟩, h2⟩
    rw [e0]
    replace hfin := Lib.hid hfin
    clear h hg e0 hat hnd hid hN
    go_enter Try.func48, Try.ntmps48
    go_wp2_with fail
    refine hl.mono ?_
    rintro e w1 ⟨rfl, hs⟩
    obtain rfl : w = w1 := hs
    clear hl
    go_wp2_with fail
    go_ret
    exact ⟨rfl, hfin.out⟩

end

end Go.Proofs.Ytlmeponoadhheaa

/-
  Contracts of slices.Clone at integers, (*graph.Graph).Node.
-/
namespace Go.Proofs.Ytlmeponoadhheaa
set_option linter.unusedVariables false
open Go.RowKit

theorem row_ne_cells {w : World} {e T : TypeId} {size : Nat} {v : Value} {n : Nat} {xs : List Value} {cs : Array Value} {k : Nat} (h : RowAt w e size v n xs) (hb : w.heap[k]? = some (.cells cs T (0, 0))) (hT : T ≠ e) : ∀ i, rblk v = some i → ¬ i = k := by
  rintro i hi rfl
  obtain ⟨cur, hc⟩ := h.block hi
  rw [hb] at hc; cases hc; exact hT rfl

set_option maxHeartbeats 400000 in
theorem clone_ints (D : Nat → Prop) (v : Value) (xs : List Int) (w : World) (h : SeesI D w v xs) (hb : xs.length ≤ 1000000) :
    Calls Try.prog 101 #[v] w fun e w' => ∃ u, e = .returned u ∧ RowAt w' 3 1 u xs.length (xs.map (Value.int .i64)) ∧ (∀ k, rblk u = some k → w.heap.size ≤ k) ∧ Ch0 w w' := by
  have hsees := h.keep (((Ch.refl (fun _ => False) w)).alloc (.cells #[] 3)) (fun _ _ q => q)
  obtain ⟨h0, a, c, rfl, hc, hm, hl⟩ := h
  cases a with
  | none =>
    have hx : xs.length = 0 := by
      rcases hl with hl | ⟨g, o, _, hn, _⟩
      · exact hl
      · cases hn
    obtain rfl : xs = [] := List.eq_nil_of_length_eq_zero hx
    have hnil : (binOp .eql 34 (.slice none 0 c) (.slice none 0 0)).run Try.prog w = .ok (.bool true) w := Lib.run_eql_slice_nil w 34 3 none 0 c 0 0 Try.underlying34
    clear h0 hl hx hsees
    go_enter Try.func101, Try.ntmps101
    go_wp2
    go_ret
    exact ⟨_, rfl, RowAt.nil, (fun k hk => by cases hk), Ch.refl _ _⟩
  | some a =>
    have hnil : (binOp .eql 34 (.slice (some a) xs.length c) (.slice none 0 0)).run Try.prog w = .ok (.bool false) w := Lib.run_eql_slice_nil w 34 3 (some a) _ c 0 0 Try.underlying34
    have hrow : RowAt (w.alloc (.cells #[] 3)) 3 1 (.slice (some ⟨w.heap.size, 0, none⟩) 0 0) 0 (([] : List Int).map (Value.int .i64)) :=
      ⟨rfl, .inr ⟨w.heap.size, 0, 0, _, rfl, heap_alloc_new w _, Nat.le_refl _, by decide, by simp, rfl⟩⟩
    obtain ⟨a', c', w', hrun, r4, d4, b4⟩ := run_ints hrow (by omega) hsees (by omega) 34
    have HE : Hid (RowAt w' 3 1 (.slice a' (0 + xs.length) c') xs.length (xs.map (Value.int .i64)) ∧ (∀ k, rblk (.slice a' (0 + xs.length) c') = some k → w.heap.size ≤ k) ∧ Ch0 w w') := by
      refine Lib.hid ⟨by simpa using r4, fun k hk => ?_, ((Ch.refl _ w).alloc _).trans' d4 (fun _ _ q => q) (fun i hi q => by simp [rblk] at q; omega)⟩
      rcases b4 with e | e
      · rw [hk] at e; simp [rblk] at e; omega
      · rw [hk] at e; simp at e; omega
    simp only [Nat.zero_add] at hrun HE
    clear hsees hrow r4 d4 b4 hl h0
    go_enter Try.func101, Try.ntmps101
    go_wp2_with (at_builtin; refine wpList_append_run rfl _ _ 34 34 rfl rfl rfl hrun ?_)
    go_wp2
    go_ret
    exact ⟨_, rfl, HE.out.1, HE.out.2.1, HE.out.2.2⟩

section
variable {w : World} {b : Nat} {O : Nat → Prop} {tv : Value} {L : List GN}

/-- a node's copy -/
structure Copy (w w' : World) (nd : GN) (v : Value) (vr vd : Value) : Prop where
  v : v = .agg #[.int .i64 nd.id, .int .i64 nd.cls, vr, vd, .bool nd.fin]
  refs : RowAt w' 3 1 vr nd.refs.length (nd.refs.map (Value.int .i64))
  data : RowAt w' 3 1 vd nd.data.length (nd.data.map (Value.int .i64))
  fr : ∀ k, rblk vr = some k → w.heap.size ≤ k
  fd : ∀ k, rblk vd = some k → w.heap.size ≤ k
  apart : ∀ k, rblk vr = some k → rblk vd ≠ some k

set_option maxRecDepth 100000 in
set_option maxHeartbeats 1000000 in
theorem node_yes (h : Gr w b O tv L) {nd : GN} (hnd : nd ∈ L) (hr : nd.refs.length ≤ 1000000) (hd : nd.data.length ≤ 1000000) :
    Calls Try.prog 33 #[.pointer (some ⟨b, 0, none⟩), .int .i64 nd.id] w fun e w' => ∃ v vr vd, e = .returned (.tuple #[v, .int .i64 0]) ∧ Copy w w' nd v vr vd ∧ Ch0 w w' := by
  obtain ⟨r, n, pn, vr, vd, ow, h⟩ := h
  have hid : nd.id ∈ ids L := List.mem_map.2 ⟨nd, hnd, rfl⟩
  have hN := h.node nd hnd
  have hz : (zeroValue 36).run Try.prog w = .ok (.agg #[.int .i64 0, .int .i64 0, .slice none 0 0, .slice none 0 0, .bool false]) w := by
    have h : ∃ i, Try.prog.info? 36 = some i ∧ i.zero = some (.agg #[.int .i64 0, .int .i64 0, .slice none 0 0, .slice none 0 0, .bool false]) := by
      have e : (Try.prog.info? 36).map (fun i => i.zero) = some (some (.agg #[.int .i64 0, .int .i64 0, .slice none 0 0, .slice none 0 0, .bool false])) := by kernel_rfl
      rw [Option.map_eq_some_iff] at e
      exact e
    obtain ⟨i, h1, h2⟩ := h
    simp [zeroValue, typeInfo, h1, h2, Result.andThen]
  have hlk : ∀ w', Ch0 w w' → Calls Try.prog 99 #[.pointer (some ⟨b, 0, none⟩), .int .i64 nd.id] w' fun e w'' => e = .returned (.pointer (some ⟨pn nd.id, 0, none⟩)) ∧ SameW w' w'' := fun w' c => look_yes (h.keep c (fun _ _ e => e)) hid
  generalize hp : pn nd.id = p at *
  obtain ⟨a1, c1, hV1, -, -⟩ := hN.refs.isSlice
  obtain ⟨a2, c2, hV2, -, -⟩ := hN.data.isSlice
  rw [hV1, hV2] at hN
  obtain ⟨k0, k1, k2, k3, k4⟩ := hN.cells
  have HL := Lib.hid hlk
  have HN := Lib.hid hN
  have HC1 : Hid (∀ w', Ch0 w w' → _) := Lib.hid (fun w' c => clone_ints _ (.slice a1 nd.refs.length c1) nd.refs w' (hN.refs.sees.keep c (fun _ _ e => e)) hr)
  have HC2 : Hid (∀ w', Ch0 w w' → _) := Lib.hid (fun w' c => clone_ints _ (.slice a2 nd.data.length c2) nd.data w' (hN.data.sees.keep c (fun _ _ e => e)) hd)
  clear h hid hN hlk hr hd hp hV1 hV2 hnd
  have hpl : p < w.heap.size := lt_of_block HN.out.blk
  have cA : Ch0 w (w.alloc (.cells #[.int .i64 0, .int .i64 0, .slice none 0 0, .slice none 0 0, .bool false] 36)) := (Ch.refl _ _).alloc _
  have j0 := cA.cell k0 (fun e => e)
  have j1 := cA.cell k1 (fun e => e)
  have j2 := cA.cell k2 (fun e => e)
  have j3 := cA.cell k3 (fun e => e)
  have j4 := cA.cell k4 (fun e => e)
  go_enter Try.func33, Try.ntmps33
  go_wp2_with fail
  refine (HL.out _ cA).mono ?_
  rintro e w1 ⟨rfl, hs⟩
  obtain rfl := hs
  have cB := cA.alloc (.cells #[.int .i64 nd.id, .int .i64 nd.cls, .slice a1 nd.refs.length c1, .slice a2 nd.data.length c2, .bool nd.fin] 36)
  have B7 := heap_alloc_new (w.alloc (.cells #[.int .i64 0, .int .i64 0, .slice none 0 0, .slice none 0 0, .bool false] 36)) (.cells #[.int .i64 nd.id, .int .i64 nd.cls, .slice a1 nd.refs.length c1, .slice a2 nd.data.length c2, .bool nd.fin] 36)
  have B4 := ((Ch.refl (fun _ => False) _).alloc (.cells #[.int .i64 nd.id, .int .i64 nd.cls, .slice a1 nd.refs.length c1, .slice a2 nd.data.length c2, .bool nd.fin] 36)).keep (heap_alloc_new w (.cells #[.int .i64 0, .int .i64 0, .slice none 0 0, .slice none 0 0, .bool false] 36)) (fun e => e)
  rw [World.size_alloc] at B7
  have i2 := cB.cell k2 (fun e => e)
  have i3 := cB.cell k3 (fun e => e)
  go_wp2_with fail
  clear cA j0 j1 j2 j3 j4 k0 k1 k2 k3 k4
  generalize (w.alloc (.cells #[.int .i64 0, .int .i64 0, .slice none 0 0, .slice none 0 0, .bool false] 36)).alloc (.cells #[.int .i64 nd.id, .int .i64 nd.cls, .slice a1 nd.refs.length c1, .slice a2 nd.data.length c2, .bool nd.fin] 36) = W2 at *
  have B7' : W2.drew.heap[w.heap.size + 1]? = _ := B7
  have i2' : W2.drew.cell? _ = _ := i2
  have i3' : W2.drew.cell? _ = _ := i3
  have hB7 := Lib.hid B7'
  have hB4 : Hid (W2.drew.heap[w.heap.size]? = _) := Lib.hid B4
  have cC := Lib.hid cB.drew
  clear B7 B7' B4 cB
  obtain ⟨B, hB⟩ : ∃ B, w.heap.size = B := ⟨_, rfl⟩
  rw [hB] at hB7 hB4 ⊢
  have hne : p ≠ B + 1 := by omega
  have hne' : B + 1 ≠ p := by omega
  replace hB := Lib.hid hB
  clear hpl
  go_region_held3 (fun w' => w'.cell? ⟨p, 2, none⟩ = some (.slice a1 nd.refs.length c1) ∧ w'.cell? ⟨p, 3, none⟩ = some (.slice a2 nd.data.length c2))
    (first | go_keep | exact ⟨cy.cell (cx.cell i2' (fun e => e)) (fun e => e), cy.cell (cx.cell i3' (fun e => e)) (fun e => e)⟩ | exact ⟨cx.cell (cy.cell i2' (fun e => e)) (fun e => e), cx.cell (cy.cell i3' (fun e => e)) (fun e => e)⟩ | exact ⟨cx.cell i2' (fun e => e), cx.cell i3' (fun e => e)⟩ | exact ⟨cy.cell i2' (fun e => e), cy.cell i3' (fun e => e)⟩)
    (first
      | (go_at_call_of 101 (Value.slice a1 nd.refs.length c1); refine (HC1.out _ ?_).mono ?_; (first | exact cC.out | exact cC.out.trans cy); rintro e wx ⟨u1, rfl, r1, f1, cx⟩; obtain ⟨a3, c3, rfl, -, -⟩ := r1.isSlice; (first | have gx := cx.keep gy (fun e => e) | have gx := cx.keep hB7.out (fun e => e)); have qx2 := cell_of_row wx _ 2 _ _ _ gx; have qx3 := cell_of_row wx _ 3 _ _ _ gx; have fx2 := frozen_of_row wx _ 2 _ _ gx; have fx3 := frozen_of_row wx _ 3 _ _ gx)
      | (go_at_call_of 101 (Value.slice a2 nd.data.length c2); refine (HC2.out _ ?_).mono ?_; (first | exact cC.out | exact cC.out.trans cx); rintro e wy ⟨u2, rfl, r2, f2, cy⟩; obtain ⟨a4, c4, rfl, -, -⟩ := r2.isSlice; (first | have gy := cy.keep gx (fun e => e) | have gy := cy.keep hB7.out (fun e => e)); have qy2 := cell_of_row wy _ 2 _ _ _ gy; have qy3 := cell_of_row wy _ 3 _ _ _ gy; have fy2 := frozen_of_row wy _ 2 _ _ gy; have fy3 := frozen_of_row wy _ 3 _ _ gy))
  have s2 : Ch (fun k => k = B + 1) wy ((wy.setCell ⟨B + 1, 2, none⟩ (.slice a3 nd.refs.length c3)).setCell ⟨B + 1, 3, none⟩ (.slice a4 nd.data.length c4)) :=
    (Ch.setCell (S := fun k => k = B + 1) (Ch.refl _ _) (p := ⟨B + 1, 2, none⟩) (fun _ => rfl) _).setCell (p := ⟨B + 1, 3, none⟩) (fun _ => rfl) _
  have gz := heap_setCell_same _ (B + 1) 3 _ _ (.slice a4 nd.data.length c4) (heap_setCell_same wy (B + 1) 2 _ _ (.slice a3 nd.refs.length c3) gy)
  have gB := s2.keep (cy.keep (cx.keep hB4.out (fun e => e)) (fun e => e)) (show ¬ B = B + 1 by omega)
  have e1 : RowAt _ 3 1 (.slice a3 nd.refs.length c3) nd.refs.length (nd.refs.map (Value.int .i64)) := (r1.keep cy (fun _ _ e => e)).keep s2 (row_ne_cells (r1.keep cy (fun _ _ e => e)) gy (by decide))
  have e2 : RowAt _ 3 1 (.slice a4 nd.data.length c4) nd.data.length (nd.data.map (Value.int .i64)) := r2.keep s2 (row_ne_cells r2 gy (by decide))
  have eW : Ch0 w _ := ((cC.out.trans cx).trans cy).trans' s2 (fun _ _ e => e) (fun k hk e => by have := hB.out; omega)
  have ew1 : ∀ k, rblk (.slice a3 nd.refs.length c3) = some k → w.heap.size ≤ k := fun k hk => by have := f1 k hk; have := cC.out.size; omega
  have ew2 : ∀ k, rblk (.slice a4 nd.data.length c4) = some k → wx.heap.size ≤ k := f2
  have ap : ∀ k, rblk (.slice a3 nd.refs.length c3) = some k → rblk (.slice a4 nd.data.length c4) ≠ some k := fun k h1 h2 => by have := r1.lt h1; have := f2 k h2; omega
  have ew3 : ∀ k, rblk (.slice a4 nd.data.length c4) = some k → w.heap.size ≤ k := fun k hk => by have := f2 k hk; have := (cC.out.trans cx).size; omega
  rename_i hheld
  clear hheld
  replace gz : ((wy.setCell ⟨B + 1, 2, none⟩ (.slice a3 nd.refs.length c3)).setCell ⟨B + 1, 3, none⟩ (.slice a4 nd.data.length c4)).heap[B + 1]? = some (.cells #[.int .i64 nd.id, .int .i64 nd.cls, .slice a3 nd.refs.length c3, .slice a4 nd.data.length c4, .bool nd.fin] 36 (0, 0)) := gz
  generalize ((wy.setCell ⟨B + 1, 2, none⟩ (.slice a3 nd.refs.length c3)).setCell ⟨B + 1, 3, none⟩ (.slice a4 nd.data.length c4)) = W3 at *
  clear r1 r2 f1 f2 ew2 gx gy qx2 qx3 fx2 fx3 qy2 qy3 fy2 fy3 cx cy s2 i2 i3 i2' i3'
  have sB : ∀ (W : World) (vv : Value), Ch0 w W → W.heap[B]? = some (.cells #[.int .i64 0, .int .i64 0, .slice none 0 0, .slice none 0 0, .bool false] 36 (0, 0)) → Ch (fun k => k = B) W (((((W.setCell ⟨B, 0, none⟩ (.int .i64 nd.id)).setCell ⟨B, 1, none⟩ (.int .i64 nd.cls)).setCell ⟨B, 2, none⟩ (.slice a3 nd.refs.length c3)).setCell ⟨B, 3, none⟩ (.slice a4 nd.data.length c4)).setCell ⟨B, 4, none⟩ (.bool nd.fin)) := fun W vv _ _ =>
    (((((Ch.refl (fun k => k = B) W).setCell (p := ⟨B, 0, none⟩) (fun _ => rfl) _).setCell (p := ⟨B, 1, none⟩) (fun _ => rfl) _).setCell (p := ⟨B, 2, none⟩) (fun _ => rfl) _).setCell (p := ⟨B, 3, none⟩) (fun _ => rfl) _).setCell (p := ⟨B, 4, none⟩) (fun _ => rfl) _
  have hs4 := sB W3 (.bool true) eW gB
  have q0 := cell_of_row W3 (B + 1) 0 _ _ _ gz
  have q1 := cell_of_row W3 (B + 1) 1 _ _ _ gz
  have q2 := cell_of_row W3 (B + 1) 2 _ _ _ gz
  have q3 := cell_of_row W3 (B + 1) 3 _ _ _ gz
  have q4 := cell_of_row W3 (B + 1) 4 _ _ _ gz
  have z0 := cell_of_row W3 B 0 _ _ _ gB
  have z1 := cell_of_row W3 B 1 _ _ _ gB
  have z2 := cell_of_row W3 B 2 _ _ _ gB
  have z3 := cell_of_row W3 B 3 _ _ _ gB
  have z4 := cell_of_row W3 B 4 _ _ _ gB
  have y0 := frozen_of_row W3 B 0 _ _ gB
  have y1 := frozen_of_row W3 B 1 _ _ gB
  have y2 := frozen_of_row W3 B 2 _ _ gB
  have y3 := frozen_of_row W3 B 3 _ _ gB
  have y4 := frozen_of_row W3 B 4 _ _ gB
  have HE := Lib.hid (And.intro (e1.keep hs4 (row_ne_cells e1 gB (by decide))) (And.intro (e2.keep hs4 (row_ne_cells e2 gB (by decide))) (And.intro ew1 (And.intro ew3 (And.intro ap (eW.trans' hs4 (fun _ _ e => e) (fun k hk e => by have := hB.out; omega)))))))
  clear e1 e2 ew1 ew3 ap eW hs4 sB gz gB
  simp at q0 q1 q2 q3 q4 z0 z1 z2 z3 z4
  go_wp2_with fail
  exact bodyPost_ret (v := .tuple #[.agg #[.int .i64 nd.id, .int .i64 nd.cls, .slice a3 nd.refs.length c3, .slice a4 nd.data.length c4, .bool nd.fin], .int .i64 0]) (by simp [results, Try.results33, go_sem, *]) rfl
    ⟨_, _, _, rfl, ⟨rfl, HE.out.1, HE.out.2.1, HE.out.2.2.1, HE.out.2.2.2.1, HE.out.2.2.2.2.1⟩, HE.out.2.2.2.2.2⟩

end

end Go.Proofs.Ytlmeponoadhheaa

/-
  A graph with its table; contracts of (*graph.Graph).Node where there is none, Holds, Aim.
-/
namespace Go.Proofs.Ytlmeponoadhheaa
set_option linter.unusedVariables false
open Go.RowKit

def kindOf (cs : List Cls) (n : Int) : Int := (cs.getD (n - 1).toNat Cls.none).kind

/-- a node as a class wants it -/
structure WfN (cs : List Cls) (nd : GN) : Prop where
  c1 : 1 ≤ nd.cls
  c2 : nd.cls ≤ cs.length
  refs : nd.refs.length ≤ 60
  data : nd.data.length ≤ 60
  aim : holdsC cs nd.cls 0 = false → 1 ≤ nd.refs.length
  id : 1 ≤ nd.id
  idm : nd.id ≤ 9223372036854775807

/-- a graph, its table, its classes -/
structure Gt (w : World) (b : Nat) (O : Nat → Prop) (cs : List Cls) (L : List GN) (p lo hi : Nat) : Prop where
  g : Gr w b O (.pointer (some ⟨p, 0, none⟩)) L
  t : Tab lo hi w p cs
  off : ∀ k, lo ≤ k → k < hi → ¬ O k
  hiw : hi ≤ w.heap.size
  wf : ∀ nd ∈ L, WfN cs nd

section
variable {w w' : World} {b : Nat} {O O' : Nat → Prop} {cs : List Cls} {L L' : List GN} {p lo hi : Nat}

theorem Gt.keep (h : Gt w b O cs L p lo hi) {S : Nat → Prop} (c : Ch S w w') (h1 : ∀ k, O k → ¬ S k) (h2 : ∀ k, lo ≤ k → k < hi → ¬ S k) : Gt w' b O cs L p lo hi where
  g := h.g.keep c h1
  t := h.t.keep c h2
  off := h.off
  hiw := Nat.le_trans h.hiw c.size
  wf := h.wf

theorem Gt.new (h : Gt w b O cs L p lo hi) (c : Ch0 w w') : Gt w' b O cs L p lo hi := h.keep c (fun _ _ e => e) (fun _ _ _ e => e)

theorem Gt.turn (h : Gt w b O cs L p lo hi) (hg : Gr w' b O' (.pointer (some ⟨p, 0, none⟩)) L') (t : Turn w w' O O') (hw : ∀ nd ∈ L', WfN cs nd) : Gt w' b O' cs L' p lo hi where
  g := hg
  t := h.t.keep t.1 h.off
  off := fun k h1 h2 e => by
    rcases t.2 k e with e | e
    · exact h.off k h1 h2 e
    · have := h.hiw; omega
  hiw := Nat.le_trans h.hiw t.1.size
  wf := hw

end

theorem ch_drewN' (w : World) (n : Nat) : Ch0 w (w.drewN n) := (Ch.refl _ w).drewN n

theorem zeroNode (w : World) : (zeroValue 36).run Try.prog w = .ok (.agg #[.int .i64 0, .int .i64 0, .slice none 0 0, .slice none 0 0, .bool false]) w := by
  have h : ∃ i, Try.prog.info? 36 = some i ∧ i.zero = some (.agg #[.int .i64 0, .int .i64 0, .slice none 0 0, .slice none 0 0, .bool false]) := by
    have e : (Try.prog.info? 36).map (fun i => i.zero) = some (some (.agg #[.int .i64 0, .int .i64 0, .slice none 0 0, .slice none 0 0, .bool false])) := by kernel_rfl
    rw [Option.map_eq_some_iff] at e
    exact e
  obtain ⟨i, h1, h2⟩ := h
  simp [zeroValue, typeInfo, h1, h2, Result.andThen]

def noNode : Value := .agg #[.int .i64 0, .int .i64 0, .slice none 0 0, .slice none 0 0, .bool false]

section
variable {w : World} {b : Nat} {O : Nat → Prop} {tv : Value} {L : List GN} {cs : List Cls} {p lo hi : Nat}

set_option maxRecDepth 100000 in
set_option maxHeartbeats 400000 in
theorem node_no (h : Gr w b O tv L) {id : Int} (hid : id ∉ ids L) :
    Calls Try.prog 33 #[.pointer (some ⟨b, 0, none⟩), .int .i64 id] w fun e w' => e = .returned (.tuple #[noNode, .int .i64 7]) ∧ Ch0 w w' := by
  obtain ⟨r, n, pn, vr, vd, ow, h⟩ := h
  have hz := zeroNode w
  have cA : Ch0 w (w.alloc (.cells #[.int .i64 0, .int .i64 0, .slice none 0 0, .slice none 0 0, .bool false] 36)) := (Ch.refl _ _).alloc _
  have hl := look_no (h.keep cA (fun _ _ e => e)) hid
  clear h hid
  go_enter Try.func33, Try.ntmps33
  go_wp2_with fail
  refine hl.mono ?_
  rintro e w1 ⟨rfl, hs⟩
  obtain rfl := hs
  clear hl
  go_wp2_with fail
  exact bodyPost_ret (v := .tuple #[.agg #[.int .i64 0, .int .i64 0, .slice none 0 0, .slice none 0 0, .bool false], .int .i64 7]) (by simp [results, Try.results33, go_sem]) rfl ⟨rfl, cA⟩

/-! ### what a node holds -/

def heldTo (cs : List Cls) (nd : GN) (k : Nat) : List Int := (List.range k).flatMap (fun i => if nd.refs.getD i 0 ≠ 0 ∧ holdsC cs nd.cls i = true then [nd.refs.getD i 0] else [])

def held (cs : List Cls) (nd : GN) : List Int := heldTo cs nd nd.refs.length

def gholds (cs : List Cls) (L : List GN) (id : Int) : List Int :=
  match gat L id with
  | none => []
  | some nd => held cs nd

theorem heldTo_succ (cs : List Cls) (nd : GN) (k : Nat) : heldTo cs nd (k + 1) = heldTo cs nd k ++ (if nd.refs.getD k 0 ≠ 0 ∧ holdsC cs nd.cls k = true then [nd.refs.getD k 0] else []) := by
  simp [heldTo, List.range_succ]

theorem heldTo_len (cs : List Cls) (nd : GN) (k : Nat) : (heldTo cs nd k).length ≤ k := by
  induction k with
  | zero => simp [heldTo]
  | succ k ih => rw [heldTo_succ, List.length_append]; split <;> simp <;> omega

set_option maxRecDepth 100000 in
set_option maxHeartbeats 1000000 in
theorem holds_of (h : Gt w b O cs L p lo hi) (id : Int) :
    Calls Try.prog 34 #[.pointer (some ⟨b, 0, none⟩), .int .i64 id] w fun e w' => ∃ v, e = .returned v ∧ RowAt w' 3 1 v (gholds cs L id).length ((gholds cs L id).map (Value.int .i64)) ∧ (∀ k, rblk v = some k → w.heap.size ≤ k) ∧ Ch0 w w' := by
  obtain ⟨hg, ht, hoff, hiw, hwf⟩ := h
  obtain ⟨r, n, pn, vr, vd, ow, h⟩ := hg
  cases hat : gat L id with
  | none =>
    have e0 : gholds cs L id = [] := by unfold gholds; rw [hat]
    rw [e0]
    have hl := look_no h (gat_none hat)
    clear h hat e0 ht hoff hwf hiw
    go_enter Try.func34, Try.ntmps34
    go_wp2_with fail
    refine hl.mono ?_
    rintro e w1 ⟨rfl, hs⟩
    obtain rfl : w = w1 := hs
    clear hl
    go_wp2_with fail
    go_ret
    exact ⟨_, rfl, RowAt.nil, (fun k hk => by cases hk), Ch.refl _ _⟩
  | some nd =>
    obtain ⟨hnd, rfl⟩ := gat_mem hat
    have e0 : gholds cs L nd.id = held cs nd := by unfold gholds; rw [hat]
    rw [e0]
    unfold held
    have hid : nd.id ∈ ids L := List.mem_map.2 ⟨nd, hnd, rfl⟩
    have hl := look_yes h hid
    have hN := h.node nd hnd
    obtain ⟨a, c, ev, hlc, hcm⟩ := hN.refs.isSlice
    have hlen := (hwf nd hnd).refs
    have HN := Lib.hid hN
    have HG := Lib.hid h.blk
    have HT := Lib.hid ht
    obtain ⟨g0, g1⟩ := h.cells
    obtain ⟨k0, k1, k2, k3, k4⟩ := hN.cells
    rw [ev] at k2
    replace ev := Lib.hid ev
    generalize pn nd.id = P at *
    clear h hat e0 ht hoff hwf hiw hN hid hnd
    go_enter Try.func34, Try.ntmps34
    go_wp2_with fail
    refine hl.mono ?_
    rintro e w1 ⟨rfl, hs⟩
    obtain rfl : w = w1 := hs
    clear hl
    go_wp2_with fail
    go_loopw [6, 19] (fun out i wr => ∃ j : Nat, j ≤ nd.refs.length ∧ i = .int .i64 j ∧ Ch0 w wr ∧ RowAt wr 3 1 out (heldTo cs nd j).length ((heldTo cs nd j).map (Value.int .i64)) ∧ ∀ k, rblk out = some k → w.heap.size ≤ k) (fun _ i _ => nd.refs.length - (intOf i).toNat)
    case atStart => exact ⟨0, Nat.zero_le _, rfl, Ch.refl _ _, by simpa [heldTo] using RowAt.nil, (fun k hk => by cases hk)⟩
    case round =>
      obtain ⟨j, hj, rfl, d, hr, hf⟩ := hrel
      clear g0 g1 k0 k1 k2 k3 k4
      by_cases hlt : j < nd.refs.length
      · obtain ⟨g, o, c1, -, e1, hcell⟩ := SeesI.cell (HN.out.refs.sees.keep d (fun _ _ e => e)) (by omega)
        rw [ev.out] at e1
        obtain ⟨rfl, rfl⟩ : a = some ⟨g, o, none⟩ ∧ c = c1 := by simpa using e1
        have hx := hcell j hlt
        have hsn := heldTo_succ cs nd j
        have hhl := heldTo_len cs nd j
        have g0 := cell_of_row wr b 0 _ _ _ (d.keep HG.out (fun e => e))
        have k1 := (HN.out.keep d (fun _ _ e => e)).cells.2.1
        simp at g0
        have HH : Hid (∀ w', Ch0 wr w' → Calls Try.prog 102 #[.pointer (some ⟨p, 0, none⟩), .int .i64 nd.cls, .int .i64 j] w' fun e w'' => e = .returned (.bool (holdsC cs nd.cls j)) ∧ Ch0 w' w'') :=
          Lib.hid (fun w' c => holds_any lo hi p cs nd.cls j w' (HT.out.keep (d.trans c) (fun _ _ _ e => e)))
        obtain ⟨a3, c3, rfl, -, -⟩ := hr.isSlice
        have i1 : (0 : Int) ≤ j := by omega
        have i2 : (j : Int) < nd.refs.length := by omega
        clear hcell e1
        generalize nd.refs.getD j 0 = X at *
        generalize holdsC cs nd.cls j = B at *
        by_cases hX : X = 0
        · have t0 : (X != 0) = false := by simp [hX]
          have HE := Lib.hid (And.intro d (And.intro hr hf))
          have HS : Hid (heldTo cs nd (j + 1) = heldTo cs nd j) := Lib.hid (by rw [hsn, if_neg (fun e => e.1 hX), List.append_nil])
          clear d hr hf hsn hX HH
          go_wp2_with fail
          go_quiet (fail)
          go_wp2_with fail
          go_roundw
          case rel => exact ⟨j + 1, by omega, by go_num, HE.out.1.drewN _, by rw [HS.out]; exact HE.out.2.1.keep (ch_drewN' _ _) (fun _ _ e => e), HE.out.2.2⟩
          case measure => simp [intOf]; omega
        · have t0 : (X != 0) = true := by simpa using hX
          cases B with
          | false =>
            have HE := Lib.hid (And.intro d (And.intro hr hf))
            have HS : Hid (heldTo cs nd (j + 1) = heldTo cs nd j) := Lib.hid (by rw [hsn, if_neg (fun e => by cases e.2), List.append_nil])
            clear d hr hf hsn hX
            go_wp2_with fail
            go_region_held3 (fun w' => w'.cell? ⟨b, 0, none⟩ = some (.pointer (some ⟨p, 0, none⟩)) ∧ w'.cell? ⟨P, 1, none⟩ = some (.int .i64 nd.cls))
              (first | go_keep | exact ⟨cx.cell (by simpa using g0) (fun e => e), cx.cell (by simpa using k1) (fun e => e)⟩)
              ((go_at_call 102; refine (HH.out _ ?_).mono ?_; exact (Ch.refl _ _).drew; rintro e wx ⟨rfl, cx⟩))
            rename_i hheld
            have HC := Lib.hid ((Ch.refl (fun _ => False) wr).drew.trans cx)
            clear hheld cx HH
            go_wp2_with fail
            go_roundw
            case rel => exact ⟨j + 1, by omega, by go_num, HE.out.1.trans HC.out, by rw [HS.out]; exact HE.out.2.1.keep HC.out (fun _ _ e => e), HE.out.2.2⟩
            case measure => simp [intOf]; omega
          | true =>
            have HE := Lib.hid (And.intro d (And.intro hr hf))
            have HS : Hid (heldTo cs nd (j + 1) = heldTo cs nd j ++ [X]) := Lib.hid (by rw [hsn, if_pos ⟨hX, rfl⟩])
            have hml : (heldTo cs nd j).length < 4294967296 := by omega
            clear d hr hf hsn hX
            go_wp2_with fail
            go_region_held3 (fun w' => w'.cell? ⟨b, 0, none⟩ = some (.pointer (some ⟨p, 0, none⟩)) ∧ w'.cell? ⟨P, 1, none⟩ = some (.int .i64 nd.cls))
              (first | go_keep | exact ⟨cx.cell (by simpa using g0) (fun e => e), cx.cell (by simpa using k1) (fun e => e)⟩)
              ((go_at_call 102; refine (HH.out _ ?_).mono ?_; exact (Ch.refl _ _).drew; rintro e wx ⟨rfl, cx⟩))
            rename_i hheld
            have HC := (Ch.refl (fun _ => False) wr).drew.trans cx
            have ca : Ch0 wx (wx.alloc (.cells #[.int .i64 X] 3)) := (Ch.refl _ _).alloc _
            obtain ⟨a4, c4, w4, hrun, r4, d4, b4⟩ := run_int ((HE.out.2.1.keep HC (fun _ _ e => e)).keep ca (fun _ _ e => e)) hml wx.heap.size X (heap_alloc_new wx _) 34
            have HF : Hid (Ch0 w w4 ∧ RowAt w4 3 1 (.slice a4 ((heldTo cs nd j).length + 1) c4) (heldTo cs nd (j + 1)).length ((heldTo cs nd (j + 1)).map (Value.int .i64)) ∧ ∀ k, rblk (.slice a4 ((heldTo cs nd j).length + 1) c4) = some k → w.heap.size ≤ k) := by
              refine Lib.hid ⟨((HE.out.1.trans HC).trans ca).trans' d4 (fun _ _ e => e) (fun k hk e => by have := HE.out.2.2 k e; omega), ?_, ?_⟩
              · rw [HS.out, List.length_append]; exact r4
              · intro k hk
                rcases b4 with e | e
                · rw [e] at hk; exact HE.out.2.2 k hk
                · rw [e] at hk; cases hk; rw [World.size_alloc]; have := (HE.out.1.trans HC).size; omega
            clear hheld cx HH HC ca r4 d4 b4
            go_wp2_with (at_builtin; refine wpList_append_run rfl _ _ 34 34 rfl rfl rfl hrun ?_)
            go_roundw
            case rel => exact ⟨j + 1, by omega, by go_num, HF.out.1, HF.out.2.1, HF.out.2.2⟩
            case measure => simp [intOf]; omega
      · obtain rfl : j = nd.refs.length := by omega
        have HE := Lib.hid (And.intro d (And.intro hr hf))
        obtain ⟨a3, c3, rfl, -, -⟩ := hr.isSlice
        clear d hr hf
        go_wp2_with fail
        go_ret
        exact ⟨_, rfl, HE.out.2.1, HE.out.2.2, HE.out.1⟩

end

end Go.Proofs.Ytlmeponoadhheaa

/-
  Contracts of (*graph.Graph).Aim, graph.New.
-/
namespace Go.Proofs.Ytlmeponoadhheaa
set_option linter.unusedVariables false
open Go.RowKit

/-- where a node aims, and its kind -/
def gaim (cs : List Cls) (L : List GN) (id : Int) : Int × Int :=
  match gat L id with
  | none => (0, 0)
  | some nd => if holdsC cs nd.cls 0 = true then (0, 0) else (nd.refs.getD 0 0, kindOf cs nd.cls)

theorem zeroCls (w : World) : (zeroValue 40).run Try.prog w = .ok (.agg #[.int .i64 0, .int .i64 0, .int .i64 0, .bool false]) w := by
  obtain ⟨i0, hi, hz0, hz1, hz2⟩ := info_parts Try.info40
  simp [zeroValue, typeInfo, hi, hz0, Result.andThen]

section
variable {w : World} {b : Nat} {O : Nat → Prop} {tv : Value} {L : List GN} {cs : List Cls} {p lo hi : Nat}

set_option maxRecDepth 100000 in
set_option maxHeartbeats 1000000 in
theorem aim_of (h : Gt w b O cs L p lo hi) (id : Int) :
    Calls Try.prog 40 #[.pointer (some ⟨b, 0, none⟩), .int .i64 id] w fun e w' => e = .returned (.tuple #[.int .i64 (gaim cs L id).1, .int .i64 (gaim cs L id).2]) ∧ Ch0 w w' := by
  obtain ⟨hg, ht, hoff, hiw, hwf⟩ := h
  obtain ⟨r, n, pn, vr, vd, ow, h⟩ := hg
  cases hat : gat L id with
  | none =>
    have e0 : gaim cs L id = (0, 0) := by unfold gaim; rw [hat]
    rw [e0]
    have hl := look_no h (gat_none hat)
    clear h hat e0 ht hoff hwf hiw
    go_enter Try.func40, Try.ntmps40
    go_wp2_with fail
    refine hl.mono ?_
    rintro e w1 ⟨rfl, hs⟩
    obtain rfl : w = w1 := hs
    clear hl
    go_wp2_with fail
    go_quiet (fail)
    go_wp2_with fail
    go_ret2
    exact ⟨rfl, (Ch.refl _ _).drewN _⟩
  | some nd =>
    obtain ⟨hnd, rfl⟩ := gat_mem hat
    have hid : nd.id ∈ ids L := List.mem_map.2 ⟨nd, hnd, rfl⟩
    have hl := look_yes h hid
    have hN := h.node nd hnd
    obtain ⟨a, c, ev, hlc, hcm⟩ := hN.refs.isSlice
    have hW := hwf nd hnd
    have HN := Lib.hid hN
    have HT := Lib.hid ht
    obtain ⟨g0, g1⟩ := h.cells
    obtain ⟨k0, k1, k2, k3, k4⟩ := hN.cells
    rw [ev] at k2
    replace ev := Lib.hid ev
    generalize pn nd.id = P at *
    have HH : Hid (∀ w', Ch0 w w' → Calls Try.prog 102 #[.pointer (some ⟨p, 0, none⟩), .int .i64 nd.cls, .int .i64 0] w' fun e w'' => e = .returned (.bool (holdsC cs nd.cls 0)) ∧ Ch0 w' w'') :=
      Lib.hid (fun w' c => holds_any lo hi p cs nd.cls 0 w' (HT.out.keep c (fun _ _ _ e => e)))
    cases hB : holdsC cs nd.cls 0 with
    | true =>
      have e0 : gaim cs L nd.id = (0, 0) := by unfold gaim; rw [hat]; simp [hB]
      rw [e0]
      rw [hB] at HH
      clear h hat e0 ht hoff hwf hiw hN hid hnd hW hB
      go_enter Try.func40, Try.ntmps40
      go_wp2_with fail
      refine hl.mono ?_
      rintro e w1 ⟨rfl, hs⟩
      obtain rfl : w = w1 := hs
      clear hl
      go_wp2_with fail
      go_region_held3 (fun w' => w'.cell? ⟨b, 0, none⟩ = some (.pointer (some ⟨p, 0, none⟩)) ∧ w'.cell? ⟨P, 1, none⟩ = some (.int .i64 nd.cls))
        (first | go_keep | exact ⟨cx.cell (by simpa using g0) (fun e => e), cx.cell (by simpa using k1) (fun e => e)⟩)
        ((go_at_call 102; refine (HH.out _ ?_).mono ?_; exact (Ch.refl _ _).drew; rintro e wx ⟨rfl, cx⟩))
      rename_i hheld
      have HC := Lib.hid ((Ch.refl (fun _ => False) w).drew.trans cx)
      clear hheld cx HH
      go_wp2_with fail
      go_ret2
      exact ⟨rfl, HC.out⟩
    | false =>
      obtain ⟨i, hi1, hi2⟩ : ∃ i : Nat, nd.cls = (i : Int) + 1 ∧ i < cs.length := ⟨(nd.cls - 1).toNat, by have := hW.c1; omega, by have := hW.c2; have := hW.c1; omega⟩
      have hr1 := hW.aim hB
      have e0 : gaim cs L nd.id = (nd.refs.getD 0 0, cs[i].kind) := by
        unfold gaim; rw [hat]; simp only [hB, Bool.false_eq_true, if_false]
        unfold kindOf
        rw [hi1, show ((i : Int) + 1 - 1).toNat = i by omega]
        simp [List.getD_eq_getElem?_getD, hi2]
      rw [e0]
      rw [hB] at HH
      have HO : Hid (∀ w', Ch0 w w' → Calls Try.prog 100 #[.pointer (some ⟨p, 0, none⟩), .int .i64 nd.cls] w' fun e w'' => e = .returned (.tuple #[cs[i].val, .int .i64 0]) ∧ Ch0 w' w'') :=
        Lib.hid (fun w' c => by rw [hi1]; exact of_yes lo hi p cs i hi2 w' (HT.out.keep c (fun _ _ _ e => e)))
      obtain ⟨g, o, c1, -, e1, hcell⟩ := SeesI.cell HN.out.refs.sees (by omega)
      rw [ev.out] at e1
      obtain ⟨rfl, rfl⟩ : a = some ⟨g, o, none⟩ ∧ c = c1 := by simpa using e1
      have hx := hcell 0 (by omega)
      rw [Nat.add_zero] at hx
      have hlen0 : (0 : Int) < nd.refs.length := by omega
      clear h hat e0 ht hoff hwf hiw hN hid hnd hW hB e1 hcell hi1
      unfold Cls.val at HO
      generalize nd.refs.getD 0 0 = X at *
      generalize cs[i].kind = K at *
      generalize cs[i].refs = K1 at *
      generalize cs[i].data = K2 at *
      generalize cs[i].final = K3 at *
      go_enter Try.func40, Try.ntmps40
      go_wp2_with fail
      refine hl.mono ?_
      rintro e w1 ⟨rfl, hs⟩
      obtain rfl : w = w1 := hs
      clear hl
      go_wp2_with fail
      go_region_held3 (fun w' => w'.cell? ⟨b, 0, none⟩ = some (.pointer (some ⟨p, 0, none⟩)) ∧ w'.cell? ⟨P, 1, none⟩ = some (.int .i64 nd.cls))
        (first | go_keep | exact ⟨cx.cell (by simpa using g0) (fun e => e), cx.cell (by simpa using k1) (fun e => e)⟩)
        ((go_at_call 102; refine (HH.out _ ?_).mono ?_; exact (Ch.refl _ _).drew; rintro e wx ⟨rfl, cx⟩))
      rename_i hheld
      have HC := (Ch.refl (fun _ => False) w).drew.trans cx
      replace g0 := HC.cell g0 (fun e => e)
      replace k1 := HC.cell k1 (fun e => e)
      replace k2 := HC.cell k2 (fun e => e)
      replace hx := HC.cell hx (fun e => e)
      replace HC := Lib.hid HC
      clear hheld cx HH
      have hz : (zeroValue 40).run Try.prog wx = .ok (.agg #[.int .i64 0, .int .i64 0, .int .i64 0, .bool false]) wx := zeroCls wx
      have n0 := World.new_ne wx _ g0
      have n1 := World.new_ne wx _ k1
      go_wp2_with fail
      go_region_held3 (fun w' => w'.cell? ⟨b, 0, none⟩ = some (.pointer (some ⟨p, 0, none⟩)) ∧ w'.cell? ⟨P, 1, none⟩ = some (.int .i64 nd.cls))
        (first | go_keep | exact ⟨cy.cell (by first | simpa using g0 | (simp [*])) (fun e => e), cy.cell (by first | simpa using k1 | (simp [*])) (fun e => e)⟩ | exact ⟨(cy.alloc _).cell (by first | simpa using g0 | (simp [*])) (fun e => e), (cy.alloc _).cell (by first | simpa using k1 | (simp [*])) (fun e => e)⟩)
        ((go_at_call 100; refine (HO.out _ ?_).mono ?_; (first | exact HC.out.drew | exact (HC.out.alloc _).drew | exact HC.out.drew.alloc _); rintro e wy ⟨rfl, cy⟩; (first | (have bx : wy.heap[wx.heap.size]? = some (.cells #[.int .i64 0, .int .i64 0, .int .i64 0, .bool false] 40 (0, 0)) := cy.keep (show _ = some (Obj.cells #[.int .i64 0, .int .i64 0, .int .i64 0, .bool false] 40 (0, 0)) from heap_alloc_new wx _) (fun e => e); have b0 : wy.cell? ⟨wx.heap.size, 0, none⟩ = some (.int .i64 0) := cell_of_row wy _ 0 _ _ _ bx; have b1 : wy.cell? ⟨wx.heap.size, 1, none⟩ = some (.int .i64 0) := cell_of_row wy _ 1 _ _ _ bx; have b2 : wy.cell? ⟨wx.heap.size, 2, none⟩ = some (.int .i64 0) := cell_of_row wy _ 2 _ _ _ bx; have b3 : wy.cell? ⟨wx.heap.size, 3, none⟩ = some (.bool false) := cell_of_row wy _ 3 _ _ _ bx; have f0 := frozen_of_row wy _ 0 _ _ bx; have f1 := frozen_of_row wy _ 1 _ _ bx; have f2 := frozen_of_row wy _ 2 _ _ bx; have f3 := frozen_of_row wy _ 3 _ _ bx) | skip)))
      · rename_i hheld
        have cz := (HC.out.drew.trans cy).alloc (.cells #[.int .i64 K, .int .i64 K1, .int .i64 K2, .bool K3] 40)
        have cw : Ch0 wx (wy.alloc (.cells #[.int .i64 K, .int .i64 K1, .int .i64 K2, .bool K3] 40)) := ((Ch.refl (fun _ => False) wx).drew.trans cy).alloc _
        have j2 := cw.cell k2 (fun e => e)
        have jx := cw.cell hx (fun e => e)
        replace cz := Lib.hid cz
        clear hheld cy cw HO k2 hx g0 k1 g1 k0 k3 k4 n0 n1 hz
        go_wp2_with fail
        go_quiet (fail)
        go_wp2_with fail
        go_ret2
        exact ⟨rfl, cz.out.drewN _⟩
      · rename_i hheld
        have cw : Ch0 wx ((((wy.setCell ⟨wx.heap.size, 0, none⟩ (.int .i64 K)).setCell ⟨wx.heap.size, 1, none⟩ (.int .i64 K1)).setCell ⟨wx.heap.size, 2, none⟩ (.int .i64 K2)).setCell ⟨wx.heap.size, 3, none⟩ (.bool K3)) := by
          have c1 : Ch (fun k => k = wx.heap.size) wy ((((wy.setCell ⟨wx.heap.size, 0, none⟩ (.int .i64 K)).setCell ⟨wx.heap.size, 1, none⟩ (.int .i64 K1)).setCell ⟨wx.heap.size, 2, none⟩ (.int .i64 K2)).setCell ⟨wx.heap.size, 3, none⟩ (.bool K3)) :=
            ((((Ch.refl (fun k => k = wx.heap.size) wy).setCell (p := ⟨wx.heap.size, 0, none⟩) (fun _ => rfl) _).setCell (p := ⟨wx.heap.size, 1, none⟩) (fun _ => rfl) _).setCell (p := ⟨wx.heap.size, 2, none⟩) (fun _ => rfl) _).setCell (p := ⟨wx.heap.size, 3, none⟩) (fun _ => rfl) _
          exact (((Ch.refl (fun _ => False) wx).alloc _).drew.trans cy).trans' c1 (fun _ _ e => e) (fun k hk e => by omega)
        have cz := Lib.hid (HC.out.trans cw)
        have j2 := cw.cell k2 (fun e => e)
        have jx := cw.cell hx (fun e => e)
        clear hheld cy cw HO k2 hx g0 k1 g1 k0 k3 k4 n0 n1 hz bx
        go_wp2_with fail
        go_quiet (fail)
        go_wp2_with fail
        go_ret2
        exact ⟨rfl, cz.out.drewN _⟩

end

/-! ### a new graph -/

set_option maxHeartbeats 400000 in
theorem gnew_any (tv : Option Addr) (w : World) :
    Calls Try.prog 31 #[.pointer tv] w fun e w' => ∃ b, e = .returned (.pointer (some ⟨b, 0, none⟩)) ∧ Gr w' b (fun k => w.heap.size ≤ k ∧ k < w'.heap.size) (.pointer tv) [] ∧ Ch0 w w' := by
  have mk1 : (Instr.makeMap 128 none).run Try.prog w = .ok (.map (some w.heap.size)) (w.alloc (.map #[] 0)) := by simp [Instr.makeMap, Result.andThen]
  have hc : Ch0 w ((w.alloc (.map #[] 0)).alloc (.cells #[.pointer tv, .map (some w.heap.size)] 130)) := ((Ch.refl _ _).alloc _).alloc _
  have hm : IM ((w.alloc (.map #[] 0)).alloc (.cells #[.pointer tv, .map (some w.heap.size)] 130)) w.heap.size 0 (gmap [] (fun _ => 0)) :=
    ((IM.made w).keep ((Ch.refl (fun _ => False) _).alloc _) (fun e => e)).congr (fun k => by simp [gmap, ids]) rfl
  have hb := heap_alloc_new (w.alloc (.map #[] 0)) (.cells #[.pointer tv, .map (some w.heap.size)] 130)
  rw [World.size_alloc] at hb
  have HG : Hid (Gr ((w.alloc (.map #[] 0)).alloc (.cells #[.pointer tv, .map (some w.heap.size)] 130)) (w.heap.size + 1) (fun k => w.heap.size ≤ k ∧ k < ((w.alloc (.map #[] 0)).alloc (.cells #[.pointer tv, .map (some w.heap.size)] 130)).heap.size) (.pointer tv) []) := by
    refine Lib.hid ⟨w.heap.size, 0, fun _ => 0, fun _ => .slice none 0 0, fun _ => .slice none 0 0, fun _ => none, hb, ⟨by omega, by simp⟩, ⟨Nat.le_refl _, by simp; omega⟩, fun k hk => hk.2, hm, fun nd h => (by cases h), fun nd h => (by cases h), List.Pairwise.nil⟩
  have HC := Lib.hid hc
  clear hc hm hb
  go_enter Try.func31, Try.ntmps31
  go_wp2_with fail
  go_ret
  exact ⟨_, rfl, HG.out, HC.out⟩

end Go.Proofs.Ytlmeponoadhheaa

/-
  A node that is added: the plain words, and the memory.
-/
namespace Go.Proofs.Ytlmeponoadhheaa
set_option linter.unusedVariables false
open Go.RowKit

/-- a node among others, their names rising -/
def ins (nd : GN) : List GN → List GN
  | [] => [nd]
  | a :: l => if a.id < nd.id then a :: ins nd l else nd :: a :: l

theorem mem_ins {nd x : GN} {L : List GN} : x ∈ ins nd L ↔ x = nd ∨ x ∈ L := by
  induction L with
  | nil => simp [ins]
  | cons a l ih =>
    unfold ins
    split
    · rw [List.mem_cons, ih, List.mem_cons]
      constructor
      · rintro (h | h | h)
        · exact .inr (.inl h)
        · exact .inl h
        · exact .inr (.inr h)
      · rintro (h | h | h)
        · exact .inr (.inl h)
        · exact .inl h
        · exact .inr (.inr h)
    · simp

theorem ins_ids {nd : GN} {L : List GN} (k : Int) : k ∈ ids (ins nd L) ↔ k = nd.id ∨ k ∈ ids L := by
  unfold ids
  simp only [List.mem_map, mem_ins]
  constructor
  · rintro ⟨x, h | h, rfl⟩
    · subst h; exact .inl rfl
    · exact .inr ⟨x, h, rfl⟩
  · rintro (h | ⟨x, h, rfl⟩)
    · exact ⟨nd, .inl rfl, h.symm⟩
    · exact ⟨x, .inr h, rfl⟩

theorem ins_rising {nd : GN} {L : List GN} (h : Rising L) (hn : nd.id ∉ ids L) : Rising (ins nd L) := by
  unfold Rising at *
  induction L with
  | nil => simp [ins]
  | cons a l ih =>
    have hne : a.id ≠ nd.id := fun e => hn (by simp [ids, e])
    have hnl : nd.id ∉ ids l := fun e => hn (by simp only [ids, List.map_cons, List.mem_cons] at e ⊢; exact .inr e)
    rw [List.pairwise_cons] at h
    unfold ins
    split
    · rename_i hlt
      rw [List.pairwise_cons]
      refine ⟨fun x hx => ?_, ih h.2 hnl⟩
      rcases mem_ins.1 hx with rfl | hx
      · exact hlt
      · exact h.1 x hx
    · rename_i hlt
      rw [List.pairwise_cons, List.pairwise_cons]
      refine ⟨fun x hx => ?_, h.1, h.2⟩
      rcases List.mem_cons.1 hx with rfl | hx
      · omega
      · have := h.1 x hx; omega

/-- names beyond all others come last -/
theorem ins_last {nd : GN} {L : List GN} (h : ∀ x ∈ L, x.id < nd.id) : ins nd L = L ++ [nd] := by
  induction L with
  | nil => rfl
  | cons a l ih =>
    unfold ins
    rw [if_pos (h a (by simp)), ih (fun x hx => h x (by simp [hx]))]
    rfl

def finalOf (cs : List Cls) (n : Int) : Bool := (cs.getD (n - 1).toNat Cls.none).final

def newNode (cs : List Cls) (id cls len : Int) : GN := ⟨id, cls, List.replicate (shapeC cs cls len).1.toNat 0, List.replicate (shapeC cs cls len).2.1.toNat 0, finalOf cs cls⟩

def addE (cs : List Cls) (L : List GN) (id cls len : Int) : Int :=
  if (shapeC cs cls len).2.2 ≠ 0 then (shapeC cs cls len).2.2 else if id < 1 ∨ id ∈ ids L then 1 else 0

def addL (cs : List Cls) (L : List GN) (id cls len : Int) : List GN := if addE cs L id cls len = 0 then ins (newNode cs id cls len) L else L

theorem addE_zero {cs : List Cls} {L : List GN} {id cls len : Int} (h : addE cs L id cls len = 0) : (shapeC cs cls len).2.2 = 0 ∧ 1 ≤ id ∧ id ∉ ids L := by
  unfold addE at h
  by_cases h1 : (shapeC cs cls len).2.2 ≠ 0
  · rw [if_pos h1] at h; exact absurd h h1
  · rw [if_neg h1] at h
    by_cases h2 : id < 1 ∨ id ∈ ids L
    · rw [if_pos h2] at h; omega
    · exact ⟨by omega, by omega, fun e => h2 (.inr e)⟩

theorem shapeC_cls {cs : List Cls} {n l : Int} (h : (shapeC cs n l).2.2 = 0) : 1 ≤ n ∧ n ≤ cs.length := by
  unfold shapeC at h
  by_cases hn : 1 ≤ n ∧ n ≤ cs.length
  · exact hn
  · rw [dif_neg hn] at h; simp at h

theorem newNode_wf {lo hi p : Nat} {cs : List Cls} {w : World} (ht : Tab lo hi w p cs) {id cls len : Int} (h : (shapeC cs cls len).2.2 = 0) (hid : 1 ≤ id) (him : id ≤ 9223372036854775807) : WfN cs (newNode cs id cls len) := by
  obtain ⟨b1, b2, b3, b4⟩ := shapeC_bounds ht cls len h
  obtain ⟨c1, c2⟩ := shapeC_cls h
  refine ⟨c1, c2, ?_, ?_, ?_, hid, him⟩
  · simp [newNode]; omega
  · simp [newNode]; omega
  · intro hh
    have hr := allRight_get ht.right (cls - 1).toNat (by omega)
    replace hh : holdsC cs cls 0 = false := hh
    unfold holdsC at hh
    rw [dif_pos ⟨c1, c2⟩] at hh
    unfold shapeC shape1 at h
    rw [dif_pos ⟨c1, c2⟩] at h
    simp only [newNode, List.length_replicate]
    unfold shapeC shape1
    rw [dif_pos ⟨c1, c2⟩]
    generalize cs[(cls - 1).toNat]'(by omega) = c at *
    unfold holds1 at hh
    simp at hh
    by_cases e1 : len < 0 ∨ 0 < len ∧ c.kind ≠ 2
    · rw [if_pos e1] at h; simp at h
    · rw [if_neg e1] at h ⊢
      by_cases e2 : 30 < len
      · rw [if_pos e2] at h; simp at h
      · rw [if_neg e2]
        rcases hr with ⟨k, _⟩ | ⟨k, _⟩ | ⟨_, _, k, _⟩
        · exact absurd k hh.1
        · exact absurd k hh.2
        · dsimp only; omega

theorem addL_wf {lo hi p : Nat} {cs : List Cls} {w : World} {L : List GN} (ht : Tab lo hi w p cs) (hw : ∀ nd ∈ L, WfN cs nd) (id cls len : Int) (him : id ≤ 9223372036854775807) : ∀ nd ∈ addL cs L id cls len, WfN cs nd := by
  intro nd hnd
  unfold addL at hnd
  split at hnd
  · rename_i e
    obtain ⟨h1, h2, h3⟩ := addE_zero e
    rcases mem_ins.1 hnd with rfl | h
    · exact newNode_wf ht h1 h2 him
    · exact hw nd h
  · exact hw nd hnd

/-- a function with one value other, at an integer -/
def updI {α : Type} (f : Int → α) (i : Int) (x : α) : Int → α := fun k => if k = i then x else f k
theorem updI_same {α : Type} (f : Int → α) (i : Int) (x : α) : updI f i x i = x := if_pos rfl
theorem updI_other {α : Type} (f : Int → α) (i : Int) (x : α) {k : Int} (h : k ≠ i) : updI f i x k = f k := if_neg h

/-- The graph behind an Add: the new node lies in blocks that are new; the map has got its name. -/
theorem GS.add {w w' : World} {b : Nat} {O : Nat → Prop} {tv : Value} {L : List GN} {r n n' : Nat} {pn : Int → Nat} {vr vd : Int → Value} {ow : Nat → Option Int} (h : GS w b O tv L r n pn vr vd ow)
    {nd : GN} {P : Nat} {Vr Vd : Value} (hid : nd.id ∉ ids L) (c : Ch (fun k => k = r) w w') (hN : NodeAt w' P nd Vr Vd) (hf : ∀ k, nblk P Vr Vd k → w.heap.size ≤ k)
    (hm : IM w' r n' (iput (gmap L pn) nd.id (.pointer (some ⟨P, 0, none⟩)))) :
    Gr w' b (fun k => O k ∨ (w.heap.size ≤ k ∧ k < w'.heap.size)) tv (ins nd L) ∧ Turn w w' O (fun k => O k ∨ (w.heap.size ≤ k ∧ k < w'.heap.size)) := by
  have hsz := c.size
  have hne : ∀ x ∈ L, x.id ≠ nd.id := fun x hx e => hid (List.mem_map.2 ⟨x, hx, e⟩)
  refine ⟨⟨r, n', updI pn nd.id P, updI vr nd.id Vr, updI vd nd.id Vd, fun k => if w.heap.size ≤ k then some nd.id else ow k, c.keep h.blk h.b_ne_r, .inl h.ownB, .inl h.ownR, ?_, ?_, ?_, ?_, ins_rising h.rise hid⟩, c.mono (fun k _ e => by rw [e]; exact h.ownR), ?_⟩
  · rintro k (hk | hk)
    · have := h.small k hk; omega
    · exact hk.2
  · refine hm.congr (fun k => ?_) rfl
    unfold gmap iput
    by_cases e : k = nd.id
    · rw [if_pos e, if_pos ((ins_ids k).2 (.inl e)), e, updI_same]
    · rw [if_neg e, updI_other _ _ _ e]
      show (if k ∈ ids L then _ else _) = _
      by_cases e2 : k ∈ ids L
      · rw [if_pos e2, if_pos ((ins_ids k).2 (.inr e2))]
      · rw [if_neg e2, if_neg (fun h => ((ins_ids k).1 h).elim e e2)]
  · intro x hx
    rcases mem_ins.1 hx with rfl | hx
    · rw [updI_same, updI_same, updI_same]; exact hN
    · rw [updI_other _ _ _ (hne x hx), updI_other _ _ _ (hne x hx), updI_other _ _ _ (hne x hx)]
      exact (h.node x hx).keep c (fun k hk e => h.ne_r hx hk e)
  · intro x hx k hk
    rcases mem_ins.1 hx with rfl | hx
    · rw [updI_same, updI_same, updI_same] at hk
      have h1 := hf k hk
      exact ⟨.inr ⟨h1, hN.lt hk⟩, if_pos h1⟩
    · rw [updI_other _ _ _ (hne x hx), updI_other _ _ _ (hne x hx), updI_other _ _ _ (hne x hx)] at hk
      have h1 := h.ownN x hx k hk
      have h2 := h.small k h1.1
      exact ⟨.inl h1.1, by rw [if_neg (by omega)]; exact h1.2⟩
  · rintro k (hk | hk)
    · exact .inl hk
    · exact .inr hk.1

/-- make, of so many integers -/
theorem make_ints (w : World) (n : Nat) (hn : n ≤ 1000000) :
    (Instr.makeSlice 34 (.int .i64 (n : Int)) (.int .i64 (n : Int))).run Try.prog w = .ok (.slice (some ⟨w.heap.size, 0, none⟩) n n) (w.alloc (.cells (ints (List.replicate n 0)) 3)) := by
  obtain ⟨i0, hi, hz0, hz1, hz2⟩ := info_parts Try.info3
  have := run_make (P := Try.prog) w 34 3 i0 _ Try.underlying34 hi hz0 .i64 .i64 n n (by omega) (by omega) (by rw [hz2]; omega) (by omega)
  simp only [hz1, Int.toNat_natCast, Nat.mul_one, madeCells_zero] at this
  exact this

end Go.Proofs.Ytlmeponoadhheaa

/-
  Contract of (*graph.Graph).Add.
-/
namespace Go.Proofs.Ytlmeponoadhheaa
set_option linter.unusedVariables false
open Go.RowKit

theorem rowAt_new {w : World} {g n : Nat} {xs : List Int} (h : w.heap[g]? = some (.cells (ints xs) 3 (0, 0))) (hn : xs.length = n) (hm : n ≤ maxLen) : RowAt w 3 1 (.slice (some ⟨g, 0, none⟩) n n) xs.length (xs.map (Value.int .i64)) := by
  subst hn
  exact ⟨by simp, .inr ⟨g, 0, xs.length, _, rfl, h, Nat.le_refl _, hm, by simp [ints], by simp [ints, List.take_of_length_le]⟩⟩

/-- what a new node's three blocks are, in either order -/
theorem three_blocks (W : World) (A1 A2 A3 : Obj) : (((W.alloc A1).alloc A2).alloc A3).drew.heap[W.heap.size]? = some A1 ∧ (((W.alloc A1).alloc A2).alloc A3).drew.heap[W.heap.size + 1]? = some A2 ∧ (((W.alloc A1).alloc A2).alloc A3).drew.heap[W.heap.size + 1 + 1]? = some A3 := by
  have h1 := heap_alloc_new W A1
  have h2 := heap_alloc_new (W.alloc A1) A2
  have h3 := heap_alloc_new ((W.alloc A1).alloc A2) A3
  rw [World.size_alloc] at h2 h3
  rw [World.size_alloc] at h3
  have c2 : Ch0 (W.alloc A1) (((W.alloc A1).alloc A2).alloc A3).drew := (((Ch.refl _ _).alloc _).alloc _).drew
  have c3 : Ch0 ((W.alloc A1).alloc A2) (((W.alloc A1).alloc A2).alloc A3).drew := ((Ch.refl _ _).alloc _).drew
  exact ⟨c2.keep h1 (fun e => e), c3.keep h2 (fun e => e), h3⟩

section
variable {w : World} {b : Nat} {O : Nat → Prop} {tv : Value} {L : List GN} {cs : List Cls} {p lo hi : Nat}

set_option maxRecDepth 100000 in
set_option maxHeartbeats 2000000 in
theorem add_of (h : Gt w b O cs L p lo hi) (id cls len : Int) (him : id ≤ 9223372036854775807) :
    Calls Try.prog 32 #[.pointer (some ⟨b, 0, none⟩), .int .i64 id, .int .i64 cls, .int .i64 len] w fun e w' => e = .returned (.int .i64 (addE cs L id cls len)) ∧ ∃ O', Gt w' b O' cs (addL cs L id cls len) p lo hi ∧ Turn w w' O O' := by
  have hG := h
  obtain ⟨hg, ht, hoff, hiw, hwf⟩ := h
  obtain ⟨r, n, pn, vr, vd, ow, h⟩ := hg
  obtain ⟨g0, g1⟩ := h.cells
  have hsh := shape_any lo hi p cs cls len w ht
  have hbad : ∀ w', Ch0 w w' → addE cs L id cls len ≠ 0 → ∃ O', Gt w' b O' cs (addL cs L id cls len) p lo hi ∧ Turn w w' O O' := by
    intro w' c he
    unfold addL
    rw [if_neg he]
    exact ⟨O, hG.new c, Turn.of0 O c⟩
  by_cases hs : (shapeC cs cls len).2.2 ≠ 0
  · have e1 : addE cs L id cls len = (shapeC cs cls len).2.2 := by unfold addE; rw [if_pos hs]
    rw [e1] at hbad ⊢
    have t0 : ((shapeC cs cls len).2.2 != 0) = true := by simpa using hs
    replace hbad := Lib.hid hbad
    replace hs := Lib.hid hs
    clear hG ht hoff hiw hwf h e1
    generalize (shapeC cs cls len).2.2 = s3 at *
    generalize (shapeC cs cls len).2.1 = s2 at *
    generalize (shapeC cs cls len).1 = s1 at *
    go_enter Try.func32, Try.ntmps32
    go_wp2_with fail
    refine hsh.mono ?_
    rintro e w1 ⟨rfl, c1⟩
    have HE := Lib.hid (hbad.out _ c1 hs.out)
    clear hsh c1 hbad
    go_wp2_with fail
    go_ret
    exact ⟨rfl, HE.out⟩
  · have hs0 : (shapeC cs cls len).2.2 = 0 := Classical.byContradiction hs
    obtain ⟨b1, b2, b3, b4⟩ := shapeC_bounds ht cls len hs0
    obtain ⟨cl1, cl2⟩ := shapeC_cls hs0
    obtain ⟨i, hi1, hi2⟩ : ∃ i : Nat, cls = (i : Int) + 1 ∧ i < cs.length := ⟨(cls - 1).toNat, by omega, by omega⟩
    rw [hs0] at hsh
    have t0 : ((0 : Int) != 0) = false := rfl
    by_cases h1 : id < 1
    · have e1 : addE cs L id cls len = 1 := by unfold addE; rw [if_neg hs, if_pos (.inl h1)]
      rw [e1] at hbad ⊢
      replace hbad := Lib.hid hbad
      clear hG ht hoff hiw hwf h e1 hs hs0 hi1 b1 b2 b3 b4 cl1 cl2
      generalize (shapeC cs cls len).2.1 = s2 at *
      generalize (shapeC cs cls len).1 = s1 at *
      go_enter Try.func32, Try.ntmps32
      go_wp2_with fail
      refine hsh.mono ?_
      rintro e w1 ⟨rfl, c1⟩
      have HE := Lib.hid (hbad.out _ c1 (by omega))
      clear hsh c1 hbad
      go_wp2_with fail
      go_ret
      exact ⟨rfl, HE.out⟩
    · have h1' : 1 ≤ id := by omega
      by_cases h2 : id ∈ ids L
      · have e1 : addE cs L id cls len = 1 := by unfold addE; rw [if_neg hs, if_pos (.inr h2)]
        rw [e1] at hbad ⊢
        have HL : Hid (∀ w', Ch0 w w' → Calls Try.prog 99 #[.pointer (some ⟨b, 0, none⟩), .int .i64 id] w' fun e w'' => e = .returned (.pointer (some ⟨pn id, 0, none⟩)) ∧ SameW w' w'') := Lib.hid (fun w' c => look_yes (h.keep c (fun _ _ e => e)) h2)
        replace hbad := Lib.hid hbad
        clear hG ht hoff hiw hwf h e1 hs hs0 hi1 b1 b2 b3 b4 cl1 cl2 h1 h2
        generalize (shapeC cs cls len).2.1 = s2 at *
        generalize (shapeC cs cls len).1 = s1 at *
        go_enter Try.func32, Try.ntmps32
        go_wp2_with fail
        refine hsh.mono ?_
        rintro e w1 ⟨rfl, c1⟩
        have hl := HL.out _ c1
        have HE := Lib.hid (hbad.out _ c1 (by omega))
        clear hsh c1 hbad
        go_wp2_with fail
        refine hl.mono ?_
        rintro e w2 ⟨rfl, hs⟩
        obtain rfl : w1 = w2 := hs
        clear hl
        go_wp2_with fail
        go_ret
        exact ⟨rfl, HE.out⟩
      · have e1 : addE cs L id cls len = 0 := by unfold addE; rw [if_neg hs, if_neg (by rintro (e | e); exact h1 e; exact h2 e)]
        rw [e1]
        have HL : Hid (∀ w', Ch0 w w' → Calls Try.prog 99 #[.pointer (some ⟨b, 0, none⟩), .int .i64 id] w' fun e w'' => e = .returned (.pointer none) ∧ SameW w' w'') := Lib.hid (fun w' c => look_no (h.keep c (fun _ _ e => e)) h2)
        have HO : Hid (∀ w', Ch0 w w' → Calls Try.prog 100 #[.pointer (some ⟨p, 0, none⟩), .int .i64 cls] w' fun e w'' => e = .returned (.tuple #[cs[i].val, .int .i64 0]) ∧ Ch0 w' w'') :=
          Lib.hid (fun w' c => by rw [hi1]; exact of_yes lo hi p cs i hi2 w' (ht.keep c (fun _ _ _ e => e)))
        obtain ⟨nr, hnr⟩ := Int.eq_ofNat_of_zero_le b1
        obtain ⟨ndt, hnd⟩ := Int.eq_ofNat_of_zero_le b3
        have hfin : cs[i].final = finalOf cs cls := by
          unfold finalOf
          rw [hi1, show ((i : Int) + 1 - 1).toNat = i by omega]
          simp [List.getD_eq_getElem?_getD, hi2]
        have hLN : addL cs L id cls len = ins ⟨id, cls, List.replicate nr 0, List.replicate ndt 0, cs[i].final⟩ L := by
          unfold addL; rw [if_pos e1, hfin]
          unfold newNode
          rw [hnr, hnd]; rfl
        have hfine : ∀ w3 w' n' P Vr Vd, Ch0 w w3 → Ch (fun k => k = r) w3 w' → NodeAt w' P ⟨id, cls, List.replicate nr 0, List.replicate ndt 0, cs[i].final⟩ Vr Vd → (∀ k, nblk P Vr Vd k → w.heap.size ≤ k) →
            IM w' r n' (iput (gmap L pn) id (.pointer (some ⟨P, 0, none⟩))) → ∃ O', Gt w' b O' cs (addL cs L id cls len) p lo hi ∧ Turn w w' O O' := by
          intro w3 w' n' P Vr Vd c3 c4 hN hf hm
          obtain ⟨q1, q2⟩ := h.add (w' := w') (nd := ⟨id, cls, List.replicate nr 0, List.replicate ndt 0, cs[i].final⟩) h2 (c3.trans' c4 (fun _ _ e => e.elim) (fun _ _ e => e)) hN hf hm
          refine ⟨_, hG.turn (by rw [hLN]; exact q1) q2 (addL_wf ht hwf id cls len him), q2⟩
        have hmap : ∀ w', Ch0 w w' → IM w' r n (gmap L pn) := fun w' c => h.map.keep c (fun e => e)
        rw [hnr, hnd] at hsh
        rw [hnr] at b2
        rw [hnd] at b4
        have hrl : r < w.heap.size := h.map.lt
        have hbr : b ≠ r := h.b_ne_r
        have hbl : b < w.heap.size := lt_of_block h.blk
        replace hfine := Lib.hid hfine
        replace hmap := Lib.hid hmap
        clear hG ht hoff hiw hwf h e1 hs hs0 hi1 b1 b3 cl1 cl2 h1 h2 hnr hnd hfin hLN hbad
        unfold Cls.val at HO
        generalize cs[i].kind = K at *
        generalize cs[i].refs = K1 at *
        generalize cs[i].data = K2 at *
        generalize cs[i].final = K3 at *
        go_enter Try.func32, Try.ntmps32
        go_wp2_with fail
        refine hsh.mono ?_
        rintro e w1 ⟨rfl, c1⟩
        have hl := HL.out _ c1
        replace g0 := c1.cell g0 (fun e => e)
        replace g1 := c1.cell g1 (fun e => e)
        replace c1 := Lib.hid c1
        clear hsh
        go_wp2_with fail
        refine hl.mono ?_
        rintro e w2 ⟨rfl, hs⟩
        obtain rfl : w1 = w2 := hs
        have ho := HO.out _ c1.out
        clear hl HO HL
        go_wp2_with fail
        refine ho.mono ?_
        rintro e w2 ⟨rfl, c2⟩
        have c3 := c1.out.trans c2
        have hz : (zeroValue 40).run Try.prog w2 = .ok (.agg #[.int .i64 0, .int .i64 0, .int .i64 0, .bool false]) w2 := zeroCls w2
        replace g0 := c2.cell g0 (fun e => e)
        replace g1 := c2.cell g1 (fun e => e)
        clear ho c1 c2
        have cb := (Ch.refl (fun _ => False) w2).alloc (.cells #[.int .i64 K, .int .i64 K1, .int .i64 K2, .bool K3] 40)
        have bx := heap_alloc_new w2 (.cells #[.int .i64 K, .int .i64 K1, .int .i64 K2, .bool K3] 40)
        replace g1 := cb.cell g1 (fun e => e)
        have c4 := c3.trans cb
        have k3 : (w2.alloc (.cells #[.int .i64 K, .int .i64 K1, .int .i64 K2, .bool K3] 40)).cell? ⟨w2.heap.size, 3, none⟩ = some (.bool K3) := cell_of_row _ w2.heap.size 3 _ _ _ bx
        go_wp2_with fail
        generalize hB : w2.heap.size = B at *
        generalize w2.alloc (.cells #[.int .i64 K, .int .i64 K1, .int .i64 K2, .bool K3] 40) = W0 at *
        have hBW := lt_of_block bx
        have mkR := fun (w : World) => make_ints w nr (by omega)
        have mkD := fun (w : World) => make_ints w ndt (by omega)
        obtain ⟨CR, hCR⟩ : ∃ CR, CR = ints (List.replicate nr 0) := ⟨_, rfl⟩
        obtain ⟨CD, hCD⟩ : ∃ CD, CD = ints (List.replicate ndt 0) := ⟨_, rfl⟩
        simp only [← hCR] at mkR
        simp only [← hCD] at mkD
        replace hCR := Lib.hid hCR
        replace hCD := Lib.hid hCD
        have hbW : b < W0.heap.size := by have := c4.size; omega
        have m1 : b ≠ W0.heap.size := by omega
        have m2 : b ≠ W0.heap.size + 1 := by omega
        have m3 : b ≠ W0.heap.size + 1 + 1 := by omega
        have m4 : B ≠ W0.heap.size := by omega
        have m5 : B ≠ W0.heap.size + 1 := by omega
        have m6 : B ≠ W0.heap.size + 1 + 1 := by omega
        have key : ∀ A1 A2 A3 : Obj, (((W0.alloc A1).alloc A2).alloc A3).drew.cell? ⟨b, 1, none⟩ = some (.map (some r)) ∧ (((W0.alloc A1).alloc A2).alloc A3).drew.cell? ⟨B, 3, none⟩ = some (.bool K3) := fun A1 A2 A3 =>
          ⟨(((((Ch.refl (fun _ => False) W0).alloc _).alloc _).alloc _).drew).cell g1 (fun e => e), (((((Ch.refl (fun _ => False) W0).alloc _).alloc _).alloc _).drew).cell k3 (fun e => e)⟩
        replace key := Lib.hid key
        have key2 : ∀ A1 A2 : Obj, ((W0.alloc A1).alloc A2).drew.cell? ⟨b, 1, none⟩ = some (.map (some r)) ∧ ((W0.alloc A1).alloc A2).drew.cell? ⟨B, 3, none⟩ = some (.bool K3) := fun A1 A2 =>
          ⟨((((Ch.refl (fun _ => False) W0).alloc _).alloc _).drew).cell g1 (fun e => e), ((((Ch.refl (fun _ => False) W0).alloc _).alloc _).drew).cell k3 (fun e => e)⟩
        replace key2 := Lib.hid key2
        have key1 : ∀ A1 : Obj, (W0.alloc A1).drew.cell? ⟨b, 1, none⟩ = some (.map (some r)) ∧ (W0.alloc A1).drew.cell? ⟨B, 3, none⟩ = some (.bool K3) := fun A1 =>
          ⟨(((Ch.refl (fun _ => False) W0).alloc _).drew).cell g1 (fun e => e), (((Ch.refl (fun _ => False) W0).alloc _).drew).cell k3 (fun e => e)⟩
        replace key1 := Lib.hid key1
        obtain ⟨wA, hupA, hmA, uA, sA⟩ := (hmap.out _ (((c4.alloc (.cells CR 3)).alloc (.cells CD 3)).alloc (.cells #[.int .i64 id, .int .i64 cls, .slice (some ⟨W0.heap.size, 0, none⟩) nr nr, .slice (some ⟨W0.heap.size + 1, 0, none⟩) ndt ndt, .bool K3] 36)).drew).update (P := Try.prog) (t := 128) Try.underlying128 Try.underlying3 id (.pointer (some ⟨W0.heap.size + 1 + 1, 0, none⟩))
        obtain ⟨wB, hupB, hmB, uB, sB⟩ := (hmap.out _ (((c4.alloc (.cells CD 3)).alloc (.cells CR 3)).alloc (.cells #[.int .i64 id, .int .i64 cls, .slice (some ⟨W0.heap.size + 1, 0, none⟩) nr nr, .slice (some ⟨W0.heap.size, 0, none⟩) ndt ndt, .bool K3] 36)).drew).update (P := Try.prog) (t := 128) Try.underlying128 Try.underlying3 id (.pointer (some ⟨W0.heap.size + 1 + 1, 0, none⟩))
        have hBr : B ≠ r := by have := c3.size; omega
        have kA := Lib.hid (And.intro (uA.cell (key.out _ _ _).1 hbr) (uA.cell (key.out _ _ _).2 hBr))
        have kB := Lib.hid (And.intro (uB.cell (key.out _ _ _).1 hbr) (uB.cell (key.out _ _ _).2 hBr))
        replace hmA := Lib.hid hmA
        replace hmB := Lib.hid hmB
        replace uA := Lib.hid uA
        replace uB := Lib.hid uB
        clear sA sB
        go_region_held3 (fun w' => w'.cell? ⟨b, 1, none⟩ = some (.map (some r)) ∧ w'.cell? ⟨B, 3, none⟩ = some (.bool K3)) (first | exact kA.out | exact kB.out | exact key.out _ _ _ | exact key1.out _ | exact key2.out _ _ | go_keep) (fail)
        · have hE : ∃ O', Gt wA b O' cs (addL cs L id cls len) p lo hi ∧ Turn w wA O O' := by
            obtain ⟨t1, t2, t3⟩ := three_blocks W0 (.cells CR 3) (.cells CD 3) (.cells #[.int .i64 id, .int .i64 cls, .slice (some ⟨W0.heap.size, 0, none⟩) nr nr, .slice (some ⟨W0.heap.size + 1, 0, none⟩) ndt ndt, .bool K3] 36)
            have q1 := t1.trans (show _ = some (Obj.cells (ints (List.replicate nr 0)) 3 (0, 0)) by rw [hCR.out])
            have q2 := t2.trans (show _ = some (Obj.cells (ints (List.replicate ndt 0)) 3 (0, 0)) by rw [hCD.out])
            have hW := c4.size
            have e1 := (rowAt_new q1 (n := nr) (by simp) (by unfold maxLen; omega)).keep uA.out (fun k hk e => by simp [rblk] at hk; omega)
            have e2 := (rowAt_new q2 (n := ndt) (by simp) (by unfold maxLen; omega)).keep uA.out (fun k hk e => by simp [rblk] at hk; omega)
            refine hfine.out _ wA _ (W0.heap.size + 1 + 1) _ _ (((c4.alloc _).alloc _).alloc _).drew uA.out ⟨uA.out.keep t3 (by omega), e1, e2, fun k h1 h2 => by simp [rblk] at h1 h2; omega⟩ ?_ hmA.out
            rintro k (e | e | e)
            · omega
            · simp [rblk] at e; omega
            · simp [rblk] at e; omega
          replace hE := Lib.hid hE
          clear kA kB hupA hupB hmA hmB uA uB g0 g1 k3 bx key key1 key2 c3 c4 cb m1 m2 m3 m4 m5 m6 hz mkR mkD
          go_wp2_with fail
          go_ret
          exact ⟨rfl, hE.out⟩
        · have hE : ∃ O', Gt wB b O' cs (addL cs L id cls len) p lo hi ∧ Turn w wB O O' := by
            obtain ⟨t1, t2, t3⟩ := three_blocks W0 (.cells CD 3) (.cells CR 3) (.cells #[.int .i64 id, .int .i64 cls, .slice (some ⟨W0.heap.size + 1, 0, none⟩) nr nr, .slice (some ⟨W0.heap.size, 0, none⟩) ndt ndt, .bool K3] 36)
            have q1 := t2.trans (show _ = some (Obj.cells (ints (List.replicate nr 0)) 3 (0, 0)) by rw [hCR.out])
            have q2 := t1.trans (show _ = some (Obj.cells (ints (List.replicate ndt 0)) 3 (0, 0)) by rw [hCD.out])
            have hW := c4.size
            have e1 := (rowAt_new q1 (n := nr) (by simp) (by unfold maxLen; omega)).keep uB.out (fun k hk e => by simp [rblk] at hk; omega)
            have e2 := (rowAt_new q2 (n := ndt) (by simp) (by unfold maxLen; omega)).keep uB.out (fun k hk e => by simp [rblk] at hk; omega)
            refine hfine.out _ wB _ (W0.heap.size + 1 + 1) _ _ (((c4.alloc _).alloc _).alloc _).drew uB.out ⟨uB.out.keep t3 (by omega), e1, e2, fun k h1 h2 => by simp [rblk] at h1 h2; omega⟩ ?_ hmB.out
            rintro k (e | e | e)
            · omega
            · simp [rblk] at e; omega
            · simp [rblk] at e; omega
          replace hE := Lib.hid hE
          clear kA kB hupA hupB hmA hmB uA uB g0 g1 k3 bx key key1 key2 c3 c4 cb m1 m2 m3 m4 m5 m6 hz mkR mkD
          go_wp2_with fail
          go_ret
          exact ⟨rfl, hE.out⟩

end

end Go.Proofs.Ytlmeponoadhheaa

/-
  What is kept: the plain words, and the memory.
-/
namespace Go.Proofs.Ytlmeponoadhheaa
set_option linter.unusedVariables false
open Go.RowKit

/-- references to what is gone are 0 -/
def cutR (S : List Int) (l : List Int) : List Int := l.map (fun t => if t ∈ S then t else 0)

/-- .. the first i ones -/
def cutTo (S : List Int) (i : Nat) (l : List Int) : List Int := l.mapIdx (fun k t => if k < i then (if t ∈ S then t else 0) else t)

theorem cutTo_zero (S : List Int) (l : List Int) : cutTo S 0 l = l := by
  apply List.ext_getElem
  · simp [cutTo]
  · intro i h1 h2; simp [cutTo]

theorem cutTo_length (S : List Int) (i : Nat) (l : List Int) : (cutTo S i l).length = l.length := by simp [cutTo]

theorem cutTo_all (S : List Int) (l : List Int) : cutTo S l.length l = cutR S l := by
  apply List.ext_getElem
  · simp [cutTo, cutR]
  · intro i h1 h2
    have : i < l.length := by simpa [cutTo] using h1
    simp [cutTo, cutR, this]

theorem cutTo_get (S : List Int) (i : Nat) (l : List Int) (h : i < l.length) : (cutTo S i l).getD i 0 = l.getD i 0 := by
  simp [cutTo, List.getD_eq_getElem?_getD, h]

theorem cutTo_in (S : List Int) (i : Nat) (l : List Int) (h : i < l.length) (hm : l.getD i 0 ∈ S) : cutTo S (i + 1) l = cutTo S i l := by
  apply List.ext_getElem
  · simp [cutTo]
  · intro k h1 h2
    have hk : k < l.length := by simpa [cutTo] using h1
    simp only [cutTo, List.getElem_mapIdx]
    by_cases e : k = i
    · subst e
      have : l[k] ∈ S := by simpa [List.getD_eq_getElem?_getD, h] using hm
      simp [this]
    · by_cases e2 : k < i
      · rw [if_pos (by omega), if_pos e2]
      · rw [if_neg (by omega), if_neg e2]

theorem cutTo_out (S : List Int) (i : Nat) (l : List Int) (h : i < l.length) (hm : l.getD i 0 ∉ S) : cutTo S (i + 1) l = (cutTo S i l).set i 0 := by
  apply List.ext_getElem
  · simp [cutTo]
  · intro k h1 h2
    have hk : k < l.length := by simpa [cutTo] using h1
    rw [List.getElem_set]
    simp only [cutTo, List.getElem_mapIdx]
    by_cases e : i = k
    · subst e
      have : l[i] ∉ S := by simpa [List.getD_eq_getElem?_getD, h] using hm
      simp [this]
    · rw [if_neg e]
      by_cases e2 : k < i
      · rw [if_pos (by omega), if_pos e2]
      · rw [if_neg (by omega), if_neg e2]

/-- the nodes that are kept -/
def keepN (L : List GN) (ks : List Int) : List GN := L.filter (fun nd => decide (nd.id ∈ ks))

def cutN (S : List Int) (nd : GN) : GN := { nd with refs := cutR S nd.refs }

/-- a graph behind Keep -/
def keepL (L : List GN) (ks : List Int) : List GN := (keepN L ks).map (cutN (ids (keepN L ks)))

/-- nodes with other references -/
def setR (K : List GN) (R : Int → List Int) : List GN := K.map (fun nd => { nd with refs := R nd.id })

theorem setR_ids (K : List GN) (R : Int → List Int) : ids (setR K R) = ids K := by
  unfold ids setR; rw [List.map_map]; rfl

theorem setR_upd (K : List GN) (R : Int → List Int) (x : Int) (i : Nat) (y : Int) :
    upd (setR K R) x (fun nd => { nd with refs := nd.refs.set i y }) = setR K (updI R x ((R x).set i y)) := by
  unfold upd setR
  rw [List.map_map]
  apply List.map_congr_left
  intro nd _
  simp only [Function.comp]
  by_cases e : nd.id = x
  · rw [if_pos e, e, updI_same]
  · rw [if_neg e, updI_other _ _ _ e]

theorem setR_same {K : List GN} {R R' : Int → List Int} (h : ∀ nd ∈ K, R nd.id = R' nd.id) : setR K R = setR K R' := by
  unfold setR
  apply List.map_congr_left
  intro nd hnd
  rw [h nd hnd]

theorem keepN_rising {L : List GN} (h : Rising L) (ks : List Int) : Rising (keepN L ks) := List.Pairwise.filter _ h

theorem mem_keepN {L : List GN} {ks : List Int} {nd : GN} : nd ∈ keepN L ks ↔ nd ∈ L ∧ nd.id ∈ ks := by simp [keepN]

theorem keepN_ids {L : List GN} {ks : List Int} (k : Int) : k ∈ ids (keepN L ks) ↔ k ∈ ids L ∧ k ∈ ks := by
  unfold ids
  simp only [List.mem_map, mem_keepN]
  constructor
  · rintro ⟨x, ⟨h1, h2⟩, rfl⟩; exact ⟨⟨x, h1, rfl⟩, h2⟩
  · rintro ⟨⟨x, h1, rfl⟩, h2⟩; exact ⟨x, ⟨h1, h2⟩, rfl⟩

theorem rising_nodup {L : List GN} (h : Rising L) : (ids L).Nodup := by
  unfold ids List.Nodup
  rw [List.pairwise_map]
  exact List.Pairwise.imp (R := fun (a b : GN) => a.id < b.id) (fun {a b} q => (by omega : a.id ≠ b.id)) h

theorem IR.congr {w : World} {r b n : Nat} {f g : Int → Option Value} {left : Int → Bool} (h : IR w r b n f left) (e : ∀ k, f k = g k) : IR w r b n g left := by
  have : f = g := funext e
  rw [← this]; exact h

/-- fewer nodes -/
theorem GS.sub {w w' : World} {b : Nat} {O : Nat → Prop} {tv : Value} {L : List GN} {r n m : Nat} {pn : Int → Nat} {vr vd : Int → Value} {ow : Nat → Option Int} (h : GS w b O tv L r n pn vr vd ow) {ks : List Int}
    (c : Ch (fun k => k = r) w w') (hm : IM w' r m (gmap (keepN L ks) pn)) : GS w' b O tv (keepN L ks) r m pn vr vd ow where
  blk := c.keep h.blk h.b_ne_r
  ownB := h.ownB
  ownR := h.ownR
  small := fun k hk => Nat.lt_of_lt_of_le (h.small k hk) c.size
  map := hm
  node := fun nd hnd => (h.node nd (mem_keepN.1 hnd).1).keep c (fun k hk e => h.ne_r (mem_keepN.1 hnd).1 hk e)
  ownN := fun nd hnd => h.ownN nd (mem_keepN.1 hnd).1
  rise := keepN_rising h.rise ks

/-- the same nodes, other words for them -/
theorem GS.as {w : World} {b : Nat} {O : Nat → Prop} {tv : Value} {L L' : List GN} {r n : Nat} {pn : Int → Nat} {vr vd : Int → Value} {ow : Nat → Option Int} (h : GS w b O tv L r n pn vr vd ow) (e : L = L') : GS w b O tv L' r n pn vr vd ow := e ▸ h

end Go.Proofs.Ytlmeponoadhheaa

/-
  Contract of (*graph.Graph).Keep.
-/
namespace Go.Proofs.Ytlmeponoadhheaa
set_option linter.unusedVariables false
open Go.RowKit

theorem zeroBoolG (w : World) : (zeroValue 4).run Try.prog w = .ok (.bool false) w := by
  have h : ∃ i, Try.prog.info? 4 = some i ∧ i.zero = some (.bool false) := by
    have e : (Try.prog.info? 4).map (fun i => i.zero) = some (some (.bool false)) := by kernel_rfl
    rw [Option.map_eq_some_iff] at e
    exact e
  obtain ⟨i, h1, h2⟩ := h
  simp [zeroValue, typeInfo, h1, h2, Result.andThen]

def memF (L : List Int) : Int → Option Value := fun k => if k ∈ L then some (.bool true) else none

theorem memF_put (L : List Int) (x : Int) : iput (memF L) x (.bool true) = memF (L ++ [x]) := by
  funext k
  unfold iput memF
  by_cases h : k = x <;> simp [h]

theorem memF_get (L : List Int) (x : Int) : ((memF L x).getD (.bool false)) = .bool (decide (x ∈ L)) := by
  unfold memF; split <;> simp_all

/-- the map while names go -/
def goF (L : List GN) (pn : Int → Nat) (ks : List Int) (left : Int → Bool) : Int → Option Value := fun k => if k ∈ ids L ∧ (left k = true ∨ k ∈ ks) then some (.pointer (some ⟨pn k, 0, none⟩)) else none

theorem goF_stay (L : List GN) (pn : Int → Nat) (ks : List Int) (left : Int → Bool) (x : Int) (hx : x ∈ ks) : ∀ k, goF L pn ks left k = goF L pn ks (fun i => left i && !(i == x)) k := by
  intro k
  unfold goF
  by_cases e : k = x
  · subst e; simp [hx]
  · simp [e]

theorem goF_go (L : List GN) (pn : Int → Nat) (ks : List Int) (left : Int → Bool) (x : Int) (hx : x ∉ ks) : ∀ k, idel (goF L pn ks left) x k = goF L pn ks (fun i => left i && !(i == x)) k := by
  intro k
  unfold idel goF
  by_cases e : k = x
  · subst e; simp [hx]
  · simp [e]

theorem goF_some {L : List GN} {pn : Int → Nat} {ks : List Int} {left : Int → Bool} {k : Int} {v : Value} (h : goF L pn ks left k = some v) : k ∈ ids L := by
  unfold goF at h
  split at h
  · rename_i e; exact e.1
  · cases h

theorem IM.pos {w : World} {r n : Nat} {f : Int → Option Value} (h : IM w r n f) {k : Int} (hk : (f k).isSome = true) : 0 < n := by
  obtain ⟨es, clock, hb, hs, hn, h1, h2⟩ := h
  obtain ⟨v, hv⟩ := Option.isSome_iff_exists.1 hk
  obtain ⟨x, hx, _⟩ := h2 k v hv
  have := List.length_pos_of_mem hx
  rw [Array.length_toList] at this
  omega

theorem keepL_length (L : List GN) (ks : List Int) : (keepL L ks).length = (keepN L ks).length := by simp [keepL]

theorem keepL_setR (L : List GN) (ks : List Int) (R : Int → List Int) (h : ∀ nd ∈ keepN L ks, R nd.id = cutR (ids (keepN L ks)) nd.refs) : setR (keepN L ks) R = keepL L ks := by
  unfold keepL setR cutN
  apply List.map_congr_left
  intro nd hnd
  rw [h nd hnd]

set_option maxRecDepth 100000 in
set_option maxHeartbeats 4000000 in
theorem keep_gr {w : World} {b : Nat} {O : Nat → Prop} {tv : Value} {L : List GN} (h : Gr w b O tv L) (hL : L.length ≤ 1000000) (hrl : ∀ nd ∈ L, nd.refs.length ≤ 1000000) (D : Nat → Prop) (v : Value) (ks : List Int) (hk : SeesI D w v ks) :
    Calls Try.prog 49 #[.pointer (some ⟨b, 0, none⟩), v] w fun e w' => e = .returned (.int .i64 ((L.length : Int) - (keepL L ks).length)) ∧ Gr w' b O tv (keepL L ks) ∧ Turn w w' O O := by
  obtain ⟨r, n, pn, vr, vd, ow, h⟩ := h
  obtain ⟨G, hG⟩ : ∃ G : Int, G = (L.length : Int) - (keepL L ks).length := ⟨_, rfl⟩
  rw [← hG]
  have hnL : n = L.length := by
    have := h.map.count (rising_nodup h.rise) (fun k => by unfold gmap; split <;> simp_all)
    rw [← this]; simp [ids]
  obtain ⟨a, c, rfl, hklen⟩ := hk.len
  have mk2 : (Instr.makeMap 32 none).run Try.prog w = .ok (.map (some w.heap.size)) (w.alloc (.map #[] 0)) := by simp [Instr.makeMap, Result.andThen]
  have hM := (IM.made w).congr (g := memF []) (m := 0) (fun k => by simp [memF]) rfl
  have cM : Ch0 w (w.alloc (.map #[] 0)) := (Ch.refl _ _).alloc _
  have hMs : (w.alloc (.map #[] 0)).heap.size = w.heap.size + 1 := by simp
  have hbl := h.small b h.ownB
  have hrw := h.small r h.ownR
  replace hM := Lib.hid hM
  replace cM := Lib.hid cM
  replace hMs := Lib.hid hMs
  have HG := Lib.hid h
  have HK := Lib.hid hk
  have HR := Lib.hid hrl
  replace hG := Lib.hid hG
  replace hnL := Lib.hid hnL
  clear h hk hrl
  go_enter Try.func49, Try.ntmps49
  go_wp2_with fail
  generalize w.alloc (.map #[] 0) = W1 at *
  obtain ⟨kB, hkB⟩ : ∃ kB, kB = w.heap.size := ⟨_, rfl⟩
  rw [← hkB] at hM hMs ⊢
  replace hkB := Lib.hid hkB
  clear mk2
  go_loopw [19] (fun i wr => ∃ j nK : Nat, j ≤ ks.length ∧ i = .int .i64 j ∧ IM wr kB nK (memF (ks.take j)) ∧ Ch0 w wr ∧ wr.heap.size = kB + 1) (fun i _ => ks.length - (intOf i).toNat)
  case atStart => exact ⟨0, 0, Nat.zero_le _, rfl, by simpa using hM.out, cM.out, hMs.out⟩
  case round =>
    obtain ⟨j, nK, hj, rfl, hM1, d, hsz⟩ := hrel
    clear hM cM hMs
    by_cases hlt : j < ks.length
    · obtain ⟨g, o, c1, -, e1, hcell⟩ := SeesI.cell (HK.out.keep d (fun _ _ e => e)) (by omega)
      obtain ⟨rfl, rfl⟩ : a = some ⟨g, o, none⟩ ∧ c = c1 := by simpa using e1
      have hx := hcell j hlt
      have hsn : ks.take (j + 1) = ks.take j ++ [ks.getD j 0] := by
        rw [List.take_succ_eq_append_getElem hlt]; simp [List.getD_eq_getElem?_getD, hlt]
      obtain ⟨w2, hup, hM2, u2, s2⟩ := hM1.update (P := Try.prog) (t := 32) Try.underlying32 Try.underlying3 (ks.getD j 0) (.bool true)
      rw [memF_put, ← hsn] at hM2
      have HE := Lib.hid (And.intro hM2 (And.intro (d.trans' u2 (fun _ _ e => e) (fun k hk e => by have := hkB.out; omega)) (s2.trans hsz)))
      clear hM1 d hsz hcell e1 hsn hM2 u2 s2
      generalize ks.getD j 0 = X at *
      have i1 : (0 : Int) ≤ j := by omega
      have i2 : (j : Int) < ks.length := by omega
      go_wp2_with (at_mapUpdate; refine wpList_mapUpdate_run rfl _ _ _ 32 rfl rfl rfl rfl hup ?_)
      go_roundw
      case rel => exact ⟨j + 1, _, by omega, by go_num, HE.out.1, HE.out.2.1, HE.out.2.2⟩
      case measure => simp [intOf]; omega
    · obtain rfl : j = ks.length := by omega
      rw [List.take_length] at hM1
      have hS1 := HG.out.keep d (fun _ _ e => e)
      obtain ⟨w3, hrg, hI, c3, s3⟩ := hS1.map.range (P := Try.prog) (t := 128) Try.underlying128
      have hI' : IR w3 r wr.heap.size n (goF L pn ks (fun k => decide (k ∈ ids L))) (fun k => decide (k ∈ ids L)) := by
        have e : (fun k => (gmap L pn k).isSome) = fun k => decide (k ∈ ids L) := by funext k; unfold gmap; split <;> simp_all
        rw [e] at hI
        exact hI.congr (fun k => by unfold gmap goF; by_cases e : k ∈ ids L <;> simp [e])
      have g1 := hS1.cells.2
      have hM3 := Lib.hid (hM1.keep c3 (fun e => e))
      have d3 := Lib.hid (Ch.of0 (S := fun k => k = r) (d.trans c3))
      replace hI' := Lib.hid hI'
      rw [hsz] at hrg hI'
      clear hM1 hI c3 hS1 d s3
      go_wp2_with fail
      clear g1 hrg
      go_loopw [8] (fun gv wr => ∃ left, ∃ gone m : Nat, gv = .int .i64 gone ∧ IR wr r (kB + 1) m (goF L pn ks left) left ∧ m + gone = L.length ∧ Ch (fun k => k = r) w wr ∧ IM wr kB nK (memF ks)) (fun _ wr => iterLeft wr r (kB + 1))
      case atStart => exact ⟨_, 0, n, rfl, hI'.out, by rw [hnL.out]; rfl, d3.out, hM3.out⟩
      case round =>
        obtain ⟨left, gone, m, rfl, hI, hmg, d4, hM4⟩ := hrel
        clear hI' d3 hM3
        replace hI := Lib.hid hI
        replace d4 := Lib.hid d4
        replace hM4 := Lib.hid hM4
        go_wp2_with (at_next; refine wpList_next_IR rfl _ rfl rfl hI.out ?_ ?_)
        · intro hl
          have hm1 : IM wr r m (gmap (keepN L ks) pn) := hI.out.map.congr (fun k => by
            unfold goF gmap
            by_cases e : k ∈ ids (keepN L ks)
            · rw [if_pos e, if_pos ⟨((keepN_ids k).1 e).1, .inr ((keepN_ids k).1 e).2⟩]
            · rw [if_neg e, if_neg]
              rintro ⟨e1, e2 | e2⟩
              · rw [hl k] at e2; cases e2
              · exact e ((keepN_ids k).2 ⟨e1, e2⟩)) rfl
          have hcnt := hm1.count (rising_nodup (keepN_rising HG.out.rise ks)) (fun k => by unfold gmap; split <;> simp_all)
          have hgone : (gone : Int) = G := by
            rw [hG.out, keepL_length]
            simp only [ids, List.length_map] at hcnt
            omega
          have hS := HG.out.sub (ks := ks) d4.out hm1
          obtain ⟨w6, hrg, hJ, c6, s6⟩ := hS.map.range (P := Try.prog) (t := 128) Try.underlying128
          have g1 := hS.cells.2
          have hJ' : IR w6 r wr.heap.size m (gmap (keepN L ks) pn) (fun k => decide (k ∈ ids (keepN L ks))) := by
            have e : (fun k => (gmap (keepN L ks) pn k).isSome) = fun k => decide (k ∈ ids (keepN L ks)) := by funext k; unfold gmap; split <;> simp_all
            rw [e] at hJ; exact hJ
          have hS6 : GS w6 b O tv (setR (keepN L ks) (fun k => ((gat (keepN L ks) k).getD default).refs)) r m pn vr vd ow := (hS.keep c6 (fun _ _ e => e)).as (by
            unfold setR
            conv => lhs; rw [← List.map_id' (keepN L ks)]
            apply List.map_congr_left
            intro nd hnd
            show nd = (⟨nd.id, nd.cls, ((gat (keepN L ks) nd.id).getD default).refs, nd.data, nd.fin⟩ : GN)
            rw [(keepN_rising HG.out.rise ks).at hnd]
            rfl)
          have d6 : Ch O w w6 := (d4.out.mono (fun k _ e => by rw [e]; exact HG.out.ownR)).trans0 c6
          have hJB : w.heap.size ≤ wr.heap.size := d4.out.size
          generalize wr.heap.size = bJ at *
          replace hJ' := Lib.hid hJ'
          replace hS6 := Lib.hid hS6
          replace d6 := Lib.hid d6
          rw [hgone]
          clear hl hm1 hcnt hgone hJ c6 s6 hI d4 hM4 hS hmg
          go_wp2_with fail
          clear g1 hrg
          go_loopw [11] (fun _ wr => ∃ left R, IR wr r bJ m (gmap (keepN L ks) pn) left ∧ GS wr b O tv (setR (keepN L ks) R) r m pn vr vd ow ∧ Ch O w wr ∧ ∀ nd ∈ keepN L ks, R nd.id = if left nd.id = true then nd.refs else cutR (ids (keepN L ks)) nd.refs) (fun _ wr => iterLeft wr r bJ)
          case atStart =>
            refine ⟨_, _, hJ'.out, hS6.out, d6.out, fun nd hnd => ?_⟩
            show ((gat (keepN L ks) nd.id).getD default).refs = if decide (nd.id ∈ ids (keepN L ks)) = true then nd.refs else _
            have hmm : nd.id ∈ ids (keepN L ks) := List.mem_map.2 ⟨nd, hnd, rfl⟩
            rw [if_pos (decide_eq_true hmm), (keepN_rising HG.out.rise ks).at hnd]
            rfl
          case round =>
            obtain ⟨left, R, hI7, hS7, d7, hR7⟩ := hrel
            clear hJ' hS6 d6
            replace hI7 := Lib.hid hI7
            replace hS7 := Lib.hid hS7
            replace d7 := Lib.hid d7
            replace hR7 := Lib.hid hR7
            go_wp2_with (at_next; refine wpList_next_IR rfl _ rfl rfl hI7.out ?_ ?_)
            · intro hl
              have hfin : Gr wr b O tv (keepL L ks) ∧ Turn w wr O O := by
                refine ⟨⟨r, m, pn, vr, vd, ow, hS7.out.as (keepL_setR L ks R (fun nd hnd => ?_))⟩, d7.out, fun k hk => .inl hk⟩
                rw [hR7.out nd hnd, if_neg (by rw [hl]; simp)]
              replace hfin := Lib.hid hfin
              clear hl hI7 hS7 d7 hR7
              go_wp2_with fail
              go_ret
              exact ⟨rfl, hfin.out⟩
            · intro x vx w8 hlx hfx hI8 e8 s8 hm8 hen
              have hxK : x ∈ ids (keepN L ks) := by
                unfold gmap at hfx
                split at hfx
                · assumption
                · cases hfx
              obtain rfl : vx = .pointer (some ⟨pn x, 0, none⟩) := by
                unfold gmap at hfx
                rw [if_pos hxK] at hfx
                exact (Option.some.inj hfx).symm
              obtain ⟨nd, hnd, rfl⟩ := List.mem_map.1 hxK
              have hRx : R nd.id = nd.refs := by rw [hR7.out nd hnd, if_pos hlx]
              have hrn := HR.out nd (mem_keepN.1 hnd).1
              have hJO : ∀ k, O k → ¬ k = bJ := fun k hk e => by have := HG.out.small k hk; omega
              have hS8 := hS7.out.keep e8 hJO
              have d8 : Ch O w w8 := d7.out.trans' e8 (fun _ _ e => e) (fun k hk e => by omega)
              have hnd' : (⟨nd.id, nd.cls, R nd.id, nd.data, nd.fin⟩ : GN) ∈ setR (keepN L ks) R := List.mem_map.2 ⟨nd, hnd, rfl⟩
              have hN8 := hS8.node _ hnd'
              obtain ⟨a9, c9, ev, -, -⟩ := hN8.refs.isSlice
              obtain ⟨-, -, k2, -, -⟩ := hN8.cells
              simp only at ev k2
              rw [hRx] at ev
              rw [ev] at k2
              have hRy : Hid (∀ y ∈ keepN L ks, ∀ Q, (updI R nd.id Q) y.id = if (left y.id && !(y.id == nd.id)) = true then y.refs else (if y.id = nd.id then Q else cutR (ids (keepN L ks)) y.refs)) := Lib.hid (fun y hy Q => by
                by_cases e : y.id = nd.id
                · rw [e, updI_same]; simp
                · rw [updI_other _ _ _ e, hR7.out y hy]; simp [e])
              have hS9 : GS w8 b O tv (setR (keepN L ks) (updI R nd.id (cutTo (ids (keepN L ks)) 0 nd.refs))) r m pn vr vd ow := hS8.as (setR_same (fun y hy => by
                by_cases e : y.id = nd.id
                · rw [e, updI_same, cutTo_zero, hRx]
                · rw [updI_other _ _ _ e]))
              have hm8' := hm8
              generalize hT : iterLeft wr r bJ = T at *
              replace hS9 := Lib.hid hS9
              replace hI8 := Lib.hid hI8
              replace d8 := Lib.hid d8
              replace hm8 := Lib.hid hm8
              replace hJO := Lib.hid hJO
              replace hT := Lib.hid hT
              clear hlx hfx hxK e8 s8 hS8 hN8 hI7 hS7 d7 hR7 hnd' hm8' hRx
              go_wp2_with fail
              go_loopw [60] (fun i wr2 => ∃ j : Nat, j ≤ nd.refs.length ∧ i = .int .i64 j ∧ IR wr2 r bJ m (gmap (keepN L ks) pn) (fun i => left i && !(i == nd.id)) ∧ GS wr2 b O tv (setR (keepN L ks) (updI R nd.id (cutTo (ids (keepN L ks)) j nd.refs))) r m pn vr vd ow ∧ Ch O w wr2 ∧ iterLeft wr2 r bJ < T) (fun i _ => nd.refs.length - (intOf i).toNat)
              case atStart => exact ⟨0, Nat.zero_le _, rfl, hI8.out, hS9.out, d8.out, hm8.out⟩
              case round =>
                obtain ⟨j, hj, rfl, hI10, hS10, d10, hm10⟩ := hrel
                clear hI8 hS9 d8 hm8 k2
                have hnd2 : (⟨nd.id, nd.cls, cutTo (ids (keepN L ks)) j nd.refs, nd.data, nd.fin⟩ : GN) ∈ setR (keepN L ks) (updI R nd.id (cutTo (ids (keepN L ks)) j nd.refs)) :=
                  List.mem_map.2 ⟨nd, hnd, by rw [updI_same]⟩
                have hN := hS10.node _ hnd2
                by_cases hlt : j < nd.refs.length
                · obtain ⟨g, o, c1, -, e1, hcell⟩ := SeesI.cell hN.refs.sees (by rw [cutTo_length]; omega)
                  simp only [cutTo_length] at e1 hcell
                  rw [ev] at e1
                  obtain ⟨rfl, rfl⟩ : a9 = some ⟨g, o, none⟩ ∧ c9 = c1 := by simpa using e1
                  have hx := hcell j hlt
                  rw [cutTo_get _ _ _ hlt] at hx
                  have g1 := hS10.cells.2
                  have hlk := hS10.lookup (nd.refs.getD j 0)
                  rw [setR_ids] at hlk
                  obtain ⟨-, -, k2, -, -⟩ := hN.cells
                  simp only at k2
                  rw [ev] at k2
                  have i1 : (0 : Int) ≤ j := by omega
                  have i2 : (j : Int) < nd.refs.length := by omega
                  by_cases hin : nd.refs.getD j 0 ∈ ids (keepN L ks)
                  · rw [if_pos hin] at hlk
                    have HE := Lib.hid (And.intro hI10 (And.intro (show GS wr b O tv (setR (keepN L ks) (updI R nd.id (cutTo (ids (keepN L ks)) (j + 1) nd.refs))) r m pn vr vd ow from hS10.as (by rw [cutTo_in _ _ _ hlt hin])) (And.intro d10 hm10)))
                    clear hI10 hS10 d10 hm10 hN hnd2 hcell e1 hin
                    generalize nd.refs.getD j 0 = X at *
                    go_wp2_with (at_lookup; refine wpList_lookup_run rfl _ _ 128 rfl rfl rfl hlk ?_)
                    go_roundw
                    case rel => exact ⟨j + 1, by omega, by go_num, HE.out.1, HE.out.2.1, HE.out.2.2.1, HE.out.2.2.2⟩
                    case measure => simp [intOf]; omega
                  · rw [if_neg hin] at hlk
                    have hr0 := hN.refs
                    simp only at hr0
                    obtain ⟨g', o', c', e', hrow, hcl, hfz⟩ := hr0.set j (by rw [cutTo_length]; exact hlt) (.int .i64 0)
                    rw [cutTo_length] at e'
                    rw [ev] at e'
                    obtain ⟨e1', e2'⟩ : (some ⟨g, o, none⟩ : Option Addr) = some ⟨g', o', none⟩ ∧ c9 = c' := by simpa using e'
                    cases e1'
                    have cs : Ch (fun k => rblk (vr nd.id) = some k) wr (wr.setCell ⟨g, o + j, none⟩ (.int .i64 0)) := Ch.setCell (S := fun k => rblk (vr nd.id) = some k) (Ch.refl _ _) (p := ⟨g, o + j, none⟩) (fun _ => by rw [ev]; rfl) _
                    have hne : rblk (vr nd.id) ≠ some (pn nd.id) := by
                      intro e
                      obtain ⟨cur, hcur⟩ := hN.refs.block e
                      rw [hN.blk] at hcur; cases hcur
                    have hto := hS10.turn hnd2 (g := fun nd => { nd with refs := nd.refs.set j 0 }) (fun _ => rfl) (cs.mono (fun k _ e => .inr (.inl e)))
                      ⟨cs.keep hN.blk hne, by simpa using hrow, hN.data.keep cs (fun k e1 e2 => hN.apart k e2 e1), hN.apart⟩
                    obtain ⟨hto, htt⟩ := hto
                    have hto2 : GS (wr.setCell ⟨g, o + j, none⟩ (.int .i64 0)) b O tv (setR (keepN L ks) (updI R nd.id (cutTo (ids (keepN L ks)) (j + 1) nd.refs))) r m pn vr vd ow := hto.as (by
                      show upd (setR _ _) nd.id (fun nd => { nd with refs := nd.refs.set j 0 }) = _
                      rw [setR_upd, updI_same, ← cutTo_out _ _ _ hlt hin]
                      apply setR_same
                      intro y hy
                      by_cases e : y.id = nd.id
                      · rw [e, updI_same, updI_same]
                      · rw [updI_other _ _ _ e, updI_other _ _ _ e, updI_other _ _ _ e])
                    have hrr : ¬ O bJ := fun e => hJO.out bJ e rfl
                    have hIn : ∀ k, rblk (vr nd.id) = some k → O k := fun k hk => (hS10.ownN _ hnd2 k (.inr (.inl hk))).1
                    have hnr : ¬ rblk (vr nd.id) = some r := fun e => hS10.ne_r hnd2 (.inr (.inl e)) rfl
                    have hnJ : ¬ rblk (vr nd.id) = some bJ := fun e => hrr (hIn bJ e)
                    have hI11 := hI10.keep cs hnr hnJ
                    have hm11 : iterLeft (wr.setCell ⟨g, o + j, none⟩ (.int .i64 0)) r bJ < T := by rw [iterLeft_keep hI10 cs hnr hnJ]; exact hm10
                    have d11 : Ch O w (wr.setCell ⟨g, o + j, none⟩ (.int .i64 0)) := d10.trans (cs.mono (fun k _ e => hIn k e))
                    have HE := Lib.hid (And.intro hI11 (And.intro hto2 (And.intro d11 hm11)))
                    obtain ⟨u, hu⟩ : ∃ u, wr.cell? ⟨g, o + j, none⟩ = some u := ⟨_, hx⟩
                    clear hI10 hS10 d10 hm10 hN hnd2 hcell e1 hin hto htt hto2 hrr hIn hnr hnJ hI11 hm11 d11 hrow hcl hne cs hr0 hu
                    generalize nd.refs.getD j 0 = X at *
                    go_wp2_with (at_lookup; refine wpList_lookup_run rfl _ _ 128 rfl rfl rfl hlk ?_)
                    go_roundw
                    case rel => exact ⟨j + 1, by omega, by go_num, HE.out.1, HE.out.2.1, HE.out.2.2.1, HE.out.2.2.2⟩
                    case measure => simp [intOf]; omega
                · obtain rfl : j = nd.refs.length := by omega
                  have HE := Lib.hid (And.intro hI10 (And.intro hS10 (And.intro d10 hm10)))
                  clear hI10 hS10 d10 hm10 hN hnd2 ev
                  go_wp2_with fail
                  go_roundw
                  case rel =>
                    refine ⟨_, _, HE.out.1, HE.out.2.1, HE.out.2.2.1, fun y hy => ?_⟩
                    rw [hRy.out y hy]
                    by_cases e : y.id = nd.id
                    · have : y = nd := (keepN_rising HG.out.rise ks).inj hy hnd e
                      subst this
                      simp [cutTo_all]
                    · simp [e]
                  case measure => rw [hT.out]; exact HE.out.2.2.2
        · intro x vx w5 hlx hfx hI5 e5 s5 hm5 hen
          have hxL := goF_some hfx
          have hM5 := hM4.out.keep e5 (by omega)
          have hlk := hM5.lookup (P := Try.prog) (t := 32) (z := .bool false) Try.underlying32 Try.underlying3 (zeroBoolG w5) x false
          rw [memF_get] at hlk
          simp only [Bool.false_eq_true, if_false] at hlk
          have d5 : Ch (fun k => k = r) w w5 := d4.out.trans' e5 (fun _ _ e => e) (fun k hk e => by have := hkB.out; omega)
          by_cases hx : x ∈ ks
          · rw [decide_eq_true hx] at hlk
            have HE := Lib.hid (And.intro (hI5.congr (goF_stay L pn ks left x hx)) (And.intro d5 (And.intro hM5 hm5)))
            clear hfx hI5 e5 s5 hm5 hM5 d5 hx hI d4 hM4 hlx hxL
            go_wp2_with (at_lookup; refine wpList_lookup_run rfl _ _ 32 rfl rfl rfl hlk ?_)
            go_roundw
            case rel => exact ⟨_, gone, m, rfl, HE.out.1, hmg, HE.out.2.1, HE.out.2.2.1⟩
            case measure => exact HE.out.2.2.2
          · rw [decide_eq_false hx] at hlk
            have hsome : (goF L pn ks left x).isSome = true := by rw [hfx]; rfl
            have hmpos := hI5.map.pos hsome
            have g1 := (cell_of_row w5 b 1 _ _ _ (d5.keep HG.out.blk HG.out.b_ne_r) : w5.cell? ⟨b, 1, none⟩ = some (.map (some r)))
            obtain ⟨w6, hdel, hI6, u6, s6, q6⟩ := hI5.delete (P := Try.prog) (t := 128) (kt := 3) (ty := 0) Try.underlying128 Try.underlying3 x hsome (by simp)
            have HE := Lib.hid (And.intro (hI6.congr (goF_go L pn ks left x hx)) (And.intro (d5.trans u6) (And.intro (hM5.keep u6 (by have := hkB.out; omega)) (show iterLeft w6 r (kB + 1) < iterLeft wr r (kB + 1) by rw [q6]; exact hm5))))
            clear hfx hI5 e5 s5 hm5 hM5 d5 hx hI d4 hM4 hlx hxL hI6 u6 s6 q6 hsome
            go_wp2_with (first | (at_lookup; refine wpList_lookup_run rfl _ _ 32 rfl rfl rfl hlk ?_) | (at_delete; refine wpList_delete_run rfl _ _ 128 3 rfl rfl rfl hdel ?_))
            go_roundw
            case rel => exact ⟨_, gone + 1, m - 1, by go_num, HE.out.1, by omega, HE.out.2.1, HE.out.2.2.1⟩
            case measure => exact HE.out.2.2.2

end Go.Proofs.Ytlmeponoadhheaa

/-
  The shelf's contracts on maps.Keys, slices.Sorted, slices.Sort at this dump, in plain words (written by the kit's lay-plain.mjs; the numbers are r4's).
-/
namespace Go.Proofs.Ytlmeponoadhheaa
set_option linter.unusedVariables false
open Go.Shelf
def keysN_ren : Go.Shelf.Ren := ⟨fun | 7 => 104 | 10 => 127 | n => n, fun | 23 => 128 | 26 => 3 | 3 => 133 | 28 => 141 | 0 => 0 | 27 => 140 | 33 => 164 | 4 => 4 | n => n, fun | n => n⟩
theorem keysN : Go.Proofs.SlLaysZI.n7 Try.prog keysN_ren := {
  mixed := by kernel_rfl
  f7 := ⟨Try.f104.name, by decide, Try.func104.trans (congrArg some (by kernel_rfl))⟩
  f10 := ⟨Try.f127.name, by decide, Try.func127.trans (congrArg some (by kernel_rfl))⟩
  t0 := Try.underlying0
  a0 := Try.isAgg0
  z0 := Try.sizeOf0
  v0 := Try.zeroValue0
  t4 := Try.underlying4
  a4 := Try.isAgg4
  z4 := Try.sizeOf4
  v4 := Try.zeroValue4
  t23 := Try.underlying128
  a23 := Try.isAgg128
  z23 := Try.sizeOf128
  v23 := Try.zeroValue128
  t26 := Try.underlying3
  a26 := Try.isAgg3
  z26 := Try.sizeOf3
  v26 := Try.zeroValue3
  t27 := Try.underlying140
  a27 := Try.isAgg140
  z27 := Try.sizeOf140
  v27 := Try.zeroValue140
  t28 := Try.underlying141
  a28 := Try.isAgg141
  z28 := Try.sizeOf141
  v28 := Try.zeroValue141
  t33 := Try.underlying164
  a33 := Try.isAgg164
  z33 := Try.sizeOf164
  v33 := Try.zeroValue164 }
def keysB_ren : Go.Shelf.Ren := ⟨fun | 7 => 110 | 10 => 129 | n => n, fun | 23 => 32 | 26 => 3 | 3 => 4 | 28 => 141 | 0 => 0 | 27 => 140 | 33 => 164 | 4 => 4 | n => n, fun | n => n⟩
theorem keysB : Go.Proofs.SlLaysZI.n7 Try.prog keysB_ren := {
  mixed := by kernel_rfl
  f7 := ⟨Try.f110.name, by decide, Try.func110.trans (congrArg some (by kernel_rfl))⟩
  f10 := ⟨Try.f129.name, by decide, Try.func129.trans (congrArg some (by kernel_rfl))⟩
  t0 := Try.underlying0
  a0 := Try.isAgg0
  z0 := Try.sizeOf0
  v0 := Try.zeroValue0
  t4 := Try.underlying4
  a4 := Try.isAgg4
  z4 := Try.sizeOf4
  v4 := Try.zeroValue4
  t23 := Try.underlying32
  a23 := Try.isAgg32
  z23 := Try.sizeOf32
  v23 := Try.zeroValue32
  t26 := Try.underlying3
  a26 := Try.isAgg3
  z26 := Try.sizeOf3
  v26 := Try.zeroValue3
  t27 := Try.underlying140
  a27 := Try.isAgg140
  z27 := Try.sizeOf140
  v27 := Try.zeroValue140
  t28 := Try.underlying141
  a28 := Try.isAgg141
  z28 := Try.sizeOf141
  v28 := Try.zeroValue141
  t33 := Try.underlying164
  a33 := Try.isAgg164
  z33 := Try.sizeOf164
  v33 := Try.zeroValue164 }
def sortedA_ren : Go.Shelf.Ren := ⟨fun | 6 => 103 | 8 => 125 | 9 => 126 | 11 => 138 | 13 => 140 | 12 => 139 | 23 => 154 | 24 => 155 | 14 => 145 | 15 => 146 | 16 => 147 | 17 => 148 | 18 => 149 | 19 => 150 | 20 => 151 | 21 => 152 | 22 => 153 | 25 => 165 | 26 => 166 | 27 => 167 | 28 => 168 | 29 => 169 | 30 => 144 | 31 => 173 | n => n, fun | 26 => 3 | 28 => 141 | 24 => 34 | 0 => 0 | 3 => 3 | 37 => 118 | 48 => 187 | 50 => 90 | 4 => 4 | 40 => 181 | 39 => 180 | 45 => 155 | 5 => 5 | 9 => 9 | 51 => 194 | 55 => 198 | 57 => 202 | 58 => 49 | 33 => 164 | n => n, fun | n => n⟩
theorem sortedA : Go.Proofs.SlLaysZI.n6 Try.prog sortedA_ren := {
  mixed := by kernel_rfl
  f6 := ⟨Try.f103.name, by decide, Try.func103.trans (congrArg some (by kernel_rfl))⟩
  f8 := ⟨Try.f125.name, by decide, Try.func125.trans (congrArg some (by kernel_rfl))⟩
  f11 := ⟨Try.f138.name, by decide, Try.func138.trans (congrArg some (by kernel_rfl))⟩
  t0 := Try.underlying0
  a0 := Try.isAgg0
  z0 := Try.sizeOf0
  v0 := Try.zeroValue0
  t24 := Try.underlying34
  a24 := Try.isAgg34
  z24 := Try.sizeOf34
  v24 := Try.zeroValue34
  t26 := Try.underlying3
  a26 := Try.isAgg3
  z26 := Try.sizeOf3
  v26 := Try.zeroValue3
  t28 := Try.underlying141
  a28 := Try.isAgg141
  z28 := Try.sizeOf141
  v28 := Try.zeroValue141
  i26 := by kernel_rfl }
def sortA_ren : Go.Shelf.Ren := ⟨fun | 5 => 126 | 8 => 140 | 7 => 139 | 19 => 154 | 20 => 155 | 10 => 145 | 11 => 146 | 12 => 147 | 13 => 148 | 14 => 149 | 15 => 150 | 16 => 151 | 17 => 152 | 18 => 153 | 30 => 165 | 31 => 166 | 32 => 167 | 33 => 168 | 34 => 169 | 35 => 144 | 40 => 173 | n => n, fun | 23 => 34 | 25 => 3 | 3 => 3 | 32 => 118 | 22 => 34 | 0 => 0 | 44 => 187 | 46 => 90 | 4 => 4 | 36 => 181 | 35 => 180 | 41 => 155 | 5 => 5 | 9 => 9 | 53 => 194 | 57 => 198 | 63 => 202 | 64 => 49 | n => n, fun | n => n⟩
theorem sortA : Go.Proofs.SlLaysM.n5 Try.prog sortA_ren := {
  mixed := by kernel_rfl
  f5 := ⟨Try.f126.name, by decide, Try.func126.trans (congrArg some (by kernel_rfl))⟩
  f7 := ⟨Try.f139.name, by decide, Try.func139.trans (congrArg some (by kernel_rfl))⟩
  f8 := Try.func140.trans (congrArg some (by kernel_rfl))
  f10 := ⟨Try.f145.name, by decide, Try.func145.trans (congrArg some (by kernel_rfl))⟩
  f11 := ⟨Try.f146.name, by decide, Try.func146.trans (congrArg some (by kernel_rfl))⟩
  f12 := ⟨Try.f147.name, by decide, Try.func147.trans (congrArg some (by kernel_rfl))⟩
  f13 := ⟨Try.f148.name, by decide, Try.func148.trans (congrArg some (by kernel_rfl))⟩
  f14 := ⟨Try.f149.name, by decide, Try.func149.trans (congrArg some (by kernel_rfl))⟩
  f15 := ⟨Try.f150.name, by decide, Try.func150.trans (congrArg some (by kernel_rfl))⟩
  f16 := ⟨Try.f151.name, by decide, Try.func151.trans (congrArg some (by kernel_rfl))⟩
  f17 := ⟨Try.f152.name, by decide, Try.func152.trans (congrArg some (by kernel_rfl))⟩
  f18 := ⟨Try.f153.name, by decide, Try.func153.trans (congrArg some (by kernel_rfl))⟩
  f19 := Try.func154.trans (congrArg some (by kernel_rfl))
  f20 := Try.func155.trans (congrArg some (by kernel_rfl))
  f30 := ⟨Try.f165.name, by decide, Try.func165.trans (congrArg some (by kernel_rfl))⟩
  f31 := Try.func166.trans (congrArg some (by kernel_rfl))
  f32 := Try.func167.trans (congrArg some (by kernel_rfl))
  f33 := ⟨Try.f168.name, by decide, Try.func168.trans (congrArg some (by kernel_rfl))⟩
  f34 := ⟨Try.f169.name, by decide, Try.func169.trans (congrArg some (by kernel_rfl))⟩
  f35 := ⟨Try.f144.name, by decide, Try.func144.trans (congrArg some (by kernel_rfl))⟩
  f40 := ⟨Try.f173.name, by decide, Try.func173.trans (congrArg some (by kernel_rfl))⟩
  t0 := Try.underlying0
  a0 := Try.isAgg0
  z0 := Try.sizeOf0
  v0 := Try.zeroValue0
  t3 := Try.underlying3
  a3 := Try.isAgg3
  z3 := Try.sizeOf3
  v3 := Try.zeroValue3
  t4 := Try.underlying4
  a4 := Try.isAgg4
  z4 := Try.sizeOf4
  v4 := Try.zeroValue4
  t5 := Try.underlying5
  a5 := Try.isAgg5
  z5 := Try.sizeOf5
  v5 := Try.zeroValue5
  t9 := Try.underlying9
  a9 := Try.isAgg9
  z9 := Try.sizeOf9
  v9 := Try.zeroValue9
  t22 := Try.underlying34
  a22 := Try.isAgg34
  z22 := Try.sizeOf34
  v22 := Try.zeroValue34
  t23 := Try.underlying34
  a23 := Try.isAgg34
  z23 := Try.sizeOf34
  v23 := Try.zeroValue34
  t25 := Try.underlying3
  a25 := Try.isAgg3
  z25 := Try.sizeOf3
  v25 := Try.zeroValue3
  t32 := Try.underlying118
  a32 := Try.isAgg118
  z32 := Try.sizeOf118
  v32 := Try.zeroValue118
  t35 := Try.underlying180
  a35 := Try.isAgg180
  z35 := Try.sizeOf180
  v35 := Try.zeroValue180
  t36 := Try.underlying181
  a36 := Try.isAgg181
  z36 := Try.sizeOf181
  v36 := Try.zeroValue181
  t41 := Try.underlying155
  a41 := Try.isAgg155
  z41 := Try.sizeOf155
  v41 := Try.zeroValue155
  t44 := Try.underlying187
  a44 := Try.isAgg187
  z44 := Try.sizeOf187
  v44 := Try.zeroValue187
  t46 := Try.underlying90
  a46 := Try.isAgg90
  z46 := Try.sizeOf90
  v46 := Try.zeroValue90
  t53 := Try.underlying194
  a53 := Try.isAgg194
  z53 := Try.sizeOf194
  v53 := Try.zeroValue194
  t57 := Try.underlying198
  a57 := Try.isAgg198
  z57 := Try.sizeOf198
  v57 := Try.zeroValue198
  t63 := Try.underlying202
  a63 := Try.isAgg202
  z63 := Try.sizeOf202
  v63 := Try.zeroValue202
  t64 := Try.underlying49
  a64 := Try.isAgg49
  z64 := Try.sizeOf49
  v64 := Try.zeroValue49 }
end Go.Proofs.Ytlmeponoadhheaa

/-
  The keys of a map, sorted: slices.Sorted(maps.Keys(m)).
-/
namespace Go.Proofs.Ytlmeponoadhheaa
set_option linter.unusedVariables false
open Go.RowKit Go.Maps Go.Sort Go.Shelf

/-- any value reads -/
def anyR (_ : Value) : Option (DataW Unit × List MemPlace) := some (.lit (.bool true), [])

theorem keys_perm {w : World} {r n : Nat} {f : Int → Option Value} (h : IM w r n f) (hwf : ∀ k, (f k).isSome = true → (Lit.int .i64 k).wf = true) (hmax : n ≤ 1000000) {ks : List Int} (hn : ks.Nodup) (hk : ∀ k, k ∈ ks ↔ (f k).isSome = true) :
    ∃ D0 : DataW Unit, w.ownsMap Try.prog 3 anyR r n D0 ∧ (∀ ss : List Int, ss.Perm (intKeys D0) → ss.Perm ks) ∧ Maps.size D0 = n := by
  obtain ⟨es, clock, hb, hs, hsz, h1, h2⟩ := h
  have hrd : ∀ x ∈ es.toList, ∃ k, x.key = .int .i64 k ∧ WideElems.rd Try.prog 3 anyR x = some (.int .i64 k, .lit (.bool true)) := by
    intro x hx
    obtain ⟨k, e, e2⟩ := h1 x hx
    refine ⟨k, e, ?_⟩
    have := keyOf_int_mk (P := Try.prog) (k := 3) Try.underlying3 (hwf k (by rw [e2]; rfl))
    simp [WideElems.rd, e, this, anyR]
  refine ⟨_, ⟨es, clock, hb, ⟨by unfold maxLen; omega, hs, fun x hx => by obtain ⟨k, _, e⟩ := hrd x hx; exact ⟨_, e⟩⟩, by omega, rfl⟩, ?_, ?_⟩
  · intro ss hss
    refine hss.trans ?_
    have p1 : (intKeys (DataW.map ((es.toList.map (WideElems.rg Try.prog 3 anyR)).foldr DataW.insert []))).Perm ((es.toList.map (WideElems.rg Try.prog 3 anyR)).map fun p => _root_.Go.intOf p.1) :=
      (Go.WideShapes.sorted_perm _).map _
    refine p1.trans ?_
    rw [List.map_map]
    have hap := ((Go.MapKept.stamped_iff es clock).1 hs).2.2
    have hN : (es.toList.map ((fun p => _root_.Go.intOf p.1) ∘ WideElems.rg Try.prog 3 anyR)).Nodup := by
      unfold List.Nodup
      rw [List.pairwise_map]
      refine List.Pairwise.imp_of_mem ?_ hap
      intro a b ha hb' q e
      obtain ⟨ka, e1, e2⟩ := hrd a ha
      obtain ⟨kb, e3, e4⟩ := hrd b hb'
      simp only [Function.comp, WideElems.rg, e2, e4, Option.getD_some, _root_.Go.intOf] at e
      exact q (by rw [e1, e3, e])
    rw [List.perm_ext_iff_of_nodup hN hn]
    intro k
    rw [hk k]
    constructor
    · intro hm
      obtain ⟨x, hx, e⟩ := List.mem_map.1 hm
      obtain ⟨kx, e1, e2⟩ := hrd x hx
      obtain ⟨k', e3, e4⟩ := h1 x hx
      simp only [Function.comp, WideElems.rg, e2, Option.getD_some, _root_.Go.intOf] at e
      rw [e1] at e3
      cases e3
      rw [← e, e4]; rfl
    · intro hm
      obtain ⟨v, hv⟩ := Option.isSome_iff_exists.1 hm
      obtain ⟨x, hx, hxk⟩ := h2 k v hv
      obtain ⟨kx, e1, e2⟩ := hrd x hx
      refine List.mem_map.2 ⟨x, hx, ?_⟩
      rw [hxk] at e1
      cases e1
      simp only [Function.comp, WideElems.rg, e2, Option.getD_some, _root_.Go.intOf]
  · show ((es.toList.map (WideElems.rg Try.prog 3 anyR)).foldr DataW.insert []).length = n
    rw [(Go.WideShapes.sorted_perm _).length_eq]
    simp [hsz]

/-- a list that rises is what it is sorted to -/
theorem sorted_eq {ss ks : List Int} (hp : ss.Perm ks) (hr : ks.Pairwise (· ≤ ·)) : ss.mergeSort (fun x y => decide (x ≤ y)) = ks := by
  refine List.Perm.eq_of_pairwise (le := fun a b => a ≤ b) (fun a b _ _ h1 h2 => Int.le_antisymm h1 h2) ?_ hr ((List.mergeSort_perm ss _).trans hp)
  have := List.pairwise_mergeSort (le := fun x y : Int => decide (x ≤ y)) (fun a b c h1 h2 => by simp at *; omega) (fun a b => by simp; omega) ss
  exact this.imp (fun h => by simpa using h)

theorem sortsA (m : Nat) : AnyZI.SortsIn Try.prog sortedA_ren Fence.wide m :=
  ⟨fun blk off cap ss W hH hblk hsz => callsIn_wide.2 (AnyM.slices_Sort_int sortA blk off cap ss W hH hblk hsz),
   fun p cap W => callsIn_wide.2 (AnyM.slices_Sort_int_none sortA p cap W)⟩

theorem row_of_owns {w : World} {base : Nat} {v : Value} {n : Nat} {xs : List Value} (h : w.ownsRow base 3 1 v n xs) : RowAt w 3 1 v n xs ∧ ∀ k, rblk v = some k → base ≤ k := by
  have h0 : w.ownsRow 0 3 1 v n xs := by
    refine ⟨h.1, ?_⟩
    rcases h.2 with hl | ⟨g, cap, cur, hv, hb, r⟩
    · exact .inl hl
    · exact .inr ⟨g, cap, cur, hv, Nat.zero_le _, r⟩
  obtain ⟨h1, h2⟩ := rowAt_of_owns h0
  refine ⟨h1, fun k hk => ?_⟩
  rw [h2] at hk
  exact (h.lt k hk).1

theorem ch_of_below {w w' : World} (h : Below w.heap.size w w') : Ch0 w w' := ⟨h.os, h.tape, h.output, h.size, fun k hk _ => h.block k hk⟩

/-- maps.Keys of the nodes' map -/
theorem keysN_c (r : Nat) (W : World) : Calls Try.prog 104 #[.map (some r)] W fun e w' => e = .returned (.func (.func 127) #[] #[.pointer (some ⟨W.heap.size, 0, none⟩)]) ∧ w' = W.alloc (.cells #[.map (some r)] 128) :=
  (callsIn_wide (n := 5)).1 (AnyZI.keys_in keysN Fence.wide 5 trivial rfl (some r) W)

theorem keysB_c (r : Nat) (W : World) : Calls Try.prog 110 #[.map (some r)] W fun e w' => e = .returned (.func (.func 129) #[] #[.pointer (some ⟨W.heap.size, 0, none⟩)]) ∧ w' = W.alloc (.cells #[.map (some r)] 32) :=
  (callsIn_wide (n := 5)).1 (AnyZI.keys_in keysB Fence.wide 5 trivial rfl (some r) W)

theorem sortedN_c {W : World} {r n bB : Nat} {f : Int → Option Value} (h : IM W r n f) (hwf : ∀ k, (f k).isSome = true → (Lit.int .i64 k).wf = true) (hmax : n ≤ 1000000) {ks : List Int} (hr : ks.Pairwise (· < ·)) (hk : ∀ k, k ∈ ks ↔ (f k).isSome = true)
    (hB : W.cell? ⟨bB, 0, none⟩ = some (.map (some r))) :
    Calls Try.prog 103 #[.func (.func 127) #[] #[.pointer (some ⟨bB, 0, none⟩)]] W fun e w' => ∃ v, e = .returned v ∧ RowAt w' 3 1 v ks.length (ks.map (Value.int .i64)) ∧ (∀ k, rblk v = some k → W.heap.size ≤ k) ∧ Ch0 W w' := by
  have hn : ks.Nodup := hr.imp (fun h => by omega)
  obtain ⟨D0, hown, hp, hs⟩ := keys_perm h hwf hmax hn hk
  have hseq : SeqGives Fence.wide 2 Try.prog 127 #[.pointer (some ⟨bB, 0, none⟩)] encZ (fun ss => ss.Perm (intKeys D0)) (Maps.size D0) W :=
    AnyZI.keys_gives (ρ := keysN_ren) { keysN with } Fence.wide _ trivial rfl (by omega) bB r n D0 W (block_lt_of_cell hB) hB hown
  have cS := AnyZI.sorted_in sortedA Fence.wide 5 trivial trivial trivial trivial rfl (by omega) (sortsA _) (enters_of Try.func126 (by kernel_rfl) rfl) 127 #[.pointer (some ⟨bB, 0, none⟩)] trivial (enters_of Try.func127 (by kernel_rfl) rfl) _ _ (by rw [hs]; unfold maxLen; omega) (by rw [hs]; omega) W hseq
  change CallsIn _ _ Try.prog 103 _ _ _ at cS
  refine ((callsIn_wide (n := 5)).1 cS).mono ?_
  rintro e w' ⟨v, ss, rfl, hS, hrow, hnil, hb⟩
  have hq := hp ss hS
  rw [sorted_eq hq (hr.imp (fun h => by omega))] at hrow
  obtain ⟨h1, h2⟩ := row_of_owns hrow
  rw [hq.length_eq] at h1
  exact ⟨v, rfl, h1, h2, ch_of_below hb⟩

theorem sortedB_c {W : World} {r n bB : Nat} {f : Int → Option Value} (h : IM W r n f) (hwf : ∀ k, (f k).isSome = true → (Lit.int .i64 k).wf = true) (hmax : n ≤ 1000000) {ks : List Int} (hr : ks.Pairwise (· < ·)) (hk : ∀ k, k ∈ ks ↔ (f k).isSome = true)
    (hB : W.cell? ⟨bB, 0, none⟩ = some (.map (some r))) :
    Calls Try.prog 103 #[.func (.func 129) #[] #[.pointer (some ⟨bB, 0, none⟩)]] W fun e w' => ∃ v, e = .returned v ∧ RowAt w' 3 1 v ks.length (ks.map (Value.int .i64)) ∧ (∀ k, rblk v = some k → W.heap.size ≤ k) ∧ Ch0 W w' := by
  have hn : ks.Nodup := hr.imp (fun h => by omega)
  obtain ⟨D0, hown, hp, hs⟩ := keys_perm h hwf hmax hn hk
  have hseq : SeqGives Fence.wide 2 Try.prog 129 #[.pointer (some ⟨bB, 0, none⟩)] encZ (fun ss => ss.Perm (intKeys D0)) (Maps.size D0) W :=
    AnyZI.keys_gives (ρ := keysB_ren) { keysB with } Fence.wide _ trivial rfl (by omega) bB r n D0 W (block_lt_of_cell hB) hB hown
  have cS := AnyZI.sorted_in sortedA Fence.wide 5 trivial trivial trivial trivial rfl (by omega) (sortsA _) (enters_of Try.func126 (by kernel_rfl) rfl) 129 #[.pointer (some ⟨bB, 0, none⟩)] trivial (enters_of Try.func129 (by kernel_rfl) rfl) _ _ (by rw [hs]; unfold maxLen; omega) (by rw [hs]; omega) W hseq
  change CallsIn _ _ Try.prog 103 _ _ _ at cS
  refine ((callsIn_wide (n := 5)).1 cS).mono ?_
  rintro e w' ⟨v, ss, rfl, hS, hrow, hnil, hb⟩
  have hq := hp ss hS
  rw [sorted_eq hq (hr.imp (fun h => by omega))] at hrow
  obtain ⟨h1, h2⟩ := row_of_owns hrow
  rw [hq.length_eq] at h1
  exact ⟨v, rfl, h1, h2, ch_of_below hb⟩

end Go.Proofs.Ytlmeponoadhheaa

/-
  Contracts of (*graph.Graph).Ids, Words.
-/
namespace Go.Proofs.Ytlmeponoadhheaa
set_option linter.unusedVariables false
open Go.RowKit

/-- the words of some nodes -/
def wordsOfN (nd : GN) : Int := 2 + nd.refs.length + nd.data.length
def gwords (L : List GN) : Int := (L.map wordsOfN).sum

theorem gwords_snoc (L : List GN) (nd : GN) : gwords (L ++ [nd]) = gwords L + wordsOfN nd := by simp [gwords]

theorem take_snocG (L : List GN) (k : Nat) (h : k < L.length) : L.take (k + 1) = L.take k ++ [L[k]] := by rw [List.take_succ_eq_append_getElem h]

theorem gwords_le (cs : List Cls) (L : List GN) (h : ∀ nd ∈ L, WfN cs nd) : 0 ≤ gwords L ∧ gwords L ≤ 122 * L.length := by
  induction L with
  | nil => simp [gwords]
  | cons a l ih =>
    have h1 := ih (fun nd hnd => h nd (by simp [hnd]))
    have h2 := h a (by simp)
    have h3 := h2.refs
    have h4 := h2.data
    have e : gwords (a :: l) = wordsOfN a + gwords l := by simp [gwords]
    rw [e]
    unfold wordsOfN
    simp only [List.length_cons]
    omega

section
variable {w : World} {b : Nat} {O : Nat → Prop} {cs : List Cls} {L : List GN} {p lo hi : Nat}

theorem Gt.len (h : Gt w b O cs L p lo hi) : True := trivial

set_option maxHeartbeats 400000 in
theorem ids_of (h : Gt w b O cs L p lo hi) (hL : L.length ≤ 1000000) :
    Calls Try.prog 35 #[.pointer (some ⟨b, 0, none⟩)] w fun e w' => ∃ v, e = .returned v ∧ RowAt w' 3 1 v (ids L).length ((ids L).map (Value.int .i64)) ∧ (∀ k, rblk v = some k → w.heap.size ≤ k) ∧ Ch0 w w' := by
  obtain ⟨hg, ht, hoff, hiw, hwf⟩ := h
  obtain ⟨r, n, pn, vr, vd, ow, h⟩ := hg
  have g1 := h.cells.2
  have hsome : ∀ k, (gmap L pn k).isSome = decide (k ∈ ids L) := fun k => by unfold gmap; split <;> simp_all
  have hr : (ids L).Pairwise (· < ·) := by unfold ids; rw [List.pairwise_map]; exact h.rise
  have hn : n = L.length := by
    have := h.map.count (hr.imp (fun h => by omega)) (fun k => by rw [hsome]; simp)
    rw [← this]; simp [ids]
  have cA : Ch0 w (w.alloc (.cells #[.map (some r)] 128)) := (Ch.refl _ _).alloc _
  have hs := sortedN_c (h.map.keep cA (fun e => e)) (fun k hk => by
    rw [hsome] at hk
    obtain ⟨nd, hnd, rfl⟩ := List.mem_map.1 (of_decide_eq_true hk)
    have h1 := (hwf nd hnd).id
    have h2 := (hwf nd hnd).idm
    simp [Lit.wf, IntKind.min, IntKind.max, IntKind.signed, IntKind.bits]
    omega) (by omega) hr (fun k => by rw [hsome]; simp) (bB := w.heap.size) (cell_of_one (heap_alloc_new w _))
  have hk := keysN_c r w
  have HC := Lib.hid cA
  clear h ht hoff hiw hwf cA hsome hr hn
  go_enter Try.func35, Try.ntmps35
  go_wp2_with fail
  refine hk.mono ?_
  rintro e w1 ⟨rfl, rfl⟩
  clear hk
  go_wp2_with fail
  refine hs.mono ?_
  rintro e w2 ⟨v, rfl, r2, f2, c2⟩
  have HE := Lib.hid (And.intro r2 (And.intro (show ∀ k, rblk v = some k → w.heap.size ≤ k from fun k hk => by have := f2 k hk; rw [World.size_alloc] at this; omega) (HC.out.trans c2)))
  clear hs r2 f2 c2
  go_wp2_with fail
  go_ret
  exact ⟨v, rfl, HE.out⟩

set_option maxRecDepth 100000 in
set_option maxHeartbeats 1000000 in
theorem words_of (h : Gt w b O cs L p lo hi) (hL : L.length ≤ 1000000) :
    Calls Try.prog 36 #[.pointer (some ⟨b, 0, none⟩)] w fun e w' => e = .returned (.int .i64 (gwords L)) ∧ Ch0 w w' := by
  have hi := ids_of h hL
  have HW := Lib.hid (fun k => gwords_le cs (L.take k) (fun nd hnd => h.wf nd (List.mem_of_mem_take hnd)))
  have HF := Lib.hid h.wf
  obtain ⟨hg, ht, hoff, hiw, hwf⟩ := h
  obtain ⟨r, n, pn, vr, vd, ow, h⟩ := hg
  have HG := Lib.hid h
  clear h ht hoff hiw hwf
  go_enter Try.func36, Try.ntmps36
  go_wp2_with fail
  refine hi.mono ?_
  rintro e w1 ⟨v, rfl, r1, f1, c1⟩
  obtain ⟨a, c, ev, -, -⟩ := r1.isSlice
  rw [show (ids L).length = L.length by simp [ids]] at ev r1
  subst ev
  replace r1 := Lib.hid r1
  replace c1 := Lib.hid c1
  clear hi f1
  go_wp2_with fail
  go_loopw [3, 10] (fun s i wr => ∃ j : Nat, j ≤ L.length ∧ i = .int .i64 j ∧ s = .int .i64 (gwords (L.take j)) ∧ Ch0 w1 wr) (fun _ i _ => L.length - (intOf i).toNat)
  case atStart => exact ⟨0, Nat.zero_le _, rfl, rfl, Ch.refl _ _⟩
  case round =>
    obtain ⟨j, hj, rfl, rfl, d⟩ := hrel
    by_cases hlt : j < L.length
    · have hs : SeesI (fun k => rblk (.slice a L.length c) = some k) wr (.slice a L.length c) (ids L) := by
        have := (r1.out.keep d (fun _ _ e => e)).sees
        rw [show L.length = (ids L).length by simp [ids]] at this ⊢
        exact this
      obtain ⟨g, o, c2, -, e1, hcell⟩ := hs.cell (by simp [ids]; omega)
      rw [show (ids L).length = L.length by simp [ids]] at e1
      obtain ⟨rfl, rfl⟩ : a = some ⟨g, o, none⟩ ∧ c = c2 := by simpa using e1
      have hx := hcell j (by simp [ids]; omega)
      rw [show (ids L).getD j 0 = L[j].id by simp [ids, List.getD_eq_getElem?_getD, hlt]] at hx
      have hnd : L[j] ∈ L := List.getElem_mem hlt
      have hG := HG.out.keep (c1.out.trans d) (fun _ _ e => e)
      have hl := look_yes hG (id := L[j].id) (List.mem_map.2 ⟨_, hnd, rfl⟩)
      have hN := hG.node _ hnd
      obtain ⟨-, -, k2, k3, -⟩ := hN.cells
      obtain ⟨a3, c3, e3, -, -⟩ := hN.refs.isSlice
      obtain ⟨a4, c4, e4, -, -⟩ := hN.data.isSlice
      rw [e3] at k2
      rw [e4] at k3
      have hw := HF.out _ hnd
      have q1 := hw.refs
      have q2 := hw.data
      have hw1 := HW.out j
      have hw2 : (L.take j).length ≤ 1000000 := by simp; omega
      have hsn : Hid (gwords (L.take (j + 1)) = gwords (L.take j) + wordsOfN L[j]) := Lib.hid (by rw [take_snocG L j hlt, gwords_snoc])
      unfold wordsOfN at hsn
      obtain ⟨S, hS⟩ : ∃ S, S = gwords (L.take j) := ⟨_, rfl⟩
      rw [← hS] at hw1 hsn ⊢
      clear hs e1 hcell hG hN e3 e4 hw hnd hS
      generalize L[j].id = X at *
      generalize L[j].refs.length = nR at *
      generalize L[j].data.length = nD at *
      generalize pn X = P at *
      replace d := Lib.hid d
      have i1 : (0 : Int) ≤ j := by omega
      have i2 : (j : Int) < L.length := by omega
      have y1 : IntKind.i64.wrap (2 + (nR : Int)) = 2 + (nR : Int) := IntWalk.i64_in _ (by omega)
      have y2 : IntKind.i64.wrap (2 + (nR : Int) + (nD : Int)) = 2 + (nR : Int) + (nD : Int) := IntWalk.i64_in _ (by omega)
      have y3 : IntKind.i64.wrap (S + (2 + (nR : Int) + (nD : Int))) = S + (2 + (nR : Int) + (nD : Int)) := IntWalk.i64_in _ (by omega)
      go_wp2_with fail
      refine hl.mono ?_
      rintro e w2 ⟨rfl, hs⟩
      obtain rfl : wr = w2 := hs
      clear hl
      go_wp2_with fail
      go_quiet (fail)
      clear y1 y2 y3 k2 k3 hx
      go_wp2_with fail
      go_roundw
      case rel => exact ⟨j + 1, by omega, by go_num, by rw [hsn.out], d.out.drewN _⟩
      case measure => simp [intOf]; omega
    · obtain rfl : j = L.length := by omega
      rw [List.take_length]
      have HC := Lib.hid (c1.out.trans d)
      clear d
      go_wp2_with fail
      go_ret
      exact ⟨rfl, HC.out⟩

end

end Go.Proofs.Ytlmeponoadhheaa

/-
  The graph's contracts, with its table beside it.
-/
namespace Go.Proofs.Ytlmeponoadhheaa
set_option linter.unusedVariables false
open Go.RowKit

theorem mem_upd {L : List GN} {id : Int} {g : GN → GN} {x : GN} (h : x ∈ upd L id g) : x ∈ L ∨ ∃ y ∈ L, y.id = id ∧ x = g y := by
  obtain ⟨y, hy, rfl⟩ := List.mem_map.1 h
  by_cases e : y.id = id
  · rw [if_pos e]; exact .inr ⟨y, hy, e, rfl⟩
  · rw [if_neg e]; exact .inl hy

theorem upd_wf {cs : List Cls} {L : List GN} {id : Int} {g : GN → GN} (hw : ∀ nd ∈ L, WfN cs nd) (hg : ∀ nd, (g nd).id = nd.id ∧ (g nd).cls = nd.cls ∧ (g nd).refs.length = nd.refs.length ∧ (g nd).data.length = nd.data.length) : ∀ nd ∈ upd L id g, WfN cs nd := by
  intro x hx
  rcases mem_upd hx with h | ⟨y, hy, _, rfl⟩
  · exact hw x h
  · obtain ⟨e1, e2, e3, e4⟩ := hg y
    have h := hw y hy
    exact ⟨by rw [e2]; exact h.c1, by rw [e2]; exact h.c2, by rw [e3]; exact h.refs, by rw [e4]; exact h.data, by rw [e2, e3]; exact h.aim, by rw [e1]; exact h.id, by rw [e1]; exact h.idm⟩

theorem setRefL_wf {cs : List Cls} {L : List GN} (hw : ∀ nd ∈ L, WfN cs nd) (id field to : Int) : ∀ nd ∈ setRefL L id field to, WfN cs nd := by
  unfold setRefL
  split
  · exact upd_wf hw (fun nd => ⟨rfl, rfl, by simp, rfl⟩)
  · exact hw

theorem setNumL_wf {cs : List Cls} {L : List GN} (hw : ∀ nd ∈ L, WfN cs nd) (id field x : Int) : ∀ nd ∈ setNumL L id field x, WfN cs nd := by
  unfold setNumL
  split
  · exact upd_wf hw (fun nd => ⟨rfl, rfl, rfl, by simp⟩)
  · exact hw

theorem doneL_wf {cs : List Cls} {L : List GN} (hw : ∀ nd ∈ L, WfN cs nd) (id : Int) : ∀ nd ∈ doneL L id, WfN cs nd := upd_wf hw (fun nd => ⟨rfl, rfl, rfl, rfl⟩)

theorem keepL_wf {cs : List Cls} {L : List GN} (hw : ∀ nd ∈ L, WfN cs nd) (ks : List Int) : ∀ nd ∈ keepL L ks, WfN cs nd := by
  intro x hx
  obtain ⟨y, hy, rfl⟩ := List.mem_map.1 hx
  have h := hw y (mem_keepN.1 hy).1
  exact ⟨h.c1, h.c2, by simpa [cutN, cutR] using h.refs, h.data, by simpa [cutN, cutR] using h.aim, h.id, h.idm⟩

section
variable {w : World} {b : Nat} {O : Nat → Prop} {cs : List Cls} {L : List GN} {p lo hi : Nat}

theorem setref_of (h : Gt w b O cs L p lo hi) (id field to : Int) :
    Calls Try.prog 42 #[.pointer (some ⟨b, 0, none⟩), .int .i64 id, .int .i64 field, .int .i64 to] w fun e w' =>
      e = .returned (.int .i64 (setRefE L id field to)) ∧ Gt w' b O cs (setRefL L id field to) p lo hi ∧ Turn w w' O O :=
  (setref_any h.g id field to).mono fun _ _ ⟨he, hg, ht⟩ => ⟨he, h.turn hg ht (setRefL_wf h.wf id field to), ht⟩

theorem setnum_of (h : Gt w b O cs L p lo hi) (id field x : Int) :
    Calls Try.prog 43 #[.pointer (some ⟨b, 0, none⟩), .int .i64 id, .int .i64 field, .int .i64 x] w fun e w' =>
      e = .returned (.int .i64 (setNumE L id field)) ∧ Gt w' b O cs (setNumL L id field x) p lo hi ∧ Turn w w' O O :=
  (setnum_any h.g id field x).mono fun _ _ ⟨he, hg, ht⟩ => ⟨he, h.turn hg ht (setNumL_wf h.wf id field x), ht⟩

theorem done_of (h : Gt w b O cs L p lo hi) (id : Int) :
    Calls Try.prog 48 #[.pointer (some ⟨b, 0, none⟩), .int .i64 id] w fun e w' =>
      e = .returned (.int .i64 (doneE L id)) ∧ Gt w' b O cs (doneL L id) p lo hi ∧ Turn w w' O O :=
  (done_any h.g id).mono fun _ _ ⟨he, hg, ht⟩ => ⟨he, h.turn hg ht (doneL_wf h.wf id), ht⟩

theorem keep_of (h : Gt w b O cs L p lo hi) (hL : L.length ≤ 1000000) (D : Nat → Prop) (v : Value) (ks : List Int) (hk : SeesI D w v ks) :
    Calls Try.prog 49 #[.pointer (some ⟨b, 0, none⟩), v] w fun e w' =>
      e = .returned (.int .i64 ((L.length : Int) - (keepL L ks).length)) ∧ Gt w' b O cs (keepL L ks) p lo hi ∧ Turn w w' O O :=
  (keep_gr h.g hL (fun nd hnd => by have := (h.wf nd hnd).refs; omega) D v ks hk).mono fun _ _ ⟨he, hg, ht⟩ => ⟨he, h.turn hg ht (keepL_wf h.wf ks), ht⟩

theorem gnew_of (h : Tab lo hi w p cs) (hh : hi ≤ w.heap.size) :
    Calls Try.prog 31 #[.pointer (some ⟨p, 0, none⟩)] w fun e w' => ∃ b, e = .returned (.pointer (some ⟨b, 0, none⟩)) ∧ ∃ O, Gt w' b O cs [] p lo hi ∧ (∀ k, O k → w.heap.size ≤ k) ∧ Ch0 w w' :=
  (gnew_any _ w).mono fun _ _ ⟨b, he, hg, hc⟩ => ⟨b, he, _, ⟨hg, h.keep hc (fun _ _ _ e => e), fun k h1 h2 e => by omega, Nat.le_trans hh hc.size, fun nd hnd => by cases hnd⟩, fun k hk => hk.1, hc⟩

end

end Go.Proofs.Ytlmeponoadhheaa

/-
  Contracts of the document's Has, and of its Same of two nodes.
-/
namespace Go.Proofs.Ytlmeponoadhheaa
set_option linter.unusedVariables false
open Go.RowKit

set_option maxHeartbeats 400000 in
theorem has_any (D : Nat → Prop) (v : Value) (xs : List Int) (x : Int) (w : World) (h : SeesI D w v xs) :
    Calls Try.prog 54 #[v, .int .i64 x] w fun e w' => e = .returned (.bool (decide (x ∈ xs))) ∧ SameW w w' := by
  obtain ⟨a, c, rfl, hlen⟩ := h.len
  have HS := Lib.hid h
  clear h
  obtain ⟨y, hy⟩ : ∃ y : Bool, y = decide (x ∈ xs) := ⟨_, rfl⟩
  rw [← hy]
  replace hy := Lib.hid hy
  go_enter Try.func54, Try.ntmps54
  go_wp2_with fail
  go_loop [8] (fun i => ∃ j : Nat, j ≤ xs.length ∧ i = .int .i64 j ∧ ∀ m, m < j → xs.getD m 0 ≠ x) (fun i => xs.length - (intOf i).toNat)
  case atStart => exact ⟨0, Nat.zero_le _, rfl, fun m hm => by omega⟩
  case round =>
    obtain ⟨j, hj, rfl, hne⟩ := hrel
    have HN := Lib.hid hne
    clear hne
    by_cases hlt : j < xs.length
    · obtain ⟨g, o, c1, -, e1, hcell⟩ := HS.out.cell (by omega)
      obtain ⟨rfl, rfl⟩ : a = some ⟨g, o, none⟩ ∧ c = c1 := by simpa using e1
      have hx := hcell j hlt
      have HM : Hid (xs.getD j 0 ∈ xs) := Lib.hid (by simp [List.getD_eq_getElem?_getD, hlt])
      clear hcell e1
      generalize hX : xs.getD j 0 = X at *
      replace hX := Lib.hid hX
      have i1 : (0 : Int) ≤ j := by omega
      have i2 : (j : Int) < xs.length := by omega
      by_cases hxx : X = x
      · subst hxx
        have t1 : (X == X) = true := by simp
        go_wp2_with fail
        go_ret
        exact ⟨by rw [hy.out, decide_eq_true HM.out]; rfl, SameW.rfl' _⟩
      · have t1 : (X == x) = false := by simpa using hxx
        clear hxx
        go_wp2_with fail
        go_round
        case rel =>
          refine ⟨j + 1, by omega, by go_num, fun m hm => ?_⟩
          by_cases e : m = j
          · subst e; rw [hX.out]; simpa using t1
          · exact HN.out m (by omega)
        case measure => simp [intOf]; omega
    · obtain rfl : j = xs.length := by omega
      go_wp2_with fail
      go_ret
      refine ⟨?_, SameW.rfl' _⟩
      rw [hy.out, decide_eq_false]
      · rfl
      intro h
      obtain ⟨m, hm, e⟩ := List.getElem_of_mem h
      exact HN.out m hm (by simp [List.getD_eq_getElem?_getD, hm, e])

/-- a node as a value: its fields, its lists -/
structure NV (D : Nat → Prop) (w : World) (v : Value) (nd : GN) (vr vd : Value) : Prop where
  v : v = .agg #[.int .i64 nd.id, .int .i64 nd.cls, vr, vd, .bool nd.fin]
  refs : SeesI D w vr nd.refs
  data : SeesI D w vd nd.data

theorem NV.keep {D S : Nat → Prop} {w w' : World} {v : Value} {nd : GN} {vr vd : Value} (h : NV D w v nd vr vd) (c : Ch S w w') (hd : ∀ k, D k → ¬ S k) : NV D w' v nd vr vd := ⟨h.v, h.refs.keep c hd, h.data.keep c hd⟩

set_option maxRecDepth 100000 in
set_option maxHeartbeats 4000000 in
theorem rsame_any (D E : Nat → Prop) (u v : Value) (a b : GN) (ar ad br bd : Value) (w : World) (hu : NV D w u a ar ad) (hv : NV E w v b br bd) :
    Calls Try.prog 39 #[u, v] w fun e w' => e = .returned (.bool (decide (a = b))) ∧ Ch0 w w' := by
  obtain ⟨rfl, hu1, hu2⟩ := hu
  obtain ⟨rfl, hv1, hv2⟩ := hv
  obtain ⟨ai, ac, al, am, af⟩ := a
  obtain ⟨bi, bc, bl, bm, bf⟩ := b
  simp only at hu1 hu2 hv1 hv2 ⊢
  obtain ⟨a1, c1, rfl, l1⟩ := hu1.len
  obtain ⟨a2, c2, rfl, l2⟩ := hu2.len
  obtain ⟨a3, c3, rfl, l3⟩ := hv1.len
  obtain ⟨a4, c4, rfl, l4⟩ := hv2.len
  have cA : Ch0 w ((w.alloc (.cells #[.int .i64 ai, .int .i64 ac, .slice a1 al.length c1, .slice a2 am.length c2, .bool af] 36)).alloc (.cells #[.int .i64 bi, .int .i64 bc, .slice a3 bl.length c3, .slice a4 bm.length c4, .bool bf] 36)) := ((Ch.refl _ _).alloc _).alloc _
  have B2 := heap_alloc_new (w.alloc (.cells #[.int .i64 ai, .int .i64 ac, .slice a1 al.length c1, .slice a2 am.length c2, .bool af] 36)) (.cells #[.int .i64 bi, .int .i64 bc, .slice a3 bl.length c3, .slice a4 bm.length c4, .bool bf] 36)
  have B1 := ((Ch.refl (fun _ => False) _).alloc (.cells #[.int .i64 bi, .int .i64 bc, .slice a3 bl.length c3, .slice a4 bm.length c4, .bool bf] 36)).keep (heap_alloc_new w (.cells #[.int .i64 ai, .int .i64 ac, .slice a1 al.length c1, .slice a2 am.length c2, .bool af] 36)) (fun e => e)
  rw [World.size_alloc] at B2
  obtain ⟨y, hy⟩ : ∃ y : Bool, y = decide ((⟨ai, ac, al, am, af⟩ : GN) = ⟨bi, bc, bl, bm, bf⟩) := ⟨_, rfl⟩
  rw [← hy]
  have hno : ¬ (ai = bi ∧ ac = bc ∧ al = bl ∧ am = bm ∧ af = bf) → y = false := fun h => by
    rw [hy]; apply decide_eq_false
    intro e; cases e; exact h ⟨rfl, rfl, rfl, rfl, rfl⟩
  have hye : (ai = bi ∧ ac = bc ∧ al = bl ∧ am = bm ∧ af = bf) → y = true := by
    rintro ⟨rfl, rfl, rfl, rfl, rfl⟩; rw [hy]; exact decide_eq_true rfl
  replace hno := Lib.hid hno
  replace hye := Lib.hid hye
  replace cA := Lib.hid cA
  replace B1 := Lib.hid B1
  replace B2 := Lib.hid B2
  clear hy
  by_cases q1 : ai = bi
  case neg =>
    have t1 : (ai != bi) = true := by simpa using q1
    have hyf := Lib.hid (hno.out (fun h => q1 h.1))
    clear q1 hno hye hu1 hu2 hv1 hv2 B1 B2
    go_enter Try.func39, Try.ntmps39
    go_wp2_with fail
    go_ret
    exact ⟨by rw [hyf.out]; rfl, cA.out⟩
  subst q1
  have t1 : (ai != ai) = false := by simp
  by_cases q2 : ac = bc
  case neg =>
    have t2 : (ac != bc) = true := by simpa using q2
    have hyf := Lib.hid (hno.out (fun h => q2 h.2.1))
    clear q2 hno hye hu1 hu2 hv1 hv2 B1 B2
    go_enter Try.func39, Try.ntmps39
    go_wp2_with fail
    go_ret
    exact ⟨by rw [hyf.out]; rfl, cA.out⟩
  subst q2
  have t2 : (ac != ac) = false := by simp
  by_cases q3 : af = bf
  case neg =>
    have hyf := Lib.hid (hno.out (fun h => q3 h.2.2.2.2))
    clear hno hye hu1 hu2 hv1 hv2 B1 B2
    cases af <;> cases bf <;> first | exact absurd rfl q3 | skip
    all_goals
      clear q3
      go_enter Try.func39, Try.ntmps39
      go_wp2_with fail
      go_ret
      exact ⟨by rw [hyf.out]; rfl, cA.out⟩
  subst q3
  have hye2 : Hid (al = bl → am = bm → y = true) := Lib.hid (fun e1 e2 => hye.out ⟨rfl, rfl, e1, e2, rfl⟩)
  clear hye
  have t3 : (af != af) = false := by simp
  by_cases q4 : al.length = bl.length
  case neg =>
    have t4 : ((al.length : Int) != (bl.length : Int)) = true := bne_iff_ne.2 (by omega)
    have hyf := Lib.hid (hno.out (fun h => q4 (by rw [h.2.2.1])))
    clear q4 hno hye2 hu1 hu2 hv1 hv2 B1 B2
    go_enter Try.func39, Try.ntmps39
    go_wp2_with fail
    go_ret
    exact ⟨by rw [hyf.out]; rfl, cA.out⟩
  have t4 : ((al.length : Int) != (bl.length : Int)) = false := by rw [q4]; simp
  by_cases q5 : am.length = bm.length
  case neg =>
    have t5 : ((am.length : Int) != (bm.length : Int)) = true := bne_iff_ne.2 (by omega)
    have hyf := Lib.hid (hno.out (fun h => q5 (by rw [h.2.2.2.1])))
    clear q4 q5 hno hye2 hu1 hu2 hv1 hv2 B1 B2
    go_enter Try.func39, Try.ntmps39
    go_wp2_with fail
    go_ret
    exact ⟨by rw [hyf.out]; rfl, cA.out⟩
  have t5 : ((am.length : Int) != (bm.length : Int)) = false := by rw [q5]; simp
  obtain ⟨n1, hn1⟩ : ∃ n1, n1 = bl.length := ⟨_, rfl⟩
  obtain ⟨n2, hn2⟩ : ∃ n2, n2 = bm.length := ⟨_, rfl⟩
  rw [← hn1] at B1 B2 cA t4 hv1 ⊢
  rw [← hn2] at B1 B2 cA t5 hv2 ⊢
  have HU1 := Lib.hid (hu1.keep cA.out (fun _ _ e => e))
  have HU2 := Lib.hid (hu2.keep cA.out (fun _ _ e => e))
  have HV1 := Lib.hid (hv1.keep cA.out (fun _ _ e => e))
  have HV2 := Lib.hid (hv2.keep cA.out (fun _ _ e => e))
  replace hn1 := Lib.hid hn1
  replace hn2 := Lib.hid hn2
  have Q4 := Lib.hid q4
  have Q5 := Lib.hid q5
  clear hu1 hu2 hv1 hv2 q4 q5
  go_enter Try.func39, Try.ntmps39
  go_wp2_with fail
  generalize hB : w.heap.size = B at *
  clear hB
  generalize ((w.alloc (.cells #[.int .i64 ai, .int .i64 ac, .slice a1 al.length c1, .slice a2 am.length c2, .bool af] 36)).alloc (.cells #[.int .i64 ai, .int .i64 ac, .slice a3 n1 c3, .slice a4 n2 c4, .bool af] 36)) = W at *
  clear t1 t2 t3 t4 t5
  go_loopw [47] (fun i wr => ∃ j : Nat, j ≤ al.length ∧ i = .int .i64 j ∧ (∀ m, m < j → al.getD m 0 = bl.getD m 0) ∧ ∃ n, wr = W.drewN n) (fun i _ => al.length - (intOf i).toNat)
  case atStart => exact ⟨0, Nat.zero_le _, rfl, fun m hm => by omega, 0, rfl⟩
  case round =>
    obtain ⟨j, hj, rfl, heq, nq, rfl⟩ := hrel
    have x2 : W.cell? ⟨B, 2, none⟩ = some (.slice a1 al.length c1) := cell_of_row _ B 2 _ _ _ B1.out
    have x3 : W.cell? ⟨B, 3, none⟩ = some (.slice a2 am.length c2) := cell_of_row _ B 3 _ _ _ B1.out
    have z2 : W.cell? ⟨B + 1, 2, none⟩ = some (.slice a3 n1 c3) := cell_of_row _ (B + 1) 2 _ _ _ B2.out
    have z3 : W.cell? ⟨B + 1, 3, none⟩ = some (.slice a4 n2 c4) := cell_of_row _ (B + 1) 3 _ _ _ B2.out
    have HE := Lib.hid heq
    clear heq
    by_cases hlt : j < al.length
    · obtain ⟨g, o, c', -, e1, hc1⟩ := SeesI.cell HU1.out (by omega)
      have hlt' : j < bl.length := by rw [← Q4.out]; exact hlt
      have hv1' := HV1.out
      rw [hn1.out] at hv1'
      obtain ⟨g', o', c'', -, e2, hc2⟩ := SeesI.cell hv1' (by omega)
      obtain ⟨rfl, rfl⟩ : a1 = some ⟨g, o, none⟩ ∧ c1 = c' := by simpa using e1
      obtain ⟨rfl, rfl⟩ : a3 = some ⟨g', o', none⟩ ∧ c3 = c'' := by simpa using e2
      have h1 : W.cell? ⟨g, o + j, none⟩ = some (.int .i64 (al.getD j 0)) := hc1 j hlt
      have h2 : W.cell? ⟨g', o' + j, none⟩ = some (.int .i64 (bl.getD j 0)) := hc2 j hlt'
      clear e1 e2 hc1 hc2 hv1'
      have i1 : (0 : Int) ≤ j := by omega
      have i2 : (j : Int) < al.length := by omega
      have i3 : (j : Int) < n1 := by rw [hn1.out]; omega
      by_cases hxy : al.getD j 0 = bl.getD j 0
      · have HX : Hid (∀ m, m < j + 1 → al.getD m 0 = bl.getD m 0) := Lib.hid (fun m hm => by
          by_cases e : m = j
          · subst e; exact hxy
          · exact HE.out m (by omega))
        have t1 : (al.getD j 0 != bl.getD j 0) = false := by simpa using hxy
        generalize al.getD j 0 = X at *
        generalize bl.getD j 0 = Y at *
        clear hxy
        go_wp2_with fail
        go_quiet (fail)
        go_wp2_with fail
        go_roundw
        case rel =>
          exact ⟨j + 1, by omega, by go_num, HX.out, _, by first | rfl | exact World.drewN_drewN _ _ _⟩
        case measure => simp [intOf]; omega
      · have t1 : (al.getD j 0 != bl.getD j 0) = true := by simpa using hxy
        have hyf := Lib.hid (hno.out (fun h => hxy (by rw [h.2.2.1])))
        generalize al.getD j 0 = X at *
        generalize bl.getD j 0 = Y at *
        clear hxy
        go_wp2_with fail
        go_quiet (fail)
        go_wp2_with fail
        go_ret
        exact ⟨by rw [hyf.out]; rfl, (cA.out.drewN _).drewN _⟩
    · obtain rfl : j = al.length := by omega
      have hbl : bl.length = al.length := Q4.out.symm
      have hal := Lib.hid (ext_getD Q4.out HE.out)
      clear HE hbl hlt
      go_wp2_with fail
      go_loopw [65] (fun i wr => ∃ j : Nat, j ≤ am.length ∧ i = .int .i64 j ∧ (∀ m, m < j → am.getD m 0 = bm.getD m 0) ∧ ∃ n, wr = W.drewN n) (fun i _ => am.length - (intOf i).toNat)
      case atStart => exact ⟨0, Nat.zero_le _, rfl, fun m hm => by omega, nq, rfl⟩
      case round =>
        obtain ⟨j, hj, rfl, heq, nq2, rfl⟩ := hrel
        clear x2 x3 z2 z3
        have x3 : W.cell? ⟨B, 3, none⟩ = some (.slice a2 am.length c2) := cell_of_row _ B 3 _ _ _ B1.out
        have z3 : W.cell? ⟨B + 1, 3, none⟩ = some (.slice a4 n2 c4) := cell_of_row _ (B + 1) 3 _ _ _ B2.out
        have HE := Lib.hid heq
        clear heq
        by_cases hlt : j < am.length
        · obtain ⟨g, o, c', -, e1, hc1⟩ := SeesI.cell HU2.out (by omega)
          have hlt' : j < bm.length := by rw [← Q5.out]; exact hlt
          have hv2' := HV2.out
          rw [hn2.out] at hv2'
          obtain ⟨g', o', c'', -, e2, hc2⟩ := SeesI.cell hv2' (by omega)
          obtain ⟨rfl, rfl⟩ : a2 = some ⟨g, o, none⟩ ∧ c2 = c' := by simpa using e1
          obtain ⟨rfl, rfl⟩ : a4 = some ⟨g', o', none⟩ ∧ c4 = c'' := by simpa using e2
          have h1 : W.cell? ⟨g, o + j, none⟩ = some (.int .i64 (am.getD j 0)) := hc1 j hlt
          have h2 : W.cell? ⟨g', o' + j, none⟩ = some (.int .i64 (bm.getD j 0)) := hc2 j hlt'
          clear e1 e2 hc1 hc2 hv2'
          have i1 : (0 : Int) ≤ j := by omega
          have i2 : (j : Int) < am.length := by omega
          have i3 : (j : Int) < n2 := by rw [hn2.out]; omega
          by_cases hxy : am.getD j 0 = bm.getD j 0
          · have HX : Hid (∀ m, m < j + 1 → am.getD m 0 = bm.getD m 0) := Lib.hid (fun m hm => by
              by_cases e : m = j
              · subst e; exact hxy
              · exact HE.out m (by omega))
            have t1 : (am.getD j 0 != bm.getD j 0) = false := by simpa using hxy
            generalize am.getD j 0 = X at *
            generalize bm.getD j 0 = Y at *
            clear hxy
            go_wp2_with fail
            go_quiet (fail)
            go_wp2_with fail
            go_roundw
            case rel => exact ⟨j + 1, by omega, by go_num, HX.out, _, by first | rfl | exact World.drewN_drewN _ _ _⟩
            case measure => simp [intOf]; omega
          · have t1 : (am.getD j 0 != bm.getD j 0) = true := by simpa using hxy
            have hyf := Lib.hid (hno.out (fun h => hxy (by rw [h.2.2.2.1])))
            generalize am.getD j 0 = X at *
            generalize bm.getD j 0 = Y at *
            clear hxy
            go_wp2_with fail
            go_quiet (fail)
            go_wp2_with fail
            go_ret
            exact ⟨by rw [hyf.out]; rfl, (cA.out.drewN _).drewN _⟩
        · obtain rfl : j = am.length := by omega
          have hyt := Lib.hid (hye2.out hal.out (ext_getD Q5.out HE.out))
          clear HE hlt
          go_wp2_with fail
          go_ret
          exact ⟨by rw [hyt.out]; rfl, cA.out.drewN _⟩

end Go.Proofs.Ytlmeponoadhheaa
