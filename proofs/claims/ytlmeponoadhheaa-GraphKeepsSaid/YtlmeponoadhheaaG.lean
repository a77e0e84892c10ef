/-
  A graph in memory: what its nodes are, how they lie; how a turn of one node turns it.
-/
import Derived.Test.YtlmeponoadhheaaRowsIn
import Derived.Test.YtlmeponoadhheaaMap2
import Derived.Test.YtlmeponoadhheaaAside
import Derived.Test.YtlmeponoadhheaaClass4
namespace Go.Proofs.Ytlmeponoadhheaa
set_option linter.unusedVariables false
open Go.RowKit

/-- a node -/
structure GN where
  id : Int
  cls : Int
  refs : List Int
  data : List Int
  fin : Bool
deriving DecidableEq

instance : Inhabited GN := ⟨⟨0, 0, [], [], false⟩⟩

def ids (L : List GN) : List Int := L.map GN.id

/-- the node of a name -/
def gat (L : List GN) (id : Int) : Option GN := L.find? (fun nd => nd.id == id)

theorem gat_mem {L : List GN} {id : Int} {nd : GN} (h : gat L id = some nd) : nd ∈ L ∧ nd.id = id := by
  unfold gat at h
  exact ⟨List.mem_of_find?_eq_some h, by simpa using List.find?_some h⟩

theorem gat_none {L : List GN} {id : Int} (h : gat L id = none) : id ∉ ids L := by
  unfold gat at h
  rw [List.find?_eq_none] at h
  intro hm
  obtain ⟨nd, hnd, rfl⟩ := List.mem_map.1 hm
  exact h nd hnd (by simp)

theorem gat_isSome (L : List GN) (id : Int) : (gat L id).isSome = decide (id ∈ ids L) := by
  cases h : gat L id with
  | none => simp [gat_none h]
  | some nd =>
    obtain ⟨h1, rfl⟩ := gat_mem h
    simp [ids, List.mem_map]
    exact ⟨nd, h1, rfl⟩

/-- names rise -/
def Rising (L : List GN) : Prop := L.Pairwise (fun a b => a.id < b.id)

theorem Rising.inj {L : List GN} (h : Rising L) {a b : GN} (ha : a ∈ L) (hb : b ∈ L) (e : a.id = b.id) : a = b := by
  unfold Rising at h
  induction L with
  | nil => cases ha
  | cons c L ih =>
    rw [List.pairwise_cons] at h
    rcases List.mem_cons.1 ha with ea | ha'
    · rcases List.mem_cons.1 hb with eb | hb'
      · rw [ea, eb]
      · have := h.1 b hb'; rw [ea] at e; omega
    · rcases List.mem_cons.1 hb with eb | hb'
      · have := h.1 a ha'; rw [eb] at e; omega
      · exact ih h.2 ha' hb'

theorem Rising.at {L : List GN} (h : Rising L) {a : GN} (ha : a ∈ L) : gat L a.id = some a := by
  cases e : gat L a.id with
  | none => exact absurd (List.mem_map.2 ⟨a, ha, rfl⟩) (gat_none e)
  | some b =>
    obtain ⟨h1, h2⟩ := gat_mem e
    rw [h.inj h1 ha h2]

/-- one node is other; its name stays -/
def upd (L : List GN) (id : Int) (g : GN → GN) : List GN := L.map (fun nd => if nd.id = id then g nd else nd)

theorem upd_ids (L : List GN) (id : Int) (g : GN → GN) (hg : ∀ nd, (g nd).id = nd.id) : ids (upd L id g) = ids L := by
  unfold ids upd
  rw [List.map_map]
  apply List.map_congr_left
  intro nd _
  simp only [Function.comp]
  split <;> simp [hg]

theorem rising_of_ids {L L' : List GN} (h : Rising L) (e : ids L' = ids L) : Rising L' := by
  unfold Rising at *
  have h1 : (ids L).Pairwise (· < ·) := by unfold ids; rw [List.pairwise_map]; exact h
  rw [← e] at h1
  unfold ids at h1
  rw [List.pairwise_map] at h1
  exact h1

/-- a node in memory, at block p -/
structure NodeAt (w : World) (p : Nat) (nd : GN) (vr vd : Value) : Prop where
  blk : w.heap[p]? = some (.cells #[.int .i64 nd.id, .int .i64 nd.cls, vr, vd, .bool nd.fin] 36 (0, 0))
  refs : RowAt w 3 1 vr nd.refs.length (nd.refs.map (Value.int .i64))
  data : RowAt w 3 1 vd nd.data.length (nd.data.map (Value.int .i64))
  apart : ∀ k, rblk vr = some k → rblk vd ≠ some k

/-- the blocks of a node -/
def nblk (p : Nat) (vr vd : Value) (k : Nat) : Prop := k = p ∨ rblk vr = some k ∨ rblk vd = some k

theorem NodeAt.keep {w w' : World} {p : Nat} {nd : GN} {vr vd : Value} (h : NodeAt w p nd vr vd) {S : Nat → Prop} (c : Ch S w w') (hS : ∀ k, nblk p vr vd k → ¬ S k) : NodeAt w' p nd vr vd where
  blk := c.keep h.blk (hS p (.inl rfl))
  refs := h.refs.keep c (fun k hk => hS k (.inr (.inl hk)))
  data := h.data.keep c (fun k hk => hS k (.inr (.inr hk)))
  apart := h.apart

theorem NodeAt.lt {w : World} {p : Nat} {nd : GN} {vr vd : Value} (h : NodeAt w p nd vr vd) {k : Nat} (hk : nblk p vr vd k) : k < w.heap.size := by
  rcases hk with rfl | hk | hk
  · exact lt_of_block h.blk
  · exact h.refs.lt hk
  · exact h.data.lt hk

theorem NodeAt.cells {w : World} {p : Nat} {nd : GN} {vr vd : Value} (h : NodeAt w p nd vr vd) :
    w.cell? ⟨p, 0, none⟩ = some (.int .i64 nd.id) ∧ w.cell? ⟨p, 1, none⟩ = some (.int .i64 nd.cls) ∧ w.cell? ⟨p, 2, none⟩ = some vr ∧ w.cell? ⟨p, 3, none⟩ = some vd ∧ w.cell? ⟨p, 4, none⟩ = some (.bool nd.fin) :=
  ⟨cell_of_row w p _ _ _ _ h.blk, cell_of_row w p _ _ _ _ h.blk, cell_of_row w p _ _ _ _ h.blk, cell_of_row w p _ _ _ _ h.blk, cell_of_row w p _ _ _ _ h.blk⟩

/-- the map of a graph -/
def gmap (L : List GN) (pn : Int → Nat) : Int → Option Value := fun k => if k ∈ ids L then some (.pointer (some ⟨pn k, 0, none⟩)) else none

/-- A graph in block b, its table tv, its nodes L; its own blocks O. -/
structure GS (w : World) (b : Nat) (O : Nat → Prop) (tv : Value) (L : List GN) (r n : Nat) (pn : Int → Nat) (vr vd : Int → Value) (ow : Nat → Option Int) : Prop where
  blk : w.heap[b]? = some (.cells #[tv, .map (some r)] 130 (0, 0))
  ownB : O b
  ownR : O r
  small : ∀ k, O k → k < w.heap.size
  map : IM w r n (gmap L pn)
  node : ∀ nd ∈ L, NodeAt w (pn nd.id) nd (vr nd.id) (vd nd.id)
  ownN : ∀ nd ∈ L, ∀ k, nblk (pn nd.id) (vr nd.id) (vd nd.id) k → O k ∧ ow k = some nd.id
  rise : Rising L

def Gr (w : World) (b : Nat) (O : Nat → Prop) (tv : Value) (L : List GN) : Prop := ∃ r n pn vr vd ow, GS w b O tv L r n pn vr vd ow

section
variable {w w' : World} {b : Nat} {O : Nat → Prop} {tv : Value} {L : List GN} {r n : Nat} {pn : Int → Nat} {vr vd : Int → Value} {ow : Nat → Option Int}

theorem GS.keep (h : GS w b O tv L r n pn vr vd ow) {S : Nat → Prop} (c : Ch S w w') (hn : ∀ k, O k → ¬ S k) : GS w' b O tv L r n pn vr vd ow where
  blk := c.keep h.blk (hn b h.ownB)
  ownB := h.ownB
  ownR := h.ownR
  small := fun k hk => Nat.lt_of_lt_of_le (h.small k hk) c.size
  map := h.map.keep c (hn r h.ownR)
  node := fun nd hnd => (h.node nd hnd).keep c (fun k hk => hn k (h.ownN nd hnd k hk).1)
  ownN := h.ownN
  rise := h.rise

theorem Gr.keep (h : Gr w b O tv L) {S : Nat → Prop} (c : Ch S w w') (hn : ∀ k, O k → ¬ S k) : Gr w' b O tv L := by
  obtain ⟨r, n, pn, vr, vd, ow, h⟩ := h
  exact ⟨r, n, pn, vr, vd, ow, h.keep c hn⟩

theorem Gr.small (h : Gr w b O tv L) : ∀ k, O k → k < w.heap.size := by
  obtain ⟨r, n, pn, vr, vd, ow, h⟩ := h
  exact h.small

theorem Gr.rise (h : Gr w b O tv L) : Rising L := by
  obtain ⟨r, n, pn, vr, vd, ow, h⟩ := h
  exact h.rise

/-- a node's blocks are neither the graph's own nor its map's -/
theorem GS.ne_b (h : GS w b O tv L r n pn vr vd ow) {nd : GN} (hnd : nd ∈ L) {k : Nat} (hk : nblk (pn nd.id) (vr nd.id) (vd nd.id) k) : k ≠ b := by
  rintro rfl
  have hN := h.node nd hnd
  rcases hk with e | e | e
  · have := hN.blk; rw [← e, h.blk] at this; cases this
  · obtain ⟨cur, hc⟩ := hN.refs.block e; rw [h.blk] at hc; cases hc
  · obtain ⟨cur, hc⟩ := hN.data.block e; rw [h.blk] at hc; cases hc

theorem GS.ne_r (h : GS w b O tv L r n pn vr vd ow) {nd : GN} (hnd : nd ∈ L) {k : Nat} (hk : nblk (pn nd.id) (vr nd.id) (vd nd.id) k) : k ≠ r := by
  rintro rfl
  obtain ⟨es, clock, he, _⟩ := h.map
  have hN := h.node nd hnd
  rcases hk with e | e | e
  · have := hN.blk; rw [← e, he] at this; cases this
  · obtain ⟨cur, hc⟩ := hN.refs.block e; rw [he] at hc; cases hc
  · obtain ⟨cur, hc⟩ := hN.data.block e; rw [he] at hc; cases hc

theorem GS.b_ne_r (h : GS w b O tv L r n pn vr vd ow) : b ≠ r := by
  rintro rfl
  obtain ⟨es, clock, he, _⟩ := h.map
  rw [h.blk] at he; cases he

/-- another node's blocks -/
theorem GS.other (h : GS w b O tv L r n pn vr vd ow) {nd nd' : GN} (hnd : nd ∈ L) (hnd' : nd' ∈ L) (hne : nd'.id ≠ nd.id) {k : Nat} (hk : nblk (pn nd.id) (vr nd.id) (vd nd.id) k) : ¬ nblk (pn nd'.id) (vr nd'.id) (vd nd'.id) k := by
  intro hk'
  have h1 := (h.ownN nd hnd k hk).2
  have h2 := (h.ownN nd' hnd' k hk').2
  rw [h1] at h2
  exact hne (Option.some.inj h2).symm

/-- One node is other, in place. -/
theorem GS.turn (h : GS w b O tv L r n pn vr vd ow) {nd : GN} (hnd : nd ∈ L) {g : GN → GN} (hg : ∀ nd, (g nd).id = nd.id) (c : Ch (fun k => nblk (pn nd.id) (vr nd.id) (vd nd.id) k) w w')
    (hN : NodeAt w' (pn nd.id) (g nd) (vr nd.id) (vd nd.id)) : GS w' b O tv (upd L nd.id g) r n pn vr vd ow ∧ Turn w w' O O := by
  have hm : ∀ nd', nd' ∈ upd L nd.id g → (nd' = g nd) ∨ (nd' ∈ L ∧ nd'.id ≠ nd.id) := by
    intro nd' h'
    obtain ⟨x, hx, rfl⟩ := List.mem_map.1 h'
    by_cases e : x.id = nd.id
    · rw [if_pos e]; left; rw [h.rise.inj hx hnd e]
    · rw [if_neg e]; exact .inr ⟨hx, e⟩
  refine ⟨⟨c.keep h.blk (fun e => h.ne_b hnd e rfl), h.ownB, h.ownR, fun k hk => Nat.lt_of_lt_of_le (h.small k hk) c.size, ?_, ?_, ?_, rising_of_ids h.rise (upd_ids L nd.id g hg)⟩, ⟨c.mono (fun k _ e => (h.ownN nd hnd k e).1), fun k hk => .inl hk⟩⟩
  · refine (h.map.keep c (fun e => h.ne_r hnd e rfl)).congr (fun k => ?_) rfl
    unfold gmap
    rw [upd_ids L nd.id g hg]
  · intro nd' h'
    rcases hm nd' h' with rfl | ⟨h1, h2⟩
    · rw [hg]; exact hN
    · exact (h.node nd' h1).keep c (fun k hk e => h.other hnd h1 h2 e hk)
  · intro nd' h'
    rcases hm nd' h' with rfl | ⟨h1, h2⟩
    · rw [hg]; exact h.ownN nd hnd
    · exact h.ownN nd' h1

end

end Go.Proofs.Ytlmeponoadhheaa
