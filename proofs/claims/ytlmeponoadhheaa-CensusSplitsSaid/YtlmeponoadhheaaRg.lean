/-
  Texts of this seat, laid one behind the other: R, R2, R3, R4, R5, R6, R7, R8, R9.
-/
import Derived.Test.YtlmeponoadhheaaGr
import Derived.Test.YtlmeponoadhheaaGl
import Derived.Test.YtlmeponoadhheaaCls
import Derived.Deep.RegionLaw
/-
  The document's graph in memory: a row of nodes, each with its two lists.
-/
namespace Go.Proofs.Ytlmeponoadhheaa
set_option linter.unusedVariables false
open Go.RowKit

/-- a node's five cells -/
def ncells (nd : GN) (a b : Value) : List Value := [.int .i64 nd.id, .int .i64 nd.cls, a, b, .bool nd.fin]

/-- the cells of some nodes, one behind the other -/
def nrow (vr vd : Int → Value) (L : List GN) : List Value := L.flatMap (fun nd => ncells nd (vr nd.id) (vd nd.id))

theorem nrow_length (vr vd : Int → Value) (L : List GN) : (nrow vr vd L).length = L.length * 5 := by
  induction L with
  | nil => rfl
  | cons a l ih => simp only [nrow, List.flatMap_cons, List.length_append, List.length_cons] at ih ⊢; rw [ih]; simp [ncells]; omega

theorem nrow_append (vr vd : Int → Value) (L K : List GN) : nrow vr vd (L ++ K) = nrow vr vd L ++ nrow vr vd K := by simp [nrow]

theorem nrow_take (vr vd : Int → Value) (L : List GN) (i : Nat) : (nrow vr vd L).take (i * 5) = nrow vr vd (L.take i) := by
  by_cases h : i ≤ L.length
  · have e : nrow vr vd L = nrow vr vd (L.take i) ++ nrow vr vd (L.drop i) := by rw [← nrow_append, List.take_append_drop]
    rw [e, List.take_left' (by rw [nrow_length]; simp [h])]
  · rw [List.take_of_length_le (by rw [nrow_length]; omega), List.take_of_length_le (by omega)]

theorem nrow_drop (vr vd : Int → Value) (L : List GN) (i : Nat) : (nrow vr vd L).drop (i * 5) = nrow vr vd (L.drop i) := by
  by_cases h : i ≤ L.length
  · have e : nrow vr vd L = nrow vr vd (L.take i) ++ nrow vr vd (L.drop i) := by rw [← nrow_append, List.take_append_drop]
    rw [e, List.drop_left' (by rw [nrow_length]; simp [h])]
  · rw [List.drop_of_length_le (by rw [nrow_length]; omega), List.drop_of_length_le (by omega)]; rfl

theorem nrow_get (vr vd : Int → Value) (L : List GN) (j : Nat) (nd : GN) (h : L[j]? = some nd) (i : Nat) (hi : i < 5) : (nrow vr vd L)[j * 5 + i]? = (ncells nd (vr nd.id) (vd nd.id))[i]? := by
  induction L generalizing j with
  | nil => simp at h
  | cons a l ih =>
    cases j with
    | zero =>
      simp at h
      subst h
      show (ncells a _ _ ++ nrow vr vd l)[0 * 5 + i]? = _
      rw [List.getElem?_append_left (by simp [ncells]; omega)]
      simp
    | succ j =>
      show (ncells a _ _ ++ nrow vr vd l)[(j + 1) * 5 + i]? = _
      rw [List.getElem?_append_right (by simp [ncells]; omega)]
      have : (j + 1) * 5 + i - (ncells a (vr a.id) (vd a.id)).length = j * 5 + i := by simp [ncells]; omega
      rw [this]
      exact ih j (by simpa using h)

theorem nrow_congr {vr vd vr' vd' : Int → Value} {L : List GN} (h : ∀ nd ∈ L, vr nd.id = vr' nd.id ∧ vd nd.id = vd' nd.id) : nrow vr vd L = nrow vr' vd' L := by
  induction L with
  | nil => rfl
  | cons a l ih =>
    obtain ⟨h1, h2⟩ := h a (by simp)
    have := ih (fun nd hnd => h nd (by simp [hnd]))
    simp only [nrow, List.flatMap_cons] at this ⊢
    rw [h1, h2, this]

theorem one_nrow (vr vd : Int → Value) (L : List GN) (h : ∀ nd ∈ L, (∃ a n c, vr nd.id = .slice a n c) ∧ ∃ a n c, vd nd.id = .slice a n c) : ∀ u ∈ nrow vr vd L, u.oneCell' = true := by
  intro u hu
  obtain ⟨nd, hnd, hu⟩ := List.mem_flatMap.1 hu
  obtain ⟨⟨a, n, c, e1⟩, ⟨a', n', c', e2⟩⟩ := h nd hnd
  rw [e1, e2] at hu
  simp [ncells] at hu
  rcases hu with rfl | rfl | rfl | rfl | rfl <;> rfl

/-- The document's graph in block b: its classes' slice cv, its nodes' slice nv. -/
structure RGS (w : World) (b : Nat) (O : Nat → Prop) (cv : Value) (L : List GN) (nv : Value) (vr vd : Int → Value) (ow : Nat → Option Int) : Prop where
  blk : w.heap[b]? = some (.cells #[cv, nv] 59 (0, 0))
  ownB : O b
  row : RowAt w 36 5 nv L.length (nrow vr vd L)
  ownV : ∀ k, rblk nv = some k → O k
  small : ∀ k, O k → k < w.heap.size
  refs : ∀ nd ∈ L, RowAt w 3 1 (vr nd.id) nd.refs.length (nd.refs.map (Value.int .i64))
  data : ∀ nd ∈ L, RowAt w 3 1 (vd nd.id) nd.data.length (nd.data.map (Value.int .i64))
  ownN : ∀ nd ∈ L, ∀ k, (rblk (vr nd.id) = some k ∨ rblk (vd nd.id) = some k) → O k ∧ ow k = some nd.id
  apart : ∀ nd ∈ L, ∀ k, rblk (vr nd.id) = some k → rblk (vd nd.id) ≠ some k
  rise : Rising L

/-- .. with its classes -/
structure Rt (w : World) (b : Nat) (O : Nat → Prop) (D : Nat → Prop) (cs : List Cls) (cv : Value) (L : List GN) : Prop where
  g : ∃ nv vr vd ow, RGS w b O cv L nv vr vd ow
  c : SeesC D w cv cs
  off : ∀ k, D k → ¬ O k
  dlt : ∀ k, D k → k < w.heap.size
  wf : ∀ nd ∈ L, WfN cs nd

section
variable {w w' : World} {b : Nat} {O D : Nat → Prop} {cv : Value} {cs : List Cls} {L : List GN} {nv : Value} {vr vd : Int → Value} {ow : Nat → Option Int}

theorem RGS.keep (h : RGS w b O cv L nv vr vd ow) {S : Nat → Prop} (c : Ch S w w') (hn : ∀ k, O k → ¬ S k) : RGS w' b O cv L nv vr vd ow where
  blk := c.keep h.blk (hn b h.ownB)
  ownB := h.ownB
  row := h.row.keep c (fun k hk => hn k (h.ownV k hk))
  ownV := h.ownV
  small := fun k hk => Nat.lt_of_lt_of_le (h.small k hk) c.size
  refs := fun nd hnd => (h.refs nd hnd).keep c (fun k hk => hn k (h.ownN nd hnd k (.inl hk)).1)
  data := fun nd hnd => (h.data nd hnd).keep c (fun k hk => hn k (h.ownN nd hnd k (.inr hk)).1)
  ownN := h.ownN
  apart := h.apart
  rise := h.rise

theorem RGS.cells (h : RGS w b O cv L nv vr vd ow) : w.cell? ⟨b, 0, none⟩ = some cv ∧ w.cell? ⟨b, 1, none⟩ = some nv :=
  ⟨cell_of_row w b _ _ _ _ h.blk, cell_of_row w b _ _ _ _ h.blk⟩

theorem RGS.slices (h : RGS w b O cv L nv vr vd ow) : ∀ nd ∈ L, (∃ a n c, vr nd.id = .slice a n c) ∧ ∃ a n c, vd nd.id = .slice a n c := by
  intro nd hnd
  obtain ⟨a, c, e, -, -⟩ := (h.refs nd hnd).isSlice
  obtain ⟨a', c', e', -, -⟩ := (h.data nd hnd).isSlice
  exact ⟨⟨a, _, c, e⟩, a', _, c', e'⟩

/-- the cells of a node in the row -/
theorem RGS.node (h : RGS w b O cv L nv vr vd ow) (hp : 0 < L.length) : ∃ g o c, nv = .slice (some ⟨g, o, none⟩) L.length c ∧ O g ∧ ∀ j (hj : j < L.length),
    w.cell? ⟨g, o + j * 5, none⟩ = some (.int .i64 L[j].id) ∧ w.cell? ⟨g, o + j * 5 + 1, none⟩ = some (.int .i64 L[j].cls) ∧ w.cell? ⟨g, o + j * 5 + 2, none⟩ = some (vr L[j].id) ∧
      w.cell? ⟨g, o + j * 5 + 3, none⟩ = some (vd L[j].id) ∧ w.cell? ⟨g, o + j * 5 + 4, none⟩ = some (.bool L[j].fin) := by
  obtain ⟨h0, a, c, hv, hn, hm, hl⟩ := h.row.sees
  rcases hl with hl | ⟨g, o, hg, rfl, hi⟩
  · omega
  · refine ⟨g, o, c, hv, h.ownV g hg, fun j hj => ⟨?_, ?_, ?_, ?_, ?_⟩⟩
    · exact hi (j * 5) _ (by rw [show j * 5 = j * 5 + 0 from rfl, nrow_get vr vd L j _ (List.getElem?_eq_getElem hj) 0 (by omega)]; rfl)
    · rw [Nat.add_assoc]; exact hi (j * 5 + 1) _ (by rw [nrow_get vr vd L j _ (List.getElem?_eq_getElem hj) 1 (by omega)]; rfl)
    · rw [Nat.add_assoc]; exact hi (j * 5 + 2) _ (by rw [nrow_get vr vd L j _ (List.getElem?_eq_getElem hj) 2 (by omega)]; rfl)
    · rw [Nat.add_assoc]; exact hi (j * 5 + 3) _ (by rw [nrow_get vr vd L j _ (List.getElem?_eq_getElem hj) 3 (by omega)]; rfl)
    · rw [Nat.add_assoc]; exact hi (j * 5 + 4) _ (by rw [nrow_get vr vd L j _ (List.getElem?_eq_getElem hj) 4 (by omega)]; rfl)

theorem Rt.keep (h : Rt w b O D cs cv L) {S : Nat → Prop} (c : Ch S w w') (h1 : ∀ k, O k → ¬ S k) (h2 : ∀ k, D k → ¬ S k) : Rt w' b O D cs cv L where
  g := by obtain ⟨nv, vr, vd, ow, h⟩ := h.g; exact ⟨nv, vr, vd, ow, h.keep c h1⟩
  c := h.c.keep c h2
  off := h.off
  dlt := fun k hk => Nat.lt_of_lt_of_le (h.dlt k hk) c.size
  wf := h.wf

theorem Rt.new (h : Rt w b O D cs cv L) (c : Ch0 w w') : Rt w' b O D cs cv L := h.keep c (fun _ _ e => e) (fun _ _ e => e)

theorem Rt.small (h : Rt w b O D cs cv L) : ∀ k, O k → k < w.heap.size := by
  obtain ⟨nv, vr, vd, ow, g⟩ := h.g
  exact g.small

theorem Rt.rise (h : Rt w b O D cs cv L) : Rising L := by
  obtain ⟨nv, vr, vd, ow, g⟩ := h.g
  exact g.rise

theorem Rt.turn {O' : Nat → Prop} {L' : List GN} (h : Rt w b O D cs cv L) (hg : ∃ nv vr vd ow, RGS w' b O' cv L' nv vr vd ow) (t : Turn w w' O O') (hw : ∀ nd ∈ L', WfN cs nd) : Rt w' b O' D cs cv L' where
  g := hg
  c := h.c.keep t.1 h.off
  off := fun k hk e => by
    rcases t.2 k e with e | e
    · exact h.off k hk e
    · have := h.dlt k hk; omega
  dlt := fun k hk => Nat.lt_of_lt_of_le (h.dlt k hk) t.1.size
  wf := hw

end

/-- the place of a name -/
def gpos (L : List GN) (id : Int) : Int := match L.findIdx? (fun nd => nd.id == id) with
  | some i => i
  | none => -1

theorem gpos_none {L : List GN} {id : Int} (h : id ∉ ids L) : gpos L id = -1 := by
  unfold gpos
  have : L.findIdx? (fun nd => nd.id == id) = none := by
    rw [List.findIdx?_eq_none_iff]
    intro nd hnd
    simp only [beq_eq_false_iff_ne, ne_eq]
    rintro rfl
    exact h (List.mem_map.2 ⟨nd, hnd, rfl⟩)
  rw [this]

theorem gpos_some {L : List GN} {id : Int} (h : id ∈ ids L) : ∃ (i : Nat) (hi : i < L.length), gpos L id = i ∧ L[i].id = id ∧ gat L id = some L[i] := by
  cases e : L.findIdx? (fun nd => nd.id == id) with
  | none =>
    rw [List.findIdx?_eq_none_iff] at e
    obtain ⟨nd, hnd, rfl⟩ := List.mem_map.1 h
    have := e nd hnd
    simp at this
  | some i =>
    obtain ⟨hi, h1, h2⟩ := List.findIdx?_eq_some_iff_getElem.1 e
    refine ⟨i, hi, by unfold gpos; rw [e], by simpa using h1, ?_⟩
    unfold gat
    rw [List.find?_eq_some_iff_getElem]
    exact ⟨h1, i, hi, rfl, fun j hj => by simpa using h2 j hj⟩

theorem gpos_at {L : List GN} (hr : Rising L) {i : Nat} (hi : i < L.length) : gpos L L[i].id = i := by
  obtain ⟨j, hj, e1, e2, -⟩ := gpos_some (List.mem_map.2 ⟨_, List.getElem_mem hi, rfl⟩)
  rw [e1]
  have h := List.pairwise_iff_getElem.1 hr
  rcases Nat.lt_trichotomy i j with q | q | q
  · have := h i j hi hj q; omega
  · rw [q]
  · have := h j i hj hi q; omega

end Go.Proofs.Ytlmeponoadhheaa

/-
  Contracts of the document's graph: At.
-/
namespace Go.Proofs.Ytlmeponoadhheaa
set_option linter.unusedVariables false
open Go.RowKit

section
variable {w : World} {b : Nat} {O D : Nat → Prop} {cs : List Cls} {cv : Value} {L : List GN}

set_option maxHeartbeats 1000000 in
theorem rat_g {nv : Value} {vr vd : Int → Value} {ow : Nat → Option Int} (g : RGS w b O cv L nv vr vd ow) (id : Int) :
    Calls Try.prog 47 #[.pointer (some ⟨b, 0, none⟩), .int .i64 id] w fun e w' => e = .returned (.int .i64 (gpos L id)) ∧ SameW w w' := by
  obtain ⟨a, c, rfl, -, hcm⟩ := g.row.isSlice
  obtain ⟨k0, k1⟩ := g.cells
  have hL : L.length ≤ 9223372036854775807 := by
    obtain ⟨a', c', e, h1, h2⟩ := g.row.isSlice
    unfold maxLen at h2; omega
  have HG := Lib.hid g
  obtain ⟨y, hy⟩ : ∃ y, y = gpos L id := ⟨_, rfl⟩
  rw [← hy]
  replace hy := Lib.hid hy
  clear g
  go_enter Try.func47, Try.ntmps47
  go_wp2_with fail
  go_loop [11] (fun i => ∃ j : Nat, j ≤ L.length ∧ i = .int .i64 j ∧ (∀ m (hm : m < L.length), m < j → L[m].id ≠ id)) (fun i => L.length - (intOf i).toNat)
  case atStart => exact ⟨0, Nat.zero_le _, rfl, fun m _ hm => by omega⟩
  case round =>
    obtain ⟨j, hj, rfl, hne⟩ := hrel
    have HN := Lib.hid hne
    clear hne
    by_cases hlt : j < L.length
    · obtain ⟨gb, o, c1, e1, -, hcell⟩ := HG.out.node (by omega)
      obtain ⟨rfl, rfl⟩ : a = some ⟨gb, o, none⟩ ∧ c = c1 := by simpa using e1
      obtain ⟨x0, -, -, -, -⟩ := hcell j hlt
      have i1 : (0 : Int) ≤ j := by omega
      have i2 : (j : Int) < L.length := by omega
      clear hcell e1 k0
      by_cases hid : L[j].id = id
      · have HE : Hid (y = j) := Lib.hid (by rw [hy.out, ← hid, gpos_at HG.out.rise hlt])
        have t1 : (L[j].id == id) = true := by simpa using hid
        clear hid
        generalize L[j].id = X at *
        go_wp2_with fail
        go_ret
        exact ⟨by rw [HE.out]; rfl, SameW.rfl' _⟩
      · have HE : Hid (∀ m (hm : m < L.length), m < j + 1 → L[m].id ≠ id) := Lib.hid (fun m hm hmj => by
          by_cases e : m = j
          · subst e; exact hid
          · exact HN.out m hm (by omega))
        have t1 : (L[j].id == id) = false := by simpa using hid
        clear hid
        generalize L[j].id = X at *
        go_wp2_with fail
        go_round
        case rel => exact ⟨j + 1, by omega, by go_num, HE.out⟩
        case measure => simp [intOf]; omega
    · obtain rfl : j = L.length := by omega
      have HE : Hid (y = -1) := Lib.hid (by
        rw [hy.out]
        apply gpos_none
        intro hm
        obtain ⟨nd, hnd, e⟩ := List.mem_map.1 hm
        obtain ⟨m, hm, rfl⟩ := List.getElem_of_mem hnd
        exact HN.out m hm hm e)
      clear k0 k1
      go_wp2_with fail
      go_ret
      exact ⟨by rw [HE.out]; rfl, SameW.rfl' _⟩

theorem rat_any (h : Rt w b O D cs cv L) (id : Int) :
    Calls Try.prog 47 #[.pointer (some ⟨b, 0, none⟩), .int .i64 id] w fun e w' => e = .returned (.int .i64 (gpos L id)) ∧ SameW w w' := by
  obtain ⟨nv, vr, vd, ow, g⟩ := h.g
  exact rat_g g id

end

end Go.Proofs.Ytlmeponoadhheaa

/-
  The document's graph: how it turns; contracts of SetRef, SetNum.
-/
namespace Go.Proofs.Ytlmeponoadhheaa
set_option linter.unusedVariables false
open Go.RowKit

theorem nrow_upd (vr vd : Int → Value) (L : List GN) (id : Int) (g : GN → GN) (hg : ∀ nd, (g nd).id = nd.id ∧ (g nd).cls = nd.cls ∧ (g nd).fin = nd.fin) : nrow vr vd (upd L id g) = nrow vr vd L := by
  unfold nrow upd
  rw [List.flatMap_map]
  congr 1
  funext nd
  by_cases e : nd.id = id
  · obtain ⟨h1, h2, h3⟩ := hg nd
    rw [if_pos e]
    unfold ncells
    rw [h1, h2, h3]
  · rw [if_neg e]

theorem upd_length (L : List GN) (id : Int) (g : GN → GN) : (upd L id g).length = L.length := by simp [upd]

theorem upd_cases {L : List GN} (hr : Rising L) {nd : GN} (hnd : nd ∈ L) {g : GN → GN} {x : GN} (h : x ∈ upd L nd.id g) : x = g nd ∨ (x ∈ L ∧ x.id ≠ nd.id) := by
  obtain ⟨y, hy, rfl⟩ := List.mem_map.1 h
  by_cases e : y.id = nd.id
  · rw [if_pos e]; left; rw [hr.inj hy hnd e]
  · rw [if_neg e]; exact .inr ⟨hy, e⟩

section
variable {w w' : World} {b : Nat} {O D : Nat → Prop} {cv : Value} {cs : List Cls} {L : List GN} {nv : Value} {vr vd : Int → Value} {ow : Nat → Option Int}

/-- a node's lists don't lie in the graph's block, nor in the nodes' -/
theorem RGS.ne_b (h : RGS w b O cv L nv vr vd ow) {nd : GN} (hnd : nd ∈ L) {k : Nat} (hk : rblk (vr nd.id) = some k ∨ rblk (vd nd.id) = some k) : k ≠ b ∧ rblk nv ≠ some k := by
  have key : ∃ cur, w.heap[k]? = some (.cells cur 3 (0, 0)) := by
    rcases hk with e | e
    · exact (h.refs nd hnd).block e
    · exact (h.data nd hnd).block e
  obtain ⟨cur, hc⟩ := key
  refine ⟨fun e => ?_, fun e => ?_⟩
  · subst e; rw [h.blk] at hc; cases hc
  · obtain ⟨cur', hc'⟩ := h.row.block e; rw [hc'] at hc; cases hc

theorem RGS.other (h : RGS w b O cv L nv vr vd ow) {nd nd' : GN} (hnd : nd ∈ L) (hnd' : nd' ∈ L) (hne : nd'.id ≠ nd.id) {k : Nat} (hk : rblk (vr nd.id) = some k ∨ rblk (vd nd.id) = some k) : ¬ (rblk (vr nd'.id) = some k ∨ rblk (vd nd'.id) = some k) := by
  intro hk'
  have h1 := (h.ownN nd hnd k hk).2
  have h2 := (h.ownN nd' hnd' k hk').2
  rw [h1] at h2
  exact hne (Option.some.inj h2).symm

/-- one node's lists are other, in place -/
theorem RGS.turn (h : RGS w b O cv L nv vr vd ow) {nd : GN} (hnd : nd ∈ L) {g : GN → GN} (hg : ∀ nd, (g nd).id = nd.id ∧ (g nd).cls = nd.cls ∧ (g nd).fin = nd.fin) (c : Ch (fun k => rblk (vr nd.id) = some k ∨ rblk (vd nd.id) = some k) w w')
    (h1 : RowAt w' 3 1 (vr nd.id) (g nd).refs.length ((g nd).refs.map (Value.int .i64))) (h2 : RowAt w' 3 1 (vd nd.id) (g nd).data.length ((g nd).data.map (Value.int .i64))) :
    RGS w' b O cv (upd L nd.id g) nv vr vd ow ∧ Turn w w' O O := by
  refine ⟨⟨c.keep h.blk (fun e => (h.ne_b hnd e).1 rfl), h.ownB, ?_, h.ownV, fun k hk => Nat.lt_of_lt_of_le (h.small k hk) c.size, ?_, ?_, ?_, ?_, rising_of_ids h.rise (upd_ids L nd.id g (fun nd => (hg nd).1))⟩, ⟨c.mono (fun k _ e => (h.ownN nd hnd k e).1), fun k hk => .inl hk⟩⟩
  · rw [nrow_upd vr vd L nd.id g hg, upd_length]
    exact h.row.keep c (fun k hk e => (h.ne_b hnd e).2 hk)
  · intro x hx
    rcases upd_cases h.rise hnd hx with rfl | ⟨hx, hne⟩
    · rw [(hg nd).1]; exact h1
    · exact (h.refs x hx).keep c (fun k hk e => h.other hnd hx hne e (.inl hk))
  · intro x hx
    rcases upd_cases h.rise hnd hx with rfl | ⟨hx, hne⟩
    · rw [(hg nd).1]; exact h2
    · exact (h.data x hx).keep c (fun k hk e => h.other hnd hx hne e (.inr hk))
  · intro x hx
    rcases upd_cases h.rise hnd hx with rfl | ⟨hx, hne⟩
    · rw [(hg nd).1]; exact h.ownN nd hnd
    · exact h.ownN x hx
  · intro x hx
    rcases upd_cases h.rise hnd hx with rfl | ⟨hx, hne⟩
    · rw [(hg nd).1]; exact h.apart nd hnd
    · exact h.apart x hx

set_option maxHeartbeats 2000000 in
theorem rsetref_any (h : Rt w b O D cs cv L) (id field to : Int) :
    Calls Try.prog 45 #[.pointer (some ⟨b, 0, none⟩), .int .i64 id, .int .i64 field, .int .i64 to] w fun e w' =>
      e = .returned (.int .i64 (setRefE L id field to)) ∧ Rt w' b O D cs cv (setRefL L id field to) ∧ Turn w w' O O := by
  have hend : ∀ w', SameW w w' → setRefE L id field to ≠ 0 → Rt w' b O D cs cv (setRefL L id field to) ∧ Turn w w' O O := by
    intro w' hs he
    obtain rfl : w = w' := hs
    unfold setRefL
    rw [if_neg he]
    exact ⟨h, Turn.refl _ _⟩
  have ha := rat_any h id
  have hb := rat_any h to
  by_cases hin : id ∈ ids L
  case neg =>
    have e7 : setRefE L id field to = 7 := by
      unfold setRefE
      cases hat : gat L id with
      | none => rfl
      | some nd => obtain ⟨q, rfl⟩ := gat_mem hat; exact absurd (List.mem_map.2 ⟨nd, q, rfl⟩) hin
    rw [e7] at hend ⊢
    rw [gpos_none hin] at ha
    replace hend := Lib.hid hend
    clear h hb e7 hin
    go_enter Try.func45, Try.ntmps45
    go_wp2_with fail
    refine ha.mono ?_
    rintro e w1 ⟨rfl, hs⟩
    obtain rfl : w = w1 := hs
    clear ha
    go_wp2_with fail
    go_ret
    exact ⟨rfl, hend.out _ (SameW.rfl' _) (by omega)⟩
  obtain ⟨i, hi, hp, hid, hat⟩ := gpos_some hin
  rw [hp] at ha
  obtain ⟨nv, vr, vd, ow, g⟩ := h.g
  obtain ⟨k0, k1⟩ := g.cells
  obtain ⟨gn, o, c, rfl, -, hcell⟩ := g.node (by omega)
  obtain ⟨-, -, x2, -, -⟩ := hcell i hi
  have hnd := List.getElem_mem hi
  have hR := g.refs _ hnd
  obtain ⟨ar, cr, ev, -, -⟩ := hR.isSlice
  rw [ev] at x2
  have j1 : (0 : Int) ≤ i := by omega
  have j2 : (i : Int) < L.length := by omega
  have hE : setRefE L id field to = if 0 ≤ field ∧ field < L[i].refs.length then (if to ≠ 0 ∧ to ∉ ids L then 7 else 0) else 1 := by unfold setRefE; rw [hat]
  have key : ∀ n : Nat, n < L[i].refs.length → field = n → setRefE L id field to = 0 → ∃ g2 o2, ar = some ⟨g2, o2, none⟩ ∧ (∃ u2, w.cell? ⟨g2, o2 + n, none⟩ = some u2) ∧ w.frozen? ⟨g2, o2 + n, none⟩ = false ∧ Rt (w.setCell ⟨g2, o2 + n, none⟩ (.int .i64 to)) b O D cs cv (setRefL L id field to) ∧ Turn w (w.setCell ⟨g2, o2 + n, none⟩ (.int .i64 to)) O O := by
    intro n hn hf h0
    obtain ⟨g2, o2, cap2, u2, e2, q1, q2, hR', cS'⟩ := row_set hR rfl n hn to
    rw [e2] at ev
    cases ev
    obtain ⟨t1, t2⟩ := g.turn hnd (g := fun nd => { nd with refs := nd.refs.set field.toNat to }) (fun _ => ⟨rfl, rfl, rfl⟩) (cS'.mono (fun k _ e => .inl e))
      (by rw [hf]; simpa using hR') ((g.data _ hnd).keep cS' (fun k e1 e2 => g.apart _ hnd k e2 e1))
    have t3 : setRefL L id field to = upd L L[i].id (fun nd => { nd with refs := nd.refs.set field.toNat to }) := by
      unfold setRefL
      rw [if_pos h0, hid]
    rw [t3]
    exact ⟨g2, o2, rfl, ⟨u2, q1⟩, q2, h.turn ⟨_, _, _, _, t1⟩ t2 (by rw [← t3]; exact setRefL_wf h.wf id field to), t2⟩
  rw [hE] at hend ⊢
  generalize L[i].refs.length = nr at *
  replace hE := Lib.hid hE
  replace key := Lib.hid key
  replace hend := Lib.hid hend
  have hat2 : Hid (∀ w', SameW w w' → _) := Lib.hid (fun w' (hs : SameW w w') => rat_any (show Rt w' b O D cs cv L by obtain rfl : w = w' := hs; exact h) to)
  clear h g hb hcell hnd hR hin hat hp ev
  by_cases hf : 0 ≤ field ∧ field < nr
  case neg =>
    rw [if_neg hf] at hend ⊢
    by_cases hf0 : field < 0
    · clear hf
      go_enter Try.func45, Try.ntmps45
      go_wp2_with fail
      refine ha.mono ?_
      rintro e w1 ⟨rfl, hs⟩
      obtain rfl : w = w1 := hs
      clear ha
      go_wp2_with fail
      go_ret
      exact ⟨rfl, hend.out _ (SameW.rfl' _) (by omega)⟩
    · have h1 : (nr : Int) ≤ field := by omega
      have h2 : 0 ≤ field := by omega
      clear hf hf0
      go_enter Try.func45, Try.ntmps45
      go_wp2_with fail
      refine ha.mono ?_
      rintro e w1 ⟨rfl, hs⟩
      obtain rfl : w = w1 := hs
      clear ha
      go_wp2_with fail
      go_ret
      exact ⟨rfl, hend.out _ (SameW.rfl' _) (by omega)⟩
  rw [if_pos hf] at hend ⊢
  obtain ⟨n, rfl⟩ := Int.eq_ofNat_of_zero_le hf.1
  have hn : n < nr := by omega
  have h1 : (0 : Int) ≤ n := hf.1
  have h2 : (n : Int) < nr := hf.2
  clear hf
  by_cases hto : to ≠ 0 ∧ to ∉ ids L
  · have ha2 := hat2.out w (SameW.rfl' _)
    rw [gpos_none hto.2] at ha2
    rw [if_pos hto] at hend ⊢
    have t0 : (to != 0) = true := by simpa using hto.1
    clear hto hE
    go_enter Try.func45, Try.ntmps45
    go_wp2_with fail
    refine ha.mono ?_
    rintro e w1 ⟨rfl, hs⟩
    obtain rfl : w = w1 := hs
    clear ha
    go_wp2_with fail
    refine ha2.mono ?_
    rintro e w1 ⟨rfl, hs⟩
    obtain rfl : w = w1 := hs
    clear ha2
    go_wp2_with fail
    go_ret
    exact ⟨rfl, hend.out _ (SameW.rfl' _) (by omega)⟩
  · rw [if_neg hto] at hend ⊢
    obtain ⟨g2, o2, rfl, ⟨u2, q1⟩, q2, hfin⟩ := key.out n hn rfl (by rw [hE.out, if_pos ⟨h1, h2⟩, if_neg hto])
    replace hfin := Lib.hid hfin
    clear hE key hend
    by_cases h0 : to = 0
    · have t0 : (to != 0) = false := by simp [h0]
      clear hto hat2 h0
      go_enter Try.func45, Try.ntmps45
      go_wp2_with fail
      refine ha.mono ?_
      rintro e w1 ⟨rfl, hs⟩
      obtain rfl : w = w1 := hs
      clear ha
      go_wp2_with fail
      go_ret
      exact ⟨rfl, hfin.out⟩
    · have t0 : (to != 0) = true := by simpa using h0
      have hin : to ∈ ids L := Classical.byContradiction fun e => hto ⟨h0, e⟩
      have ha2 := hat2.out w (SameW.rfl' _)
      obtain ⟨m, hm, hp2, -, -⟩ := gpos_some hin
      rw [hp2] at ha2
      have j3 : (0 : Int) ≤ m := by omega
      clear hto hat2 h0 hin hp2
      go_enter Try.func45, Try.ntmps45
      go_wp2_with fail
      refine ha.mono ?_
      rintro e w1 ⟨rfl, hs⟩
      obtain rfl : w = w1 := hs
      clear ha
      go_wp2_with fail
      refine ha2.mono ?_
      rintro e w1 ⟨rfl, hs⟩
      obtain rfl : w = w1 := hs
      clear ha2
      go_wp2_with fail
      go_ret
      exact ⟨rfl, hfin.out⟩

set_option maxHeartbeats 2000000 in
theorem rsetnum_any (h : Rt w b O D cs cv L) (id field x : Int) :
    Calls Try.prog 46 #[.pointer (some ⟨b, 0, none⟩), .int .i64 id, .int .i64 field, .int .i64 x] w fun e w' =>
      e = .returned (.int .i64 (setNumE L id field)) ∧ Rt w' b O D cs cv (setNumL L id field x) ∧ Turn w w' O O := by
  have hend : ∀ w', SameW w w' → setNumE L id field ≠ 0 → Rt w' b O D cs cv (setNumL L id field x) ∧ Turn w w' O O := by
    intro w' hs he
    obtain rfl : w = w' := hs
    unfold setNumL
    rw [if_neg he]
    exact ⟨h, Turn.refl _ _⟩
  have ha := rat_any h id
  by_cases hin : id ∈ ids L
  case neg =>
    have e7 : setNumE L id field = 7 := by
      unfold setNumE
      cases hat : gat L id with
      | none => rfl
      | some nd => obtain ⟨q, rfl⟩ := gat_mem hat; exact absurd (List.mem_map.2 ⟨nd, q, rfl⟩) hin
    rw [e7] at hend ⊢
    rw [gpos_none hin] at ha
    replace hend := Lib.hid hend
    clear h e7 hin
    go_enter Try.func46, Try.ntmps46
    go_wp2_with fail
    refine ha.mono ?_
    rintro e w1 ⟨rfl, hs⟩
    obtain rfl : w = w1 := hs
    clear ha
    go_wp2_with fail
    go_ret
    exact ⟨rfl, hend.out _ (SameW.rfl' _) (by omega)⟩
  obtain ⟨i, hi, hp, hid, hat⟩ := gpos_some hin
  rw [hp] at ha
  obtain ⟨nv, vr, vd, ow, g⟩ := h.g
  obtain ⟨k0, k1⟩ := g.cells
  obtain ⟨gn, o, c, rfl, -, hcell⟩ := g.node (by omega)
  obtain ⟨-, -, -, x2, -⟩ := hcell i hi
  have hnd := List.getElem_mem hi
  have hR := g.data _ hnd
  obtain ⟨ar, cr, ev, -, -⟩ := hR.isSlice
  rw [ev] at x2
  have j1 : (0 : Int) ≤ i := by omega
  have j2 : (i : Int) < L.length := by omega
  have hE : setNumE L id field = if 0 ≤ field ∧ field < L[i].data.length then 0 else 1 := by unfold setNumE; rw [hat]
  have key : ∀ n : Nat, n < L[i].data.length → field = n → setNumE L id field = 0 → ∃ g2 o2, ar = some ⟨g2, o2, none⟩ ∧ (∃ u2, w.cell? ⟨g2, o2 + n, none⟩ = some u2) ∧ w.frozen? ⟨g2, o2 + n, none⟩ = false ∧ Rt (w.setCell ⟨g2, o2 + n, none⟩ (.int .i64 x)) b O D cs cv (setNumL L id field x) ∧ Turn w (w.setCell ⟨g2, o2 + n, none⟩ (.int .i64 x)) O O := by
    intro n hn hf h0
    obtain ⟨g2, o2, cap2, u2, e2, q1, q2, hR', cS'⟩ := row_set hR rfl n hn x
    rw [e2] at ev
    cases ev
    obtain ⟨t1, t2⟩ := g.turn hnd (g := fun nd => { nd with data := nd.data.set field.toNat x }) (fun _ => ⟨rfl, rfl, rfl⟩) (cS'.mono (fun k _ e => .inr e))
      ((g.refs _ hnd).keep cS' (fun k e1 e2 => g.apart _ hnd k e1 e2)) (by rw [hf]; simpa using hR')
    have t3 : setNumL L id field x = upd L L[i].id (fun nd => { nd with data := nd.data.set field.toNat x }) := by
      unfold setNumL
      rw [if_pos h0, hid]
    rw [t3]
    exact ⟨g2, o2, rfl, ⟨u2, q1⟩, q2, h.turn ⟨_, _, _, _, t1⟩ t2 (by rw [← t3]; exact setNumL_wf h.wf id field x), t2⟩
  rw [hE] at hend ⊢
  generalize L[i].data.length = nr at *
  replace hE := Lib.hid hE
  replace key := Lib.hid key
  replace hend := Lib.hid hend
  clear h g hcell hnd hR hin hat hp ev
  by_cases hf : 0 ≤ field ∧ field < nr
  case neg =>
    rw [if_neg hf] at hend ⊢
    by_cases hf0 : field < 0
    · clear hf
      go_enter Try.func46, Try.ntmps46
      go_wp2_with fail
      refine ha.mono ?_
      rintro e w1 ⟨rfl, hs⟩
      obtain rfl : w = w1 := hs
      clear ha
      go_wp2_with fail
      go_ret
      exact ⟨rfl, hend.out _ (SameW.rfl' _) (by omega)⟩
    · have h1 : (nr : Int) ≤ field := by omega
      have h2 : 0 ≤ field := by omega
      clear hf hf0
      go_enter Try.func46, Try.ntmps46
      go_wp2_with fail
      refine ha.mono ?_
      rintro e w1 ⟨rfl, hs⟩
      obtain rfl : w = w1 := hs
      clear ha
      go_wp2_with fail
      go_ret
      exact ⟨rfl, hend.out _ (SameW.rfl' _) (by omega)⟩
  rw [if_pos hf] at hend ⊢
  obtain ⟨n, rfl⟩ := Int.eq_ofNat_of_zero_le hf.1
  have hn : n < nr := by omega
  have h1 : (0 : Int) ≤ n := hf.1
  have h2 : (n : Int) < nr := hf.2
  clear hf
  obtain ⟨g2, o2, rfl, ⟨u2, q1⟩, q2, hfin⟩ := key.out n hn rfl (by rw [hE.out, if_pos ⟨h1, h2⟩])
  replace hfin := Lib.hid hfin
  clear hE key hend
  go_enter Try.func46, Try.ntmps46
  go_wp2_with fail
  refine ha.mono ?_
  rintro e w1 ⟨rfl, hs⟩
  obtain rfl : w = w1 := hs
  clear ha
  go_wp2_with fail
  go_ret
  exact ⟨rfl, hfin.out⟩

end

end Go.Proofs.Ytlmeponoadhheaa

/-
  Contracts of the document's graph: Kind, Aim, Holds, Ids, Words.
-/
namespace Go.Proofs.Ytlmeponoadhheaa
set_option linter.unusedVariables false
open Go.RowKit

theorem quietN {P : Program} {f : FuncId} {args : Array Value} {w : World} {n : Nat} {v : Value} (h : Calls P f args (w.drewN n) fun e w' => e = .returned v ∧ ∃ k, w' = (w.drewN n).drewN k) :
    Calls P f args (w.drewN n) fun e w'' => e = .returned v ∧ ∃ m, w'' = w.drewN m := h.mono fun _ _ ⟨he, k, hw⟩ => ⟨he, n + k, by rw [hw, World.drewN_drewN]⟩

theorem kindOf_get {cs : List Cls} {n : Int} (h1 : 1 ≤ n) (h2 : n ≤ cs.length) : ∃ (i : Nat) (hi : i < cs.length), n = (i : Int) + 1 ∧ kindOf cs n = cs[i].kind := by
  refine ⟨(n - 1).toNat, by omega, by omega, ?_⟩
  unfold kindOf
  rw [List.getD_eq_getElem?_getD, List.getElem?_eq_getElem (by omega)]
  rfl

section
variable {w : World} {b : Nat} {O D : Nat → Prop} {cs : List Cls} {cv : Value} {L : List GN}

set_option maxHeartbeats 1000000 in
theorem rkind_any (h : Rt w b O D cs cv L) {i : Nat} (hi : i < L.length) :
    Calls Try.prog 128 #[.pointer (some ⟨b, 0, none⟩), .int .i64 i] w fun e w' => e = .returned (.int .i64 (kindOf cs L[i].cls)) ∧ ∃ n, w' = w.drewN n := by
  obtain ⟨nv, vr, vd, ow, g⟩ := h.g
  have hw := h.wf _ (List.getElem_mem hi)
  obtain ⟨m, hm, e1, e2⟩ := kindOf_get hw.c1 hw.c2
  rw [e2]
  obtain ⟨k0, k1⟩ := g.cells
  obtain ⟨gn, o, c, rfl, -, hcell⟩ := g.node (by omega)
  obtain ⟨-, x1, -, -, -⟩ := hcell i hi
  obtain ⟨g', o', c', hg', rfl, hcc⟩ := SeesC.cells h.c (by omega)
  obtain ⟨m0, -, -, -⟩ := hcc m hm
  rw [e1] at x1
  have j1 : (0 : Int) ≤ i := by omega
  have j2 : (i : Int) < L.length := by omega
  have j3 : (0 : Int) ≤ m := by omega
  have j4 : (m : Int) < cs.length := by omega
  have j5 : IntKind.i64.wrap (m : Int) = m := IntWalk.i64_in _ (by obtain ⟨a, c, e, hl⟩ := Sees.len h.c; omega)
  generalize cs[m].kind = K at *
  clear h g hw e1 e2 hcell hcc
  go_enter Try.func128, Try.ntmps128
  go_wp2_with fail
  go_quiet (fail)
  go_wp2_with fail
  go_ret
  exact ⟨rfl, _, rfl⟩

set_option maxHeartbeats 1000000 in
theorem raim_any (h : Rt w b O D cs cv L) (hr : allRight cs = true) (id : Int) :
    Calls Try.prog 107 #[.pointer (some ⟨b, 0, none⟩), .int .i64 id] w fun e w' => e = .returned (.tuple #[.int .i64 (gaim cs L id).1, .int .i64 (gaim cs L id).2]) ∧ ∃ n, w' = w.drewN n := by
  have ha := rat_any h id
  by_cases hin : id ∈ ids L
  case neg =>
    have e7 : gaim cs L id = (0, 0) := by
      unfold gaim
      cases hat : gat L id with
      | none => rfl
      | some nd => obtain ⟨q, rfl⟩ := gat_mem hat; exact absurd (List.mem_map.2 ⟨nd, q, rfl⟩) hin
    rw [e7]
    rw [gpos_none hin] at ha
    clear h e7 hin
    go_enter Try.func107, Try.ntmps107
    go_wp2_with fail
    refine ha.mono ?_
    rintro e w1 ⟨rfl, hs⟩
    obtain rfl : w = w1 := hs
    clear ha
    go_wp2_with fail
    go_ret2
    exact ⟨rfl, 0, rfl⟩
  obtain ⟨i, hi, hp, hid, hat⟩ := gpos_some hin
  rw [hp] at ha
  have hk := rkind_any h hi
  have HK : Hid (∀ n, _) := Lib.hid (fun n => rkind_any (h.new ((Ch.refl _ w).drewN n)) hi)
  obtain ⟨nv, vr, vd, ow, g⟩ := h.g
  obtain ⟨k0, k1⟩ := g.cells
  obtain ⟨gn, o, c, rfl, -, hcell⟩ := g.node (by omega)
  obtain ⟨-, -, x2, -, -⟩ := hcell i hi
  have hnd := List.getElem_mem hi
  have hw := h.wf _ hnd
  have hR := g.refs _ hnd
  obtain ⟨ar, cr, ev, -, -⟩ := hR.isSlice
  rw [ev] at x2
  have j1 : (0 : Int) ≤ i := by omega
  have j2 : (i : Int) < L.length := by omega
  have hC : holdsC cs L[i].cls 0 = decide (kindOf cs L[i].cls < 3) ∧ (kindOf cs L[i].cls < 3 ∨ 3 ≤ kindOf cs L[i].cls) := by
    obtain ⟨m, hm, e1, e2⟩ := kindOf_get hw.c1 hw.c2
    refine ⟨?_, by omega⟩
    have hright := allRight_get hr m hm
    have hh : holdsC cs L[i].cls 0 = holds1 cs[m] 0 := by
      unfold holdsC
      rw [dif_pos ⟨hw.c1, hw.c2⟩]
      congr 2
      omega
    rw [hh, e2]
    generalize cs[m] = C at *
    unfold holds1
    rcases hright with ⟨e, _⟩ | ⟨e, _⟩ | ⟨e, _⟩
    · simp [e]
    · simp [e]
    · rcases e with e | e | e <;> simp [e]
  have hl1 := hw.aim
  have hG : gaim cs L id = if holdsC cs L[i].cls 0 = true then (0, 0) else (L[i].refs.getD 0 0, kindOf cs L[i].cls) := by unfold gaim; rw [hat]
  rw [hG]
  by_cases hk3 : kindOf cs L[i].cls < 3
  · have hB : holdsC cs L[i].cls 0 = true := by rw [hC.1]; exact decide_eq_true hk3
    have t3 : decide (kindOf cs L[i].cls < 3) = true := decide_eq_true hk3
    rw [if_pos hB]
    clear hG hC hB hw hl1 hat hid hp hin h g hR hnd hcell ev HK
    generalize kindOf cs L[i].cls = K at *
    go_enter Try.func107, Try.ntmps107
    go_wp2_with fail
    refine ha.mono ?_
    rintro e w1 ⟨rfl, hs⟩
    obtain rfl : w = w1 := hs
    clear ha
    go_wp2_with fail
    refine hk.mono ?_
    rintro e w1 ⟨rfl, n1, rfl⟩
    clear hk
    go_wp2_with fail
    go_ret2
    exact ⟨rfl, n1, rfl⟩
  · have hB : holdsC cs L[i].cls 0 = false := by rw [hC.1]; exact decide_eq_false hk3
    have t3 : decide (kindOf cs L[i].cls < 3) = false := decide_eq_false hk3
    rw [if_neg (by rw [hB]; simp)]
    obtain ⟨g2, o2, c2, -, e2, hc2⟩ := SeesI.cell hR.sees (by have := hl1 hB; omega)
    rw [ev] at e2
    have hx := hc2 0 (by have := hl1 hB; omega)
    cases e2
    rw [Nat.add_zero] at hx
    have j3 : (0 : Int) < L[i].refs.length := by have := hl1 hB; omega
    clear hG hC hB hw hl1 hat hid hp hin h g hR hnd hcell ev hc2
    generalize kindOf cs L[i].cls = K at *
    generalize L[i].refs.getD 0 0 = X at *
    generalize L[i].refs.length = nr at *
    have j5 : 0 < nr := by omega
    go_enter Try.func107, Try.ntmps107
    go_wp2_with fail
    refine ha.mono ?_
    rintro e w1 ⟨rfl, hs⟩
    obtain rfl : w = w1 := hs
    clear ha
    go_wp2_with fail
    refine hk.mono ?_
    rintro e w1 ⟨rfl, n1, rfl⟩
    clear hk
    have HK1 : Hid (∀ n, Calls Try.prog 128 #[.pointer (some ⟨b, 0, none⟩), .int .i64 i] ((w.drewN n1).drewN n) fun e w'' => e = .returned (.int .i64 K) ∧ ∃ m, w'' = (w.drewN n1).drewN m) :=
      Lib.hid (fun n => by
        have h1 := HK.out (n1 + n)
        rw [← World.drewN_drewN] at h1
        exact quietN h1)
    replace k1 : (w.drewN n1).cell? _ = _ := k1
    replace x2 : (w.drewN n1).cell? _ = _ := x2
    replace hx : (w.drewN n1).cell? _ = _ := hx
    have hW : Hid (∀ n, ∃ m, (w.drewN n1).drewN n = w.drewN m) := Lib.hid (fun n => ⟨n1 + n, World.drewN_drewN _ _ _⟩)
    clear HK k0
    generalize w.drewN n1 = W1 at *
    go_wp2_with fail
    go_quiet ((go_at_call 128; exact HK1.out _))
    go_wp2_with fail
    go_ret2
    exact ⟨rfl, hW.out _⟩

end

end Go.Proofs.Ytlmeponoadhheaa

/-
  Contracts of the document's graph: Holds, Ids, Words.
-/
namespace Go.Proofs.Ytlmeponoadhheaa
set_option linter.unusedVariables false
open Go.RowKit

section
variable {w : World} {b : Nat} {O D : Nat → Prop} {cs : List Cls} {cv : Value} {L : List GN}

theorem holdsC_at {nd : GN} (hw : WfN cs nd) (hr : allRight cs = true) (k : Nat) : holdsC cs nd.cls k = (decide (0 < k) || decide (kindOf cs nd.cls < 3)) := by
  obtain ⟨m, hm, e1, e2⟩ := kindOf_get hw.c1 hw.c2
  have hright := allRight_get hr m hm
  have hh : holdsC cs nd.cls k = holds1 cs[m] k := by
    unfold holdsC
    rw [dif_pos ⟨hw.c1, hw.c2⟩]
    congr 2
    omega
  rw [hh, e2]
  generalize cs[m] = C at *
  unfold holds1
  rcases hright with ⟨e, _⟩ | ⟨e, _⟩ | ⟨e, _⟩
  · simp [e]
  · simp [e]
  · rcases e with e | e | e <;> simp [e]

set_option maxHeartbeats 1000000 in
theorem rholds_of (h : Rt w b O D cs cv L) (hr : allRight cs = true) (id : Int) :
    Calls Try.prog 108 #[.pointer (some ⟨b, 0, none⟩), .int .i64 id] w fun e w' => ∃ v, e = .returned v ∧ RowAt w' 3 1 v (gholds cs L id).length ((gholds cs L id).map (Value.int .i64)) ∧ (∀ k, rblk v = some k → w.heap.size ≤ k) ∧ Ch0 w w' := by
  have ha := rat_any h id
  by_cases hin : id ∈ ids L
  case neg =>
    have e7 : gholds cs L id = [] := by
      unfold gholds
      cases hat : gat L id with
      | none => rfl
      | some nd => obtain ⟨q, rfl⟩ := gat_mem hat; exact absurd (List.mem_map.2 ⟨nd, q, rfl⟩) hin
    rw [e7]
    rw [gpos_none hin] at ha
    clear h e7 hin
    go_enter Try.func108, Try.ntmps108
    go_wp2_with fail
    refine ha.mono ?_
    rintro e w1 ⟨rfl, hs⟩
    obtain rfl : w = w1 := hs
    clear ha
    go_wp2_with fail
    go_ret
    exact ⟨_, rfl, RowAt.nil, (fun k hk => by cases hk), Ch.refl _ _⟩
  obtain ⟨i, hi, hp, hid, hat⟩ := gpos_some hin
  rw [hp] at ha
  have HK : Hid (∀ w', Ch0 w w' → _) := Lib.hid (fun w' c => rkind_any (h.new c) hi)
  obtain ⟨nv, vr, vd, ow, g⟩ := h.g
  have HG := Lib.hid g
  have hnd := List.getElem_mem hi
  have hw := h.wf _ hnd
  have e0 : gholds cs L id = heldTo cs L[i] L[i].refs.length := by unfold gholds; rw [hat]; rfl
  rw [e0]
  have hh := fun k => holdsC_at hw hr k
  have hlen := hw.refs
  obtain ⟨gn, o, c, rfl, -, hcell⟩ := g.node (by omega)
  obtain ⟨k0, k1⟩ := g.cells
  obtain ⟨-, -, x2, -, -⟩ := hcell i hi
  have hR := g.refs _ hnd
  obtain ⟨ar, cr, ev, -, -⟩ := hR.isSlice
  rw [ev] at x2
  have HR := Lib.hid hR
  replace ev := Lib.hid ev
  have j1 : (0 : Int) ≤ i := by omega
  have j2 : (i : Int) < L.length := by omega
  replace hh := Lib.hid hh
  clear h g hp hin hat hid hw e0 hR hnd hcell
  generalize L[i] = nd at *
  go_enter Try.func108, Try.ntmps108
  go_wp2_with fail
  refine ha.mono ?_
  rintro e w1 ⟨rfl, hs⟩
  obtain rfl : w = w1 := hs
  clear ha
  go_wp2_with fail
  go_loopw [5, 22] (fun out i wr => ∃ j : Nat, j ≤ nd.refs.length ∧ i = .int .i64 j ∧ Ch0 w wr ∧ RowAt wr 3 1 out (heldTo cs nd j).length ((heldTo cs nd j).map (Value.int .i64)) ∧ ∀ k, rblk out = some k → w.heap.size ≤ k) (fun _ i _ => nd.refs.length - (intOf i).toNat)
  case atStart => exact ⟨0, Nat.zero_le _, rfl, Ch.refl _ _, by simpa [heldTo] using RowAt.nil, (fun k hk => by cases hk)⟩
  case round =>
    obtain ⟨j, hj, rfl, d, hr, hf⟩ := hrel
    by_cases hlt : j < nd.refs.length
    · obtain ⟨g, o', c1, -, e1, hcell⟩ := SeesI.cell (HR.out.sees.keep d (fun _ _ e => e)) (by omega)
      rw [ev.out] at e1
      obtain ⟨rfl, rfl⟩ : ar = some ⟨g, o', none⟩ ∧ cr = c1 := by simpa using e1
      have hx := hcell j hlt
      have hsn := heldTo_succ cs nd j
      rw [hh.out j] at hsn
      have hhl := heldTo_len cs nd j
      have z1 := d.cell k1 (fun e => e)
      have z2 := d.cell x2 (fun e => e)
      clear k0 k1 x2
      have i1 : (0 : Int) ≤ j := by omega
      have i2 : (j : Int) < nd.refs.length := by omega
      have hk := HK.out wr d
      clear hcell e1
      obtain ⟨KB, hKB⟩ : ∃ KB, KB = decide (kindOf cs nd.cls < 3) := ⟨_, rfl⟩
      rw [← hKB] at hsn
      have t3 : decide (kindOf cs nd.cls < 3) = KB := hKB.symm
      clear hKB
      generalize kindOf cs nd.cls = K at *
      generalize nd.refs.getD j 0 = X at *
      replace hsn := Lib.hid hsn
      obtain ⟨a3, c3, rfl, -, -⟩ := hr.isSlice
      /- the end of a round in which nothing is told, and of one in which X is -/
      have hno : ∀ n, (X = 0 ∨ (j = 0 ∧ KB = false)) → (Ch0 w (wr.drewN n) ∧ RowAt (wr.drewN n) 3 1 (.slice a3 (heldTo cs nd j).length c3) (heldTo cs nd (j + 1)).length ((heldTo cs nd (j + 1)).map (Value.int .i64)) ∧ ∀ k, rblk (.slice a3 (heldTo cs nd j).length c3) = some k → w.heap.size ≤ k) := by
        intro n hc
        have : heldTo cs nd (j + 1) = heldTo cs nd j := by
          rw [hsn.out, if_neg, List.append_nil]
          rintro ⟨q1, q2⟩
          rcases hc with q | ⟨q, q'⟩
          · exact q1 q
          · rw [q, q'] at q2; simp at q2
        rw [this]
        exact ⟨d.drewN n, hr.keep (ch_drewN' _ _) (fun _ _ e => e), hf⟩
      have hyes : ∀ n, X ≠ 0 → (j ≠ 0 ∨ KB = true) → ∃ a4 c4 w4, (Builtin.append_ #[34, 34] 34 #[.slice a3 (heldTo cs nd j).length c3, .slice (some ⟨wr.heap.size, 0, none⟩) 1 1]).run Try.prog ((wr.drewN n).alloc (.cells #[.int .i64 X] 3)) = .ok (.slice a4 ((heldTo cs nd j).length + 1) c4) w4 ∧
          (Ch0 w w4 ∧ RowAt w4 3 1 (.slice a4 ((heldTo cs nd j).length + 1) c4) (heldTo cs nd (j + 1)).length ((heldTo cs nd (j + 1)).map (Value.int .i64)) ∧ ∀ k, rblk (.slice a4 ((heldTo cs nd j).length + 1) c4) = some k → w.heap.size ≤ k) := by
        intro n hX hc
        have HS : heldTo cs nd (j + 1) = heldTo cs nd j ++ [X] := by
          rw [hsn.out, if_pos]
          refine ⟨hX, ?_⟩
          rcases hc with q | q
          · have : 0 < j := by omega
            simp [this]
          · simp [q]
        have ca : Ch0 (wr.drewN n) ((wr.drewN n).alloc (.cells #[.int .i64 X] 3)) := (Ch.refl _ _).alloc _
        obtain ⟨a4, c4, w4, hrun, r4, d4, b4⟩ := run_int ((hr.keep (ch_drewN' wr n) (fun _ _ e => e)).keep ca (fun _ _ e => e)) (by omega) wr.heap.size X (heap_alloc_new (wr.drewN n) _) 34
        refine ⟨a4, c4, w4, hrun, ((d.drewN n).trans ca).trans' d4 (fun _ _ e => e) (fun k hk e => by have := hf k e; omega), ?_, ?_⟩
        · rw [HS, List.length_append]; exact r4
        · intro k hk
          rcases b4 with e | e
          · rw [e] at hk; exact hf k hk
          · rw [e] at hk; cases hk; rw [World.size_alloc]; have := d.size; exact Nat.le_succ_of_le this
      replace hno := Lib.hid hno
      replace hyes := Lib.hid hyes
      clear d hr hf
      by_cases hX : X = 0
      · have t0 : (X != 0) = false := by simp [hX]
        have HE := Lib.hid (hno.out 0 (.inl hX))
        clear hX hk
        go_wp2_with fail
        go_roundw
        case rel => exact ⟨j + 1, by omega, by go_num, HE.out⟩
        case measure => simp [intOf]; omega
      · have t0 : (X != 0) = true := by simpa using hX
        by_cases hj0 : j = 0
        · cases KB with
          | false =>
            have HE := Lib.hid (fun n => hno.out n (.inr ⟨hj0, rfl⟩))
            clear hX hno hyes
            subst hj0
            replace i2 : (0 : Int) < nd.refs.length := i2
            have i3 : 0 < nd.refs.length := hlt
            rw [Nat.add_zero] at hx
            generalize (heldTo cs nd 0).length = hl0 at *
            go_wp2_with fail
            refine hk.mono ?_
            rintro e w1 ⟨rfl, n1, rfl⟩
            clear hk
            go_wp2_with fail
            go_roundw
            case rel => exact ⟨1, by omega, rfl, HE.out n1⟩
            case measure => simp [intOf]; omega
          | true =>
            have HE := Lib.hid (fun n => hyes.out n hX (.inr rfl))
            clear hX hno hyes
            subst hj0
            replace i2 : (0 : Int) < nd.refs.length := i2
            have i3 : 0 < nd.refs.length := hlt
            rw [Nat.add_zero] at hx
            generalize (heldTo cs nd 0).length = hl0 at *
            go_wp2_with fail
            refine hk.mono ?_
            rintro e w1 ⟨rfl, n1, rfl⟩
            clear hk
            obtain ⟨a4, c4, w4, hrun, HF⟩ := HE.out n1
            replace HF := Lib.hid HF
            go_wp2_with (at_builtin; refine wpList_append_run rfl _ _ 34 34 rfl rfl rfl hrun ?_)
            go_roundw
            case rel => exact ⟨1, by omega, rfl, HF.out⟩
            case measure => simp [intOf]; omega
        · obtain ⟨a4, c4, w4, hrun, HF⟩ := hyes.out 0 hX (.inl hj0)
          have hrun' : (Builtin.append_ #[34, 34] 34 #[.slice a3 (heldTo cs nd j).length c3, .slice (some ⟨wr.heap.size, 0, none⟩) 1 1]).run Try.prog (wr.alloc (.cells #[.int .i64 X] 3)) = .ok (.slice a4 ((heldTo cs nd j).length + 1) c4) w4 := hrun
          replace HF := Lib.hid HF
          have i4 : decide (0 < (j : Int)) = true := decide_eq_true (by omega)
          have i5 : (0 : Int) < j := by omega
          have i6 : 0 < j := by omega
          clear hX hj0 hrun hk
          go_wp2_with (at_builtin; refine wpList_append_run rfl _ _ 34 34 rfl rfl rfl hrun' ?_)
          go_roundw
          case rel => exact ⟨j + 1, by omega, by go_num, HF.out⟩
          case measure => simp [intOf]; omega
    · obtain rfl : j = nd.refs.length := by omega
      obtain ⟨a3, c3, rfl, -, -⟩ := hr.isSlice
      have HE := Lib.hid (And.intro hr (And.intro hf d))
      clear d hr hf
      go_wp2_with fail
      go_ret
      exact ⟨_, rfl, HE.out.1, HE.out.2.1, HE.out.2.2⟩

end

end Go.Proofs.Ytlmeponoadhheaa

/-
  Contracts of the document's graph: Ids, Words.
-/
namespace Go.Proofs.Ytlmeponoadhheaa
set_option linter.unusedVariables false
open Go.RowKit

section
variable {w : World} {b : Nat} {O D : Nat → Prop} {cs : List Cls} {cv : Value} {L : List GN}

set_option maxHeartbeats 1000000 in
theorem rids_of (h : Rt w b O D cs cv L) (hL : L.length ≤ 1000000) :
    Calls Try.prog 52 #[.pointer (some ⟨b, 0, none⟩)] w fun e w' => ∃ v, e = .returned v ∧ RowAt w' 3 1 v (ids L).length ((ids L).map (Value.int .i64)) ∧ (∀ k, rblk v = some k → w.heap.size ≤ k) ∧ Ch0 w w' := by
  obtain ⟨nv, vr, vd, ow, g⟩ := h.g
  obtain ⟨a, c, rfl, -, -⟩ := g.row.isSlice
  obtain ⟨k0, k1⟩ := g.cells
  have HG := Lib.hid g
  clear h g k0
  go_enter Try.func52, Try.ntmps52
  go_wp2_with fail
  go_loopw [3, 10] (fun out i wr => ∃ j : Nat, j ≤ L.length ∧ i = .int .i64 j ∧ Ch0 w wr ∧ RowAt wr 3 1 out j ((ids (L.take j)).map (Value.int .i64)) ∧ ∀ k, rblk out = some k → w.heap.size ≤ k) (fun _ i _ => L.length - (intOf i).toNat)
  case atStart => exact ⟨0, Nat.zero_le _, rfl, Ch.refl _ _, RowAt.nil, (fun k hk => by cases hk)⟩
  case round =>
    obtain ⟨j, hj, rfl, d, hr, hf⟩ := hrel
    by_cases hlt : j < L.length
    · obtain ⟨gn, o, c1, e1, -, hcell⟩ := (HG.out.keep d (fun _ _ e => e)).node (by omega)
      obtain ⟨rfl, rfl⟩ : a = some ⟨gn, o, none⟩ ∧ c = c1 := by simpa using e1
      obtain ⟨x0, -, -, -, -⟩ := hcell j hlt
      have hsn : ids (L.take (j + 1)) = ids (L.take j) ++ [L[j].id] := by rw [take_snocG L j hlt]; unfold ids; rw [List.map_append]; rfl
      have z1 := d.cell k1 (fun e => e)
      clear k1 hcell e1
      have i1 : (0 : Int) ≤ j := by omega
      have i2 : (j : Int) < L.length := by omega
      obtain ⟨a3, c3, rfl, -, -⟩ := hr.isSlice
      generalize L[j].id = X at *
      have ca : Ch0 wr (wr.alloc (.cells #[.int .i64 X] 3)) := (Ch.refl _ _).alloc _
      obtain ⟨a4, c4, w4, hrun, r4, d4, b4⟩ := run_int (hr.keep ca (fun _ _ e => e)) (by omega) wr.heap.size X (heap_alloc_new wr _) 34
      have HF : Hid (Ch0 w w4 ∧ RowAt w4 3 1 (.slice a4 (j + 1) c4) (j + 1) ((ids (L.take (j + 1))).map (Value.int .i64)) ∧ ∀ k, rblk (.slice a4 (j + 1) c4) = some k → w.heap.size ≤ k) := by
        refine Lib.hid ⟨(d.trans ca).trans' d4 (fun _ _ e => e) (fun k hk e => by have := hf k e; omega), ?_, ?_⟩
        · rw [hsn]; exact r4
        · intro k hk
          rcases b4 with e | e
          · rw [e] at hk; exact hf k hk
          · rw [e] at hk; cases hk; rw [World.size_alloc]; have := d.size; omega
      clear d hr hf hsn ca r4 d4 b4
      go_wp2_with (at_builtin; refine wpList_append_run rfl _ _ 34 34 rfl rfl rfl hrun ?_)
      go_roundw
      case rel => exact ⟨j + 1, by omega, by go_num, HF.out.1, HF.out.2.1, HF.out.2.2⟩
      case measure => simp [intOf]; omega
    · obtain rfl : j = L.length := by omega
      obtain ⟨a3, c3, rfl, -, -⟩ := hr.isSlice
      rw [List.take_length] at hr
      have HE : Hid (RowAt wr 3 1 (.slice a3 L.length c3) (ids L).length ((ids L).map (Value.int .i64)) ∧ (∀ k, rblk (.slice a3 L.length c3) = some k → w.heap.size ≤ k) ∧ Ch0 w wr) := Lib.hid ⟨by rw [show (ids L).length = L.length by simp [ids]]; exact hr, hf, d⟩
      clear d hr hf k1
      go_wp2_with fail
      go_ret
      exact ⟨_, rfl, HE.out⟩

set_option maxHeartbeats 1000000 in
theorem rwords_of (h : Rt w b O D cs cv L) (hL : L.length ≤ 1000000) :
    Calls Try.prog 53 #[.pointer (some ⟨b, 0, none⟩)] w fun e w' => e = .returned (.int .i64 (gwords L)) ∧ Ch0 w w' := by
  obtain ⟨nv, vr, vd, ow, g⟩ := h.g
  obtain ⟨a, c, rfl, -, -⟩ := g.row.isSlice
  obtain ⟨k0, k1⟩ := g.cells
  have HW := Lib.hid (fun k => gwords_le cs (L.take k) (fun nd hnd => h.wf nd (List.mem_of_mem_take hnd)))
  have HF := Lib.hid h.wf
  have HG := Lib.hid g
  clear h g k0
  go_enter Try.func53, Try.ntmps53
  go_wp2_with fail
  go_loopw [3, 10] (fun s i wr => ∃ j : Nat, j ≤ L.length ∧ i = .int .i64 j ∧ s = .int .i64 (gwords (L.take j)) ∧ Ch0 w wr) (fun _ i _ => L.length - (intOf i).toNat)
  case atStart => exact ⟨0, Nat.zero_le _, rfl, rfl, Ch.refl _ _⟩
  case round =>
    obtain ⟨j, hj, rfl, rfl, d⟩ := hrel
    by_cases hlt : j < L.length
    · have hG := HG.out.keep d (fun _ _ e => e)
      obtain ⟨gn, o, c1, e1, -, hcell⟩ := hG.node (by omega)
      obtain ⟨rfl, rfl⟩ : a = some ⟨gn, o, none⟩ ∧ c = c1 := by simpa using e1
      obtain ⟨-, -, x2, x3, -⟩ := hcell j hlt
      have hnd := List.getElem_mem hlt
      obtain ⟨a3, c3, e3, -, -⟩ := (hG.refs _ hnd).isSlice
      obtain ⟨a4, c4, e4, -, -⟩ := (hG.data _ hnd).isSlice
      rw [e3] at x2
      rw [e4] at x3
      have hw := HF.out _ hnd
      have q1 := hw.refs
      have q2 := hw.data
      have hw1 := HW.out j
      have hw2 : (L.take j).length ≤ 1000000 := by simp; omega
      have hsn : Hid (gwords (L.take (j + 1)) = gwords (L.take j) + wordsOfN L[j]) := Lib.hid (by rw [take_snocG L j hlt, gwords_snoc])
      unfold wordsOfN at hsn
      have z1 := d.cell k1 (fun e => e)
      clear k1 hcell e1 hG e3 e4 hw hnd
      have i1 : (0 : Int) ≤ j := by omega
      have i2 : (j : Int) < L.length := by omega
      obtain ⟨S, hS⟩ : ∃ S, S = gwords (L.take j) := ⟨_, rfl⟩
      rw [← hS] at hw1 hsn ⊢
      clear hS
      generalize L[j].refs.length = nR at *
      generalize L[j].data.length = nD at *
      replace d := Lib.hid d
      have y1 : IntKind.i64.wrap (S + 2) = S + 2 := IntWalk.i64_in _ (by omega)
      have y2 : IntKind.i64.wrap (S + 2 + (nR : Int)) = S + 2 + (nR : Int) := IntWalk.i64_in _ (by omega)
      have y3 : IntKind.i64.wrap (S + 2 + (nR : Int) + (nD : Int)) = S + 2 + (nR : Int) + (nD : Int) := IntWalk.i64_in _ (by omega)
      go_wp2_with fail
      go_quiet (fail)
      clear y1 y2 y3 x2 x3
      go_wp2_with fail
      go_roundw
      case rel => exact ⟨j + 1, by omega, by go_num, by rw [hsn.out, show S + 2 + (nR : Int) + (nD : Int) = S + (2 + (nR : Int) + (nD : Int)) by omega], d.out.drewN _⟩
      case measure => simp [intOf]; omega
    · obtain rfl : j = L.length := by omega
      rw [List.take_length]
      have HC := Lib.hid d
      clear d k1
      go_wp2_with fail
      go_ret
      exact ⟨rfl, HC.out⟩

end

end Go.Proofs.Ytlmeponoadhheaa

/-
  Contract of the document's graph: Add.
-/
namespace Go.Proofs.Ytlmeponoadhheaa
set_option linter.unusedVariables false
open Go.RowKit

theorem Try.info36 : (Try.prog.info? 36).map (fun i => (i.zero, i.size, i.bytes)) = some (some (.agg #[.int .i64 0, .int .i64 0, .slice none 0 0, .slice none 0 0, .bool false]), 5, 72) := by kernel_rfl
theorem Try.under57 : Try.prog.underlying 57 = some (.slice 36) := by kernel_rfl

/-- append of nodes, its run -/
theorem run_nodes {w : World} {v : Value} {n : Nat} {xs : List Value} (hrow : RowAt w 36 5 v n xs) (hlen : n < 4294967296) {D : Nat → Prop} {y : Value} {m : Nat} {ys : List Value}
    (hy : Sees D w y 5 m ys) (h1 : ∀ u ∈ ys, u.oneCell' = true) (hlen2 : m < 4294967296) (ty : TypeId) :
    ∃ a' c' w', (Builtin.append_ #[57, 57] ty #[v, y]).run Try.prog w = .ok (.slice a' (n + m) c') w' ∧ RowAt w' 36 5 (.slice a' (n + m) c') (n + m) (xs ++ ys) ∧
      Ch (fun k => rblk v = some k) w w' ∧ (rblk (.slice a' (n + m) c') = rblk v ∨ rblk (.slice a' (n + m) c') = some w.heap.size) := by
  obtain ⟨i0, hi, hz0, hz1, hz2⟩ := info_parts Try.info36
  obtain ⟨v', w', hrun, h2, h3, h4⟩ := append_at w 57 ty 36 i0 _ 5 72 Try.under57 hi hz0 hz1 hz2 rfl v n _ hrow _ _ _ hy h1 (by unfold maxLen; omega) (by omega)
  obtain ⟨a', c', rfl, -, -⟩ := h2.isSlice
  exact ⟨a', c', w', hrun, h2, h3, h4⟩

/-- a node more, between the others -/
theorem RGS.add {w w' : World} {b : Nat} {O : Nat → Prop} {cv : Value} {L : List GN} {nv nv' : Value} {vr vd : Int → Value} {ow : Nat → Option Int} (h : RGS w b O cv L nv vr vd ow) {nd : GN} (hn : nd.id ∉ ids L) {j : Nat} {VR VD : Value}
    (hins : ins nd L = L.take j ++ nd :: L.drop j) (c : Ch (fun k => k = b) w w') (hb : w'.heap[b]? = some (.cells #[cv, nv'] 59 (0, 0)))
    (hrow : RowAt w' 36 5 nv' (L.length + 1) (nrow vr vd (L.take j) ++ ncells nd VR VD ++ nrow vr vd (L.drop j))) (hnv : ∀ k, rblk nv' = some k → w.heap.size ≤ k)
    (hR : RowAt w' 3 1 VR nd.refs.length (nd.refs.map (Value.int .i64))) (hD : RowAt w' 3 1 VD nd.data.length (nd.data.map (Value.int .i64)))
    (f1 : ∀ k, rblk VR = some k → w.heap.size ≤ k) (f2 : ∀ k, rblk VD = some k → w.heap.size ≤ k) (ap : ∀ k, rblk VR = some k → rblk VD ≠ some k) :
    ∃ nv vr vd ow, RGS w' b (fun k => O k ∨ (w.heap.size ≤ k ∧ k < w'.heap.size)) cv (ins nd L) nv vr vd ow := by
  have hne : ∀ x ∈ L, x.id ≠ nd.id := fun x hx e => hn (mem_ids.2 ⟨x, hx, e⟩)
  refine ⟨nv', fun k => if k = nd.id then VR else vr k, fun k => if k = nd.id then VD else vd k, fun k => if rblk VR = some k ∨ rblk VD = some k then some nd.id else ow k, hb, .inl h.ownB, ?_, ?_, ?_, ?_, ?_, ?_, ?_, ins_rising h.rise hn⟩
  · have e1 : nrow (fun k => if k = nd.id then VR else vr k) (fun k => if k = nd.id then VD else vd k) (ins nd L) = nrow vr vd (L.take j) ++ ncells nd VR VD ++ nrow vr vd (L.drop j) := by
      have hc : ∀ K : List GN, (∀ x ∈ K, x ∈ L) → nrow (fun k => if k = nd.id then VR else vr k) (fun k => if k = nd.id then VD else vd k) K = nrow vr vd K := fun K hK =>
        nrow_congr (fun x hx => ⟨if_neg (hne x (hK x hx)), if_neg (hne x (hK x hx))⟩)
      rw [hins, nrow_append, hc _ (fun x hx => List.mem_of_mem_take hx), List.append_assoc]
      congr 1
      have h2 := hc (L.drop j) (fun x hx => List.mem_of_mem_drop hx)
      unfold nrow at h2 ⊢
      rw [List.flatMap_cons, h2]
      simp only [if_true]
    have e2 : (ins nd L).length = L.length + 1 := ins_len nd L
    rw [e1, e2]
    exact hrow
  · intro k hk
    exact .inr ⟨hnv k hk, hrow.lt hk⟩
  · rintro k (hk | hk)
    · exact Nat.lt_of_lt_of_le (h.small k hk) c.size
    · exact hk.2
  · intro x hx
    rcases mem_ins.1 hx with rfl | hx
    · simp only [if_true]; exact hR
    · simp only [if_neg (hne x hx)]
      exact (h.refs x hx).keep c (fun k hk e => (h.ne_b hx (.inl hk)).1 e)
  · intro x hx
    rcases mem_ins.1 hx with rfl | hx
    · simp only [if_true]; exact hD
    · simp only [if_neg (hne x hx)]
      exact (h.data x hx).keep c (fun k hk e => (h.ne_b hx (.inr hk)).1 e)
  · intro x hx k hk
    rcases mem_ins.1 hx with rfl | hx
    · simp only [if_true] at hk ⊢
      refine ⟨.inr ⟨hk.elim (f1 k) (f2 k), hk.elim hR.lt hD.lt⟩, ?_⟩
      rw [if_pos hk]
    · simp only [if_neg (hne x hx)] at hk
      obtain ⟨q1, q2⟩ := h.ownN x hx k hk
      refine ⟨.inl q1, ?_⟩
      rw [if_neg]
      · exact q2
      · have := h.small k q1
        rintro (e | e)
        · have := f1 k e; omega
        · have := f2 k e; omega
  · intro x hx
    rcases mem_ins.1 hx with rfl | hx
    · simp only [if_true]; exact ap
    · simp only [if_neg (hne x hx)]; exact h.apart x hx

/-- what a new node's lists are: two blocks of zeros, new behind W -/
def Zeros (W wx : World) (nr nd : Nat) (vr vd : Value) : Prop := Ch0 W wx ∧ ∃ B1 B2, vr = .slice (some ⟨B1, 0, none⟩) nr nr ∧ vd = .slice (some ⟨B2, 0, none⟩) nd nd ∧ W.heap.size ≤ B1 ∧ W.heap.size ≤ B2 ∧ B1 ≠ B2 ∧
  wx.heap[B1]? = some (.cells (ints (List.replicate nr 0)) 3 (0, 0)) ∧ wx.heap[B2]? = some (.cells (ints (List.replicate nd 0)) 3 (0, 0))

theorem zeros_a (W : World) (N : Obj) (nr nd : Nat) (CR CD : Array Value) (hR : CR = ints (List.replicate nr 0)) (hD : CD = ints (List.replicate nd 0)) :
    Zeros W (((W.alloc (.cells CR 3)).alloc (.cells CD 3)).alloc N).drew nr nd (.slice (some ⟨W.heap.size, 0, none⟩) nr nr) (.slice (some ⟨W.heap.size + 1, 0, none⟩) nd nd) := by
  subst hR; subst hD
  obtain ⟨t1, t2, t3⟩ := three_blocks W (.cells (ints (List.replicate nr 0)) 3) (.cells (ints (List.replicate nd 0)) 3) N
  exact ⟨((((Ch.refl _ _).alloc _).alloc _).alloc _).drew, _, _, rfl, rfl, Nat.le_refl _, by omega, by omega, t1, t2⟩

theorem zeros_b (W : World) (N : Obj) (nr nd : Nat) (CR CD : Array Value) (hR : CR = ints (List.replicate nr 0)) (hD : CD = ints (List.replicate nd 0)) :
    Zeros W (((W.alloc (.cells CD 3)).alloc (.cells CR 3)).alloc N).drew nr nd (.slice (some ⟨W.heap.size + 1, 0, none⟩) nr nr) (.slice (some ⟨W.heap.size, 0, none⟩) nd nd) := by
  subst hR; subst hD
  obtain ⟨t1, t2, t3⟩ := three_blocks W (.cells (ints (List.replicate nd 0)) 3) (.cells (ints (List.replicate nr 0)) 3) N
  exact ⟨((((Ch.refl _ _).alloc _).alloc _).alloc _).drew, _, _, rfl, rfl, by omega, Nat.le_refl _, by omega, t2, t1⟩

/-- append of one node, at a step of a region that draws its order -/
theorem step_node {w1 : World} {v : Value} {n : Nat} {xs : List Value} {id cls : Int} {vr vd : Value} {fin : Bool} {nr nd : Nat} {a : Option Addr} {c : Nat} (hrow : RowAt w1 36 5 v n xs) (ev : v = .slice a n c) (hlen : n < 4294967296)
    {ops : Array Oper} {o : Oper} {aa : Act} {K : Act → World → Prop} {Q : Exit → Act → World → Prop} {E : Prop} (wx : World) (G : Nat) (hgd : o.guard = none) (s y : Operand)
    (ho : o.op = .call { callee := .builtin .append, args := #[s, y], argTypes := #[57, 57] }) (hs : aa.eval s = .slice a n c) (hy : aa.eval y = .slice (some ⟨G, 0, none⟩) 1 1)
    (hG : wx.heap[G]? = some (.cells #[.int .i64 id, .int .i64 cls, vr, vd, .bool fin] 36 (0, 0))) (c0 : Zeros w1 wx nr nd vr vd)
    (hK : ∀ a' c' w', RowAt w' 36 5 (.slice a' (n + 1) c') (n + 1) (xs ++ [.int .i64 id, .int .i64 cls, vr, vd, .bool fin]) → Ch (fun k => rblk v = some k) wx w' → (rblk (.slice a' (n + 1) c') = rblk v ∨ rblk (.slice a' (n + 1) c') = some wx.heap.size) →
      Zeros w1 wx nr nd vr vd → K (aa.put o.dst (.slice a' (n + 1) c')) w') :
    if Region.wanted o (yielded ops aa.tmps) = true then Oper.wp Try.prog o aa wx K Q else E := by
  obtain ⟨i0, hi, hz0, hz1, hz2⟩ := info_parts Try.info36
  have hsee : Sees (fun k => k = G) wx (.slice (some ⟨G, 0, none⟩) 1 1) 5 1 [.int .i64 id, .int .i64 cls, vr, vd, .bool fin] := by
    refine ⟨rfl, _, 1, rfl, Nat.le_refl _, by decide, .inr ⟨G, 0, rfl, rfl, fun i u hu => ?_⟩⟩
    rw [Nat.zero_add, cell_of_row wx G i _ _ _ hG]
    simpa using hu
  have hone : ∀ u ∈ [Value.int .i64 id, .int .i64 cls, vr, vd, .bool fin], u.oneCell' = true := by
    obtain ⟨-, B1, B2, rfl, rfl, -⟩ := c0
    intro u hu
    simp at hu
    rcases hu with rfl | rfl | rfl | rfl | rfl <;> rfl
  refine step_append_at (P := Try.prog) hgd s y 57 ho 36 i0 _ 5 72 Try.under57 hi hz0 hz1 hz2 rfl v n xs (hs.trans ev.symm) (hrow.keep c0.1 (fun _ _ q => q)) _ 1 _ hy hsee hone ?_ ?_ ?_
  · unfold maxLen; omega
  · omega
  · intro a' c' w' h2 h3 h4
    exact hK a' c' w' h2 h3 h4 c0

theorem shapeR_bounds {cs : List Cls} (hr : allRight cs = true) (n l : Int) : (shapeC cs n l).2.2 = 0 → 0 ≤ (shapeC cs n l).1 ∧ (shapeC cs n l).1 ≤ 60 ∧ 0 ≤ (shapeC cs n l).2.1 ∧ (shapeC cs n l).2.1 ≤ 60 := by
  unfold shapeC
  by_cases hn : 1 ≤ n ∧ n ≤ cs.length
  · rw [dif_pos hn]
    have := right_small (allRight_get hr (n - 1).toNat (by omega))
    unfold shape1
    split
    · intro h; simp at h
    · split
      · intro h; simp at h
      · intro _; refine ⟨?_, ?_, ?_, ?_⟩ <;> dsimp only <;> omega
  · rw [dif_neg hn]; intro h; simp at h

theorem newNode_wfR {cs : List Cls} (hall : allRight cs = true) {id cls len : Int} (h : (shapeC cs cls len).2.2 = 0) (hid : 1 ≤ id) (him : id ≤ 9223372036854775807) : WfN cs (newNode cs id cls len) := by
  obtain ⟨b1, b2, b3, b4⟩ := shapeR_bounds hall cls len h
  obtain ⟨c1, c2⟩ := shapeC_cls h
  refine ⟨c1, c2, ?_, ?_, ?_, hid, him⟩
  · simp [newNode]; omega
  · simp [newNode]; omega
  · intro hh
    have hr := allRight_get hall (cls - 1).toNat (by omega)
    replace hh : holdsC cs cls 0 = false := hh
    unfold holdsC at hh
    rw [dif_pos ⟨c1, c2⟩] at hh
    unfold shapeC shape1 at h
    rw [dif_pos ⟨c1, c2⟩] at h
    simp only [newNode, List.length_replicate]
    unfold shapeC shape1
    rw [dif_pos ⟨c1, c2⟩]
    generalize cs[(cls - 1).toNat]'(by omega) = c at *
    unfold holds1 at hh
    simp at hh
    by_cases e1 : len < 0 ∨ 0 < len ∧ c.kind ≠ 2
    · rw [if_pos e1] at h; simp at h
    · rw [if_neg e1] at h ⊢
      by_cases e2 : 30 < len
      · rw [if_pos e2] at h; simp at h
      · rw [if_neg e2]
        rcases hr with ⟨k, _⟩ | ⟨k, _⟩ | ⟨_, _, k, _⟩
        · exact absurd k hh.1
        · exact absurd k hh.2
        · dsimp only; omega

theorem addL_wfR {cs : List Cls} {L : List GN} (ht : allRight cs = true) (hw : ∀ nd ∈ L, WfN cs nd) (id cls len : Int) (him : id ≤ 9223372036854775807) : ∀ nd ∈ addL cs L id cls len, WfN cs nd := by
  intro nd hnd
  unfold addL at hnd
  split at hnd
  · rename_i e
    obtain ⟨h1, h2, h3⟩ := addE_zero e
    rcases mem_ins.1 hnd with rfl | h
    · exact newNode_wfR ht h1 h2 him
    · exact hw nd h
  · exact hw nd hnd

theorem ins_at {nd : GN} {L : List GN} {i : Nat} (hi : i ≤ L.length) (h1 : ∀ m (hm : m < L.length), m < i → L[m].id < nd.id) (h2 : ∀ hi : i < L.length, nd.id ≤ L[i].id) : ins nd L = L.take i ++ nd :: L.drop i := by
  induction L generalizing i with
  | nil => simp at hi; subst hi; rfl
  | cons a l ih =>
    unfold ins
    cases i with
    | zero =>
      have := h2 (by simp)
      rw [if_neg (by simpa using this)]
      rfl
    | succ i =>
      have := h1 0 (by simp) (by omega)
      rw [if_pos (by simpa using this), ih (i := i) (by simpa using hi) (fun m hm hmi => by have := h1 (m + 1) (by simpa using hm) (by omega); simpa using this) (fun hi => by have := h2 (by simpa using hi); simpa using this)]
      rfl

section
variable {w : World} {b : Nat} {O D : Nat → Prop} {cs : List Cls} {cv : Value} {L : List GN}

set_option maxRecDepth 100000 in
set_option maxHeartbeats 4000000 in
theorem radd_of (h : Rt w b O D cs cv L) (hr : allRight cs = true) (hcs : cs.length < 64) (hL : L.length ≤ 1000000) (id cls len : Int) (him : id ≤ 9223372036854775807) :
    Calls Try.prog 44 #[.pointer (some ⟨b, 0, none⟩), .int .i64 id, .int .i64 cls, .int .i64 len] w fun e w' => e = .returned (.int .i64 (addE cs L id cls len)) ∧ ∃ O', Rt w' b O' D cs cv (addL cs L id cls len) ∧ Turn w w' O O' := by
  have hbad : ∀ w', Ch0 w w' → addE cs L id cls len ≠ 0 → ∃ O', Rt w' b O' D cs cv (addL cs L id cls len) ∧ Turn w w' O O' := by
    intro w' c he
    unfold addL
    rw [if_neg he]
    exact ⟨O, h.new c, Turn.of0 O c⟩
  have hsh := rshape_any D cv cs cls len w h.c hr hcs
  obtain ⟨nv, vr, vd, ow, g⟩ := h.g
  obtain ⟨a, c, rfl, -, -⟩ := g.row.isSlice
  obtain ⟨ca, cc, ecv, -⟩ := Sees.len h.c
  obtain ⟨k0, k1⟩ := g.cells
  rw [ecv] at k0
  by_cases hs : (shapeC cs cls len).2.2 ≠ 0
  · have e1 : addE cs L id cls len = (shapeC cs cls len).2.2 := by unfold addE; rw [if_pos hs]
    rw [e1] at hbad ⊢
    have t0 : ((shapeC cs cls len).2.2 != 0) = true := by simpa using hs
    replace hbad := Lib.hid hbad
    replace hs := Lib.hid hs
    rw [ecv] at hsh
    clear h g e1 ecv
    generalize (shapeC cs cls len).2.2 = s3 at *
    generalize (shapeC cs cls len).2.1 = s2 at *
    generalize (shapeC cs cls len).1 = s1 at *
    go_enter Try.func44, Try.ntmps44
    go_wp2_with fail
    refine hsh.mono ?_
    rintro e w1 ⟨rfl, c1⟩
    have HE := Lib.hid (hbad.out _ c1 hs.out)
    clear hsh c1 hbad
    go_wp2_with fail
    go_ret
    exact ⟨rfl, HE.out⟩
  have hs0 : (shapeC cs cls len).2.2 = 0 := Classical.byContradiction hs
  have ha := fun w' (c : Ch0 w w') => rat_any (h.new c) id
  by_cases h1 : id < 1
  · have e1 : addE cs L id cls len = 1 := by unfold addE; rw [if_neg hs, if_pos (.inl h1)]
    rw [e1] at hbad ⊢
    rw [hs0] at hsh
    replace hbad := Lib.hid hbad
    rw [ecv] at hsh
    clear h g e1 ecv ha hs hs0
    generalize (shapeC cs cls len).2.1 = s2 at *
    generalize (shapeC cs cls len).1 = s1 at *
    go_enter Try.func44, Try.ntmps44
    go_wp2_with fail
    refine hsh.mono ?_
    rintro e w1 ⟨rfl, c1⟩
    have HE := Lib.hid (hbad.out _ c1 (by omega))
    clear hsh c1 hbad
    go_wp2_with fail
    go_ret
    exact ⟨rfl, HE.out⟩
  by_cases h2 : id ∈ ids L
  · have e1 : addE cs L id cls len = 1 := by unfold addE; rw [if_neg hs, if_pos (.inr h2)]
    rw [e1] at hbad ⊢
    rw [hs0] at hsh
    replace hbad := Lib.hid hbad
    rw [ecv] at hsh
    obtain ⟨i, hi, hp, -, -⟩ := gpos_some h2
    rw [hp] at ha
    replace ha := Lib.hid ha
    have t3 : decide ((i : Int) < 0) = false := decide_eq_false (by omega)
    have t4 : (0 : Int) ≤ i := by omega
    clear h g e1 ecv hs hs0 h2 hp
    generalize (shapeC cs cls len).2.1 = s2 at *
    generalize (shapeC cs cls len).1 = s1 at *
    go_enter Try.func44, Try.ntmps44
    go_wp2_with fail
    refine hsh.mono ?_
    rintro e w1 ⟨rfl, c1⟩
    have ha1 := ha.out _ c1
    have HE := Lib.hid (hbad.out _ c1 (by omega))
    clear hsh c1 hbad ha
    go_wp2_with fail
    refine ha1.mono ?_
    rintro e w2 ⟨rfl, hs⟩
    obtain rfl : w1 = w2 := hs
    clear ha1
    go_wp2_with fail
    go_ret
    exact ⟨rfl, HE.out⟩
  have e1 : addE cs L id cls len = 0 := by unfold addE; rw [if_neg hs, if_neg (by rintro (e | e); exact h1 e; exact h2 e)]
  rw [e1]
  rw [hs0] at hsh
  rw [gpos_none h2] at ha
  obtain ⟨cl1, cl2⟩ := shapeC_cls hs0
  obtain ⟨m, hm, hcm⟩ : ∃ m : Nat, m < cs.length ∧ cls = (m : Int) + 1 := ⟨(cls - 1).toNat, by omega, by omega⟩
  have hbnd : 0 ≤ (shapeC cs cls len).1 ∧ (shapeC cs cls len).1 ≤ 60 ∧ 0 ≤ (shapeC cs cls len).2.1 ∧ (shapeC cs cls len).2.1 ≤ 60 := shapeR_bounds hr cls len hs0
  obtain ⟨nr, hnr⟩ := Int.eq_ofNat_of_zero_le hbnd.1
  obtain ⟨ndt, hnd⟩ := Int.eq_ofNat_of_zero_le hbnd.2.2.1
  rw [hnr, hnd] at hsh hbnd
  obtain ⟨-, b2, -, b4⟩ := hbnd
  have HC := Lib.hid h.c
  have HG := Lib.hid g
  replace ha := Lib.hid ha
  rw [ecv] at hsh
  replace ecv := Lib.hid ecv
  have H := Lib.hid h
  have h3 : 1 ≤ id := by omega
  replace hcm := Lib.hid hcm
  replace hnr := Lib.hid hnr
  replace hnd := Lib.hid hnd
  replace e1 := Lib.hid e1
  replace hs0 := Lib.hid hs0
  clear h g hs hbad cl1 cl2
  go_enter Try.func44, Try.ntmps44
  go_wp2_with fail
  refine hsh.mono ?_
  rintro e w1 ⟨rfl, c1⟩
  have ha1 := ha.out _ c1
  have z1 := c1.cell k1 (fun e => e)
  have z0 := c1.cell k0 (fun e => e)
  replace c1 := Lib.hid c1
  clear hsh ha k0 k1
  go_wp2_with fail
  refine ha1.mono ?_
  rintro e w2 ⟨rfl, hs⟩
  obtain rfl : w1 = w2 := hs
  clear ha1
  go_wp2_with fail
  have z1n : a = none → L.length = 0 := fun e => by
    have := HG.out.row.2
    rcases this with ⟨_, q⟩ | ⟨g', o', cap', cur', q, _⟩
    · exact q
    · rw [e] at q; cases q
  replace z1n := Lib.hid z1n
  go_loop [13] (fun i => ∃ j : Nat, j ≤ L.length ∧ i = .int .i64 j ∧ ∀ m (hm : m < L.length), m < j → L[m].id < id) (fun i => L.length - (intOf i).toNat)
  case atStart => exact ⟨0, Nat.zero_le _, rfl, fun m _ hm => by omega⟩
  case round =>
    obtain ⟨j, hj, rfl, hlow⟩ := hrel
    replace hlow := Lib.hid hlow
    by_cases hgo : ∃ h : j < L.length, L[j].id < id
    · obtain ⟨hlt, hid⟩ := hgo
      obtain ⟨gb, o, c1', e2, -, hcell⟩ := (HG.out.keep c1.out (fun _ _ e => e)).node (by omega)
      obtain ⟨rfl, rfl⟩ : a = some ⟨gb, o, none⟩ ∧ c = c1' := by simpa using e2
      obtain ⟨x0, -, -, -, -⟩ := hcell j hlt
      have HE : Hid (∀ m (hm : m < L.length), m < j + 1 → L[m].id < id) := Lib.hid (fun m hm hmj => by
        by_cases e : m = j
        · subst e; exact hid
        · exact hlow.out m hm (by omega))
      have i1 : (0 : Int) ≤ j := by omega
      have i2 : (j : Int) < L.length := by omega
      clear hcell e2
      generalize L[j].id = X at *
      go_wp2_with fail
      go_round
      case rel => exact ⟨j + 1, by omega, by go_num, HE.out⟩
      case measure => simp [intOf]; omega
    have hL2 : addL cs L id cls len = L.take j ++ newNode cs id cls len :: L.drop j := by
      unfold addL
      rw [if_pos e1.out]
      exact ins_at hj hlow.out (fun hi => Int.not_lt.1 (fun e => hgo ⟨hi, e⟩))
    have i1 : (0 : Int) ≤ j := by omega
    have i3 : (j : Int) ≤ L.length := by omega
    replace hL2 := Lib.hid hL2
    have i4 : (j : Int) ≤ c := by
      obtain ⟨a', c', e, h1, -⟩ := HG.out.row.isSlice
      cases e
      omega
    have hLc0 : L.length ≤ c := by
      obtain ⟨a', c', e, h1, -⟩ := HG.out.row.isSlice
      cases e
      exact h1
    have hcM : c ≤ maxLen := by
      obtain ⟨a', c', e, -, h1⟩ := HG.out.row.isSlice
      cases e
      exact h1
    have hone : ∀ u ∈ nrow vr vd (L.take j), u.oneCell' = true := one_nrow vr vd _ (fun nd h => HG.out.slices nd (List.mem_of_mem_take h))
    cases a
    case' none =>
      have hl0 : L.length = 0 ∧ c = 0 := by
        rcases HG.out.row.2 with ⟨q, _⟩ | ⟨g', o', cap', cur', q, _⟩
        · injection q with q1 q2 q3; exact ⟨q2, q3⟩
        · cases q
      have hS1 : Sees (fun _ => True) w1 (.slice none j c) 5 j (nrow vr vd (L.take j)) := ⟨by rw [nrow_length]; simp [hj], none, c, rfl, by omega, hcM, .inl (by omega)⟩
      obtain ⟨V2, hV2⟩ : ∃ V2, V2 = (.slice (if c = j then none else none) (L.length - j) (c - j) : Value) := ⟨_, rfl⟩
      have HS2 : ∀ w', Ch0 w1 w' → Sees (fun _ => True) w' V2 5 (L.length - j) (nrow vr vd (L.drop j)) := fun w' _ => by
        rw [hV2]
        exact ⟨by rw [nrow_length, List.length_drop], _, c - j, rfl, by omega, by omega, .inl (by omega)⟩
      obtain ⟨a4, c4, w4, hrun, r4, d4, b4⟩ := run_nodes (w := w1) RowAt.nil (by omega) hS1 hone (by omega) 57
      simp only [Nat.zero_add, List.nil_append] at hrun r4 b4
      have d5 : Ch0 w1 w4 := d4.mono (fun k _ e => by simp [rblk] at e)
      have i2 : (L.length : Int) ≤ j := by omega
      replace hS1 := Lib.hid hS1
      replace HS2 := Lib.hid HS2
      replace hl0 := Lib.hid hl0
      clear hgo
      go_wp2_with (at_builtin; refine wpList_append_run rfl _ _ 57 57 rfl rfl rfl hrun ?_)
    case' some ad =>
      obtain ⟨gb, o, rfl⟩ : ∃ gb o, ad = ⟨gb, o, none⟩ := by
        rcases HG.out.row.2 with ⟨q, _⟩ | ⟨g', o', cap', cur', q, _⟩
        · cases q
        · cases q; exact ⟨_, _, rfl⟩
      have hS := HG.out.row.sees.keep c1.out (fun _ _ e => e)
      have hS1 : Sees (fun k => rblk (.slice (some ⟨gb, o, none⟩) L.length c) = some k) w1 (.slice (some ⟨gb, o, none⟩) j c) 5 j (nrow vr vd (L.take j)) := by
        obtain ⟨hl, a', c', e, h1, h2, h3⟩ := hS
        cases e
        refine ⟨by rw [nrow_length]; simp [hj], _, c, rfl, by omega, h2, ?_⟩
        rcases h3 with h3 | ⟨g', o', h4, h5, h6⟩
        · left; omega
        · cases h5
          refine .inr ⟨gb, o, h4, rfl, fun i u hu => h6 i u ?_⟩
          rw [← nrow_take, List.getElem?_take] at hu
          split at hu
          · exact hu
          · cases hu
      obtain ⟨V2, hV2⟩ : ∃ V2, V2 = (.slice (if c = j then some ⟨gb, o, none⟩ else some ⟨gb, o + j * 5, none⟩) (L.length - j) (c - j) : Value) := ⟨_, rfl⟩
      have HS2 : ∀ w', Ch0 w1 w' → Sees (fun _ => True) w' V2 5 (L.length - j) (nrow vr vd (L.drop j)) := fun w' cw => by
        have hS7 := hS.keep cw (fun _ _ e => e)
        rw [hV2]
        refine ⟨by rw [nrow_length, List.length_drop], _, c - j, rfl, by omega, by omega, ?_⟩
        by_cases h0 : L.length - j = 0
        · exact .inl h0
        · obtain ⟨-, a', c', e, h1, h2, h3⟩ := hS7
          cases e
          rcases h3 with h3 | ⟨g', o', h4, h5, h6⟩
          · omega
          · cases h5
            rw [if_neg (by omega)]
            refine .inr ⟨gb, o + j * 5, trivial, rfl, fun i u hu => ?_⟩
            rw [← nrow_drop, List.getElem?_drop] at hu
            rw [Nat.add_assoc]
            exact h6 _ u hu
      obtain ⟨a4, c4, w4, hrun, r4, d4, b4⟩ := run_nodes (w := w1) RowAt.nil (by omega) hS1 hone (by omega) 57
      simp only [Nat.zero_add, List.nil_append] at hrun r4 b4
      have d5 : Ch0 w1 w4 := d4.mono (fun k _ e => by simp [rblk] at e)
      replace hS1 := Lib.hid hS1
      replace HS2 := Lib.hid HS2
      clear hS
      refine (if hlt : j < L.length then ?lt else ?ge)
    case' lt =>
      obtain ⟨gb', o', c1', e2, -, hcell⟩ := (HG.out.keep c1.out (fun _ _ e => e)).node (by omega)
      cases e2
      obtain ⟨x0, -, -, -, -⟩ := hcell j hlt
      have i2 : (j : Int) < L.length := by omega
      have hid : id ≤ L[j].id := Int.not_lt.1 (fun e => hgo ⟨hlt, e⟩)
      clear hcell hgo
      generalize L[j].id = X at *
      go_wp2_with (at_builtin; refine wpList_append_run rfl _ _ 57 57 rfl rfl rfl hrun ?_)
    case' ge =>
      have i2 : (L.length : Int) ≤ j := by omega
      clear hgo
      go_wp2_with (at_builtin; refine wpList_append_run rfl _ _ 57 57 rfl rfl rfl hrun ?_)
    all_goals
      have hb4 := Lib.hid b4
      clear hrun b4 d4 z1n i2
      obtain ⟨g5, o5, c5', hg5, e5, hcc⟩ := SeesC.cells HC.out (by omega)
      obtain ⟨-, -, -, m3⟩ := hcc m hm
      rw [ecv.out] at e5
      cases e5
      have d6 := c1.out.trans d5
      have m3' := c1.out.cell m3 (fun e => e)
      replace m3 := d6.cell m3 (fun e => e)
      have z0' := d5.cell z0 (fun e => e)
      have z1' := d5.cell z1 (fun e => e)
      obtain rfl := hcm.out
      have y5 : IntKind.i64.wrap (m : Int) = m := IntWalk.i64_in _ (by omega)
      have j3 : (0 : Int) ≤ m := by omega
      have j4 : (m : Int) < cs.length := by omega
      have mkR := fun (w : World) => make_ints w nr (by omega)
      have mkD := fun (w : World) => make_ints w ndt (by omega)
      obtain ⟨CR, hCR⟩ : ∃ CR, CR = ints (List.replicate nr 0) := ⟨_, rfl⟩
      obtain ⟨CD, hCD⟩ : ∃ CD, CD = ints (List.replicate ndt 0) := ⟨_, rfl⟩
      simp only [← hCR] at mkR
      simp only [← hCD] at mkD
      replace hCR := Lib.hid hCR
      replace hCD := Lib.hid hCD
      have hbW : b < w4.heap.size := block_lt_of_cell z0'
      have hgW : g5 < w4.heap.size := block_lt_of_cell m3
      have n1 : b ≠ w4.heap.size := by omega
      have n2 : b ≠ w4.heap.size + 1 := by omega
      have n3 : b ≠ w4.heap.size + 1 + 1 := by omega
      have n4 : g5 ≠ w4.heap.size := by omega
      have n5 : g5 ≠ w4.heap.size + 1 := by omega
      have n6 : g5 ≠ w4.heap.size + 1 + 1 := by omega
      have hfin : Hid (cs[m].final = finalOf cs ((m : Int) + 1)) := Lib.hid (by
        unfold finalOf
        rw [show ((m : Int) + 1 - 1).toNat = m by omega]
        simp [List.getD_eq_getElem?_getD, hm])
      generalize cs[m].final = FN at *
      have hnb : rblk (.slice a4 j c4) ≠ some b := fun e => by
        rcases hb4.out with q | q
        · rw [q] at e; cases e
        · rw [q] at e; cases e; have := block_lt_of_cell z0; simp at this
      have hng : rblk (.slice a4 j c4) ≠ some g5 := fun e => by
        rcases hb4.out with q | q
        · rw [q] at e; cases e
        · rw [q] at e; cases e; have := block_lt_of_cell m3'; simp at this
      replace hgW := Lib.hid hgW
      replace hbW := Lib.hid hbW
      replace d6 := Lib.hid d6
      replace d5 := Lib.hid d5
      have q1 : ∀ A1 : Obj, (w4.alloc A1).drew.cell? ⟨b, 0, none⟩ = some (.slice (some ⟨g5, o5, none⟩) cs.length cc) ∧ (w4.alloc A1).drew.cell? ⟨g5, o5 + m * 4 + 3, none⟩ = some (.bool FN) := fun A1 => ⟨(((Ch.refl (fun _ => False) w4).alloc A1).drew).cell z0' (fun e => e), (((Ch.refl (fun _ => False) w4).alloc A1).drew).cell m3 (fun e => e)⟩
      have q2 : ∀ A1 A2 : Obj, ((w4.alloc A1).alloc A2).drew.cell? ⟨b, 0, none⟩ = some (.slice (some ⟨g5, o5, none⟩) cs.length cc) ∧ ((w4.alloc A1).alloc A2).drew.cell? ⟨g5, o5 + m * 4 + 3, none⟩ = some (.bool FN) := fun A1 A2 => ⟨((((Ch.refl (fun _ => False) w4).alloc A1).alloc A2).drew).cell z0' (fun e => e), ((((Ch.refl (fun _ => False) w4).alloc A1).alloc A2).drew).cell m3 (fun e => e)⟩
      have q3 : ∀ A1 A2 A3 : Obj, (((w4.alloc A1).alloc A2).alloc A3).drew.cell? ⟨b, 0, none⟩ = some (.slice (some ⟨g5, o5, none⟩) cs.length cc) ∧ (((w4.alloc A1).alloc A2).alloc A3).drew.cell? ⟨g5, o5 + m * 4 + 3, none⟩ = some (.bool FN) := fun A1 A2 A3 => ⟨(((((Ch.refl (fun _ => False) w4).alloc A1).alloc A2).alloc A3).drew).cell z0' (fun e => e), (((((Ch.refl (fun _ => False) w4).alloc A1).alloc A2).alloc A3).drew).cell m3 (fun e => e)⟩
      replace q1 := Lib.hid q1
      replace q2 := Lib.hid q2
      replace q3 := Lib.hid q3
      clear hcc z0 z1 m3'
      have HR4 := Lib.hid r4
      clear r4
      go_region_held3 (fun w' => w'.cell? ⟨b, 0, none⟩ = some (.slice (some ⟨g5, o5, none⟩) cs.length cc) ∧ w'.cell? ⟨g5, o5 + m * 4 + 3, none⟩ = some (.bool FN))
        (first | exact q1.out _ | exact q2.out _ _ | exact q3.out _ _ _ | exact ⟨d7.cell (q3.out _ _ _).1 hnb, d7.cell (q3.out _ _ _).2 hng⟩ | go_keep)
        ((refine step_node HR4.out rfl (by omega) _ _ (by rfl) _ _ (by rfl) (by rfl) (by rfl) (by exact (three_blocks w4 _ _ _).2.2) (by first | exact zeros_a w4 _ nr ndt CR CD hCR.out hCD.out | exact zeros_b w4 _ nr ndt CR CD hCR.out hCD.out) ?_; intro a7 c7 w7 r7 d7 b7 hZ))
      all_goals
        obtain ⟨hZ0, B1, B2, eB1, eB2, fB1, fB2, neB, t1, t2⟩ := hZ
        rw [eB1, eB2] at r7
        clear eB1 eB2
        have hLc : L.length ≤ c := hLc0
        have c47 := hZ0.trans' d7 (S'' := fun k => rblk (.slice a4 j c4) = some k) (fun _ _ e => e.elim) (fun _ _ e => e)
        have h4n : ∀ k, rblk (.slice a4 j c4) = some k → w1.heap.size ≤ k ∧ k < w4.heap.size := fun k hk => ⟨by
          rcases hb4.out with q | q
          · rw [q] at hk; cases hk
          · rw [q] at hk; cases hk; exact Nat.le_refl _, HR4.out.lt hk⟩
        have cw7 : Ch0 w w7 := d6.out.trans' c47 (fun _ _ e => e) (fun k hk e => by have := (h4n k e).1; have := c1.out.size; omega)
        have cw17 : Ch0 w1 w7 := d5.out.trans' c47 (fun _ _ e => e) (fun k hk e => by have := (h4n k e).1; omega)
        have z17 := cw17.cell (c1.out.cell (HG.out.cells.2) (fun e => e)) (fun e => e)
        have hS2 := HS2.out w7 cw17
        have u1 := d7.keep t1 (fun e => by have := (h4n _ e).2; omega)
        have u2 := d7.keep t2 (fun e => by have := (h4n _ e).2; omega)
        have hsx := hZ0.size
        have hs4 := d6.out.size
        have hb7 : rblk (.slice a7 (j + 1) c7) ≠ none → ∀ k, rblk (.slice a7 (j + 1) c7) = some k → w1.heap.size ≤ k ∧ k ≠ B1 ∧ k ≠ B2 := by
          intro _ k hk
          have l1 := lt_of_block t1
          have l2 := lt_of_block t2
          rcases b7 with q | q
          · rw [q] at hk
            have := h4n k hk
            omega
          · rw [q] at hk; cases hk
            have := d5.out.size
            omega
        have hone2 : ∀ u ∈ nrow vr vd (L.drop j), u.oneCell' = true := one_nrow vr vd _ (fun nd h => HG.out.slices nd (List.mem_of_mem_drop h))
        obtain ⟨a9, c9, w9, hrun2, r9, d9, b9⟩ := run_nodes (w := w7) r7 (by omega) hS2 hone2 (by omega) 57
        rw [hV2] at hrun2
        have hbb : w7.heap[b]? = some (.cells #[cv, .slice _ L.length c] 59 (0, 0)) := cw7.keep HG.out.blk (fun e => e)
        have hb7b : rblk (.slice a7 (j + 1) c7) ≠ some b := fun e => by
          have := (hb7 (by rw [e]; simp) b e).1
          have := HG.out.small b HG.out.ownB
          have := c1.out.size
          omega
        have hb9 := d9.keep hbb hb7b
        have zb9 := cell_of_row w9 b 1 _ _ _ hb9
        have fz9 := frozen_of_row w9 b 1 _ _ hb9
        have hg' : ∃ nv vr vd ow, RGS (w9.setCell ⟨b, 1, none⟩ (.slice a9 (j + 1 + (L.length - j)) c9)) b (fun k => O k ∨ (w.heap.size ≤ k ∧ k < (w9.setCell ⟨b, 1, none⟩ (.slice a9 (j + 1 + (L.length - j)) c9)).heap.size)) cv (addL cs L id ((m : Int) + 1) len) nv vr vd ow := by
          have cb9 : Ch (fun k => k = b) w9 (w9.setCell ⟨b, 1, none⟩ (.slice a9 (j + 1 + (L.length - j)) c9)) := Ch.setCell (S := fun k => k = b) (Ch.refl _ _) (p := ⟨b, 1, none⟩) (fun _ => rfl) _
          have hw7b : ∀ k, rblk (.slice a7 (j + 1) c7) = some k → w.heap.size ≤ k := fun k hk => by
            have := (hb7 (by rw [hk]; simp) k hk).1
            have := c1.out.size
            omega
          have hb9k : ∀ k, rblk (.slice a9 (j + 1 + (L.length - j)) c9) = some k → w.heap.size ≤ k ∧ k ≠ B1 ∧ k ≠ B2 ∧ k ≠ b := by
            intro k hk
            have := HG.out.small b HG.out.ownB
            have l1 := lt_of_block u1
            have l2 := lt_of_block u2
            have := cw7.size
            rcases b9 with q | q
            · rw [q] at hk
              have q1 := hb7 (by rw [hk]; simp) k hk
              have q2 := hw7b k hk
              omega
            · rw [q] at hk; cases hk
              omega
          have c9w : Ch0 w w9 := cw7.trans' d9 (fun _ _ e => e) (fun k hk e => by have := hw7b k e; omega)
          have u1' := d9.keep u1 (fun e => (hb7 (by rw [e]; simp) _ e).2.1 rfl)
          have u2' := d9.keep u2 (fun e => (hb7 (by rw [e]; simp) _ e).2.2 rfl)
          have hbs := HG.out.small b HG.out.ownB
          have u1'' := cb9.keep u1' (show ¬ B1 = b by omega)
          have u2'' := cb9.keep u2' (show ¬ B2 = b by omega)
          have hnode : newNode cs id ((m : Int) + 1) len = ⟨id, (m : Int) + 1, List.replicate nr 0, List.replicate ndt 0, FN⟩ := by
            unfold newNode
            rw [hnr.out, hnd.out, hfin.out]; rfl
          have hadd : addL cs L id ((m : Int) + 1) len = ins (newNode cs id ((m : Int) + 1) len) L := by
            unfold addL
            rw [if_pos e1.out]
          rw [hadd, hnode]
          rw [hadd, hnode] at hL2
          have hLj : j + 1 + (L.length - j) = L.length + 1 := by omega
          refine HG.out.add (VR := .slice (some ⟨B1, 0, none⟩) nr nr) (VD := .slice (some ⟨B2, 0, none⟩) ndt ndt) (nd := ⟨id, (m : Int) + 1, List.replicate nr 0, List.replicate ndt 0, FN⟩) (j := j) h2 hL2.out (c9w.trans' cb9 (fun _ _ e => e.elim) (fun _ _ e => e)) (by rw [heap_setCell_same w9 b 1 _ _ _ hb9]; rfl) ?_ (fun k hk => (hb9k k hk).1)
            (by simpa using rowAt_new u1'' (n := nr) (by simp) (by unfold maxLen; omega)) (by simpa using rowAt_new u2'' (n := ndt) (by simp) (by unfold maxLen; omega)) ?_ ?_ ?_
          · have := r9.keep cb9 (fun k hk => (hb9k k hk).2.2.2)
            rw [hLj] at this ⊢
            exact this
          · intro k hk; simp [rblk] at hk; omega
          · intro k hk; simp [rblk] at hk; omega
          · intro k h1 h2; simp [rblk] at h1 h2; omega
        have hTurn : Turn w (w9.setCell ⟨b, 1, none⟩ (.slice a9 (j + 1 + (L.length - j)) c9)) O (fun k => O k ∨ (w.heap.size ≤ k ∧ k < (w9.setCell ⟨b, 1, none⟩ (.slice a9 (j + 1 + (L.length - j)) c9)).heap.size)) := by
          refine ⟨?_, fun k hk => hk.elim .inl (fun q => .inr q.1)⟩
          have cb9 : Ch (fun k => k = b) w9 (w9.setCell ⟨b, 1, none⟩ (.slice a9 (j + 1 + (L.length - j)) c9)) := Ch.setCell (S := fun k => k = b) (Ch.refl _ _) (p := ⟨b, 1, none⟩) (fun _ => rfl) _
          have c9w : Ch0 w w9 := cw7.trans' d9 (fun _ _ e => e) (fun k hk e => by
            have := (hb7 (by rw [e]; simp) k e).1
            have := c1.out.size
            omega)
          exact c9w.trans' cb9 (fun _ _ e => e.elim) (fun k _ e => by rw [e]; exact HG.out.ownB)
        have HF := Lib.hid (And.intro (H.out.turn hg' hTurn (addL_wfR hr H.out.wf id _ len him)) hTurn)
        replace hb7 := Lib.hid hb7
        clear hg' hTurn hS2 hone2 r9 d9 b9 r7 d7 b7 u1 u2 t1 t2 hbb hb7b hb9 hb7 hZ0 c47 cw7 cw17 hsx hs4 hV2 q1 q2 q3 mkR mkD m3 z0' z1' n1 n2 n3 n4 n5 n6 hone hS1 hb4 HR4 hnb hng y5
        have i6 : (j : Int) ≤ L.length := i3
        replace hLc := Lib.hid hLc
        replace hLc0 := Lib.hid hLc0
        replace hcM := Lib.hid hcM
        by_cases hcj : c = j
        · subst hcj
          simp only [if_true, Nat.sub_self] at hrun2
          go_wp2_with (at_builtin; go_loud (refine wpList_append_run rfl _ _ 57 57 rfl rfl rfl hrun2 ?_))
          go_ret
          exact ⟨rfl, _, HF.out⟩
        · simp only [if_neg hcj] at hrun2
          go_wp2_with (at_builtin; refine wpList_append_run rfl _ _ 57 57 rfl rfl rfl hrun2 ?_)
          go_ret
          exact ⟨rfl, _, HF.out⟩

end

end Go.Proofs.Ytlmeponoadhheaa

/-
  Contract of the document's graph: Keep.
-/
namespace Go.Proofs.Ytlmeponoadhheaa
set_option linter.unusedVariables false
open Go.RowKit

theorem sees_node {w : World} {G : Nat} {cs : List Value} (h : w.heap[G]? = some (.cells cs.toArray 36 (0, 0))) (hl : cs.length = 5) : Sees (fun k => k = G) w (.slice (some ⟨G, 0, none⟩) 1 1) 5 1 cs := by
  refine ⟨by omega, _, 1, rfl, Nat.le_refl _, by decide, .inr ⟨G, 0, rfl, rfl, fun i u hu => ?_⟩⟩
  rw [Nat.zero_add, cell_of_row w G i _ _ _ h]
  simpa using hu

theorem keepN_snoc (L : List GN) (ks : List Int) (nd : GN) : keepN (L ++ [nd]) ks = keepN L ks ++ (if nd.id ∈ ks then [nd] else []) := by
  unfold keepN
  rw [List.filter_append]
  congr 1
  by_cases h : nd.id ∈ ks <;> simp [h]

theorem keepN_len (L : List GN) (ks : List Int) : (keepN L ks).length ≤ L.length := List.length_filter_le _ _

section
variable {w w' : World} {b : Nat} {O D : Nat → Prop} {cs : List Cls} {cv : Value} {L : List GN} {nv nv' : Value} {vr vd : Int → Value} {ow : Nat → Option Int}

/-- fewer nodes, in another row -/
theorem RGS.sub (h : RGS w b O cv L nv vr vd ow) {ks : List Int} (c : Ch (fun k => k = b) w w') (hb : w'.heap[b]? = some (.cells #[cv, nv'] 59 (0, 0))) (hrow : RowAt w' 36 5 nv' (keepN L ks).length (nrow vr vd (keepN L ks))) (hn : ∀ k, rblk nv' = some k → w.heap.size ≤ k) :
    RGS w' b (fun k => O k ∨ (w.heap.size ≤ k ∧ k < w'.heap.size)) cv (keepN L ks) nv' vr vd ow where
  blk := hb
  ownB := .inl h.ownB
  row := hrow
  ownV := fun k hk => .inr ⟨hn k hk, hrow.lt hk⟩
  small := fun k hk => hk.elim (fun q => Nat.lt_of_lt_of_le (h.small k q) c.size) (fun q => q.2)
  refs := fun nd hnd => (h.refs nd (mem_keepN.1 hnd).1).keep c (fun k hk e => (h.ne_b (mem_keepN.1 hnd).1 (.inl hk)).1 e)
  data := fun nd hnd => (h.data nd (mem_keepN.1 hnd).1).keep c (fun k hk e => (h.ne_b (mem_keepN.1 hnd).1 (.inr hk)).1 e)
  ownN := fun nd hnd k hk => ⟨.inl (h.ownN nd (mem_keepN.1 hnd).1 k hk).1, (h.ownN nd (mem_keepN.1 hnd).1 k hk).2⟩
  apart := fun nd hnd => h.apart nd (mem_keepN.1 hnd).1
  rise := keepN_rising h.rise ks

set_option maxRecDepth 100000 in
set_option maxHeartbeats 4000000 in
theorem rkeep_of (h : Rt w b O D cs cv L) (hL : L.length ≤ 1000000) (Dk : Nat → Prop) (v : Value) (ks : List Int) (hk : SeesI Dk w v ks) (hDk : ∀ k, Dk k → ¬ O k) :
    Calls Try.prog 50 #[.pointer (some ⟨b, 0, none⟩), v] w fun e w' => e = .returned (.int .i64 ((L.length : Int) - (keepL L ks).length)) ∧ ∃ O', Rt w' b O' D cs cv (keepL L ks) ∧ Turn w w' O O' := by
  obtain ⟨nv, vr, vd, ow, g⟩ := h.g
  obtain ⟨a, c, rfl, -, -⟩ := g.row.isSlice
  obtain ⟨ka, kc, rfl, -⟩ := hk.len
  obtain ⟨k0, k1⟩ := g.cells
  have HG := Lib.hid g
  have HK := Lib.hid hk
  have H := Lib.hid h
  replace hDk := Lib.hid hDk
  clear h g hk k0
  go_enter Try.func50, Try.ntmps50
  go_wp2_with fail
  go_loopw [5, 15] (fun out i wr => ∃ j : Nat, j ≤ L.length ∧ i = .int .i64 j ∧ Ch0 w wr ∧ RowAt wr 36 5 out (keepN (L.take j) ks).length (nrow vr vd (keepN (L.take j) ks)) ∧ ∀ k, rblk out = some k → w.heap.size ≤ k) (fun _ i _ => L.length - (intOf i).toNat)
  case atStart => exact ⟨0, Nat.zero_le _, rfl, Ch.refl _ _, RowAt.nil, (fun k hk => by cases hk)⟩
  case round =>
    obtain ⟨j, hj, rfl, d, hr, hf⟩ := hrel
    have hkl := keepN_len (L.take j) ks
    have hkl2 : (L.take j).length ≤ L.length := by simp; omega
    obtain ⟨a3, c3, rfl, -, -⟩ := hr.isSlice
    by_cases hlt : j < L.length
    · have hG := HG.out.keep d (fun _ _ e => e)
      obtain ⟨gb, o, c1', e2, -, hcell⟩ := hG.node (by omega)
      obtain ⟨rfl, rfl⟩ : a = some ⟨gb, o, none⟩ ∧ c = c1' := by simpa using e2
      obtain ⟨x0, x1, x2, x3, x4⟩ := hcell j hlt
      have z1 := d.cell k1 (fun e => e)
      have hnd := List.getElem_mem hlt
      obtain ⟨⟨a5, n5, c5, e5⟩, ⟨a6, n6, c6, e6⟩⟩ := hG.slices _ hnd
      have hsn := keepN_snoc (L.take j) ks L[j]
      rw [← take_snocG L j hlt] at hsn
      have hh := has_any _ _ ks L[j].id wr (HK.out.keep d (fun _ _ e => e))
      have i1 : (0 : Int) ≤ j := by omega
      have i2 : (j : Int) < L.length := by omega
      have hnc : nrow vr vd [L[j]] = ncells L[j] (vr L[j].id) (vd L[j].id) := by simp [nrow]
      rw [e5] at x2 hnc
      rw [e6] at x3 hnc
      clear hcell e2 k1 hG e5 e6 hnd
      by_cases hin : L[j].id ∈ ks
      · rw [if_pos hin] at hsn
        rw [decide_eq_true hin] at hh
        unfold ncells at hnc
        have hnr : nrow vr vd (keepN (L.take (j + 1)) ks) = nrow vr vd (keepN (L.take j) ks) ++ [.int .i64 L[j].id, .int .i64 L[j].cls, .slice a5 n5 c5, .slice a6 n6 c6, .bool L[j].fin] := by rw [hsn, nrow_append, hnc]
        have hnl : (keepN (L.take (j + 1)) ks).length = (keepN (L.take j) ks).length + 1 := by rw [hsn]; simp
        generalize L[j].id = X at *
        generalize L[j].cls = Y at *
        generalize L[j].fin = Z at *
        have ca : Ch0 wr (wr.alloc (.cells #[.int .i64 X, .int .i64 Y, .slice a5 n5 c5, .slice a6 n6 c6, .bool Z] 36)) := (Ch.refl _ _).alloc _
        obtain ⟨a4, c4, w4, hrun, r4, d4, b4⟩ := run_nodes (hr.keep ca (fun _ _ e => e)) (by omega) (sees_node (cs := [.int .i64 X, .int .i64 Y, .slice a5 n5 c5, .slice a6 n6 c6, .bool Z]) (heap_alloc_new wr _) rfl) (by
          intro u hu
          simp at hu
          rcases hu with rfl | rfl | rfl | rfl | rfl <;> rfl) (by omega) 57
        have HF : Hid (Ch0 w w4 ∧ RowAt w4 36 5 (.slice a4 ((keepN (L.take j) ks).length + 1) c4) (keepN (L.take (j + 1)) ks).length (nrow vr vd (keepN (L.take (j + 1)) ks)) ∧ ∀ k, rblk (.slice a4 ((keepN (L.take j) ks).length + 1) c4) = some k → w.heap.size ≤ k) := by
          refine Lib.hid ⟨(d.trans ca).trans' d4 (fun _ _ e => e) (fun k hk e => by have := hf k e; omega), ?_, ?_⟩
          · rw [hnr, hnl]; exact r4
          · intro k hk
            rcases b4 with e | e
            · rw [e] at hk; exact hf k hk
            · rw [e] at hk; cases hk; rw [World.size_alloc]; have := d.size; omega
        clear d hr hf hsn hin ca r4 d4 b4 hnc hnr hnl
        generalize (keepN (L.take j) ks).length = nK at *
        go_wp2_with fail
        refine hh.mono ?_
        rintro e w1 ⟨rfl, hs⟩
        obtain rfl : wr = w1 := hs
        clear hh
        go_wp2_with (at_builtin; refine wpList_append_run rfl _ _ 57 57 rfl rfl rfl hrun ?_)
        go_roundw
        case rel => exact ⟨j + 1, by omega, by go_num, HF.out⟩
        case measure => simp [intOf]; omega
      · rw [if_neg hin, List.append_nil] at hsn
        rw [decide_eq_false hin] at hh
        have HE := Lib.hid (And.intro d (And.intro hr hf))
        replace hsn := Lib.hid hsn
        clear d hr hf hin hnc
        generalize L[j].id = X at *
        go_wp2_with fail
        refine hh.mono ?_
        rintro e w1 ⟨rfl, hs⟩
        obtain rfl : wr = w1 := hs
        clear hh
        go_wp2_with fail
        go_roundw
        case rel => exact ⟨j + 1, by omega, by go_num, by rw [hsn.out]; exact HE.out⟩
        case measure => simp [intOf]; omega
    · obtain rfl : j = L.length := by omega
      rw [List.take_length] at hr hkl hf ⊢
      have z1 := d.cell k1 (fun e => e)
      have hbb := d.keep HG.out.blk (fun e => e)
      have fz1 := frozen_of_row wr b 1 _ _ hbb
      have hKL : (keepL L ks).length = (keepN L ks).length := keepL_length L ks
      have hgo : Hid ((L.length : Int) - (keepN L ks).length = (L.length : Int) - (keepL L ks).length) := Lib.hid (by rw [hKL])
      have cb : Ch (fun k => k = b) wr (wr.setCell ⟨b, 1, none⟩ (.slice a3 (keepN L ks).length c3)) := Ch.setCell (S := fun k => k = b) (Ch.refl _ _) (p := ⟨b, 1, none⟩) (fun _ => rfl) _
      have hbs := HG.out.small b HG.out.ownB
      have hS2 : RGS (wr.setCell ⟨b, 1, none⟩ (.slice a3 (keepN L ks).length c3)) b (fun k => O k ∨ (w.heap.size ≤ k ∧ k < (wr.setCell ⟨b, 1, none⟩ (.slice a3 (keepN L ks).length c3)).heap.size)) cv (keepN L ks) (.slice a3 (keepN L ks).length c3) vr vd ow :=
        HG.out.sub (d.trans' cb (fun _ _ e => e.elim) (fun _ _ e => e)) (by rw [heap_setCell_same wr b 1 _ _ _ hbb]; rfl) (hr.keep cb (fun k hk e => by have := hf k hk; omega)) hf
      have hT2 : Turn w (wr.setCell ⟨b, 1, none⟩ (.slice a3 (keepN L ks).length c3)) O (fun k => O k ∨ (w.heap.size ≤ k ∧ k < (wr.setCell ⟨b, 1, none⟩ (.slice a3 (keepN L ks).length c3)).heap.size)) :=
        ⟨d.trans' cb (fun _ _ e => e.elim) (fun k _ e => by rw [e]; exact HG.out.ownB), fun k hk => hk.elim .inl (fun q => .inr q.1)⟩
      have w1 := H.out.wf
      have hwK : ∀ nd ∈ keepN L ks, nd.refs.length ≤ 60 := fun nd hnd => (w1 nd (mem_keepN.1 hnd).1).refs
      have hKr := keepN_rising HG.out.rise ks
      have hfin : ∀ R : Int → List Int, (∀ nd ∈ keepN L ks, R nd.id = cutR (ids (keepN L ks)) nd.refs) → setR (keepN L ks) R = keepL L ks := fun R hR => keepL_setR L ks R hR
      have hkwf := keepL_wf H.out.wf ks
      replace hgo := hgo
      clear d hr hf cb w1
      generalize keepN L ks = K at *
      replace hS2 := Lib.hid hS2
      replace hT2 := Lib.hid hT2
      replace hwK := Lib.hid hwK
      replace hKr := Lib.hid hKr
      replace hfin := Lib.hid hfin
      replace hkwf := Lib.hid hkwf
      replace hKL := Lib.hid hKL
      clear hbb hbs k1
      go_wp2_with fail
      generalize hOO : (fun k => O k ∨ (w.heap.size ≤ k ∧ k < (wr.setCell ⟨b, 1, none⟩ (.slice a3 K.length c3)).heap.size)) = O2 at *
      clear hOO
      generalize wr.setCell ⟨b, 1, none⟩ (.slice a3 K.length c3) = W2 at *
      have hS0 : Hid (RGS W2 b O2 cv (setR K (fun k => ((gat K k).getD default).refs)) (.slice a3 K.length c3) vr vd ow) := Lib.hid (by
        have : setR K (fun k => ((gat K k).getD default).refs) = K := by
          unfold setR
          conv => rhs; rw [← List.map_id' K]
          apply List.map_congr_left
          intro nd hnd
          show (⟨nd.id, nd.cls, ((gat K nd.id).getD default).refs, nd.data, nd.fin⟩ : GN) = nd
          rw [hKr.out.at hnd]
          rfl
        rw [this]; exact hS2.out)
      have hR0 : Hid (∀ nd ∈ K, ((gat K nd.id).getD default).refs = nd.refs) := Lib.hid (fun nd hnd => by rw [hKr.out.at hnd]; rfl)
      clear hS2
      go_loopw [56] (fun i wr => ∃ j : Nat, j ≤ K.length ∧ i = .int .i64 j ∧ ∃ R : Int → List Int, RGS wr b O2 cv (setR K R) (.slice a3 K.length c3) vr vd ow ∧ Ch O2 W2 wr ∧ ∀ m (hm : m < K.length), R K[m].id = if m < j then cutR (ids K) K[m].refs else K[m].refs) (fun i _ => K.length - (intOf i).toNat)
      case atStart => exact ⟨0, Nat.zero_le _, rfl, _, hS0.out, Ch.refl _ _, fun m hm => by rw [if_neg (by omega)]; exact hR0.out _ (List.getElem_mem hm)⟩
      case round =>
        obtain ⟨j2, hj2, rfl, R, hS, d2, hR⟩ := hrel
        clear hS0
        by_cases hlt2 : j2 < K.length
        · have hsl : (setR K R).length = K.length := by simp [setR]
          obtain ⟨gb, o, c1', e2, -, hcell⟩ := hS.node (by omega)
          rw [hsl] at e2
          obtain ⟨rfl, rfl⟩ : a3 = some ⟨gb, o, none⟩ ∧ c3 = c1' := by simpa using e2
          have hnd := List.getElem_mem hlt2
          have hid2 : ((setR K R)[j2]'(by omega)).id = K[j2].id := by simp [setR]
          obtain ⟨-, -, x2, -, -⟩ := hcell j2 (by omega)
          rw [hid2] at x2
          have z1 := hS.cells.2
          have hRj := hR j2 hlt2
          rw [if_neg (by omega)] at hRj
          have hmem : ∀ R : Int → List Int, (⟨K[j2].id, K[j2].cls, R K[j2].id, K[j2].data, K[j2].fin⟩ : GN) ∈ setR K R := fun R => List.mem_map.2 ⟨K[j2], hnd, rfl⟩
          obtain ⟨ar, cr, ev, -, -⟩ := (hS.refs _ (hmem R)).isSlice
          simp only at ev
          rw [hRj] at ev
          rw [ev] at x2
          have hr60 := hwK.out _ hnd
          have i1 : (0 : Int) ≤ j2 := by omega
          have i2 : (j2 : Int) < K.length := by omega
          have hHR := Lib.hid hR
          have hHS := Lib.hid hS
          have hHd := Lib.hid d2
          have hHm := Lib.hid hmem
          replace ev := Lib.hid ev
          clear hcell e2 hR hS d2 hmem
          go_wp2_with fail
          clear z1 x2
          go_loopw [68] (fun i wq => ∃ k : Nat, k ≤ K[j2].refs.length ∧ i = .int .i64 k ∧ ∃ R' : Int → List Int, RGS wq b O2 cv (setR K R') (.slice (some ⟨gb, o, none⟩) K.length c3) vr vd ow ∧ Ch O2 W2 wq ∧ R' K[j2].id = cutTo (ids K) k K[j2].refs ∧ ∀ m (hm : m < K.length), m ≠ j2 → R' K[m].id = R K[m].id) (fun i _ => K[j2].refs.length - (intOf i).toNat)
          case atStart => exact ⟨0, Nat.zero_le _, rfl, R, hHS.out, hHd.out, by rw [cutTo_zero]; exact hRj, fun m hm _ => rfl⟩
          case round =>
            obtain ⟨k, hk, rfl, R', hS', d3, hRk, hRo⟩ := hrel
            by_cases hk2 : k < K[j2].refs.length
            · have hsl2 : (setR K R').length = K.length := by simp [setR]
              obtain ⟨gb', o', c2', e3, -, hcell⟩ := hS'.node (by omega)
              rw [hsl2] at e3
              cases e3
              have hid3 : ((setR K R')[j2]'(by omega)).id = K[j2].id := by simp [setR]
              obtain ⟨-, -, x2, -, -⟩ := hcell j2 (by omega)
              rw [hid3] at x2
              have z1 := hS'.cells.2
              have hrow := hS'.refs _ (hHm.out R')
              simp only at hrow
              rw [hRk] at hrow
              rw [ev.out] at x2 hrow
              obtain ⟨g3, o3, c5, -, e5, hc3⟩ := SeesI.cell hrow.sees (by rw [cutTo_length]; omega)
              have hx := hc3 k (by rw [cutTo_length]; exact hk2)
              rw [cutTo_get _ _ _ hk2] at hx
              rw [cutTo_length] at hrow e5
              obtain ⟨g4, o4, c6, u6, e6, q5, q6, hrow2, cset⟩ := row_set hrow (by rw [cutTo_length]) k hk2 0
              rw [e5] at e6
              cases e6
              obtain ⟨rfl, rfl⟩ : ar = some ⟨g3, o3, none⟩ ∧ cr = c5 := by simpa using e5
              have hat := rat_g hS' (K[j2].refs.getD k 0)
              have i3 : (0 : Int) ≤ k := by omega
              have i4 : (k : Int) < K[j2].refs.length := by omega
              have hHS' := Lib.hid (And.intro hS' (And.intro d3 (And.intro hRk hRo)))
              by_cases hXi : K[j2].refs.getD k 0 ∈ ids K
              · obtain ⟨p, hp, hpe, -, -⟩ := gpos_some (L := setR K R') (id := K[j2].refs.getD k 0) (by rw [setR_ids]; exact hXi)
                rw [hpe] at hat
                have hst := Lib.hid (cutTo_in (ids K) k K[j2].refs hk2 hXi)
                have i5 : decide ((p : Int) < 0) = false := decide_eq_false (by omega)
                have i6 : (0 : Int) ≤ p := by omega
                clear hrow2 cset hXi hpe hS' d3 hRk hRo hrow hcell e5 hc3 q5 q6
                generalize K[j2].refs.getD k 0 = X at *
                generalize K[j2].refs.length = nK at *
                go_wp2_with fail
                refine hat.mono ?_
                rintro e wy ⟨rfl, hs⟩
                obtain rfl : wr = wy := hs
                clear hat
                go_wp2_with fail
                go_roundw
                case rel => exact ⟨k + 1, by omega, by go_num, R', hHS'.out.1, hHS'.out.2.1, by rw [hst.out]; exact hHS'.out.2.2.1, hHS'.out.2.2.2⟩
                case measure => simp [intOf]; omega
              · rw [gpos_none (by rw [setR_ids]; exact hXi)] at hat
                have hst := cutTo_out (ids K) k K[j2].refs hk2 hXi
                obtain ⟨t1, t2⟩ := hS'.turn (hHm.out R') (g := fun nd => { nd with refs := nd.refs.set k 0 }) (fun _ => ⟨rfl, rfl, rfl⟩) (w' := wr.setCell ⟨g3, o3 + k, none⟩ (.int .i64 0)) (cset.mono (fun q _ e => by rw [← ev.out] at e; exact .inl e))
                  (by simp only; rw [ev.out, hRk, List.length_set, cutTo_length]; exact hrow2) ((hS'.data _ (hHm.out R')).keep cset (fun q e1 e2 => by rw [← ev.out] at e2; exact hS'.apart _ (hHm.out R') q e2 e1))
                simp only at t1
                rw [setR_upd, hRk, ← hst] at t1
                have hHF : Hid (RGS (wr.setCell ⟨g3, o3 + k, none⟩ (.int .i64 0)) b O2 cv (setR K (updI R' K[j2].id (cutTo (ids K) (k + 1) K[j2].refs))) (.slice (some ⟨gb, o, none⟩) K.length c3) vr vd ow ∧ Ch O2 W2 (wr.setCell ⟨g3, o3 + k, none⟩ (.int .i64 0)) ∧ (updI R' K[j2].id (cutTo (ids K) (k + 1) K[j2].refs)) K[j2].id = cutTo (ids K) (k + 1) K[j2].refs ∧ ∀ m (hm : m < K.length), m ≠ j2 → (updI R' K[j2].id (cutTo (ids K) (k + 1) K[j2].refs)) K[m].id = R K[m].id) := by
                  refine Lib.hid ⟨t1, d3.trans t2.1, updI_same _ _ _, fun m hm hne => ?_⟩
                  rw [updI_other]
                  · exact hRo m hm hne
                  · have h := List.pairwise_iff_getElem.1 hKr.out
                    rcases Nat.lt_or_gt_of_ne hne with q | q
                    · have := h m j2 hm hlt2 q; omega
                    · have := h j2 m hlt2 hm q; omega
                clear hrow2 cset hXi hS' d3 hRk hRo hrow hcell e5 hc3 q5 hst t1 t2
                generalize K[j2].refs.getD k 0 = X at *
                go_wp2_with fail
                refine hat.mono ?_
                rintro e wy ⟨rfl, hs⟩
                obtain rfl : wr = wy := hs
                clear hat
                go_wp2_with fail
                go_roundw
                case rel => exact ⟨k + 1, by omega, by go_num, _, hHF.out⟩
                case measure => simp [intOf]; omega
            · obtain rfl : k = K[j2].refs.length := by omega
              rw [cutTo_all] at hRk
              have HE := Lib.hid (And.intro hS' (And.intro d3 (And.intro hRk hRo)))
              clear hS' d3 hRk hRo
              go_wp2_with fail
              go_roundw
              case rel =>
                refine ⟨j2 + 1, by omega, by go_num, R', HE.out.1, HE.out.2.1, fun m hm => ?_⟩
                by_cases hmj : m = j2
                · subst hmj
                  rw [if_pos (by omega)]; exact HE.out.2.2.1
                · rw [HE.out.2.2.2 m hm hmj, hHR.out m hm]
                  by_cases q : m < j2
                  · rw [if_pos q, if_pos (by omega)]
                  · rw [if_neg q, if_neg (by omega)]
              case measure => simp [intOf]; omega
        · obtain rfl : j2 = K.length := by omega
          have hKe := hfin.out R (fun nd hnd => by
            obtain ⟨m, hm, rfl⟩ := List.getElem_of_mem hnd
            rw [hR m hm, if_pos hm])
          rw [hKe] at hS
          have HF : Hid (Rt wr b O2 D cs cv (keepL L ks) ∧ Turn w wr O O2) := Lib.hid (by
            have tt : Turn w wr O O2 := hT2.out.trans ⟨d2, fun k hk => .inl hk⟩
            exact ⟨H.out.turn ⟨_, _, _, _, hS⟩ tt hkwf.out, tt⟩)
          clear hS d2 hR hKe
          go_wp2_with fail
          go_ret
          exact ⟨by rw [← hgo.out]; rfl, O2, HF.out⟩

end

end Go.Proofs.Ytlmeponoadhheaa

/-
  The document's graph: a node is finalized no more, in place.
-/
namespace Go.Proofs.Ytlmeponoadhheaa
set_option linter.unusedVariables false
open Go.RowKit

theorem RowAt.setN {w : World} {e : TypeId} {size : Nat} {g o c n : Nat} {xs : List Value} (h : RowAt w e size (.slice (some ⟨g, o, none⟩) n c) n xs) (m : Nat) (hm : m < n * size) (u : Value) :
    RowAt (w.setCell ⟨g, o + m, none⟩ u) e size (.slice (some ⟨g, o, none⟩) n c) n (xs.set m u) ∧ w.cell? ⟨g, o + m, none⟩ = xs[m]? ∧ w.frozen? ⟨g, o + m, none⟩ = false := by
  obtain ⟨hl, h2⟩ := h
  rcases h2 with ⟨q, rfl⟩ | ⟨g', o', cap, cur, q, hg, hn, hM, hsz, ht⟩
  · cases q
  · cases q
    refine ⟨⟨by simp [hl], .inr ⟨g, o, c, _, rfl, heap_setCell_same w g (o + m) _ _ u hg, hn, hM, by simpa using hsz, ?_⟩⟩, ?_, frozen_of_row w g _ _ _ hg⟩
    · rw [Array.toList_setIfInBounds, ← ht, List.drop_set, if_neg (by omega), List.take_set]
      congr 1
      omega
    · rw [cell_of_row w g _ _ _ _ hg, ← ht, List.getElem?_take, if_pos (by omega), List.getElem?_drop, Array.getElem?_toList]

theorem upd_set {L : List GN} (hr : Rising L) {i : Nat} (hi : i < L.length) (g : GN → GN) : upd L L[i].id g = L.set i (g L[i]) := by
  apply List.ext_getElem
  · simp [upd]
  · intro m h1 h2
    have hm : m < L.length := by simpa [upd] using h1
    rw [List.getElem_set]
    simp only [upd, List.getElem_map]
    by_cases e : i = m
    · subst e; simp
    · rw [if_neg e, if_neg]
      intro q
      have h := List.pairwise_iff_getElem.1 hr
      rcases Nat.lt_or_gt_of_ne e with q2 | q2
      · have := h i m hi hm q2; omega
      · have := h m i hm hi q2; omega

theorem nrow_set (vr vd : Int → Value) (L : List GN) (i : Nat) (hi : i < L.length) (b : Bool) : nrow vr vd (L.set i { L[i] with fin := b }) = (nrow vr vd L).set (i * 5 + 4) (.bool b) := by
  induction L generalizing i with
  | nil => simp at hi
  | cons a l ih =>
    cases i with
    | zero => rfl
    | succ i =>
      have h := ih i (by simpa using hi)
      show ncells a (vr a.id) (vd a.id) ++ nrow vr vd (l.set i { l[i]'(by simpa using hi) with fin := b }) = (ncells a (vr a.id) (vd a.id) ++ nrow vr vd l).set ((i + 1) * 5 + 4) (.bool b)
      rw [h, show (i + 1) * 5 + 4 = i * 5 + 4 + 1 + 1 + 1 + 1 + 1 by omega]
      rfl

section
variable {w : World} {b : Nat} {O D : Nat → Prop} {cs : List Cls} {cv : Value} {L : List GN} {vr vd : Int → Value} {ow : Nat → Option Int} {g o c : Nat}

theorem RGS.fin (h : RGS w b O cv L (.slice (some ⟨g, o, none⟩) L.length c) vr vd ow) {i : Nat} (hi : i < L.length) :
    RGS (w.setCell ⟨g, o + i * 5 + 4, none⟩ (.bool false)) b O cv (doneL L L[i].id) (.slice (some ⟨g, o, none⟩) L.length c) vr vd ow ∧ Turn w (w.setCell ⟨g, o + i * 5 + 4, none⟩ (.bool false)) O O ∧ w.frozen? ⟨g, o + i * 5 + 4, none⟩ = false := by
  obtain ⟨h1, h2, h3⟩ := h.row.setN (i * 5 + 4) (by omega) (.bool false)
  rw [← Nat.add_assoc] at h1 h3
  have cs : Ch (fun k => k = g) w (w.setCell ⟨g, o + i * 5 + 4, none⟩ (.bool false)) := Ch.setCell (S := fun k => k = g) (Ch.refl _ _) (p := ⟨g, o + i * 5 + 4, none⟩) (fun _ => rfl) _
  have hgO : O g := h.ownV g rfl
  have hgn : ∀ nd ∈ L, ∀ k, (rblk (vr nd.id) = some k ∨ rblk (vd nd.id) = some k) → k ≠ g := fun nd hnd k hk e => (h.ne_b hnd hk).2 (by rw [e]; rfl)
  have hbg : b ≠ g := by
    rintro rfl
    obtain ⟨cur, hc⟩ := h.row.block (g := b) rfl
    rw [h.blk] at hc; cases hc
  have hd : doneL L L[i].id = L.set i { L[i] with fin := false } := upd_set h.rise hi _
  refine ⟨⟨cs.keep h.blk hbg, h.ownB, ?_, h.ownV, fun k hk => Nat.lt_of_lt_of_le (h.small k hk) cs.size, ?_, ?_, ?_, ?_, rising_of_ids h.rise (doneL_ids L _)⟩, ⟨cs.mono (fun k _ e => by rw [e]; exact hgO), fun k hk => .inl hk⟩, h3⟩
  · rw [hd, nrow_set, List.length_set]
    exact h1
  · intro x hx
    rcases upd_cases h.rise (List.getElem_mem hi) hx with rfl | ⟨hx, -⟩
    · exact (h.refs _ (List.getElem_mem hi)).keep cs (fun k hk => hgn _ (List.getElem_mem hi) k (.inl hk))
    · exact (h.refs x hx).keep cs (fun k hk => hgn x hx k (.inl hk))
  · intro x hx
    rcases upd_cases h.rise (List.getElem_mem hi) hx with rfl | ⟨hx, -⟩
    · exact (h.data _ (List.getElem_mem hi)).keep cs (fun k hk => hgn _ (List.getElem_mem hi) k (.inr hk))
    · exact (h.data x hx).keep cs (fun k hk => hgn x hx k (.inr hk))
  · intro x hx
    rcases upd_cases h.rise (List.getElem_mem hi) hx with rfl | ⟨hx, -⟩
    · exact h.ownN L[i] (List.getElem_mem hi)
    · exact h.ownN x hx
  · intro x hx
    rcases upd_cases h.rise (List.getElem_mem hi) hx with rfl | ⟨hx, -⟩
    · exact h.apart L[i] (List.getElem_mem hi)
    · exact h.apart x hx

end

end Go.Proofs.Ytlmeponoadhheaa
