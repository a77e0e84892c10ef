/-
  A node that is added: the plain words, and the memory.
-/
import Derived.Test.YtlmeponoadhheaaG5
namespace Go.Proofs.Ytlmeponoadhheaa
set_option linter.unusedVariables false
open Go.RowKit

/-- a node among others, their names rising -/
def ins (nd : GN) : List GN → List GN
  | [] => [nd]
  | a :: l => if a.id < nd.id then a :: ins nd l else nd :: a :: l

theorem mem_ins {nd x : GN} {L : List GN} : x ∈ ins nd L ↔ x = nd ∨ x ∈ L := by
  induction L with
  | nil => simp [ins]
  | cons a l ih =>
    unfold ins
    split
    · rw [List.mem_cons, ih, List.mem_cons]
      constructor
      · rintro (h | h | h)
        · exact .inr (.inl h)
        · exact .inl h
        · exact .inr (.inr h)
      · rintro (h | h | h)
        · exact .inr (.inl h)
        · exact .inl h
        · exact .inr (.inr h)
    · simp

theorem ins_ids {nd : GN} {L : List GN} (k : Int) : k ∈ ids (ins nd L) ↔ k = nd.id ∨ k ∈ ids L := by
  unfold ids
  simp only [List.mem_map, mem_ins]
  constructor
  · rintro ⟨x, h | h, rfl⟩
    · subst h; exact .inl rfl
    · exact .inr ⟨x, h, rfl⟩
  · rintro (h | ⟨x, h, rfl⟩)
    · exact ⟨nd, .inl rfl, h.symm⟩
    · exact ⟨x, .inr h, rfl⟩

theorem ins_rising {nd : GN} {L : List GN} (h : Rising L) (hn : nd.id ∉ ids L) : Rising (ins nd L) := by
  unfold Rising at *
  induction L with
  | nil => simp [ins]
  | cons a l ih =>
    have hne : a.id ≠ nd.id := fun e => hn (by simp [ids, e])
    have hnl : nd.id ∉ ids l := fun e => hn (by simp only [ids, List.map_cons, List.mem_cons] at e ⊢; exact .inr e)
    rw [List.pairwise_cons] at h
    unfold ins
    split
    · rename_i hlt
      rw [List.pairwise_cons]
      refine ⟨fun x hx => ?_, ih h.2 hnl⟩
      rcases mem_ins.1 hx with rfl | hx
      · exact hlt
      · exact h.1 x hx
    · rename_i hlt
      rw [List.pairwise_cons, List.pairwise_cons]
      refine ⟨fun x hx => ?_, h.1, h.2⟩
      rcases List.mem_cons.1 hx with rfl | hx
      · omega
      · have := h.1 x hx; omega

/-- names beyond all others come last -/
theorem ins_last {nd : GN} {L : List GN} (h : ∀ x ∈ L, x.id < nd.id) : ins nd L = L ++ [nd] := by
  induction L with
  | nil => rfl
  | cons a l ih =>
    unfold ins
    rw [if_pos (h a (by simp)), ih (fun x hx => h x (by simp [hx]))]
    rfl

def finalOf (cs : List Cls) (n : Int) : Bool := (cs.getD (n - 1).toNat Cls.none).final

def newNode (cs : List Cls) (id cls len : Int) : GN := ⟨id, cls, List.replicate (shapeC cs cls len).1.toNat 0, List.replicate (shapeC cs cls len).2.1.toNat 0, finalOf cs cls⟩

def addE (cs : List Cls) (L : List GN) (id cls len : Int) : Int :=
  if (shapeC cs cls len).2.2 ≠ 0 then (shapeC cs cls len).2.2 else if id < 1 ∨ id ∈ ids L then 1 else 0

def addL (cs : List Cls) (L : List GN) (id cls len : Int) : List GN := if addE cs L id cls len = 0 then ins (newNode cs id cls len) L else L

theorem addE_zero {cs : List Cls} {L : List GN} {id cls len : Int} (h : addE cs L id cls len = 0) : (shapeC cs cls len).2.2 = 0 ∧ 1 ≤ id ∧ id ∉ ids L := by
  unfold addE at h
  by_cases h1 : (shapeC cs cls len).2.2 ≠ 0
  · rw [if_pos h1] at h; exact absurd h h1
  · rw [if_neg h1] at h
    by_cases h2 : id < 1 ∨ id ∈ ids L
    · rw [if_pos h2] at h; omega
    · exact ⟨by omega, by omega, fun e => h2 (.inr e)⟩

theorem shapeC_cls {cs : List Cls} {n l : Int} (h : (shapeC cs n l).2.2 = 0) : 1 ≤ n ∧ n ≤ cs.length := by
  unfold shapeC at h
  by_cases hn : 1 ≤ n ∧ n ≤ cs.length
  · exact hn
  · rw [dif_neg hn] at h; simp at h

theorem newNode_wf {lo hi p : Nat} {cs : List Cls} {w : World} (ht : Tab lo hi w p cs) {id cls len : Int} (h : (shapeC cs cls len).2.2 = 0) (hid : 1 ≤ id) (him : id ≤ 9223372036854775807) : WfN cs (newNode cs id cls len) := by
  obtain ⟨b1, b2, b3, b4⟩ := shapeC_bounds ht cls len h
  obtain ⟨c1, c2⟩ := shapeC_cls h
  refine ⟨c1, c2, ?_, ?_, ?_, hid, him⟩
  · simp [newNode]; omega
  · simp [newNode]; omega
  · intro hh
    have hr := allRight_get ht.right (cls - 1).toNat (by omega)
    replace hh : holdsC cs cls 0 = false := hh
    unfold holdsC at hh
    rw [dif_pos ⟨c1, c2⟩] at hh
    unfold shapeC shape1 at h
    rw [dif_pos ⟨c1, c2⟩] at h
    simp only [newNode, List.length_replicate]
    unfold shapeC shape1
    rw [dif_pos ⟨c1, c2⟩]
    generalize cs[(cls - 1).toNat]'(by omega) = c at *
    unfold holds1 at hh
    simp at hh
    by_cases e1 : len < 0 ∨ 0 < len ∧ c.kind ≠ 2
    · rw [if_pos e1] at h; simp at h
    · rw [if_neg e1] at h ⊢
      by_cases e2 : 30 < len
      · rw [if_pos e2] at h; simp at h
      · rw [if_neg e2]
        rcases hr with ⟨k, _⟩ | ⟨k, _⟩ | ⟨_, _, k, _⟩
        · exact absurd k hh.1
        · exact absurd k hh.2
        · dsimp only; omega

theorem addL_wf {lo hi p : Nat} {cs : List Cls} {w : World} {L : List GN} (ht : Tab lo hi w p cs) (hw : ∀ nd ∈ L, WfN cs nd) (id cls len : Int) (him : id ≤ 9223372036854775807) : ∀ nd ∈ addL cs L id cls len, WfN cs nd := by
  intro nd hnd
  unfold addL at hnd
  split at hnd
  · rename_i e
    obtain ⟨h1, h2, h3⟩ := addE_zero e
    rcases mem_ins.1 hnd with rfl | h
    · exact newNode_wf ht h1 h2 him
    · exact hw nd h
  · exact hw nd hnd

/-- a function with one value other, at an integer -/
def updI {α : Type} (f : Int → α) (i : Int) (x : α) : Int → α := fun k => if k = i then x else f k
theorem updI_same {α : Type} (f : Int → α) (i : Int) (x : α) : updI f i x i = x := if_pos rfl
theorem updI_other {α : Type} (f : Int → α) (i : Int) (x : α) {k : Int} (h : k ≠ i) : updI f i x k = f k := if_neg h

/-- The graph behind an Add: the new node lies in blocks that are new; the map has got its name. -/
theorem GS.add {w w' : World} {b : Nat} {O : Nat → Prop} {tv : Value} {L : List GN} {r n n' : Nat} {pn : Int → Nat} {vr vd : Int → Value} {ow : Nat → Option Int} (h : GS w b O tv L r n pn vr vd ow)
    {nd : GN} {P : Nat} {Vr Vd : Value} (hid : nd.id ∉ ids L) (c : Ch (fun k => k = r) w w') (hN : NodeAt w' P nd Vr Vd) (hf : ∀ k, nblk P Vr Vd k → w.heap.size ≤ k)
    (hm : IM w' r n' (iput (gmap L pn) nd.id (.pointer (some ⟨P, 0, none⟩)))) :
    Gr w' b (fun k => O k ∨ (w.heap.size ≤ k ∧ k < w'.heap.size)) tv (ins nd L) ∧ Turn w w' O (fun k => O k ∨ (w.heap.size ≤ k ∧ k < w'.heap.size)) := by
  have hsz := c.size
  have hne : ∀ x ∈ L, x.id ≠ nd.id := fun x hx e => hid (List.mem_map.2 ⟨x, hx, e⟩)
  refine ⟨⟨r, n', updI pn nd.id P, updI vr nd.id Vr, updI vd nd.id Vd, fun k => if w.heap.size ≤ k then some nd.id else ow k, c.keep h.blk h.b_ne_r, .inl h.ownB, .inl h.ownR, ?_, ?_, ?_, ?_, ins_rising h.rise hid⟩, c.mono (fun k _ e => by rw [e]; exact h.ownR), ?_⟩
  · rintro k (hk | hk)
    · have := h.small k hk; omega
    · exact hk.2
  · refine hm.congr (fun k => ?_) rfl
    unfold gmap iput
    by_cases e : k = nd.id
    · rw [if_pos e, if_pos ((ins_ids k).2 (.inl e)), e, updI_same]
    · rw [if_neg e, updI_other _ _ _ e]
      show (if k ∈ ids L then _ else _) = _
      by_cases e2 : k ∈ ids L
      · rw [if_pos e2, if_pos ((ins_ids k).2 (.inr e2))]
      · rw [if_neg e2, if_neg (fun h => ((ins_ids k).1 h).elim e e2)]
  · intro x hx
    rcases mem_ins.1 hx with rfl | hx
    · rw [updI_same, updI_same, updI_same]; exact hN
    · rw [updI_other _ _ _ (hne x hx), updI_other _ _ _ (hne x hx), updI_other _ _ _ (hne x hx)]
      exact (h.node x hx).keep c (fun k hk e => h.ne_r hx hk e)
  · intro x hx k hk
    rcases mem_ins.1 hx with rfl | hx
    · rw [updI_same, updI_same, updI_same] at hk
      have h1 := hf k hk
      exact ⟨.inr ⟨h1, hN.lt hk⟩, if_pos h1⟩
    · rw [updI_other _ _ _ (hne x hx), updI_other _ _ _ (hne x hx), updI_other _ _ _ (hne x hx)] at hk
      have h1 := h.ownN x hx k hk
      have h2 := h.small k h1.1
      exact ⟨.inl h1.1, by rw [if_neg (by omega)]; exact h1.2⟩
  · rintro k (hk | hk)
    · exact .inl hk
    · exact .inr hk.1

/-- make, of so many integers -/
theorem make_ints (w : World) (n : Nat) (hn : n ≤ 1000000) :
    (Instr.makeSlice 34 (.int .i64 (n : Int)) (.int .i64 (n : Int))).run Try.prog w = .ok (.slice (some ⟨w.heap.size, 0, none⟩) n n) (w.alloc (.cells (ints (List.replicate n 0)) 3)) := by
  obtain ⟨i0, hi, hz0, hz1, hz2⟩ := info_parts Try.info3
  have := run_make (P := Try.prog) w 34 3 i0 _ Try.underlying34 hi hz0 .i64 .i64 n n (by omega) (by omega) (by rw [hz2]; omega) (by omega)
  simp only [hz1, Int.toNat_natCast, Nat.mul_one, madeCells_zero] at this
  exact this

end Go.Proofs.Ytlmeponoadhheaa
