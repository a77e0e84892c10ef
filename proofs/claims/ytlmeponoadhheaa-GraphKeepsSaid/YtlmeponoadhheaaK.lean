/-
  What is kept: the plain words, and the memory.
-/
import Derived.Test.YtlmeponoadhheaaG6
import Derived.Test.YtlmeponoadhheaaMap3
namespace Go.Proofs.Ytlmeponoadhheaa
set_option linter.unusedVariables false
open Go.RowKit

/-- references to what is gone are 0 -/
def cutR (S : List Int) (l : List Int) : List Int := l.map (fun t => if t ∈ S then t else 0)

/-- .. the first i ones -/
def cutTo (S : List Int) (i : Nat) (l : List Int) : List Int := l.mapIdx (fun k t => if k < i then (if t ∈ S then t else 0) else t)

theorem cutTo_zero (S : List Int) (l : List Int) : cutTo S 0 l = l := by
  apply List.ext_getElem
  · simp [cutTo]
  · intro i h1 h2; simp [cutTo]

theorem cutTo_length (S : List Int) (i : Nat) (l : List Int) : (cutTo S i l).length = l.length := by simp [cutTo]

theorem cutTo_all (S : List Int) (l : List Int) : cutTo S l.length l = cutR S l := by
  apply List.ext_getElem
  · simp [cutTo, cutR]
  · intro i h1 h2
    have : i < l.length := by simpa [cutTo] using h1
    simp [cutTo, cutR, this]

theorem cutTo_get (S : List Int) (i : Nat) (l : List Int) (h : i < l.length) : (cutTo S i l).getD i 0 = l.getD i 0 := by
  simp [cutTo, List.getD_eq_getElem?_getD, h]

theorem cutTo_in (S : List Int) (i : Nat) (l : List Int) (h : i < l.length) (hm : l.getD i 0 ∈ S) : cutTo S (i + 1) l = cutTo S i l := by
  apply List.ext_getElem
  · simp [cutTo]
  · intro k h1 h2
    have hk : k < l.length := by simpa [cutTo] using h1
    simp only [cutTo, List.getElem_mapIdx]
    by_cases e : k = i
    · subst e
      have : l[k] ∈ S := by simpa [List.getD_eq_getElem?_getD, h] using hm
      simp [this]
    · by_cases e2 : k < i
      · rw [if_pos (by omega), if_pos e2]
      · rw [if_neg (by omega), if_neg e2]

theorem cutTo_out (S : List Int) (i : Nat) (l : List Int) (h : i < l.length) (hm : l.getD i 0 ∉ S) : cutTo S (i + 1) l = (cutTo S i l).set i 0 := by
  apply List.ext_getElem
  · simp [cutTo]
  · intro k h1 h2
    have hk : k < l.length := by simpa [cutTo] using h1
    rw [List.getElem_set]
    simp only [cutTo, List.getElem_mapIdx]
    by_cases e : i = k
    · subst e
      have : l[i] ∉ S := by simpa [List.getD_eq_getElem?_getD, h] using hm
      simp [this]
    · rw [if_neg e]
      by_cases e2 : k < i
      · rw [if_pos (by omega), if_pos e2]
      · rw [if_neg (by omega), if_neg e2]

/-- the nodes that are kept -/
def keepN (L : List GN) (ks : List Int) : List GN := L.filter (fun nd => decide (nd.id ∈ ks))

def cutN (S : List Int) (nd : GN) : GN := { nd with refs := cutR S nd.refs }

/-- a graph behind Keep -/
def keepL (L : List GN) (ks : List Int) : List GN := (keepN L ks).map (cutN (ids (keepN L ks)))

/-- nodes with other references -/
def setR (K : List GN) (R : Int → List Int) : List GN := K.map (fun nd => { nd with refs := R nd.id })

theorem setR_ids (K : List GN) (R : Int → List Int) : ids (setR K R) = ids K := by
  unfold ids setR; rw [List.map_map]; rfl

theorem setR_upd (K : List GN) (R : Int → List Int) (x : Int) (i : Nat) (y : Int) :
    upd (setR K R) x (fun nd => { nd with refs := nd.refs.set i y }) = setR K (updI R x ((R x).set i y)) := by
  unfold upd setR
  rw [List.map_map]
  apply List.map_congr_left
  intro nd _
  simp only [Function.comp]
  by_cases e : nd.id = x
  · rw [if_pos e, e, updI_same]
  · rw [if_neg e, updI_other _ _ _ e]

theorem setR_same {K : List GN} {R R' : Int → List Int} (h : ∀ nd ∈ K, R nd.id = R' nd.id) : setR K R = setR K R' := by
  unfold setR
  apply List.map_congr_left
  intro nd hnd
  rw [h nd hnd]

theorem keepN_rising {L : List GN} (h : Rising L) (ks : List Int) : Rising (keepN L ks) := List.Pairwise.filter _ h

theorem mem_keepN {L : List GN} {ks : List Int} {nd : GN} : nd ∈ keepN L ks ↔ nd ∈ L ∧ nd.id ∈ ks := by simp [keepN]

theorem keepN_ids {L : List GN} {ks : List Int} (k : Int) : k ∈ ids (keepN L ks) ↔ k ∈ ids L ∧ k ∈ ks := by
  unfold ids
  simp only [List.mem_map, mem_keepN]
  constructor
  · rintro ⟨x, ⟨h1, h2⟩, rfl⟩; exact ⟨⟨x, h1, rfl⟩, h2⟩
  · rintro ⟨⟨x, h1, rfl⟩, h2⟩; exact ⟨x, ⟨h1, h2⟩, rfl⟩

theorem rising_nodup {L : List GN} (h : Rising L) : (ids L).Nodup := by
  unfold ids List.Nodup
  rw [List.pairwise_map]
  exact List.Pairwise.imp (R := fun (a b : GN) => a.id < b.id) (fun {a b} q => (by omega : a.id ≠ b.id)) h

theorem IR.congr {w : World} {r b n : Nat} {f g : Int → Option Value} {left : Int → Bool} (h : IR w r b n f left) (e : ∀ k, f k = g k) : IR w r b n g left := by
  have : f = g := funext e
  rw [← this]; exact h

/-- fewer nodes -/
theorem GS.sub {w w' : World} {b : Nat} {O : Nat → Prop} {tv : Value} {L : List GN} {r n m : Nat} {pn : Int → Nat} {vr vd : Int → Value} {ow : Nat → Option Int} (h : GS w b O tv L r n pn vr vd ow) {ks : List Int}
    (c : Ch (fun k => k = r) w w') (hm : IM w' r m (gmap (keepN L ks) pn)) : GS w' b O tv (keepN L ks) r m pn vr vd ow where
  blk := c.keep h.blk h.b_ne_r
  ownB := h.ownB
  ownR := h.ownR
  small := fun k hk => Nat.lt_of_lt_of_le (h.small k hk) c.size
  map := hm
  node := fun nd hnd => (h.node nd (mem_keepN.1 hnd).1).keep c (fun k hk e => h.ne_r (mem_keepN.1 hnd).1 hk e)
  ownN := fun nd hnd => h.ownN nd (mem_keepN.1 hnd).1
  rise := keepN_rising h.rise ks

/-- the same nodes, other words for them -/
theorem GS.as {w : World} {b : Nat} {O : Nat → Prop} {tv : Value} {L L' : List GN} {r n : Nat} {pn : Int → Nat} {vr vd : Int → Value} {ow : Nat → Option Int} (h : GS w b O tv L r n pn vr vd ow) (e : L = L') : GS w b O tv L' r n pn vr vd ow := e ▸ h

end Go.Proofs.Ytlmeponoadhheaa
