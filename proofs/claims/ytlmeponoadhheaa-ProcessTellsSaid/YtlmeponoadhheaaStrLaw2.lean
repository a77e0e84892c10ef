/-
  Plain laws of strength, once more: passes over all references; a greater level; roots.
-/
import Derived.Test.YtlmeponoadhheaaMade0
namespace Go.Proofs.Ytlmeponoadhheaa
set_option linter.unusedVariables false

section
variable {cs : List Cls} {L : List GN}

theorem within_up {lv : Int} {r : List Int} {x : Int} (h : x ∈ withinL cs L lv r) : x ∈ withinL cs L (lv + 1) r := by
  unfold withinL at *
  by_cases e : lv < 1
  · rw [if_pos e] at h; cases h
  · rw [if_neg e] at h
    rw [if_neg (by omega)]
    exact close_mono (by omega) (fun x hx _ => hx) h

theorem within_same {lv : Int} {r r' : List Int} (hr : ∀ x, x ∈ r ↔ x ∈ r') : withinL cs L lv r = withinL cs L lv r' := by
  unfold withinL
  rw [close_same (r := r) (r' := r') (fun x _ => hr x)]

theorem within_idem {lv : Int} {r : List Int} (h : 1 ≤ lv) : withinL cs L lv (withinL cs L lv r) = withinL cs L lv r := by
  unfold withinL
  rw [if_neg (by omega), if_neg (by omega)]
  exact close_idem

theorem within_len {lv : Int} {r : List Int} : (withinL cs L lv r).length ≤ L.length := by
  unfold withinL
  split
  · simp
  · have := rchL_len (V := ids L) (nx := nextL cs L lv) (S := fun x => x ∈ startL L lv r)
    simpa [closeL, ids] using this

theorem within_in {lv : Int} {r : List Int} {x : Int} (h : x ∈ withinL cs L lv r) : x ∈ closeL cs L lv r := by
  unfold withinL at h
  split at h
  · cases h
  · exact h

theorem within_none {lv : Int} (h : lv < 4) : withinL cs L lv [] = [] := by
  unfold withinL
  split
  · rfl
  · exact close_none h

theorem ofL_root {id : Int} {r : List Int} (h : id ∈ r) (hi : id ∈ ids L) : ofL cs L id r = 1 := by
  have h1 := ofL_le (cs := cs) (k := 1) (by omega) (by omega) (close_root h hi)
  have h2 := ofL_range (cs := cs) (L := L) id r
  omega

theorem next_refs {lv x y : Int} (h : y ∈ nextL cs L lv x) : ∃ nd, gat L x = some nd ∧ y ∈ nd.refs := by
  unfold nextL at h
  rcases List.mem_append.1 h with q | q
  · unfold gholds at q
    split at q
    · cases q
    · rename_i nd hat
      exact ⟨nd, hat, (held_in q).2⟩
  · unfold aimTo at q
    split at q
    · rename_i e
      rw [List.mem_singleton.1 q]
      unfold gaim at e ⊢
      cases hat : gat L x with
      | none => rw [hat] at e; simp at e
      | some nd =>
        rw [hat] at e
        simp only at e ⊢
        refine ⟨nd, rfl, ?_⟩
        by_cases hb : holdsC cs nd.cls 0 = true
        · rw [if_pos hb] at e; simp at e
        · rw [if_neg hb] at e ⊢
          simp only at e ⊢
          cases hr : nd.refs with
          | nil => rw [hr] at e; simp at e
          | cons a l => simp
    · cases q

/-- how many nodes are told -/
def inCount (L : List GN) (S : List Int) : Nat := ((ids L).filter (fun x => decide (x ∈ S))).length

/-- behind p passes: all is told, or p nodes are -/
def Passed (cs : List Cls) (L : List GN) (r : List Int) (p : Nat) (S : List Int) : Prop := (∀ x ∈ closeL cs L 5 r, x ∈ S) ∨ p ≤ inCount L S

theorem passed_next (hr : Rising L) {r : List Int} {p : Nat} {S T : List Int} (h : Passed cs L r p S) (hs : ∀ x ∈ startL L 5 r, x ∈ S) (h1 : ∀ x ∈ S, x ∈ T) (h2 : ∀ nd ∈ L, nd.id ∈ S → ∀ t ∈ nd.refs, t ∈ T) : Passed cs L r (p + 1) T := by
  rcases h with h | h
  · exact .inl (fun x hx => h1 x (h x hx))
  by_cases hc : ∀ x ∈ ids L, x ∈ T → x ∈ S
  · left
    intro x hx
    have hrch := mem_closeL.1 hx
    suffices hS : x ∈ S from h1 x hS
    clear hx
    induction hrch with
    | root a _ => exact hs _ a
    | step a c d ih =>
      obtain ⟨nd, hat, hy⟩ := next_refs c
      obtain ⟨hnd, e⟩ := gat_mem hat
      exact hc _ d (h2 nd hnd (by rw [e]; exact ih) _ hy)
  · right
    obtain ⟨x, hx⟩ := Classical.not_forall.1 hc
    obtain ⟨hx, hq⟩ := Classical.not_imp.1 hx
    obtain ⟨hT, hS⟩ := Classical.not_imp.1 hq
    have hn : (ids L).Nodup := (rising_ids hr).imp (fun q => by omega)
    have := nodup_len (s := x :: (ids L).filter (fun x => decide (x ∈ S))) (V := (ids L).filter (fun x => decide (x ∈ T))) (by
      rw [List.nodup_cons]
      exact ⟨fun q => hS (by simpa using (List.mem_filter.1 q).2), hn.filter _⟩) (by
      intro y hy
      rcases List.mem_cons.1 hy with q | q
      · rw [q]; exact List.mem_filter.2 ⟨hx, by simpa using hT⟩
      · obtain ⟨q1, q2⟩ := List.mem_filter.1 q
        exact List.mem_filter.2 ⟨q1, by simpa using h1 y (by simpa using q2)⟩)
    rw [List.length_cons] at this
    unfold inCount at *
    omega

theorem passed_end {r : List Int} {S : List Int} (h : Passed cs L r L.length S) : ∀ x ∈ closeL cs L 5 r, x ∈ S := by
  rcases h with h | h
  · exact h
  · intro x hx
    have hi := closeL_ids hx
    unfold inCount at h
    have hl : (ids L).length = L.length := by simp [ids]
    have h1 := List.length_filter_le (fun x => decide (x ∈ S)) (ids L)
    have h2 : (ids L).filter (fun x => decide (x ∈ S)) = ids L := List.filter_sublist.eq_of_length (by omega)
    have h3 := h2 ▸ hi
    rw [← h2] at hi
    simpa using (List.mem_filter.1 hi).2

theorem ofL_apart {id : Int} {r S : List Int} (h : ∀ x ∈ closeL cs L 5 r, x ∈ S) (hi : id ∉ S) : ofL cs L id r = 0 := by
  refine Classical.byContradiction (fun e => hi (h id ?_))
  have h1 := ofL_range (cs := cs) (L := L) id r
  exact close_mono h1.2 (fun x hx _ => hx) (ofL_in e)

end

end Go.Proofs.Ytlmeponoadhheaa
