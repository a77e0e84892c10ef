/-
  Plain laws of strength: what is reached within a level.
-/
import Derived.Test.YtlmeponoadhheaaReach
import Derived.Test.YtlmeponoadhheaaGl
namespace Go.Proofs.Ytlmeponoadhheaa
set_option linter.unusedVariables false

section
variable {cs : List Cls} {L : List GN}

theorem mem_closeL {lv : Int} {roots : List Int} {x : Int} : x ∈ closeL cs L lv roots ↔ Rch (ids L) (nextL cs L lv) (fun x => x ∈ startL L lv roots) x := mem_rchL

theorem closeL_ids {lv : Int} {roots : List Int} {x : Int} (h : x ∈ closeL cs L lv roots) : x ∈ ids L := (mem_closeL.1 h).inV

theorem goesB_mono {k a b : Int} (h : a ≤ b) (hg : goesB k a = true) : goesB k b = true := by
  unfold goesB at *
  simp at *
  omega

theorem nextL_mono {a b id y : Int} (h : a ≤ b) (hy : y ∈ nextL cs L a id) : y ∈ nextL cs L b id := by
  unfold nextL at *
  rcases List.mem_append.1 hy with q | q
  · exact List.mem_append.2 (.inl q)
  · refine List.mem_append.2 (.inr ?_)
    unfold aimTo at *
    split at q
    · rename_i e
      rw [if_pos ⟨e.1, goesB_mono h e.2⟩]; exact q
    · cases q

theorem startL_mono {a b x : Int} {r r' : List Int} (h : a ≤ b) (hr : ∀ x ∈ r, x ∈ ids L → x ∈ r') (hV : x ∈ ids L) (hx : x ∈ startL L a r) : x ∈ startL L b r' := by
  unfold startL at *
  rcases List.mem_append.1 hx with q | q
  · exact List.mem_append.2 (.inl (hr x q hV))
  · refine List.mem_append.2 (.inr ?_)
    by_cases e : 4 ≤ a
    · rw [if_pos e] at q
      rw [if_pos (by omega)]; exact q
    · rw [if_neg e] at q; cases q

theorem close_mono {a b : Int} {r r' : List Int} (h : a ≤ b) (hr : ∀ x ∈ r, x ∈ ids L → x ∈ r') {x : Int} (hx : x ∈ closeL cs L a r) : x ∈ closeL cs L b r' :=
  mem_closeL.2 ((mem_closeL.1 hx).mono (fun _ hx y hy hV => .step hx (nextL_mono h hy) hV) (fun _ hV hs => .root (startL_mono h hr hV hs) hV))

theorem close_same {a : Int} {r r' : List Int} (hr : ∀ x, x ∈ ids L → (x ∈ r ↔ x ∈ r')) : closeL cs L a r = closeL cs L a r' := by
  unfold closeL
  apply rchL_congr
  intro x
  have k1 := close_mono (cs := cs) (a := a) (b := a) (Int.le_refl _) (fun x h1 h2 => (hr x h2).1 h1) (x := x)
  have k2 := close_mono (cs := cs) (a := a) (b := a) (Int.le_refl _) (fun x h1 h2 => (hr x h2).2 h1) (x := x)
  rw [mem_closeL, mem_closeL] at k1 k2
  exact ⟨k1, k2⟩

theorem close_root {a x : Int} {r : List Int} (hx : x ∈ r) (hV : x ∈ ids L) : x ∈ closeL cs L a r :=
  mem_closeL.2 (.root (by unfold startL; simp [hx]) hV)

theorem close_next {a x y : Int} {r : List Int} (hx : x ∈ closeL cs L a r) (hy : y ∈ nextL cs L a x) (hV : y ∈ ids L) : y ∈ closeL cs L a r :=
  mem_closeL.2 (.step (mem_closeL.1 hx) hy hV)

theorem close_idem {a : Int} {r : List Int} : closeL cs L a (closeL cs L a r) = closeL cs L a r := by
  unfold closeL
  apply rchL_congr
  intro x
  constructor
  · intro h
    refine h.mono (fun _ hx y hy hV => .step hx hy hV) (fun y hV hs => ?_)
    unfold startL at hs
    rcases List.mem_append.1 hs with q | q
    · exact mem_rchL.1 q
    · exact .root (by unfold startL; exact List.mem_append.2 (.inr q)) hV
  · intro h
    exact .root (by unfold startL; exact List.mem_append.2 (.inl (mem_rchL.2 h))) h.inV

/-- why a node is reached -/
theorem close_why {a x : Int} {r : List Int} (h : x ∈ closeL cs L a r) : x ∈ r ∨ x ∈ finalsL L ∨ ∃ y ∈ closeL cs L a r, x ∈ gholds cs L y ∨ (gaim cs L y).1 = x := by
  cases mem_closeL.1 h with
  | root h1 h2 =>
    unfold startL at h1
    rcases List.mem_append.1 h1 with q | q
    · exact .inl q
    · split at q
      · exact .inr (.inl q)
      · cases q
  | step h1 h2 h3 =>
    rename_i y
    refine .inr (.inr ⟨y, mem_closeL.2 h1, ?_⟩)
    unfold nextL aimTo at h2
    rcases List.mem_append.1 h2 with q | q
    · exact .inl q
    · split at q
      · simp at q; exact .inr q.symm
      · cases q

theorem close_none {a : Int} (h : a < 4) : closeL cs L a [] = [] := by
  rw [List.eq_nil_iff_forall_not_mem]
  intro x hx
  have hr := mem_closeL.1 hx
  induction hr with
  | root h1 _ =>
    unfold startL at h1
    rw [if_neg (by omega)] at h1
    simp at h1
  | step h1 _ _ ih => exact ih (mem_closeL.2 h1)

/-! ### a node's strength -/

theorem ofL_range (id : Int) (r : List Int) : 0 ≤ ofL cs L id r ∧ ofL cs L id r ≤ 5 := by
  unfold ofL
  repeat' split
  all_goals omega

theorem ofL_in {id : Int} {r : List Int} (h : ofL cs L id r ≠ 0) : id ∈ closeL cs L (ofL cs L id r) r := by
  unfold ofL at *
  by_cases h1 : id ∈ closeL cs L 1 r
  · rw [if_pos h1]; exact h1
  rw [if_neg h1] at h ⊢
  by_cases h2 : id ∈ closeL cs L 2 r
  · rw [if_pos h2]; exact h2
  rw [if_neg h2] at h ⊢
  by_cases h3 : id ∈ closeL cs L 3 r
  · rw [if_pos h3]; exact h3
  rw [if_neg h3] at h ⊢
  by_cases h4 : id ∈ closeL cs L 4 r
  · rw [if_pos h4]; exact h4
  rw [if_neg h4] at h ⊢
  by_cases h5 : id ∈ closeL cs L 5 r
  · rw [if_pos h5]; exact h5
  rw [if_neg h5] at h
  exact absurd rfl h

theorem ofL_le {id k : Int} {r : List Int} (h1 : 1 ≤ k) (h5 : k ≤ 5) (h : id ∈ closeL cs L k r) : ofL cs L id r ≠ 0 ∧ ofL cs L id r ≤ k := by
  unfold ofL
  by_cases e1 : id ∈ closeL cs L 1 r
  · rw [if_pos e1]; omega
  rw [if_neg e1]
  by_cases e2 : id ∈ closeL cs L 2 r
  · rw [if_pos e2]
    have : k ≠ 1 := fun q => e1 (q ▸ h)
    omega
  rw [if_neg e2]
  by_cases e3 : id ∈ closeL cs L 3 r
  · rw [if_pos e3]
    have : k ≠ 1 := fun q => e1 (q ▸ h)
    have : k ≠ 2 := fun q => e2 (q ▸ h)
    omega
  rw [if_neg e3]
  by_cases e4 : id ∈ closeL cs L 4 r
  · rw [if_pos e4]
    have : k ≠ 1 := fun q => e1 (q ▸ h)
    have : k ≠ 2 := fun q => e2 (q ▸ h)
    have : k ≠ 3 := fun q => e3 (q ▸ h)
    omega
  rw [if_neg e4]
  by_cases e5 : id ∈ closeL cs L 5 r
  · rw [if_pos e5]
    have : k ≠ 1 := fun q => e1 (q ▸ h)
    have : k ≠ 2 := fun q => e2 (q ▸ h)
    have : k ≠ 3 := fun q => e3 (q ▸ h)
    have : k ≠ 4 := fun q => e4 (q ▸ h)
    omega
  · exfalso
    rcases (show k = 1 ∨ k = 2 ∨ k = 3 ∨ k = 4 ∨ k = 5 by omega) with q | q | q | q | q
    · exact e1 (q ▸ h)
    · exact e2 (q ▸ h)
    · exact e3 (q ▸ h)
    · exact e4 (q ▸ h)
    · exact e5 (q ▸ h)

/-- what is at least as strong -/
def stronger (x y : Int) : Prop := x ≠ 0 → y ≠ 0 ∧ y ≤ x

theorem ofL_more {id : Int} {r r' : List Int} (hr : ∀ x ∈ r, x ∈ r') : stronger (ofL cs L id r) (ofL cs L id r') := by
  intro h
  have h1 := ofL_range (cs := cs) (L := L) id r
  exact ofL_le (by omega) (by omega) (close_mono (Int.le_refl _) (fun x hx _ => hr x hx) (ofL_in h))

theorem held_in {nd : GN} {t : Int} (h : t ∈ held cs nd) : t ≠ 0 ∧ t ∈ nd.refs := by
  unfold held heldTo at h
  obtain ⟨i, hi, h⟩ := List.mem_flatMap.1 h
  split at h
  · rename_i e
    obtain rfl := List.mem_singleton.1 h
    refine ⟨e.1, ?_⟩
    have hi' : i < nd.refs.length := List.mem_range.1 hi
    rw [List.getD_eq_getElem?_getD, List.getElem?_eq_getElem hi']
    exact List.getElem_mem hi'
  · cases h

theorem gholds_in (hi : RefsIn L) {id t : Int} (h : t ∈ gholds cs L id) : t ∈ ids L := by
  unfold gholds at h
  split at h
  · cases h
  · rename_i nd hat
    obtain ⟨h1, h2⟩ := held_in h
    rcases hi nd (gat_mem hat).1 t h2 with q | q
    · exact absurd q h1
    · exact q

theorem ofL_held (hi : RefsIn L) {id t : Int} {r : List Int} (ht : t ∈ gholds cs L id) : stronger (ofL cs L id r) (ofL cs L t r) := by
  intro h
  have h1 := ofL_range (cs := cs) (L := L) id r
  exact ofL_le (by omega) (by omega) (close_next (ofL_in h) (by unfold nextL; exact List.mem_append.2 (.inl ht)) (gholds_in hi ht))

/-- where a node may aim: to a node, or nowhere; and its kind -/
theorem gaim_in (hr : allRight cs = true) (hw : ∀ nd ∈ L, WfN cs nd) (hi : RefsIn L) (id : Int) : ((gaim cs L id).1 = 0 ∧ (gaim cs L id).2 = 0) ∨ (((gaim cs L id).1 = 0 ∨ (gaim cs L id).1 ∈ ids L) ∧ ((gaim cs L id).2 = 3 ∨ (gaim cs L id).2 = 4 ∨ (gaim cs L id).2 = 5)) := by
  cases hat : gat L id with
  | none => left; unfold gaim; rw [hat]; exact ⟨rfl, rfl⟩
  | some nd =>
    obtain ⟨hnd, rfl⟩ := gat_mem hat
    have hw1 := hw nd hnd
    cases hB : holdsC cs nd.cls 0 with
    | true => left; unfold gaim; rw [hat]; simp [hB]
    | false =>
      right
      have e0 : gaim cs L nd.id = (nd.refs.getD 0 0, kindOf cs nd.cls) := by unfold gaim; rw [hat]; simp [hB]
      rw [e0]
      have h1 := hw1.c1
      have h2 := hw1.c2
      have hlt : (nd.cls - 1).toNat < cs.length := by omega
      have hkd : kindOf cs nd.cls = (cs[(nd.cls - 1).toNat]'hlt).kind := by unfold kindOf; rw [List.getD_eq_getElem?_getD, List.getElem?_eq_getElem hlt]; rfl
      have hright := allRight_get hr (nd.cls - 1).toNat hlt
      refine ⟨hi nd hnd _ ?_, ?_⟩
      · have := hw1.aim hB
        rw [List.getD_eq_getElem?_getD, List.getElem?_eq_getElem (by omega)]
        exact List.getElem_mem _
      · simp only
        rw [hkd]
        have hh : holdsC cs nd.cls 0 = holds1 (cs[(nd.cls - 1).toNat]'hlt) 0 := by unfold holdsC; rw [dif_pos ⟨h1, h2⟩]
        rw [hh] at hB
        generalize (cs[(nd.cls - 1).toNat]'hlt) = C at *
        rcases hright with ⟨e, _⟩ | ⟨e, _⟩ | ⟨e, _⟩
        · unfold holds1 at hB; simp [e] at hB
        · unfold holds1 at hB; simp [e] at hB
        · exact e

/-- the level of a kind -/
def kindLevel (k : Int) : Int := if k = 3 then 2 else if k = 4 then 3 else if k = 5 then 5 else 0

theorem ofL_aim {id : Int} {r : List Int} (hk : (gaim cs L id).2 = 3 ∨ (gaim cs L id).2 = 4 ∨ (gaim cs L id).2 = 5) (ht : (gaim cs L id).1 ≠ 0) (htI : (gaim cs L id).1 ∈ ids L) (hx : ofL cs L id r ≠ 0) (hl : ofL cs L id r ≤ kindLevel (gaim cs L id).2) :
    ofL cs L (gaim cs L id).1 r ≠ 0 ∧ ofL cs L (gaim cs L id).1 r ≤ kindLevel (gaim cs L id).2 := by
  have h1 := close_mono (b := kindLevel (gaim cs L id).2) hl (fun x hx _ => hx) (ofL_in hx)
  have hlv : 1 ≤ kindLevel (gaim cs L id).2 ∧ kindLevel (gaim cs L id).2 ≤ 5 ∧ goesB (gaim cs L id).2 (kindLevel (gaim cs L id).2) = true := by
    rcases hk with q | q | q <;> rw [q] <;> decide
  refine ofL_le hlv.1 hlv.2.1 (close_next h1 ?_ htI)
  unfold nextL aimTo
  rw [if_pos ⟨ht, hlv.2.2⟩]
  simp

/-- without reference nodes, and without nodes to be finalized, nothing is reached but strongly -/
theorem ofL_plain {id : Int} {r : List Int} (hk : ∀ x ∈ ids L, (gaim cs L x).2 = 0) (hf : finalsL L = []) : ofL cs L id r = 1 ∨ ofL cs L id r = 0 := by
  by_cases h : ofL cs L id r = 0
  · exact .inr h
  · left
    have h1 := ofL_range (cs := cs) (L := L) id r
    have h2 := ofL_in h
    have h3 : id ∈ closeL cs L 1 r := by
      refine mem_closeL.2 ((mem_closeL.1 h2).mono (fun x hx y hy hV => .step hx ?_ hV) (fun x hV hs => .root ?_ hV))
      · have hxI := hx.inV
        unfold nextL aimTo at hy ⊢
        have : goesB (gaim cs L x).2 (ofL cs L id r) = false := by rw [hk x hxI]; rfl
        rw [this] at hy
        rw [if_neg (by simp)] at hy
        exact List.mem_append.2 (.inl (by simpa using hy))
      · unfold startL at hs ⊢
        rw [hf] at hs
        simp at hs
        simp [hs]
    have := ofL_le (by omega) (by omega) h3
    omega

end

end Go.Proofs.Ytlmeponoadhheaa
