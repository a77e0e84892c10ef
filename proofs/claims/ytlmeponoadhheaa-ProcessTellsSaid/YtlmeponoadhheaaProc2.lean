/-
  What becomes of references when nodes go: a graph behind it; plain.
-/
import Derived.Test.YtlmeponoadhheaaProc
namespace Go.Proofs.Ytlmeponoadhheaa
set_option linter.unusedVariables false

/-- a node's kind, if it has an aim -/
def kndN (cs : List Cls) (nd : GN) : Int := if holdsC cs nd.cls 0 = true then 0 else kindOf cs nd.cls

def clr1 (cs : List Cls) (L : List GN) (id : Int) : List GN := if (gaim cs L id).2 ≠ 0 then setRefL L id 0 0 else L

def clearTo (cs : List Cls) (L : List GN) (C : List Int) : Nat → List GN
  | 0 => L
  | j + 1 => clr1 cs (clearTo cs L C j) (C.getD j 0)

def doneTo (L : List GN) (F : List Int) : Nat → List GN
  | 0 => L
  | j + 1 => doneL (doneTo L F j) (F.getD j 0)

def cutG (cs : List Cls) (C : List Int) (nd : GN) : GN := { nd with refs := if nd.id ∈ C ∧ kndN cs nd ≠ 0 then nd.refs.set 0 0 else nd.refs }

def doneG (F : List Int) (nd : GN) : GN := { nd with fin := nd.fin && !decide (nd.id ∈ F) }

def applyL (cs : List Cls) (L : List GN) (C F live : List Int) : List GN := keepL (doneTo (clearTo cs L C C.length) F F.length) live

theorem gaim_kind {cs : List Cls} {L : List GN} {id : Int} {nd : GN} (h : gat L id = some nd) : (gaim cs L id).2 = kndN cs nd := by
  unfold gaim kndN
  rw [h]
  simp only
  split <;> rfl

theorem gat_map {L : List GN} {g : GN → GN} (hg : ∀ nd, (g nd).id = nd.id) (id : Int) : gat (L.map g) id = (gat L id).map g := by
  unfold gat
  rw [List.find?_map]
  congr 2
  funext nd
  simp [hg nd]

theorem gat_at {L : List GN} (hr : Rising L) {nd : GN} (h : nd ∈ L) : gat L nd.id = some nd := by
  cases hat : gat L nd.id with
  | none => exact absurd (mem_ids.2 ⟨nd, h, rfl⟩) (gat_none hat)
  | some x =>
    obtain ⟨hx, e⟩ := gat_mem hat
    rw [hr.inj hx h e]

section
variable {cs : List Cls} {L : List GN}

theorem clr1_map (hr : Rising L) (hw : ∀ nd ∈ L, WfN cs nd) (S : List Int) (x : Int) : clr1 cs (L.map (cutG cs S)) x = L.map (cutG cs (S ++ [x])) := by
  have hat := gat_map (L := L) (g := cutG cs S) (fun _ => rfl) x
  unfold clr1
  cases h0 : gat L x with
  | none =>
    rw [h0] at hat
    have hx := gat_none h0
    rw [show (gaim cs (L.map (cutG cs S)) x).2 = 0 by unfold gaim; rw [hat]; rfl, if_neg (by simp)]
    apply List.map_congr_left
    intro nd hnd
    have : nd.id ≠ x := fun e => hx (mem_ids.2 ⟨nd, hnd, e⟩)
    unfold cutG
    simp [this]
  | some nd0 =>
    rw [h0, Option.map_some] at hat
    obtain ⟨hnd0, hid0⟩ := gat_mem h0
    have hk : (gaim cs (L.map (cutG cs S)) x).2 = kndN cs nd0 := (gaim_kind hat).trans rfl
    rw [hk]
    by_cases hz : kndN cs nd0 = 0
    · rw [if_neg (by simp [hz])]
      apply List.map_congr_left
      intro nd hnd
      by_cases e : nd.id = x
      · have : nd = nd0 := hr.inj hnd hnd0 (by rw [e, hid0])
        subst this
        unfold cutG
        simp [hz]
      · unfold cutG
        simp [e]
    · rw [if_pos hz]
      have hlen : 1 ≤ (cutG cs S nd0).refs.length := by
        have hh : holdsC cs nd0.cls 0 = false := by
          unfold kndN at hz
          by_cases q : holdsC cs nd0.cls 0 = true
          · rw [if_pos q] at hz; exact absurd rfl hz
          · simpa using q
        have := (hw nd0 hnd0).aim hh
        unfold cutG
        split <;> simp <;> omega
      have hE : setRefE (L.map (cutG cs S)) x 0 0 = 0 := by
        unfold setRefE
        rw [hat]
        simp only
        rw [if_pos ⟨by omega, by omega⟩, if_neg (by simp)]
      unfold setRefL
      rw [if_pos hE]
      unfold upd
      rw [List.map_map]
      apply List.map_congr_left
      intro nd hnd
      simp only [Function.comp]
      by_cases e : nd.id = x
      · have : nd = nd0 := hr.inj hnd hnd0 (by rw [e, hid0])
        subst this
        rw [if_pos (show (cutG cs S nd).id = x from e)]
        unfold cutG
        simp only [Int.toNat_zero]
        rw [if_pos (show nd.id ∈ S ++ [x] ∧ kndN cs nd ≠ 0 from ⟨by simp [e], hz⟩)]
        split
        · rw [List.set_set]
        · rfl
      · rw [if_neg (show ¬ (cutG cs S nd).id = x from e)]
        unfold cutG
        simp [e]

theorem take_snocI (C : List Int) {j : Nat} (hj : j < C.length) : C.take (j + 1) = C.take j ++ [C.getD j 0] := by
  rw [List.take_add_one]
  simp [List.getD, List.getElem?_eq_getElem hj]

theorem clearTo_eq (hr : Rising L) (hw : ∀ nd ∈ L, WfN cs nd) (C : List Int) (j : Nat) (hj : j ≤ C.length) : clearTo cs L C j = L.map (cutG cs (C.take j)) := by
  induction j with
  | zero =>
    show L = _
    have : ∀ nd ∈ L, cutG cs (C.take 0) nd = nd := fun nd _ => by unfold cutG; simp
    rw [List.map_congr_left this, List.map_id']
  | succ j ih =>
    show clr1 cs _ _ = _
    rw [ih (by omega), clr1_map hr hw, take_snocI C (by omega)]

theorem doneTo_eq (F : List Int) (j : Nat) (hj : j ≤ F.length) : doneTo L F j = L.map (doneG (F.take j)) := by
  induction j with
  | zero =>
    show L = _
    have : ∀ nd ∈ L, doneG (F.take 0) nd = nd := fun nd _ => by unfold doneG; simp
    rw [List.map_congr_left this, List.map_id']
  | succ j ih =>
    show doneL _ _ = _
    rw [ih (by omega), take_snocI F (by omega)]
    generalize F.getD j 0 = x
    unfold doneL upd
    rw [List.map_map]
    apply List.map_congr_left
    intro nd _
    simp only [Function.comp]
    by_cases e : nd.id = x
    · rw [if_pos (show (doneG (F.take j) nd).id = x from e)]
      unfold doneG
      simp [e]
    · rw [if_neg (show ¬ (doneG (F.take j) nd).id = x from e)]
      unfold doneG
      simp [e]

theorem clr1_wf (hw : ∀ nd ∈ L, WfN cs nd) (x : Int) : ∀ nd ∈ clr1 cs L x, WfN cs nd := by
  unfold clr1
  split
  · exact setRefL_wf hw x 0 0
  · exact hw

theorem applyL_eq (hr : Rising L) (hw : ∀ nd ∈ L, WfN cs nd) (C F live : List Int) : applyL cs L C F live = keepL (L.map (fun nd => doneG F (cutG cs C nd))) live := by
  unfold applyL
  rw [clearTo_eq hr hw C _ (Nat.le_refl _), doneTo_eq F _ (Nat.le_refl _), List.take_length, List.take_length, List.map_map]
  rfl

/-- references of what stays, behind clearing: to what stays, or nowhere -/
theorem stay_refs (hr : Rising L) (hal : allRight cs = true) (hw : ∀ nd ∈ L, WfN cs nd) (hi : RefsIn L) {t C : List Int} (ht : ∀ x ∈ t, ∀ y ∈ gholds cs L x, y ∈ ids L → y ∈ t)
    (hC : ∀ x ∈ t, lostB cs L t x = true → x ∈ C) {nd : GN} (hnd : nd ∈ L) (hin : nd.id ∈ t) : ∀ y ∈ (cutG cs C nd).refs, y = 0 ∨ y ∈ t := by
  intro y hy
  have hat := gat_at hr hnd
  have hold : ∀ (k : Nat) (hk : k < nd.refs.length), holdsC cs nd.cls k = true → nd.refs[k] = 0 ∨ nd.refs[k] ∈ t := by
    intro k hk hh
    by_cases h0 : nd.refs[k] = 0
    · exact .inl h0
    · right
      have hmem : nd.refs[k] ∈ gholds cs L nd.id := by
        unfold gholds
        rw [hat]
        show _ ∈ held cs nd
        unfold held heldTo
        refine List.mem_flatMap.2 ⟨k, List.mem_range.2 hk, ?_⟩
        have hg : nd.refs.getD k 0 = nd.refs[k] := by simp [List.getD_eq_getElem?_getD, hk]
        rw [hg, if_pos ⟨h0, hh⟩]
        simp
      exact ht _ hin _ hmem ((hi nd hnd _ (List.getElem_mem hk)).resolve_left h0)
  by_cases hb : holdsC cs nd.cls 0 = true
  · have hc : (cutG cs C nd).refs = nd.refs := by
      unfold cutG kndN
      simp [hb]
    rw [hc] at hy
    obtain ⟨k, hk, rfl⟩ := List.mem_iff_getElem.1 hy
    refine hold k hk ?_
    rw [holdsC_at (hw nd hnd) hal k]
    rw [show (0 : Int) = ((0 : Nat) : Int) from rfl, holdsC_at (hw nd hnd) hal 0] at hb
    simp at hb ⊢
    exact .inr hb
  · have hb' : holdsC cs nd.cls 0 = false := by simpa using hb
    have hk0 : kndN cs nd = kindOf cs nd.cls := by unfold kndN; rw [if_neg hb]
    have hpos := (hw nd hnd).aim hb'
    have hgaim : gaim cs L nd.id = (nd.refs.getD 0 0, kindOf cs nd.cls) := by unfold gaim; rw [hat]; simp [hb']
    have hg0 : nd.refs.getD 0 0 = nd.refs[0] := by rw [List.getD_eq_getElem?_getD, List.getElem?_eq_getElem (by omega)]; rfl
    have hother : ∀ (k : Nat) (hk : k < nd.refs.length), 0 < k → nd.refs[k] = 0 ∨ nd.refs[k] ∈ t := by
      intro k hk hkp
      refine hold k hk ?_
      rw [holdsC_at (hw nd hnd) hal k]
      simp [hkp]
    by_cases hl : lostB cs L t nd.id = true
    · have hcl := hC _ hin hl
      have hkn : kndN cs nd ≠ 0 := by
        have := (lost_kind hal hw hi hl).2
        rw [hgaim] at this
        simp only at this
        rw [hk0]
        omega
      have hc : (cutG cs C nd).refs = nd.refs.set 0 0 := by
        unfold cutG
        simp [hcl, hkn]
      rw [hc] at hy
      obtain ⟨k, hk, rfl⟩ := List.mem_iff_getElem.1 hy
      rw [List.getElem_set]
      by_cases e : 0 = k
      · rw [if_pos e]; exact .inl rfl
      · rw [if_neg e]
        exact hother k (by simpa using hk) (by omega)
    · have hz : nd.refs[0] = 0 ∨ nd.refs[0] ∈ t := by
        rw [lostB_iff, hgaim] at hl
        simp only [hg0] at hl
        by_cases e : nd.refs[0] = 0
        · exact .inl e
        · exact .inr (Classical.byContradiction (fun q => hl ⟨e, q⟩))
      have hsub : ∀ y ∈ (cutG cs C nd).refs, y = 0 ∨ y ∈ nd.refs := by
        intro y hy
        unfold cutG at hy
        simp only at hy
        split at hy
        · rcases List.mem_or_eq_of_mem_set hy with q | q
          · exact .inr q
          · exact .inl q
        · exact .inr hy
      rcases hsub y hy with q | q
      · exact .inl q
      · obtain ⟨k, hk, rfl⟩ := List.mem_iff_getElem.1 q
        by_cases e : k = 0
        · subst e; exact hz
        · exact hother k hk (by omega)

/-- the graph behind it, node by node -/
theorem apply_nodes (hr : Rising L) (hal : allRight cs = true) (hw : ∀ nd ∈ L, WfN cs nd) (hi : RefsIn L) {t C F : List Int} (ht : ∀ x ∈ t, ∀ y ∈ gholds cs L x, y ∈ ids L → y ∈ t)
    (hC : ∀ x ∈ t, lostB cs L t x = true → x ∈ C) : applyL cs L C F t = (L.filter (fun nd => decide (nd.id ∈ t))).map (fun nd => doneG F (cutG cs C nd)) := by
  rw [applyL_eq hr hw]
  unfold keepL
  have hk : keepN (L.map (fun nd => doneG F (cutG cs C nd))) t = (L.filter (fun nd => decide (nd.id ∈ t))).map (fun nd => doneG F (cutG cs C nd)) := by
    unfold keepN
    rw [List.filter_map]
    rfl
  rw [hk, List.map_map]
  apply List.map_congr_left
  intro nd hnd
  obtain ⟨hnd, hin⟩ := List.mem_filter.1 hnd
  replace hin : nd.id ∈ t := by simpa using hin
  simp only [Function.comp]
  have hst := stay_refs hr hal hw hi ht hC hnd hin
  unfold cutN
  have : cutR (ids ((L.filter (fun nd => decide (nd.id ∈ t))).map (fun nd => doneG F (cutG cs C nd)))) (doneG F (cutG cs C nd)).refs = (doneG F (cutG cs C nd)).refs := by
    unfold cutR
    rw [List.map_congr_left (g := fun t => t), List.map_id']
    intro y hy
    rcases hst y hy with q | q
    · rw [q]; simp
    · by_cases h0 : y = 0
      · rw [h0]; simp
      · rw [if_pos]
        have hyI : y ∈ ids L := by
          have hsub : y ∈ nd.refs := by
            have hy' : y ∈ (cutG cs C nd).refs := hy
            unfold cutG at hy'
            simp only at hy'
            split at hy'
            · rcases List.mem_or_eq_of_mem_set hy' with q | q
              · exact q
              · exact absurd q h0
            · exact hy'
          exact (hi nd hnd y hsub).resolve_left h0
        obtain ⟨m, hm, e⟩ := mem_ids.1 hyI
        exact mem_ids.2 ⟨doneG F (cutG cs C m), List.mem_map.2 ⟨m, List.mem_filter.2 ⟨hm, by simpa [e] using q⟩, rfl⟩, e⟩
  rw [this]

end

end Go.Proofs.Ytlmeponoadhheaa
