/-
  Plain laws: what is set is there, and nothing else is changed; what is kept is as it was.
-/
import Derived.Test.YtlmeponoadhheaaOwn9a
namespace Go.Proofs.Ytlmeponoadhheaa
set_option linter.unusedVariables false

theorem setRefE_zero {L : List GN} {A B C : Int} (h : setRefE L A B C = 0) : ∃ nd, gat L A = some nd ∧ 0 ≤ B ∧ B < nd.refs.length ∧ (C = 0 ∨ C ∈ ids L) := by
  unfold setRefE at h
  split at h
  · cases h
  · rename_i nd hat
    by_cases hf : 0 ≤ B ∧ B < nd.refs.length
    · rw [if_pos hf] at h
      by_cases ht : C ≠ 0 ∧ C ∉ ids L
      · rw [if_pos ht] at h; cases h
      · exact ⟨nd, hat, hf.1, hf.2, by
          by_cases c0 : C = 0
          · exact .inl c0
          · exact .inr (Classical.byContradiction fun e => ht ⟨c0, e⟩)⟩
    · rw [if_neg hf] at h; cases h

theorem setNumE_zero {L : List GN} {A B : Int} (h : setNumE L A B = 0) : ∃ nd, gat L A = some nd ∧ 0 ≤ B ∧ B < nd.data.length := by
  unfold setNumE at h
  split at h
  · cases h
  · rename_i nd hat
    by_cases hf : 0 ≤ B ∧ B < nd.data.length
    · exact ⟨nd, hat, hf.1, hf.2⟩
    · rw [if_neg hf] at h; cases h

theorem setRefL_ids (L : List GN) (A B C : Int) : ids (setRefL L A B C) = ids L := by
  unfold setRefL
  split
  · exact upd_ids _ _ _ (fun _ => rfl)
  · rfl

theorem setNumL_ids (L : List GN) (A B C : Int) : ids (setNumL L A B C) = ids L := by
  unfold setNumL
  split
  · exact upd_ids _ _ _ (fun _ => rfl)
  · rfl

theorem doneL_ids (L : List GN) (A : Int) : ids (doneL L A) = ids L := upd_ids _ _ _ (fun _ => rfl)

def setR1 (L : List GN) (A B C : Int) (nd : GN) : GN := if nd.id = A ∧ setRefE L A B C = 0 then { nd with refs := nd.refs.set B.toNat C } else nd

def setN1 (L : List GN) (A B C : Int) (nd : GN) : GN := if nd.id = A ∧ setNumE L A B = 0 then { nd with data := nd.data.set B.toNat C } else nd

theorem setR1_mem {L : List GN} {A B C : Int} {nd : GN} (h : nd ∈ L) : setR1 L A B C nd ∈ setRefL L A B C := by
  unfold setR1 setRefL
  by_cases e : setRefE L A B C = 0
  · rw [if_pos e]
    refine List.mem_map.2 ⟨nd, h, ?_⟩
    by_cases e2 : nd.id = A <;> simp [e, e2]
  · rw [if_neg e, if_neg (fun q => e q.2)]; exact h

theorem setN1_mem {L : List GN} {A B C : Int} {nd : GN} (h : nd ∈ L) : setN1 L A B C nd ∈ setNumL L A B C := by
  unfold setN1 setNumL
  by_cases e : setNumE L A B = 0
  · rw [if_pos e]
    refine List.mem_map.2 ⟨nd, h, ?_⟩
    by_cases e2 : nd.id = A <;> simp [e, e2]
  · rw [if_neg e, if_neg (fun q => e q.2)]; exact h

theorem setR1_id (L : List GN) (A B C : Int) (nd : GN) : (setR1 L A B C nd).id = nd.id := by unfold setR1; split <;> rfl
theorem setN1_id (L : List GN) (A B C : Int) (nd : GN) : (setN1 L A B C nd).id = nd.id := by unfold setN1; split <;> rfl

/-- the references of a node behind what is set -/
theorem setR1_refs {L : List GN} (hr : Rising L) {A B C : Int} {nd : GN} (h : nd ∈ L) (ha : nd.id = A) (he : setRefE L A B C = 0) : 0 ≤ B ∧ B < nd.refs.length ∧ setR1 L A B C nd = { nd with refs := nd.refs.set B.toNat C } := by
  obtain ⟨n, h1, h2, h3, -⟩ := setRefE_zero he
  have h4 := hr.at h
  rw [ha, h1] at h4
  cases h4
  exact ⟨h2, h3, if_pos ⟨ha, he⟩⟩

theorem setN1_data {L : List GN} (hr : Rising L) {A B C : Int} {nd : GN} (h : nd ∈ L) (ha : nd.id = A) (he : setNumE L A B = 0) : 0 ≤ B ∧ B < nd.data.length ∧ setN1 L A B C nd = { nd with data := nd.data.set B.toNat C } := by
  obtain ⟨n, h1, h2, h3⟩ := setNumE_zero he
  have h4 := hr.at h
  rw [ha, h1] at h4
  cases h4
  exact ⟨h2, h3, if_pos ⟨ha, he⟩⟩

theorem setR1_data (L : List GN) (A B C : Int) (nd : GN) : (setR1 L A B C nd).data = nd.data := by unfold setR1; split <;> rfl

/-- a node behind what is set -/
theorem sets_law {L : List GN} (hr : Rising L) (A B C : Int) (odd : Bool) {E F : Int} (hE : E = setRefE L A B C) (hF : F = (if odd = true then setNumE (setRefL L A B C) A B else 0)) {nd : GN} (h : nd ∈ L) :
    ∃ fn ∈ (if odd = true then setNumL (setRefL L A B C) A B C else setRefL L A B C), fn.id = nd.id ∧ fn.cls = nd.cls ∧ fn.fin = nd.fin ∧
      ((nd.id = A ∧ E = 0 ∧ 0 ≤ B ∧ B < nd.refs.length ∧ fn.refs = nd.refs.set B.toNat C) ∨ (¬ (nd.id = A ∧ E = 0) ∧ fn.refs = nd.refs)) ∧
      ((nd.id = A ∧ odd = true ∧ F = 0 ∧ 0 ≤ B ∧ B < nd.data.length ∧ fn.data = nd.data.set B.toNat C) ∨ (¬ (nd.id = A ∧ odd = true ∧ F = 0) ∧ fn.data = nd.data)) := by
  subst hE
  have h1 := setR1_mem (A := A) (B := B) (C := C) h
  have hr1 : Rising (setRefL L A B C) := rising_of_ids hr (setRefL_ids _ _ _ _)
  have hid := setR1_id L A B C nd
  have hdt := setR1_data L A B C nd
  have hcf : (setR1 L A B C nd).cls = nd.cls ∧ (setR1 L A B C nd).fin = nd.fin := by unfold setR1; split <;> exact ⟨rfl, rfl⟩
  have hrf : (nd.id = A ∧ setRefE L A B C = 0 ∧ 0 ≤ B ∧ B < nd.refs.length ∧ (setR1 L A B C nd).refs = nd.refs.set B.toNat C) ∨ (¬ (nd.id = A ∧ setRefE L A B C = 0) ∧ (setR1 L A B C nd).refs = nd.refs) := by
    by_cases e : nd.id = A ∧ setRefE L A B C = 0
    · obtain ⟨q1, q2, q3⟩ := setR1_refs hr h e.1 e.2
      exact .inl ⟨e.1, e.2, q1, q2, by rw [q3]⟩
    · exact .inr ⟨e, by unfold setR1; rw [if_neg e]⟩
  cases odd
  · exact ⟨_, h1, hid, hcf.1, hcf.2, hrf, .inr ⟨by simp, hdt⟩⟩
  · simp only [if_true] at hF ⊢
    subst hF
    refine ⟨_, setN1_mem (A := A) (B := B) (C := C) h1, (setN1_id _ _ _ _ _).trans hid, ?_, ?_, ?_, ?_⟩
    · rw [← hcf.1]; unfold setN1; split <;> rfl
    · rw [← hcf.2]; unfold setN1; split <;> rfl
    · have : (setN1 (setRefL L A B C) A B C (setR1 L A B C nd)).refs = (setR1 L A B C nd).refs := by unfold setN1; split <;> rfl
      rw [this]; exact hrf
    · by_cases e : nd.id = A ∧ setNumE (setRefL L A B C) A B = 0
      · obtain ⟨q1, q2, q3⟩ := setN1_data (C := C) hr1 h1 (hid.trans e.1) e.2
        rw [hdt] at q2
        exact .inl ⟨e.1, trivial, e.2, q1, q2, by rw [q3]; simp only; rw [hdt]⟩
      · refine .inr ⟨fun q => e ⟨q.1, q.2.2⟩, ?_⟩
        unfold setN1
        rw [if_neg (by rw [hid]; exact e), hdt]

/-! ### references go to nodes -/

def RefsIn (L : List GN) : Prop := ∀ nd ∈ L, ∀ t ∈ nd.refs, t = 0 ∨ t ∈ ids L

theorem mem_ids {L : List GN} {k : Int} : k ∈ ids L ↔ ∃ nd ∈ L, nd.id = k := by simp [ids]

theorem refsIn_add {cs : List Cls} {L : List GN} (h : RefsIn L) (a b c : Int) : RefsIn (addL cs L a b c) := by
  unfold addL
  split
  · intro nd hnd t ht
    rcases mem_ins.1 hnd with rfl | hnd
    · left
      unfold newNode at ht
      simp at ht
      exact ht.2
    · rcases h nd hnd t ht with q | q
      · exact .inl q
      · exact .inr ((ins_ids _).2 (.inr q))
  · exact h

theorem refsIn_setRef {L : List GN} (h : RefsIn L) (A B C : Int) : RefsIn (setRefL L A B C) := by
  intro nd hnd t ht
  rw [setRefL_ids]
  unfold setRefL at hnd
  split at hnd
  · rename_i e
    obtain ⟨-, -, -, -, hc⟩ := setRefE_zero e
    rcases mem_upd hnd with q | ⟨y, hy, -, rfl⟩
    · exact h nd q t ht
    · rcases List.mem_or_eq_of_mem_set ht with q | q
      · exact h y hy t q
      · rw [q]; exact hc
  · exact h nd hnd t ht

theorem refsIn_upd {L : List GN} (h : RefsIn L) (id : Int) (g : GN → GN) (hg : ∀ nd, (g nd).id = nd.id ∧ (g nd).refs = nd.refs) : RefsIn (upd L id g) := by
  intro nd hnd t ht
  rw [upd_ids _ _ _ (fun nd => (hg nd).1)]
  rcases mem_upd hnd with q | ⟨y, hy, -, rfl⟩
  · exact h nd q t ht
  · rw [(hg y).2] at ht; exact h y hy t ht

theorem refsIn_step {cs : List Cls} {L : List GN} (h : RefsIn L) (o : OpG) : RefsIn (stepL cs L o) := by
  unfold stepL
  split
  · exact refsIn_add h _ _ _
  split
  · exact refsIn_setRef h _ _ _
  split
  · unfold setNumL
    split
    · exact refsIn_upd h _ _ (fun _ => ⟨rfl, rfl⟩)
    · exact h
  split
  · exact refsIn_upd h _ _ (fun _ => ⟨rfl, rfl⟩)
  · exact h

theorem refsIn_play {cs : List Cls} (l : List OpG) : ∀ {L : List GN}, RefsIn L → RefsIn (playL cs L l) := by
  induction l with
  | nil => intro L h; exact h
  | cons o l ih => intro L h; exact ih (refsIn_step h o)

/-- references to what isn't told are 0 -/
def cutK (ks : List Int) (l : List Int) : List Int := l.map (fun t => if t ∈ ks then t else 0)

/-- what is kept, and how it was -/
theorem keep_law {L : List GN} (hi : RefsIn L) (ks : List Int) {nd : GN} (h : nd ∈ keepL L ks) : ∃ old ∈ L, old.id = nd.id ∧ nd.id ∈ ks ∧ nd = { old with refs := cutK ks old.refs } := by
  obtain ⟨old, ho, rfl⟩ := List.mem_map.1 h
  obtain ⟨h1, h2⟩ := mem_keepN.1 ho
  refine ⟨old, h1, rfl, h2, ?_⟩
  unfold cutN cutR cutK
  congr 1
  apply List.map_congr_left
  intro t ht
  by_cases hk : t ∈ ids (keepN L ks)
  · rw [if_pos hk, if_pos ((keepN_ids t).1 hk).2]
  · rw [if_neg hk]
    by_cases h3 : t ∈ ks
    · rw [if_pos h3]
      rcases hi old h1 t ht with q | q
      · exact q.symm
      · exact absurd ((keepN_ids t).2 ⟨q, h3⟩) hk
    · rw [if_neg h3]

theorem keepL_ids (L : List GN) (ks : List Int) : ids (keepL L ks) = ids (keepN L ks) := by
  unfold keepL ids
  rw [List.map_map]; rfl

/-- kept once more nothing goes -/
theorem keep_again (L : List GN) : (keepL L (ids L)).length = L.length := by
  rw [keepL_length]
  unfold keepN
  rw [List.filter_eq_self.2 (fun nd hnd => decide_eq_true (mem_ids.2 ⟨nd, hnd, rfl⟩))]

theorem keep_none (L : List GN) : keepL L [] = [] := by
  unfold keepL keepN
  rw [List.filter_eq_nil_iff.2 (fun nd _ => by simp)]
  rfl

theorem keepL_len (L : List GN) (ks : List Int) : (keepL L ks).length ≤ L.length := by
  rw [keepL_length]
  exact List.length_filter_le _ _

end Go.Proofs.Ytlmeponoadhheaa
