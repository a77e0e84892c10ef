/-
  Plain laws: how long a played graph is; what a node holds, beside its aim.
-/
import Derived.Test.YtlmeponoadhheaaLaws9
namespace Go.Proofs.Ytlmeponoadhheaa
set_option linter.unusedVariables false

theorem ins_len (nd : GN) (L : List GN) : (ins nd L).length = L.length + 1 := by
  induction L with
  | nil => rfl
  | cons a l ih =>
    unfold ins
    split
    · simp [ih]
    · simp

theorem stepL_len (cs : List Cls) (L : List GN) (o : OpG) : (stepL cs L o).length ≤ L.length + 1 := by
  unfold stepL
  split
  · unfold addL; split
    · rw [ins_len]; omega
    · omega
  split
  · unfold setRefL; split
    · simp [upd]
    · omega
  split
  · unfold setNumL; split
    · simp [upd]
    · omega
  split
  · simp [doneL, upd]
  · omega

theorem playL_len (cs : List Cls) (l : List OpG) : ∀ L : List GN, (playL cs L l).length ≤ L.length + l.length := by
  induction l with
  | nil => intro L; simp [playL]
  | cons o l ih =>
    intro L
    have h1 := ih (stepL cs L o)
    have h2 := stepL_len cs L o
    have : playL cs L (o :: l) = playL cs (stepL cs L o) l := rfl
    rw [this, List.length_cons]
    omega

theorem few_len {l : List OpG} (h : fewB l = true) : l.length ≤ 100 := by
  unfold fewB at h
  simp at h
  exact h.1

def hl (f k : Nat) (r : List Int) : List Int := ((r.take k).drop f).filter (fun t => decide (t ≠ 0))

theorem hl_succ (f k : Nat) (r : List Int) (hk : k < r.length) (hf : f ≤ k) : hl f (k + 1) r = hl f k r ++ (if r.getD k 0 ≠ 0 then [r.getD k 0] else []) := by
  unfold hl
  have e : r.getD k 0 = r[k] := by simp [List.getD_eq_getElem?_getD, hk]
  rw [List.take_add_one, List.getElem?_eq_getElem hk, List.drop_append_of_le_length (by simp; omega), List.filter_append, e]
  congr 1
  by_cases h : r[k] = 0 <;> simp [h]

theorem hl_len (f k : Nat) (r : List Int) : (hl f k r).length ≤ r.length := by
  unfold hl
  refine Nat.le_trans (List.length_filter_le _ _) ?_
  simp
  omega

theorem hl_low (f k : Nat) (r : List Int) (hf : k ≤ f) : hl f k r = [] := by
  unfold hl
  rw [List.drop_eq_nil_of_le (by simp; omega)]
  rfl

theorem heldTo_eq (cs : List Cls) (nd : GN) (f : Nat) (h : ∀ i : Nat, holdsC cs nd.cls i = decide (f ≤ i)) (k : Nat) (hk : k ≤ nd.refs.length) : heldTo cs nd k = hl f k nd.refs := by
  induction k with
  | zero => simp [heldTo, hl]
  | succ k ih =>
    rw [heldTo_succ, ih (by omega), h]
    by_cases hf : f ≤ k
    · rw [hl_succ f k _ (by omega) hf]
      simp [hf]
    · rw [hl_low f k _ (by omega), hl_low f (k + 1) _ (by omega)]
      simp [hf]

/-- a node's aim, and what it holds beside it -/
theorem aim_law {cs : List Cls} {L : List GN} {nd : GN} (hr : allRight cs = true) (hat : gat L nd.id = some nd) (hw : WfN cs nd) :
    ((gaim cs L nd.id).2 ≠ 0 ∧ 1 ≤ nd.refs.length ∧ nd.refs.getD 0 0 = (gaim cs L nd.id).1 ∧ gholds cs L nd.id = hl 1 nd.refs.length nd.refs) ∨
    ((gaim cs L nd.id).2 = 0 ∧ gholds cs L nd.id = hl 0 nd.refs.length nd.refs) := by
  have h1 := hw.c1
  have h2 := hw.c2
  have hh : ∀ i : Int, holdsC cs nd.cls i = holds1 (cs[(nd.cls - 1).toNat]'(by omega)) i := fun i => by unfold holdsC; rw [dif_pos ⟨h1, h2⟩]
  have hlt : (nd.cls - 1).toNat < cs.length := by omega
  have hkd : kindOf cs nd.cls = (cs[(nd.cls - 1).toNat]'hlt).kind := by unfold kindOf; rw [List.getD_eq_getElem?_getD, List.getElem?_eq_getElem hlt]; rfl
  have hg : gholds cs L nd.id = heldTo cs nd nd.refs.length := by unfold gholds; rw [hat]; rfl
  have hright := allRight_get hr (nd.cls - 1).toNat hlt
  generalize (cs[(nd.cls - 1).toNat]'hlt) = C at *
  have ha := hw.aim
  unfold gaim
  rw [hat, hg]
  simp only
  by_cases h0 : C.kind = 1 ∨ C.kind = 2
  · have e0 : holdsC cs nd.cls 0 = true := by rw [hh]; unfold holds1; simp; exact h0
    rw [if_pos e0]
    refine .inr ⟨rfl, heldTo_eq cs nd 0 (fun i => ?_) _ (Nat.le_refl _)⟩
    rw [hh]; unfold holds1
    rcases h0 with h0 | h0 <;> simp [h0]
  · have e0 : holdsC cs nd.cls 0 = false := by
      rw [hh]; unfold holds1
      have : C.kind ≠ 1 ∧ C.kind ≠ 2 := ⟨fun e => h0 (.inl e), fun e => h0 (.inr e)⟩
      simp [this]
    rw [if_neg (by rw [e0]; simp)]
    refine .inl ⟨?_, ha e0, rfl, heldTo_eq cs nd 1 (fun i => ?_) _ (Nat.le_refl _)⟩
    · show kindOf cs nd.cls ≠ 0
      rw [hkd]
      rcases hright with ⟨e, _⟩ | ⟨e, _⟩ | ⟨e, _⟩
      · exact absurd (.inl e) h0
      · exact absurd (.inr e) h0
      · omega
    · rw [hh]; unfold holds1
      have : C.kind ≠ 1 ∧ C.kind ≠ 2 := ⟨fun e => h0 (.inl e), fun e => h0 (.inr e)⟩
      have t1 : (C.kind == 1) = false := by simpa using this.1
      have t2 : (C.kind == 2) = false := by simpa using this.2
      rw [t1, t2, Bool.or_false, Bool.or_false, Bool.eq_iff_iff]
      simp
      omega

end Go.Proofs.Ytlmeponoadhheaa
