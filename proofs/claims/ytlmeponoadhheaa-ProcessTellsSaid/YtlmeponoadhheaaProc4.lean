/-
  What the laws of processing want, plain.
-/
import Derived.Test.YtlmeponoadhheaaProc3
namespace Go.Proofs.Ytlmeponoadhheaa
set_option linter.unusedVariables false

section
variable {cs : List Cls} {L : List GN} {roots : List Int} {keep ka kb : Int → Bool} {s t C F sa ta Ca Fa sb tb Cb Fb : List Int}

theorem closeL_len {lv : Int} {r : List Int} : (closeL cs L lv r).length ≤ L.length := by
  have := rchL_len (V := ids L) (nx := nextL cs L lv) (S := fun x => x ∈ startL L lv r)
  have e : (ids L).length = L.length := by simp [ids]
  unfold closeL
  omega

theorem PR.strong_in (h : PR cs L keep roots s t C F) : ∀ x ∈ closeL cs L 1 roots, x ∈ t := fun x hx => h.sub x (h.es ▸ live_strong hx)

theorem PR.strong_len (h : PR cs L keep roots s t C F) (hr : Rising L) : (closeL cs L 1 roots).length ≤ t.length :=
  nodup_len ((rchL_rising (rising_ids hr)).imp (fun q => by omega)) h.strong_in

theorem ids_len (L : List GN) : (ids L).length = L.length := by simp [ids]

theorem PR.t_len (h : PR cs L keep roots s t C F) (hr : Rising L) : t.length ≤ L.length := by
  have := nodup_len ((h.t_up hr).imp (fun q => by omega)) h.t_ids
  rwa [ids_len] at this

theorem PR.c_len (h : PR cs L keep roots s t C F) (hr : Rising L) : C.length ≤ L.length := by
  have := nodup_len (h.c_once hr) (fun x hx => h.t_ids x (h.c_in x hx))
  rwa [ids_len] at this

theorem PR.f_len (h : PR cs L keep roots s t C F) : F.length ≤ L.length := by
  rw [h.ef]
  unfold finL
  have := List.length_filter_le (fun id => isFin L id && !decide (id ∈ s)) (ids L)
  rwa [ids_len] at this

theorem PR.soft_mono (ha : PR cs L ka roots sa ta Ca Fa) (hb : PR cs L kb roots sb tb Cb Fb) (hk : ∀ x, ka x = true → kb x = true) {id : Int} (hst : id ∈ closeL cs L 1 roots) (hkd : (gaim cs L id).2 = 3 ∨ (gaim cs L id).2 = 4) (hC : id ∈ Cb) : id ∈ Ca := by
  have hl := hb.c_lost id hC
  have hsub : ∀ x ∈ sa, x ∈ sb := fun x hx => by
    rw [ha.es] at hx
    rw [hb.es]
    exact live_mono hk hx
  exact ha.mem_c.2 (.inl ⟨ha.es ▸ live_strong hst, lostB_sub hsub hl, hkd⟩)

theorem PR.soft_all (h : PR cs L (fun _ => true) roots s t C F) (hal : allRight cs = true) (hw : ∀ nd ∈ L, WfN cs nd) (hi : RefsIn L) {id : Int} (hst : id ∈ closeL cs L 1 roots) (h3 : (gaim cs L id).2 = 3) : id ∉ C := fun hC => by
  have hl := h.c_lost id hC
  have hV := (lost_kind hal hw hi hl).1
  obtain ⟨h0, hn⟩ := lostB_iff.1 hl
  rw [h.es] at hn
  exact hn (live_soft (live_strong hst) h0 h3 rfl hV)

/-- an aim that was lost is of no strong level -/
theorem PR.not_strong (h : PR cs L keep roots s t C F) {x : Int} (hx : x ∉ s) : ofL cs L x roots ≠ 1 := fun e => by
  have := ofL_in (cs := cs) (L := L) (id := x) (r := roots) (by omega)
  rw [e] at this
  exact hx (h.es ▸ live_strong this)

theorem PR.not_soft (h : PR cs L (fun _ => true) roots s t C F) {x : Int} (hx : x ∉ s) : ofL cs L x roots ≠ 2 := fun e => by
  have := ofL_in (cs := cs) (L := L) (id := x) (r := roots) (by omega)
  rw [e] at this
  rw [h.es, live_all] at hx
  exact hx this

theorem PR.c_phantom (h : PR cs L keep roots s t C F) {id : Int} (hC : id ∈ C) (h5 : (gaim cs L id).2 = 5) : (gaim cs L id).1 ∉ t ∧ (gaim cs L id).1 ∉ closeL cs L 1 F := by
  have hn : (gaim cs L id).1 ∉ t := by
    rcases h.mem_c.1 hC with q | q | q
    · omega
    · omega
    · exact (lostB_iff.1 q.2.1).2
  refine ⟨hn, fun q => hn ?_⟩
  rw [h.et]
  unfold endL
  refine close_mono (Int.le_refl _) (fun x hx _ => List.mem_append.2 (.inr ?_)) q
  rw [← h.ef]; exact hx

theorem PR.c_kind (h : PR cs L keep roots s t C F) (hal : allRight cs = true) (hw : ∀ nd ∈ L, WfN cs nd) (hi : RefsIn L) {id : Int} (hC : id ∈ C) : (gaim cs L id).2 ≠ 0 ∧ (gaim cs L id).1 ≠ 0 ∧ (gaim cs L id).1 ∉ s := by
  have hl := h.c_lost id hC
  have := (lost_kind hal hw hi hl).2
  exact ⟨by omega, lostB_iff.1 hl⟩

/-- where nothing aims, and nothing is to be finalized -/
theorem PR.plain (h : PR cs L keep roots s t C F) (hr : Rising L) (hal : allRight cs = true) (hw : ∀ nd ∈ L, WfN cs nd) (hi : RefsIn L) (hk : ∀ x ∈ ids L, (gaim cs L x).2 = 0) (hf : ∀ nd ∈ L, nd.fin = false) : C = [] ∧ F = [] ∧ t = closeL cs L 1 roots := by
  have hF : F = [] := by
    rw [List.eq_nil_iff_forall_not_mem]
    intro x hx
    obtain ⟨h1, h2, -⟩ := h.mem_f.1 hx
    unfold isFin at h2
    obtain ⟨nd, hnd, rfl⟩ := mem_ids.1 h1
    rw [gat_at hr hnd] at h2
    simp only [hf nd hnd] at h2
    cases h2
  have hs : s = closeL cs L 1 roots := by
    rw [h.es, ← live_none]
    unfold liveL
    apply rchL_congr
    intro x
    constructor <;> intro hx
    · induction hx with
      | root a b => exact .root a b
      | @step x y h1 b c ih =>
        refine .step ih ?_ c
        unfold nextK softTo at b ⊢
        have := hk x h1.inV
        rw [if_neg (fun q => by omega)] at b
        rw [if_neg (fun q => by omega)]
        exact b
    · exact hx.mono' (fun y z hz => by
        unfold nextK softTo at *
        rcases List.mem_append.1 hz with q | q
        · exact List.mem_append.2 (.inl q)
        · simp at q) (fun _ q => q)
  refine ⟨?_, hF, ?_⟩
  · rw [List.eq_nil_iff_forall_not_mem]
    intro x hx
    obtain ⟨h1, h2, h3⟩ := h.c_kind hal hw hi hx
    have hV : x ∈ ids L := h.t_ids x (h.c_in x hx)
    exact h1 (hk x hV)
  · have hfl : finL L (liveL cs L keep roots) = [] := by rw [← h.es, ← h.ef]; exact hF
    rw [h.et, h.es, end_nofin hr hfl, ← h.es, hs]

/-- a node behind it -/
theorem behind_node (h : PR cs L keep roots s t C F) (hr : Rising L) {id : Int} (hid : id ∈ t) : ∃ nd ∈ L, nd.id = id ∧ doneG F (cutG cs C nd) ∈ behind cs L t C F := by
  obtain ⟨nd, hnd, rfl⟩ := mem_ids.1 (h.t_ids id hid)
  exact ⟨nd, hnd, rfl, mem_behind.2 ⟨nd, hnd, hid, rfl⟩⟩

theorem cut_ref (h : PR cs L keep roots s t C F) (hr : Rising L) (hal : allRight cs = true) (hw : ∀ nd ∈ L, WfN cs nd) (hi : RefsIn L) {nd : GN} (hnd : nd ∈ L) (k : Nat) (hk : k < nd.refs.length) :
    (doneG F (cutG cs C nd)).refs.getD k 0 = if k = 0 ∧ nd.id ∈ C then 0 else nd.refs.getD k 0 := by
  show (cutG cs C nd).refs.getD k 0 = _
  unfold cutG
  simp only
  by_cases hC : nd.id ∈ C
  · have hkd := (h.c_kind hal hw hi hC).1
    rw [gaim_kind (gat_at hr hnd)] at hkd
    rw [if_pos ⟨hC, hkd⟩]
    by_cases h0 : k = 0
    · subst h0
      rw [if_pos ⟨rfl, hC⟩, List.getD_eq_getElem?_getD, List.getElem?_set_self (by omega)]
      rfl
    · rw [if_neg (fun q => h0 q.1), List.getD_eq_getElem?_getD, List.getD_eq_getElem?_getD, List.getElem?_set_ne (by omega)]
  · rw [if_neg (fun q => hC q.1), if_neg (fun q => hC q.2)]

theorem behind_len (h : PR cs L keep roots s t C F) (hr : Rising L) : (behind cs L t C F).length = t.length := by
  have := congrArg List.length (behind_ids (cs := cs) (C := C) (F := F) hr (h.t_up hr) h.t_ids)
  simpa [ids] using this

theorem behind_refs (h : PR cs L keep roots s t C F) (hr : Rising L) (hal : allRight cs = true) (hw : ∀ nd ∈ L, WfN cs nd) (hi : RefsIn L) : RefsIn (behind cs L t C F) := by
  rw [← h.behind hr hal hw hi]
  exact refsIn_keep _ _

end

end Go.Proofs.Ytlmeponoadhheaa
