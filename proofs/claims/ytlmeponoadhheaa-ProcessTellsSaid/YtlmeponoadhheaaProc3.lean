/-
  What becomes of references when nodes go: the laws, plain.
-/
import Derived.Test.YtlmeponoadhheaaProc2
namespace Go.Proofs.Ytlmeponoadhheaa
set_option linter.unusedVariables false

/-- a graph behind a processing -/
def behind (cs : List Cls) (L : List GN) (t C F : List Int) : List GN := (L.filter (fun nd => decide (nd.id ∈ t))).map (fun nd => doneG F (cutG cs C nd))

section
variable {cs : List Cls} {L : List GN} {t C F : List Int}

theorem mem_behind {x : GN} : x ∈ behind cs L t C F ↔ ∃ nd ∈ L, nd.id ∈ t ∧ x = doneG F (cutG cs C nd) := by
  unfold behind
  rw [List.mem_map]
  constructor
  · rintro ⟨nd, h, rfl⟩
    obtain ⟨h1, h2⟩ := List.mem_filter.1 h
    exact ⟨nd, h1, by simpa using h2, rfl⟩
  · rintro ⟨nd, h1, h2, rfl⟩
    exact ⟨nd, List.mem_filter.2 ⟨h1, by simpa using h2⟩, rfl⟩

theorem behind_rising (hr : Rising L) : Rising (behind cs L t C F) := by
  unfold behind Rising
  rw [List.pairwise_map]
  exact (hr.filter _).imp (fun h => h)

theorem behind_ids (hr : Rising L) (hp : t.Pairwise (· < ·)) (ht : ∀ x ∈ t, x ∈ ids L) : ids (behind cs L t C F) = t := by
  refine rising_ext (rising_ids (behind_rising hr)) hp (fun x => ?_)
  rw [mem_ids]
  constructor
  · rintro ⟨y, hy, rfl⟩
    obtain ⟨nd, _, h, rfl⟩ := mem_behind.1 hy
    exact h
  · intro h
    obtain ⟨nd, hnd, e⟩ := mem_ids.1 (ht x h)
    exact ⟨_, mem_behind.2 ⟨nd, hnd, by rw [e]; exact h, rfl⟩, e⟩

theorem behind_at (hr : Rising L) {id : Int} (hin : id ∈ t) {nd : GN} (hat : gat L id = some nd) : gat (behind cs L t C F) id = some (doneG F (cutG cs C nd)) := by
  obtain ⟨hnd, rfl⟩ := gat_mem hat
  exact gat_at (behind_rising hr) (mem_behind.2 ⟨nd, hnd, hin, rfl⟩)

theorem cut_len (nd : GN) : (cutG cs C nd).refs.length = nd.refs.length := by
  unfold cutG
  simp only
  split <;> simp

theorem cut_held (nd : GN) : held cs (doneG F (cutG cs C nd)) = held cs nd := by
  unfold held
  rw [show (doneG F (cutG cs C nd)).refs.length = nd.refs.length from cut_len nd]
  unfold heldTo
  congr 1
  funext i
  show (if (cutG cs C nd).refs.getD i 0 ≠ 0 ∧ holdsC cs nd.cls i = true then [(cutG cs C nd).refs.getD i 0] else []) = _
  by_cases h : holdsC cs nd.cls i = true
  · have e : (cutG cs C nd).refs.getD i 0 = nd.refs.getD i 0 := by
      unfold cutG
      simp only
      split
      · rename_i q
        have hi : i ≠ 0 := by
          intro e
          subst e
          apply q.2
          unfold kndN
          rw [if_pos (by simpa using h)]
        rw [List.getD_eq_getElem?_getD, List.getD_eq_getElem?_getD, List.getElem?_set_ne (by omega)]
      · rfl
    rw [e]
  · rw [if_neg (fun q => h q.2), if_neg (fun q => h q.2)]

theorem behind_holds (hr : Rising L) {id : Int} (hin : id ∈ t) (hV : id ∈ ids L) : gholds cs (behind cs L t C F) id = gholds cs L id := by
  obtain ⟨nd, hnd, rfl⟩ := mem_ids.1 hV
  have hat := gat_at hr hnd
  unfold gholds
  rw [behind_at hr hin hat, hat]
  exact cut_held nd

theorem behind_aim (hr : Rising L) {id : Int} (hin : id ∈ t) (hV : id ∈ ids L) (hn : id ∉ C) : gaim cs (behind cs L t C F) id = gaim cs L id := by
  obtain ⟨nd, hnd, rfl⟩ := mem_ids.1 hV
  have hat := gat_at hr hnd
  have hc : cutG cs C nd = nd := by unfold cutG; simp [hn]
  unfold gaim
  rw [behind_at hr hin hat, hat, hc]
  rfl

theorem behind_kind (hr : Rising L) {id : Int} (hin : id ∈ t) (hV : id ∈ ids L) : (gaim cs (behind cs L t C F) id).2 = (gaim cs L id).2 := by
  obtain ⟨nd, hnd, rfl⟩ := mem_ids.1 hV
  have hat := gat_at hr hnd
  rw [gaim_kind (behind_at hr hin hat), gaim_kind hat]
  rfl

theorem behind_fin (hr : Rising L) {id : Int} (hin : id ∈ t) (hV : id ∈ ids L) : isFin (behind cs L t C F) id = (isFin L id && !decide (id ∈ F)) := by
  obtain ⟨nd, hnd, rfl⟩ := mem_ids.1 hV
  have hat := gat_at hr hnd
  unfold isFin
  rw [behind_at hr hin hat, hat]
  rfl

/-- what was live is live again -/
theorem behind_live (hr : Rising L) (hp : t.Pairwise (· < ·)) (ht : ∀ x ∈ t, x ∈ ids L) {keep keep' : Int → Bool} {roots roots' : List Int} (hst : ∀ x ∈ liveL cs L keep roots, x ∈ t)
    (hC : ∀ x ∈ C, lostB cs L (liveL cs L keep roots) x = true) (hk : ∀ x, keep x = true → keep' x = true) (hro : ∀ x ∈ roots, x ∈ roots') :
    ∀ x ∈ liveL cs L keep roots, x ∈ liveL cs (behind cs L t C F) keep' roots' := by
  intro x hx
  have hI := behind_ids (cs := cs) (C := C) (F := F) hr hp ht
  have h1 := mem_liveL.1 hx
  clear hx
  induction h1 with
  | root a b => exact mem_liveL.2 (.root (hro _ a) (by rw [hI]; exact hst _ (mem_liveL.2 (.root a b))))
  | @step x y h b c ih =>
    have hxl := mem_liveL.2 h
    have hyl := mem_liveL.2 (.step h b c)
    refine mem_liveL.2 (.step (mem_liveL.1 ih) ?_ (by rw [hI]; exact hst _ hyl))
    unfold nextK at b ⊢
    rcases List.mem_append.1 b with q | q
    · exact List.mem_append.2 (.inl (by rw [behind_holds hr (hst _ hxl) (live_ids hxl)]; exact q))
    · refine List.mem_append.2 (.inr ?_)
      unfold softTo at q ⊢
      split at q
      · rename_i e
        rw [List.mem_singleton] at q
        have hnC : x ∉ C := fun hc => (lostB_iff.1 (hC x hc)).2 (by rw [← q]; exact hyl)
        rw [behind_aim hr (hst _ hxl) (live_ids hxl) hnC, if_pos ⟨e.1, e.2.1, hk _ e.2.2⟩, q]
        simp
      · cases q

end

section
variable {cs : List Cls} {L : List GN} {keep : Int → Bool} {roots : List Int}

/-- the parts of a processing, as one -/
structure PR (cs : List Cls) (L : List GN) (keep : Int → Bool) (roots s t C F : List Int) : Prop where
  es : s = liveL cs L keep roots
  ef : F = finL L s
  et : t = endL cs L s
  ec : C = clear3 cs L s t

variable {s t C F : List Int}

theorem PR.sub (h : PR cs L keep roots s t C F) : ∀ x ∈ s, x ∈ t := by
  intro x hx
  rw [h.et]
  exact end_sub (fun y hy => live_ids (h.es ▸ hy)) x hx

theorem PR.t_ids (h : PR cs L keep roots s t C F) : ∀ x ∈ t, x ∈ ids L := fun x hx => end_ids (h.et ▸ hx)

theorem PR.t_up (h : PR cs L keep roots s t C F) (hr : Rising L) : t.Pairwise (· < ·) := by rw [h.et]; exact end_rising hr

theorem PR.t_held (h : PR cs L keep roots s t C F) : ∀ x ∈ t, ∀ y ∈ gholds cs L x, y ∈ ids L → y ∈ t := by
  intro x hx y hy hV
  rw [h.et] at hx ⊢
  exact end_held hx hy hV

theorem PR.mem_c (h : PR cs L keep roots s t C F) {id : Int} : id ∈ C ↔ (id ∈ s ∧ lostB cs L s id = true ∧ ((gaim cs L id).2 = 3 ∨ (gaim cs L id).2 = 4)) ∨ (id ∈ t ∧ lostB cs L t id = true ∧ ((gaim cs L id).2 = 3 ∨ (gaim cs L id).2 = 4)) ∨ (id ∈ t ∧ lostB cs L t id = true ∧ (gaim cs L id).2 = 5) := by
  rw [h.ec, mem_clear3, mem_clear2, mem_clear1, or_assoc]

theorem PR.c_lost (h : PR cs L keep roots s t C F) : ∀ x ∈ C, lostB cs L s x = true := by
  intro x hx
  rcases h.mem_c.1 hx with q | q | q
  · exact q.2.1
  · exact lostB_sub h.sub q.2.1
  · exact lostB_sub h.sub q.2.1

theorem PR.c_in (h : PR cs L keep roots s t C F) : ∀ x ∈ C, x ∈ t := by
  intro x hx
  rcases h.mem_c.1 hx with q | q | q
  · exact h.sub _ q.1
  · exact q.1
  · exact q.1

theorem PR.c_all (h : PR cs L keep roots s t C F) (hal : allRight cs = true) (hw : ∀ nd ∈ L, WfN cs nd) (hi : RefsIn L) : ∀ x ∈ t, lostB cs L t x = true → x ∈ C := by
  intro x hx hl
  rcases (lost_kind hal hw hi hl).2 with q | q | q
  · exact h.mem_c.2 (.inr (.inl ⟨hx, hl, .inl q⟩))
  · exact h.mem_c.2 (.inr (.inl ⟨hx, hl, .inr q⟩))
  · exact h.mem_c.2 (.inr (.inr ⟨hx, hl, q⟩))

theorem PR.behind (h : PR cs L keep roots s t C F) (hr : Rising L) (hal : allRight cs = true) (hw : ∀ nd ∈ L, WfN cs nd) (hi : RefsIn L) : applyL cs L C F t = behind cs L t C F :=
  apply_nodes hr hal hw hi h.t_held (h.c_all hal hw hi)

/-- nothing is cleared twice -/
theorem PR.c_once (h : PR cs L keep roots s t C F) (hr : Rising L) : C.Nodup := by
  have hs : s.Nodup := by rw [h.es]; exact (live_rising hr).imp (fun q => by omega)
  have ht : t.Nodup := (h.t_up hr).imp (fun q => by omega)
  have hc1 : (clear1 cs L s).Nodup := hs.filter _
  have hc2 : (clear2 cs L s t).Nodup := by
    unfold clear2
    rw [List.nodup_append]
    exact ⟨hc1, ht.filter _, fun a ha b hb e => (mem_clrL.1 hb).2.2.2 (e ▸ ha)⟩
  rw [h.ec]
  unfold clear3
  rw [List.nodup_append]
  exact ⟨hc2, ht.filter _, fun a ha b hb e => (mem_clrL.1 hb).2.2.2 (e ▸ ha)⟩

theorem PR.f_in (h : PR cs L keep roots s t C F) : ∀ x ∈ F, x ∈ t := by
  intro x hx
  rw [h.ef] at hx
  rw [h.et]
  exact end_fin x hx

theorem PR.mem_f (h : PR cs L keep roots s t C F) {id : Int} : id ∈ F ↔ id ∈ ids L ∧ isFin L id = true ∧ id ∉ s := by rw [h.ef, mem_finL]

/-- what stays is not to be finalized again -/
theorem PR.again (h : PR cs L keep roots s t C F) (hr : Rising L) {keep' : Int → Bool} {roots' : List Int} (hk : ∀ x, keep x = true → keep' x = true) (hro : ∀ x ∈ roots, x ∈ roots') :
    finL (Go.Proofs.Ytlmeponoadhheaa.behind cs L t C F) (liveL cs (Go.Proofs.Ytlmeponoadhheaa.behind cs L t C F) keep' roots') = [] := by
  rw [List.eq_nil_iff_forall_not_mem]
  intro x hx
  obtain ⟨h1, h2, h3⟩ := mem_finL.1 hx
  have hI := behind_ids (cs := cs) (C := C) (F := F) hr (h.t_up hr) h.t_ids
  have hxt : x ∈ t := hI ▸ h1
  rw [behind_fin hr hxt (h.t_ids x hxt)] at h2
  simp at h2
  have hxs : x ∈ s := Classical.byContradiction (fun q => h2.2 (h.mem_f.2 ⟨h.t_ids x hxt, h2.1, q⟩))
  rw [h.es] at hxs
  exact h3 (behind_live hr (h.t_up hr) h.t_ids (fun y hy => h.sub y (h.es ▸ hy)) (fun y hy => h.es ▸ h.c_lost y hy) hk hro x hxs)

theorem refsIn_keep (L : List GN) (ks : List Int) : RefsIn (keepL L ks) := by
  intro nd hnd y hy
  obtain ⟨old, ho, rfl⟩ := List.mem_map.1 hnd
  unfold cutN cutR at hy
  obtain ⟨z, hz, rfl⟩ := List.mem_map.1 hy
  split
  · rename_i e
    right
    rw [keepL_ids]; exact e
  · exact .inl rfl

/-- from all nodes nothing is lost -/
theorem lost_none (hal : allRight cs = true) (hw : ∀ nd ∈ L, WfN cs nd) (hi : RefsIn L) (id : Int) : lostB cs L (ids L) id = false := by
  cases h : lostB cs L (ids L) id with
  | false => rfl
  | true => exact absurd (lost_kind hal hw hi h).1 (lostB_iff.1 h).2

theorem PR.whole (h : PR cs L (fun _ => false) (ids L) s t C F) (hr : Rising L) (hal : allRight cs = true) (hw : ∀ nd ∈ L, WfN cs nd) (hi : RefsIn L) : s = ids L ∧ t = ids L ∧ C = [] ∧ F = [] := by
  have hs : s = ids L := by
    rw [h.es, live_none]
    exact close_of_closed hr (rising_ids hr) (fun _ q => q) (fun _ _ y _ q => q)
  have hf : F = [] := by
    rw [List.eq_nil_iff_forall_not_mem]
    intro x hx
    have := h.mem_f.1 hx
    exact this.2.2 (hs ▸ this.1)
  have ht : t = ids L := rising_ext (h.t_up hr) (rising_ids hr) (fun x => ⟨h.t_ids x, fun q => h.sub x (hs ▸ q)⟩)
  refine ⟨hs, ht, ?_, hf⟩
  rw [List.eq_nil_iff_forall_not_mem]
  intro x hx
  have := h.c_lost x hx
  rw [hs, lost_none hal hw hi] at this
  cases this

end

end Go.Proofs.Ytlmeponoadhheaa
