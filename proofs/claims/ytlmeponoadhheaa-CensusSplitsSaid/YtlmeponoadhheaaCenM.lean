/-
  The graphs of the laws of census, as lists of nodes; their rows; in plain terms.
-/
import Derived.Test.YtlmeponoadhheaaCen2
import Derived.Test.YtlmeponoadhheaaMade0
namespace Go.Proofs.Ytlmeponoadhheaa
set_option linter.unusedVariables false

/-! ### sums over all, by classes -/

theorem sa_split (p : R5 → Int) (c : Int) (X : List R5) : sa p X = sm p c X + sa p (X.filter fun r => decide (r.cls ≠ c)) := by
  induction X with
  | nil => rfl
  | cons x X ih =>
    by_cases h : x.cls = c
    · simp only [sa, sm, if_pos h, List.filter_cons, show decide (x.cls ≠ c) = false by simp [h], Bool.false_eq_true, if_false]; omega
    · simp only [sa, sm, if_neg h, List.filter_cons, show decide (x.cls ≠ c) = true by simp [h], if_true]; omega

theorem sm_filter (p : R5 → Int) (c d : Int) (X : List R5) : sm p d (X.filter fun r => decide (r.cls ≠ c)) = if d = c then 0 else sm p d X := by
  induction X with
  | nil => simp [sm]
  | cons x X ih =>
    by_cases h : x.cls = c
    · simp only [List.filter_cons, show decide (x.cls ≠ c) = false by simp [h], Bool.false_eq_true, if_false, ih, sm]
      repeat' split
      all_goals omega
    · simp only [List.filter_cons, show decide (x.cls ≠ c) = true by simp [h], if_true, sm, ih]
      repeat' split
      all_goals omega

theorem sa_zero (p : R5 → Int) (n : Nat) : ∀ X : List R5, X.length ≤ n → (∀ c, sm p c X = 0) → sa p X = 0 := by
  induction n with
  | zero =>
    intro X hX _
    have : X = [] := List.eq_nil_of_length_eq_zero (by omega)
    subst this; rfl
  | succ n ih =>
    intro X hX h
    cases X with
    | nil => rfl
    | cons x Y =>
      rw [sa_split p x.cls, h, ih]
      · rfl
      · simp only [List.filter_cons, show decide (x.cls ≠ x.cls) = false by simp, Bool.false_eq_true, if_false]
        have := List.length_filter_le (fun r : R5 => decide (r.cls ≠ x.cls)) Y
        simp only [List.length_cons] at hX
        omega
      · intro c
        rw [sm_filter, h]
        split <;> rfl

theorem sa_rows (p : R5 → Int) (L : List R5) : ∀ X : List R5, L.Pairwise (fun a b => a.cls < b.cls) → (∀ r ∈ L, p r = sm p r.cls X) → (∀ c, c ∉ L.map R5.cls → sm p c X = 0) → sa p L = sa p X := by
  induction L with
  | nil => intro X _ _ h; rw [sa_zero p _ X (Nat.le_refl _) (fun c => h c (by simp))]; rfl
  | cons a L ih =>
    intro X h1 h2 h3
    rw [List.pairwise_cons] at h1
    rw [sa_split p a.cls X, ← h2 a List.mem_cons_self]
    show p a + sa p L = _
    rw [ih (X.filter fun r => decide (r.cls ≠ a.cls)) h1.2]
    · intro r hr
      have := h1.1 r hr
      rw [sm_filter, if_neg (by omega)]
      exact h2 r (List.mem_cons_of_mem _ hr)
    · intro c hc
      rw [sm_filter]
      split
      · rfl
      · rename_i hd
        refine h3 c (fun h => ?_)
        rw [List.map_cons, List.mem_cons] at h
        exact h.elim hd hc

/-- the rows of rows together are all -/
theorem sa_of_rows {X L : List R5} (h : IsRows (fun c => S5 c X) L) : sa R5.cnt L = sa R5.cnt X ∧ sa R5.wds L = sa R5.wds X ∧ sa R5.refs L = sa R5.refs X ∧ sa R5.fin L = sa R5.fin X := by
  have hz : ∀ c, c ∉ L.map R5.cls → (S5 c X).nz = false := by
    intro c hc
    cases hn : (S5 c X).nz with
    | false => rfl
    | true => exact absurd (List.mem_map.2 ⟨_, (h.2 (S5 c X)).2 ⟨rfl, hn⟩, rfl⟩) hc
  have hz' := fun c hc => nz_false.1 (hz c hc)
  refine ⟨sa_rows _ L X h.1 ?_ (fun c hc => (hz' c hc).1), sa_rows _ L X h.1 ?_ (fun c hc => (hz' c hc).2.1), sa_rows _ L X h.1 ?_ (fun c hc => (hz' c hc).2.2.1), sa_rows _ L X h.1 ?_ (fun c hc => (hz' c hc).2.2.2)⟩
  all_goals
    intro r hr
    conv => lhs; rw [((h.2 r).1 hr).1]
    rfl

/-! ### a graph's rows -/

/-- how many references go anywhere -/
def live5 (rs : List Int) : Int := ((rs.filter fun t => decide (t ≠ 0)).length : Int)
def grow5 (nd : GN) : R5 := ⟨nd.cls, 1, 2 + nd.refs.length + nd.data.length, live5 nd.refs, if nd.fin then 1 else 0⟩
def grows (L : List GN) : List R5 := L.map grow5
/-- a graph's rows -/
def ofC (L : List GN) (c : Int) : R5 := S5 c (grows L)

theorem ofC_cls (L : List GN) (c : Int) : (ofC L c).cls = c := rfl

theorem live5_le (rs : List Int) : 0 ≤ live5 rs ∧ live5 rs ≤ rs.length := by
  unfold live5
  have := List.length_filter_le (fun t : Int => decide (t ≠ 0)) rs
  omega

theorem grow5_in {cs : List Cls} {nd : GN} (h : WfN cs nd) : (grow5 nd).In 200 := by
  have h1 := live5_le nd.refs
  have h2 := h.refs
  have h3 := h.data
  unfold R5.In grow5
  refine ⟨?_, ?_, ?_, ?_⟩ <;> simp only
  · omega
  · omega
  · omega
  · split <;> omega

theorem sa_cnt (L : List GN) : sa R5.cnt (grows L) = L.length := by
  induction L with
  | nil => rfl
  | cons a L ih => show 1 + sa R5.cnt (grows L) = _; rw [ih]; simp only [List.length_cons]; omega

theorem sa_wds (L : List GN) : sa R5.wds (grows L) = gwords L := by
  induction L with
  | nil => rfl
  | cons a L ih =>
    show (2 + (a.refs.length : Int) + a.data.length) + sa R5.wds (grows L) = _
    rw [ih]
    simp only [gwords, List.map_cons, List.sum_cons, wordsOfN]

/-- nodes that are parted: what is kept, and what goes -/
theorem sm_part (p : GN → Int) (c : Int) (q : GN → Bool) (L : List GN) :
    ((L.filter q).map fun nd => if nd.cls = c then p nd else 0).sum + ((L.filter fun nd => !q nd).map fun nd => if nd.cls = c then p nd else 0).sum = (L.map fun nd => if nd.cls = c then p nd else 0).sum := by
  induction L with
  | nil => rfl
  | cons a L ih =>
    cases h : q a
    · simp only [List.filter_cons, h, Bool.not_false, if_true, Bool.false_eq_true, if_false, List.map_cons, List.sum_cons]; omega
    · simp only [List.filter_cons, h, Bool.not_true, if_true, Bool.false_eq_true, if_false, List.map_cons, List.sum_cons]; omega

theorem sm_grows (p : R5 → Int) (c : Int) (L : List GN) : sm p c (grows L) = (L.map fun nd => if nd.cls = c then p (grow5 nd) else 0).sum := by
  induction L with
  | nil => rfl
  | cons a L ih => show (if a.cls = c then _ else 0) + sm p c (grows L) = _; rw [ih]; simp only [List.map_cons, List.sum_cons]

theorem cutR_length (S rs : List Int) : (cutR S rs).length = rs.length := by simp [cutR]

theorem live5_cons (a : Int) (l : List Int) : live5 (a :: l) = (if a = 0 then 0 else 1) + live5 l := by
  unfold live5
  by_cases h : a = 0
  · subst h; simp
  · rw [List.filter_cons, if_pos (by simpa using h), if_neg h, List.length_cons]; omega

theorem live5_cut (S rs : List Int) : live5 (cutR S rs) ≤ live5 rs := by
  induction rs with
  | nil => exact Int.le_refl _
  | cons a l ih =>
    have e : cutR S (a :: l) = (if a ∈ S then a else 0) :: cutR S l := rfl
    rw [e, live5_cons, live5_cons]
    by_cases h : a ∈ S
    · rw [if_pos h]; omega
    · rw [if_neg h, if_pos rfl]; split <;> omega

theorem keepL_rows (p : R5 → Int) (hp : ∀ S nd, p (grow5 (cutN S nd)) = p (grow5 nd)) (c : Int) (L : List GN) (ks : List Int) : sm p c (grows (keepL L ks)) = ((keepN L ks).map fun nd => if nd.cls = c then p (grow5 nd) else 0).sum := by
  rw [sm_grows]
  unfold keepL
  rw [List.map_map]
  congr 1
  refine List.map_congr_left (fun nd _ => ?_)
  show (if nd.cls = c then _ else _) = _
  rw [hp]

theorem keepL_refs (c : Int) (L : List GN) (ks : List Int) : sm R5.refs c (grows (keepL L ks)) ≤ ((keepN L ks).map fun nd => if nd.cls = c then (grow5 nd).refs else 0).sum := by
  rw [sm_grows]
  unfold keepL
  rw [List.map_map]
  generalize ids (keepN L ks) = S
  induction keepN L ks with
  | nil => simp
  | cons a M ih =>
    simp only [List.map_cons, List.sum_cons]
    have h1 := live5_cut S a.refs
    have h2 : (if (cutN S a).cls = c then (grow5 (cutN S a)).refs else 0) ≤ if a.cls = c then (grow5 a).refs else 0 := by
      show (if a.cls = c then live5 (cutR S a.refs) else 0) ≤ if a.cls = c then live5 a.refs else 0
      split <;> omega
    have h3 : ((fun nd => if nd.cls = c then (grow5 nd).refs else 0) ∘ cutN S) a = if (cutN S a).cls = c then (grow5 (cutN S a)).refs else 0 := rfl
    omega

/-- parted: the counts are as they were, the references no more -/
theorem part_rows {L : List GN} {A B : List Int} (h : ∀ nd ∈ L, (nd.id ∈ A ↔ nd.id ∉ B)) (c : Int) :
    sm R5.cnt c (grows (keepL L A)) + sm R5.cnt c (grows (keepL L B)) = sm R5.cnt c (grows L) ∧ sm R5.wds c (grows (keepL L A)) + sm R5.wds c (grows (keepL L B)) = sm R5.wds c (grows L) ∧
    sm R5.fin c (grows (keepL L A)) + sm R5.fin c (grows (keepL L B)) = sm R5.fin c (grows L) ∧ sm R5.refs c (grows (keepL L A)) + sm R5.refs c (grows (keepL L B)) ≤ sm R5.refs c (grows L) := by
  have e : keepN L B = L.filter fun nd => !(decide (nd.id ∈ A)) := by
    unfold keepN
    refine List.filter_congr (fun nd hnd => ?_)
    have := h nd hnd
    by_cases h1 : nd.id ∈ A
    · simp [h1, this.1 h1]
    · have h2 : nd.id ∈ B := Classical.byContradiction fun h2 => h1 (this.2 h2)
      simp [h1, h2]
  have hp : ∀ p : R5 → Int, ((keepN L A).map fun nd => if nd.cls = c then p (grow5 nd) else 0).sum + ((keepN L B).map fun nd => if nd.cls = c then p (grow5 nd) else 0).sum = sm p c (grows L) := by
    intro p
    rw [e, sm_grows]
    exact sm_part (fun nd => p (grow5 nd)) c (fun nd => decide (nd.id ∈ A)) L
  have hc : ∀ S nd, (grow5 (cutN S nd)).wds = (grow5 nd).wds := fun S nd => by
    show 2 + ((cutR S nd.refs).length : Int) + nd.data.length = _
    rw [cutR_length]; rfl
  refine ⟨?_, ?_, ?_, ?_⟩
  · rw [keepL_rows R5.cnt (fun _ _ => rfl), keepL_rows R5.cnt (fun _ _ => rfl)]; exact hp _
  · rw [keepL_rows R5.wds hc, keepL_rows R5.wds hc]; exact hp _
  · rw [keepL_rows R5.fin (fun _ _ => rfl), keepL_rows R5.fin (fun _ _ => rfl)]; exact hp _
  · have := hp R5.refs
    have h1 := keepL_refs c L A
    have h2 := keepL_refs c L B
    omega

/-! ### the graphs of the laws -/

def lenC (cs : List Cls) (k x : Int) : Int := if kindOf cs k = 2 then x / 64 else 0

def stepC (cs : List Cls) (L : List GN) (j : Nat) (x : Int) : List GN :=
  let L1 := setRefL (addL cs L ((j : Int) + 1) (kM cs x) (lenC cs (kM cs x) x)) ((j : Int) + 1) 0 j
  if x % 5 = 0 then doneL L1 ((j : Int) + 1) else L1

def madC (cs : List Cls) (ns : List Int) : Nat → List GN
  | 0 => []
  | j + 1 => stepC cs (madC cs ns j) j (ns.getD j 0)

def nodeC (cs : List Cls) (j : Nat) (x : Int) : GN :=
  let nd := newNode cs ((j : Int) + 1) (kM cs x) (lenC cs (kM cs x) x)
  ⟨nd.id, nd.cls, nd.refs.set 0 j, nd.data, if x % 5 = 0 then false else nd.fin⟩

theorem gat_end {L : List GN} {nd : GN} (h : nd.id ∉ ids L) : gat (L ++ [nd]) nd.id = some nd := by
  unfold gat
  rw [List.find?_append]
  have : L.find? (fun x => x.id == nd.id) = none := by
    rw [List.find?_eq_none]
    intro x hx e
    exact h (mem_ids.2 ⟨x, hx, by simpa using e⟩)
  rw [this]
  simp

theorem upd_end {L : List GN} {nd : GN} (h : nd.id ∉ ids L) (g : GN → GN) : upd (L ++ [nd]) nd.id g = L ++ [g nd] := by
  have h1 := upd_out (g := g) h
  unfold upd at h1 ⊢
  rw [List.map_append, h1]
  simp

theorem shapeN {cs : List Cls} {k x : Int} (h1 : 1 ≤ k) (h2 : k ≤ cs.length) (hx : 0 ≤ x ∧ x ≤ 255) : (shapeC cs k (lenC cs k x)).2.2 = 0 := by
  have hk : kindOf cs k = (cs[(k - 1).toNat]'(by omega)).kind := by
    unfold kindOf
    rw [List.getD_eq_getElem?_getD, List.getElem?_eq_getElem (by omega)]
    rfl
  unfold shapeC
  rw [dif_pos ⟨h1, h2⟩]
  unfold lenC
  rw [hk]
  generalize cs[(k - 1).toNat]'(by omega) = c
  unfold shape1
  by_cases e : c.kind = 2
  · rw [if_pos e, if_neg (by omega), if_neg (by omega)]
  · rw [if_neg e, if_neg (by omega), if_neg (by omega)]

theorem stepC_eq {cs : List Cls} (hp : 0 < cs.length) {L : List GN} {j : Nat} (hi : ids L = idsTo j) {x : Int} (hx : 0 ≤ x ∧ x ≤ 255) : stepC cs L j x = L ++ [nodeC cs j x] := by
  have hk := kM_in hp x
  have hs := shapeN hk.1 hk.2 hx
  have hout : ((j : Int) + 1) ∉ ids L := by rw [hi, mem_idsTo]; omega
  have hadd : addL cs L ((j : Int) + 1) (kM cs x) (lenC cs (kM cs x) x) = L ++ [newNode cs ((j : Int) + 1) (kM cs x) (lenC cs (kM cs x) x)] := by
    unfold addL
    rw [if_pos, ins_end]
    · intro a ha
      have : a.id ∈ ids L := mem_ids.2 ⟨a, ha, rfl⟩
      rw [hi, mem_idsTo] at this
      show a.id < (j : Int) + 1
      omega
    · unfold addE
      rw [if_neg (by simpa using hs), if_neg (by rintro (e | e) <;> first | omega | exact hout e)]
  unfold stepC
  rw [hadd]
  unfold nodeC
  generalize hn : newNode cs ((j : Int) + 1) (kM cs x) (lenC cs (kM cs x) x) = nd
  have hid : nd.id = (j : Int) + 1 := by rw [← hn]; rfl
  rw [← hid] at hout ⊢
  have hset : setRefL (L ++ [nd]) nd.id 0 j = L ++ [{ nd with refs := nd.refs.set 0 j }] := by
    by_cases hl : (0 : Int) < nd.refs.length
    · have hE : setRefE (L ++ [nd]) nd.id 0 j = 0 := by
        unfold setRefE
        rw [gat_end hout]
        simp only
        rw [if_pos ⟨Int.le_refl _, hl⟩, if_neg]
        rintro ⟨h1, h2⟩
        apply h2
        unfold ids
        rw [List.map_append, List.mem_append]
        left
        show (j : Int) ∈ ids L
        rw [hi, mem_idsTo]
        omega
      unfold setRefL
      rw [if_pos hE, upd_end hout]
      rfl
    · have h0 : nd.refs = [] := List.eq_nil_of_length_eq_zero (by omega)
      have hE : ¬ setRefE (L ++ [nd]) nd.id 0 j = 0 := by
        unfold setRefE
        rw [gat_end hout]
        simp only
        rw [if_neg (by omega)]
        decide
      unfold setRefL
      rw [if_neg hE]
      cases nd
      simp only at h0
      subst h0
      rfl
  simp only
  rw [hset]
  split
  · unfold doneL
    have := upd_end (L := L) (nd := { nd with refs := nd.refs.set 0 j }) hout (fun nd => { nd with fin := false })
    exact this
  · rfl

theorem madC_ids {cs : List Cls} (hp : 0 < cs.length) {ns : List Int} (hx : ∀ x ∈ ns, 0 ≤ x ∧ x ≤ 255) (j : Nat) : ids (madC cs ns j) = idsTo j ∧ madC cs ns (j + 1) = madC cs ns j ++ [nodeC cs j (ns.getD j 0)] := by
  have hb : ∀ j, 0 ≤ ns.getD j 0 ∧ ns.getD j 0 ≤ 255 := by
    intro j
    rw [List.getD_eq_getElem?_getD]
    by_cases h : j < ns.length
    · rw [List.getElem?_eq_getElem h]; exact hx _ (List.getElem_mem h)
    · rw [List.getElem?_eq_none (by omega)]; simp
  have h0 : ∀ j, ids (madC cs ns j) = idsTo j := by
    intro j
    induction j with
    | zero => rfl
    | succ j ih =>
      show ids (stepC cs (madC cs ns j) j (ns.getD j 0)) = _
      rw [stepC_eq hp ih (hb j)]
      unfold ids at ih ⊢
      rw [List.map_append, ih]
      unfold idsTo
      rw [List.range_succ, List.map_append]
      rfl
  exact ⟨h0 j, stepC_eq hp (h0 j) (hb j)⟩

/-- the graph of some nodes -/
def graphC (cs : List Cls) (ns : List Int) : List GN := madC cs ns ns.length

theorem madC_congr (cs : List Cls) (ns : List Int) (x : Int) (j : Nat) (hj : j ≤ ns.length) : madC cs (ns ++ [x]) j = madC cs ns j := by
  induction j with
  | zero => rfl
  | succ j ih =>
    show stepC cs (madC cs (ns ++ [x]) j) j ((ns ++ [x]).getD j 0) = stepC cs (madC cs ns j) j (ns.getD j 0)
    rw [ih (by omega)]
    simp only [List.getD_eq_getElem?_getD]
    rw [List.getElem?_append_left (by omega)]

theorem graphC_snoc {cs : List Cls} (hp : 0 < cs.length) {ns : List Int} (hx : ∀ x ∈ ns, 0 ≤ x ∧ x ≤ 255) {x : Int} (hb : 0 ≤ x ∧ x ≤ 255) : graphC cs (ns ++ [x]) = graphC cs ns ++ [nodeC cs ns.length x] := by
  unfold graphC
  rw [List.length_append, List.length_singleton]
  rw [(madC_ids hp (ns := ns ++ [x]) (by
    intro y hy
    rcases List.mem_append.1 hy with h | h
    · exact hx y h
    · rw [List.mem_singleton.1 h]; exact hb) ns.length).2, madC_congr cs ns x _ (Nat.le_refl _)]
  simp

theorem graphC_ids {cs : List Cls} (hp : 0 < cs.length) {ns : List Int} (hx : ∀ x ∈ ns, 0 ≤ x ∧ x ≤ 255) : ids (graphC cs ns) = idsTo ns.length := (madC_ids hp hx _).1

theorem graphC_len {cs : List Cls} (hp : 0 < cs.length) {ns : List Int} (hx : ∀ x ∈ ns, 0 ≤ x ∧ x ≤ 255) : (graphC cs ns).length = ns.length := by
  have := congrArg List.length (graphC_ids (cs := cs) hp hx)
  simpa [ids, idsTo] using this

/-- a node refers to the one ahead, or to none -/
theorem nodeC_refs {cs : List Cls} {j : Nat} {x : Int} : ∀ t ∈ (nodeC cs j x).refs, t = 0 ∨ t = j := by
  intro t ht
  unfold nodeC newNode at ht
  simp only at ht
  rcases List.mem_or_eq_of_mem_set ht with h | h
  · exact .inl (List.eq_of_mem_replicate h)
  · exact .inr h

theorem madC_refs {cs : List Cls} (hp : 0 < cs.length) {ns : List Int} (hx : ∀ x ∈ ns, 0 ≤ x ∧ x ≤ 255) (j : Nat) : ∀ nd ∈ madC cs ns j, ∀ t ∈ nd.refs, t = 0 ∨ (1 ≤ t ∧ t ≤ j) := by
  induction j with
  | zero => intro nd h; cases h
  | succ j ih =>
    rw [(madC_ids hp hx j).2]
    intro nd hnd t ht
    rcases List.mem_append.1 hnd with h | h
    · rcases ih nd h t ht with e | e
      · exact .inl e
      · exact .inr (by omega)
    · rw [List.mem_singleton.1 h] at ht
      rcases nodeC_refs t ht with e | e
      · exact .inl e
      · omega

/-- kept: all but the last node -/
theorem keep_snoc {cs : List Cls} (hp : 0 < cs.length) {ns : List Int} (hx : ∀ x ∈ ns, 0 ≤ x ∧ x ≤ 255) (x : Int) : keepL (graphC cs ns ++ [nodeC cs ns.length x]) (idsTo ns.length) = graphC cs ns := by
  have hi := graphC_ids (cs := cs) hp hx
  have hk : keepN (graphC cs ns ++ [nodeC cs ns.length x]) (idsTo ns.length) = graphC cs ns := by
    unfold keepN
    rw [List.filter_append]
    have h1 : (graphC cs ns).filter (fun nd => decide (nd.id ∈ idsTo ns.length)) = graphC cs ns := by
      rw [List.filter_eq_self]
      intro nd hnd
      rw [← hi]
      simpa using mem_ids.2 ⟨nd, hnd, rfl⟩
    have h2 : [nodeC cs ns.length x].filter (fun nd => decide (nd.id ∈ idsTo ns.length)) = [] := by
      have : (nodeC cs ns.length x).id ∉ idsTo ns.length := by
        rw [mem_idsTo]; show ¬ (1 ≤ (ns.length : Int) + 1 ∧ (ns.length : Int) + 1 ≤ ns.length); omega
      simp [this]
    rw [h1, h2, List.append_nil]
  unfold keepL
  rw [hk, hi]
  have : ∀ nd ∈ graphC cs ns, cutN (idsTo ns.length) nd = nd := by
    intro nd hnd
    unfold cutN cutR
    have h1 : nd.refs.map (fun t => if t ∈ idsTo ns.length then t else 0) = nd.refs := by
      have h2 : ∀ t ∈ nd.refs, (fun t => if t ∈ idsTo ns.length then t else 0) t = id t := by
        intro t ht
        rcases madC_refs hp hx _ nd hnd t ht with e | e
        · subst e; simp
        · show (if _ then _ else _) = t
          rw [if_pos (mem_idsTo.2 e)]
      rw [List.map_congr_left h2, List.map_id]
    rw [h1]
  rw [List.map_congr_left this, List.map_id']

theorem grows_snoc (L : List GN) (nd : GN) (c : Int) : dr (grows (L ++ [nd])) (grows L) c = if nd.cls = c then ⟨c, 1, 2 + nd.refs.length + nd.data.length, live5 nd.refs, if nd.fin then 1 else 0⟩ else ⟨c, 0, 0, 0, 0⟩ := by
  rw [dr_eq]
  unfold grows
  rw [List.map_append]
  simp only [sm_append, List.map_cons, List.map_nil, sm]
  show R5.mk _ _ _ _ _ = _
  by_cases h : nd.cls = c
  · have h' : (grow5 nd).cls = c := h
    rw [if_pos h]
    simp only [if_pos h']
    exact R5.ext4 rfl (by simp only [grow5]; omega) (by simp only [grow5]; omega) (by simp only [grow5]; omega) (by simp only [grow5]; omega)
  · have h' : ¬ (grow5 nd).cls = c := h
    rw [if_neg h]
    simp only [if_neg h']
    exact R5.ext4 rfl (by simp only; omega) (by simp only; omega) (by simp only; omega) (by simp only; omega)

/-- of two graphs' rows: what is more -/
theorem dr_rows {X Y A B : List R5} (hA : IsRows (fun c => S5 c X) A) (hB : IsRows (fun c => S5 c Y) B) (c : Int) : dr A B c = dr X Y c := by
  unfold dr
  rw [hA.S5 (fun _ => rfl) c, hB.S5 (fun _ => rfl) c]

end Go.Proofs.Ytlmeponoadhheaa
