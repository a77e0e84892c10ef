/-
  What is reached: plain words, and plain laws; a search by a list of what is to do.
-/
import Derived.Test.YtlmeponoadhheaaGr
namespace Go.Proofs.Ytlmeponoadhheaa
set_option linter.unusedVariables false

/-- what is reached inside V, from S, by nx -/
inductive Rch (V : List Int) (nx : Int → List Int) (S : Int → Prop) : Int → Prop
  | root {x : Int} : S x → x ∈ V → Rch V nx S x
  | step {x y : Int} : Rch V nx S x → y ∈ nx x → y ∈ V → Rch V nx S y

theorem Rch.inV {V : List Int} {nx : Int → List Int} {S : Int → Prop} {x : Int} (h : Rch V nx S x) : x ∈ V := by
  cases h with
  | root _ h => exact h
  | step _ _ h => exact h

theorem Rch.mono {V : List Int} {nx nx' : Int → List Int} {S S' : Int → Prop} (hn : ∀ x, Rch V nx' S' x → ∀ y ∈ nx x, y ∈ V → Rch V nx' S' y) (hS : ∀ x, x ∈ V → S x → Rch V nx' S' x) {x : Int} (h : Rch V nx S x) : Rch V nx' S' x := by
  induction h with
  | root h1 h2 => exact hS _ h2 h1
  | step _ h2 h3 ih => exact hn _ ih _ h2 h3

theorem Rch.mono' {V : List Int} {nx nx' : Int → List Int} {S S' : Int → Prop} (hn : ∀ x y, y ∈ nx x → y ∈ nx' x) (hS : ∀ x, S x → S' x) {x : Int} (h : Rch V nx S x) : Rch V nx' S' x :=
  h.mono (fun _ hx y hy hV => .step hx (hn _ y hy) hV) (fun _ hV hs => .root (hS _ hs) hV)

/-- what is reached from what is reached -/
theorem Rch.idem {V : List Int} {nx : Int → List Int} {S : Int → Prop} {x : Int} (h : Rch V nx (fun y => Rch V nx S y) x) : Rch V nx S x := by
  induction h with
  | root h1 _ => exact h1
  | step _ h2 h3 ih => exact .step ih h2 h3

open Classical in
/-- .. in V's order -/
noncomputable def rchL (V : List Int) (nx : Int → List Int) (S : Int → Prop) : List Int := V.filter (fun x => decide (Rch V nx S x))

open Classical in
theorem mem_rchL {V : List Int} {nx : Int → List Int} {S : Int → Prop} {x : Int} : x ∈ rchL V nx S ↔ Rch V nx S x := by
  unfold rchL
  rw [List.mem_filter]
  constructor
  · rintro ⟨_, h⟩; exact of_decide_eq_true h
  · intro h; exact ⟨h.inV, decide_eq_true h⟩

theorem rchL_sub {V : List Int} {nx : Int → List Int} {S : Int → Prop} : (rchL V nx S).Sublist V := List.filter_sublist

theorem rchL_len {V : List Int} {nx : Int → List Int} {S : Int → Prop} : (rchL V nx S).length ≤ V.length := rchL_sub.length_le

theorem rchL_rising {V : List Int} {nx : Int → List Int} {S : Int → Prop} (h : V.Pairwise (· < ·)) : (rchL V nx S).Pairwise (· < ·) := h.sublist rchL_sub

theorem rchL_congr {V : List Int} {nx nx' : Int → List Int} {S S' : Int → Prop} (h : ∀ x, Rch V nx S x ↔ Rch V nx' S' x) : rchL V nx S = rchL V nx' S' := by
  unfold rchL
  congr 1
  funext x
  rw [h x]

/-- two lists that rise and have the same members are one -/
theorem rising_ext {xs ys : List Int} (hx : xs.Pairwise (· < ·)) (hy : ys.Pairwise (· < ·)) (h : ∀ x, x ∈ xs ↔ x ∈ ys) : xs = ys := by
  have hp : xs.Perm ys := by
    rw [List.perm_ext_iff_of_nodup (hx.imp (fun h => by omega)) (hy.imp (fun h => by omega))]
    exact h
  exact List.Perm.eq_of_pairwise (le := fun a b => a < b) (fun a b _ _ h1 h2 => by omega) hx hy hp

theorem nodup_len {s : List Int} (hn : s.Nodup) : ∀ {V : List Int}, (∀ x ∈ s, x ∈ V) → s.length ≤ V.length := by
  induction s with
  | nil => intro V _; simp
  | cons a s ih =>
    intro V h
    have ha : a ∈ V := h a (by simp)
    rw [List.nodup_cons] at hn
    have h1 := ih hn.2 (V := V.erase a) (fun x hx => (List.mem_erase_of_ne (fun e => hn.1 (by rw [← e]; exact hx))).2 (h x (by simp [hx])))
    have h2 := List.length_erase_of_mem ha
    have h3 := List.length_pos_of_mem ha
    rw [List.length_cons]
    omega

/-- a search that goes on: what was seen, what is to do -/
structure Srch (V : List Int) (nx : Int → List Int) (S : Int → Prop) (seen todo : List Int) : Prop where
  nd : seen.Nodup
  a : ∀ s ∈ seen, Rch V nx S s
  b : ∀ t ∈ todo, t ∈ V → Rch V nx S t
  c : ∀ x, S x → x ∈ V → x ∈ seen ∨ x ∈ todo
  d : ∀ s ∈ seen, ∀ y ∈ nx s, y ∈ V → y ∈ seen ∨ y ∈ todo

section
variable {V : List Int} {nx : Int → List Int} {S : Int → Prop} {seen todo : List Int}

theorem Srch.start (h : ∀ x, x ∈ V → (S x ↔ x ∈ todo)) : Srch V nx S [] todo :=
  ⟨List.nodup_nil, fun _ h => (by cases h), fun t ht hV => .root ((h t hV).2 ht) hV, fun x hs hV => .inr ((h x hV).1 hs), fun _ h => (by cases h)⟩

theorem Srch.new {x : Int} (h : Srch V nx S seen (todo ++ [x])) (hV : x ∈ V) (hn : x ∉ seen) : Srch V nx S (seen ++ [x]) (todo ++ nx x) := by
  have hx : Rch V nx S x := h.b x (by simp) hV
  refine ⟨?_, ?_, ?_, ?_, ?_⟩
  · rw [List.nodup_append]
    exact ⟨h.nd, by simp, fun a ha b hb e => hn (by simp at hb; rw [← hb, ← e]; exact ha)⟩
  · intro s hs
    rcases List.mem_append.1 hs with hs | hs
    · exact h.a s hs
    · simp at hs; rw [hs]; exact hx
  · intro t ht htV
    rcases List.mem_append.1 ht with ht | ht
    · exact h.b t (by simp [ht]) htV
    · exact .step hx ht htV
  · intro y hs hy
    rcases h.c y hs hy with q | q
    · exact .inl (by simp [q])
    · rcases List.mem_append.1 q with q | q
      · exact .inr (by simp [q])
      · simp at q; exact .inl (by simp [q])
  · intro s hs y hy hyV
    rcases List.mem_append.1 hs with hs | hs
    · rcases h.d s hs y hy hyV with q | q
      · exact .inl (by simp [q])
      · rcases List.mem_append.1 q with q | q
        · exact .inr (by simp [q])
        · simp at q; exact .inl (by simp [q])
    · simp at hs; rw [hs] at hy; exact .inr (by simp [hy])

theorem Srch.old {x : Int} (h : Srch V nx S seen (todo ++ [x])) (hn : x ∉ V ∨ x ∈ seen) : Srch V nx S seen todo := by
  have key : ∀ y, y ∈ V → (y ∈ seen ∨ y ∈ todo ++ [x]) → y ∈ seen ∨ y ∈ todo := by
    intro y hy q
    rcases q with q | q
    · exact .inl q
    · rcases List.mem_append.1 q with q | q
      · exact .inr q
      · simp at q
        rcases hn with e | e
        · exact absurd (q ▸ hy) e
        · exact .inl (q ▸ e)
  exact ⟨h.nd, h.a, fun t ht => h.b t (by simp [ht]), fun y hs hy => key y hy (h.c y hs hy), fun s hs y hy hyV => key y hyV (h.d s hs y hy hyV)⟩

theorem Srch.done (h : Srch V nx S seen []) (x : Int) : x ∈ seen ↔ Rch V nx S x := by
  constructor
  · exact h.a x
  · intro hr
    induction hr with
    | root h1 h2 => exact (h.c _ h1 h2).resolve_right (by simp)
    | step _ h2 h3 ih => exact (h.d _ ih _ h2 h3).resolve_right (by simp)

theorem Srch.len (h : Srch V nx S seen todo) : seen.length ≤ V.length := by
  exact nodup_len h.nd (fun x hx => (h.a x hx).inV)

theorem Srch.lenS {x : Int} (h : Srch V nx S seen (todo ++ [x])) (hV : x ∈ V) (hn : x ∉ seen) : seen.length + 1 ≤ V.length := by
  have := (h.new hV hn).len
  simpa using this

end

/-! ### of graphs -/

def goesB (kind level : Int) : Bool := (kind == 3 && decide (2 ≤ level)) || (kind == 4 && decide (3 ≤ level)) || (kind == 5 && decide (5 ≤ level))

/-- where a node's aim leads within a level -/
def aimTo (cs : List Cls) (L : List GN) (level id : Int) : List Int := if (gaim cs L id).1 ≠ 0 ∧ goesB (gaim cs L id).2 level = true then [(gaim cs L id).1] else []

def nextL (cs : List Cls) (L : List GN) (level id : Int) : List Int := gholds cs L id ++ aimTo cs L level id

/-- names of nodes that are to be finalized -/
def finalsL (L : List GN) : List Int := ids (L.filter (fun nd => nd.fin))

/-- where a search starts -/
def startL (L : List GN) (level : Int) (roots : List Int) : List Int := roots ++ (if 4 ≤ level then finalsL L else [])

noncomputable def closeL (cs : List Cls) (L : List GN) (level : Int) (roots : List Int) : List Int := rchL (ids L) (nextL cs L level) (fun x => x ∈ startL L level roots)

noncomputable def withinL (cs : List Cls) (L : List GN) (level : Int) (roots : List Int) : List Int := if level < 1 then [] else closeL cs L level roots

open Classical in
noncomputable def ofL (cs : List Cls) (L : List GN) (id : Int) (roots : List Int) : Int :=
  if id ∈ closeL cs L 1 roots then 1 else if id ∈ closeL cs L 2 roots then 2 else if id ∈ closeL cs L 3 roots then 3 else if id ∈ closeL cs L 4 roots then 4 else if id ∈ closeL cs L 5 roots then 5 else 0

theorem gholds_len {cs : List Cls} {L : List GN} (hw : ∀ nd ∈ L, WfN cs nd) (id : Int) : (gholds cs L id).length ≤ 60 := by
  unfold gholds
  split
  · simp
  · rename_i nd h
    have h1 := (hw nd (gat_mem h).1).refs
    have h2 := heldTo_len cs nd nd.refs.length
    unfold held
    omega

theorem nextL_len {cs : List Cls} {L : List GN} (hw : ∀ nd ∈ L, WfN cs nd) (level id : Int) : (nextL cs L level id).length ≤ 61 := by
  have := gholds_len hw id
  unfold nextL aimTo
  rw [List.length_append]
  split <;> simp <;> omega

theorem rising_ids {L : List GN} (h : Rising L) : (ids L).Pairwise (· < ·) := by
  unfold ids
  rw [List.pairwise_map]
  exact h

theorem finalsL_len (L : List GN) : (finalsL L).length ≤ L.length := by
  unfold finalsL ids
  rw [List.length_map]
  exact List.length_filter_le _ _

end Go.Proofs.Ytlmeponoadhheaa
