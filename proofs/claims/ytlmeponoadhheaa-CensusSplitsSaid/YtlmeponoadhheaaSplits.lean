/-
  CensusSplits: the plain part; booleans that came in.
-/
import Derived.Test.YtlmeponoadhheaaCounts19
import Derived.Test.YtlmeponoadhheaaMade19b
import Derived.Test.YtlmeponoadhheaaWArg
namespace Go.Proofs.Ytlmeponoadhheaa
set_option linter.unusedVariables false
open Go.ChangeShapes Go.WideShapes Go.ChangeAt Go.RowKit

section
variable {H : Type} {enc : TypeId × Value → H}

theorem RD.bool1 {W : World} {cs : List Value} (h : RD enc Try.prog W 4 cs) : ∃ b : Bool, cs = [.bool b] := RD.bool Try.underlying4 h

set_option maxRecDepth 100000 in
theorem open_bools {r : Reach} {b0 : Nat} {W : World} {v : Value} {d : DataW H} {p : List MemPlace} (hok : Value.okWide Try.prog W r b0 121 v) (h : DataW.Trod enc Try.prog W 0 (fun _ => true) true 121 v d p) :
    ∃ l : List Bool, Sees (fun k => k < W.heap.size) W v 1 l.length (l.map Value.bool) := by
  obtain ⟨n, cs, hs, hi⟩ := open_sees (k := 1) Try.underlying121 (by kernel_rfl) (by omega) hok h
  obtain ⟨F, hF⟩ := Go.Deep.choose_lt (α := Bool) (n := n) (p := fun i x => cs i = [.bool x]) (fun i hlt => RD.bool1 (hi i hlt).2)
  refine ⟨(List.range n).map F, ?_⟩
  have : (List.range n).flatMap cs = ((List.range n).map F).map Value.bool := by
    rw [List.map_map, show (List.range n).map (Value.bool ∘ F) = (List.range n).flatMap (fun i => [Value.bool (F i)]) from by induction List.range n with
      | nil => rfl
      | cons a l ih => simp only [List.map_cons, List.flatMap_cons, ih]; rfl]
    exact Go.Deep.flatMap_congr_range fun i hi => hF i hi
  rw [this] at hs
  rw [List.length_map, List.length_range]
  exact hs

end

/-- the names that are kept (yes) or not, of the first j -/
def namesB (ks : List Bool) (b : Bool) (j : Nat) : List Int := ((List.range j).filter fun i => ks.getD i false == b).map fun (i : Nat) => (i : Int) + 1

theorem namesB_succ (ks : List Bool) (b : Bool) (j : Nat) : namesB ks b (j + 1) = namesB ks b j ++ (if (ks.getD j false == b) = true then [(j : Int) + 1] else []) := by
  unfold namesB
  rw [List.range_succ, List.filter_append, List.map_append]
  congr 1
  by_cases h : (ks.getD j false == b) = true
  · rw [if_pos h, List.filter_cons, if_pos h]; rfl
  · rw [if_neg h, List.filter_cons, if_neg h]; rfl

theorem namesB_len (ks : List Bool) (b : Bool) (j : Nat) : (namesB ks b j).length ≤ j := by
  unfold namesB
  rw [List.length_map]
  have := List.length_filter_le (fun i => ks.getD i false == b) (List.range j)
  rw [List.length_range] at this
  exact this

theorem mem_namesB {ks : List Bool} {b : Bool} {n : Nat} {x : Int} : x ∈ namesB ks b n ↔ ∃ i : Nat, i < n ∧ ks.getD i false = b ∧ x = (i : Int) + 1 := by
  unfold namesB
  rw [List.mem_map]
  constructor
  · rintro ⟨i, hi, rfl⟩
    obtain ⟨h1, h2⟩ := List.mem_filter.1 hi
    exact ⟨i, List.mem_range.1 h1, by simpa using h2, rfl⟩
  · rintro ⟨i, h1, h2, rfl⟩
    exact ⟨i, List.mem_filter.2 ⟨List.mem_range.2 h1, by simpa using h2⟩, rfl⟩

theorem names_part {ks : List Bool} {n : Nat} {x : Int} (h : x ∈ idsTo n) : x ∈ namesB ks true n ↔ x ∉ namesB ks false n := by
  rw [mem_idsTo] at h
  rw [mem_namesB, mem_namesB]
  constructor
  · rintro ⟨i, -, h2, h3⟩ ⟨i', -, h5, h6⟩
    have : i = i' := by omega
    subst this
    rw [h2] at h5; cases h5
  · intro hn
    refine ⟨(x - 1).toNat, by omega, ?_, by omega⟩
    cases hb : ks.getD (x - 1).toNat false with
    | true => rfl
    | false => exact absurd ⟨(x - 1).toNat, by omega, hb, by omega⟩ hn

theorem sum_part (p : GN → Int) (q : GN → Bool) (L : List GN) : ((L.filter q).map p).sum + ((L.filter fun nd => !q nd).map p).sum = (L.map p).sum := by
  induction L with
  | nil => rfl
  | cons a L ih =>
    cases h : q a
    · simp only [List.filter_cons, h, Bool.not_false, if_true, Bool.false_eq_true, if_false, List.map_cons, List.sum_cons]; omega
    · simp only [List.filter_cons, h, Bool.not_true, if_true, Bool.false_eq_true, if_false, List.map_cons, List.sum_cons]; omega

theorem gwords_keepL (L : List GN) (ks : List Int) : gwords (keepL L ks) = ((keepN L ks).map wordsOfN).sum := by
  unfold gwords keepL
  rw [List.map_map]
  congr 1
  refine List.map_congr_left (fun nd _ => ?_)
  show 2 + ((cutR _ nd.refs).length : Int) + nd.data.length = wordsOfN nd
  rw [cutR_length]; rfl

theorem gwords_part {L : List GN} {A B : List Int} (h : ∀ nd ∈ L, (nd.id ∈ A ↔ nd.id ∉ B)) : gwords (keepL L A) + gwords (keepL L B) = gwords L := by
  rw [gwords_keepL, gwords_keepL]
  have e : keepN L B = L.filter fun nd => !(decide (nd.id ∈ A)) := by
    unfold keepN
    refine List.filter_congr (fun nd hnd => ?_)
    have := h nd hnd
    by_cases h1 : nd.id ∈ A
    · simp [h1, this.1 h1]
    · have h2 : nd.id ∈ B := Classical.byContradiction fun h2 => h1 (this.2 h2)
      simp [h1, h2]
  rw [e]
  exact sum_part wordsOfN (fun nd => decide (nd.id ∈ A)) L

/-- what is more in the whole than in its parts -/
theorem split_rows {L : List GN} {A B : List Int} (h : ∀ nd ∈ L, (nd.id ∈ A ↔ nd.id ∉ B)) {X Y Z D : List R5} (hX : IsRows (fun c => S5 c (grows L)) X) (hY : IsRows (fun c => S5 c (grows (keepL L A))) Y) (hZ : IsRows (fun c => S5 c (grows (keepL L B))) Z)
    (hD : IsRows (dr X (Y ++ Z)) D) : ∀ r ∈ D, r.cnt = 0 ∧ r.wds = 0 ∧ r.fin = 0 ∧ 0 ≤ r.refs := by
  intro r hr
  have h1 := ((hD.2 r).1 hr).1
  have hx := hX.S5 (fun _ => rfl) r.cls
  have hy := hY.S5 (fun _ => rfl) r.cls
  have hz := hZ.S5 (fun _ => rfl) r.cls
  have p := part_rows h r.cls
  rw [dr_eq] at h1
  simp only [sm_append] at h1
  unfold S5 at hx hy hz
  simp only [R5.mk.injEq, true_and] at hx hy hz
  rw [h1]
  simp only
  omega

theorem split_words {L : List GN} {A B : List Int} (h : ∀ nd ∈ L, (nd.id ∈ A ↔ nd.id ∉ B)) {Y Z : List R5} (hY : IsRows (fun c => S5 c (grows (keepL L A))) Y) (hZ : IsRows (fun c => S5 c (grows (keepL L B))) Z) : (tot (Y ++ Z)).wds = gwords L := by
  rw [tot_eq]
  simp only [sa_append]
  rw [(sa_of_rows hY).2.1, (sa_of_rows hZ).2.1, sa_wds, sa_wds, gwords_part h]

theorem mad_at2 {w : World} {cs : List Cls} {ns : List Int} {cv nv : Value} (hs : SeesN (fun k => k < w.heap.size) w cv nv cs ns) (hf : Fit cs) (w' : World) (c : Ch0 w w') :
    Calls Try.prog 79 #[cv, nv] w' fun e w'' => Ch0 w' w'' ∧ ((madB cs ns = false ∧ e = .returned (.tuple #[.pointer none, .pointer none, .bool false])) ∨
      (madB cs ns = true ∧ ∃ b1 b2 p lo hi O1, e = .returned (.tuple #[.pointer (some ⟨b1, 0, none⟩), .pointer (some ⟨b2, 0, none⟩), .bool true]) ∧ Gt w'' b1 O1 cs (graphC cs ns) p lo hi ∧ (∀ k, O1 k → w'.heap.size ≤ k) ∧ w'.heap.size ≤ lo)) :=
  (mad_lo cs ns cv nv w' ⟨Sees.mono (hs.c.keep c (fun _ _ e => e)) (fun _ hk => Nat.lt_of_lt_of_le hk c.size), Sees.mono (hs.n.keep c (fun _ _ e => e)) (fun _ hk => Nat.lt_of_lt_of_le hk c.size), hs.nf⟩ hf).mono (fun _ _ h => by
    rcases h with ⟨h1, h2, h3⟩ | ⟨h1, b1, b2, p, lo, hi, O1, O2, he, hD, hl⟩
    · exact ⟨h3, .inl ⟨h1, h2⟩⟩
    · exact ⟨hD.ch, .inr ⟨h1, b1, b2, p, lo, hi, O1, he, hD.g, hD.f1, hl⟩⟩)

end Go.Proofs.Ytlmeponoadhheaa
