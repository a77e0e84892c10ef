/-
  Rows: how they are gathered, on both sides; what the laws say of them, in plain terms.
-/
import Derived.Test.YtlmeponoadhheaaCen
namespace Go.Proofs.Ytlmeponoadhheaa
set_option linter.unusedVariables false

theorem dr_nz_mem {a b : List R5} {c : Int} (h : (dr a b c).nz = true) : c ∈ (a ++ b).map R5.cls := by
  by_cases hm : c ∈ (a ++ b).map R5.cls
  · exact hm
  · exfalso
    have h0 : ∀ x ∈ a, x.cls ≠ c := fun x hx e => hm (List.mem_map.2 ⟨x, List.mem_append_left _ hx, e⟩)
    have h1 : ∀ x ∈ b, x.cls ≠ c := fun x hx e => hm (List.mem_map.2 ⟨x, List.mem_append_right _ hx, e⟩)
    rw [dr_eq] at h
    simp only [sm_none h0, sm_none h1] at h
    cases h

/-- gather's loop: what was told -/
def Out (s : Int → R5) (left : Int → Bool) (L : List R5) : Prop := L.Pairwise (fun a b => a.cls ≠ b.cls) ∧ ∀ r, r ∈ L ↔ (r = s r.cls ∧ r.nz = true ∧ left r.cls = false)

theorem Out.start {s : Int → R5} {left : Int → Bool} (h : ∀ k, left k = false → (s k).nz = false) : Out s left [] :=
  ⟨List.Pairwise.nil, fun r => ⟨(fun hr => by cases hr), (fun ⟨h1, h2, h3⟩ => by rw [h1, h _ h3] at h2; cases h2)⟩⟩

theorem Out.step {s : Int → R5} {left : Int → Bool} {L : List R5} (h : Out s left L) {k : Int} (hk : left k = true) (hs : ∀ c, (s c).cls = c) :
    Out s (fun i => left i && !(i == k)) (if (s k).nz then L ++ [s k] else L) := by
  have hne : ∀ r ∈ L, r.cls ≠ k := fun r hr e => by have := ((h.2 r).1 hr).2.2; rw [e, hk] at this; cases this
  constructor
  · split
    · rw [List.pairwise_append]
      exact ⟨h.1, List.pairwise_singleton _ _, fun a ha b hb => by rw [List.mem_singleton.1 hb, hs]; exact hne a ha⟩
    · exact h.1
  · intro r
    by_cases hz : (s k).nz = true
    · rw [if_pos hz, List.mem_append, h.2 r, List.mem_singleton]
      constructor
      · rintro (⟨h1, h2, h3⟩ | rfl)
        · exact ⟨h1, h2, by simp [h3]⟩
        · rw [hs]; exact ⟨rfl, hz, by simp⟩
      · rintro ⟨h1, h2, h3⟩
        by_cases e : r.cls = k
        · exact .inr (by rw [h1, e])
        · exact .inl ⟨h1, h2, by simpa [e] using h3⟩
    · rw [if_neg hz, h.2 r]
      constructor
      · rintro ⟨h1, h2, h3⟩; exact ⟨h1, h2, by simp [h3]⟩
      · rintro ⟨h1, h2, h3⟩
        refine ⟨h1, h2, ?_⟩
        by_cases e : r.cls = k
        · rw [h1, e] at h2; exact absurd h2 hz
        · simpa [e] using h3

theorem Out.rows {s : Int → R5} {left : Int → Bool} {A B : List R5} (h : Out s left A) (hl : ∀ k, left k = false) (hp : B.Perm A) (hs : B.Pairwise (fun a b => ¬ b.cls < a.cls)) : IsRows s B := by
  constructor
  · have h1 : B.Pairwise (fun a b => a.cls ≠ b.cls) := (hp.pairwise_iff (fun {a b} e => Ne.symm e)).2 h.1
    exact (h1.and hs).imp (fun {a b} h => by omega)
  · intro r
    rw [hp.mem_iff, h.2 r]
    exact ⟨fun h => ⟨h.1, h.2.1⟩, fun h => ⟨h.1, h.2, hl _⟩⟩

/-- the document's least class above one -/
def leastS (above : Int) (first : Bool) (s : Int × Bool) (r : R5) : Int × Bool := if (first || decide (above < r.cls)) && (!s.2 || decide (r.cls < s.1)) then (r.cls, true) else s
def leastF (L : List R5) (above : Int) (first : Bool) : Int × Bool := L.foldl (leastS above first) (0, false)

theorem leastF_snoc (L : List R5) (r : R5) (above : Int) (first : Bool) : leastF (L ++ [r]) above first = leastS above first (leastF L above first) r := by
  unfold leastF; rw [List.foldl_append]; rfl

theorem leastF_inv (L : List R5) (above : Int) (first : Bool) :
    ((leastF L above first).2 = true → (leastF L above first).1 ∈ L.map R5.cls ∧ (first = true ∨ above < (leastF L above first).1) ∧ ∀ x ∈ L, first = true ∨ above < x.cls → (leastF L above first).1 ≤ x.cls) ∧
    ((leastF L above first).2 = false → ∀ x ∈ L, ¬ (first = true ∨ above < x.cls)) := by
  have key : ∀ (n : Nat) (L : List R5), L.length = n → ((leastF L above first).2 = true → (leastF L above first).1 ∈ L.map R5.cls ∧ (first = true ∨ above < (leastF L above first).1) ∧ ∀ x ∈ L, first = true ∨ above < x.cls → (leastF L above first).1 ≤ x.cls) ∧
    ((leastF L above first).2 = false → ∀ x ∈ L, ¬ (first = true ∨ above < x.cls)) := by
    intro n
    induction n with
    | zero =>
      intro L hL
      have : L = [] := List.eq_nil_of_length_eq_zero hL
      subst this
      exact ⟨(fun h => by cases h), (fun _ x hx => by cases hx)⟩
    | succ n ih =>
      intro L hL
      obtain ⟨M, r, rfl⟩ : ∃ M r, L = M ++ [r] := by
        have hne : L ≠ [] := fun e => by rw [e] at hL; cases hL
        exact ⟨L.dropLast, L.getLast hne, (List.dropLast_concat_getLast hne).symm⟩
      have h := ih M (by simpa using hL)
      rw [leastF_snoc]
      generalize leastF M above first = s at *
      unfold leastS
      by_cases c1 : first = true ∨ above < r.cls
      · have e1 : (first || decide (above < r.cls)) = true := by simpa using c1
        rw [e1, Bool.true_and]
        by_cases c2 : s.2 = false ∨ r.cls < s.1
        · have e2 : (!s.2 || decide (r.cls < s.1)) = true := by rcases c2 with c2 | c2 <;> simp [c2]
          rw [e2, if_pos rfl]
          refine ⟨fun _ => ⟨by simp, c1, fun x hx hc => ?_⟩, fun h => by cases h⟩
          simp only [List.mem_append, List.mem_singleton] at hx
          rcases hx with hx | rfl
          · cases hs : s.2 with
            | false => exact absurd hc (h.2 hs x hx)
            | true =>
              rcases c2 with c2 | c2
              · rw [hs] at c2; cases c2
              · have := (h.1 hs).2.2 x hx hc; simp only; omega
          · exact Int.le_refl _
        · have e2 : (!s.2 || decide (r.cls < s.1)) = false := by
            cases hs : s.2 with
            | false => exact absurd (.inl hs) c2
            | true => simp; have : ¬ r.cls < s.1 := fun e => c2 (.inr e); omega
          rw [e2, if_neg (by simp)]
          have hs : s.2 = true := by cases hs : s.2 with
            | false => exact absurd (.inl hs) c2
            | true => rfl
          refine ⟨fun _ => ⟨?_, (h.1 hs).2.1, fun x hx hc => ?_⟩, fun h => by rw [hs] at h; cases h⟩
          · have := (h.1 hs).1
            rw [List.map_append, List.mem_append]; exact .inl this
          · simp only [List.mem_append, List.mem_singleton] at hx
            rcases hx with hx | rfl
            · exact (h.1 hs).2.2 x hx hc
            · have : ¬ x.cls < s.1 := fun e => c2 (.inr e)
              omega
      · have e1 : (first || decide (above < r.cls)) = false := by simp at c1; simp [c1]
        rw [e1, Bool.false_and, if_neg (by simp)]
        refine ⟨fun hs => ⟨?_, (h.1 hs).2.1, fun x hx hc => ?_⟩, fun hs x hx hc => ?_⟩
        · rw [List.map_append, List.mem_append]; exact .inl (h.1 hs).1
        · simp only [List.mem_append, List.mem_singleton] at hx
          rcases hx with hx | rfl
          · exact (h.1 hs).2.2 x hx hc
          · exact absurd hc c1
        · simp only [List.mem_append, List.mem_singleton] at hx
          rcases hx with hx | rfl
          · exact h.2 hs x hx hc
          · exact c1 hc
  exact key _ L rfl

/-- the document's loop over the classes: p is the next one -/
def Next (s : Int → R5) (L out : List R5) (p : Int × Bool) : Prop := out.Pairwise (fun a b => a.cls < b.cls) ∧ (∀ r, r ∈ out ↔ (r = s r.cls ∧ r.nz = true ∧ r.cls ∈ L.map R5.cls ∧ (p.2 = true → r.cls < p.1))) ∧ (p.2 = true → p.1 ∈ L.map R5.cls)

theorem Next.start (s : Int → R5) (L : List R5) : Next s L [] (leastF L 0 true) := by
  have h := leastF_inv L 0 true
  refine ⟨List.Pairwise.nil, fun r => ⟨fun hr => (by cases hr), ?_⟩, fun e => (h.1 e).1⟩
  rintro ⟨h1, h2, h3, h4⟩
  exfalso
  obtain ⟨x, hx, e⟩ := List.mem_map.1 h3
  cases hs : (leastF L 0 true).2 with
  | false => exact h.2 hs x hx (.inl rfl)
  | true => have := (h.1 hs).2.2 x hx (.inl rfl); have := h4 hs; omega

theorem Next.step {s : Int → R5} {L out : List R5} {c : Int} (h : Next s L out (c, true)) (hs : ∀ c, (s c).cls = c) : Next s L (if (s c).nz then out ++ [s c] else out) (leastF L c false) := by
  have hl := leastF_inv L c false
  have hlt : ∀ r ∈ out, r.cls < c := fun r hr => ((h.2.1 r).1 hr).2.2.2 rfl
  have hmem := h.2.2 rfl
  have key : ∀ k ∈ L.map R5.cls, (((leastF L c false).2 = true → k < (leastF L c false).1) ↔ (k < c ∨ k = c)) := by
    intro k hk
    obtain ⟨x, hx, rfl⟩ := List.mem_map.1 hk
    cases hs : (leastF L c false).2 with
    | false =>
      have := hl.2 hs x hx
      simp at this
      exact ⟨fun _ => by omega, fun _ e => by cases e⟩
    | true =>
      have h1 := (hl.1 hs).2.1
      have h2 := (hl.1 hs).2.2 x hx
      simp only [Bool.false_eq_true, false_or] at h1 h2
      constructor
      · intro q
        have q := q rfl
        have : ¬ c < x.cls := fun e => by have := h2 e; omega
        omega
      · rintro q -
        omega
  refine ⟨?_, fun r => ?_, fun e => (hl.1 e).1⟩
  · split
    · rw [List.pairwise_append]
      exact ⟨h.1, List.pairwise_singleton _ _, fun a ha b hb => by rw [List.mem_singleton.1 hb, hs]; exact hlt a ha⟩
    · exact h.1
  · by_cases hz : (s c).nz = true
    · rw [if_pos hz, List.mem_append, h.2.1 r, List.mem_singleton]
      constructor
      · rintro (⟨h1, h2, h3, h4⟩ | rfl)
        · exact ⟨h1, h2, h3, (key _ h3).2 (.inl (h4 rfl))⟩
        · rw [hs]; exact ⟨rfl, hz, hmem, (key _ hmem).2 (.inr rfl)⟩
      · rintro ⟨h1, h2, h3, h4⟩
        rcases (key _ h3).1 h4 with e | e
        · exact .inl ⟨h1, h2, h3, fun _ => e⟩
        · exact .inr (by rw [h1, e])
    · rw [if_neg hz, h.2.1 r]
      constructor
      · rintro ⟨h1, h2, h3, h4⟩
        exact ⟨h1, h2, h3, (key _ h3).2 (.inl (h4 rfl))⟩
      · rintro ⟨h1, h2, h3, h4⟩
        rcases (key _ h3).1 h4 with e | e
        · exact ⟨h1, h2, h3, fun _ => e⟩
        · rw [h1, e] at h2; exact absurd h2 hz

theorem Next.rows {a b out : List R5} {c : Int} (h : Next (dr a b) (a ++ b) out (c, false)) : IsRows (dr a b) out :=
  ⟨h.1, fun r => by
    rw [h.2.1 r]
    exact ⟨fun h => ⟨h.1, h.2.1⟩, fun h => ⟨h.1, h.2, dr_nz_mem (by rw [← h.1]; exact h.2), fun e => by cases e⟩⟩⟩

/-- how many classes are still to come -/
def above (L : List R5) (p : Int × Bool) : Nat := if p.2 then (L.filter fun r => decide (p.1 ≤ r.cls)).length else 0

theorem above_step (L : List R5) (c : Int) (hc : c ∈ L.map R5.cls) : above L (leastF L c false) < above L (c, true) := by
  have hl := leastF_inv L c false
  have h1 : 0 < above L (c, true) := by
    obtain ⟨x, hx, rfl⟩ := List.mem_map.1 hc
    unfold above
    rw [if_pos rfl]
    exact List.length_pos_of_mem (List.mem_filter.2 ⟨hx, by simp⟩)
  cases hs : (leastF L c false).2 with
  | false => unfold above at *; rw [if_neg (by rw [hs]; simp)]; exact h1
  | true =>
    have h2 := (hl.1 hs).2.1
    simp only [Bool.false_eq_true, false_or] at h2
    generalize leastF L c false = q at *
    unfold above
    rw [if_pos hs, if_pos rfl]
    simp only
    clear hl h1
    have hh : ∀ M : List R5, (M.filter fun r => decide (q.1 ≤ r.cls)).length + (if c ∈ M.map R5.cls then 1 else 0) ≤ (M.filter fun r => decide (c ≤ r.cls)).length := by
      intro M
      induction M with
      | nil => simp
      | cons x M ih =>
        by_cases e1 : q.1 ≤ x.cls
        · have e2 : c ≤ x.cls := by omega
          have e3 : ¬ c = x.cls := by omega
          simp only [List.filter_cons, decide_eq_true e1, decide_eq_true e2, if_true, List.length_cons, List.map_cons, List.mem_cons, e3, false_or]
          omega
        · by_cases e2 : c ≤ x.cls
          · simp only [List.filter_cons, decide_eq_false e1, decide_eq_true e2, if_true, List.length_cons, List.map_cons, List.mem_cons, Bool.false_eq_true, if_false]
            split at ih <;> split <;> omega
          · have e3 : ¬ c = x.cls := by omega
            simp only [List.filter_cons, decide_eq_false e1, decide_eq_false e2, List.map_cons, List.mem_cons, Bool.false_eq_true, if_false, e3, false_or]
            exact ih
    have := hh L
    rw [if_pos hc] at this
    omega

theorem S5_snoc (c : Int) (L : List R5) (r : R5) : S5 c (L ++ [r]) = if r.cls = c then (S5 c L).plus r 1 else S5 c L := by
  unfold S5 R5.plus
  simp only [sm_append, sm]
  split
  · exact R5.ext4 rfl (by simp only; omega) (by simp only; omega) (by simp only; omega) (by simp only; omega)
  · exact R5.ext4 rfl (by simp only; omega) (by simp only; omega) (by simp only; omega) (by simp only; omega)

theorem dr_snoc (a b : List R5) (c : Int) (r : R5) : dr a (b ++ [r]) c = if r.cls = c then (dr a b c).plus r (-1) else dr a b c := by
  rw [dr_eq, dr_eq]
  unfold R5.plus
  simp only [sm_append, sm]
  split
  · exact R5.ext4 rfl (by simp only; omega) (by simp only; omega) (by simp only; omega) (by simp only; omega)
  · exact R5.ext4 rfl (by simp only; omega) (by simp only; omega) (by simp only; omega) (by simp only; omega)

theorem dr_in {B : Int} (hB : 0 ≤ B) {a b : List R5} (ha : ∀ r ∈ a, r.In B) (hb : ∀ r ∈ b, r.In B) (c : Int) : (dr a b c).In (B * a.length + B * b.length) :=
  (S5_in hB ha c).plus (S5_in hB hb c) (.inr rfl)

/-! ### the laws -/

theorem dr_self (a : List R5) (c : Int) : (dr a a c).nz = false := by
  rw [dr_eq]; rw [nz_false]; simp only; omega

theorem dr_perm {a a' b : List R5} (h : a.Perm a') (c : Int) : dr a b c = dr a' b c := by
  rw [dr_eq, dr_eq, sm_perm h, sm_perm h, sm_perm h, sm_perm h]

theorem tot_perm {a b : List R5} (h : a.Perm b) : tot a = tot b := by
  rw [tot_eq, tot_eq, sa_perm h, sa_perm h, sa_perm h, sa_perm h]

/-- a row, as much less -/
def R5.neg (r : R5) : R5 := ⟨r.cls, -r.cnt, -r.wds, -r.refs, -r.fin⟩

theorem dr_neg (a b : List R5) (c : Int) : dr b a c = (dr a b c).neg := by
  rw [dr_eq, dr_eq]; unfold R5.neg
  exact R5.ext4 rfl (by simp only; omega) (by simp only; omega) (by simp only; omega) (by simp only; omega)

theorem neg_neg' (r : R5) : r.neg.neg = r := by
  unfold R5.neg
  exact R5.ext4 rfl (by simp) (by simp) (by simp) (by simp)

theorem neg_nz (r : R5) : r.neg.nz = r.nz := by
  have h : r.neg.nz = false ↔ r.nz = false := by
    rw [nz_false, nz_false]; unfold R5.neg; simp only; omega
  cases h1 : r.neg.nz <;> cases h2 : r.nz <;> simp_all

/-- turned about it is as much less -/
theorem rows_neg {a b A B : List R5} (hA : IsRows (dr a b) A) (hB : IsRows (dr b a) B) : B = A.map R5.neg := by
  refine rising_eq hB.1 ?_ (fun r => ?_)
  · rw [List.pairwise_map]; exact hA.1
  · rw [hB.2 r, List.mem_map]
    constructor
    · rintro ⟨h1, h2⟩
      refine ⟨r.neg, (hA.2 _).2 ⟨?_, by rw [neg_nz]; exact h2⟩, neg_neg' r⟩
      show r.neg = dr a b r.cls
      have := dr_neg a b r.cls
      rw [this] at h1
      have h3 : r.neg = dr a b r.cls := by conv => lhs; rw [h1]
                                           exact neg_neg' _
      exact h3
    · rintro ⟨q, hq, rfl⟩
      obtain ⟨h1, h2⟩ := (hA.2 q).1 hq
      refine ⟨?_, by rw [neg_nz]; exact h2⟩
      show q.neg = dr b a q.cls
      rw [dr_neg a b, ← h1]

theorem S5_append (c : Int) (A B : List R5) : S5 c (A ++ B) = (S5 c A).plus (S5 c B) 1 := by
  unfold S5 R5.plus
  simp only [sm_append]
  exact R5.ext4 rfl (by simp only; omega) (by simp only; omega) (by simp only; omega) (by simp only; omega)

/-- what is more, and what it is more than, together -/
theorem rows_back {a b A : List R5} (hA : IsRows (dr a b) A) (c : Int) : (dr (A ++ b) a c).nz = false := by
  have h1 := hA.S5 (fun c => dr_cls a b c) c
  unfold dr
  rw [S5_append, h1, nz_false, dr_eq]
  unfold R5.plus S5
  simp only
  omega

theorem turn_perm (a : List R5) (k : Nat) : ((a.drop k ++ a.take k).reverse).Perm a :=
  (List.reverse_perm _).trans (List.perm_append_comm.trans (by rw [List.take_append_drop]))

end Go.Proofs.Ytlmeponoadhheaa
