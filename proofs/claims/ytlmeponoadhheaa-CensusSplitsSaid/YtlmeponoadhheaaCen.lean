/-
  What there is of each class: rows, their sums; in plain terms.
-/
import Derived.Test.YtlmeponoadhheaaGen
namespace Go.Proofs.Ytlmeponoadhheaa
set_option linter.unusedVariables false

/-- a row -/
structure R5 where
  cls : Int
  cnt : Int
  wds : Int
  refs : Int
  fin : Int
deriving DecidableEq

instance : Inhabited R5 := ⟨⟨0, 0, 0, 0, 0⟩⟩

def R5.zero : R5 := ⟨0, 0, 0, 0, 0⟩
def R5.plus (a b : R5) (t : Int) : R5 := ⟨a.cls, a.cnt + t * b.cnt, a.wds + t * b.wds, a.refs + t * b.refs, a.fin + t * b.fin⟩
/-- its numbers are no more than B -/
def R5.In (B : Int) (r : R5) : Prop := (-B ≤ r.cnt ∧ r.cnt ≤ B) ∧ (-B ≤ r.wds ∧ r.wds ≤ B) ∧ (-B ≤ r.refs ∧ r.refs ≤ B) ∧ (-B ≤ r.fin ∧ r.fin ≤ B)
/-- not all of it is 0 -/
def R5.nz (r : R5) : Bool := !(r.cnt == 0 && r.wds == 0 && r.refs == 0 && r.fin == 0)
def R5.at (r : R5) (c : Int) : R5 := { r with cls := c }
def R5.wfc (r : R5) : Prop := -9223372036854775808 ≤ r.cls ∧ r.cls ≤ 9223372036854775807

theorem R5.ext4 {a b : R5} (h0 : a.cls = b.cls) (h1 : a.cnt = b.cnt) (h2 : a.wds = b.wds) (h3 : a.refs = b.refs) (h4 : a.fin = b.fin) : a = b := by
  cases a; cases b; simp_all

theorem R5.In.mono {B C : Int} {r : R5} (h : r.In B) (hb : B ≤ C) : r.In C := by
  unfold R5.In at *; omega
theorem R5.In.plus {A B : Int} {a b : R5} (ha : a.In A) (hb : b.In B) {t : Int} (ht : t = 1 ∨ t = -1) : (a.plus b t).In (A + B) := by
  unfold R5.In R5.plus at *
  rcases ht with rfl | rfl <;> simp only [Int.one_mul, Int.neg_mul] <;> omega
theorem R5.In.zero {B : Int} (h : 0 ≤ B) : R5.zero.In B := by unfold R5.In R5.zero; simp only; omega

/-- the sum of one number of the rows of a class -/
def sm (p : R5 → Int) (c : Int) : List R5 → Int
  | [] => 0
  | r :: L => (if r.cls = c then p r else 0) + sm p c L

theorem sm_append (p : R5 → Int) (c : Int) (A B : List R5) : sm p c (A ++ B) = sm p c A + sm p c B := by
  induction A with
  | nil => simp [sm]
  | cons a A ih => simp only [List.cons_append, sm, ih]; omega

theorem sm_perm {p : R5 → Int} {c : Int} {A B : List R5} (h : A.Perm B) : sm p c A = sm p c B := by
  induction h with
  | nil => rfl
  | cons x _ ih => simp only [sm, ih]
  | swap x y l => simp only [sm]; omega
  | trans _ _ h1 h2 => exact h1.trans h2

theorem sm_le {p : R5 → Int} {c : Int} {B : Int} (hB : 0 ≤ B) {L : List R5} (h : ∀ r ∈ L, -B ≤ p r ∧ p r ≤ B) : -(B * L.length) ≤ sm p c L ∧ sm p c L ≤ B * L.length := by
  induction L with
  | nil => simp [sm]
  | cons r L ih =>
    have h1 := ih (fun x hx => h x (List.mem_cons_of_mem _ hx))
    have h2 := h r List.mem_cons_self
    simp only [sm, List.length_cons, Int.natCast_add, Int.natCast_one, Int.mul_add, Int.mul_one]
    split <;> omega

/-- the rows of one class together -/
def S5 (c : Int) (L : List R5) : R5 := ⟨c, sm R5.cnt c L, sm R5.wds c L, sm R5.refs c L, sm R5.fin c L⟩
/-- .. less others -/
def dr (a b : List R5) (c : Int) : R5 := (S5 c a).plus (S5 c b) (-1)

theorem dr_eq (a b : List R5) (c : Int) : dr a b c = ⟨c, sm R5.cnt c a - sm R5.cnt c b, sm R5.wds c a - sm R5.wds c b, sm R5.refs c a - sm R5.refs c b, sm R5.fin c a - sm R5.fin c b⟩ := by
  unfold dr R5.plus S5
  simp only [Int.neg_mul, Int.one_mul]
  rfl
theorem dr_cls (a b : List R5) (c : Int) : (dr a b c).cls = c := rfl

/-- L is what s tells of each class, those that aren't empty, rising -/
def IsRows (s : Int → R5) (L : List R5) : Prop := L.Pairwise (fun a b => a.cls < b.cls) ∧ ∀ r, r ∈ L ↔ (r = s r.cls ∧ r.nz = true)

theorem rising_eq {A B : List R5} (ha : A.Pairwise (fun a b => a.cls < b.cls)) (hb : B.Pairwise (fun a b => a.cls < b.cls)) (h : ∀ r, r ∈ A ↔ r ∈ B) : A = B := by
  induction A generalizing B with
  | nil =>
    cases B with
    | nil => rfl
    | cons b B => exact absurd ((h b).2 List.mem_cons_self) (by simp)
  | cons a A ih =>
    cases B with
    | nil => exact absurd ((h a).1 List.mem_cons_self) (by simp)
    | cons b B =>
      rw [List.pairwise_cons] at ha hb
      have hab : a = b := by
        rcases List.mem_cons.1 ((h a).1 List.mem_cons_self) with e | e
        · exact e
        · rcases List.mem_cons.1 ((h b).2 List.mem_cons_self) with e2 | e2
          · exact e2.symm
          · have := hb.1 a e; have := ha.1 b e2; omega
      subst hab
      congr 1
      refine ih ha.2 hb.2 (fun r => ?_)
      constructor
      · intro hr
        rcases List.mem_cons.1 ((h r).1 (List.mem_cons_of_mem _ hr)) with e | e
        · have := ha.1 r hr; rw [e] at this; omega
        · exact e
      · intro hr
        rcases List.mem_cons.1 ((h r).2 (List.mem_cons_of_mem _ hr)) with e | e
        · have := hb.1 r hr; rw [e] at this; omega
        · exact e

theorem IsRows.eq {s t : Int → R5} {A B : List R5} (ha : IsRows s A) (hb : IsRows t B) (h : ∀ c, s c = t c) : A = B :=
  rising_eq ha.1 hb.1 (fun r => by rw [ha.2, hb.2, h])

theorem IsRows.nil {s : Int → R5} {A : List R5} (ha : IsRows s A) (h : ∀ c, (s c).nz = false) : A = [] := by
  cases A with
  | nil => rfl
  | cons a A =>
    obtain ⟨h1, h2⟩ := (ha.2 a).1 List.mem_cons_self
    rw [h1, h] at h2; cases h2

/-- a rising list: the row of a class -/
theorem sm_rising {p : R5 → Int} {L : List R5} (h : L.Pairwise (fun a b => a.cls < b.cls)) {r : R5} (hr : r ∈ L) : sm p r.cls L = p r := by
  have h0 : ∀ (c : Int) (L : List R5), (∀ x ∈ L, x.cls ≠ c) → sm p c L = 0 := by
    intro c L hL
    induction L with
    | nil => rfl
    | cons a L ih => simp only [sm, if_neg (hL a List.mem_cons_self), ih (fun x hx => hL x (List.mem_cons_of_mem _ hx))]; rfl
  induction L with
  | nil => cases hr
  | cons a L ih =>
    rw [List.pairwise_cons] at h
    rcases List.mem_cons.1 hr with rfl | hr
    · simp only [sm, if_true]
      rw [h0 r.cls L (fun x hx e => by have := h.1 x hx; omega)]; omega
    · have := h.1 r hr
      simp only [sm, if_neg (show ¬ a.cls = r.cls by omega), ih h.2 hr]; omega

theorem sm_none {p : R5 → Int} {c : Int} {L : List R5} (h : ∀ x ∈ L, x.cls ≠ c) : sm p c L = 0 := by
  induction L with
  | nil => rfl
  | cons a L ih => simp only [sm, if_neg (h a List.mem_cons_self), ih (fun x hx => h x (List.mem_cons_of_mem _ hx))]; rfl

/-- the numbers of a row of no class -/
def four (r : R5) : Int × Int × Int × Int := (r.cnt, r.wds, r.refs, r.fin)

theorem nz_false {r : R5} : r.nz = false ↔ (r.cnt = 0 ∧ r.wds = 0 ∧ r.refs = 0 ∧ r.fin = 0) := by
  unfold R5.nz; simp [and_assoc]

/-- the sums of rows that are rows of s -/
theorem IsRows.S5 {s : Int → R5} (hs : ∀ c, (s c).cls = c) {L : List R5} (h : IsRows s L) (c : Int) : S5 c L = s c := by
  by_cases hc : (s c).nz = true
  · have hm : s c ∈ L := (h.2 (s c)).2 ⟨by rw [hs], hc⟩
    have e := hs c
    have hh : ∀ p : R5 → Int, sm p c L = p (s c) := fun p => by
      have := sm_rising (p := p) h.1 hm
      rwa [e] at this
    unfold Proofs.Ytlmeponoadhheaa.S5
    simp only [hh]
    exact R5.ext4 e.symm rfl rfl rfl rfl
  · have hz := nz_false.1 (by simpa using hc)
    have hh : ∀ p : R5 → Int, sm p c L = 0 := fun p => sm_none (fun x hx e => by
      obtain ⟨h1, h2⟩ := (h.2 x).1 hx
      rw [e] at h1; rw [← h1] at hc; exact hc h2)
    unfold Proofs.Ytlmeponoadhheaa.S5
    simp only [hh]
    exact R5.ext4 (hs c).symm hz.1.symm hz.2.1.symm hz.2.2.1.symm hz.2.2.2.symm

/-- all rows together -/
def tot (L : List R5) : R5 := L.foldl (fun a r => a.plus r 1) R5.zero

def sa (p : R5 → Int) : List R5 → Int
  | [] => 0
  | r :: L => p r + sa p L

theorem sa_append (p : R5 → Int) (A B : List R5) : sa p (A ++ B) = sa p A + sa p B := by
  induction A with
  | nil => simp [sa]
  | cons a A ih => simp only [List.cons_append, sa, ih]; omega

theorem sa_perm {p : R5 → Int} {A B : List R5} (h : A.Perm B) : sa p A = sa p B := by
  induction h with
  | nil => rfl
  | cons x _ ih => simp only [sa, ih]
  | swap x y l => simp only [sa]; omega
  | trans _ _ h1 h2 => exact h1.trans h2

theorem sa_le {p : R5 → Int} {B : Int} {L : List R5} (h : ∀ r ∈ L, -B ≤ p r ∧ p r ≤ B) : -(B * L.length) ≤ sa p L ∧ sa p L ≤ B * L.length := by
  induction L with
  | nil => simp [sa]
  | cons r L ih =>
    have h1 := ih (fun x hx => h x (List.mem_cons_of_mem _ hx))
    have h2 := h r List.mem_cons_self
    simp only [sa, List.length_cons, Int.natCast_add, Int.natCast_one, Int.mul_add, Int.mul_one]
    omega

theorem foldl_plus (L : List R5) (a : R5) (t : Int) : L.foldl (fun a r => a.plus r t) a = ⟨a.cls, a.cnt + t * sa R5.cnt L, a.wds + t * sa R5.wds L, a.refs + t * sa R5.refs L, a.fin + t * sa R5.fin L⟩ := by
  induction L generalizing a with
  | nil => simp [sa]
  | cons r L ih =>
    rw [List.foldl_cons, ih]
    simp only [R5.plus, sa, Int.mul_add]
    exact R5.ext4 rfl (by simp only; omega) (by simp only; omega) (by simp only; omega) (by simp only; omega)

theorem tot_eq (L : List R5) : tot L = ⟨0, sa R5.cnt L, sa R5.wds L, sa R5.refs L, sa R5.fin L⟩ := by
  unfold tot
  rw [foldl_plus]
  simp [R5.zero]

theorem tot_snoc (L : List R5) (r : R5) : tot (L ++ [r]) = (tot L).plus r 1 := by
  unfold tot; rw [List.foldl_append]; rfl

theorem R5.in_of {B : Int} {r : R5} (h1 : -B ≤ r.cnt ∧ r.cnt ≤ B) (h2 : -B ≤ r.wds ∧ r.wds ≤ B) (h3 : -B ≤ r.refs ∧ r.refs ≤ B) (h4 : -B ≤ r.fin ∧ r.fin ≤ B) : r.In B := ⟨h1, h2, h3, h4⟩

theorem tot_in {B : Int} {L : List R5} (h : ∀ r ∈ L, r.In B) : (tot L).In (B * L.length) := by
  rw [tot_eq]
  exact ⟨sa_le (fun r hr => (h r hr).1), sa_le (fun r hr => (h r hr).2.1), sa_le (fun r hr => (h r hr).2.2.1), sa_le (fun r hr => (h r hr).2.2.2)⟩

theorem S5_in {B : Int} (hB : 0 ≤ B) {L : List R5} (h : ∀ r ∈ L, r.In B) (c : Int) : (S5 c L).In (B * L.length) :=
  ⟨sm_le hB (fun r hr => (h r hr).1), sm_le hB (fun r hr => (h r hr).2.1), sm_le hB (fun r hr => (h r hr).2.2.1), sm_le hB (fun r hr => (h r hr).2.2.2)⟩

/-- the class with the most words -/
def mostR (L : List R5) : R5 := L.foldl (fun b r => if b.wds < r.wds then r else b) R5.zero

theorem mostR_snoc (L : List R5) (r : R5) : mostR (L ++ [r]) = if (mostR L).wds < r.wds then r else mostR L := by
  unfold mostR; rw [List.foldl_append]; rfl

/-- the sums, a class at a time, in a map -/
def put5 (F : Int → Option R5) (r : R5) (t : Int) : Int → Option R5 := fun k => if k = r.cls then some (((F r.cls).getD R5.zero).plus r t) else F k
def puts5 (F : Int → Option R5) (L : List R5) (t : Int) : Int → Option R5 := L.foldl (fun F r => put5 F r t) F

theorem puts5_snoc (F : Int → Option R5) (L : List R5) (r : R5) (t : Int) : puts5 F (L ++ [r]) t = put5 (puts5 F L t) r t := by
  unfold puts5; rw [List.foldl_append]; rfl

/-- what a map tells of a class -/
def told (F : Int → Option R5) (k : Int) : R5 := (F k).getD R5.zero

theorem told_put5 (F : Int → Option R5) (r : R5) (t k : Int) : told (put5 F r t) k = if k = r.cls then (told F k).plus r t else told F k := by
  unfold told put5
  by_cases h : k = r.cls
  · subst h; simp
  · simp [h]

theorem told_puts5 (L : List R5) (F : Int → Option R5) (t k : Int) : told (puts5 F L t) k = (told F k).plus (S5 k L) t := by
  induction L generalizing F with
  | nil => simp [puts5, S5, sm, R5.plus]
  | cons r L ih =>
    show told (puts5 (put5 F r t) L t) k = _
    rw [ih, told_put5]
    unfold R5.plus S5
    by_cases h : k = r.cls
    · subst h
      simp only [if_true, sm, Int.mul_add]
      exact R5.ext4 rfl (by simp only; omega) (by simp only; omega) (by simp only; omega) (by simp only; omega)
    · simp only [if_neg h, sm, if_neg (Ne.symm h), Int.zero_add]

/-- what a map tells, a class in each row -/
def drF (F : Int → Option R5) (k : Int) : R5 := (told F k).at k

theorem drF_diff (a b : List R5) (k : Int) : drF (puts5 (puts5 (fun _ => none) a 1) b (-1)) k = dr a b k := by
  unfold drF
  rw [told_puts5, told_puts5, dr_eq]
  unfold told R5.at R5.plus S5 R5.zero
  simp only [Option.getD_none, Int.one_mul, Int.neg_mul, Int.zero_add]
  rfl

end Go.Proofs.Ytlmeponoadhheaa
