/-
  What QueueFifo keeps in memory: the set, what was put in, what was polled, what was seen.
-/
import Derived.Test.YtlmccjmbidfflaaOps12
namespace Go.Proofs.Ytlmccjmbidfflaa
set_option linter.unusedVariables false
open Go.RowKit

theorem Qs.small {w : World} {b : Nat} {O : Nat → Prop} {q : Nat → List Int} {L : List Int} (h : Qs w b O q L) : ∀ k, O k → k < w.heap.size := by
  obtain ⟨vs, m, h⟩ := h
  exact h.small

theorem Turn.ch0 {w0 w w' : World} {O O' : Nat → Prop} (t : Turn w w' O O') (c : Ch0 w0 w) (f : ∀ k, O k → w0.heap.size ≤ k) : Ch0 w0 w' := (Ch0.turn c t f).1
theorem Turn.new {w0 w w' : World} {O O' : Nat → Prop} (t : Turn w w' O O') (c : Ch0 w0 w) (f : ∀ k, O k → w0.heap.size ≤ k) : ∀ k, O' k → w0.heap.size ≤ k := (Ch0.turn c t f).2

theorem not_turn {w w' : World} {O O' : Nat → Prop} {m : Nat} (t : Turn w w' O O') (h : ¬ O m) (hm : m < w.heap.size) : ¬ O' m := fun e => by
  rcases t.2 m e with e | e
  · exact h e
  · omega

structure FM (w0 w : World) (sB iB oB mB : Nat) (Os Oi Oo : Nat → Prop) (q I U : Nat → List Int) (L M : List Int) (vi vo : Nat → Value) (n : Nat) : Prop where
  ch : Ch0 w0 w
  s : Qs w sB Os q L
  i : RS w iB 25 5 Oi I vi
  o : RS w oB 25 5 Oo U vo
  m : IM w mB n (isOf M)
  a1 : Apart Os Oi
  a2 : Apart Os Oo
  a3 : Apart Oi Oo
  m1 : ¬ Os mB
  m2 : ¬ Oi mB
  m3 : ¬ Oo mB
  f1 : ∀ k, Os k → w0.heap.size ≤ k
  f2 : ∀ k, Oi k → w0.heap.size ≤ k
  f3 : ∀ k, Oo k → w0.heap.size ≤ k
  f4 : w0.heap.size ≤ mB

section
variable {w0 w w' : World} {sB iB oB mB : Nat} {Os Oi Oo O' : Nat → Prop} {q I U q' : Nat → List Int} {L M L' M' : List Int} {vi vo v' : Nat → Value} {n n' : Nat}

theorem FM.turnS (h : FM w0 w sB iB oB mB Os Oi Oo q I U L M vi vo n) (hs : Qs w' sB O' q' L') (t : Turn w w' Os O') : FM w0 w' sB iB oB mB O' Oi Oo q' I U L' M vi vo n where
  ch := t.ch0 h.ch h.f1
  s := hs
  i := h.i.keep t.1 (fun k a b => h.a1 k b a)
  o := h.o.keep t.1 (fun k a b => h.a2 k b a)
  m := h.m.keep t.1 h.m1
  a1 := h.a1.turn t h.i.small
  a2 := h.a2.turn t h.o.small
  a3 := h.a3
  m1 := not_turn t h.m1 h.m.lt
  m2 := h.m2
  m3 := h.m3
  f1 := t.new h.ch h.f1
  f2 := h.f2
  f3 := h.f3
  f4 := h.f4

theorem FM.turnI (h : FM w0 w sB iB oB mB Os Oi Oo q I U L M vi vo n) (hs : RS w' iB 25 5 O' q' v') (t : Turn w w' Oi O') : FM w0 w' sB iB oB mB Os O' Oo q q' U L M v' vo n where
  ch := t.ch0 h.ch h.f2
  s := h.s.keep t.1 (fun k a b => h.a1 k a b)
  i := hs
  o := h.o.keep t.1 (fun k a b => h.a3 k b a)
  m := h.m.keep t.1 h.m2
  a1 := (h.a1.symm.turn t h.s.small).symm
  a2 := h.a2
  a3 := h.a3.turn t h.o.small
  m1 := h.m1
  m2 := not_turn t h.m2 h.m.lt
  m3 := h.m3
  f1 := h.f1
  f2 := t.new h.ch h.f2
  f3 := h.f3
  f4 := h.f4

theorem FM.turnO (h : FM w0 w sB iB oB mB Os Oi Oo q I U L M vi vo n) (hs : RS w' oB 25 5 O' q' v') (t : Turn w w' Oo O') : FM w0 w' sB iB oB mB Os Oi O' q I q' L M vi v' n where
  ch := t.ch0 h.ch h.f3
  s := h.s.keep t.1 (fun k a b => h.a2 k a b)
  i := h.i.keep t.1 (fun k a b => h.a3 k a b)
  o := hs
  m := h.m.keep t.1 h.m3
  a1 := h.a1
  a2 := (h.a2.symm.turn t h.s.small).symm
  a3 := (h.a3.symm.turn t h.i.small).symm
  m1 := h.m1
  m2 := h.m2
  m3 := not_turn t h.m3 h.m.lt
  f1 := h.f1
  f2 := h.f2
  f3 := t.new h.ch h.f3
  f4 := h.f4

theorem FM.turnM (h : FM w0 w sB iB oB mB Os Oi Oo q I U L M vi vo n) (hs : IM w' mB n' (isOf M')) (c : Ch (fun k => k = mB) w w') : FM w0 w' sB iB oB mB Os Oi Oo q I U L M' vi vo n' where
  ch := h.ch.trans' c (fun _ _ e => e) (fun k hk e => by have := h.f4; omega)
  s := h.s.keep c (fun k a b => h.m1 (b ▸ a))
  i := h.i.keep c (fun k a b => h.m2 (b ▸ a))
  o := h.o.keep c (fun k a b => h.m3 (b ▸ a))
  m := hs
  a1 := h.a1
  a2 := h.a2
  a3 := h.a3
  m1 := h.m1
  m2 := h.m2
  m3 := h.m3
  f1 := h.f1
  f2 := h.f2
  f3 := h.f3
  f4 := h.f4

theorem FM.after (h : FM w0 w sB iB oB mB Os Oi Oo q I U L M vi vo n) (c : Ch0 w w') : FM w0 w' sB iB oB mB Os Oi Oo q I U L M vi vo n where
  ch := h.ch.trans c
  s := h.s.keep c (fun _ _ b => b)
  i := h.i.keep c (fun _ _ b => b)
  o := h.o.keep c (fun _ _ b => b)
  m := h.m.keep c (fun b => b)
  a1 := h.a1
  a2 := h.a2
  a3 := h.a3
  m1 := h.m1
  m2 := h.m2
  m3 := h.m3
  f1 := h.f1
  f2 := h.f2
  f3 := h.f3
  f4 := h.f4

end

def nils5 : Array Value := #[.slice none 0 0, .slice none 0 0, .slice none 0 0, .slice none 0 0, .slice none 0 0]

/-- the start -/
theorem fm_start {w0 w1 : World} (c : Ch0 w0 w1) {T : TypeId} (hT : T = 29) :
    FM w0 ((((w1.alloc (.cells #[.slice none 0 0, .slice none 0 0, .slice none 0 0, .slice none 0 0, .map none] T (0, 0))).alloc (.cells nils5 25 (0, 0))).alloc (.cells nils5 25 (0, 0))).alloc (.map #[] 0))
      w1.heap.size (w1.heap.size + 1) (w1.heap.size + 1 + 1) (w1.heap.size + 1 + 1 + 1) (fun k => k = w1.heap.size) (fun k => k = w1.heap.size + 1) (fun k => k = w1.heap.size + 1 + 1) (fun _ => []) (fun _ => []) (fun _ => []) [] []
      (fun _ => .slice none 0 0) (fun _ => .slice none 0 0) 0 := by
  subst hT
  have hs := c.size
  have s1 : (w1.alloc (.cells #[.slice none 0 0, .slice none 0 0, .slice none 0 0, .slice none 0 0, .map none] 29 (0, 0))).heap.size = w1.heap.size + 1 := by simp
  generalize hA : w1.alloc (.cells #[.slice none 0 0, .slice none 0 0, .slice none 0 0, .slice none 0 0, .map none] 29 (0, 0)) = wA at *
  have s2 : (wA.alloc (.cells nils5 25 (0, 0))).heap.size = w1.heap.size + 1 + 1 := by simp [s1]
  have hi : RS (wA.alloc (.cells nils5 25 (0, 0))) (w1.heap.size + 1) 25 5 (fun k => k = w1.heap.size + 1) (fun _ => []) (fun _ => .slice none 0 0) := by
    rw [← s1]; exact rs_new (heap_alloc_new wA _)
  have hq : Qs wA w1.heap.size (fun k => k = w1.heap.size) (fun _ => []) [] := by rw [← hA]; exact qs_new w1
  have cA : Ch0 w1 wA := by rw [← hA]; exact (Ch.refl _ _).alloc _
  have cB : Ch0 wA (wA.alloc (.cells nils5 25 (0, 0))) := (Ch.refl _ _).alloc _
  generalize wA.alloc (.cells nils5 25 (0, 0)) = wB at *
  have s3 : (wB.alloc (.cells nils5 25 (0, 0))).heap.size = w1.heap.size + 1 + 1 + 1 := by simp [s2]
  have ho : RS (wB.alloc (.cells nils5 25 (0, 0))) (w1.heap.size + 1 + 1) 25 5 (fun k => k = w1.heap.size + 1 + 1) (fun _ => []) (fun _ => .slice none 0 0) := by
    rw [← s2]; exact rs_new (heap_alloc_new wB _)
  have cC : Ch0 wB (wB.alloc (.cells nils5 25 (0, 0))) := (Ch.refl _ _).alloc _
  generalize wB.alloc (.cells nils5 25 (0, 0)) = wC at *
  have hm : IM (wC.alloc (.map #[] 0)) (w1.heap.size + 1 + 1 + 1) 0 (isOf []) := by
    rw [← s3]; exact (IM.made wC).congr (fun k => by simp [isOf]) rfl
  have cD : Ch0 wC (wC.alloc (.map #[] 0)) := (Ch.refl _ _).alloc _
  exact ⟨c.trans (cA.trans (cB.trans (cC.trans cD))), hq.keep (cB.trans (cC.trans cD)) (fun _ _ e => e), hi.keep (cC.trans cD) (fun _ _ e => e), ho.keep cD (fun _ _ e => e), hm,
    fun k a b => by omega, fun k a b => by omega, fun k a b => by omega, by omega, by omega, by omega, fun k a => by omega, fun k a => by omega, fun k a => by omega, by omega⟩

end Go.Proofs.Ytlmccjmbidfflaa
