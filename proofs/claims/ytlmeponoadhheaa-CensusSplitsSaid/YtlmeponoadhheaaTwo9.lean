/-
  Two graphs over one table, side by side.
-/
import Derived.Test.YtlmeponoadhheaaGl
import Derived.Test.YtlmeponoadhheaaNil9
namespace Go.Proofs.Ytlmeponoadhheaa
set_option linter.unusedVariables false
open Go.RowKit

theorem setCell_drewN (w : World) (n : Nat) (a : Addr) (v : Value) : (w.drewN n).setCell a v = (w.setCell a v).drewN n := rfl

theorem nv_mk {w : World} {nd fn : GN} {vr vd : Value} (h1 : RowAt w 3 1 vr nd.refs.length (fn.refs.map (Value.int .i64))) (h2 : RowAt w 3 1 vd nd.data.length (fn.data.map (Value.int .i64)))
    (e1 : fn.refs.length = nd.refs.length) (e2 : fn.data.length = nd.data.length) (e : fn.id = nd.id ∧ fn.cls = nd.cls ∧ fn.fin = nd.fin) :
    NV (fun _ => True) w (.agg #[.int .i64 nd.id, .int .i64 nd.cls, vr, vd, .bool nd.fin]) fn vr vd := by
  refine ⟨by rw [e.1, e.2.1, e.2.2], ?_, ?_⟩
  · have h := h1.sees.mono (D' := fun _ => True) (fun _ _ => trivial)
    show Sees _ _ _ 1 fn.refs.length _
    rw [e1]; exact h
  · have h := h2.sees.mono (D' := fun _ => True) (fun _ _ => trivial)
    show Sees _ _ _ 1 fn.data.length _
    rw [e2]; exact h

theorem fin_same {wF wq : World} {M B : Nat} {nd fn : GN} {ar ad br bd : Value} {xr xd : List Int} (hH : Held1 M wF B fn ar ad) (h1 : RowAt wF 3 1 br nd.refs.length (xr.map (Value.int .i64))) (h2 : RowAt wF 3 1 bd nd.data.length (xd.map (Value.int .i64)))
    (er : fn.refs = xr) (ed : fn.data = xd) (e1 : fn.refs.length = nd.refs.length) (e2 : fn.data.length = nd.data.length) (e : fn.id = nd.id ∧ fn.cls = nd.cls ∧ fn.fin = nd.fin) (cq : Ch0 wF wq) :
    Calls Try.prog 39 #[.agg #[.int .i64 fn.id, .int .i64 fn.cls, ar, ad, .bool fn.fin], .agg #[.int .i64 nd.id, .int .i64 nd.cls, br, bd, .bool nd.fin]] wq fun e w' => e = .returned (.bool true) ∧ Ch0 wq w' := by
  subst er
  subst ed
  have h := rsame_any _ _ _ _ fn fn _ _ _ _ wq ((hH.keep cq (fun _ e => e.elim)).nv) (nv_mk (h1.keep cq (fun _ _ e => e)) (h2.keep cq (fun _ _ e => e)) e1 e2 e)
  rwa [decide_eq_true (rfl : fn = fn)] at h

structure Two (w0 w : World) (cs : List Cls) (p lo hi : Nat) (b1 : Nat) (O1 : Nat → Prop) (L1 : List GN) (b2 : Nat) (O2 : Nat → Prop) (L2 : List GN) : Prop where
  g : Gt w b1 O1 cs L1 p lo hi
  h : Gt w b2 O2 cs L2 p lo hi
  ap : Apart O1 O2
  ch : Ch0 w0 w
  f1 : ∀ k, O1 k → w0.heap.size ≤ k
  f2 : ∀ k, O2 k → w0.heap.size ≤ k

section
variable {w0 w w' : World} {cs : List Cls} {p lo hi b1 b2 : Nat} {O1 O2 O' : Nat → Prop} {L1 L2 L' : List GN}

theorem Two.swap (t : Two w0 w cs p lo hi b1 O1 L1 b2 O2 L2) : Two w0 w cs p lo hi b2 O2 L2 b1 O1 L1 := ⟨t.h, t.g, t.ap.symm, t.ch, t.f2, t.f1⟩

theorem Two.first (t : Two w0 w cs p lo hi b1 O1 L1 b2 O2 L2) (hg : Gt w' b1 O' cs L' p lo hi) (c : Turn w w' O1 O') : Two w0 w' cs p lo hi b1 O' L' b2 O2 L2 where
  g := hg
  h := t.h.keep c.1 (fun k h2 h1 => t.ap k h1 h2) t.g.off
  ap := t.ap.turn c t.h.small
  ch := (t.ch.turn c t.f1).1
  f1 := (t.ch.turn c t.f1).2
  f2 := t.f2

theorem Two.second (t : Two w0 w cs p lo hi b1 O1 L1 b2 O2 L2) (hh : Gt w' b2 O' cs L' p lo hi) (c : Turn w w' O2 O') : Two w0 w' cs p lo hi b1 O1 L1 b2 O' L' := (t.swap.first hh c).swap

theorem Two.new (t : Two w0 w cs p lo hi b1 O1 L1 b2 O2 L2) (c : Ch0 w w') : Two w0 w' cs p lo hi b1 O1 L1 b2 O2 L2 := ⟨t.g.new c, t.h.new c, t.ap, t.ch.trans c, t.f1, t.f2⟩

theorem Two.of (h1 : Gt w b1 O1 cs L1 p lo hi) (c0 : Ch0 w0 w) (hf : ∀ k, O1 k → w0.heap.size ≤ k) (h2 : Gt w' b2 O2 cs L2 p lo hi) (hn : ∀ k, O2 k → w.heap.size ≤ k) (c : Ch0 w w') : Two w0 w' cs p lo hi b1 O1 L1 b2 O2 L2 where
  g := h1.new c
  h := h2
  ap := fun k a b => by have := h1.small k a; have := hn k b; omega
  ch := c0.trans c
  f1 := hf
  f2 := fun k hk => by have := hn k hk; have := c0.size; omega

end

end Go.Proofs.Ytlmeponoadhheaa
