/-
  The program's graph and the document's, side by side; the law's same of a node.
-/
import Derived.Test.YtlmeponoadhheaaRg
import Derived.Test.YtlmeponoadhheaaTwo9
import Derived.Test.YtlmeponoadhheaaGen
namespace Go.Proofs.Ytlmeponoadhheaa
set_option linter.unusedVariables false
open Go.RowKit

structure Duo (w0 w : World) (cs : List Cls) (p lo hi : Nat) (b1 : Nat) (O1 : Nat → Prop) (L1 : List GN) (b2 : Nat) (O2 : Nat → Prop) (D : Nat → Prop) (cv : Value) (L2 : List GN) : Prop where
  g : Gt w b1 O1 cs L1 p lo hi
  r : Rt w b2 O2 D cs cv L2
  ap : Apart O1 O2
  t2 : ∀ k, lo ≤ k → k < hi → ¬ O2 k
  d1 : ∀ k, D k → k < w0.heap.size
  ch : Ch0 w0 w
  f1 : ∀ k, O1 k → w0.heap.size ≤ k
  f2 : ∀ k, O2 k → w0.heap.size ≤ k

section
variable {w0 w w' : World} {cs : List Cls} {p lo hi b1 b2 : Nat} {O1 O2 O' D : Nat → Prop} {cv : Value} {L1 L2 L' : List GN}

theorem Duo.new (t : Duo w0 w cs p lo hi b1 O1 L1 b2 O2 D cv L2) (c : Ch0 w w') : Duo w0 w' cs p lo hi b1 O1 L1 b2 O2 D cv L2 := ⟨t.g.new c, t.r.new c, t.ap, t.t2, t.d1, t.ch.trans c, t.f1, t.f2⟩

theorem Duo.first (t : Duo w0 w cs p lo hi b1 O1 L1 b2 O2 D cv L2) (hg : Gt w' b1 O' cs L' p lo hi) (c : Turn w w' O1 O') : Duo w0 w' cs p lo hi b1 O' L' b2 O2 D cv L2 where
  g := hg
  r := t.r.keep c.1 (fun k h2 h1 => t.ap k h1 h2) (fun k hk h1 => by have := t.d1 k hk; have := t.f1 k h1; omega)
  ap := t.ap.turn c t.r.small
  t2 := t.t2
  d1 := t.d1
  ch := (t.ch.turn c t.f1).1
  f1 := (t.ch.turn c t.f1).2
  f2 := t.f2

theorem Duo.second (t : Duo w0 w cs p lo hi b1 O1 L1 b2 O2 D cv L2) (hr : Rt w' b2 O' D cs cv L') (c : Turn w w' O2 O') : Duo w0 w' cs p lo hi b1 O1 L1 b2 O' D cv L' where
  g := t.g.keep c.1 (fun k h1 h2 => t.ap k h1 h2) t.t2
  r := hr
  ap := (t.ap.symm.turn c t.g.g.small).symm
  t2 := fun k h1 h2 e => by
    rcases c.2 k e with q | q
    · exact t.t2 k h1 h2 q
    · have := t.g.hiw; omega
  d1 := t.d1
  ch := (t.ch.turn c t.f2).1
  f1 := t.f1
  f2 := (t.ch.turn c t.f2).2

end

set_option maxRecDepth 100000 in
set_option maxHeartbeats 4000000 in
theorem samen_any {w0 w : World} {cs : List Cls} {p lo hi b1 b2 : Nat} {O1 O2 D : Nat → Prop} {cv : Value} {L : List GN} (t : Duo w0 w cs p lo hi b1 O1 L b2 O2 D cv L) (hr : allRight cs = true) (id : Int) :
    Calls Try.prog 51 #[.pointer (some ⟨b1, 0, none⟩), .pointer (some ⟨b2, 0, none⟩), .int .i64 id] w fun e w' => e = .returned (.bool true) ∧ Ch0 w w' := by
  have HT := Lib.hid t
  have HA : Hid (∀ w', Ch0 w w' → _) := Lib.hid (fun w' (c : Ch0 w w') => rat_any (t.r.new c) id)
  have HM : Hid (∀ w', Ch0 w w' → _) := Lib.hid (fun w' (c : Ch0 w w') => aim_of (t.g.new c) id)
  have HRM : Hid (∀ w', Ch0 w w' → _) := Lib.hid (fun w' (c : Ch0 w w') => raim_any (t.r.new c) hr id)
  have HH : Hid (∀ w', Ch0 w w' → _) := Lib.hid (fun w' (c : Ch0 w w') => holds_of (t.g.new c) id)
  have HRH : Hid (∀ w', Ch0 w w' → _) := Lib.hid (fun w' (c : Ch0 w w') => rholds_of (t.r.new c) hr id)
  by_cases hin : id ∈ ids L
  case neg =>
    have hn := node_no t.g.g hin
    obtain ⟨q, hq⟩ : ∃ q, q = gpos L id := ⟨_, rfl⟩
    rw [← hq] at HA
    rw [gpos_none hin] at hq
    have u1 : decide (0 ≤ q) = false := decide_eq_false (by omega)
    have u2 : q < 0 := by omega
    clear t hq
    generalize (gaim cs L id).1 = to at *
    generalize (gaim cs L id).2 = kd at *
    generalize gholds cs L id = gh at *
    go_enter Try.func51, Try.ntmps51
    go_wp2_with fail
    refine hn.mono ?_
    rintro e w1 ⟨rfl, c1⟩
    unfold noNode
    clear hn
    replace c1 := Lib.hid c1
    go_wp2_with fail
    have cA : Ch0 w (w1.alloc (.cells #[.int .i64 0, .int .i64 0, .slice none 0 0, .slice none 0 0, .bool false] 36)) := c1.out.alloc _
    have bx := heap_alloc_new w1 (.cells #[.int .i64 0, .int .i64 0, .slice none 0 0, .slice none 0 0, .bool false] 36)
    have ha := HA.out _ cA
    replace cA := Lib.hid cA
    generalize w1.heap.size = B at *
    generalize w1.alloc (.cells #[.int .i64 0, .int .i64 0, .slice none 0 0, .slice none 0 0, .bool false] 36) = W1 at *
    replace bx := Lib.hid bx
    refine ha.mono ?_
    rintro e w2 ⟨rfl, hs⟩
    obtain rfl : W1 = w2 := hs
    have hm := HM.out _ cA.out
    clear ha HA c1
    go_wp2_with fail
    refine hm.mono ?_
    rintro e w2 ⟨rfl, c2⟩
    have hrm := HRM.out _ (cA.out.trans c2)
    replace bx := Lib.hid (c2.keep bx.out (fun e => e))
    replace c2 := Lib.hid (cA.out.trans c2)
    clear hm HM cA
    go_wp2_with fail
    refine hrm.mono ?_
    rintro e w3 ⟨rfl, n3, rfl⟩
    have c3 := Lib.hid (c2.out.drewN n3)
    replace bx := Lib.hid ((ch_drewN' w2 n3).keep bx.out (fun e => e))
    clear hrm HRM c2
    generalize w2.drewN n3 = W3 at *
    have t1 : (to != to) = false := by simp
    have t2 : (kd != kd) = false := by simp
    go_wp2_with fail
    refine (HH.out _ c3.out).mono ?_
    rintro e w4 ⟨v4, rfl, r4, -, c4⟩
    have hrh := HRH.out _ (c3.out.trans c4)
    replace bx := Lib.hid (c4.keep bx.out (fun e => e))
    replace c4 := Lib.hid (c3.out.trans c4)
    replace r4 := Lib.hid r4
    clear HH HRH c3
    go_wp2_with fail
    refine hrh.mono ?_
    rintro e w5 ⟨v5, rfl, r5, -, c5⟩
    have hsm := same_any _ _ _ _ _ _ w5 (r4.out.keep c5 (fun _ _ e => e)).sees r5.sees
    rw [decide_eq_true (rfl : gh = gh)] at hsm
    replace bx := Lib.hid (c5.keep bx.out (fun e => e))
    replace c5 := Lib.hid (c4.out.trans c5)
    clear hrh r4 c4 r5
    go_wp2_with fail
    refine hsm.mono ?_
    rintro e w6 ⟨rfl, n6, rfl⟩
    clear hsm
    have c6 := Lib.hid (c5.out.drewN n6)
    replace bx := Lib.hid ((ch_drewN' w5 n6).keep bx.out (fun e => e))
    clear c5
    generalize w5.drewN n6 = W6 at *
    have x0 := cell_of_row W6 B 0 _ _ _ bx.out
    have x1 := cell_of_row W6 B 1 _ _ _ bx.out
    have x2 := cell_of_row W6 B 2 _ _ _ bx.out
    have x3 := cell_of_row W6 B 3 _ _ _ bx.out
    have x4 := cell_of_row W6 B 4 _ _ _ bx.out
    simp at x0 x1 x2 x3 x4
    have hz : ∀ w, (zeroValue 36).run Try.prog w = .ok (.agg #[.int .i64 0, .int .i64 0, .slice none 0 0, .slice none 0 0, .bool false]) w := zeroNode
    have HRS : Hid (∀ wq, _) := Lib.hid (fun wq => rsame_any (fun _ => False) (fun _ => False) _ _ ⟨0, 0, [], [], false⟩ ⟨0, 0, [], [], false⟩ _ _ _ _ wq ⟨rfl, SeesI.nil, SeesI.nil⟩ ⟨rfl, SeesI.nil, SeesI.nil⟩)
    rw [decide_eq_true (rfl : (⟨0, 0, [], [], false⟩ : GN) = ⟨0, 0, [], [], false⟩)] at HRS
    go_wp2_with fail
    replace x0 := cellB x0
    replace x1 := cellB x1
    replace x2 := cellB x2
    replace x3 := cellB x3
    replace x4 := cellB x4
    refine wp_region_quiet_below (by kernel_rfl) (by kernel_rfl) ?_
    repeat (go_big_quiet_step ((go_at_call 39; exact quietB (HRS.out _))))
    refine wpQuiet_nil ?_
    intro _ hw'
    obtain ⟨⟨dq, osq⟩, hw''⟩ := hw'
    subst hw''
    have HE := Lib.hid (c6.out.trans (chB W6 dq osq))
    clear x0 x1 x2 x3 x4
    go_wp2_with fail
    go_ret
    exact ⟨rfl, HE.out⟩
  obtain ⟨i, hi, hp, hid, hat⟩ := gpos_some hin
  rw [hp] at HA
  have hnd := List.getElem_mem hi
  have hw1 := t.g.wf _ hnd
  have hr60 := hw1.refs
  have hd60 := hw1.data
  have hn := node_yes t.g.g hnd (by omega) (by omega)
  rw [hid] at hn
  replace hnd := Lib.hid hnd
  have u1 : decide (0 ≤ (i : Int)) = true := decide_eq_true (by omega)
  have u2 : (0 : Int) ≤ i := by omega
  have u3 : (i : Int) < L.length := by omega
  clear t hp hat hw1
  generalize (gaim cs L id).1 = to at *
  generalize (gaim cs L id).2 = kd at *
  generalize gholds cs L id = gh at *
  obtain ⟨nd, hndd⟩ : ∃ nd, nd = L[i] := ⟨_, rfl⟩
  rw [← hndd] at hn hr60 hd60 hid
  replace hndd := Lib.hid hndd
  replace hid := Lib.hid hid
  go_enter Try.func51, Try.ntmps51
  go_wp2_with fail
  refine hn.mono ?_
  rintro e w1 ⟨av, ar, ad, rfl, hcp, c1⟩
  obtain ⟨ar, cr, rfl, -, -⟩ := hcp.refs.isSlice
  obtain ⟨ad, cd, rfl, -, -⟩ := hcp.data.isSlice
  obtain rfl : av = .agg #[.int .i64 nd.id, .int .i64 nd.cls, .slice ar nd.refs.length cr, .slice ad nd.data.length cd, .bool nd.fin] := hcp.v
  have hH := Held1.new hcp
  have cA : Ch0 w (w1.alloc (.cells #[.int .i64 nd.id, .int .i64 nd.cls, .slice ar nd.refs.length cr, .slice ad nd.data.length cd, .bool nd.fin] 36)) := c1.alloc _
  have ha := HA.out _ cA
  replace cA := Lib.hid cA
  replace hH := Lib.hid hH
  clear hn hcp c1
  go_wp2_with fail
  generalize w1.heap.size = B at *
  generalize w1.alloc (.cells #[.int .i64 nd.id, .int .i64 nd.cls, .slice ar nd.refs.length cr, .slice ad nd.data.length cd, .bool nd.fin] 36) = W1 at *
  refine ha.mono ?_
  rintro e w2 ⟨rfl, hs⟩
  obtain rfl : W1 = w2 := hs
  have hm := HM.out _ cA.out
  clear ha HA
  go_wp2_with fail
  refine hm.mono ?_
  rintro e w2 ⟨rfl, c2⟩
  have hrm := HRM.out _ (cA.out.trans c2)
  replace hH := Lib.hid (hH.out.keep c2 (fun _ e => e.elim))
  replace c2 := Lib.hid (cA.out.trans c2)
  clear hm HM cA
  go_wp2_with fail
  refine hrm.mono ?_
  rintro e w3 ⟨rfl, n3, rfl⟩
  have c3 := Lib.hid (c2.out.drewN n3)
  replace hH := Lib.hid (hH.out.keep (ch_drewN' w2 n3) (fun _ e => e.elim))
  clear hrm HRM c2
  generalize w2.drewN n3 = W3 at *
  have t1 : (to != to) = false := by simp
  have t2 : (kd != kd) = false := by simp
  go_wp2_with fail
  refine (HH.out _ c3.out).mono ?_
  rintro e w4 ⟨v4, rfl, r4, -, c4⟩
  have hrh := HRH.out _ (c3.out.trans c4)
  replace hH := Lib.hid (hH.out.keep c4 (fun _ e => e.elim))
  replace c4 := Lib.hid (c3.out.trans c4)
  replace r4 := Lib.hid r4
  clear HH HRH c3
  go_wp2_with fail
  refine hrh.mono ?_
  rintro e w5 ⟨v5, rfl, r5, -, c5⟩
  have hsm := same_any _ _ _ _ _ _ w5 (r4.out.keep c5 (fun _ _ e => e)).sees r5.sees
  rw [decide_eq_true (rfl : gh = gh)] at hsm
  replace hH := Lib.hid (hH.out.keep c5 (fun _ e => e.elim))
  replace c5 := Lib.hid (c4.out.trans c5)
  clear hrh r4 c4 r5
  go_wp2_with fail
  refine hsm.mono ?_
  rintro e w6 ⟨rfl, n6, rfl⟩
  clear hsm
  have c6 := Lib.hid (c5.out.drewN n6)
  replace hH := Lib.hid (hH.out.keep (ch_drewN' w5 n6) (fun _ e => e.elim))
  clear c5
  generalize w5.drewN n6 = W6 at *
  obtain ⟨nv, vr, vd, ow, g6⟩ := (HT.out.r.new c6.out).g
  obtain ⟨gb, o, c, rfl, -, hcell⟩ := g6.node (by omega)
  have z1 := cellB g6.cells.2
  obtain ⟨n0, n1, n2, n3, n4⟩ := hcell i hi
  rw [← hndd.out] at n0 n1 n2 n3 n4
  have hmem : nd ∈ L := by rw [hndd.out]; exact hnd.out
  obtain ⟨a5, c5, e5, -, -⟩ := (g6.refs _ hmem).isSlice
  obtain ⟨a6, c6', e6, -, -⟩ := (g6.data _ hmem).isSlice
  have hS5 := (g6.refs _ hmem).sees
  have hS6 := (g6.data _ hmem).sees
  rw [e5] at n2 hS5
  rw [e6] at n3 hS6
  have HRS : Hid (∀ wq, Ch0 W6 wq → _) := Lib.hid (fun wq (cq : Ch0 W6 wq) => rsame_any _ (fun _ => True) _ _ nd nd _ _ _ _ wq ((hH.out.keep cq (fun _ e => e.elim)).nv) ⟨rfl, (Sees.keep hS5 cq (fun _ _ e => e)).mono (fun _ _ => trivial), (Sees.keep hS6 cq (fun _ _ e => e)).mono (fun _ _ => trivial)⟩)
  rw [decide_eq_true (rfl : nd = nd)] at HRS
  replace n0 := cellB n0
  replace n1 := cellB n1
  replace n2 := cellB n2
  replace n3 := cellB n3
  replace n4 := cellB n4
  have x0 := cellB hH.out.y0
  have x1 := cellB hH.out.y1
  have x2 := cellB hH.out.y2
  have x3 := cellB hH.out.y3
  have x4 := cellB hH.out.y4
  clear hcell g6 e5 e6 hS5 hS6 hmem HT
  go_wp2_with fail
  refine wp_region_quiet_below (by kernel_rfl) (by kernel_rfl) ?_
  repeat (go_big_quiet_step ((go_at_call 39; exact quietB (HRS.out _ (chB _ _ _)))))
  refine wpQuiet_nil ?_
  intro _ hw'
  obtain ⟨⟨dq, osq⟩, hw''⟩ := hw'
  subst hw''
  have HE := Lib.hid (c6.out.trans (chB W6 dq osq))
  clear x0 x1 x2 x3 x4 n0 n1 n2 n3 n4 z1
  go_wp2_with fail
  go_ret
  exact ⟨rfl, HE.out⟩

end Go.Proofs.Ytlmeponoadhheaa
