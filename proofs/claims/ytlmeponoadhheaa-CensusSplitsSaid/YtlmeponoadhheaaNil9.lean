/-
  gleaninglaw09.GraphNil answers true: a nil graph has no nodes.
-/
import Derived.Test.YtlmeponoadhheaaGl
namespace Go.Proofs.Ytlmeponoadhheaa
set_option linter.unusedVariables false
open Go.RowKit Go.ChangeShapes Go.WideShapes Go.ChangeAt

section
variable {H : Type} {enc : TypeId × Value → H}
set_option maxRecDepth 100000 in
/-- one call that came in -/
theorem open_op1 {r : Reach} {b0 : Nat} {W : World} {v : Value} {d : DataW H} {p : List MemPlace}
    (hok : Value.okWide Try.prog W r b0 54 v) (h : DataW.Trod enc Try.prog W 0 (fun _ => true) true 54 v d p) :
    ∃ o : OpG, v = .agg #[.int .i64 o.kind, .int .i64 o.a, .int .i64 o.b, .int .i64 o.c, o.v] ∧ o.Fits ∧ SeesI (fun k => k < W.heap.size) W o.v o.ls := by
  obtain ⟨cs, rfl, -, hr⟩ := open_agg Try.underlying54 hok h
  obtain ⟨o, rfl, hf, hs⟩ := RD.opg hr
  exact ⟨o, rfl, hf, hs⟩
end

section
variable (w : World) (x y z : Int)

theorem look_nil : Calls Try.prog 99 #[.pointer none, .int .i64 x] w fun e w' => e = .returned (.pointer none) ∧ w = w' := by
  go_enter Try.func99, Try.ntmps99
  go_wp2_with fail
  go_ret
  exact ⟨rfl, rfl⟩

theorem add_nil : Calls Try.prog 32 #[.pointer none, .int .i64 x, .int .i64 y, .int .i64 z] w fun e w' => e = .returned (.int .i64 4) ∧ w = w' := by
  go_enter Try.func32, Try.ntmps32
  go_wp2_with fail
  go_ret
  exact ⟨rfl, rfl⟩

theorem setref_nil : Calls Try.prog 42 #[.pointer none, .int .i64 x, .int .i64 y, .int .i64 z] w fun e w' => e = .returned (.int .i64 7) ∧ w = w' := by
  go_enter Try.func42, Try.ntmps42
  go_wp2_with fail
  refine (look_nil w x).mono ?_
  rintro e w1 ⟨rfl, rfl⟩
  go_wp2_with fail
  go_ret
  exact ⟨rfl, rfl⟩

theorem setnum_nil : Calls Try.prog 43 #[.pointer none, .int .i64 x, .int .i64 y, .int .i64 z] w fun e w' => e = .returned (.int .i64 7) ∧ w = w' := by
  go_enter Try.func43, Try.ntmps43
  go_wp2_with fail
  refine (look_nil w x).mono ?_
  rintro e w1 ⟨rfl, rfl⟩
  go_wp2_with fail
  go_ret
  exact ⟨rfl, rfl⟩

theorem done_nil : Calls Try.prog 48 #[.pointer none, .int .i64 x] w fun e w' => e = .returned (.int .i64 7) ∧ w = w' := by
  go_enter Try.func48, Try.ntmps48
  go_wp2_with fail
  refine (look_nil w x).mono ?_
  rintro e w1 ⟨rfl, rfl⟩
  go_wp2_with fail
  go_ret
  exact ⟨rfl, rfl⟩

theorem ids_nil : Calls Try.prog 35 #[.pointer none] w fun e w' => e = .returned (.slice none 0 0) ∧ w = w' := by
  go_enter Try.func35, Try.ntmps35
  go_wp2_with fail
  go_ret
  exact ⟨rfl, rfl⟩

theorem holdsof_nil : Calls Try.prog 34 #[.pointer none, .int .i64 x] w fun e w' => e = .returned (.slice none 0 0) ∧ w = w' := by
  go_enter Try.func34, Try.ntmps34
  go_wp2_with fail
  refine (look_nil w x).mono ?_
  rintro e w1 ⟨rfl, rfl⟩
  go_wp2_with fail
  go_ret
  exact ⟨rfl, rfl⟩

theorem keep_nil (v : Value) : Calls Try.prog 49 #[.pointer none, v] w fun e w' => e = .returned (.int .i64 0) ∧ w = w' := by
  go_enter Try.func49, Try.ntmps49
  go_wp2_with fail
  go_ret
  exact ⟨rfl, rfl⟩

theorem words_nil : Calls Try.prog 36 #[.pointer none] w fun e w' => e = .returned (.int .i64 0) ∧ w = w' := by
  have hi := ids_nil w
  go_enter Try.func36, Try.ntmps36
  go_wp2_with fail
  refine hi.mono ?_
  rintro e w1 ⟨rfl, rfl⟩
  clear hi
  go_wp2_with fail
  go_loopw [3, 10] (fun s i wr => s = .int .i64 0 ∧ i = .int .i64 0 ∧ w = wr) (fun _ _ _ => 0)
  case atStart => exact ⟨rfl, rfl, rfl⟩
  case round =>
    obtain ⟨rfl, rfl, rfl⟩ := hrel
    go_wp2_with fail
    go_ret
    exact ⟨rfl, rfl⟩

theorem node_nil : Calls Try.prog 33 #[.pointer none, .int .i64 x] w fun e w' => e = .returned (.tuple #[noNode, .int .i64 7]) ∧ Ch0 w w' := by
  have hz := zeroNode w
  have cA : Ch0 w (w.alloc (.cells #[.int .i64 0, .int .i64 0, .slice none 0 0, .slice none 0 0, .bool false] 36)) := (Ch.refl _ _).alloc _
  go_enter Try.func33, Try.ntmps33
  go_wp2_with fail
  refine (look_nil _ x).mono ?_
  rintro e w1 ⟨rfl, rfl⟩
  go_wp2_with fail
  exact bodyPost_ret (v := .tuple #[.agg #[.int .i64 0, .int .i64 0, .slice none 0 0, .slice none 0 0, .bool false], .int .i64 7]) (by simp [results, Try.results33, go_sem]) rfl ⟨rfl, cA⟩

theorem aim_nil : Calls Try.prog 40 #[.pointer none, .int .i64 x] w fun e w' => e = .returned (.tuple #[.int .i64 0, .int .i64 0]) ∧ ∃ n, w' = w.drewN n := by
  go_enter Try.func40, Try.ntmps40
  go_wp2_with fail
  refine (look_nil _ x).mono ?_
  rintro e w1 ⟨rfl, rfl⟩
  go_wp2_with fail
  go_quiet (fail)
  go_wp2_with fail
  go_ret2
  exact ⟨rfl, _, rfl⟩
end

theorem seesG_one {D : Nat → Prop} {w : World} (o : OpG) (hs : SeesI D w o.v o.ls) :
    SeesG (fun _ => True) (w.alloc (.cells #[.int .i64 o.kind, .int .i64 o.a, .int .i64 o.b, .int .i64 o.c, o.v] 54)) (.slice (some ⟨w.heap.size, 0, none⟩) 1 1) [o] := by
  refine ⟨⟨rfl, _, 1, rfl, Nat.le_refl _, by decide, .inr ⟨w.heap.size, 0, trivial, rfl, fun i u hu => ?_⟩⟩, fun o' ho => ?_⟩
  · rw [Nat.zero_add, cell_of_row _ w.heap.size i _ _ _ (heap_alloc_new w _)]
    simpa [ogCells, OpG.cells] using hu
  · obtain rfl := List.mem_singleton.1 ho
    exact (hs.mono (D' := fun _ => True) (fun _ _ => trivial)).keep ((Ch.refl (fun _ => False) _).alloc _) (fun _ _ e => e)

set_option maxRecDepth 100000 in
set_option maxHeartbeats 4000000 in
theorem nil_walk (o : OpG) (w : World) (hs : SeesI (fun k => k < w.heap.size) w o.v o.ls) :
    Calls Try.prog 8 #[.agg #[.int .i64 o.kind, .int .i64 o.a, .int .i64 o.b, .int .i64 o.c, o.v]] w fun e w' => e = .returned (.bool true) ∧ Ch0 w w' := by
  have HA := Lib.hid awake9
  have cb : Ch0 w (w.alloc (.cells #[.int .i64 o.kind, .int .i64 o.a, .int .i64 o.b, .int .i64 o.c, o.v] 54)) := (Ch.refl _ _).alloc _
  have bb := heap_alloc_new w (.cells #[.int .i64 o.kind, .int .i64 o.a, .int .i64 o.b, .int .i64 o.c, o.v] 54)
  have hs0 := hs.keep cb (fun _ _ e => e)
  obtain ⟨va, vc, ev, -⟩ := hs.len
  obtain ⟨kd, A, B, C, v, ls⟩ := o
  simp only at *
  subst ev
  replace hs0 := Lib.hid hs0
  clear hs
  go_enter Try.func8, Try.ntmps8
  go_wp2_with fail
  refine (HA.out _).mono ?_
  rintro e w1 ⟨rfl, d1⟩
  have y0 := d1.cell ((cell_of_row _ w.heap.size 0 _ _ _ bb).trans rfl) (fun e => e)
  have y1 := d1.cell ((cell_of_row _ w.heap.size 1 _ _ _ bb).trans rfl) (fun e => e)
  have y2 := d1.cell ((cell_of_row _ w.heap.size 2 _ _ _ bb).trans rfl) (fun e => e)
  have y3 := d1.cell ((cell_of_row _ w.heap.size 3 _ _ _ bb).trans rfl) (fun e => e)
  have y4 := d1.cell ((cell_of_row _ w.heap.size 4 _ _ _ bb).trans rfl) (fun e => e)
  have hf := few_any _ _ _ _ (seesG_one ⟨kd, A, B, C, .slice va ls.length vc, ls⟩ (hs0.out.keep d1 (fun _ _ e => e)))
  have d2 : Ch0 w w1 := cb.trans d1
  clear cb bb d1 hs0
  generalize w.heap.size = P at *
  have d3 := Lib.hid (d2.trans ((Ch.refl (fun _ => False) w1).alloc (.cells #[.int .i64 kd, .int .i64 A, .int .i64 B, .int .i64 C, .slice va ls.length vc] 54)))
  have c0 : Ch0 w1 (w1.alloc (.cells #[.int .i64 kd, .int .i64 A, .int .i64 B, .int .i64 C, .slice va ls.length vc] 54)) := (Ch.refl _ _).alloc _
  have z0 := c0.cell y0 (fun e => e)
  have z1 := c0.cell y1 (fun e => e)
  have z2 := c0.cell y2 (fun e => e)
  have z3 := c0.cell y3 (fun e => e)
  have z4 := c0.cell y4 (fun e => e)
  clear c0 d2
  go_wp2_with fail
  refine hf.mono ?_
  rintro e w2 ⟨rfl, hsw⟩
  obtain rfl := hsw
  clear hf y0 y1 y2 y3 y4
  generalize w1.alloc _ = w2 at *
  by_cases b : ls.length ≤ 100
  case neg =>
    have g1 : fewB [⟨kd, A, B, C, .slice va ls.length vc, ls⟩] = false := by simp [fewB]; omega
    rw [g1]
    clear g1 z0 z1 z2 z3 z4
    go_wp2_with fail
    refine (HA.out _).mono ?_
    rintro e w3 ⟨rfl, e3⟩
    have HC := Lib.hid (d3.out.trans e3)
    clear e3
    go_wp2_with fail
    go_ret
    exact ⟨rfl, HC.out⟩
  have g1 : fewB [⟨kd, A, B, C, .slice va ls.length vc, ls⟩] = true := by simp [fewB]; omega
  rw [g1]
  clear g1 b
  go_wp2_with fail
  refine (node_nil _ A).mono ?_
  rintro e w3 ⟨rfl, e3⟩
  have c0 : Ch0 w3 (w3.alloc (.cells #[.int .i64 0, .int .i64 0, .slice none 0 0, .slice none 0 0, .bool false] 36)) := (Ch.refl _ _).alloc _
  have c1 := e3.trans c0
  have x0 := c1.cell z0 (fun e => e)
  have x1 := c1.cell z1 (fun e => e)
  have x2 := c1.cell z2 (fun e => e)
  have x3 := c1.cell z3 (fun e => e)
  have x4 := c1.cell z4 (fun e => e)
  have d4 := Lib.hid (d3.out.trans c1)
  clear z0 z1 z2 z3 z4 e3 c0 c1 d3
  unfold noNode
  go_wp2_with fail
  generalize w3.alloc _ = w4 at *
  refine (aim_nil _ A).mono ?_
  rintro e w5 ⟨rfl, n, rfl⟩
  have d5 := Lib.hid (d4.out.trans ((Ch.refl _ _).drewN n))
  have c2 : Ch0 w4 (w4.drewN n) := (Ch.refl _ _).drewN n
  replace x0 := c2.cell x0 (fun e => e)
  replace x1 := c2.cell x1 (fun e => e)
  replace x2 := c2.cell x2 (fun e => e)
  replace x3 := c2.cell x3 (fun e => e)
  replace x4 := c2.cell x4 (fun e => e)
  clear c2 d4
  generalize w4.drewN n = w5 at *
  go_wp2_with fail
  go_quiet ((first
    | (go_at_call 32; exact quietE (add_nil _ A B C))
    | (go_at_call 42; exact quietE (setref_nil _ A B C))
    | (go_at_call 43; exact quietE (setnum_nil _ A B C))
    | (go_at_call 48; exact quietE (done_nil _ A))
    | (go_at_call 35; exact quietE (ids_nil _))
    | (go_at_call 34; exact quietE (holdsof_nil _ A))
    | (go_at_call 49; exact quietE (keep_nil _ _))
    | (go_at_call 36; exact quietE (words_nil _))))
  go_wp2_with fail
  go_ret
  exact ⟨rfl, d5.out.drewN _⟩

end Go.Proofs.Ytlmeponoadhheaa
