/-
  The closures of the laws of processing: which aims are kept. (Printed by keepf.py.)
-/
import Derived.Test.YtlmeponoadhheaaSoft
import Derived.Test.YtlmeponoadhheaaKeptBits
namespace Go.Proofs.Ytlmeponoadhheaa
set_option linter.unusedVariables false
open Go.RowKit

/-- names small enough for a number's bits -/
def Low (L : List GN) : Prop := ∀ nd ∈ L, 0 ≤ nd.id ∧ nd.id < 64

/-- a function value that tells what is kept, of a world and all behind it -/
theorem keepOk_of {k : Nat} {caps : Array Value} {kp : Int → Bool} {w : World} {L : List GN} (hlow : Low L) (eg : ∀ args w, (callFunc k args).run Try.prog w = .ok (.enter k args) w)
    (hf : ∀ W id cls ar nr cr ad na cd f, Ch0 w W → 0 ≤ id → id < 64 → Calls Try.prog k (#[.agg #[.int .i64 id, .int .i64 cls, .slice ar nr cr, .slice ad na cd, .bool f]] ++ caps) W fun e w' => e = .returned (.bool (kp id)) ∧ Ch0 W w') : KeepOk (.func (.func k) #[] caps) kp w L :=
  .inr ⟨k, caps, rfl, eg, fun W nd ar cr ad cd c hnd => hf W nd.id nd.cls ar _ cr ad _ cd nd.fin c (hlow nd hnd).1 (hlow nd hnd).2⟩

set_option maxHeartbeats 400000 in
theorem clo_soft1 (bits : Int) (b0 : 0 ≤ bits) (b1 : bits < 18446744073709551616) (kb : Nat) (w : World) (hc : w.cell? ⟨kb, 0, none⟩ = some (.int .u64 bits)) (W : World) (id cls : Int) (ar : Option Addr) (nr cr : Nat) (ad : Option Addr) (na cd : Nat) (f : Bool) (c : Ch0 w W) (h0 : 0 ≤ id) (h1 : id < 64) :
    Calls Try.prog 67 (#[.agg #[.int .i64 id, .int .i64 cls, .slice ar nr cr, .slice ad na cd, .bool f]] ++ #[.pointer (some ⟨kb, 0, none⟩)]) W fun e w' => e = .returned (.bool (keptB id bits)) ∧ Ch0 W w' := by
  have cA : Ch0 W (W.alloc (.cells #[.int .i64 id, .int .i64 cls, .slice ar nr cr, .slice ad na cd, .bool f] 36)) := (Ch.refl _ _).alloc _
  have q1 := (c.trans cA).cell hc (fun e => e)
  have q0 := cell_of_row _ W.heap.size 0 _ _ _ (heap_alloc_new W (.cells #[.int .i64 id, .int .i64 cls, .slice ar nr cr, .slice ad na cd, .bool f] 36))
  simp only [List.getElem?_toArray, List.getElem?_cons_zero] at q0
  have hk : Hid (∀ w, _) := Lib.hid (kept_any id bits h0 h1 b0 b1)
  replace cA := Lib.hid cA
  clear hc c
  show Calls Try.prog 67 #[.agg #[.int .i64 id, .int .i64 cls, .slice ar nr cr, .slice ad na cd, .bool f], .pointer (some ⟨kb, 0, none⟩)] W _
  go_enter Try.func67, Try.ntmps67
  go_wp2_with fail
  refine (hk.out _).mono ?_
  rintro e w1 ⟨rfl, hs⟩
  obtain rfl := hs
  go_wp2_with fail
  go_ret
  exact ⟨rfl, cA.out⟩

set_option maxHeartbeats 400000 in
theorem clo_tells1 (bits : Int) (b0 : 0 ≤ bits) (b1 : bits < 18446744073709551616) (kb : Nat) (w : World) (hc : w.cell? ⟨kb, 0, none⟩ = some (.int .u64 bits)) (W : World) (id cls : Int) (ar : Option Addr) (nr cr : Nat) (ad : Option Addr) (na cd : Nat) (f : Bool) (c : Ch0 w W) (h0 : 0 ≤ id) (h1 : id < 64) :
    Calls Try.prog 72 (#[.agg #[.int .i64 id, .int .i64 cls, .slice ar nr cr, .slice ad na cd, .bool f]] ++ #[.pointer (some ⟨kb, 0, none⟩)]) W fun e w' => e = .returned (.bool (keptB id bits)) ∧ Ch0 W w' := by
  have cA : Ch0 W (W.alloc (.cells #[.int .i64 id, .int .i64 cls, .slice ar nr cr, .slice ad na cd, .bool f] 36)) := (Ch.refl _ _).alloc _
  have q1 := (c.trans cA).cell hc (fun e => e)
  have q0 := cell_of_row _ W.heap.size 0 _ _ _ (heap_alloc_new W (.cells #[.int .i64 id, .int .i64 cls, .slice ar nr cr, .slice ad na cd, .bool f] 36))
  simp only [List.getElem?_toArray, List.getElem?_cons_zero] at q0
  have hk : Hid (∀ w, _) := Lib.hid (kept_any id bits h0 h1 b0 b1)
  replace cA := Lib.hid cA
  clear hc c
  show Calls Try.prog 72 #[.agg #[.int .i64 id, .int .i64 cls, .slice ar nr cr, .slice ad na cd, .bool f], .pointer (some ⟨kb, 0, none⟩)] W _
  go_enter Try.func72, Try.ntmps72
  go_wp2_with fail
  refine (hk.out _).mono ?_
  rintro e w1 ⟨rfl, hs⟩
  obtain rfl := hs
  go_wp2_with fail
  go_ret
  exact ⟨rfl, cA.out⟩

set_option maxHeartbeats 400000 in
theorem clo_closes1 (bits : Int) (b0 : 0 ≤ bits) (b1 : bits < 18446744073709551616) (kb : Nat) (w : World) (hc : w.cell? ⟨kb, 0, none⟩ = some (.int .u64 bits)) (W : World) (id cls : Int) (ar : Option Addr) (nr cr : Nat) (ad : Option Addr) (na cd : Nat) (f : Bool) (c : Ch0 w W) (h0 : 0 ≤ id) (h1 : id < 64) :
    Calls Try.prog 76 (#[.agg #[.int .i64 id, .int .i64 cls, .slice ar nr cr, .slice ad na cd, .bool f]] ++ #[.pointer (some ⟨kb, 0, none⟩)]) W fun e w' => e = .returned (.bool (keptB id bits)) ∧ Ch0 W w' := by
  have cA : Ch0 W (W.alloc (.cells #[.int .i64 id, .int .i64 cls, .slice ar nr cr, .slice ad na cd, .bool f] 36)) := (Ch.refl _ _).alloc _
  have q1 := (c.trans cA).cell hc (fun e => e)
  have q0 := cell_of_row _ W.heap.size 0 _ _ _ (heap_alloc_new W (.cells #[.int .i64 id, .int .i64 cls, .slice ar nr cr, .slice ad na cd, .bool f] 36))
  simp only [List.getElem?_toArray, List.getElem?_cons_zero] at q0
  have hk : Hid (∀ w, _) := Lib.hid (kept_any id bits h0 h1 b0 b1)
  replace cA := Lib.hid cA
  clear hc c
  show Calls Try.prog 76 #[.agg #[.int .i64 id, .int .i64 cls, .slice ar nr cr, .slice ad na cd, .bool f], .pointer (some ⟨kb, 0, none⟩)] W _
  go_enter Try.func76, Try.ntmps76
  go_wp2_with fail
  refine (hk.out _).mono ?_
  rintro e w1 ⟨rfl, hs⟩
  obtain rfl := hs
  go_wp2_with fail
  go_ret
  exact ⟨rfl, cA.out⟩

set_option maxHeartbeats 400000 in
theorem clo_again1 (bits : Int) (b0 : 0 ≤ bits) (b1 : bits < 18446744073709551616) (kb : Nat) (w : World) (hc : w.cell? ⟨kb, 0, none⟩ = some (.int .u64 bits)) (W : World) (id cls : Int) (ar : Option Addr) (nr cr : Nat) (ad : Option Addr) (na cd : Nat) (f : Bool) (c : Ch0 w W) (h0 : 0 ≤ id) (h1 : id < 64) :
    Calls Try.prog 77 (#[.agg #[.int .i64 id, .int .i64 cls, .slice ar nr cr, .slice ad na cd, .bool f]] ++ #[.pointer (some ⟨kb, 0, none⟩)]) W fun e w' => e = .returned (.bool (keptB id bits)) ∧ Ch0 W w' := by
  have cA : Ch0 W (W.alloc (.cells #[.int .i64 id, .int .i64 cls, .slice ar nr cr, .slice ad na cd, .bool f] 36)) := (Ch.refl _ _).alloc _
  have q1 := (c.trans cA).cell hc (fun e => e)
  have q0 := cell_of_row _ W.heap.size 0 _ _ _ (heap_alloc_new W (.cells #[.int .i64 id, .int .i64 cls, .slice ar nr cr, .slice ad na cd, .bool f] 36))
  simp only [List.getElem?_toArray, List.getElem?_cons_zero] at q0
  have hk : Hid (∀ w, _) := Lib.hid (kept_any id bits h0 h1 b0 b1)
  replace cA := Lib.hid cA
  clear hc c
  show Calls Try.prog 77 #[.agg #[.int .i64 id, .int .i64 cls, .slice ar nr cr, .slice ad na cd, .bool f], .pointer (some ⟨kb, 0, none⟩)] W _
  go_enter Try.func77, Try.ntmps77
  go_wp2_with fail
  refine (hk.out _).mono ?_
  rintro e w1 ⟨rfl, hs⟩
  obtain rfl := hs
  go_wp2_with fail
  go_ret
  exact ⟨rfl, cA.out⟩

set_option maxHeartbeats 400000 in
theorem clo_plain1 (W : World) (id cls : Int) (ar : Option Addr) (nr cr : Nat) (ad : Option Addr) (na cd : Nat) (f : Bool) :
    Calls Try.prog 66 (#[.agg #[.int .i64 id, .int .i64 cls, .slice ar nr cr, .slice ad na cd, .bool f]] ++ #[]) W fun e w' => e = .returned (.bool true) ∧ Ch0 W w' := by
  have cA : Ch0 W (W.alloc (.cells #[.int .i64 id, .int .i64 cls, .slice ar nr cr, .slice ad na cd, .bool f] 36)) := (Ch.refl _ _).alloc _
  replace cA := Lib.hid cA
  show Calls Try.prog 66 #[.agg #[.int .i64 id, .int .i64 cls, .slice ar nr cr, .slice ad na cd, .bool f]] W _
  go_enter Try.func66, Try.ntmps66
  go_wp2_with fail
  go_ret
  exact ⟨rfl, cA.out⟩

set_option maxHeartbeats 400000 in
theorem clo_soft3 (W : World) (id cls : Int) (ar : Option Addr) (nr cr : Nat) (ad : Option Addr) (na cd : Nat) (f : Bool) :
    Calls Try.prog 70 (#[.agg #[.int .i64 id, .int .i64 cls, .slice ar nr cr, .slice ad na cd, .bool f]] ++ #[]) W fun e w' => e = .returned (.bool true) ∧ Ch0 W w' := by
  have cA : Ch0 W (W.alloc (.cells #[.int .i64 id, .int .i64 cls, .slice ar nr cr, .slice ad na cd, .bool f] 36)) := (Ch.refl _ _).alloc _
  replace cA := Lib.hid cA
  show Calls Try.prog 70 #[.agg #[.int .i64 id, .int .i64 cls, .slice ar nr cr, .slice ad na cd, .bool f]] W _
  go_enter Try.func70, Try.ntmps70
  go_wp2_with fail
  go_ret
  exact ⟨rfl, cA.out⟩

set_option maxHeartbeats 400000 in
theorem clo_again2 (W : World) (id cls : Int) (ar : Option Addr) (nr cr : Nat) (ad : Option Addr) (na cd : Nat) (f : Bool) :
    Calls Try.prog 78 (#[.agg #[.int .i64 id, .int .i64 cls, .slice ar nr cr, .slice ad na cd, .bool f]] ++ #[]) W fun e w' => e = .returned (.bool true) ∧ Ch0 W w' := by
  have cA : Ch0 W (W.alloc (.cells #[.int .i64 id, .int .i64 cls, .slice ar nr cr, .slice ad na cd, .bool f] 36)) := (Ch.refl _ _).alloc _
  replace cA := Lib.hid cA
  show Calls Try.prog 78 #[.agg #[.int .i64 id, .int .i64 cls, .slice ar nr cr, .slice ad na cd, .bool f]] W _
  go_enter Try.func78, Try.ntmps78
  go_wp2_with fail
  go_ret
  exact ⟨rfl, cA.out⟩

set_option maxHeartbeats 400000 in
theorem clo_soft2 (bits more : Int) (b0 : 0 ≤ bits) (b1 : bits < 18446744073709551616) (m0 : 0 ≤ more) (m1 : more < 18446744073709551616) (kb km : Nat) (w : World) (hc : w.cell? ⟨kb, 0, none⟩ = some (.int .u64 bits)) (hc2 : w.cell? ⟨km, 0, none⟩ = some (.int .u64 more)) (W : World) (id cls : Int) (ar : Option Addr) (nr cr : Nat) (ad : Option Addr) (na cd : Nat) (f : Bool) (c : Ch0 w W) (h0 : 0 ≤ id) (h1 : id < 64) :
    Calls Try.prog 69 (#[.agg #[.int .i64 id, .int .i64 cls, .slice ar nr cr, .slice ad na cd, .bool f]] ++ #[.pointer (some ⟨kb, 0, none⟩), .pointer (some ⟨km, 0, none⟩)]) W fun e w' => e = .returned (.bool (keptB id (Go.bits BinOp.or IntKind.u64 bits more))) ∧ Ch0 W w' := by
  have cA : Ch0 W (W.alloc (.cells #[.int .i64 id, .int .i64 cls, .slice ar nr cr, .slice ad na cd, .bool f] 36)) := (Ch.refl _ _).alloc _
  have q1 := (c.trans cA).cell hc (fun e => e)
  have q2 := (c.trans cA).cell hc2 (fun e => e)
  have q0 := cell_of_row _ W.heap.size 0 _ _ _ (heap_alloc_new W (.cells #[.int .i64 id, .int .i64 cls, .slice ar nr cr, .slice ad na cd, .bool f] 36))
  simp only [List.getElem?_toArray, List.getElem?_cons_zero] at q0
  have hor := or_range bits more b0 b1 m0 m1
  have hk : Hid (∀ w, _) := Lib.hid (kept_any id (Go.bits BinOp.or IntKind.u64 bits more) h0 h1 hor.1 hor.2)
  replace cA := Lib.hid cA
  clear hc hc2 c hor
  show Calls Try.prog 69 #[.agg #[.int .i64 id, .int .i64 cls, .slice ar nr cr, .slice ad na cd, .bool f], .pointer (some ⟨kb, 0, none⟩), .pointer (some ⟨km, 0, none⟩)] W _
  go_enter Try.func69, Try.ntmps69
  go_wp2_with fail
  refine (hk.out _).mono ?_
  rintro e w1 ⟨rfl, hs⟩
  obtain rfl := hs
  go_wp2_with fail
  go_ret
  exact ⟨rfl, cA.out⟩

set_option maxHeartbeats 400000 in
theorem clo_strong1 (bits : Int) (all : Bool) (b0 : 0 ≤ bits) (b1 : bits < 18446744073709551616) (ka kb : Nat) (w : World) (hc0 : w.cell? ⟨ka, 0, none⟩ = some (.bool all)) (hc : w.cell? ⟨kb, 0, none⟩ = some (.int .u64 bits)) (W : World) (id cls : Int) (ar : Option Addr) (nr cr : Nat) (ad : Option Addr) (na cd : Nat) (f : Bool) (c : Ch0 w W) (h0 : 0 ≤ id) (h1 : id < 64) :
    Calls Try.prog 71 (#[.agg #[.int .i64 id, .int .i64 cls, .slice ar nr cr, .slice ad na cd, .bool f]] ++ #[.pointer (some ⟨ka, 0, none⟩), .pointer (some ⟨kb, 0, none⟩)]) W fun e w' => e = .returned (.bool (all || keptB id bits)) ∧ Ch0 W w' := by
  have cA : Ch0 W (W.alloc (.cells #[.int .i64 id, .int .i64 cls, .slice ar nr cr, .slice ad na cd, .bool f] 36)) := (Ch.refl _ _).alloc _
  have q1 := (c.trans cA).cell hc (fun e => e)
  have q2 := (c.trans cA).cell hc0 (fun e => e)
  have q0 := cell_of_row _ W.heap.size 0 _ _ _ (heap_alloc_new W (.cells #[.int .i64 id, .int .i64 cls, .slice ar nr cr, .slice ad na cd, .bool f] 36))
  simp only [List.getElem?_toArray, List.getElem?_cons_zero] at q0
  have hk : Hid (∀ w, _) := Lib.hid (kept_any id bits h0 h1 b0 b1)
  replace cA := Lib.hid cA
  clear hc hc0 c
  show Calls Try.prog 71 #[.agg #[.int .i64 id, .int .i64 cls, .slice ar nr cr, .slice ad na cd, .bool f], .pointer (some ⟨ka, 0, none⟩), .pointer (some ⟨kb, 0, none⟩)] W _
  cases all with
  | true =>
    clear hk
    go_enter Try.func71, Try.ntmps71
    go_wp2_with fail
    go_ret
    exact ⟨rfl, cA.out⟩
  | false =>
    go_enter Try.func71, Try.ntmps71
    go_wp2_with fail
    refine (hk.out _).mono ?_
    rintro e w1 ⟨rfl, hs⟩
    obtain rfl := hs
    go_wp2_with fail
    go_ret
    exact ⟨rfl, cA.out⟩

end Go.Proofs.Ytlmeponoadhheaa
