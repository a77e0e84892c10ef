/-
  The law MemPlays' walk.
-/
import Derived.Test.YtcdifgbdgokioaaOwn
import Derived.Test.YtcdifgbdgokioaaRef3
namespace Go.Proofs.Ytcdifgbdgokioaa
open Go.RowKit

theorem quiet_eq {P : Program} {f : FuncId} {args : Array Value} {w : World} {n : Nat} {v : Value} (h : Calls P f args (w.drewN n) fun e w' => e = .returned v ∧ w.drewN n = w') :
    Calls P f args (w.drewN n) fun e w'' => e = .returned v ∧ ∃ m, w'' = w.drewN m := h.mono fun _ _ ⟨he, hw⟩ => ⟨he, n, hw.symm⟩

theorem seesI_stretch45 (p b : Nat) (xs : List Int) (i k : Nat) (w : World) (h : Ar 45 w p b xs) (h2 : i + k ≤ xs.length) :
    SeesI (· = b) w (.slice (some ⟨b, i, none⟩) k (xs.length - i)) ((xs.drop i).take k) := by
  have hl : ((xs.drop i).take k).length = k := by simp; omega
  have := SeesI.mk (D := (· = b)) (w := w) (xs := (xs.drop i).take k) (g := b) (o := i) (c := xs.length - i) rfl (by omega) (by have := h.le; unfold maxLen; omega) (by
    intro j hj
    rw [cell_ints h.row (i + j) (by omega)]
    simp only [List.getD_eq_getElem?_getD, List.getElem?_take, List.getElem?_drop]
    rw [if_pos (by omega)])
  rwa [hl] at this

theorem seesI_empty (D : Nat → Prop) (w : World) (a : Option Addr) (c : Nat) (hc : c ≤ maxLen) : SeesI D w (.slice a 0 c) [] := ⟨rfl, a, c, rfl, Nat.zero_le _, hc, .inl rfl⟩

/-- The calls that came in: n of them, each of five integers. -/
structure Plays (w : World) (g o n : Nat) (K A B N V : Nat → Int) : Prop where
  lt : g < w.heap.size
  c0 : ∀ j, j < n → w.cell? ⟨g, o + j * 5, none⟩ = some (.int .i64 (K j))
  c1 : ∀ j, j < n → w.cell? ⟨g, o + j * 5 + 1, none⟩ = some (.int .i64 (A j))
  c2 : ∀ j, j < n → w.cell? ⟨g, o + j * 5 + 2, none⟩ = some (.int .i64 (B j))
  c3 : ∀ j, j < n → w.cell? ⟨g, o + j * 5 + 3, none⟩ = some (.int .i64 (N j))
  c4 : ∀ j, j < n → w.cell? ⟨g, o + j * 5 + 4, none⟩ = some (.int .i64 (V j))

set_option maxHeartbeats 1000000 in
set_option maxRecDepth 100000 in
theorem plays_many (m : Int) (sa : Option Addr) (n c : Nat) (w : World) (hn : 200 < n) :
    Calls Try.prog 7 #[.int .i64 m, .slice sa n c] w fun e w' => e = .returned (.bool true) ∧ Ch0 w w' := by
  go_enter Try.func7, Try.ntmps7
  go_wp2_with fail
  refine (awake_any _).mono ?_
  rintro e w0 ⟨rfl, c0⟩
  have C0 := Lib.hid c0
  clear c0
  go_wp2_with fail
  refine (awake_any _).mono ?_
  rintro e w1 ⟨rfl, c1⟩
  have C1 := Lib.hid c1
  clear c1
  go_wp2_with fail
  go_ret
  exact ⟨rfl, C0.out.trans C1.out⟩

set_option maxHeartbeats 8000000 in
set_option maxRecDepth 100000 in
theorem plays_walk (m : Int) (sa : Option Addr) (g o n c : Nat) (K A B N V : Nat → Int) (w : World) (hp : 0 < n → sa = some ⟨g, o, none⟩ ∧ Plays w g o n K A B N V) (hn : n ≤ 200) :
    Calls Try.prog 7 #[.int .i64 m, .slice sa n c] w fun e w' => e = .returned (.bool true) ∧ Ch0 w w' := by
  have HP := Lib.hid hp
  clear hp
  have hd : decide (200 < (n : Int)) = false := decide_eq_false (by omega)
  go_enter Try.func7, Try.ntmps7
  go_wp2_with fail
  refine (awake_any _).mono ?_
  rintro e w0 ⟨rfl, c0⟩
  have C0 := Lib.hid c0
  have s0 := c0.size
  clear c0
  go_wp2_with fail
  refine (new_any m _).mono ?_
  rintro e w1 ⟨p, b, rfl, h1, hp, hb, c1⟩
  have C1 := Lib.hid (C0.out.trans c1)
  have hlt := h1.lt
  have s1 := c1.size
  have H1 := Lib.hid h1
  clear h1 c1
  go_wp2_with fail
  refine (rnew_any m _).mono ?_
  rintro e w2 ⟨p', b', rfl, h2, hp', hb', c2⟩
  have C2 := Lib.hid (C1.out.trans c2)
  have hlt' := h2.lt
  have s2 := c2.size
  have H2 := Lib.hid h2
  have H1' := Lib.hid (H1.out.keep c2 (fun q => q) (fun q => q))
  have hh := cell_of_one h2.hdr
  have hL : Hid ((List.replicate (cutLen m) (0 : Int)).length ≤ 4096) := h2.le
  clear h2 c2 H1
  generalize List.replicate (cutLen m) (0 : Int) = xs0 at *
  go_wp2_with fail
  go_quiet ((go_at_call 15; exact quiet_eq (len_any 52 p b _ _ (H1'.out.keep (ch_drewN _ _) (fun q => q) (fun q => q)))))
  have H3 := Lib.hid (H2.out.keep (ch_drewN w2 nq) (fun q => q) (fun q => q))
  have H3' := Lib.hid (H1'.out.keep (ch_drewN w2 nq) (fun q => q) (fun q => q))
  have C3 := Lib.hid (C2.out.trans (ch_drewN w2 nq))
  have s3 : w2.heap.size ≤ (w2.drewN nq).heap.size := Nat.le_refl _
  clear H2 H1' hh C2
  generalize w2.drewN nq = w3 at *
  go_wp2_with fail
  go_loopw [43] (fun i wr => ∃ j : Nat, j ≤ n ∧ i = .int .i64 j ∧ ∃ xs : List Int, xs.length ≤ 4096 ∧ Ar 52 wr p b xs ∧ Ar 45 wr p' b' xs ∧ Ch0 w wr) (fun i _ => n - (intOf i).toNat)
  case atStart => exact ⟨0, Nat.zero_le _, rfl, xs0, hL.out, H3'.out, H3.out, C3.out⟩
  case round =>
    obtain ⟨j, hj, rfl, xs, hxl, ha, ha', hc⟩ := hrel
    have HA := Lib.hid ha
    have HA' := Lib.hid ha'
    have HC := Lib.hid hc
    clear ha ha' hc H3 H3' C3 hL
    by_cases hlt2 : j < n
    · obtain ⟨hsa, hp⟩ := HP.out (by omega)
      subst hsa
      have c0 := HC.out.cell (hp.c0 j hlt2) (fun q => q)
      have c1 := HC.out.cell (hp.c1 j hlt2) (fun q => q)
      have c2 := HC.out.cell (hp.c2 j hlt2) (fun q => q)
      have c3 := HC.out.cell (hp.c3 j hlt2) (fun q => q)
      have c4 := HC.out.cell (hp.c4 j hlt2) (fun q => q)
      have hgl := hp.lt
      clear hp
      generalize K j = k at *
      generalize A j = a at *
      generalize B j = bb at *
      generalize N j = nn at *
      generalize V j = v at *
      have hwg := HC.out.size
      have hab := HA.out.lt
      have hab' := HA'.out.lt
      have hwb : ¬ wr.heap.size = b := by omega
      have hwb' : ¬ wr.heap.size = b' := by omega
      have hpb : ¬ p = b' := by omega
      have hbb : ¬ b = b' := by omega
      have hpb' : ¬ p' = b := by omega
      have hbb' : ¬ b' = b := by omega
      by_cases k1 : k = 1
      · subst k1
        as_aux_lemma =>
          have hle : Hid ((if 0 ≤ a ∧ a < (xs.length : Int) then xs.set a.toNat v else xs).length ≤ 4096) := by unfold Hid; split <;> simpa using hxl
          have hs : ∀ W, Ar 52 W p b xs → Calls Try.prog 13 #[.pointer (some ⟨p, 0, none⟩), .int .i64 a, .int .i64 v] W fun e w' => e = .returned (.int .i64 (if 0 ≤ a ∧ a < (xs.length : Int) then (0 : Int) else 2)) ∧ Ar 52 w' p b (if 0 ≤ a ∧ a < (xs.length : Int) then xs.set a.toNat v else xs) ∧ Ch (· = b) W w' := fun W h => store_any p b xs a v W h
          have hs' : ∀ W, Ar 45 W p' b' xs → Calls Try.prog 19 #[.pointer (some ⟨p', 0, none⟩), .int .i64 a, .int .i64 v] W fun e w' => e = .returned (.int .i64 (if 0 ≤ a ∧ a < (xs.length : Int) then (0 : Int) else 2)) ∧ Ar 45 w' p' b' (if 0 ≤ a ∧ a < (xs.length : Int) then xs.set a.toNat v else xs) ∧ Ch (· = b') W w' := fun W h => rstore_any p' b' xs a v W h
          generalize (if 0 ≤ a ∧ a < (xs.length : Int) then (0 : Int) else 2) = r at hs hs'
          generalize (if 0 ≤ a ∧ a < (xs.length : Int) then xs.set a.toNat v else xs) = ys at hs hs' hle
          have HS := Lib.hid hs
          have HS' := Lib.hid hs'
          clear hs hs'
          go_wp2_with fail
          go_region_held3 (fun w' => w'.cell? ⟨wr.heap.size, 1, none⟩ = some (.int .i64 a) ∧ w'.cell? ⟨wr.heap.size, 4, none⟩ = some (.int .i64 v))
            (first | go_keep | exact ⟨hy2.cell (hx2.cell (by simp) hwb) hwb', hy2.cell (hx2.cell (by simp) hwb) hwb'⟩ | exact ⟨hx2.cell (by simp) hwb, hx2.cell (by simp) hwb⟩)
            (first
              | (go_at_call 13; refine (HS.out _ (HA.out.keep ((Ch.refl (fun _ => False) wr).alloc _).drew (fun q => q) (fun q => q))).mono ?_; rintro e wx ⟨rfl, hx1, hx2⟩)
              | (go_at_call 19; refine (HS'.out _ ((HA'.out.keep ((Ch.refl (fun _ => False) wr).alloc _).drew (fun q => q) (fun q => q)).keep hx2 hpb' hbb')).mono ?_; rintro e wy ⟨rfl, hy1, hy2⟩))
          have hx3 := Lib.hid (hx1.keep hy2 hpb hbb)
          have hy3 := Lib.hid hy1
          have hc3 := Lib.hid ((HC.out.trans ((Ch.refl (fun _ => False) wr).alloc _).drew).trans' (hx2.trans' hy2 (S'' := fun k => k = b ∨ k = b') (fun _ _ q => .inl q) (fun _ _ q => .inr q)) (S'' := fun _ => False) (fun _ _ q => q) (fun i hi q => by omega))
          rename_i hheld
          clear hheld hx1 hx2 hy1 hy2 HS HS'
          go_wp2_with fail
          go_roundw
          case rel => exact ⟨j + 1, by omega, by go_num, ys, hle.out, hx3.out, hy3.out, hc3.out⟩
          case measure => simp [intOf]; omega
      · have e1 : (k == 1) = false := beq_eq_false_iff_ne.2 k1
        clear k1
        by_cases k2 : k = 2
        · subst k2
          as_aux_lemma =>
            have hle : Hid ((if There xs.length a nn ∧ There xs.length bb nn then moveTo xs a.toNat bb.toNat nn.toNat else xs).length ≤ 4096) := by unfold Hid; split <;> first | exact hxl | (rw [moveTo_length]; exact hxl)
            have hs : ∀ W, Ar 52 W p b xs → Calls Try.prog 14 #[.pointer (some ⟨p, 0, none⟩), .int .i64 a, .int .i64 bb, .int .i64 nn] W fun e w' => e = .returned (.int .i64 (if There xs.length a nn ∧ There xs.length bb nn then (0 : Int) else 2)) ∧ Ar 52 w' p b (if There xs.length a nn ∧ There xs.length bb nn then moveTo xs a.toNat bb.toNat nn.toNat else xs) ∧ Ch (· = b) W w' := fun W h => move_any p b xs a bb nn W h
            have hs' : ∀ W, Ar 45 W p' b' xs → Calls Try.prog 20 #[.pointer (some ⟨p', 0, none⟩), .int .i64 a, .int .i64 bb, .int .i64 nn] W fun e w' => e = .returned (.int .i64 (if There xs.length a nn ∧ There xs.length bb nn then (0 : Int) else 2)) ∧ Ar 45 w' p' b' (if There xs.length a nn ∧ There xs.length bb nn then moveTo xs a.toNat bb.toNat nn.toNat else xs) ∧ Ch (· = b') W w' := fun W h => rmove_any p' b' xs a bb nn W h
            generalize (if There xs.length a nn ∧ There xs.length bb nn then (0 : Int) else 2) = r at hs hs'
            generalize (if There xs.length a nn ∧ There xs.length bb nn then moveTo xs a.toNat bb.toNat nn.toNat else xs) = ys at hs hs' hle
            have HS := Lib.hid hs
            have HS' := Lib.hid hs'
            clear hs hs'
            go_wp2_with fail
            go_region_held3 (fun w' => w'.cell? ⟨wr.heap.size, 1, none⟩ = some (.int .i64 a) ∧ w'.cell? ⟨wr.heap.size, 2, none⟩ = some (.int .i64 bb) ∧ w'.cell? ⟨wr.heap.size, 3, none⟩ = some (.int .i64 nn))
              (first | go_keep | exact ⟨hy2.cell (hx2.cell (by simp) hwb) hwb', hy2.cell (hx2.cell (by simp) hwb) hwb', hy2.cell (hx2.cell (by simp) hwb) hwb'⟩ | exact ⟨hx2.cell (by simp) hwb, hx2.cell (by simp) hwb, hx2.cell (by simp) hwb⟩)
              (first
                | (go_at_call 14; refine (HS.out _ (HA.out.keep ((Ch.refl (fun _ => False) wr).alloc _).drew (fun q => q) (fun q => q))).mono ?_; rintro e wx ⟨rfl, hx1, hx2⟩)
                | (go_at_call 20; refine (HS'.out _ ((HA'.out.keep ((Ch.refl (fun _ => False) wr).alloc _).drew (fun q => q) (fun q => q)).keep hx2 hpb' hbb')).mono ?_; rintro e wy ⟨rfl, hy1, hy2⟩))
            have hx3 := Lib.hid (hx1.keep hy2 hpb hbb)
            have hy3 := Lib.hid hy1
            have hc3 := Lib.hid ((HC.out.trans ((Ch.refl (fun _ => False) wr).alloc _).drew).trans' (hx2.trans' hy2 (S'' := fun k => k = b ∨ k = b') (fun _ _ q => .inl q) (fun _ _ q => .inr q)) (S'' := fun _ => False) (fun _ _ q => q) (fun i hi q => by omega))
            rename_i hheld
            clear hheld hx1 hx2 hy1 hy2 HS HS'
            go_wp2_with fail
            go_roundw
            case rel => exact ⟨j + 1, by omega, by go_num, ys, hle.out, hx3.out, hy3.out, hc3.out⟩
            case measure => simp [intOf]; omega
        · have e2 : (k == 2) = false := beq_eq_false_iff_ne.2 k2
          clear k2
          by_cases k3 : k = 3
          · subst k3
            as_aux_lemma =>
              have hle : Hid ((if There xs.length a nn then fillTo xs a.toNat v nn.toNat else xs).length ≤ 4096) := by unfold Hid; split <;> first | exact hxl | (rw [fillTo_length]; exact hxl)
              have hs : ∀ W, Ar 52 W p b xs → Calls Try.prog 11 #[.pointer (some ⟨p, 0, none⟩), .int .i64 a, .int .i64 nn, .int .i64 v] W fun e w' => e = .returned (.int .i64 (if There xs.length a nn then (0 : Int) else 2)) ∧ Ar 52 w' p b (if There xs.length a nn then fillTo xs a.toNat v nn.toNat else xs) ∧ Ch (· = b) W w' := fun W h => fill_any p b xs a nn v W h
              have hs' : ∀ W, Ar 45 W p' b' xs → Calls Try.prog 21 #[.pointer (some ⟨p', 0, none⟩), .int .i64 a, .int .i64 nn, .int .i64 v] W fun e w' => e = .returned (.int .i64 (if There xs.length a nn then (0 : Int) else 2)) ∧ Ar 45 w' p' b' (if There xs.length a nn then fillTo xs a.toNat v nn.toNat else xs) ∧ Ch (· = b') W w' := fun W h => rfill_any p' b' xs a nn v W h
              generalize (if There xs.length a nn then (0 : Int) else 2) = r at hs hs'
              generalize (if There xs.length a nn then fillTo xs a.toNat v nn.toNat else xs) = ys at hs hs' hle
              have HS := Lib.hid hs
              have HS' := Lib.hid hs'
              clear hs hs'
              go_wp2_with fail
              go_region_held3 (fun w' => w'.cell? ⟨wr.heap.size, 1, none⟩ = some (.int .i64 a) ∧ w'.cell? ⟨wr.heap.size, 3, none⟩ = some (.int .i64 nn) ∧ w'.cell? ⟨wr.heap.size, 4, none⟩ = some (.int .i64 v))
                (first | go_keep | exact ⟨hy2.cell (hx2.cell (by simp) hwb) hwb', hy2.cell (hx2.cell (by simp) hwb) hwb', hy2.cell (hx2.cell (by simp) hwb) hwb'⟩ | exact ⟨hx2.cell (by simp) hwb, hx2.cell (by simp) hwb, hx2.cell (by simp) hwb⟩)
                (first
                  | (go_at_call 11; refine (HS.out _ (HA.out.keep ((Ch.refl (fun _ => False) wr).alloc _).drew (fun q => q) (fun q => q))).mono ?_; rintro e wx ⟨rfl, hx1, hx2⟩)
                  | (go_at_call 21; refine (HS'.out _ ((HA'.out.keep ((Ch.refl (fun _ => False) wr).alloc _).drew (fun q => q) (fun q => q)).keep hx2 hpb' hbb')).mono ?_; rintro e wy ⟨rfl, hy1, hy2⟩))
              have hx3 := Lib.hid (hx1.keep hy2 hpb hbb)
              have hy3 := Lib.hid hy1
              have hc3 := Lib.hid ((HC.out.trans ((Ch.refl (fun _ => False) wr).alloc _).drew).trans' (hx2.trans' hy2 (S'' := fun k => k = b ∨ k = b') (fun _ _ q => .inl q) (fun _ _ q => .inr q)) (S'' := fun _ => False) (fun _ _ q => q) (fun i hi q => by omega))
              rename_i hheld
              clear hheld hx1 hx2 hy1 hy2 HS HS'
              go_wp2_with fail
              go_roundw
              case rel => exact ⟨j + 1, by omega, by go_num, ys, hle.out, hx3.out, hy3.out, hc3.out⟩
              case measure => simp [intOf]; omega
          · have e3 : (k == 3) = false := beq_eq_false_iff_ne.2 k3
            clear k3
            by_cases k4 : k = 4
            · subst k4
              as_aux_lemma =>
                by_cases ha0 : a < 0
                · skip
                  have hA1 := Lib.hid (HA.out.keep ((Ch.refl (fun _ => False) wr).alloc (.cells #[.int .i64 4, .int .i64 a, .int .i64 bb, .int .i64 nn, .int .i64 v] 47)) (fun q => q) (fun q => q))
                  have hh' := cell_of_one HA'.out.hdr
                  have d1 : decide (0 ≤ a) = false := decide_eq_false (by omega)
                  have hno : ¬ (0 ≤ a ∧ a < xs.length) := by omega
                  have HNO := Lib.hid hno
                  clear hno
                  go_wp2_with fail
                  refine (load_no _ xs.length a _ hxl (len_any 52 p b xs _ hA1.out) HNO.out).mono ?_
                  rintro e w' ⟨rfl, rfl⟩
                  go_wp2_with fail
                  go_quiet (fail)
                  go_wp2_with fail
                  go_quiet (fail)
                  go_wp2_with fail
                  go_roundw
                  case rel => exact ⟨j + 1, by omega, by go_num, xs, hxl, HA.out.keep (((Ch.refl (fun _ => False) wr).alloc _).drewN _) (fun q => q) (fun q => q), HA'.out.keep (((Ch.refl (fun _ => False) wr).alloc _).drewN _) (fun q => q) (fun q => q), HC.out.trans (((Ch.refl (fun _ => False) wr).alloc _).drewN _)⟩
                  case measure => simp [intOf]; omega
                · by_cases ha1 : a < xs.length
                  · obtain ⟨a, rfl⟩ := Int.eq_ofNat_of_zero_le (show 0 ≤ a by omega)
                    have hA1 := Lib.hid (HA.out.keep ((Ch.refl (fun _ => False) wr).alloc (.cells #[.int .i64 4, .int .i64 a, .int .i64 bb, .int .i64 nn, .int .i64 v] 47)) (fun q => q) (fun q => q))
                    have hh' := cell_of_one HA'.out.hdr
                    have d1 : decide ((0 : Int) ≤ a) = true := decide_eq_true (by omega)
                    have d2 : decide ((a : Int) < xs.length) = true := decide_eq_true ha1
                    have d3 : (0 : Int) ≤ a := by omega
                    have hx1 := cell_ints HA'.out.row a (by omega)
                    have hld := load_yes p b xs a _ hA1.out (by omega)
                    generalize xs.getD a 0 = q at *
                    have HLD := Lib.hid hld
                    clear hld
                    go_wp2_with fail
                    refine (HLD.out).mono ?_
                    rintro e w' ⟨rfl, rfl⟩
                    go_wp2_with fail
                    go_quiet (fail)
                    go_wp2_with fail
                    go_quiet (fail)
                    go_wp2_with fail
                    go_roundw
                    case rel => exact ⟨j + 1, by omega, by go_num, xs, hxl, HA.out.keep (((Ch.refl (fun _ => False) wr).alloc _).drewN _) (fun q => q) (fun q => q), HA'.out.keep (((Ch.refl (fun _ => False) wr).alloc _).drewN _) (fun q => q) (fun q => q), HC.out.trans (((Ch.refl (fun _ => False) wr).alloc _).drewN _)⟩
                    case measure => simp [intOf]; omega
                  · skip
                    have hA1 := Lib.hid (HA.out.keep ((Ch.refl (fun _ => False) wr).alloc (.cells #[.int .i64 4, .int .i64 a, .int .i64 bb, .int .i64 nn, .int .i64 v] 47)) (fun q => q) (fun q => q))
                    have hh' := cell_of_one HA'.out.hdr
                    have d1 : decide (0 ≤ a) = true := decide_eq_true (by omega)
                    have d2 : decide (a < (xs.length : Int)) = false := decide_eq_false ha1
                    have hno : ¬ (0 ≤ a ∧ a < xs.length) := by omega
                    have HNO := Lib.hid hno
                    clear hno
                    go_wp2_with fail
                    refine (load_no _ xs.length a _ hxl (len_any 52 p b xs _ hA1.out) HNO.out).mono ?_
                    rintro e w' ⟨rfl, rfl⟩
                    go_wp2_with fail
                    go_quiet (fail)
                    go_wp2_with fail
                    go_quiet (fail)
                    go_wp2_with fail
                    go_roundw
                    case rel => exact ⟨j + 1, by omega, by go_num, xs, hxl, HA.out.keep (((Ch.refl (fun _ => False) wr).alloc _).drewN _) (fun q => q) (fun q => q), HA'.out.keep (((Ch.refl (fun _ => False) wr).alloc _).drewN _) (fun q => q) (fun q => q), HC.out.trans (((Ch.refl (fun _ => False) wr).alloc _).drewN _)⟩
                    case measure => simp [intOf]; omega
            · have e4 : (k == 4) = false := beq_eq_false_iff_ne.2 k4
              clear k4
              by_cases k5 : k = 5
              · subst k5
                as_aux_lemma =>
                  have hA1 := Lib.hid (HA.out.keep ((Ch.refl (fun _ => False) wr).alloc (.cells #[.int .i64 5, .int .i64 a, .int .i64 bb, .int .i64 nn, .int .i64 v] 47)) (fun q => q) (fun q => q))
                  have hB1 := Lib.hid (HA'.out.keep ((Ch.refl (fun _ => False) wr).alloc (.cells #[.int .i64 5, .int .i64 a, .int .i64 bb, .int .i64 nn, .int .i64 v] 47)) (fun q => q) (fun q => q))
                  by_cases ht : There xs.length a nn
                  · have hw := fun W h => words_any p b xs a nn W h
                    have hth := fun W h => there_any p' b' xs a nn W h
                    simp only [if_pos ht, decide_eq_true ht] at hw hth
                    unfold There at ht
                    obtain ⟨a, rfl⟩ := Int.eq_ofNat_of_zero_le ht.2.1
                    obtain ⟨nn, rfl⟩ := Int.eq_ofNat_of_zero_le ht.1
                    simp only [Int.toNat_natCast] at hw
                    have hle1 : a + nn ≤ xs.length := by omega
                    have hyl : ((xs.drop a).take nn).length = nn := by simp; omega
                    have HYL := Lib.hid hyl
                    have HW := Lib.hid hw
                    have HTH := Lib.hid hth
                    clear hw hth ht hyl
                    go_wp2_with fail
                    refine (HW.out _ hA1.out).mono ?_
                    rintro e w4 ⟨u, rfl, ho, hf, hch⟩
                    have hch := hch
                    have HCH := Lib.hid hch
                    have hB2 := Lib.hid (hB1.out.keep hch (fun q => q) (fun q => q))
                    have hs1 := sees_of_owns ho
                    obtain ⟨ua, uc, hu, -⟩ := hs1.len
                    rw [HYL.out] at hu
                    subst hu
                    have HS1 := Lib.hid hs1
                    have k1 := hch.cell (a := ⟨wr.heap.size, 1, none⟩) (v := .int .i64 a) (by simp) (fun q => q)
                    have k3 := hch.cell (a := ⟨wr.heap.size, 3, none⟩) (v := .int .i64 nn) (by simp) (fun q => q)
                    have hh' := cell_of_one hB2.out.hdr
                    clear ho hf hch hs1
                    go_wp2_with fail
                    refine (HTH.out _ hB2.out).mono ?_
                    rintro e w' ⟨rfl, rfl⟩
                    go_wp2_with fail
                    have q1 : IntKind.i64.wrap ((a : Int) + nn) = a + nn := IntWalk.i64_in _ (by omega)
                    have q2 : ((a : Int) + nn).toNat = a + nn := by omega
                    have q3 : (0 : Int) ≤ a := by omega
                    have q4 : (a : Int) ≤ (a : Int) + nn := by omega
                    have q5 : (a : Int) + nn ≤ xs.length := by omega
                    have hs2 : ∀ W, Ar 45 W p' b' xs → SeesI (· = b') W (.slice (some ⟨b', a, none⟩) nn (xs.length - a)) ((xs.drop a).take nn) := fun W h => seesI_stretch45 p' b' xs a nn W h hle1
                    have HS2 := Lib.hid hs2
                    have hsame : ∀ (nq : Nat) (s2 : Value), SeesI (· = b') (w4.drewN nq) s2 ((xs.drop a).take nn) → Calls Try.prog 17 #[.slice ua nn uc, s2] (w4.drewN nq) fun e w'' => e = .returned (.bool true) ∧ ∃ m, w'' = w4.drewN m := by
                      intro nq s2 h2
                      have h1 := sees_drewN HS1.out nq
                      refine (same_any _ _ _ _ ((xs.drop a).take nn) ((xs.drop a).take nn) _ h1 h2).mono ?_
                      rintro e w'' ⟨rfl, m, rfl⟩
                      exact ⟨by rw [decide_eq_true rfl], _, World.drewN_drewN _ _ _⟩
                    have HSM := Lib.hid hsame
                    clear hs2 hsame
                    by_cases hac : a < xs.length
                    · have q6 : ¬ xs.length = a := by omega
                      have q7 : ¬ xs.length ≤ a := by omega
                      have q8 : a ≤ xs.length := by omega
                      go_quiet ((go_at_call 17; first | exact HSM.out _ _ (HS2.out _ (hB2.out.keep (ch_drewN _ _) (fun q => q) (fun q => q))) | (trace_state; sorry)))
                      clear q1 q2 q3 q4 q5 q6 q7 q8
                      go_wp2_with fail
                      go_roundw
                      case rel => exact ⟨j + 1, by omega, by go_num, xs, hxl, HA.out.keep ((((Ch.refl (fun _ => False) wr).alloc _).trans HCH.out).drewN _) (fun q => q) (fun q => q), HA'.out.keep ((((Ch.refl (fun _ => False) wr).alloc _).trans HCH.out).drewN _) (fun q => q) (fun q => q), HC.out.trans ((((Ch.refl (fun _ => False) wr).alloc _).trans HCH.out).drewN _)⟩
                      case measure => simp [intOf]; omega
                    · obtain rfl : nn = 0 := by omega
                      obtain rfl : a = xs.length := by omega
                      have hy0 : (xs.drop xs.length).take 0 = [] := by simp
                      rw [hy0] at HSM
                      clear hy0 q1 q2 q4 q5 HS2
                      go_quiet ((go_at_call 17; exact HSM.out _ _ (seesI_empty _ _ _ _ (by unfold maxLen; omega))))
                      clear q3
                      go_wp2_with fail
                      go_roundw
                      case rel => exact ⟨j + 1, by omega, by go_num, xs, hxl, HA.out.keep ((((Ch.refl (fun _ => False) wr).alloc _).trans HCH.out).drewN _) (fun q => q) (fun q => q), HA'.out.keep ((((Ch.refl (fun _ => False) wr).alloc _).trans HCH.out).drewN _) (fun q => q) (fun q => q), HC.out.trans ((((Ch.refl (fun _ => False) wr).alloc _).trans HCH.out).drewN _)⟩
                      case measure => simp [intOf]; omega
                  · have hw := words_no (.pointer (some ⟨p, 0, none⟩)) xs.length a nn _ hxl (len_any 52 p b xs _ hA1.out) ht
                    have hth := there_any p' b' xs a nn _ hB1.out
                    rw [decide_eq_false ht] at hth
                    have HW := Lib.hid hw
                    have HTH := Lib.hid hth
                    clear hw hth ht
                    go_wp2_with fail
                    refine HW.out.mono ?_
                    rintro e w' ⟨rfl, rfl⟩
                    go_wp2_with fail
                    refine HTH.out.mono ?_
                    rintro e w' ⟨rfl, rfl⟩
                    go_wp2_with fail
                    go_quiet (fail)
                    go_wp2_with fail
                    go_roundw
                    case rel => exact ⟨j + 1, by omega, by go_num, xs, hxl, HA.out.keep (((Ch.refl (fun _ => False) wr).alloc _).drewN _) (fun q => q) (fun q => q), HA'.out.keep (((Ch.refl (fun _ => False) wr).alloc _).drewN _) (fun q => q) (fun q => q), HC.out.trans (((Ch.refl (fun _ => False) wr).alloc _).drewN _)⟩
                    case measure => simp [intOf]; omega
              · have e5 : (k == 5) = false := beq_eq_false_iff_ne.2 k5
                clear k5
                go_wp2_with fail
                go_roundw
                case rel => exact ⟨j + 1, by omega, by go_num, xs, hxl, HA.out.keep ((Ch.refl (fun _ => False) wr).alloc _) (fun q => q) (fun q => q), HA'.out.keep ((Ch.refl (fun _ => False) wr).alloc _) (fun q => q) (fun q => q), HC.out.trans ((Ch.refl (fun _ => False) wr).alloc _)⟩
                case measure => simp [intOf]; omega
    · obtain rfl : j = n := by omega
      have hw := words_any p b xs 0 xs.length _ HA.out
      have ht : There xs.length 0 xs.length := by unfold There; omega
      rw [if_pos ht, if_pos ht, show (xs.drop (Int.toNat 0)).take ((xs.length : Int)).toNat = xs by simp] at hw
      have hh' := cell_of_one HA'.out.hdr
      have HW := Lib.hid hw
      clear hw ht
      go_wp2_with fail
      refine HW.out.mono ?_
      rintro e w4 ⟨u, rfl, ho, hf, hch⟩
      have HS1 := Lib.hid (sees_of_owns ho)
      have hB2 := Lib.hid (HA'.out.keep hch (fun q => q) (fun q => q))
      have hs2 : SeesI (· = b') w4 (.slice (some ⟨b', 0, none⟩) xs.length xs.length) xs :=
        SeesI.mk rfl (Nat.le_refl _) (by unfold maxLen; omega) (fun i hi => by rw [Nat.zero_add]; exact cell_ints hB2.out.row i hi)
      have HS2 := Lib.hid hs2
      have HCH := Lib.hid hch
      have hh2 := cell_of_one hB2.out.hdr
      clear ho hf hch hs2 hh'
      go_wp2_with fail
      refine (same_any _ _ _ _ xs xs _ HS1.out HS2.out).mono ?_
      rintro e w5 ⟨rfl, n5, rfl⟩
      rw [decide_eq_true rfl]
      go_wp2_with fail
      go_ret
      exact ⟨rfl, (HC.out.trans HCH.out).trans (ch_drewN _ _)⟩


end Go.Proofs.Ytcdifgbdgokioaa
