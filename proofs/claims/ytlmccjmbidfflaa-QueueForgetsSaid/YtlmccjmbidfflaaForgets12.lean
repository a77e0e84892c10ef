/-
  gleaninglaw12.QueueForgets answers true: the walk.
-/
import Derived.Test.YtlmccjmbidfflaaCommon12
import Derived.Shelf.Abstract
namespace Go.Proofs.Ytlmccjmbidfflaa
set_option linter.unusedVariables false
open Go.RowKit

set_option maxHeartbeats 400000 in
/-- the name that a thing gets -/
theorem left_fn (x : Int) (bL n c : Nat) (a : Option Addr) (D : Nat → Prop) (rest : List Int) (hn : n = rest.length) (W : World) (hbox : W.cell? ⟨bL, 0, none⟩ = some (.slice a n c)) (hs : SeesI D W (.slice a n c) rest) :
    Calls Try.prog 29 #[.int .i64 x, .pointer (some ⟨bL, 0, none⟩)] W fun e w' => e = .returned (.int .i64 (if x ∈ rest then x else 0)) ∧ Ch0 W w' := by
  subst hn
  obtain ⟨_, _, _, hlen⟩ := hs.len
  have HS := Lib.hid hs
  clear hs
  obtain ⟨y, hy⟩ : ∃ y : Int, y = if x ∈ rest then x else 0 := ⟨_, rfl⟩
  rw [← hy]
  replace hy := Lib.hid hy
  go_enter Try.func29, Try.ntmps29
  go_wp2_with fail
  go_loop [7] (fun i => ∃ j : Nat, j ≤ rest.length ∧ i = .int .i64 j ∧ ∀ m, m < j → rest.getD m 0 ≠ x) (fun i => rest.length - (intOf i).toNat)
  case atStart => exact ⟨0, Nat.zero_le _, rfl, fun m hm => by omega⟩
  case round =>
    obtain ⟨j, hj, rfl, hne⟩ := hrel
    have HN := Lib.hid hne
    clear hne
    by_cases hlt : j < rest.length
    · obtain ⟨g, o, c1, -, e1, hcell⟩ := HS.out.cell (by omega)
      obtain ⟨rfl, rfl⟩ : a = some ⟨g, o, none⟩ ∧ c = c1 := by simpa using e1
      have hx := hcell j hlt
      have HM : Hid (rest.getD j 0 ∈ rest) := Lib.hid (by simp [List.getD_eq_getElem?_getD, hlt])
      clear hcell e1
      generalize hX : rest.getD j 0 = X at *
      replace hX := Lib.hid hX
      have i1 : (0 : Int) ≤ j := by omega
      have i2 : (j : Int) < rest.length := by omega
      by_cases hxx : X = x
      · subst hxx
        have t1 : (X == X) = true := by simp
        go_wp2_with fail
        go_ret
        exact ⟨by rw [hy.out, if_pos HM.out]; rfl, Ch.refl _ _⟩
      · have t1 : (X == x) = false := by simpa using hxx
        clear hxx
        go_wp2_with fail
        go_round
        case rel =>
          refine ⟨j + 1, by omega, by go_num, fun m hm => ?_⟩
          by_cases e : m = j
          · subst e; rw [hX.out]; simpa using t1
          · exact HN.out m (by omega)
        case measure => simp [intOf]; omega
    · obtain rfl : j = rest.length := by omega
      go_wp2_with fail
      go_ret
      refine ⟨?_, Ch.refl _ _⟩
      rw [hy.out, if_neg]
      · rfl
      intro h
      obtain ⟨m, hm, e⟩ := List.getElem_of_mem h
      exact HN.out m hm (by simp [List.getD_eq_getElem?_getD, hm, e])

/-- what is there behind the renaming -/
structure FS (w0 w : World) (sB gB bL : Nat) (vL : Value) (O : Nat → Prop) (rest gs ys L4 : List Int) (n2 : Nat) : Prop where
  ch : Ch0 w0 w
  q : Qs w sB O (updF (lone 0 rest) 1 ys) L4
  f : ∀ k, O k → w0.heap.size ≤ k
  m : IM w gB n2 (isOf gs)
  box : w.heap[bL]? = some (.cells #[vL] 25 (0, 0))
  row : RowAt w 3 1 vL rest.length (rest.map (Value.int .i64))
  nG : ¬ O gB
  nb : ¬ O bL
  nr : ∀ k, rblk vL = some k → ¬ O k
  mem : ∀ y, y ∈ L4 ↔ y ∈ rest ∨ y ∈ ys
  nd : ys.Nodup

section
variable {w0 w w' : World} {sB gB bL : Nat} {vL : Value} {O O' : Nat → Prop} {rest gs ys ys' L4 L4' : List Int} {n2 : Nat}

theorem FS.turn (h : FS w0 w sB gB bL vL O rest gs ys L4 n2) (hq : Qs w' sB O' (updF (lone 0 rest) 1 ys') L4') (t : Turn w w' O O') (hm : ∀ y, y ∈ L4' ↔ y ∈ rest ∨ y ∈ ys') (hn : ys'.Nodup) : FS w0 w' sB gB bL vL O' rest gs ys' L4' n2 where
  ch := t.ch0 h.ch h.f
  q := hq
  f := t.new h.ch h.f
  m := h.m.keep t.1 h.nG
  box := t.1.keep h.box h.nb
  row := h.row.keep t.1 h.nr
  nG := not_turn t h.nG h.m.lt
  nb := not_turn t h.nb (lt_of_block h.box)
  nr := fun k hk => not_turn t (h.nr k hk) (h.row.lt hk)
  mem := hm
  nd := hn

theorem FS.iter (h : FS w0 w sB gB bL vL O rest gs ys L4 n2) {bI : Nat} (c : Ch (fun k => k = bI) w w') (h0 : w0.heap.size ≤ bI) (hO : ¬ O bI) (hG : gB ≠ bI) (hb : bL ≠ bI) (hr : rblk vL ≠ some bI) : FS w0 w' sB gB bL vL O rest gs ys L4 n2 where
  ch := h.ch.trans' c (fun _ _ e => e) (fun k hk e => by omega)
  q := h.q.keep c (fun k a b => hO (b ▸ a))
  f := h.f
  m := h.m.keep c hG
  box := c.keep h.box hb
  row := h.row.keep c (fun k a b => hr (b ▸ a))
  nG := h.nG
  nb := h.nb
  nr := h.nr
  mem := h.mem
  nd := h.nd

theorem FS.new (h : FS w0 w sB gB bL vL O rest gs ys L4 n2) (c : Ch0 w w') : FS w0 w' sB gB bL vL O rest gs ys L4 n2 where
  ch := h.ch.trans c
  q := h.q.keep c (fun _ _ b => b)
  f := h.f
  m := h.m.keep c (fun b => b)
  box := c.keep h.box (fun b => b)
  row := h.row.keep c (fun _ _ b => b)
  nG := h.nG
  nb := h.nb
  nr := h.nr
  mem := h.mem
  nd := h.nd

end

set_option maxRecDepth 100000 in
set_option maxHeartbeats 4000000 in
theorem forgets_walk (xs : List Int) (n1 : Nat) (v : Value) (w : World) (hsee : SeesU (fun k => k < w.heap.size) w v xs) (hfit : ∀ x ∈ xs, 0 ≤ x ∧ x ≤ 255) (hn1 : n1 ≤ 255) :
    Calls Try.prog 9 #[v, .int .u8 (n1 : Int)] w fun e w' => e = .returned (.bool true) ∧ Ch0 w w' := by
  have HA := Lib.hid awake12
  obtain ⟨a, c, rfl, hlen⟩ := hsee.len
  obtain ⟨R, hR30, hR⟩ : ∃ R : Nat, R < 30 ∧ ((n1 : Int)).tmod 30 = (R : Int) := ⟨n1 % 30, by omega, by rw [Int.tmod_eq_emod_of_nonneg (by omega)]; omega⟩
  by_cases h200 : xs.length ≤ 200
  · have g1 : decide ((200 : Int) < xs.length) = false := decide_eq_false (by omega)
    have HS := Lib.hid hsee
    have HF := Lib.hid hfit
    clear hsee hfit
    go_enter Try.func9, Try.ntmps9
    go_wp2_with fail
    refine (HA.out _).mono ?_
    rintro e w1 ⟨rfl, c1⟩
    have h0 := Lib.hid (qs_new w1)
    have cs := Lib.hid c1.size
    replace c1 := Lib.hid (c1.alloc (.cells #[.slice none 0 0, .slice none 0 0, .slice none 0 0, .slice none 0 0, .map none] 29))
    go_wp2_with fail
    rw [← lone_nil 0] at h0
    have f0 : ∀ k, k = w1.heap.size → w.heap.size ≤ k := by
      rintro k rfl
      exact cs.out
    generalize w1.heap.size = sB at *
    go_loopw [29] (fun i wr => ∃ j : Nat, j ≤ xs.length ∧ i = .int .i64 j ∧ ∃ O ls, Ch0 w wr ∧ Qs wr sB O (lone 0 ls) ls ∧ (∀ k, O k → w.heap.size ≤ k) ∧ ls.Nodup ∧ (∀ x ∈ ls, 1 ≤ x) ∧ ls.length ≤ j) (fun i _ => xs.length - (intOf i).toNat)
    case atStart => exact ⟨0, Nat.zero_le _, rfl, _, [], c1.out, h0.out, f0, List.nodup_nil, fun x h => (by cases h), Nat.le_refl _⟩
    case round =>
      obtain ⟨j, hj, rfl, O, ls, c2, h2, f2, hnd, hpos, hll⟩ := hrel
      clear c1 h0 f0 cs
      replace h2 := Lib.hid h2
      replace f2 := Lib.hid f2
      replace hnd := Lib.hid hnd
      replace hpos := Lib.hid hpos
      by_cases hlt : j < xs.length
      · obtain ⟨g, off, c', -, hv, hc⟩ := Sees.cellF HS.out (by omega)
        obtain ⟨rfl, rfl⟩ : a = some ⟨g, off, none⟩ ∧ c = c' := by simpa using hv
        have hx := c2.cell (hc j hlt) (fun e => e)
        have hX := HF.out (xs.getD j 0) (by simp [List.getD_eq_getElem?_getD, hlt])
        replace c2 := Lib.hid c2
        clear hv hc
        generalize xs.getD j 0 = X at *
        have i1 : (0 : Int) ≤ j := by omega
        have i2 : (j : Int) < xs.length := by omega
        obtain ⟨x0, x1⟩ := hX
        go_wp2_with fail
        refine (put_in h2.out 0 (by omega) 1 rfl (1 + X) (by rw [lone_same]; omega)).mono ?_
        rintro e w5 ⟨rfl, O5, h5, t5⟩
        have c5 := Lib.hid (Ch0.turn c2.out t5 f2.out)
        have hE : ∃ ls', Qs w5 sB O5 (lone 0 ls') ls' ∧ ls'.Nodup ∧ (∀ x ∈ ls', 1 ≤ x) ∧ ls'.length ≤ j + 1 := by
          by_cases hm : 1 + X ∈ ls
          · rw [if_pos hm, if_pos hm] at h5
            exact ⟨ls, h5, hnd.out, hpos.out, by omega⟩
          · rw [if_neg hm, if_neg hm, lone_same, lone_upd] at h5
            refine ⟨ls ++ [1 + X], h5, ?_, ?_, by simp; omega⟩
            · rw [List.nodup_append]
              refine ⟨hnd.out, by simp, ?_⟩
              rintro a ha b hb rfl
              rw [List.mem_singleton] at hb
              exact hm (hb ▸ ha)
            · intro x hx
              rcases List.mem_append.1 hx with hx | hx
              · exact hpos.out x hx
              · rw [List.mem_singleton] at hx; omega
        obtain ⟨ls', hE⟩ := hE
        replace hE := Lib.hid hE
        clear h5 t5
        go_wp2_with fail
        go_roundw
        case rel => exact ⟨j + 1, by omega, by go_num, _, ls', c5.out.1, hE.out.1, c5.out.2, hE.out.2.1, hE.out.2.2.1, hE.out.2.2.2⟩
        case measure => simp [intOf]; omega
      · obtain rfl : j = xs.length := by omega
        replace c2 := Lib.hid c2
        have mk2 : (Instr.makeMap 27 none).run Try.prog wr = .ok (.map (some wr.heap.size)) (wr.alloc (.map #[] 0)) := by simp [Instr.makeMap, Result.andThen]
        have hG := Lib.hid ((IM.made wr).congr (g := isOf []) (m := 0) (fun k => by simp [isOf]) rfl)
        have cG := Lib.hid (c2.out.alloc (.map #[] 0))
        have hQ := Lib.hid (h2.out.keep ((Ch.refl (fun _ => False) wr).alloc (.map #[] 0)) (fun _ _ e => e))
        have nG := Lib.hid (show ¬ O wr.heap.size from fun e => by have := h2.out.small _ e; omega)
        have fG := Lib.hid (show w.heap.size ≤ wr.heap.size from c2.out.size)
        go_wp2_with fail
        generalize wr.alloc (.map #[] 0) = w3 at *
        generalize wr.heap.size = gB at *
        clear mk2 c2 h2
        go_loopw [44] (fun i wr => ∃ p : Nat, p ≤ R ∧ i = .int .u8 p ∧ ∃ O gs rest nG, ls = gs ++ rest ∧ Qs wr sB O (lone 0 rest) ls ∧ IM wr gB nG (isOf gs) ∧ Ch0 w wr ∧ (∀ k, O k → w.heap.size ≤ k) ∧ ¬ O gB) (fun i _ => R - (intOf i).toNat)
        case atStart => exact ⟨0, Nat.zero_le _, rfl, _, [], ls, 0, rfl, hQ.out, hG.out, cG.out, f2.out, nG.out⟩
        case round =>
          obtain ⟨p, hp, rfl, O2, gs, rest, n2, hls, h3, hm3, c3, f3, n3⟩ := hrel
          clear hG cG hQ f2 nG
          replace hls := Lib.hid hls
          replace h3 := Lib.hid h3
          replace hm3 := Lib.hid hm3
          replace c3 := Lib.hid c3
          replace f3 := Lib.hid f3
          replace n3 := Lib.hid n3
          by_cases hpR : p < R
          · cases hrest : rest with
            | nil =>
              subst hrest
              have hpl := poll_in h3.out 0 (by omega) 1 rfl
              rw [lone_same] at hpl
              simp only [List.headD_nil, List.tail_nil, if_true, lone_upd] at hpl
              go_wp2_with fail
              refine hpl.mono ?_
              rintro e w5 ⟨rfl, O5, h5, t5⟩
              have c5 := Lib.hid (Ch0.turn c3.out t5 f3.out)
              have hm5 := Lib.hid (hm3.out.keep t5.1 n3.out)
              have n5 := Lib.hid (not_turn t5 n3.out hm3.out.lt)
              replace h5 := Lib.hid h5
              clear t5 hpl
              go_wp2_with fail
              go_roundw
              case rel => exact ⟨p + 1, by omega, by go_num, _, gs, [], _, hls.out, h5.out, hm5.out, c5.out.1, c5.out.2, n5.out⟩
              case measure => simp [intOf]; omega
            | cons x rest' =>
              subst hrest
              have hpl := poll_in h3.out 0 (by omega) 1 rfl
              rw [lone_same] at hpl
              simp only [List.headD_cons, List.tail_cons, reduceCtorEq, if_false, lone_upd] at hpl
              go_wp2_with fail
              refine hpl.mono ?_
              rintro e w5 ⟨rfl, O5, h5, t5⟩
              have c5 := Lib.hid (Ch0.turn c3.out t5 f3.out)
              have hm5 := hm3.out.keep t5.1 n3.out
              have n5 := Lib.hid (not_turn t5 n3.out hm3.out.lt)
              obtain ⟨w6, hup, hm6, u6, s6⟩ := hm5.update (P := Try.prog) (t := 27) Try.underlying27 Try.underlying3 x (.bool true)
              rw [isOf_put] at hm6
              have h6 := Lib.hid (h5.keep u6 (fun k a b => n5.out (b ▸ a)))
              have c6 := Lib.hid (c5.out.1.trans' u6 (fun _ _ e => e) (fun k hk e => by have := fG.out; omega))
              replace hm6 := Lib.hid hm6
              clear t5 hpl hm5 u6 s6 h5
              go_wp2_with (at_mapUpdate; refine wpList_mapUpdate_run rfl _ _ _ 27 rfl rfl rfl rfl hup ?_)
              go_roundw
              case rel => exact ⟨p + 1, by omega, by go_num, _, gs ++ [x], rest', _, by rw [hls.out]; simp, h6.out, hm6.out, c6.out, c5.out.2, n5.out⟩
              case measure => simp [intOf]; omega
          · obtain rfl : p = R := by omega
            have hrl : rest.length ≤ 200 := by
              have := congrArg List.length hls.out
              simp at this; omega
            have hal := all_in h3.out (by rw [cat_lone0]; omega)
            rw [cat_lone0] at hal
            go_wp2_with fail
            refine hal.mono ?_
            rintro e w7 ⟨v7, rfl, c7, r7, b7⟩
            obtain ⟨a7, x7, rfl, -, -⟩ := r7.isSlice
            clear hal
            have hmf : ∀ (fn : Fn) (first cap : Array Value) (w : World), (Instr.makeFunc fn first cap).run Try.prog w = .ok (.func fn first cap) w := fun _ _ _ _ => rfl
            have ca := (Ch.refl (fun _ => False) w7).alloc (.cells #[.slice a7 rest.length x7] 25)
            have cc := c7.trans ca
            have h7 := h3.out.keep cc (fun _ _ e => e)
            have hm7 := hm3.out.keep cc (fun e => e)
            have c8 := c3.out.trans cc
            have hbox := heap_alloc_new w7 (.cells #[.slice a7 rest.length x7] 25)
            have r8 := r7.keep ca (fun _ _ e => e)
            have nb : ¬ O2 w7.heap.size := fun e => by have := Qs.small h3.out _ e; have := c7.size; omega
            have nr : ∀ k, rblk (.slice a7 rest.length x7) = some k → ¬ O2 k := fun k hk e => by have := Qs.small h3.out _ e; have := b7 k hk; omega
            have hcell := cell_of_one hbox
            have hren := rename_any h7 (fun i hi => by have := lone_len 0 rest i; omega) 29 #[.pointer (some ⟨w7.heap.size, 0, none⟩)] (enters_of Try.func29 (by kernel_rfl) rfl) (fun x => if x ∈ rest then x else 0)
              (fun W x cW _ => left_fn x w7.heap.size rest.length x7 a7 _ rest rfl W (cW.cell hcell (fun e => e)) (r8.keep cW (fun _ _ e => e)).sees)
            have HN : Hid (∀ x ∈ rest, 1 ≤ x) := Lib.hid (fun x hx => hpos.out x (by rw [hls.out]; exact List.mem_append_right _ hx))
            have HD : Hid (gs.Nodup ∧ ∀ x ∈ gs, x ∉ rest) := by
              have := hnd.out
              rw [hls.out, List.nodup_append] at this
              exact Lib.hid ⟨this.1, fun x hx hr => this.2.2 x hx x hr rfl⟩
            have hgl : gs.length ≤ 200 := by
              have := congrArg List.length hls.out
              simp at this; omega
            have H := Lib.hid (And.intro hm7 (And.intro c8 (And.intro hbox (And.intro r8 (And.intro nb nr)))))
            clear h7 hm7 c8 hbox r8 nb nr cc ca c7 r7 b7 h3 hm3 c3
            go_wp2_with fail
            refine hren.mono ?_
            rintro e w9 ⟨rfl, O9, LE, hEv, h9, t9⟩
            clear hren hmf
            have hmap : rest.map (fun x => if x ∈ rest then x else 0) = rest := by
              have : ∀ x ∈ rest, (if x ∈ rest then x else 0) = x := fun x hx => if_pos hx
              rw [List.map_congr_left this, List.map_id']
            rw [lone_map, hmap] at h9
            have hF : FS w w9 sB gB w7.heap.size (.slice a7 rest.length x7) O9 rest gs [] LE n2 := by
              obtain ⟨hm7, c8, hbox, r8, nb, nr⟩ := H.out
              refine ⟨t9.ch0 c8 f3.out, ?_, t9.new c8 f3.out, hm7.keep t9.1 n3.out, t9.1.keep hbox nb, r8.keep t9.1 nr, not_turn t9 n3.out hm7.lt, not_turn t9 nb (lt_of_block hbox), fun k hk => not_turn t9 (nr k hk) (r8.lt hk), ?_, List.nodup_nil⟩
              · have : updF (lone 0 rest) 1 [] = lone 0 rest := by
                  funext k; unfold updF lone updF; split
                  · rename_i e; subst e; rfl
                  · rfl
                rw [this]; exact h9
              · intro y
                rw [hEv y]
                constructor
                · rintro (⟨h0, x, hx, e⟩ | ⟨i, hi, x, hx, e⟩) <;> replace e : (if x ∈ rest then x else 0) = y := e
                  · by_cases hr : x ∈ rest
                    · rw [if_pos hr] at e; subst e; exact .inl hr
                    · rw [if_neg hr] at e; exact absurd e.symm h0
                  · unfold lone updF at hx
                    split at hx
                    · rw [if_pos hx] at e; subst e; exact .inl hx
                    · cases hx
                · rintro (hy | hy)
                  · exact .inr ⟨0, by omega, y, by rw [lone_same]; exact hy, if_pos hy⟩
                  · cases hy
            clear hEv h9 t9 H
            generalize w7.heap.size = bL at *
            obtain ⟨w10, hrg, hI, c10, s10⟩ := hF.m.range (P := Try.prog) (t := 27) Try.underlying27
            have hF10 := Lib.hid (hF.new c10)
            have nI : Hid (¬ O9 w9.heap.size ∧ gB ≠ w9.heap.size ∧ bL ≠ w9.heap.size ∧ rblk (.slice a7 rest.length x7) ≠ some w9.heap.size ∧ w.heap.size ≤ w9.heap.size) := by
              refine Lib.hid ⟨fun e => ?_, ?_, ?_, fun e => ?_, hF.ch.size⟩
              · have := Qs.small hF.q _ e; omega
              · have := hF.m.lt; omega
              · have := lt_of_block hF.box; omega
              · have := hF.row.lt e; omega
            replace hI := Lib.hid hI
            clear hF c10 s10
            go_wp2_with fail
            go_loopw [11] (fun _ wr => ∃ left ys L4 O4, IR wr gB w9.heap.size n2 (isOf gs) left ∧ FS w wr sB gB bL (.slice a7 rest.length x7) O4 rest gs ys L4 n2 ∧ ¬ O4 w9.heap.size ∧ ∀ k, k ∈ ys ↔ k ∈ gs ∧ left k = false) (fun _ wr => iterLeft wr gB w9.heap.size)
            case atStart =>
              refine ⟨_, [], LE, O9, hI.out, hF10.out, nI.out.1, fun k => ⟨fun h => (by cases h), fun h => ?_⟩⟩
              obtain ⟨h1, h2⟩ := h
              rw [isOf_isSome] at h2
              simp [h1] at h2
            case round =>
              obtain ⟨left, ys, L4, O4, hI4, hF4, nI4, hys⟩ := hrel
              clear hI hF10 hrg
              replace hI4 := Lib.hid hI4
              replace hF4 := Lib.hid hF4
              replace nI4 := Lib.hid nI4
              replace hys := Lib.hid hys
              have hyl : ys.length ≤ 200 := by
                have := nodup_length_le hF4.out.nd (l2 := gs) (fun x hx => ((hys.out x).1 hx).1)
                omega
              go_wp2_with (at_next; refine wpList_next_IR rfl _ rfl rfl hI4.out ?_ ?_)
              · intro hl
                have hcnt : ys.length = n2 := hI4.out.map.count hF4.out.nd (fun k => by
                  rw [isOf_isSome, hys.out k]
                  simp [hl k])
                subst hcnt
                have hcb := cell_of_one hF4.out.box
                clear hl hI4 hys nI4 hcell
                go_wp2_with fail
                go_loopw [77] (fun i wr => ∃ k : Nat, k ≤ rest.length ∧ i = .int .i64 k ∧ ∃ O5, FS w wr sB gB bL (.slice a7 rest.length x7) O5 rest gs ys L4 ys.length) (fun i _ => rest.length - (intOf i).toNat)
                case atStart => exact ⟨0, Nat.zero_le _, rfl, O4, hF4.out⟩
                case round =>
                  obtain ⟨k, hk, rfl, O5, hF5⟩ := hrel
                  clear hF4 hcb
                  have hcb := cell_of_one hF5.box
                  replace hF5 := Lib.hid hF5
                  by_cases hkl : k < rest.length
                  · obtain ⟨g5, o5, c5, -, e5, hc5⟩ := SeesI.cell hF5.out.row.sees (by omega)
                    obtain ⟨rfl, rfl⟩ : a7 = some ⟨g5, o5, none⟩ ∧ x7 = c5 := by simpa using e5
                    have hx5 := hc5 k hkl
                    have hm5 : rest.getD k 0 ∈ L4 := (hF5.out.mem _).2 (.inl (by simp [List.getD_eq_getElem?_getD, hkl]))
                    generalize rest.getD k 0 = X at *
                    have hp5 := put_in hF5.out.q 1 (by omega) 2 rfl X (by rw [updF_same]; omega)
                    rw [if_pos hm5, if_pos hm5, show decide (X ∉ L4) = false from decide_eq_false (fun q => q hm5)] at hp5
                    have i1 : (0 : Int) ≤ k := by omega
                    have i2 : (k : Int) < rest.length := by omega
                    clear e5 hc5 hm5
                    go_wp2_with fail
                    refine hp5.mono ?_
                    rintro e w6 ⟨rfl, O6, h6, t6⟩
                    have hF6 := Lib.hid (hF5.out.turn h6 t6 hF5.out.mem hF5.out.nd)
                    clear h6 t6 hp5
                    go_wp2_with fail
                    go_roundw
                    case rel => exact ⟨k + 1, by omega, by go_num, O6, hF6.out⟩
                    case measure => simp [intOf]; omega
                  · obtain rfl : k = rest.length := by omega
                    have hl1 : ∀ n, Calls Try.prog 14 #[.pointer (some ⟨sB, 0, none⟩), .int .i64 1] (wr.drewN n) fun e w'' => e = .returned (.int .i64 (rest.length : Int)) ∧ ∃ k, w'' = wr.drewN k := fun n =>
                      quietEq ((hF5.out.q.keep (ch_drewN wr n) (fun _ _ e => e)).len 0 (by omega) 1 rfl)
                    have hl2 : ∀ n, Calls Try.prog 14 #[.pointer (some ⟨sB, 0, none⟩), .int .i64 2] (wr.drewN n) fun e w'' => e = .returned (.int .i64 (ys.length : Int)) ∧ ∃ k, w'' = wr.drewN k := fun n =>
                      quietEq (by
                        have := (hF5.out.q.keep (ch_drewN wr n) (fun _ _ e => e)).len 1 (by omega) 2 rfl
                        rw [updF_same] at this
                        exact this)
                    have hlm : ∀ n ty, (Builtin.len_ #[27] ty #[.map (some gB)]).run Try.prog (wr.drewN n) = .ok (.int .i64 (ys.length : Int)) (wr.drewN n) := fun n ty =>
                      (hF5.out.m.keep (ch_drewN wr n) (fun e => e)).len (P := Try.prog) Try.underlying27
                    obtain ⟨F, hF1, hF2⟩ : ∃ F : Int → Int, F 1 = (rest.length : Int) ∧ F 2 = (ys.length : Int) := ⟨fun k => if k = 1 then (rest.length : Int) else (ys.length : Int), by simp, by simp⟩
                    have hl : ∀ n k, (k = 1 ∨ k = 2) → Calls Try.prog 14 #[.pointer (some ⟨sB, 0, none⟩), .int .i64 k] (wr.drewN n) fun e w'' => e = .returned (.int .i64 (F k)) ∧ ∃ k, w'' = wr.drewN k := by
                      rintro n k (rfl | rfl)
                      · rw [hF1]; exact hl1 n
                      · rw [hF2]; exact hl2 n
                    have t1 : (F 1 == (rest.length : Int)) = true := by simp [hF1]
                    have t2 : (F 2 == (ys.length : Int)) = true := by simp [hF2]
                    have hch := Lib.hid hF5.out.ch
                    clear hF5 hl1 hl2 hF1 hF2
                    generalize rest.length = nR at *
                    generalize ys.length = nY at *
                    replace hl := Lib.hid hl
                    go_wp2_with fail
                    go_quiet ((go_at_call 14; exact hl.out _ _ (by simp)))
                    go_wp2_with fail
                    go_ret
                    exact ⟨rfl, hch.out.drewN _⟩
              · intro x vx w11 hlx hxg hve hI5 e5 s5 hm5 hen
                subst hve
                have hxn : x ∉ L4 := by
                  rw [hF4.out.mem]
                  rintro (h | h)
                  · exact HD.out.2 x hxg h
                  · have := ((hys.out x).1 h).2
                    rw [hlx] at this; cases this
                have hxy : x ∉ ys := fun h => hxn ((hF4.out.mem x).2 (.inr h))
                have hFi := hF4.out.iter e5 nI.out.2.2.2.2 nI4.out nI.out.2.1 nI.out.2.2.1 nI.out.2.2.2.1
                have hp5 := put_in hFi.q 1 (by omega) 2 rfl x (by rw [updF_same]; omega)
                rw [if_neg hxn, if_neg hxn, decide_eq_true hxn, updF_same, updF_updF] at hp5
                replace hFi := Lib.hid hFi
                replace hI5 := Lib.hid hI5
                replace hm5 := Lib.hid hm5
                have HX := Lib.hid (And.intro hlx (And.intro hxg hxy))
                clear hlx hxg hxn hxy e5 s5
                go_wp2_with fail
                refine hp5.mono ?_
                rintro e w6 ⟨rfl, O6, h6, t6⟩
                have hF6 := hFi.out.turn (ys' := ys ++ [x]) h6 t6 (fun y => by
                  rw [List.mem_append, hF4.out.mem, List.mem_append]
                  simp only [or_assoc]) (by
                  rw [List.nodup_append]
                  refine ⟨hF4.out.nd, by simp, ?_⟩
                  rintro a ha b hb rfl
                  rw [List.mem_singleton] at hb
                  exact HX.out.2.2 (hb ▸ ha))
                have nI6 := not_turn t6 nI4.out hI5.out.lt
                have hI6 := hI5.out.keep t6.1 hFi.out.nG nI4.out
                have hm6 : iterLeft w6 gB w9.heap.size < iterLeft wr gB w9.heap.size := by
                  rw [iterLeft_keep hI5.out t6.1 hFi.out.nG nI4.out]; exact hm5.out
                have hys6 : ∀ k, k ∈ ys ++ [x] ↔ k ∈ gs ∧ (left k && !(k == x)) = false := by
                  intro k
                  rw [List.mem_append, hys.out k, List.mem_singleton]
                  constructor
                  · rintro (⟨h1, h2⟩ | rfl)
                    · exact ⟨h1, by rw [h2]; rfl⟩
                    · exact ⟨HX.out.2.1, by simp⟩
                  · rintro ⟨h1, h2⟩
                    by_cases e : k = x
                    · exact .inr e
                    · refine .inl ⟨h1, ?_⟩
                      simpa [e] using h2
                have HE := Lib.hid (And.intro hF6 (And.intro nI6 (And.intro hI6 (And.intro hm6 hys6))))
                clear hF6 nI6 hI6 hm6 hys6 hp5 h6 t6 hFi hF4 hI5 hm5 hys nI4 hI4
                go_wp2_with fail
                go_roundw
                case rel => exact ⟨_, _, _, O6, HE.out.2.2.1, HE.out.1, HE.out.2.1, HE.out.2.2.2.2⟩
                case measure => exact HE.out.2.2.2.1
  · have g1 : decide ((200 : Int) < xs.length) = true := decide_eq_true (by omega)
    clear hsee hfit
    go_enter Try.func9, Try.ntmps9
    go_wp2_with fail
    refine (HA.out _).mono ?_
    rintro e w1 ⟨rfl, c1⟩
    have d1 := Lib.hid c1
    clear c1
    go_wp2_with fail
    refine (HA.out _).mono ?_
    rintro e w2 ⟨rfl, c2⟩
    have d2 := Lib.hid (d1.out.trans c2)
    clear c2
    go_wp2_with fail
    go_ret
    exact ⟨rfl, d2.out⟩

end Go.Proofs.Ytlmccjmbidfflaa
