/-
  gleaninglaw09.GraphAdds answers true: the walk.
-/
import Derived.Test.YtlmeponoadhheaaLaws9
namespace Go.Proofs.Ytlmeponoadhheaa
set_option linter.unusedVariables false
open Go.RowKit

/-- a node without references -/
theorem held_zero (cs : List Cls) (nd : GN) (h : ∀ t ∈ nd.refs, t = 0) : held cs nd = [] := by
  unfold held heldTo
  rw [List.flatMap_eq_nil_iff]
  intro i hi
  rw [if_neg]
  rintro ⟨h1, _⟩
  have hi' := List.mem_range.1 hi
  exact h1 (h _ (by simp [List.getD_eq_getElem?_getD, hi']))

theorem shapeC_ok {cs : List Cls} {p : Nat} (h1 : 1 ≤ p) (h2 : p ≤ cs.length) : (shapeC cs p 0).2.2 = 0 := by
  unfold shapeC shape1
  rw [dif_pos ⟨by omega, by omega⟩]
  rw [if_neg (by rintro (e | ⟨e, _⟩) <;> omega), if_neg (by omega)]

theorem gwords_ins (nd : GN) (L : List GN) : gwords (ins nd L) = wordsOfN nd + gwords L := by
  induction L with
  | nil => simp [ins, gwords]
  | cons a l ih =>
    unfold ins
    split
    · have : gwords (a :: ins nd l) = wordsOfN a + gwords (ins nd l) := by simp [gwords]
      rw [this, ih]
      simp [gwords]; omega
    · simp [gwords]

theorem ins_length (nd : GN) (L : List GN) : (ins nd L).length = L.length + 1 := by
  induction L with
  | nil => rfl
  | cons a l ih =>
    unfold ins
    split
    · simp [ih]
    · simp

set_option maxRecDepth 100000 in
set_option maxHeartbeats 8000000 in
theorem adds_walk (cs : List Cls) (xs : List Int) (v u : Value) (w : World) (hv : SeesC (fun k => k < w.heap.size) w v cs) (hfit : Fit cs) (hu : SeesU9 (fun k => k < w.heap.size) w u xs) (hxs : ∀ x ∈ xs, 0 ≤ x ∧ x ≤ 255) :
    Calls Try.prog 3 #[v, u] w fun e w' => e = .returned (.bool true) ∧ Ch0 w w' := by
  have HA := Lib.hid awake9
  obtain ⟨a, c, rfl, hlen⟩ := hv.len
  obtain ⟨a2, c2, rfl, hlen2⟩ := hu.len
  have HV := Lib.hid hv
  have HU := Lib.hid hu
  have HF := Lib.hid hfit
  have HX := Lib.hid hxs
  clear hv hu hfit hxs
  by_cases b1 : xs.length ≤ 100
  case neg =>
    have g1 : decide ((100 : Int) < xs.length) = true := decide_eq_true (by omega)
    go_enter Try.func3, Try.ntmps3
    go_wp2_with fail
    refine (HA.out _).mono ?_
    rintro e w1 ⟨rfl, d1⟩
    replace d1 := Lib.hid d1
    go_wp2_with fail
    refine (HA.out _).mono ?_
    rintro e w2 ⟨rfl, d2⟩
    have HC := Lib.hid (d1.out.trans d2)
    clear d2
    go_wp2_with fail
    go_ret
    exact ⟨rfl, HC.out⟩
  have g1 : decide ((100 : Int) < xs.length) = false := decide_eq_false (by omega)
  by_cases b2 : cs.length = 0
  case pos =>
    have g2 : ((cs.length : Int) == 0) = true := by simp [b2]
    clear b2
    go_enter Try.func3, Try.ntmps3
    go_wp2_with fail
    refine (HA.out _).mono ?_
    rintro e w1 ⟨rfl, d1⟩
    replace d1 := Lib.hid d1
    go_wp2_with fail
    refine (HA.out _).mono ?_
    rintro e w2 ⟨rfl, d2⟩
    have HC := Lib.hid (d1.out.trans d2)
    clear d2
    go_wp2_with fail
    go_ret
    exact ⟨rfl, HC.out⟩
  have g2 : ((cs.length : Int) == 0) = false := beq_eq_false_iff_ne.2 (by omega)
  by_cases b3 : cs.length ≤ 100
  case neg =>
    have g3 : decide ((100 : Int) < cs.length) = true := decide_eq_true (by omega)
    go_enter Try.func3, Try.ntmps3
    go_wp2_with fail
    refine (HA.out _).mono ?_
    rintro e w1 ⟨rfl, d1⟩
    replace d1 := Lib.hid d1
    go_wp2_with fail
    refine (HA.out _).mono ?_
    rintro e w2 ⟨rfl, d2⟩
    have HC := Lib.hid (d1.out.trans d2)
    clear d2
    go_wp2_with fail
    go_ret
    exact ⟨rfl, HC.out⟩
  have g3 : decide ((100 : Int) < cs.length) = false := decide_eq_false (by omega)
  have HR : Hid (∀ w', Ch0 w w' → _) := Lib.hid (fun w' (c : Ch0 w w') => rnew_cls _ _ cs w' (HV.out.keep c (fun _ _ e => e)))
  by_cases b4 : newC cs = 0
  case neg =>
    have g4 : (newC cs != 0) = true := by simpa using b4
    clear b4
    generalize newC cs = nc at *
    go_enter Try.func3, Try.ntmps3
    go_wp2_with fail
    refine (HA.out _).mono ?_
    rintro e w1 ⟨rfl, d1⟩
    replace d1 := Lib.hid d1
    go_wp2_with fail
    refine (HR.out _ d1.out).mono ?_
    rintro e w2 ⟨rfl, d2⟩
    replace d2 := Lib.hid (d1.out.trans d2)
    go_wp2_with fail
    refine (HA.out _).mono ?_
    rintro e w3 ⟨rfl, d3⟩
    have HC := Lib.hid (d2.out.trans d3)
    clear d3
    go_wp2_with fail
    go_ret
    exact ⟨rfl, HC.out⟩
  have HN : Hid (∀ w', Ch0 w w' → _) := Lib.hid (fun w' (c : Ch0 w w') => newcls_any _ _ cs w' (HV.out.keep c (fun _ _ e => e)) HF.out)
  rw [b4] at HR HN
  obtain ⟨hright, hl64⟩ := newC_zero b4
  replace hright := Lib.hid hright
  have g4 : ((0 : Int) != 0) = false := rfl
  replace b4 := Lib.hid b4
  go_enter Try.func3, Try.ntmps3
  go_wp2_with fail
  refine (HA.out _).mono ?_
  rintro e w1 ⟨rfl, d1⟩
  replace d1 := Lib.hid d1
  go_wp2_with fail
  refine (HR.out _ d1.out).mono ?_
  rintro e w2 ⟨rfl, d2⟩
  replace d2 := Lib.hid (d1.out.trans d2)
  go_wp2_with fail
  refine (HN.out _ d2.out).mono ?_
  rintro e w3 ⟨t, rfl, hT, d3⟩
  obtain ⟨p, rfl, hTab⟩ := newT_zero hT b4.out
  have hn := gnew_of hTab (Nat.le_refl _)
  replace d3 := Lib.hid (d2.out.trans d3)
  clear hT hTab d1 d2 HR HN
  generalize w2.heap.size = lo at *
  go_wp2_with fail
  refine hn.mono ?_
  rintro e w4 ⟨b, rfl, O, hG, hO, d4⟩
  have hM : Mine w w4 O := ⟨d3.out.trans d4, fun k hk => by have := hO k hk; have := d3.out.size; omega⟩
  have mk2 : (Instr.makeMap 32 none).run Try.prog w4 = .ok (.map (some w4.heap.size)) (w4.alloc (.map #[] 0)) := by simp [Instr.makeMap, Result.andThen]
  have ca : Ch0 w4 (w4.alloc (.map #[] 0)) := (Ch.refl _ _).alloc _
  have hI : Aside (w4.alloc (.map #[] 0)) O (fun k => k = w4.heap.size) (fun w => IM w w4.heap.size 0 (memF [])) :=
    Aside.im ((IM.made w4).congr (fun k => by simp [memF]) rfl) (fun e => by have := hG.small _ e; omega)
  have hM5 := Lib.hid (hM.new ca)
  have hG5 := Lib.hid (hG.new ca)
  have hsB : w.heap.size ≤ w4.heap.size := hM.ch.size
  have hih : w3.heap.size ≤ w4.heap.size := d4.size
  replace hI := Lib.hid hI
  clear hn hG hO d4 hM ca d3
  go_wp2_with fail
  generalize w4.alloc (.map #[] 0) = w5 at *
  generalize w4.heap.size = sB at *
  generalize w3.heap.size = hi at *
  clear mk2
  go_loopw [9, 51] (fun wv i wr => ∃ j : Nat, j ≤ xs.length ∧ i = .int .i64 j ∧ ∃ O L S nS, wv = .int .i64 (gwords L) ∧ Gt wr b O cs L p lo hi ∧ Mine w wr O ∧ Aside wr O (fun k => k = sB) (fun w => IM w sB nS (memF S)) ∧ (∀ k, k ∈ S ↔ k ∈ ids L) ∧ (∀ nd ∈ L, ∀ t ∈ nd.refs, t = 0) ∧ L.length ≤ j) (fun _ i _ => xs.length - (intOf i).toNat)
  case atStart => exact ⟨0, Nat.zero_le _, rfl, O, [], [], 0, rfl, hG5.out, hM5.out, hI.out, fun k => by simp [ids], (fun nd h => by cases h), Nat.le_refl _⟩
  case round =>
    obtain ⟨j, hj, rfl, O1, L, S, nS, rfl, hG, hM, hA, hS, hZ, hLj⟩ := hrel
    clear hG5 hM5 hI
    replace hG := Lib.hid hG
    replace hM := Lib.hid hM
    replace hA := Lib.hid hA
    replace hS := Lib.hid hS
    replace hZ := Lib.hid hZ
    by_cases hlt : j < xs.length
    · obtain ⟨g, off, c', -, e1, hc⟩ := Sees.cellF (HU.out.keep hM.out.ch (fun _ _ e => e)) (by omega)
      obtain ⟨rfl, rfl⟩ : a2 = some ⟨g, off, none⟩ ∧ c2 = c' := by simpa using e1
      have hx := hc j hlt
      have hX := HX.out (xs.getD j 0) (by simp [List.getD_eq_getElem?_getD, hlt])
      clear e1 hc
      generalize xs.getD j 0 = X at *
      obtain ⟨x0, x1⟩ := hX
      obtain ⟨m, hm4, hm⟩ : ∃ m : Nat, m < cs.length ∧ ((j : Int)).tmod (cs.length : Int) = (m : Int) := ⟨j % cs.length, Nat.mod_lt _ (by omega), by rw [Int.tmod_eq_emod_of_nonneg (by omega)]; omega⟩
      obtain ⟨q, hq, hqm⟩ : ∃ q : Nat, IntKind.i64.wrap (1 + (m : Int)) = (q : Int) ∧ q = m + 1 := ⟨m + 1, by rw [IntWalk.i64_in _ (by omega)]; omega, rfl⟩
      have i1 : (0 : Int) ≤ j := by omega
      have i2 : (j : Int) < xs.length := by omega
      have e3 : IntKind.i64.wrap X = X := IntWalk.i64_in _ (by omega)
      have hsh := shapeC_ok (cs := cs) (p := q) (by omega) (by omega)
      have haE : addE cs L X q 0 = if X < 1 ∨ X ∈ ids L then 1 else 0 := by unfold addE; rw [if_neg (by rw [hsh]; simp)]
      have hz1 : ((cs.length : Int) == 0) = false := g2
      have hlk : ∀ w', IM w' sB nS (memF S) → (Instr.lookup 32 (.map (some sB)) (.int .i64 X) false).run Try.prog w' = .ok (.bool (decide (X ∈ ids L))) w' := fun w' h => by
        have := h.lookup (P := Try.prog) (t := 32) (z := .bool false) Try.underlying32 Try.underlying3 (zeroBoolG w') X false
        rw [memF_get] at this
        simp only [Bool.false_eq_true, if_false] at this
        rw [this, show decide (X ∈ S) = decide (X ∈ ids L) from decide_eq_decide.2 (hS.out X)]
      replace hlk := Lib.hid hlk
      replace hqm := Lib.hid hqm
      replace hsh := Lib.hid hsh
      replace haE := Lib.hid haE
      go_wp2_with fail
      go_quiet (fail)
      rename_i nq
      have cW : Ch0 wr (wr.drewN nq) := (Ch.refl _ _).drewN nq
      have ha := add_of (hG.out.new cW) X q 0 (by omega)
      have hM1 := Lib.hid (hM.out.new cW)
      have hA1 := Lib.hid (hA.out.new cW)
      clear hm hq e3 hx hA hM cW
      generalize wr.drewN nq = W1 at *
      by_cases hadd : X < 1 ∨ X ∈ ids L
      · have hE1 : addE cs L X q 0 = 1 := by rw [haE.out, if_pos hadd]
        have hL1 : addL cs L X q 0 = L := by unfold addL; rw [if_neg (by omega)]
        rw [hE1, hL1] at ha
        clear haE hE1 hL1 hsh
        by_cases hX1 : X < 1
        · obtain rfl : X = 0 := by omega
          clear hadd hX1 hlk
          go_wp2_with fail
          refine ha.mono ?_
          rintro e w6 ⟨rfl, O6, hG6, t6⟩
          have HE := Lib.hid (And.intro hG6 (And.intro (hM1.out.turn t6) (hA1.out.turn t6)))
          clear ha hG6 t6 hM1 hA1
          go_wp2_with fail
          go_roundw
          case rel => exact ⟨j + 1, by omega, by go_num, O6, L, S, nS, rfl, HE.out.1, HE.out.2.1, HE.out.2.2, hS.out, hZ.out, by omega⟩
          case measure => simp [intOf]; omega
        · have hin : X ∈ ids L := hadd.resolve_left hX1
          have hX2 : 0 < X := by omega
          clear hadd hX1
          go_wp2_with fail
          refine ha.mono ?_
          rintro e w6 ⟨rfl, O6, hG6, t6⟩
          have hA6 := hA1.out.turn t6
          have hl6 := hlk.out w6 hA6.x
          rw [decide_eq_true hin] at hl6
          have HE := Lib.hid (And.intro hG6 (And.intro (hM1.out.turn t6) hA6))
          clear ha hG6 t6 hM1 hA1 hA6 hin hlk
          go_wp2_with (at_lookup; refine wpList_lookup_run rfl _ _ 32 rfl rfl rfl hl6 ?_)
          go_roundw
          case rel => exact ⟨j + 1, by omega, by go_num, O6, L, S, nS, rfl, HE.out.1, HE.out.2.1, HE.out.2.2, hS.out, hZ.out, by omega⟩
          case measure => simp [intOf]; omega
      · have hE0 : addE cs L X q 0 = 0 := by rw [haE.out, if_neg hadd]
        have hL1 : addL cs L X q 0 = ins (newNode cs X q 0) L := by unfold addL; rw [if_pos hE0]
        rw [hE0, hL1] at ha
        have hX2 : 0 < X := by omega
        have hout : X ∉ ids L := fun h => hadd (.inr h)
        clear haE hE0 hL1 hadd
        go_wp2_with fail
        refine ha.mono ?_
        rintro e w6 ⟨rfl, O6, hG6, t6⟩
        have hA6 := hA1.out.turn t6
        have hM6 := hM1.out.turn t6
        have hl6 := hlk.out w6 hA6.x
        rw [decide_eq_false hout] at hl6
        obtain ⟨w7, hup, hI7, u7, s7⟩ := hA6.x.update (P := Try.prog) (t := 32) Try.underlying32 Try.underlying3 X (.bool true)
        rw [memF_put] at hI7
        have hG7 := hG6.keep u7 (fun k hk e => hA6.off k e hk) (fun k h1 h2 e => by omega)
        have hM7 := Mine.mk (hM6.ch.trans' u7 (fun _ _ e => e) (fun k hk e => by omega)) hM6.f
        have hA7 : Aside w7 O6 (fun k => k = sB) (fun w => IM w sB (if (memF S X).isSome = true then nS else nS + 1) (memF (S ++ [X]))) := Aside.im hI7 (hA6.off sB rfl)
        have hnd : newNode cs X q 0 ∈ ins (newNode cs X q 0) L := mem_ins.2 (.inl rfl)
        have hwf := hG7.wf _ hnd
        have hny := node_yes hG7.g hnd (by have := hwf.refs; omega) (by have := hwf.data; omega)
        have hgw := gwords_le cs L hG.out.wf
        have hWn : Hid (gwords (ins (newNode cs X q 0) L) = gwords L + (2 + ((newNode cs X q 0).refs.length : Int) + ((newNode cs X q 0).data.length : Int))) := Lib.hid (by rw [gwords_ins]; unfold wordsOfN; omega)
        have hZ' : Hid (∀ nd ∈ ins (newNode cs X q 0) L, ∀ t ∈ nd.refs, t = 0) := Lib.hid (fun nd h t ht => by
          rcases mem_ins.1 h with rfl | h
          · simp [newNode] at ht; exact ht.2
          · exact hZ.out nd h t ht)
        have hS' : Hid (∀ k, k ∈ S ++ [X] ↔ k ∈ ids (ins (newNode cs X q 0) L)) := Lib.hid (fun k => by
          rw [List.mem_append, hS.out k, ins_ids, List.mem_singleton]
          constructor
          · rintro (h | h)
            · exact .inr h
            · exact .inl h
          · rintro (h | h)
            · exact .inr h
            · exact .inl h)
        have hLl : Hid ((ins (newNode cs X q 0) L).length ≤ j + 1) := Lib.hid (by rw [ins_length]; omega)
        have hho : gholds cs (ins (newNode cs X q 0) L) X = [] := by
          have : gat (ins (newNode cs X q 0) L) X = some (newNode cs X q 0) := hG7.g.rise.at hnd
          unfold gholds
          rw [this]
          exact held_zero cs _ (fun t ht => hZ'.out _ hnd t ht)
        have q1 := hwf.refs
        have q2 := hwf.data
        have hfinal : Hid ((newNode cs X q 0).fin = (cs[m]'hm4).final) := Lib.hid (by
          show finalOf cs q = _
          unfold finalOf
          rw [hqm.out, show ((m + 1 : Nat) : Int) - 1 = (m : Int) by omega, Int.toNat_natCast]
          simp [List.getD_eq_getElem?_getD, hm4])
        obtain ⟨cg, co, cc, -, ce, ccell⟩ := SeesC.cells (HV.out.keep hM7.ch (fun _ _ e => e)) (by omega)
        obtain ⟨rfl, rfl⟩ : a = some ⟨cg, co, none⟩ ∧ c = cc := by simpa using ce
        obtain ⟨-, -, -, m3⟩ := ccell m hm4
        replace hny : Calls Try.prog 33 #[.pointer (some ⟨b, 0, none⟩), .int .i64 X] w7 _ := hny
        have HG7 := Lib.hid hG7
        have HM7 := Lib.hid hM7
        have HA7 := Lib.hid hA7
        replace hho := Lib.hid hho
        clear ha hG6 t6 hA6 hM6 hI7 u7 s7 hG7 hM7 hA7 hout hlk hnd hwf hM1 hA1 ce ccell
        go_wp2_with (first | (at_lookup; refine wpList_lookup_run rfl _ _ 32 rfl rfl rfl hl6 ?_) | (at_mapUpdate; refine wpList_mapUpdate_run rfl _ _ _ 32 rfl rfl rfl rfl hup ?_))
        refine hny.mono ?_
        rintro e w8 ⟨nv, vr, vd, rfl, hcp, c8⟩
        obtain ⟨ar, cr, rfl, -, -⟩ := hcp.refs.isSlice
        obtain ⟨ad, cd, rfl, -, -⟩ := hcp.data.isSlice
        obtain rfl : nv = .agg #[.int .i64 X, .int .i64 (q : Int), .slice ar (newNode cs X q 0).refs.length cr, .slice ad (newNode cs X q 0).data.length cd, .bool (newNode cs X q 0).fin] := hcp.v
        rw [hfinal.out]
        generalize (cs[m]'hm4).final = F at *
        generalize (newNode cs X q 0).refs.length = nR at *
        generalize (newNode cs X q 0).data.length = nD at *
        obtain ⟨S0, hS0⟩ : ∃ S0, S0 = gwords L := ⟨_, rfl⟩
        rw [← hS0] at hgw hWn ⊢
        replace hS0 := Lib.hid hS0
        have cb : Ch0 w8 (w8.alloc (.cells #[.int .i64 X, .int .i64 (q : Int), .slice ar nR cr, .slice ad nD cd, .bool F] 36)) := (Ch.refl _ _).alloc _
        have bb := heap_alloc_new w8 (.cells #[.int .i64 X, .int .i64 (q : Int), .slice ar nR cr, .slice ad nD cd, .bool F] 36)
        have c9 := c8.trans cb
        have y1 := cell_of_row _ w8.heap.size 1 _ _ _ bb
        have y2 := cell_of_row _ w8.heap.size 2 _ _ _ bb
        have y3 := cell_of_row _ w8.heap.size 3 _ _ _ bb
        have y4 := cell_of_row _ w8.heap.size 4 _ _ _ bb
        replace m3 := c9.cell m3 (fun e => e)
        have HH : Hid (∀ w', Ch0 (w8.alloc (.cells #[.int .i64 X, .int .i64 (q : Int), .slice ar nR cr, .slice ad nD cd, .bool F] 36)) w' → Calls Try.prog 34 #[.pointer (some ⟨b, 0, none⟩), .int .i64 X] w' fun e w'' => ∃ ah ch, e = .returned (.slice ah 0 ch) ∧ Ch0 w' w'') := Lib.hid (fun w' cx => by
          have := holds_of (HG7.out.new (c9.trans cx)) X
          rw [hho.out] at this
          refine this.mono ?_
          rintro e w'' ⟨v, rfl, r, -, c⟩
          obtain ⟨ah, ch, rfl, -, -⟩ := r.isSlice
          exact ⟨ah, ch, rfl, c⟩)
        have HE := Lib.hid (And.intro (HG7.out.new c9) (And.intro (HM7.out.new c9) (HA7.out.new c9)))
        have t1 : ((q : Int) != (q : Int)) = false := by simp
        have t2 : (F != F) = false := by simp
        have e4 : IntKind.i64.wrap ((q : Int) - 1) = (m : Int) := by have h := hqm.out; rw [IntWalk.i64_in _ (by omega)]; omega
        have i5 : (0 : Int) ≤ m := by omega
        have i6 : (m : Int) < cs.length := by omega
        have hLj2 : L.length ≤ 100 := by omega
        clear hny hcp c8 cb c9 HG7 HM7 HA7 hho hfinal hup hl6
        replace y1 : (w8.alloc (.cells #[.int .i64 X, .int .i64 (q : Int), .slice ar nR cr, .slice ad nD cd, .bool F] 36)).cell? ⟨w8.heap.size, 1, none⟩ = some (.int .i64 (q : Int)) := y1
        replace y2 : (w8.alloc (.cells #[.int .i64 X, .int .i64 (q : Int), .slice ar nR cr, .slice ad nD cd, .bool F] 36)).cell? ⟨w8.heap.size, 2, none⟩ = some (.slice ar nR cr) := y2
        replace y3 : (w8.alloc (.cells #[.int .i64 X, .int .i64 (q : Int), .slice ar nR cr, .slice ad nD cd, .bool F] 36)).cell? ⟨w8.heap.size, 3, none⟩ = some (.slice ad nD cd) := y3
        replace y4 : (w8.alloc (.cells #[.int .i64 X, .int .i64 (q : Int), .slice ar nR cr, .slice ad nD cd, .bool F] 36)).cell? ⟨w8.heap.size, 4, none⟩ = some (.bool F) := y4
        go_wp2_with fail
        generalize (w8.alloc (.cells #[.int .i64 X, .int .i64 (q : Int), .slice ar nR cr, .slice ad nD cd, .bool F] 36)) = w9 at *
        generalize w8.heap.size = B8 at *
        go_region_held3 (fun w' => w'.cell? ⟨B8, 1, none⟩ = some (.int .i64 (q : Int)) ∧ w'.cell? ⟨B8, 4, none⟩ = some (.bool F) ∧ w'.cell? ⟨cg, co + m * 4 + 3, none⟩ = some (.bool F))
          (first | go_keep | exact ⟨cx.cell (by simpa using y1) (fun e => e), cx.cell (by simpa using y4) (fun e => e), cx.cell (by simpa using m3) (fun e => e)⟩)
          ((go_at_call 34; refine (HH.out _ ?_).mono ?_; exact (Ch.refl _ _).drew; rintro e wx ⟨ah, ch, rfl, cx⟩))
        rename_i hheld
        have cz := (Ch.refl (fun _ => False) w9).drew.trans cx
        have HF9 := Lib.hid (And.intro (HE.out.1.new cz) (And.intro (HE.out.2.1.new cz) (HE.out.2.2.new cz)))
        clear hheld cx cz HE HH y1 y2 y3 y4 m3 bb e4
        go_wp2_with fail
        go_roundw
        case rel => exact ⟨j + 1, by omega, by go_num, O6, ins (newNode cs X q 0) L, S ++ [X], _, by rw [hWn.out], HF9.out.1, HF9.out.2.1, HF9.out.2.2, hS'.out, hZ'.out, hLl.out⟩
        case measure => simp [intOf]; omega
    · obtain rfl : j = xs.length := by omega
      have hLx : L.length ≤ 100 := by omega
      have hi := ids_of hG.out (by omega)
      have hrise : Hid ((ids L).Pairwise (· < ·)) := Lib.hid (by obtain ⟨r, n, pn, vr, vd, ow, h⟩ := hG.out.g; unfold ids; rw [List.pairwise_map]; exact h.rise)
      have hnS : (nS : Int) = L.length := by
        have hr := hrise.out
        have := hA.out.x.count (hr.imp (fun h => by omega)) (fun k => by rw [← hS.out k]; unfold memF; split <;> simp_all)
        simp [ids] at this
        omega
      have hw64 := gwords_le cs L hG.out.wf
      go_wp2_with fail
      refine hi.mono ?_
      rintro e w8 ⟨v, rfl, r1, f1, c1⟩
      obtain ⟨la, lc, ev, -, -⟩ := r1.isSlice
      rw [show (ids L).length = L.length by simp [ids]] at ev r1
      subst ev
      have hG8 := Lib.hid (hG.out.new c1)
      have hM8 := Lib.hid (hM.out.new c1)
      have hA8 := Lib.hid (hA.out.new c1)
      replace r1 := Lib.hid r1
      replace hw64 := Lib.hid hw64
      clear hi f1 c1 hG hM hA
      replace hnS := Lib.hid hnS
      go_wp2_with fail
      go_loopw [126] (fun i wr => ∃ j : Nat, j ≤ L.length ∧ i = .int .i64 j ∧ Ch0 w8 wr) (fun i _ => L.length - (intOf i).toNat)
      case atStart => exact ⟨0, Nat.zero_le _, rfl, Ch.refl _ _⟩
      case round =>
        obtain ⟨j, hj, rfl, d⟩ := hrel
        by_cases hlt : j < L.length
        · have hs : SeesI (fun k => rblk (.slice la L.length lc) = some k) wr (.slice la L.length lc) (ids L) := by
            have := (r1.out.keep d (fun _ _ e => e)).sees
            rw [show L.length = (ids L).length by simp [ids]] at this ⊢
            exact this
          have hil : (ids L).length = L.length := by simp [ids]
          obtain ⟨g, o, c5, -, e1, hcell⟩ := hs.cell (by omega)
          rw [hil] at e1
          obtain ⟨rfl, rfl⟩ : la = some ⟨g, o, none⟩ ∧ lc = c5 := by simpa using e1
          have hx := hcell j (by omega)
          have hin : (ids L).getD j 0 ∈ ids L := by
            rw [List.getD_eq_getElem?_getD, List.getElem?_eq_getElem (by omega)]
            exact List.getElem_mem _
          have hlq : ∀ n, (Instr.lookup 32 (.map (some sB)) (.int .i64 ((ids L).getD j 0)) false).run Try.prog (wr.drewN n) = .ok (.bool true) (wr.drewN n) := fun n => by
            have := ((hA8.out.new (d.trans ((Ch.refl _ _).drewN n))).x).lookup (P := Try.prog) (t := 32) (z := .bool false) Try.underlying32 Try.underlying3 (zeroBoolG _) ((ids L).getD j 0) false
            rw [memF_get] at this
            simp only [Bool.false_eq_true, if_false] at this
            rw [this, decide_eq_true ((hS.out _).2 hin)]
          have i1 : (0 : Int) ≤ j := by omega
          have i2 : (j : Int) < L.length := by omega
          by_cases hj0 : j = 0
          · subst hj0
            have i3 : (0 : Int) < L.length := by omega
            replace hx : wr.cell? ⟨g, o, none⟩ = some (.int .i64 ((ids L).getD 0 0)) := hx
            have d0 : decide ((0 : Int) < 0) = false := by decide
            replace hlq : ∀ n, (Instr.lookup 32 (.map (some sB)) (.int .i64 ((ids L).getD 0 0)) false).run Try.prog (wr.drewN n) = .ok (.bool true) (wr.drewN n) := hlq
            generalize (ids L).getD 0 0 = X at *
            clear hs e1 hcell hin
            replace d := Lib.hid d
            go_wp2_with fail
            go_quiet (fail)
            go_wp2_with fail
            go_roundw
            case rel => exact ⟨1, by omega, by go_num, d.out.drewN _⟩
            case measure => simp [intOf]; omega
          · have hx0 := hcell (j - 1) (by omega)
            have hlt2 : (ids L).getD (j - 1) 0 < (ids L).getD j 0 := by
              have := List.pairwise_iff_getElem.1 hrise.out (j - 1) j (by omega) (by omega) (by omega)
              simp only [List.getD_eq_getElem?_getD]
              rw [List.getElem?_eq_getElem (by omega), List.getElem?_eq_getElem (by omega)]
              simpa using this
            have d0 : decide ((0 : Int) < (j : Int)) = true := decide_eq_true (by omega)
            have d0n : 0 < j := by omega
            have d0m : decide (0 < j) = true := decide_eq_true d0n
            have e5 : IntKind.i64.wrap ((j : Int) - 1) = ((j - 1 : Nat) : Int) := by rw [IntWalk.i64_in _ (by omega)]; omega
            have i3 : (0 : Int) ≤ ((j - 1 : Nat) : Int) := by omega
            have i4 : ((j - 1 : Nat) : Int) < L.length := by omega
            generalize hjm : j - 1 = jm at *
            clear hjm
            generalize (ids L).getD j 0 = X at *
            generalize (ids L).getD jm 0 = Y at *
            have d1 : decide (X ≤ Y) = false := decide_eq_false (by omega)
            clear hs e1 hcell hin
            replace d := Lib.hid d
            go_wp2_with fail
            go_quiet (fail)
            clear e5
            go_wp2_with fail
            go_roundw
            case rel => exact ⟨j + 1, by omega, by go_num, d.out.drewN _⟩
            case measure => simp [intOf]; omega
        · obtain rfl : j = L.length := by omega
          have hlen := ((hA8.out.new d).x).len (P := Try.prog) (t := 32) (ty := 3) Try.underlying32
          rw [hnS.out] at hlen
          have hw := words_of (hG8.out.new d) (by omega)
          have HM := Lib.hid (hM8.out.new d)
          clear d
          go_wp2_with fail
          refine hw.mono ?_
          rintro e w9 ⟨rfl, c9⟩
          have HC := Lib.hid (HM.out.ch.trans c9)
          clear hw c9
          go_wp2_with fail
          go_ret
          exact ⟨rfl, HC.out⟩

end Go.Proofs.Ytlmeponoadhheaa
