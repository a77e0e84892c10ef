/-
  CensusCounts: the walk.
-/
import Derived.Test.YtlmeponoadhheaaRows19
namespace Go.Proofs.Ytlmeponoadhheaa
set_option linter.unusedVariables false
open Go.RowKit

theorem few_of_rows {cs : List Cls} {L : List GN} (hw : ∀ nd ∈ L, WfN cs nd) (hl : L.length ≤ 500) {R : List R5} (h : IsRows (fun c => S5 c (grows L)) R) (hR : R.length ≤ 500) : Few R :=
  ⟨hR, fun r hr => by
    have e : r = S5 r.cls (grows L) := ((h.2 r).1 hr).1
    rw [e]
    refine (S5_in (B := 200) (by decide) (fun x hx => by obtain ⟨nd, hnd, rfl⟩ := List.mem_map.1 hx; exact grow5_in (hw nd hnd)) _).mono ?_
    have : (grows L).length = L.length := by simp [grows]
    omega⟩

theorem tot_rows {L : List GN} {R : List R5} (h : IsRows (fun c => S5 c (grows L)) R) : (tot R).wds = gwords L ∧ (tot R).cnt = L.length ∧ (tot R).cls = 0 := by
  obtain ⟨h1, h2, -, -⟩ := sa_of_rows h
  rw [tot_eq]
  exact ⟨by simp only; rw [h2, sa_wds], by simp only; rw [h1, sa_cnt], rfl⟩

theorem mad_at {w : World} {cs : List Cls} {ns : List Int} {cv nv : Value} (hs : SeesN (fun k => k < w.heap.size) w cv nv cs ns) (hf : Fit cs) (w' : World) (c : Ch0 w w') :
    Calls Try.prog 79 #[cv, nv] w' fun e w'' => Ch0 w w'' ∧ ((madB cs ns = false ∧ e = .returned (.tuple #[.pointer none, .pointer none, .bool false])) ∨
      (madB cs ns = true ∧ ∃ b1 b2 p lo hi O1 O2 D, e = .returned (.tuple #[.pointer (some ⟨b1, 0, none⟩), .pointer (some ⟨b2, 0, none⟩), .bool true]) ∧ Duo w' w'' cs p lo hi b1 O1 (graphC cs ns) b2 O2 D cv (graphC cs ns))) :=
  (mad_of cs ns cv nv w' ⟨Sees.mono (hs.c.keep c (fun _ _ e => e)) (fun _ hk => Nat.lt_of_lt_of_le hk c.size), Sees.mono (hs.n.keep c (fun _ _ e => e)) (fun _ hk => Nat.lt_of_lt_of_le hk c.size), hs.nf⟩ hf).mono (fun _ _ h => by
    rcases h with ⟨h1, h2, h3⟩ | ⟨h1, b1, b2, p, lo, hi, O1, O2, he, hD⟩
    · exact ⟨c.trans h3, .inl ⟨h1, h2⟩⟩
    · exact ⟨c.trans hD.ch, .inr ⟨h1, b1, b2, p, lo, hi, O1, O2, _, he, hD⟩⟩)

/-- what is true of a graph that was made -/
theorem mad_ok {cs : List Cls} {ns : List Int} (h : madB cs ns = true) : ns.length ≤ 60 ∧ 0 < cs.length ∧ cs.length ≤ 63 ∧ allRight cs = true := by
  unfold madB at h
  simp only [Bool.and_eq_true, decide_eq_true_eq] at h
  exact ⟨h.1, by omega, h.2.2.1, (newC_zero h.2.2.2).1⟩

theorem u8_le {ns : List Int} (h : ∀ x ∈ ns, isU8 x) : ∀ x ∈ ns, 0 ≤ x ∧ x ≤ 255 := fun x hx => ⟨(h x hx).1, by have := (h x hx).2; omega⟩

set_option maxRecDepth 100000 in
set_option maxHeartbeats 4000000 in
theorem counts19_walk (cs : List Cls) (ns : List Int) (cv nv : Value) (w : World) (hs : SeesN (fun k => k < w.heap.size) w cv nv cs ns) (hf : Fit cs) :
    Calls Try.prog 22 #[cv, nv] w fun e w' => e = .returned (.bool true) ∧ Ch0 w w' := by
  have HM := Lib.hid (mad_at hs hf w (Ch.refl _ _))
  have hnf := Lib.hid (u8_le hs.nf)
  obtain ⟨ca, cc, rfl, -⟩ := hs.c.len
  obtain ⟨na, nc, rfl, -⟩ := hs.n.len
  clear hs hf
  go_enter Try.func22, Try.ntmps22
  go_wp2_with fail
  refine HM.out.mono ?_
  rintro e w1 ⟨c1, ⟨hB, rfl⟩ | ⟨hB, b1, b2, p, lo, hi, O1, O2, D, rfl, hD⟩⟩
  · replace c1 := Lib.hid c1
    clear HM hB
    go_wp2_with fail
    refine (awake_at w1 c1.out).mono ?_
    rintro e w2 ⟨rfl, c2⟩
    replace c2 := Lib.hid c2
    go_wp2_with fail
    refine (awake_at w2 c2.out).mono ?_
    rintro e w3 ⟨rfl, c3⟩
    replace c3 := Lib.hid c3
    go_wp2_with fail
    go_ret
    exact ⟨rfl, c3.out⟩
  obtain ⟨hn60, hcs0, hcs63, hal⟩ := mad_ok hB
  have hlen : (graphC cs ns).length = ns.length := graphC_len hcs0 hnf.out
  replace c1 := Lib.hid c1
  replace hD := Lib.hid hD
  generalize graphC cs ns = L at *
  clear HM hB
  go_wp2_with fail
  refine (awake_at w1 (Ch.refl _ _)).mono ?_
  rintro e w2 ⟨rfl, d2⟩
  have c2 := Lib.hid (c1.out.trans d2)
  have hD2 := hD.out.new d2
  have h1 := cof_of hD2.g (by omega)
  replace hD2 := Lib.hid hD2
  clear c1 hD d2
  go_wp2_with fail
  refine h1.mono ?_
  rintro e w3 ⟨v3, R, rfl, hR, hr3, hl3, d3⟩
  have c3 := Lib.hid (c2.out.trans d3)
  have hD3 := hD2.out.new d3
  have SR3 := Lib.hid (stay hr3.seesB)
  have h2 := rof_of hD3.r (by omega) (by omega)
  have hFew := few_of_rows hD3.g.wf (by omega) hR (by omega)
  have hlR : R.length ≤ 60 := by omega
  replace hD3 := Lib.hid hD3
  clear h1 c2 hD2 d3 hl3
  obtain ⟨ra, rc, rfl, -⟩ := hr3.seesB.len
  clear hr3
  go_wp2_with fail
  refine h2.mono ?_
  rintro e w4 ⟨v4, R', rfl, hR', hr4, hl4, d4⟩
  obtain rfl : R = R' := hR.eq hR' (fun _ => rfl)
  have c4 := Lib.hid (c3.out.trans d4)
  have hD4 := Lib.hid (hD3.out.new d4)
  have SR4 := Lib.hid (SR3.out.on d4)
  have SQ4 := Lib.hid (stay hr4.seesB)
  obtain ⟨qa, qc, rfl, -⟩ := hr4.seesB.len
  obtain ⟨e1, e2, e3⟩ := tot_rows hR
  rw [hlen] at e2
  replace e1 := Lib.hid e1
  replace e2 := Lib.hid e2
  replace e3 := Lib.hid e3
  have h1 := total_of _ _ R w4 SR4.out.here (fun _ h => h) hFew
  replace hFew := Lib.hid hFew
  clear h2 hr4 hl4 hR' hR d4 c3 hD3 SR3
  go_wp2_with fail
  refine h1.mono ?_
  rintro e w5 ⟨rfl, d5⟩
  unfold R5.val
  have cX : Ch0 w5 (w5.alloc (.cells #[.int .i64 (tot R).cls, .int .i64 (tot R).cnt, .int .i64 (tot R).wds, .int .i64 (tot R).refs, .int .i64 (tot R).fin] 106)) := (Ch.refl _ _).alloc _
  have bX := heap_alloc_new w5 (.cells #[.int .i64 (tot R).cls, .int .i64 (tot R).cnt, .int .i64 (tot R).wds, .int .i64 (tot R).refs, .int .i64 (tot R).fin] 106)
  have c6 := Lib.hid ((c4.out.trans d5).trans cX)
  have d56 := d5.trans cX
  have hD6 := Lib.hid (hD4.out.new d56)
  have SR6 := Lib.hid (SR4.out.on d56)
  have SQ6 := Lib.hid (SQ4.out.on d56)
  obtain ⟨y0, y1, y2, y3, y4⟩ := cells5 bX
  clear h1 d5 cX c4 hD4 SR4 SQ4 d56
  go_wp2_with fail
  generalize w5.alloc (.cells #[.int .i64 (tot R).cls, .int .i64 (tot R).cnt, .int .i64 (tot R).wds, .int .i64 (tot R).refs, .int .i64 (tot R).fin] 106) = w6 at *
  generalize w5.heap.size = B at *
  generalize hTt : tot R = T at *
  obtain ⟨t0, t1, t2, t3, t4⟩ := T
  replace e1 := e1.out
  replace e2 := e2.out
  replace e3 := e3.out
  simp only at e1 e2 e3 y0 y1 y2 y3 y4
  subst e3
  subst e2
  have HK : Hid (∀ w', Ch0 w6 w' → w'.cell? ⟨B, 0, none⟩ = some (.int .i64 0) ∧ w'.cell? ⟨B, 1, none⟩ = some (.int .i64 (ns.length : Int)) ∧ w'.cell? ⟨B, 2, none⟩ = some (.int .i64 t2) ∧ w'.cell? ⟨B, 3, none⟩ = some (.int .i64 t3) ∧ w'.cell? ⟨B, 4, none⟩ = some (.int .i64 t4)) := Lib.hid (fun w' c => ⟨c.cell y0 (fun e => e), c.cell y1 (fun e => e), c.cell y2 (fun e => e), c.cell y3 (fun e => e), c.cell y4 (fun e => e)⟩)
  have HR : Hid (∀ w', Ch0 w6 w' → Calls Try.prog 85 #[.slice ra R.length rc] w' fun e w'' => ∃ a' c', e = .returned (.slice a' R.length c') ∧ Stay w'' (.slice a' R.length c') R ∧ Ch0 w6 w'') := Lib.hid (fun w' c => (rows_of _ _ R w' (SR6.out w' c) (fun _ h => h) (by omega)).mono (fun e w'' ⟨u, h1, h2, h3⟩ => by
    obtain ⟨a', c', rfl, -, -⟩ := h2.1.isSlice
    exact ⟨a', c', h1, stay h2.seesB, c.trans h3⟩))
  have HS : Hid (∀ w' a' c', Ch0 w6 w' → Stay w' (.slice a' R.length c') R → Calls Try.prog 84 #[.slice a' R.length c', .slice qa R.length qc] w' fun e w'' => e = .returned (.bool true) ∧ Ch0 w6 w'') := Lib.hid (fun w' a' c' c h => (rsame_of _ _ _ _ R R w' h.here (SQ6.out w' c) (by omega) (by omega)).mono (fun e w'' ⟨h1, h2⟩ => ⟨by rw [h1, decide_eq_true rfl], c.trans h2⟩))
  have HT : Hid (∀ w', Ch0 w6 w' → Calls Try.prog 86 #[.slice qa R.length qc] w' fun e w'' => e = .returned (.agg #[.int .i64 0, .int .i64 (ns.length : Int), .int .i64 t2, .int .i64 t3, .int .i64 t4]) ∧ Ch0 w6 w'') := Lib.hid (fun w' c => (rtotal_of _ _ R w' (SQ6.out w' c) (fun _ h => h) hFew.out).mono (fun e w'' ⟨h1, h2⟩ => ⟨by rw [h1, hTt]; rfl, c.trans h2⟩))
  have HM : Hid (∀ w', Ch0 w6 w' → Calls Try.prog 87 #[.slice ra R.length rc] w' fun e w'' => e = .returned (.int .i64 (mostR R).cls) ∧ Ch0 w6 w'') := Lib.hid (fun w' c => (most_of _ _ R w' (SR6.out w' c) (fun _ h => h) (by omega)).mono (fun e w'' ⟨h1, h2⟩ => ⟨h1, c.trans h2⟩))
  have HRM : Hid (∀ w', Ch0 w6 w' → Calls Try.prog 88 #[.slice qa R.length qc] w' fun e w'' => e = .returned (.int .i64 (mostR R).cls) ∧ Ch0 w6 w'') := Lib.hid (fun w' c => (rmost_of _ _ R w' (SQ6.out w' c) (fun _ h => h) (by omega)).mono (fun e w'' ⟨h1, h2⟩ => ⟨h1, c.trans h2⟩))
  have HWo : Hid (∀ w', Ch0 w6 w' → Calls Try.prog 36 #[.pointer (some ⟨b1, 0, none⟩)] w' fun e w'' => e = .returned (.int .i64 t2) ∧ Ch0 w6 w'') := Lib.hid (fun w' c => (words_of (hD6.out.g.new c) (by omega)).mono (fun e w'' ⟨h1, h2⟩ => ⟨by rw [h1, e1], c.trans h2⟩))
  have c0 : Ch0 w6 w6.drew := (Ch.refl _ _).drew
  generalize (mostR R).cls = M at *
  clear hFew SR6 SQ6 hD6 e1 hTt bX hlR
  go_region_held3 (fun w' => w'.cell? ⟨B, 0, none⟩ = some (.int .i64 0) ∧ w'.cell? ⟨B, 1, none⟩ = some (.int .i64 (ns.length : Int)) ∧ w'.cell? ⟨B, 2, none⟩ = some (.int .i64 t2) ∧ w'.cell? ⟨B, 3, none⟩ = some (.int .i64 t3) ∧ w'.cell? ⟨B, 4, none⟩ = some (.int .i64 t4))
    (first | exact HK.out _ (by assumption) | go_keep)
    (first
      | (go_at_call 85; refine (HR.out _ (by assumption)).mono ?_; rintro e wa ⟨a', c', rfl, sa, ca⟩)
      | (go_at_call 84; refine (HS.out _ _ _ (by assumption) (by assumption)).mono ?_; rintro e wb ⟨rfl, cb⟩)
      | (go_at_call 86; refine (HT.out _ (by assumption)).mono ?_; rintro e wc ⟨rfl, cc'⟩)
      | (go_at_call 87; refine (HM.out _ (by assumption)).mono ?_; rintro e wd ⟨rfl, cd⟩)
      | (go_at_call 88; refine (HRM.out _ (by assumption)).mono ?_; rintro e we ⟨rfl, ce⟩)
      | (go_at_call 36; refine (HWo.out _ (by assumption)).mono ?_; rintro e wf ⟨rfl, cf⟩))
  have HE := Lib.hid (c6.out.trans cf)
  clear HK HR HS HT HM HRM HWo c0
  go_wp2_with fail
  go_ret
  exact ⟨rfl, HE.out⟩

end Go.Proofs.Ytlmeponoadhheaa
