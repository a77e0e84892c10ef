/-
  Contract of a processing's soft. (Printed by soft.py out of soft.tmpl.)
-/
import Derived.Test.YtlmeponoadhheaaRun2
import Derived.Test.YtlmeponoadhheaaTellsM
namespace Go.Proofs.Ytlmeponoadhheaa
set_option linter.unusedVariables false
open Go.RowKit

/-- what tells which aims are kept: nothing, or a function value that answers so -/
def KeepOk (kv : Value) (kp : Int → Bool) (w : World) (L : List GN) : Prop :=
  (kv = .nilFunc ∧ kp = fun _ => false) ∨ ∃ k caps, kv = .func (.func k) #[] caps ∧ (∀ args w, (callFunc k args).run Try.prog w = .ok (.enter k args) w) ∧
    ∀ W nd ar cr ad cd, Ch0 w W → nd ∈ L → Calls Try.prog k (#[.agg #[.int .i64 nd.id, .int .i64 nd.cls, .slice ar nd.refs.length cr, .slice ad nd.data.length cd, .bool nd.fin]] ++ caps) W fun e w' => e = .returned (.bool (kp nd.id)) ∧ Ch0 W w'

theorem KeepOk.new {kv : Value} {kp : Int → Bool} {w w' : World} {L : List GN} (h : KeepOk kv kp w L) (c : Ch0 w w') : KeepOk kv kp w' L := by
  rcases h with h | ⟨k, caps, h1, h2, h3⟩
  · exact .inl h
  · exact .inr ⟨k, caps, h1, h2, fun W nd ar cr ad cd d => h3 W nd ar cr ad cd (c.trans d)⟩

theorem RunS.keep2 {M r b : Nat} {w w' : World} {lv cv fv : Value} {live cleared final : List Int} {S : Nat → Prop} (h : RunS M w r b lv cv fv live cleared final) (c : Ch S w w') (h0 : ¬ S r) (h1 : ∀ k, rblk lv = some k → ¬ S k) (h2 : ∀ k, rblk cv = some k → ¬ S k) (h3 : ∀ k, rblk fv = some k → ¬ S k) : RunS M w' r b lv cv fv live cleared final :=
  ⟨c.keep h.blk h0, h.l.keep c h1, h.c.keep c h2, h.f.keep c h3, h.lb, h.cb, h.fb, h.rb, h.ap, h.ap2⟩

theorem row_ne_map {w : World} {e : TypeId} {size : Nat} {v : Value} {n m r : Nat} {xs : List Value} {f : Int → Option Value} (h : RowAt w e size v n xs) (hM : IM w r m f) : rblk v ≠ some r := by
  intro hi
  obtain ⟨cur, hc⟩ := h.block hi
  obtain ⟨es, clock, hb, -⟩ := hM
  rw [hb] at hc
  cases hc

theorem RunS.ne_map {M r b : Nat} {w : World} {lv cv fv : Value} {live cleared final : List Int} (h : RunS M w r b lv cv fv live cleared final) {m : Nat} {S : List Int} (hM : TellsM w m S) : ¬ m = r := by
  obtain ⟨n, f, ⟨es, clock, hb, -⟩, -⟩ := hM
  rintro rfl
  have := h.blk
  rw [hb] at this
  cases this

/-- a processing knows nothing of a map -/
theorem RunS.map {M r b : Nat} {w w' : World} {lv cv fv : Value} {live cleared final : List Int} (h : RunS M w r b lv cv fv live cleared final) {m : Nat} {S : List Int} (hM : TellsM w m S) (c : Ch (fun k => k = m) w w') : RunS M w' r b lv cv fv live cleared final := by
  have hne := h.ne_map hM
  obtain ⟨n, f, h1, -⟩ := hM
  exact h.keep2 c (fun e => hne e.symm) (fun k hk e => by cases e; exact row_ne_map h.l h1 hk) (fun k hk e => by cases e; exact row_ne_map h.c h1 hk) (fun k hk e => by cases e; exact row_ne_map h.f h1 hk)

def liveLen (w : World) (r : Nat) : Nat := match w.cell? ⟨r, 1, none⟩ with
  | some (.slice _ n _) => n
  | _ => 0

theorem RunS.liveLen {M r b : Nat} {w : World} {lv cv fv : Value} {live cleared final : List Int} (h : RunS M w r b lv cv fv live cleared final) : liveLen w r = live.length := by
  obtain ⟨a, c, e, -, -⟩ := h.l.isSlice
  unfold Go.Proofs.Ytlmeponoadhheaa.liveLen
  rw [h.cells.2.1, e]

/-- what holds at each jump of soft -/
def SoftJ (cs : List Cls) (L : List GN) (kp : Int → Bool) (roots : List Int) (w0 : World) (r b kA : Nat) (cv fv : Value) (cleared final : List Int) (w' : World) : Prop :=
  ∃ lv live asked, RunS w0.heap.size w' r b lv cv fv live cleared final ∧ SoftI cs L kp roots live asked ∧ TellsM w' kA asked ∧ Ch0 w0 w'

section
variable {r b : Nat} {w0 w : World} {O : Nat → Prop} {cs : List Cls} {L : List GN} {p lo hi : Nat} {lv cv fv : Value} {cleared final roots : List Int}

set_option maxRecDepth 100000 in
set_option maxHeartbeats 4000000 in
theorem soft_of (hg : Gt w0 b O cs L p lo hi) (hL : L.length ≤ 900) (hal : allRight cs = true) (hin : RefsIn L) (c0 : Ch0 w0 w) (kv : Value) (kp : Int → Bool) (hk : KeepOk kv kp w0 L) (h : RunS w0.heap.size w r b lv cv fv (closeL cs L 1 roots) cleared final) :
    Calls Try.prog 114 #[.pointer (some ⟨r, 0, none⟩), kv] w fun e w' => e = .returned (.tuple #[]) ∧ ∃ lv', RunS w0.heap.size w' r b lv' cv fv (liveL cs L kp roots) cleared final ∧ Ch0 w0 w' := by
  have hrise : Hid (Rising L) := Lib.hid (by obtain ⟨_, _, _, _, _, _, gs⟩ := hg.g; exact gs.rise)
  have hrO : Hid (¬ O r) := Lib.hid (fun e => by have := hg.small r e; have := h.rb; omega)
  have hrT : Hid (∀ k, lo ≤ k → k < hi → k ≠ r) := Lib.hid (fun k h1 h2 => by have := hg.hiw; have := h.rb; omega)
  have hr0 : Hid (w0.heap.size ≤ r) := Lib.hid h.rb
  have HG := Lib.hid hg
  have HK := Lib.hid hk
  have HI := Lib.hid hin
  have HAL := Lib.hid hal
  have mk2 : (Instr.makeMap 32 none).run Try.prog w = .ok (.map (some w.heap.size)) (w.alloc (.map #[] 0)) := by simp [Instr.makeMap, Result.andThen]
  have cM : Ch0 w (w.alloc (.map #[] 0)) := (Ch.refl _ _).alloc _
  obtain ⟨kA, hkE⟩ : ∃ kA, kA = w.heap.size := ⟨_, rfl⟩
  have HJ : Hid (SoftJ cs L kp roots w0 r b kA cv fv cleared final (w.alloc (.map #[] 0))) := Lib.hid ⟨lv, _, [], h.new cM, SoftI.start hrise.out, hkE ▸ TellsM.made w, c0.trans cM⟩
  have hkA : Hid (w0.heap.size ≤ kA) := Lib.hid (hkE ▸ c0.size)
  replace hkE := Lib.hid hkE
  clear hg hk hin hal h cM c0
  go_enter Try.func114, Try.ntmps114
  go_wp2_with fail
  refine wp_scope_jumps2 0 (fun a' w' => ∃ (u2 u3 u5 u6 u7 u8 u9 u10 u11 u12 u13 u14 u15 u16 u17 u18 u19 u20 u21 u22 u23 u24 u25 u26 u27 u28 u29 u30 u31 u32 u33 u34 u35 u36 u37 u38 u39 u40 u41 u42 u43 u44 u45 u46 u47 u48 u49 u50 u51 u52 u53 u54 u55 u56 u57 u58 u59 u60 u61 u62 : Value), a' = { tmps := #[.pointer (some ⟨r, 0, none⟩), kv, u2, u3, .map (some kA), u5, u6, u7, u8, u9, u10, u11, u12, u13, u14, u15, u16, u17, u18, u19, u20, u21, u22, u23, u24, u25, u26, u27, u28, u29, u30, u31, u32, u33, u34, u35, u36, u37, u38, u39, u40, u41, u42, u43, u44, u45, u46, u47, u48, u49, u50, u51, u52, u53, u54, u55, u56, u57, u58, u59, u60, u61, u62], defers := [] } ∧ SoftJ cs L kp roots w0 r b kA cv fv cleared final w') (fun a' w' => L.length - liveLen w' r) rfl ?first ?pass
  case first =>
    intro hpass
    replace hpass := Lib.hid hpass
    have hkk := hkE.out
    subst hkk
    go_wp2_with fail
    generalize w.alloc (.map #[] 0) = W1 at *
    go_step3
    rename_i Q0 K hK
    show K _ _
    refine hK _ _ ?_
    exact hpass.out _ _ ⟨_, _, _, _, _, _, _, _, _, _, _, _, _, _, _, _, _, _, _, _, _, _, _, _, _, _, _, _, _, _, _, _, _, _, _, _, _, _, _, _, _, _, _, _, _, _, _, _, _, _, _, _, _, _, _, _, _, _, _, _, rfl, HJ.out⟩
  case pass =>
    rintro a' w' ⟨u2, u3, u5, u6, u7, u8, u9, u10, u11, u12, u13, u14, u15, u16, u17, u18, u19, u20, u21, u22, u23, u24, u25, u26, u27, u28, u29, u30, u31, u32, u33, u34, u35, u36, u37, u38, u39, u40, u41, u42, u43, u44, u45, u46, u47, u48, u49, u50, u51, u52, u53, u54, u55, u56, u57, u58, u59, u60, u61, u62, rfl, hI⟩
    clear HJ mk2
    obtain ⟨lv, live, asked, hR, hS, hM, c⟩ := hI
    have hll := hS.len
    have hlen := hR.liveLen
    obtain ⟨k0, k1, -, -⟩ := hR.cells
    obtain ⟨la, lc, rfl, -, -⟩ := hR.l.isSlice
    have H0 := Lib.hid (And.intro hR (And.intro hS (And.intro hM c)))
    replace hlen := Lib.hid hlen
    have hup := Lib.hid hS.p
    clear hR hS hM c
    go_wp2_with fail
    go_loopw [18] (fun i wr => ∃ (j : Nat) (asked : List Int), j ≤ live.length ∧ i = .int .i64 j ∧ RunS w0.heap.size wr r b (.slice la live.length lc) cv fv live cleared final ∧ SoftI cs L kp roots live asked ∧ TellsM wr kA asked ∧ Ch0 w0 wr ∧ ∀ x ∈ live.take j, lostB cs L live x = true → (gaim cs L x).2 = 3 → kp x = false) (fun i _ => live.length - (intOf i).toNat)
    case atStart => exact ⟨0, asked, Nat.zero_le _, rfl, H0.out.1, H0.out.2.1, H0.out.2.2.1, H0.out.2.2.2, (fun x hx => by simp at hx)⟩
    case round =>
      clear H0 k0 k1
      obtain ⟨j, asked, hj, rfl, hR, hS, hM, c, hend⟩ := hrel
      by_cases hlt : j < live.length
      · obtain ⟨g, o, c1, -, e1, hcell⟩ := SeesI.cell hR.l.sees (by omega)
        obtain ⟨rfl, rfl⟩ : la = some ⟨g, o, none⟩ ∧ lc = c1 := by simpa using e1
        have hx := hcell j hlt
        have htk := take_snocI live hlt
        have hxl : live.getD j 0 ∈ live := by simp [List.getD_eq_getElem?_getD, hlt]
        have i1 : (0 : Int) ≤ j := by omega
        have i2 : (j : Int) < live.length := by omega
        have hlo := lost_of (HG.out.new c) hR hup.out (by omega) (live.getD j 0)
        obtain ⟨k0, -, -, -⟩ := hR.cells
        clear hcell e1
        generalize live.getD j 0 = X at *
        have HX := Lib.hid hxl
        have hnext : Hid ((lostB cs L live X = true → (gaim cs L X).2 = 3 → kp X = false) → ∀ x ∈ live.take (j + 1), lostB cs L live x = true → (gaim cs L x).2 = 3 → kp x = false) := Lib.hid (fun hq x hx => by
          rw [htk] at hx
          rcases List.mem_append.1 hx with q | q
          · exact hend x q
          · rw [List.mem_singleton.1 q]; exact hq)
        have HR := Lib.hid (And.intro hR (And.intro hS (And.intro hM c)))
        clear hR hS hM c hend htk hxl
        generalize hto : (gaim cs L X).1 = to at *
        generalize hkd : (gaim cs L X).2 = kd at *
        generalize hlb : lostB cs L live X = lb at *
        replace hto := Lib.hid hto
        replace hlb := Lib.hid hlb
        replace hkd := Lib.hid hkd
        go_wp2_with fail
        refine hlo.mono ?_
        rintro e w1 ⟨rfl, c1⟩
        have HR1 := Lib.hid (And.intro (HR.out.1.new c1) (And.intro HR.out.2.1 (And.intro (HR.out.2.2.1.keep c1 (fun e => e)) (HR.out.2.2.2.trans c1))))
        have kz := c1.cell k0 (fun e => e)
        clear hlo HR c1 k0
        by_cases h3 : kd = 3
        case neg =>
          have t0 : (kd != 3) = true := by simpa using h3
          have HN := Lib.hid (hnext.out (fun _ q => absurd q h3))
          clear h3 hnext
          go_wp2_with fail
          go_roundw
          case rel => exact ⟨j + 1, asked, by omega, by go_num, HR1.out.1, HR1.out.2.1, HR1.out.2.2.1, HR1.out.2.2.2, HN.out⟩
          case measure => simp [intOf]; omega
        have t0 : (kd != 3) = false := by simp [h3]
        replace h3 := Lib.hid h3
        cases lb with
        | false =>
          have HN := Lib.hid (hnext.out (fun q _ => by cases q))
          clear hnext
          go_wp2_with fail
          go_roundw
          case rel => exact ⟨j + 1, asked, by omega, by go_num, HR1.out.1, HR1.out.2.1, HR1.out.2.2.1, HR1.out.2.2.2, HN.out⟩
          case measure => simp [intOf]; omega
        | true =>
          have hlk := HR1.out.2.2.1.lookup X
          by_cases hask : X ∈ asked
          · have HN := Lib.hid (hnext.out (fun _ _ => HR1.out.2.1.old hask hlb.out))
            rw [decide_eq_true hask] at hlk
            clear hnext hask
            go_wp2_with (at_lookup; refine wpList_lookup_run rfl _ _ 32 rfl rfl rfl hlk ?_)
            go_roundw
            case rel => exact ⟨j + 1, asked, by omega, by go_num, HR1.out.1, HR1.out.2.1, HR1.out.2.2.1, HR1.out.2.2.2, HN.out⟩
            case measure => simp [intOf]; omega
          · rw [decide_eq_false hask] at hlk
            clear hask
            obtain ⟨wu, hup2, hM2, u2⟩ := HR1.out.2.2.1.update X true (fun e => by cases e)
            rw [if_pos rfl] at hM2
            have hRu := HR1.out.1.map HR1.out.2.2.1 u2
            have cu : Ch0 w0 wu := HR1.out.2.2.2.trans' u2 (fun _ _ e => e) (fun k hk e => by have e' : k = kA := e; have := hkA.out; omega)
            have hXI : X ∈ ids L := live_ids (HR1.out.2.1.a _ HX.out)
            obtain ⟨nd, hnd, hid⟩ := List.mem_map.1 hXI
            have hwf := HG.out.wf _ hnd
            have hr60 := hwf.refs
            have hd60 := hwf.data
            have hny := node_yes (HG.out.new cu).g hnd (by omega) (by omega)
            rw [hid] at hny
            obtain ⟨kz', -, -, -⟩ := hRu.cells
            have HU := Lib.hid (And.intro hRu (And.intro hM2 cu))
            have HS := HR1.out.2.1
            replace HS := Lib.hid HS
            replace hid := Lib.hid hid
            replace hnd := Lib.hid hnd
            clear hwf hRu hM2 cu HR1 u2 hXI
            rcases HK.out with ⟨rfl, hkp⟩ | ⟨kf, caps, rfl, eg, hf⟩
            · have HN := Lib.hid (And.intro (HS.out.ask (x := X) (by rw [hkp])) (hnext.out (fun _ _ => by rw [hkp])))
              clear hnext HS hkp
              have hq : ∀ w, (binOp .neq 88 .nilFunc .nilFunc).run Try.prog w = .ok (.bool false) w := fun w => by rfl
              go_wp2_with (first | (at_lookup; refine wpList_lookup_run rfl _ _ 32 rfl rfl rfl hlk ?_) | (at_mapUpdate; refine wpList_mapUpdate_run rfl _ _ _ 32 rfl rfl rfl rfl hup2 ?_))
              refine hny.mono ?_
              rintro e w3 ⟨nv, vr, vd, rfl, hcp, c3⟩
              obtain ⟨ar, cr, rfl, -, -⟩ := hcp.refs.isSlice
              obtain ⟨ad, cd, rfl, -, -⟩ := hcp.data.isSlice
              obtain rfl : nv = .agg #[.int .i64 nd.id, .int .i64 nd.cls, .slice ar nd.refs.length cr, .slice ad nd.data.length cd, .bool nd.fin] := hcp.v
              have c4 := c3.alloc (.cells #[.int .i64 nd.id, .int .i64 nd.cls, .slice ar nd.refs.length cr, .slice ad nd.data.length cd, .bool nd.fin] 36)
              have HE := Lib.hid (And.intro (HU.out.1.new c4) (And.intro (HU.out.2.1.keep c4 (fun e => e)) (HU.out.2.2.trans c4)))
              clear hny hcp c3 c4
              go_wp2_with fail
              go_roundw
              case rel => exact ⟨j + 1, _, by omega, by go_num, HE.out.1, HN.out.1, HE.out.2.1, HE.out.2.2, HN.out.2⟩
              case measure => simp [intOf]; omega
            · have hq : ∀ w, (binOp .neq 88 (.func (.func kf) #[] caps) .nilFunc).run Try.prog w = .ok (.bool true) w := fun w => by rfl
              go_wp2_with (first | (at_lookup; refine wpList_lookup_run rfl _ _ 32 rfl rfl rfl hlk ?_) | (at_mapUpdate; refine wpList_mapUpdate_run rfl _ _ _ 32 rfl rfl rfl rfl hup2 ?_))
              refine hny.mono ?_
              rintro e w3 ⟨nv, vr, vd, rfl, hcp, c3⟩
              obtain ⟨ar, cr, rfl, -, -⟩ := hcp.refs.isSlice
              obtain ⟨ad, cd, rfl, -, -⟩ := hcp.data.isSlice
              obtain rfl : nv = .agg #[.int .i64 nd.id, .int .i64 nd.cls, .slice ar nd.refs.length cr, .slice ad nd.data.length cd, .bool nd.fin] := hcp.v
              have c4 := c3.alloc (.cells #[.int .i64 nd.id, .int .i64 nd.cls, .slice ar nd.refs.length cr, .slice ad nd.data.length cd, .bool nd.fin] 36)
              have hcl := hf _ nd ar cr ad cd (HU.out.2.2.trans c4) hnd.out
              rw [show kp nd.id = kp X by rw [hid.out]] at hcl
              have HU4 := Lib.hid (And.intro (HU.out.1.new c4) (And.intro (HU.out.2.1.keep c4 (fun e => e)) (HU.out.2.2.trans c4)))
              clear hny hcp c3 c4 HU
              go_wp2_with fail
              refine hcl.mono ?_
              rintro e w5 ⟨rfl, c5⟩
              have HU5 := Lib.hid (And.intro (HU4.out.1.new c5) (And.intro (HU4.out.2.1.keep c5 (fun e => e)) (HU4.out.2.2.trans c5)))
              clear hcl c5 HU4
              cases hkx : kp X with
              | false =>
                have HN := Lib.hid (And.intro (HS.out.ask hkx) (hnext.out (fun _ _ => hkx)))
                clear hnext HS hkx
                go_wp2_with fail
                go_roundw
                case rel => exact ⟨j + 1, _, by omega, by go_num, HU5.out.1, HN.out.1, HU5.out.2.1, HU5.out.2.2, HN.out.2⟩
                case measure => simp [intOf]; omega
              | true =>
                have hlost := lostB_iff.1 hlb.out
                have hV : to ∈ ids L := by have := (lost_kind HAL.out HG.out.wf HI.out hlb.out).1; rwa [hto.out] at this
                rw [hto.out] at hlost
                have HN := Lib.hid (And.intro (HS.out.enter hrise.out HX.out (by rw [hkd.out, h3.out]) (by rw [hto.out]; exact hlost.1) (by rw [hto.out]; exact hV) hkx) (HS.out.more hlost.2 hV))
                rw [hto.out] at HN
                have cA : Ch0 w5 (w5.alloc (.cells #[.int .i64 to] 3)) := (Ch.refl _ _).alloc _
                have hen := enter_of (HG.out.new (HU5.out.2.2.trans cA)) (by omega) (HU5.out.1.new cA) hrO.out hrT.out _ _ [to] (sees_one_cell (heap_alloc_new w5 (.cells #[.int .i64 to] 3))) (by omega) (by simp) (by have := HU5.out.2.2.size; have := cA.size; omega)
                have hsl := HS.out.len
                replace cA := Lib.hid cA
                clear hnext HS hkx hlost hV
                go_wp2_with fail
                refine hen.mono ?_
                rintro e w6 ⟨rfl, lv6, hR6, c6⟩
                have hM6 := (HU5.out.2.1.keep cA.out (fun e => e)).keep c6 (HU5.out.1.ne_map HU5.out.2.1)
                have d6 : Ch0 w0 w6 := (HU5.out.2.2.trans cA.out).trans' c6 (fun _ _ e => e) (fun k hk e => by have e' : k = r := e; have := hr0.out; omega)
                have hl6 := hR6.liveLen
                have HE := Lib.hid (And.intro (show SoftJ cs L kp roots w0 r b kA cv fv cleared final w6 from ⟨lv6, _, _, hR6, HN.out.1, hM6, d6⟩) hl6)
                clear hen hR6 c6 hM6 d6 hl6
                go_wp2_with fail
                go_step3
                refine ⟨rfl, ⟨_, _, _, _, _, _, _, _, _, _, _, _, _, _, _, _, _, _, _, _, _, _, _, _, _, _, _, _, _, _, _, _, _, _, _, _, _, _, _, _, _, _, _, _, _, _, _, _, _, _, _, _, _, _, _, _, _, _, _, _, rfl, HE.out.1⟩, ?_⟩
                have h1 := HE.out.2
                have h2 := hlen.out
                have h3 := HN.out.2
                have h4 := HN.out.1.len
                simp only [h1, h2]
                omega
      · obtain rfl : j = live.length := by omega
        rw [List.take_length] at hend
        have hd := hS.done hrise.out hend
        have HE := Lib.hid (show ∃ lv', RunS w0.heap.size wr r b lv' cv fv (liveL cs L kp roots) cleared final ∧ Ch0 w0 wr from ⟨_, hd ▸ hR, c⟩)
        clear hR hS hM c hend hd
        go_wp2_with fail
        simp only [Exit.jump]
        go_end0
        exact ⟨rfl, HE.out⟩

end

end Go.Proofs.Ytlmeponoadhheaa
