/- law 16: whom a frame was of is found where it came from, and a frame to it goes there alone. Conditions: none. -/
import Derived.Test.YtmddhglhfgomiaaArgsC
import Derived.Test.YtmddhglhfgomiaaLearnsM
import Derived.Deep.RegionWith
import Derived.Deep.Cut
import Derived.Deep.CutBlock
namespace Go.Proofs.Ytmddhglhfgomiaa
open Go Go.RowKit Go.Maps
namespace V

theorem ints_atL {w : World} {a : Option Addr} {n c : Nat} {z : Int} (h : IntSl w (.slice a n c) [z]) : ∃ g, a = some ⟨g, 0, none⟩ ∧ g < w.heap.size ∧ w.cell? ⟨g, 0, none⟩ = some (.int .i64 z) := by
  rcases h.cases with ⟨_, h⟩ | ⟨g, cap, cs, h1, hr, _, _, _, h4⟩
  · cases h
  · cases h1
    have := cells_take hr h4 0 (by simp)
    exact ⟨g, rfl, hr.lt, by simpa using this⟩

set_option maxRecDepth 100000 in
set_option maxHeartbeats 8000000 in
theorem learns_any (w : World) (room life : Int) (la : Option Addr) (n c : Nat) (hl : StepsB w la n) (port : Int) (hport : i64ok port) (other : Int) (hother : i64ok other) (mf : Mac) (hmf : mf.ok) (mt : Mac) (hmt : mt.ok) :
    Calls Try.prog 3 #[.int .i64 room, .int .u64 life, .slice la n c, .int .i64 port, .int .i64 other, macV mf, macV mt] w fun e w' => e = .returned (.bool true) ∧ Below w.heap.size w w' := by
  have HL := Lib.hid hl
  clear hl
  obtain ⟨wM, hwM⟩ : ∃ wM, wM = (w.alloc (.cells (macCells mf).toArray 25)).alloc (.cells (macCells mt).toArray 25) := ⟨_, rfl⟩
  have fM : Frm (fun _ => False) w wM := by rw [hwM]; exact ((Frm.refl _ w).alloc _).alloc _
  have rF : Row wM w.heap.size 25 (macCells mf) := by rw [hwM]; exact (Row.new w 25 (macCells mf)).alloc _
  have rT : Row wM (w.heap.size + 1) 25 (macCells mt) := by
    have h := Row.new (w.alloc (.cells (macCells mf).toArray 25)) 25 (macCells mt)
    rw [World.size_alloc] at h
    rw [hwM]
    exact h
  have hsh := shown_any wM
  have HFM := Lib.hid fM
  have HRF := Lib.hid rF
  have HRT := Lib.hid rT
  clear fM rF rT
  subst hwM
  go_enter Try.func3, Try.ntmps3
  go_wp2_with fail
  refine hsh.mono ?_
  clear hsh
  rintro e w1 ⟨rfl, hBw⟩
  have fw1 := Frm.of_below' hBw (fun _ => False)
  have HL1 := Lib.hid (HL.out.frm (HFM.out.trans0 fw1) (fun _ _ h => h))
  have HBW := Lib.hid ((HFM.out.trans0 fw1).to_below (Nat.le_refl _) (fun _ _ h => h.elim))
  have HRF1 := Lib.hid (HRF.out.frm0 fw1)
  have HRT1 := Lib.hid (HRT.out.frm0 fw1)
  clear HL HFM HRF HRT hBw fw1
  go_wp2_with fail
  obtain ⟨lf, hlf2⟩ : ∃ lf, lf = max life 1 := ⟨_, rfl⟩
  rw [← hlf2]
  have hlf1 : 1 ≤ lf := by omega
  clear hlf2
  refine (new_B (fun k => w1.heap.size ≤ k) w1 w1 room lf (Frm.refl _ _) (fun _ h => h)).mono ?_
  rintro e w2 ⟨bb, rfl, F0⟩
  obtain ⟨rm, hrm⟩ : ∃ rm, rm = roomOf room := ⟨_, rfl⟩
  rw [← hrm] at F0
  have HRM := Lib.hid hrm
  clear hrm
  obtain ⟨V0, hV0⟩ : ∃ V0, V0 = List.replicate 8 (⟨[], [], []⟩ : VSeg) := ⟨_, rfl⟩
  rw [← hV0] at F0
  clear hV0
  go_upto_block 0 with fail
  go_cut [17] from 39 to 63 (fun tn wx => ∃ (now : Int) (bound : Bd) (Vs : List VSeg), tn = .int .u64 now ∧ 0 ≤ now ∧ now ≤ 25500 ∧ BB (fun k => w1.heap.size ≤ k) w1 wx bb rm lf now bound Vs)
  case first =>
    clear HRF1 HRT1
    go_wp2_with fail
    go_loopw [17, 18] (fun tn ti wr => ∃ (j : Nat) (now : Int) (bound : Bd) (Vs : List VSeg), j ≤ 100 ∧ ti = .int .i64 (j : Int) ∧ tn = .int .u64 now ∧ 0 ≤ now ∧ now ≤ 255 * j ∧ BB (fun k => w1.heap.size ≤ k) w1 wr bb rm lf now bound Vs)
      (fun _ ti _ => 100 - (intOf ti).toNat)
    case atStart => exact ⟨0, 0, _, _, by omega, rfl, rfl, by omega, by omega, F0⟩
    case round =>
      clear F0
      obtain ⟨j, now, bound, Vs, hj, rfl, rfl, hn0, hn1, F⟩ := hrel
      have HF := Lib.hid F
      by_cases hgo : (j : Int) < (n : Int) ∧ (j : Int) < 100
      · obtain ⟨hjn, hj3⟩ := hgo
        obtain ⟨g, o, rfl, hgl, x, hx, hc⟩ := HL1.out j (by omega)
        obtain ⟨k, xn, xs, a, ln, xc, y, mt', mo'⟩ := x
        have hW : Below w1.heap.size w1 wr := F.since.to_below (Nat.le_refl _) (fun i hi h => by omega)
        have hc' : ∀ i u, (st16Cells ⟨k, xn, xs, a, ln, xc, y, mt', mo'⟩)[i]? = some u → wr.cell? ⟨g, o + j * 5 + i, none⟩ = some u := fun i u hi => (hW.cell (p := ⟨g, o + j * 5 + i, none⟩) hgl).trans (hc i u hi)
        have s0 := hc' 0 _ rfl
        have s1 := hc' 1 _ rfl
        have s2 := hc' 2 _ rfl
        have s3 := hc' 3 _ rfl
        have s4 := hc' 4 _ rfl
        rw [Nat.add_zero] at s0
        have sl : g < wr.heap.size := Nat.lt_of_lt_of_le hgl hW.size
        have hy := hx.by_
        simp only at hy
        obtain ⟨hy0, hy1⟩ := hy
        have hwy : IntKind.u64.wrap y = y := by rw [IntKind.wrap_u64]; omega
        have hxS : (⟨k, xn, xs, a, ln, xc, y, mt', mo'⟩ : St16).ok wr := ⟨hx.kind, hx.n, hx.s, hx.by_, hx.fr.frm (Frm.of_below' hW (fun _ => False)) (fun _ _ h => h)⟩
        have hnu : u64ok (now + y) := by unfold u64ok; omega
        have hdo := does16_any F ⟨k, xn, xs, a, ln, xc, y, mt', mo'⟩ hxS (now + y) hnu (by omega)
        have hdo2 : Calls Try.prog 9 #[ptr bb, st16V ⟨k, xn, xs, a, ln, xc, y, mt', mo'⟩, .int .u64 (now + y)] wr fun e w' => ∃ v bound' Vs', e = .returned v ∧ BB (fun k => w1.heap.size ≤ k) w1 w' bb rm lf (now + y) bound' Vs' := hdo.mono (by
          rintro e w' (⟨bound', Vs', rfl, F5⟩ | ⟨i, es, ps, qs, moved, cd, es', pa, ta, pl, pc, tl, tc, om, h8, hk4, hk9, h14, ho, rfl, hU, hp1, hp2, -, F5, hP, hT⟩)
          · exact ⟨_, _, _, rfl, F5⟩
          · exact ⟨_, _, _, rfl, F5⟩)
        clear hc hc' hW hx hxS hdo F HF
        go_wp2_with fail
        refine hdo2.mono ?_
        clear hdo2
        rintro e w5 ⟨v, bound', Vs', rfl, F5⟩
        have H5 := Lib.hid F5
        clear F5 s0 s1 s2 s3 s4 sl
        go_wp2_with fail
        go_roundw
        case rel => exact ⟨j + 1, now + y, bound', Vs', by omega, by go_num, rfl, by omega, by omega, H5.out⟩
        case measure => simp [intOf]; omega
      · have HX : Hid (∃ (now' : Int) (bound : Bd) (Vs : List VSeg), Value.int .u64 now = .int .u64 now' ∧ 0 ≤ now' ∧ now' ≤ 25500 ∧ BB (fun k => w1.heap.size ≤ k) w1 wr bb rm lf now' bound Vs) := Lib.hid ⟨now, bound, Vs, rfl, hn0, by omega, F⟩
        clear F HF
        by_cases hjn : (j : Int) < (n : Int)
        · have hj9 : ¬ ((j : Int) < 100) := fun h => hgo ⟨hjn, h⟩
          clear hgo
          go_wp2_with fail
          go_meet
          exact HX.out
        · clear hgo
          go_wp2_with fail
          go_meet
          exact HX.out
  case rest =>
    clear F0
    obtain ⟨wr, rfl⟩ : ∃ x : World, x = wc := ⟨_, rfl⟩
    obtain ⟨now, bound, Vs, rfl, hn0, hn1, F⟩ := hcut
    have HF := Lib.hid F
    have hSp := Seg_V F port hport
    have hSo := Seg_V F other hother
    obtain ⟨wL, rfl⟩ : ∃ x : World, x = wr := ⟨_, rfl⟩
    have fL : Frm (fun k => w1.heap.size ≤ k) w1 wL := F.since
    have rF := HRF1.out.frm fL (fun h => by have := HRF1.out.lt; omega)
    have rT := HRT1.out.frm fL (fun h => by have := HRT1.out.lt; omega)
    have HB := Lib.hid (HBW.out.trans ((fL.to_below (Nat.le_refl _) (fun i hi h => by omega)).mono HBW.out.size))
    have hw1 : w.heap.size + 2 ≤ w1.heap.size := by have := HRT1.out.lt; omega
    have HRF := Lib.hid rF
    have HRT := Lib.hid rT
    clear HL1 fL F
    obtain ⟨c0, c1, c2, c3, c4, c5⟩ := And.intro (rF.cell 0) (And.intro (rF.cell 1) (And.intro (rF.cell 2) (And.intro (rF.cell 3) (And.intro (rF.cell 4) (rF.cell 5)))))
    obtain ⟨d0, d1, d2, d3, d4, d5⟩ := And.intro (rT.cell 0) (And.intro (rT.cell 1) (And.intro (rT.cell 2) (And.intro (rT.cell 3) (And.intro (rT.cell 4) (rT.cell 5)))))
    simp at c0 c1 c2 c3 c4 c5 d0 d1 d2 d3 d4 d5
    have cl := rF.lt
    have dl := rT.lt
    clear rF rT
    cases hb1 : boundTo bound port with
    | none =>
      rw [hb1] at hSp
      simp only [Option.getD_none, Option.isSome_none] at hSp
      clear hb1
      go_wp2_with fail
      refine hSp.mono ?_
      rintro e wq ⟨rfl, rfl⟩
      clear hSp
      go_wp2_with fail
      refine hSo.mono ?_
      rintro e wq ⟨rfl, rfl⟩
      clear hSo
      go_wp2_with fail
      go_ret
      exact ⟨rfl, HB.out⟩
    | some s1 =>
      have HB1 := Lib.hid hb1
      rw [hb1] at hSp
      simp only [Option.getD_some, Option.isSome_some] at hSp
      clear hb1
      go_wp2_with fail
      refine hSp.mono ?_
      rintro e wq ⟨rfl, rfl⟩
      clear hSp
      go_wp2_with fail
      refine hSo.mono ?_
      rintro e wq ⟨rfl, rfl⟩
      clear hSo
      cases hb2 : boundTo bound other with
      | none =>
        clear hb2
        simp only [Option.getD_none, Option.isSome_none]
        go_wp2_with fail
        go_ret
        exact ⟨rfl, HB.out⟩
      | some s2 =>
        have HB2 := Lib.hid hb2
        clear hb2
        simp only [Option.getD_some, Option.isSome_some]
        by_cases hss : s1 = s2
        · by_cases hpo : port = other
          · subst hss hpo
            clear HB1 HB2
            go_wp2_with fail
            go_ret
            exact ⟨rfl, HB.out⟩
          · subst hss
            have hF := HF.out
            obtain ⟨i, U, rfl, h8, hU, hin⟩ := hF.inv.of_some HB1.out
            obtain ⟨es, ps, qs⟩ := U
            have hpo1 : ((port : Int) == other) = false := beq_eq_false_iff_ne.2 hpo
            have hand1 : (bits BinOp.and IntKind.u8 mf.a 1 == 1) = groupB mf := and1_u8 _ hmf.a
            have hand2 : (bits BinOp.and IntKind.u8 mt.a 1 == 1) = groupB mt := and1_u8 _ hmt.a
            have ha0 := hmf.a.1
            have ha1 := hmf.a.2
            have hb0 := hmt.a.1
            have hb1 := hmt.a.2
            have hme := fun W => mac_eql hmf hmt W
            have hmg := macGuard
            obtain ⟨b, hbs, hfd⟩ : ∃ b, (∀ W, Frm (fun _ => False) wL W → Calls Try.prog 11 #[ptr bb, .int .i64 (i : Int)] W fun e w' => e = .returned (ptr b) ∧ W = w') ∧ True := by
              obtain ⟨bm, segs, h1, B, _⟩ := hF.rep
              obtain ⟨hi, _⟩ := hF.at h1 hU
              exact ⟨segs[i].base, fun W f => bbase_in W bb bm rm lf bound segs i i rfl hi (B.frm f (fun _ _ h => h)), trivial⟩
            clear hfd
            have hnss : ((i : Int) != (i : Int)) = false := by simp
            have HPO := Lib.hid hpo
            clear hF hpo
            cases hgf : groupB mf with
            | true =>
              rw [hgf] at hand1
              clear hgf HB1 HB2 HF HRF HRT hbs hme hmg
              go_wp2_with fail
              go_ret
              exact ⟨rfl, HB.out⟩
            | false =>
              rw [hgf] at hand1
              have HGF := Lib.hid hgf
              clear hgf
              cases hgt : groupB mt with
              | true =>
                rw [hgt] at hand2
                clear hgt HB1 HB2 HF HRF HRT hbs hme hmg
                go_wp2_with fail
                go_ret
                exact ⟨rfl, HB.out⟩
              | false =>
                rw [hgt] at hand2
                have HGT := Lib.hid hgt
                clear hgt
                by_cases hmm : mf = mt
                · rw [decide_eq_true hmm] at hme
                  have HMM := Lib.hid hmm
                  clear hmm HB1 HB2 HF HRF HRT hbs HMM
                  go_wp2_with fail
                  go_ret
                  exact ⟨rfl, HB.out⟩
                · rw [decide_eq_false hmm] at hme
                  have HMM := Lib.hid hmm
                  clear hmm
                  by_cases hr2 : room < 2
                  · clear HB1 HB2 HF HRF HRT
                    go_wp2_with (go_at_call 11; refine (hbs _ (Frm.refl _ _)).mono ?_; rintro e wq ⟨rfl, rfl⟩)
                    go_ret
                    exact ⟨rfl, HB.out⟩
                  · have hrm2 : 2 ≤ rm := by rw [HRM.out]; unfold roomOf; omega
                    have hw17 : IntKind.u64.wrap (now + 1) = now + 1 := by rw [IntKind.wrap_u64]; omega
                    go_wp2_with (first | (go_at_call 11; refine (hbs _ (Frm.refl _ _)).mono ?_; rintro e wq ⟨rfl, rfl⟩) | fail)
                    refine (lframe_ex wL mt mf).mono ?_
                    rintro e wM ⟨fb, rfl, hlt, M1, M2, f2⟩
                    have hnu : u64ok (now + 1) := by unfold u64ok; omega
                    have hfp := fromport_L (HF.out.frm f2) port (now + 1) HB1.out hU hport hnu (by omega) fb mt mf hlt M1 M2 hmt hmf HGF.out
                    clear c0 c1 c2 c3 c4 c5 d0 d1 d2 d3 d4 d5 cl dl hand1 hand2 hme hmg hlt M1 M2 hbs hw17
                    clear HRF HRT f2
                    go_wp2_with fail
                    refine hfp.mono ?_
                    clear hfp
                    rintro e w3 ⟨mv1, cd1, es1, pa, pl, pc, ta, tl, tc, o1, O1, -, rfl, hL1, F3, -, -, -, -, -⟩
                    have hS := (HF.out.inv.seg i _ hU)
                    have hstat : ∀ e ∈ es, e.static = false := fun e he => (hS.ent e he).1
                    have hin1 := learns_in hL1 HGF.out HF.out.inv.r1 hstat
                    have hold : ∀ e ∈ es1, e = (⟨mf, ⟨false, port⟩, now + 1, false⟩ : Ent) ∨ e.at_ < now + 1 := fun e he => by
                      rcases learnV_mem hL1 he with h | h
                      · exact .inr (by have := (hS.ent e h).2.1; omega)
                      · exact .inl h
                    have HIN1 := Lib.hid hin1
                    have HOLD := Lib.hid hold
                    have hl8 : i < Vs.length := (List.getElem?_eq_some_iff.1 hU).1
                    have hU1 : (Vs.set i ⟨es1, ps, qs⟩)[i]? = some ⟨es1, ps, qs⟩ := by rw [List.getElem?_set_self hl8]
                    obtain ⟨V1, hV1⟩ : ∃ V1, V1 = Vs.set i ⟨es1, ps, qs⟩ := ⟨_, rfl⟩
                    rw [← hV1] at F3 hU1
                    clear hL1 hS hstat hin1 hold hV1 hU HF
                    have rF3 := HRF1.out.frm F3.since (fun h => by have := HRF1.out.lt; omega)
                    have rT3 := HRT1.out.frm F3.since (fun h => by have := HRT1.out.lt; omega)
                    have HB3 := Lib.hid (HBW.out.trans ((F3.since.to_below (Nat.le_refl _) (fun i hi h => by omega)).mono HBW.out.size))
                    have hz3 := F3.since.size
                    go_upto_region 18 with fail
                    obtain ⟨wB, hwB⟩ : ∃ wB, wB = w3.alloc (.cells #[.slice pa pl pc, .slice ta tl tc, .bool o1.flood] 34) := ⟨_, rfl⟩
                    rw [← hwB]
                    have f3B : Frm (fun _ => False) w3 wB := by rw [hwB]; exact (Frm.refl _ w3).alloc _
                    have hzB : w3.heap.size < wB.heap.size := by rw [hwB]; simp
                    have rF := rF3.frm0 f3B
                    obtain ⟨c0, c1, c2, c3, c4, c5⟩ := And.intro (rF.cell 0) (And.intro (rF.cell 1) (And.intro (rF.cell 2) (And.intro (rF.cell 3) (And.intro (rF.cell 4) (rF.cell 5)))))
                    simp at c0 c1 c2 c3 c4 c5
                    have cl := rF.lt
                    obtain ⟨b, hbs, hfd⟩ : ∃ b, (∀ W, Frm (fun _ => False) wB W → Calls Try.prog 11 #[ptr bb, .int .i64 (i : Int)] W fun e w' => e = .returned (ptr b) ∧ W = w') ∧
                        (∀ W, Frm (fun _ => False) wB W → Calls Try.prog 14 #[ptr b, macV mf, .int .u64 (now + 1)] W fun e w' => e = .returned (.tuple #[placeV ⟨false, port⟩, .bool true]) ∧ Frm (fun _ => False) W w') := by
                      obtain ⟨bm, segs, h1, B, _⟩ := F3.rep
                      obtain ⟨hi, hv⟩ := F3.at h1 hU1
                      have e1 : segs[i].gs.map (·.2) = es1 := congrArg VSeg.es hv
                      refine ⟨segs[i].base, fun W f => bbase_in W bb bm rm lf bound segs i i rfl hi (B.frm (f3B.trans0 f) (fun _ _ h => h)), fun W f => ?_⟩
                      have BB := ((B.srep _ (List.getElem_mem hi)).base).frm (f3B.trans0 f) (fun _ _ h => h)
                      have h9 := find_any W segs[i].base segs[i].mb rm lf (now + 1) segs[i].gs mf hmf hnu BB
                      rw [Go.Proofs.Ytmddhglhfgomiaa.seenV_eq, e1] at h9
                      have h10 := seen_now (life := lf) (F3.apart hU1) HIN1.out hlf1
                      simp only at h10
                      rw [h10] at h9
                      simpa using h9
                    clear hwB
                    go_cut [25, 26] (fun t25 t26 wx => ∃ bp, t25 = ptr bp ∧ wB.heap.size ≤ bp ∧ t26 = .bool true ∧ Row wx bp 46 [.bool false, .int .i64 port] ∧ Frm (fun _ => False) wB wx)
                    case first =>

                      have hd : Frm (fun _ => False) wB wB.drew := (Frm.refl _ wB).drew
                      have ha : ∀ o, Frm (fun _ => False) wB (wB.alloc o).drew := fun o => ((Frm.refl _ wB).alloc o).drew
                      clear rF rF3 rT3 F3 HIN1 HOLD
                      go_region_with (first
                        | (go_at_call 11; first | (refine (hbs _ hd).mono ?_; rintro e wq ⟨rfl, rfl⟩) | (refine (hbs _ (ha _)).mono ?_; rintro e wq ⟨rfl, rfl⟩))
                        | (go_at_call 14; first | (refine (hfd _ hd).mono ?_; rintro e w' ⟨rfl, hF⟩; have hF0 := hd.trans0 hF; have hsz := hF0.size; clear hF) | (refine (hfd _ (ha _)).mono ?_; rintro e w' ⟨rfl, hF⟩; have hbx := ((Row.new wB 46 [.bool false, .int .i64 0]).drew).frm hF (fun h => h); have hx0 := hbx.cell 0; have hx1 := hbx.cell 1; simp at hx0 hx1; have hbf := hbx.free; have hbl := hbx.lt; have hF0 := (ha (.cells #[.bool false, .int .i64 0] 46)).trans0 hF; have hsz := hF0.size; clear hF)))
                      all_goals
                        go_wp2_with fail
                        go_meet
                        refine ⟨_, rfl, ?_, rfl, ?_, ?_⟩
                        · omega
                        · first
                            | with_reducible exact Row.new _ _ _
                            | with_reducible exact put2 hbx _ _
                        · first
                            | with_reducible exact hF0.alloc _
                            | with_reducible exact (hF0.setCell _ (fun h => absurd h (Nat.lt_irrefl _))).setCell _ (fun h => absurd h (Nat.lt_irrefl _))

                    case rest =>
                      obtain ⟨wC, rfl⟩ : ∃ x : World, x = wc := ⟨_, rfl⟩
                      obtain ⟨bp, rfl, hbp, rfl, hP, hFC⟩ := hcut
                      clear hbs hfd c0 c1 c2 c3 c4 c5 cl rF rF3 rT3
                      have f3C : Frm (fun _ => False) w3 wC := f3B.trans0 hFC
                      have hzC := hFC.size
                      have hbpC := hP.lt
                      have rF := (HRF1.out.frm F3.since (fun h => by have := HRF1.out.lt; omega)).frm0 f3C
                      have rT := (HRT1.out.frm F3.since (fun h => by have := HRT1.out.lt; omega)).frm0 f3C
                      have HBC := Lib.hid (HB3.out.trans (f3C.to_below HB3.out.size (fun _ _ h => h.elim)))
                      obtain ⟨O4, hO4, F4⟩ := F3.anew2 f3C
                      have n4 : ∀ k, O4 k → k ≠ bp ∧ k ≠ w.heap.size ∧ k ≠ w.heap.size + 1 ∧ w.heap.size ≤ k := fun k hk => by rcases hO4 k hk with h | h <;> omega
                      have HN4 := Lib.hid n4
                      have HP := Lib.hid hP
                      have HRF := Lib.hid rF
                      have HRT := Lib.hid rT
                      clear hO4 n4 hP F3 f3C f3B hFC HB3 hz3 hzB HRF1 HRT1 HBW
                      obtain ⟨c0, c1, c2, c3, c4, c5⟩ := And.intro (rF.cell 0) (And.intro (rF.cell 1) (And.intro (rF.cell 2) (And.intro (rF.cell 3) (And.intro (rF.cell 4) (rF.cell 5)))))
                      obtain ⟨d0, d1, d2, d3, d4, d5⟩ := And.intro (rT.cell 0) (And.intro (rT.cell 1) (And.intro (rT.cell 2) (And.intro (rT.cell 3) (And.intro (rT.cell 4) (rT.cell 5)))))
                      simp at c0 c1 c2 c3 c4 c5 d0 d1 d2 d3 d4 d5
                      have cl := rF.lt
                      have dl := rT.lt
                      clear rF rT
                      go_wp2_with fail
                      refine (lframe_ex wC mf mt).mono ?_
                      rintro e wN ⟨fb, rfl, hlt, M1, M2, f5⟩
                      have hfp := fromport_L (F4.frm f5) other (now + 1) HB2.out hU1 hother hnu (Int.le_refl _) fb mf mt hlt M1 M2 hmf hmt HGT.out
                      have HA1 := Lib.hid (F4.apart hU1)
                      have HI1 := Lib.hid (F4.inv.seg i _ hU1)
                      clear c0 c1 c2 c3 c4 c5 d0 d1 d2 d3 d4 d5 cl dl hlt M1 M2 f5 F4
                      go_wp2_with fail
                      refine hfp.mono ?_
                      clear hfp
                      rintro e w6 ⟨mv2, cd2, es2, qa, ql, qc, ua, ul, uc, o2, O2, ho2, rfl, hL2, F6, F6', hO2, hq2, hQ, hT2⟩
                      have hin2 := learns_stay hL2 HA1.out HIN1.out HMM.out hrm2 (fun e he => (HI1.out.ent e he).1) HOLD.out
                      have hl8' : i < V1.length := (List.getElem?_eq_some_iff.1 hU1).1
                      have hU2 : (V1.set i ⟨es2, ps, qs⟩)[i]? = some ⟨es2, ps, qs⟩ := by rw [List.getElem?_set_self hl8']
                      obtain ⟨V2, hV2⟩ : ∃ V2, V2 = V1.set i ⟨es2, ps, qs⟩ := ⟨_, rfl⟩
                      rw [← hV2] at F6 F6' hU2
                      have ho : o2 = ⟨[port], [], false⟩ := by
                        have h10 := seen_now (life := lf) (F6.apart hU2) hin2 hlf1
                        simp only at h10
                        rw [ho2]
                        unfold outE
                        rw [HGF.out, h10]
                        simp only
                        rw [if_neg (by rintro (h | h); exact HPO.out (by injection h); exact absurd h.1 (by decide))]
                        simp
                      subst ho
                      clear ho2 hV2
                      obtain ⟨q1, q2, e1⟩ := hQ.len
                      obtain ⟨u1, u2, e2⟩ := hT2.len
                      cases e1
                      cases e2
                      obtain ⟨gq, rfl, hgq, -⟩ := ints_atL hQ
                      simp only [List.length_singleton, List.length_nil] at hQ ⊢
                      have hz6 := F6.since.size
                      have rF := HRF.out.frm F6.since (fun h => (HN4.out _ h).2.1 rfl)
                      have rT := HRT.out.frm F6.since (fun h => (HN4.out _ h).2.2.1 rfl)
                      have rP := HP.out.frm F6.since (fun h => (HN4.out _ h).1 rfl)
                      have HB6 := Lib.hid (HBC.out.trans (F6.since.to_below HBC.out.size (fun k _ h => by have := (HN4.out _ h).2.2.2; omega)))
                      obtain ⟨c0, c1, c2, c3, c4, c5⟩ := And.intro (rF.cell 0) (And.intro (rF.cell 1) (And.intro (rF.cell 2) (And.intro (rF.cell 3) (And.intro (rF.cell 4) (rF.cell 5)))))
                      simp at c0 c1 c2 c3 c4 c5
                      have cl := rF.lt
                      have HRF6 := Lib.hid rF
                      have HP6 := Lib.hid rP
                      have HQ6 := Lib.hid hQ
                      have HAP := Lib.hid (F6.apart hU2)
                      have HI2 := Lib.hid (F6.inv.seg i _ hU2)
                      have hl8'' : i < V2.length := (List.getElem?_eq_some_iff.1 hU2).1
                      have hr1 := F6.inv.r1
                      clear rF rT rP HRF HRT HP hQ hT2 hL2 hU1 HA1 HI1 HIN1 HOLD hl8'
                      go_wp2_with fail
                      obtain ⟨wE, hwE⟩ : ∃ wE, wE = w6.alloc (.cells #[.slice (some ⟨gq, 0, none⟩) 1 qc, .slice ua 0 uc, .bool false] 34) := ⟨_, rfl⟩
                      have fE : Frm (fun _ => False) w6 wE := by rw [hwE]; exact (Frm.refl _ w6).alloc _
                      have rO : Row wE w6.heap.size 34 [.slice (some ⟨gq, 0, none⟩) 1 qc, .slice ua 0 uc, .bool false] := by rw [hwE]; exact Row.new w6 34 [.slice (some ⟨gq, 0, none⟩) 1 qc, .slice ua 0 uc, .bool false]
                      rw [← hwE]
                      have hzE : w6.heap.size < wE.heap.size := rO.lt
                      obtain ⟨O7, hO7, F7⟩ := F6'.anew2 fE
                      have n7 : ∀ k, O7 k → k ≠ w6.heap.size ∧ k ≠ gq ∧ k ≠ bp ∧ k ≠ w.heap.size ∧ w.heap.size ≤ k := fun k hk => by
                        rcases hO7 k hk with h | h
                        · have h4 := HN4.out _ (hO2 _ h.1)
                          exact ⟨by omega, fun e => hq2 _ rfl (e ▸ h.1), h4.1, h4.2.1, h4.2.2.2⟩
                        · omega
                      have HN7 := Lib.hid n7
                      have HRO := Lib.hid rO
                      have HBE := Lib.hid (HB6.out.trans (fE.to_below HB6.out.size (fun _ _ h => h.elim)))
                      have HPE := Lib.hid (HP6.out.frm0 fE)
                      have HQE := Lib.hid (HQ6.out.frm fE (fun _ _ h => h))
                      clear hO7 n7 rO hwE F6 F6' hO2 hq2 HB6 HP6 HQ6 HRF6 c0 c1 c2 c3 c4 c5 cl
                      refine (lframe_ex wE mf mf).mono ?_
                      rintro e wQ ⟨fb, rfl, hlt, M1, M2, f8⟩
                      have hfp := fromport_L (F7.frm f8) port (now + 1) HB1.out hU2 hport hnu (Int.le_refl _) fb mf mf hlt M1 M2 hmf hmf HGF.out
                      clear hlt M1 M2 f8 F7 fE
                      go_wp2_with fail
                      refine hfp.mono ?_
                      clear hfp
                      rintro e w8 ⟨mv3, cd3, es3, ra, rl, rc, va, vl, vc, o3, O3, ho3, rfl, hL3, F8, -, -, -, hQ3, hT3⟩
                      have hin3 := learns_in hL3 HGF.out hr1 (fun e he => (HI2.out.ent e he).1)
                      have hU3 : (V2.set i ⟨es3, ps, qs⟩)[i]? = some ⟨es3, ps, qs⟩ := by rw [List.getElem?_set_self hl8'']
                      have ho : o3 = ⟨[], [], false⟩ := by
                        have h10 := seen_now (life := lf) (F8.apart hU3) hin3 hlf1
                        simp only at h10
                        rw [ho3]
                        unfold outE
                        rw [HGF.out, h10]
                        simp only
                        rw [if_pos (.inl (by trivial))]
                      subst ho
                      clear ho3 hL3 hU3 hin3
                      obtain ⟨q1, q2, e1⟩ := hQ3.len
                      obtain ⟨u1, u2, e2⟩ := hT3.len
                      cases e1
                      cases e2
                      simp only [List.length_nil]
                      have rP := HPE.out.frm F8.since (fun h => (HN7.out _ h).2.2.1 rfl)
                      have rO := HRO.out.frm F8.since (fun h => (HN7.out _ h).1 rfl)
                      have hQ8 := HQE.out.frm F8.since (fun g hg h => by cases hg; exact (HN7.out _ h).2.1 rfl)
                      obtain ⟨gq', hgq1, hgq2, hcq⟩ := ints_atL hQ8
                      cases hgq1
                      have HB8 := Lib.hid (HBE.out.trans (F8.since.to_below HBE.out.size (fun k _ h => by have := (HN7.out _ h).2.2.2.2; omega)))
                      have p0 := rP.cell 0
                      have p1 := rP.cell 1
                      have o0 := rO.cell 0
                      have o1' := rO.cell 1
                      have o2' := rO.cell 2
                      simp at p0 p1 o0 o1' o2'
                      have pl' := rP.lt
                      have ol' := rO.lt
                      have hpe := fun W => place_eql ⟨false, port⟩ ⟨false, port⟩ W
                      rw [decide_eq_true rfl] at hpe
                      have hpg := placeGuard
                      clear rP rO hQ8 hQ3 hT3 F8 HRO HPE HQE HN7 HN4 HAP HI2
                      go_wp2_with fail
                      go_ret
                      exact ⟨rfl, HB8.out.alloc HB8.out.size _⟩
        · have hne : ((s1 : Int) != s2) = true := bne_iff_ne.2 hss
          clear HB1 HB2 hss
          go_wp2_with fail
          go_ret
          exact ⟨rfl, HB.out⟩
end V
end Go.Proofs.Ytmddhglhfgomiaa
