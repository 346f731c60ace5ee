/- law 16: a frame stays in its segment. Conditions: none. -/
import Derived.Test.YtmddhglhfgomiaaArgsC
namespace Go.Proofs.Ytmddhglhfgomiaa
open Go Go.RowKit Go.Maps
namespace V

theorem ints_at {w : World} {a : Option Addr} {n c : Nat} {zs : List Int} (h : IntSl w (.slice a n c) zs) {j : Nat} (hj : j < zs.length) : ∃ g, a = some ⟨g, 0, none⟩ ∧ g < w.heap.size ∧ ∀ j, j < zs.length → w.cell? ⟨g, j, none⟩ = some (.int .i64 (zs.getD j 0)) := by
  rcases h.cases with ⟨_, rfl⟩ | ⟨g, cap, cs, h1, hr, _, _, _, h4⟩
  · simp at hj
  · cases h1
    exact ⟨g, rfl, hr.lt, fun j hj => by have := cells_take hr h4 j hj; rwa [Nat.zero_add] at this⟩
theorem getD_mem {zs : List Int} {j : Nat} (h : j < zs.length) : zs.getD j 0 ∈ zs := by
  rw [List.getD_eq_getElem?_getD, List.getElem?_eq_getElem h]
  exact List.getElem_mem h
theorem getD_lt {zs : List Int} (hr : Rows zs) {j : Nat} (h : j + 1 < zs.length) : zs.getD j 0 < zs.getD (j + 1) 0 := by
  rw [List.getD_eq_getElem?_getD, List.getD_eq_getElem?_getD, List.getElem?_eq_getElem h, List.getElem?_eq_getElem (by omega)]
  exact List.pairwise_iff_getElem.1 hr j (j + 1) (by omega) h (by omega)

set_option maxRecDepth 100000 in
set_option maxHeartbeats 8000000 in
theorem stays_any (w : World) (room life : Int) (la : Option Addr) (n c : Nat) (hl : StepsB w la n) :
    Calls Try.prog 4 #[.int .i64 room, .int .u64 life, .slice la n c] w fun e w' => e = .returned (.bool true) ∧ Below w.heap.size w w' := by
  have HL := Lib.hid hl
  clear hl
  go_enter Try.func4, Try.ntmps4
  go_wp2_with fail
  refine (shown_any w).mono ?_
  rintro e w1 ⟨rfl, hBw⟩
  have hs1 := hBw.size
  have HL1 := Lib.hid (HL.out.frm (Frm.of_below' hBw (fun _ => False)) (fun _ _ h => h))
  clear HL
  go_wp2_with fail
  refine (new_B (fun k => w1.heap.size ≤ k) w1 w1 room life (Frm.refl _ _) (fun _ h => h)).mono ?_
  rintro e w2 ⟨bb, rfl, F0⟩
  obtain ⟨rm, hrm⟩ : ∃ rm, rm = roomOf room := ⟨_, rfl⟩
  rw [← hrm] at F0
  clear hrm
  obtain ⟨V0, hV0⟩ : ∃ V0, V0 = List.replicate 8 (⟨[], [], []⟩ : VSeg) := ⟨_, rfl⟩
  rw [← hV0] at F0
  clear hV0
  have hB : ∀ W t b Vs, BB (fun k => w1.heap.size ≤ k) w1 W bb rm life t b Vs → Below w.heap.size w W := fun W t b Vs F => hBw.trans ((F.since.to_below (Nat.le_refl _) (fun i hi h => by omega)).mono (by omega))
  have HB := Lib.hid hB
  clear hB
  go_wp2_with fail
  go_loopw [9, 10] (fun tn ti wr => ∃ (j : Nat) (now : Int) (bound : Bd) (Vs : List VSeg), j ≤ 200 ∧ ti = .int .i64 (j : Int) ∧ tn = .int .u64 now ∧ 0 ≤ now ∧ now ≤ 255 * j ∧ BB (fun k => w1.heap.size ≤ k) w1 wr bb rm life now bound Vs)
    (fun _ ti _ => 200 - (intOf ti).toNat)
  case atStart => exact ⟨0, 0, _, _, by omega, rfl, rfl, by omega, by omega, F0⟩
  case round =>
    clear F0
    obtain ⟨j, now, bound, Vs, hj, rfl, rfl, hn0, hn1, F⟩ := hrel
    by_cases hjn : (j : Int) < (n : Int)
    · by_cases hj3 : (j : Int) < 200
      · obtain ⟨g, o, rfl, hgl, x, hx, hc⟩ := HL1.out j (by omega)
        obtain ⟨k, xn, xs, a, ln, xc, y, mt, mo⟩ := x
        have hW : Below w1.heap.size w1 wr := F.since.to_below (Nat.le_refl _) (fun i hi h => by omega)
        have hc' : ∀ i u, (st16Cells ⟨k, xn, xs, a, ln, xc, y, mt, mo⟩)[i]? = some u → wr.cell? ⟨g, o + j * 5 + i, none⟩ = some u := fun i u hi => (hW.cell (p := ⟨g, o + j * 5 + i, none⟩) hgl).trans (hc i u hi)
        have s0 := hc' 0 _ rfl
        have s1 := hc' 1 _ rfl
        have s2 := hc' 2 _ rfl
        have s3 := hc' 3 _ rfl
        have s4 := hc' 4 _ rfl
        rw [Nat.add_zero] at s0
        have sl : g < wr.heap.size := Nat.lt_of_lt_of_le hgl hW.size
        have hy := hx.by_
        simp only at hy
        obtain ⟨hy0, hy1⟩ := hy
        have hwy : IntKind.u64.wrap y = y := by rw [IntKind.wrap_u64]; omega
        obtain ⟨wS, hwS⟩ : ∃ wS, wS = wr.alloc (.cells (st16Cells ⟨k, xn, xs, a, ln, xc, y, mt, mo⟩).toArray 31) := ⟨_, rfl⟩
        have fS : Frm (fun _ => False) wr wS := by rw [hwS]; exact (Frm.refl _ wr).alloc _
        have rS : Row wS wr.heap.size 31 (st16Cells ⟨k, xn, xs, a, ln, xc, y, mt, mo⟩) := by rw [hwS]; exact Row.new wr 31 (st16Cells ⟨k, xn, xs, a, ln, xc, y, mt, mo⟩)
        have hzS : wr.heap.size < wS.heap.size := rS.lt
        obtain ⟨O', hO', FS⟩ := F.anew2 fS
        have hOO : ∀ k, O' k → w1.heap.size ≤ k := fun k hk => by
          have := F.since.size
          rcases hO' k hk with h | h
          · exact h.1
          · omega
        have hxS : (⟨k, xn, xs, a, ln, xc, y, mt, mo⟩ : St16).ok wS := ⟨hx.kind, hx.n, hx.s, hx.by_, hx.fr.frm (Frm.of_below' (hW.trans ((fS.to_below (Nat.le_refl _) (fun _ _ h => h.elim)).mono hW.size)) (fun _ => False)) (fun _ _ h => h)⟩
        have hnu : u64ok (now + y) := by unfold u64ok; omega
        have hdo := does16_any FS ⟨k, xn, xs, a, ln, xc, y, mt, mo⟩ hxS (now + y) hnu (by omega)
        have hback : ∀ W t b Vs, BB O' wS W bb rm life t b Vs → BB (fun k => w1.heap.size ≤ k) w1 W bb rm life t b Vs := fun W t b Vs h => h.wide (F.since.trans fS (fun _ h _ => h.elim)) (fun _ h => h) hOO
        have hrow : ∀ W t b Vs, BB O' wS W bb rm life t b Vs → Row W wr.heap.size 31 (st16Cells ⟨k, xn, xs, a, ln, xc, y, mt, mo⟩) := fun W t b Vs h => rS.frm h.since (fun h => by have := hO' _ h; omega)
        have hfr : ∀ W t b Vs, BB O' wS W bb rm life t b Vs → 14 ≤ ln → ∃ fb fo, a = some ⟨fb, fo, none⟩ ∧ fb < W.heap.size ∧ W.cell? ⟨fb, fo, none⟩ = some (.int .u8 mt.a) := fun W t b Vs h h14 => by
          obtain ⟨fb, fo, e, hlt, m1, _⟩ := hx.fr.macs h14
          have hW2 := (hback W t b Vs h).since.to_below (Nat.le_refl _) (fun i hi h => by omega)
          exact ⟨fb, fo, e, Nat.lt_of_lt_of_le hlt hW2.size, (hW2.cell (p := ⟨fb, fo, none⟩) hlt).trans m1.c0⟩
        have HBK := Lib.hid hback
        have HRW := Lib.hid hrow
        have HFR := Lib.hid hfr
        have hma : u8ok mt.a := hx.fr.tok.a
        clear hc hc' hW hx hxS hback hrow hfr hO' hOO FS fS rS F
        subst hwS
        go_wp2_with fail
        refine hdo.mono ?_
        clear hdo
        rintro e w5 (⟨bound', Vs', rfl, F5⟩ | ⟨i, es, ps, qs, moved, cd, es', pa, ta, pl, pc, tl, tc, om, h8, hk4, hk9, h14, ho, rfl, hU, hp1, hp2, -, F5, hP, hT⟩)
        · have H5 := Lib.hid ((HBK.out _ _ _ _ F5).alloc outO)
          clear F5 s0 s1 s2 s3 s4 sl
          go_wp2_with fail
          go_roundw
          case rel => exact ⟨j + 1, now + y, bound', Vs', by omega, by go_num, rfl, by omega, by omega, H5.out⟩
          case measure => simp [intOf]; omega
        · have hUi : (Vs.set i ⟨es', ps, qs⟩)[i]? = some ⟨es', ps, qs⟩ := by rw [List.getElem?_set_self (List.getElem?_eq_some_iff.1 hU).1]
          have S5 := F5.inv.seg i _ hUi
          have hof := out_facts (now := now + y) (life := life) S5 ⟨decide (8 ≤ k), xn⟩ mt
          rw [← ho] at hof
          obtain ⟨hr1, hr2, hm1, hm2, hfl, -, -⟩ := hof
          have hbt : ∀ z ∈ om.ports, boundTo bound z = some (i : Int) := fun z hz => F5.inv.bnd.2 ((S5.ports z).1 (hm1 z hz).1)
          have hne : k ≤ 7 → ∀ z ∈ om.ports, z ≠ xn := fun hk z hz => (hm1 z hz).2 (decide_eq_false (by omega))
          have hi64 : ∀ z ∈ om.ports, i64ok z := fun z hz => by
            obtain ⟨bm, segs, _, B, _⟩ := F5.rep
            exact B.keys _ ((S5.ports z).1 (hm1 z hz).1)
          have hq8 : ∀ z ∈ om.tunnels, z ∈ qs ∧ k < 8 := fun z hz => ⟨(hm2 z hz).1, by have := of_decide_eq_false (hm2 z hz).2; omega⟩
          have hpl : om.ports.length ≤ 16 := by
            have h1 := nodup_le hr1.nodup (fun z hz => (hm1 z hz).1)
            have h2 := S5.plen
            have h3 := F5.inv.b16
            simp only at h2
            omega
          have hql : om.tunnels.length ≤ 8 := by
            have h1 := nodup_le hr2.nodup (fun z hz => (hm2 z hz).1)
            have h2 := S5.q8
            simp only at h2
            omega
          have hqs8 : qs.length ≤ 8 := S5.q8
          have rS5 := HRW.out _ _ _ _ F5
          have F5' := HBK.out _ _ _ _ F5
          obtain ⟨ps', ts, fl⟩ := om
          simp only at hr1 hr2 hbt hne hi64 hq8 hpl hql hP hT hfl ⊢
          have HBT := Lib.hid hbt
          have HNE := Lib.hid hne
          have HI := Lib.hid hi64
          have HQ8 := Lib.hid hq8
          have HFL := Lib.hid hfl
          have HR1 := Lib.hid hr1
          have HR2 := Lib.hid hr2
          have HUI := Lib.hid hUi
          obtain ⟨a1, c1, e1⟩ := hP.len
          obtain ⟨a2, c2, e2⟩ := hT.len
          cases e1
          cases e2
          clear hbt hne hi64 hq8 hfl hr1 hr2 hm1 hm2 ho S5 hU hp1 hp2 hUi HBK HRW HFR F5 s0 s1 s2 s3 s4 sl hma
          go_wp2_with fail
          obtain ⟨w6, hw6⟩ : ∃ w6, w6 = w5.alloc (.cells #[.slice pa ps'.length pc, .slice ta ts.length tc, .bool fl] 34) := ⟨_, rfl⟩
          have f6 : Frm (fun _ => False) w5 w6 := by rw [hw6]; exact (Frm.refl _ w5).alloc _
          have rO : Row w6 w5.heap.size 34 [.slice pa ps'.length pc, .slice ta ts.length tc, .bool fl] := by rw [hw6]; exact Row.new w5 34 [.slice pa ps'.length pc, .slice ta ts.length tc, .bool fl]
          rw [← hw6]
          have HF6 := Lib.hid (F5'.frm f6)
          have HRO := Lib.hid rO
          have HRS := Lib.hid (rS5.frm0 f6)
          have HP6 := Lib.hid (hP.frm f6 (fun _ _ h => h))
          have HT6 := Lib.hid (hT.frm f6 (fun _ _ h => h))
          obtain ⟨xo, hxo⟩ : ∃ xo, xo = w5.heap.size := ⟨_, rfl⟩
          rw [← hxo] at HRO ⊢
          obtain ⟨xb, hxb⟩ : ∃ xb, xb = wr.heap.size := ⟨_, rfl⟩
          rw [← hxb] at HRS ⊢
          clear F5' rS5 rO f6 hP hT hw6 hxo hxb
          go_loopw [14] (fun tk wk => ∃ kk : Nat, kk ≤ ps'.length ∧ tk = .int .i64 (kk : Int) ∧ Frm (fun _ => False) w6 wk) (fun tk _ => ps'.length - (intOf tk).toNat)
          case atStart => exact ⟨0, by omega, rfl, Frm.refl _ _⟩
          case round =>
            obtain ⟨kk, hkk, rfl, fk⟩ := hrel
            have rO := HRO.out.frm0 fk
            have o0 := rO.cell 0
            have o1 := rO.cell 1
            have o2 := rO.cell 2
            simp at o0 o1 o2
            have ol := rO.lt
            clear rO
            by_cases hlt : (kk : Int) < (ps'.length : Int)
            · obtain ⟨gp, rfl, hgp, hcp⟩ := ints_at (HP6.out.frm fk (fun _ _ h => h)) (j := kk) (by omega)
              have q0 := hcp kk (by omega)
              have hz := getD_mem (zs := ps') (j := kk) (by omega)
              have hseg := Seg_V (HF6.out.frm fk) (ps'.getD kk 0) (HI.out _ hz)
              rw [HBT.out _ hz] at hseg
              simp only [Option.getD_some, Option.isSome_some] at hseg
              have rS := HRS.out.frm0 fk
              have t0 := rS.cell 0
              have t1 := rS.cell 1
              simp at t0 t1
              have tl := rS.lt
              clear rS
              have hnz := fun hk => HNE.out hk _ hz
              obtain ⟨z, hzz⟩ : ∃ z, z = ps'.getD kk 0 := ⟨_, rfl⟩
              rw [← hzz] at q0 hseg hnz
              have hmeas : ps'.length - (intOf (.int .i64 ((kk : Int) + 1))).toNat < ps'.length - (intOf (.int .i64 (kk : Int))).toNat := by simp [intOf]; omega
              have HMS := Lib.hid hmeas
              by_cases h0 : kk = 0
              · have hn0 : decide ((0 : Int) < (kk : Int)) = false := decide_eq_false (by omega)
                have hn1 : decide (0 < kk) = false := decide_eq_false (by omega)
                clear hcp hz hzz hmeas h0
                go_wp2_with fail
                refine hseg.mono ?_
                rintro e wq ⟨rfl, rfl⟩
                by_cases hk7 : k ≤ 7
                · have hnz' : ((z : Int) == xn) = false := beq_eq_false_iff_ne.2 (hnz hk7)
                  clear hnz hseg
                  go_wp2_with fail
                  go_big_quiet (fail)
                  go_wp2_with fail
                  go_roundw
                  case rel => exact ⟨kk + 1, by omega, by go_num, fk.drewN _⟩
                  case measure => exact HMS.out
                · have hk8 : decide (k ≤ 7) = false := decide_eq_false hk7
                  clear hnz hseg
                  go_wp2_with fail
                  go_big_quiet (fail)
                  go_wp2_with fail
                  go_roundw
                  case rel => exact ⟨kk + 1, by omega, by go_num, fk.drewN _⟩
                  case measure => exact HMS.out
              · obtain ⟨m, hm⟩ : ∃ m, kk = m + 1 := ⟨kk - 1, by omega⟩
                have hgt : (0 : Int) < (kk : Int) := by omega
                have hgt1 : 0 < kk := by omega
                have hw1 : IntKind.i64.wrap ((kk : Int) - 1) = (m : Int) := by rw [IntKind.wrap_i64]; omega
                have q1 := hcp m (by omega)
                have hml : (m : Int) < (ps'.length : Int) := by omega
                have hzl : ps'.getD m 0 < z := by rw [hzz, hm]; exact getD_lt HR1.out (by omega)
                have hzl2 : decide (z ≤ ps'.getD m 0) = false := decide_eq_false (by omega)
                obtain ⟨z1, hz1⟩ : ∃ z, z = ps'.getD m 0 := ⟨_, rfl⟩
                rw [← hz1] at q1 hzl hzl2
                have HM := Lib.hid hm
                clear hcp hz hzz hmeas h0 hm hz1
                go_wp2_with fail
                refine hseg.mono ?_
                rintro e wq ⟨rfl, rfl⟩
                by_cases hk7 : k ≤ 7
                · have hnz' : ((z : Int) == xn) = false := beq_eq_false_iff_ne.2 (hnz hk7)
                  clear hnz hseg
                  go_wp2_with fail
                  go_big_quiet (fail)
                  go_wp2_with fail
                  go_roundw
                  case rel => exact ⟨kk + 1, by omega, by go_num, fk.drewN _⟩
                  case measure => exact HMS.out
                · have hk8 : decide (k ≤ 7) = false := decide_eq_false hk7
                  clear hnz hseg
                  go_wp2_with fail
                  go_big_quiet (fail)
                  go_wp2_with fail
                  go_roundw
                  case rel => exact ⟨kk + 1, by omega, by go_num, fk.drewN _⟩
                  case measure => exact HMS.out
            · obtain rfl : kk = ps'.length := by omega
              clear hkk
              have hpe := peers_V (HF6.out.frm fk) i _ HUI.out
              go_wp2_with fail
              refine hpe.mono ?_
              clear hpe
              rintro e w7 ⟨v7, rfl, hv7, hb7⟩
              obtain ⟨a7, c7, rfl⟩ := hv7.len
              have f7 := fk.trans0 (Frm.of_below' hb7 (fun _ => False))
              have HF7 := Lib.hid (HF6.out.frm f7)
              have HRO7 := Lib.hid (HRO.out.frm0 f7)
              have HRS7 := Lib.hid (HRS.out.frm0 f7)
              have HT7 := Lib.hid (HT6.out.frm f7 (fun _ _ h => h))
              have HV7 := Lib.hid hv7
              clear hv7 hb7 f7 fk o0 o1 o2 ol HF6 HRO HRS HP6 HT6 hlt
              go_wp2_with fail
              go_loopw [18] (fun tk wk => ∃ kk : Nat, kk ≤ ts.length ∧ tk = .int .i64 (kk : Int) ∧ Frm (fun _ => False) w7 wk) (fun tk _ => ts.length - (intOf tk).toNat)
              case atStart => exact ⟨0, by omega, rfl, Frm.refl _ _⟩
              case round =>
                obtain ⟨kk, hkk, rfl, fk⟩ := hrel
                have rO := HRO7.out.frm0 fk
                have o0 := rO.cell 0
                have o1 := rO.cell 1
                have o2 := rO.cell 2
                simp at o0 o1 o2
                have ol := rO.lt
                clear rO
                by_cases hlt : (kk : Int) < (ts.length : Int)
                · have hz := getD_mem (zs := ts) (j := kk) (by omega)
                  obtain ⟨hzq, hk8⟩ := HQ8.out _ hz
                  have hmeas : ts.length - (intOf (.int .i64 ((kk : Int) + 1))).toNat < ts.length - (intOf (.int .i64 (kk : Int))).toNat := by simp [intOf]; omega
                  have HMS := Lib.hid hmeas
                  have HFK := Lib.hid fk
                  clear hmeas fk
                  go_wp2_with fail
                  clear o0 o1 o2 ol
                  go_loopw [19, 20] (fun tb tj wj => ∃ (jj : Nat) (b : Bool), jj ≤ qs.length ∧ tj = .int .i64 (jj : Int) ∧ tb = .bool b ∧ (b = true ↔ ts.getD kk 0 ∈ qs.take jj) ∧ Frm (fun _ => False) w7 wj) (fun _ tj _ => qs.length - (intOf tj).toNat)
                  case atStart => exact ⟨0, false, by omega, rfl, rfl, by simp, HFK.out⟩
                  case round =>
                    obtain ⟨jj, b, hjj, rfl, rfl, hb, fj⟩ := hrel
                    have rO := HRO7.out.frm0 fj
                    have o0 := rO.cell 0
                    have o1 := rO.cell 1
                    have o2 := rO.cell 2
                    simp at o0 o1 o2
                    have ol := rO.lt
                    clear rO
                    obtain ⟨gt, rfl, hgt, hct⟩ := ints_at (HT7.out.frm fj (fun _ _ h => h)) (j := kk) (by omega)
                    have q0 := hct kk (by omega)
                    by_cases hjl : (jj : Int) < (qs.length : Int)
                    · obtain ⟨gq, rfl, hgq, hcq⟩ := ints_at (HV7.out.frm fj (fun _ _ h => h)) (j := jj) (by omega)
                      have p0 := hcq jj (by omega)
                      have hmeas : qs.length - (intOf (.int .i64 ((jj : Int) + 1))).toNat < qs.length - (intOf (.int .i64 (jj : Int))).toNat := by simp [intOf]; omega
                      have HMJ := Lib.hid hmeas
                      have htk : ts.getD kk 0 ∈ qs.take (jj + 1) ↔ ts.getD kk 0 ∈ qs.take jj ∨ qs.getD jj 0 = ts.getD kk 0 := by
                        rw [List.take_succ_eq_append_getElem (by omega), List.mem_append, List.mem_singleton, List.getD_eq_getElem?_getD (l := qs), List.getElem?_eq_getElem (by omega : jj < qs.length), Option.getD_some]
                        exact ⟨fun h => h.imp id Eq.symm, fun h => h.imp id Eq.symm⟩
                      obtain ⟨z, hzz⟩ : ∃ z, z = ts.getD kk 0 := ⟨_, rfl⟩
                      obtain ⟨zq, hzzq⟩ : ∃ z, z = qs.getD jj 0 := ⟨_, rfl⟩
                      rw [← hzz] at q0 htk hb
                      rw [← hzzq] at p0 htk
                      have HTK := Lib.hid htk
                      have HBB := Lib.hid hb
                      have HZ := Lib.hid hzz
                      clear hct hcq hmeas htk hb hzz hzzq hz hzq
                      cases b with
                      | true =>
                        go_wp2_with fail
                        go_big_quiet (fail)
                        go_wp2_with fail
                        go_roundw
                        case rel => exact ⟨jj + 1, true, by omega, by go_num, rfl, by rw [← HZ.out]; have h2 : z ∈ qs.take jj := (by simpa using HBB.out); exact ⟨fun _ => HTK.out.2 (.inl h2), fun _ => rfl⟩, fj.drewN _⟩
                        case measure => exact HMJ.out
                      | false =>
                        by_cases he : zq = z
                        · subst he
                          go_wp2_with fail
                          go_big_quiet (fail)
                          go_wp2_with fail
                          go_roundw
                          case rel => exact ⟨jj + 1, true, by omega, by go_num, rfl, by rw [← HZ.out]; have h3 := HTK.out; simp at h3; exact ⟨fun _ => h3, fun _ => rfl⟩, fj.drewN _⟩
                          case measure => exact HMJ.out
                        · have hbe : ((zq : Int) == z) = false := beq_eq_false_iff_ne.2 he
                          have HE := Lib.hid he
                          clear he
                          go_wp2_with fail
                          go_big_quiet (fail)
                          go_wp2_with fail
                          go_roundw
                          case rel => exact ⟨jj + 1, false, by omega, by go_num, rfl, by rw [← HZ.out]; have h2 : ¬ z ∈ qs.take jj := (by simpa using HBB.out); exact ⟨fun h => Bool.noConfusion h, fun h => (HTK.out.1 h).elim (fun h => absurd h h2) (fun h => absurd h HE.out)⟩, fj.drewN _⟩
                          case measure => exact HMJ.out
                    · obtain rfl : jj = qs.length := by omega
                      obtain rfl : b = true := by rw [hb, List.take_length]; exact hzq
                      have rS := HRS7.out.frm0 fj
                      have t0 := rS.cell 0
                      simp at t0
                      have tl := rS.lt
                      clear rS hb hjj hzq hz
                      have hk9 : decide (8 ≤ k) = false := decide_eq_false (by omega)
                      obtain ⟨z, hzz⟩ : ∃ z, z = ts.getD kk 0 := ⟨_, rfl⟩
                      rw [← hzz] at q0
                      by_cases h0 : kk = 0
                      · have hn0 : decide ((0 : Int) < (kk : Int)) = false := decide_eq_false (by omega)
                        have hn1 : decide (0 < kk) = false := decide_eq_false (by omega)
                        clear hct hzz h0
                        go_wp2_with fail
                        go_big_quiet (fail)
                        go_wp2_with fail
                        go_roundw
                        case rel => exact ⟨kk + 1, by omega, by go_num, fj.drewN _⟩
                        case measure => exact HMS.out
                      · obtain ⟨m, hm⟩ : ∃ m, kk = m + 1 := ⟨kk - 1, by omega⟩
                        have hgt0 : (0 : Int) < (kk : Int) := by omega
                        have hgt1 : 0 < kk := by omega
                        have hw1 : IntKind.i64.wrap ((kk : Int) - 1) = (m : Int) := by rw [IntKind.wrap_i64]; omega
                        have q1 := hct m (by omega)
                        have hml : (m : Int) < (ts.length : Int) := by omega
                        have hzl : ts.getD m 0 < z := by rw [hzz, hm]; exact getD_lt HR2.out (by omega)
                        have hzl2 : decide (z ≤ ts.getD m 0) = false := decide_eq_false (by omega)
                        obtain ⟨z1, hz1⟩ : ∃ z, z = ts.getD m 0 := ⟨_, rfl⟩
                        rw [← hz1] at q1 hzl hzl2
                        have HM := Lib.hid hm
                        clear hct hzz h0 hm hz1
                        go_wp2_with fail
                        go_big_quiet (fail)
                        go_wp2_with fail
                        go_roundw
                        case rel => exact ⟨kk + 1, by omega, by go_num, fj.drewN _⟩
                        case measure => exact HMS.out
                · obtain rfl : kk = ts.length := by omega
                  clear hkk hlt
                  have HF8 := Lib.hid (HF7.out.frm fk)
                  have hfl := HFL.out
                  clear fk HF7 HRO7 HRS7 HT7 HV7 HQ8
                  cases fl with
                  | true =>
                    go_wp2_with fail
                    go_roundw
                    case rel => exact ⟨j + 1, now + y, bound, _, by omega, by go_num, rfl, by omega, by omega, HF8.out⟩
                    case measure => simp [intOf]; omega
                  | false =>
                    have h1 := hfl rfl
                    have h2 : decide (1 < (ps'.length : Int) + (ts.length : Int)) = false := decide_eq_false (by omega)
                    have h3 : decide (1 < ps'.length + ts.length) = false := decide_eq_false (by omega)
                    have h4 : IntKind.i64.wrap ((ps'.length : Int) + (ts.length : Int)) = (ps'.length : Int) + (ts.length : Int) := by rw [IntKind.wrap_i64]; omega
                    go_wp2_with fail
                    go_roundw
                    case rel => exact ⟨j + 1, now + y, bound, _, by omega, by go_num, rfl, by omega, by omega, HF8.out⟩
                    case measure => simp [intOf]; omega
      · go_wp2_with fail
        go_ret
        exact ⟨rfl, HB.out _ _ _ _ F⟩
    · go_wp2_with fail
      go_ret
      exact ⟨rfl, HB.out _ _ _ _ F⟩
end V
end Go.Proofs.Ytmddhglhfgomiaa
