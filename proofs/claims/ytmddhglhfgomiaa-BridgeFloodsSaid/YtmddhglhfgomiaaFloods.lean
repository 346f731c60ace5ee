/- law 16: what floods goes to all. Conditions: none. -/
import Derived.Test.YtmddhglhfgomiaaArgsC
namespace Go.Proofs.Ytmddhglhfgomiaa
open Go Go.RowKit Go.Maps
namespace V

/-- What goes: how many. -/
theorem flood_counts {room t now life : Int} {bound : Bd} {i : Nat} {es : List Ent} {ps qs : List Int} (S : SInv room t bound i ⟨es, ps, qs⟩) {k n : Int} (mt : Mac) (h1 : k ≤ 7 → n ∈ ps) {o : OutM} (ho : o = outE life now ⟨decide (8 ≤ k), n⟩ mt es ps qs) (hf : o.flood = true) :
    (o.ports.length : Int) = (if k ≤ 7 then (ps.length : Int) - 1 else ps.length) ∧ (o.tunnels.length : Int) = (if k ≤ 7 then (qs.length : Int) else 0) := by
  obtain ⟨_, _, _, _, _, h6, _⟩ := out_facts (now := now) (life := life) S ⟨decide (8 ≤ k), n⟩ mt
  rw [← ho] at h6
  obtain ⟨e1, e2⟩ := h6 hf
  rw [e1, e2]
  by_cases hk : k ≤ 7
  · rw [decide_eq_false (by omega : ¬ 8 ≤ k), if_pos hk, if_pos hk]
    have := strike_len S.pr.nodup (h1 hk)
    simp only at this ⊢
    exact ⟨by simp; omega, by simp⟩
  · rw [decide_eq_true (by omega : 8 ≤ k), if_neg hk, if_neg hk]
    simp

set_option maxRecDepth 100000 in
set_option maxHeartbeats 8000000 in
theorem floods_any (w : World) (room life : Int) (la : Option Addr) (n c : Nat) (hl : StepsB w la n) :
    Calls Try.prog 5 #[.int .i64 room, .int .u64 life, .slice la n c] w fun e w' => e = .returned (.bool true) ∧ Below w.heap.size w w' := by
  have HL := Lib.hid hl
  clear hl
  go_enter Try.func5, Try.ntmps5
  go_wp2_with fail
  refine (shown_any w).mono ?_
  rintro e w1 ⟨rfl, hBw⟩
  have hs1 := hBw.size
  have HL1 := Lib.hid (HL.out.frm (Frm.of_below' hBw (fun _ => False)) (fun _ _ h => h))
  clear HL
  go_wp2_with fail
  refine (new_B (fun k => w1.heap.size ≤ k) w1 w1 room life (Frm.refl _ _) (fun _ h => h)).mono ?_
  rintro e w2 ⟨bb, rfl, F0⟩
  obtain ⟨rm, hrm⟩ : ∃ rm, rm = roomOf room := ⟨_, rfl⟩
  rw [← hrm] at F0
  clear hrm
  obtain ⟨V0, hV0⟩ : ∃ V0, V0 = List.replicate 8 (⟨[], [], []⟩ : VSeg) := ⟨_, rfl⟩
  rw [← hV0] at F0
  clear hV0
  have hB : ∀ W t b Vs, BB (fun k => w1.heap.size ≤ k) w1 W bb rm life t b Vs → Below w.heap.size w W := fun W t b Vs F => hBw.trans ((F.since.to_below (Nat.le_refl _) (fun i hi h => by omega)).mono (by omega))
  have HB := Lib.hid hB
  clear hB
  go_wp2_with fail
  go_loopw [9, 10] (fun tn ti wr => ∃ (j : Nat) (now : Int) (bound : Bd) (Vs : List VSeg), j ≤ 200 ∧ ti = .int .i64 (j : Int) ∧ tn = .int .u64 now ∧ 0 ≤ now ∧ now ≤ 255 * j ∧ BB (fun k => w1.heap.size ≤ k) w1 wr bb rm life now bound Vs)
    (fun _ ti _ => 200 - (intOf ti).toNat)
  case atStart => exact ⟨0, 0, _, _, by omega, rfl, rfl, by omega, by omega, F0⟩
  case round =>
    clear F0
    obtain ⟨j, now, bound, Vs, hj, rfl, rfl, hn0, hn1, F⟩ := hrel
    by_cases hjn : (j : Int) < (n : Int)
    · by_cases hj3 : (j : Int) < 200
      · obtain ⟨g, o, rfl, hgl, x, hx, hc⟩ := HL1.out j (by omega)
        obtain ⟨k, xn, xs, a, ln, xc, y, mt, mo⟩ := x
        have hW : Below w1.heap.size w1 wr := F.since.to_below (Nat.le_refl _) (fun i hi h => by omega)
        have hc' : ∀ i u, (st16Cells ⟨k, xn, xs, a, ln, xc, y, mt, mo⟩)[i]? = some u → wr.cell? ⟨g, o + j * 5 + i, none⟩ = some u := fun i u hi => (hW.cell (p := ⟨g, o + j * 5 + i, none⟩) hgl).trans (hc i u hi)
        have s0 := hc' 0 _ rfl
        have s1 := hc' 1 _ rfl
        have s2 := hc' 2 _ rfl
        have s3 := hc' 3 _ rfl
        have s4 := hc' 4 _ rfl
        rw [Nat.add_zero] at s0
        have sl : g < wr.heap.size := Nat.lt_of_lt_of_le hgl hW.size
        have hy := hx.by_
        simp only at hy
        obtain ⟨hy0, hy1⟩ := hy
        have hwy : IntKind.u64.wrap y = y := by rw [IntKind.wrap_u64]; omega
        obtain ⟨wS, hwS⟩ : ∃ wS, wS = wr.alloc (.cells (st16Cells ⟨k, xn, xs, a, ln, xc, y, mt, mo⟩).toArray 31) := ⟨_, rfl⟩
        have fS : Frm (fun _ => False) wr wS := by rw [hwS]; exact (Frm.refl _ wr).alloc _
        have rS : Row wS wr.heap.size 31 (st16Cells ⟨k, xn, xs, a, ln, xc, y, mt, mo⟩) := by rw [hwS]; exact Row.new wr 31 (st16Cells ⟨k, xn, xs, a, ln, xc, y, mt, mo⟩)
        have hzS : wr.heap.size < wS.heap.size := rS.lt
        obtain ⟨O', hO', FS⟩ := F.anew2 fS
        have hOO : ∀ k, O' k → w1.heap.size ≤ k := fun k hk => by
          have := F.since.size
          rcases hO' k hk with h | h
          · exact h.1
          · omega
        have hxS : (⟨k, xn, xs, a, ln, xc, y, mt, mo⟩ : St16).ok wS := ⟨hx.kind, hx.n, hx.s, hx.by_, hx.fr.frm (Frm.of_below' (hW.trans ((fS.to_below (Nat.le_refl _) (fun _ _ h => h.elim)).mono hW.size)) (fun _ => False)) (fun _ _ h => h)⟩
        have hnu : u64ok (now + y) := by unfold u64ok; omega
        have hdo := does16_any FS ⟨k, xn, xs, a, ln, xc, y, mt, mo⟩ hxS (now + y) hnu (by omega)
        have hback : ∀ W t b Vs, BB O' wS W bb rm life t b Vs → BB (fun k => w1.heap.size ≤ k) w1 W bb rm life t b Vs := fun W t b Vs h => h.wide (F.since.trans fS (fun _ h _ => h.elim)) (fun _ h => h) hOO
        have hrow : ∀ W t b Vs, BB O' wS W bb rm life t b Vs → Row W wr.heap.size 31 (st16Cells ⟨k, xn, xs, a, ln, xc, y, mt, mo⟩) := fun W t b Vs h => rS.frm h.since (fun h => by have := hO' _ h; omega)
        have hfr : ∀ W t b Vs, BB O' wS W bb rm life t b Vs → 14 ≤ ln → ∃ fb fo, a = some ⟨fb, fo, none⟩ ∧ fb < W.heap.size ∧ W.cell? ⟨fb, fo, none⟩ = some (.int .u8 mt.a) := fun W t b Vs h h14 => by
          obtain ⟨fb, fo, e, hlt, m1, _⟩ := hx.fr.macs h14
          have hW2 := (hback W t b Vs h).since.to_below (Nat.le_refl _) (fun i hi h => by omega)
          exact ⟨fb, fo, e, Nat.lt_of_lt_of_le hlt hW2.size, (hW2.cell (p := ⟨fb, fo, none⟩) hlt).trans m1.c0⟩
        have HBK := Lib.hid hback
        have HRW := Lib.hid hrow
        have HFR := Lib.hid hfr
        have hma : u8ok mt.a := hx.fr.tok.a
        clear hc hc' hW hx hxS hback hrow hfr hO' hOO FS fS rS F
        subst hwS
        go_wp2_with fail
        refine hdo.mono ?_
        clear hdo
        rintro e w5 (⟨bound', Vs', rfl, F5⟩ | ⟨i, es, ps, qs, moved, cd, es', pa, ta, pl, pc, tl, tc, om, h8, hk4, hk9, h14, ho, rfl, hU, hp1, hp2, -, F5, hP, hT⟩)
        · have H5 := Lib.hid ((HBK.out _ _ _ _ F5).alloc outO)
          clear F5 s0 s1 s2 s3 s4 sl
          go_wp2_with fail
          go_roundw
          case rel => exact ⟨j + 1, now + y, bound', Vs', by omega, by go_num, rfl, by omega, by omega, H5.out⟩
          case measure => simp [intOf]; omega
        · have hUi : (Vs.set i ⟨es', ps, qs⟩)[i]? = some ⟨es', ps, qs⟩ := by rw [List.getElem?_set_self (List.getElem?_eq_some_iff.1 hU).1]
          have S5 := F5.inv.seg i _ hUi
          have hfc := fun h => flood_counts (now := now + y) (life := life) S5 mt hp1 ho h
          have hgf : groupB mt = true → om.flood = true := by rw [ho]; exact (out_facts (now := now + y) (life := life) S5 ⟨decide (8 ≤ k), xn⟩ mt).2.2.2.2.2.2
          have hpl := S5.plen
          have hb16 := F5.inv.b16
          simp only at hpl hk4 hk9 h14
          obtain ⟨a1, c1, e1⟩ := hP.len
          obtain ⟨a2, c2, e2⟩ := hT.len
          cases e1
          cases e2
          obtain ⟨fb, fo, rfl, hfl, hf0⟩ := HFR.out _ _ _ _ F5 h14
          have rS := HRW.out _ _ _ _ F5
          obtain ⟨w6, hw6⟩ : ∃ w6, w6 = w5.alloc (.cells #[.slice pa om.ports.length pc, .slice ta om.tunnels.length tc, .bool om.flood] 34) := ⟨_, rfl⟩
          have f6 : Frm (fun _ => False) w5 w6 := by rw [hw6]; exact (Frm.refl _ w5).alloc _
          have rO : Row w6 w5.heap.size 34 [.slice pa om.ports.length pc, .slice ta om.tunnels.length tc, .bool om.flood] := by rw [hw6]; exact Row.new w5 34 [.slice pa om.ports.length pc, .slice ta om.tunnels.length tc, .bool om.flood]
          have rS6 := rS.frm0 f6
          have F6 := (HBK.out _ _ _ _ F5).frm f6
          have hf6 : w6.cell? ⟨fb, fo, none⟩ = some (.int .u8 mt.a) := by
            have h9 := f6.keep fb hfl (fun h => h)
            have h8 : w6.cell? ⟨fb, fo, none⟩ = w5.cell? ⟨fb, fo, none⟩ := by unfold World.cell?; rw [h9]
            rw [h8]
            exact hf0
          have hfl6 : fb < w6.heap.size := Nat.lt_of_lt_of_le hfl f6.size
          have hpo := ports_V F6 i _ hUi
          obtain ⟨gb, hgb⟩ : ∃ gb, gb = groupB mt := ⟨_, rfl⟩
          have hand : (bits BinOp.and IntKind.u8 mt.a 1 == 1) = gb := by rw [and1_u8 _ hma, hgb]; rfl
          rw [← hgb] at hgf
          obtain ⟨ha0, ha1⟩ := hma
          have HF6 := Lib.hid F6
          have HRO := Lib.hid rO
          have HRS := Lib.hid rS6
          have HFC := Lib.hid hfc
          have HGF := Lib.hid hgf
          have HUI := Lib.hid hUi
          obtain ⟨t0, t1, t2, t3, t4⟩ := And.intro (rS6.cell 0) (And.intro (rS6.cell 1) (And.intro (rS6.cell 2) (And.intro (rS6.cell 3) (rS6.cell 4))))
          simp at t0 t1 t2 t3 t4
          have tl := rS6.lt
          clear s0 s1 s2 s3 s4 sl HBK HRW HFR S5 ho hP hT F5 F6 rS rS6 rO f6 hU hp1 hp2 hgb hf0 hfl hfc hgf hUi
          subst hw6
          go_wp2_with fail
          refine hpo.mono ?_
          clear hpo
          rintro e w7 ⟨v7, rfl, hv7, hb7⟩
          obtain ⟨a7, c7, rfl⟩ := hv7.len
          have f7 := Frm.of_below' hb7 (fun _ => False)
          have hpe := peers_V (HF6.out.frm f7) i _ HUI.out
          have HF7 := Lib.hid (HF6.out.frm f7)
          have HRO7 := Lib.hid (HRO.out.frm0 f7)
          have HRS7 := Lib.hid (HRS.out.frm0 f7)
          clear hv7 hb7 f7 t0 t1 t2 t3 t4 tl hf6 hfl6 HF6 HRO HRS
          go_wp2_with fail
          refine hpe.mono ?_
          clear hpe
          rintro e w8 ⟨v8, rfl, hv8, hb8⟩
          obtain ⟨a8, c8, rfl⟩ := hv8.len
          have f8 := Frm.of_below' hb8 (fun _ => False)
          have HF8 := Lib.hid (HF7.out.frm f8)
          have rO := HRO7.out.frm0 f8
          have rS := HRS7.out.frm0 f8
          clear hv8 hb8 f8 HF7 HRO7 HRS7
          have t0 := rS.cell 0
          have o0 := rO.cell 0
          have o1 := rO.cell 1
          have o2 := rO.cell 2
          simp at t0 o0 o1 o2
          have tl := rS.lt
          have ol := rO.lt
          clear rS rO
          have hw1 : IntKind.i64.wrap ((ps.length : Int) - 1) = (ps.length : Int) - 1 := by rw [IntKind.wrap_i64]; omega
          have hfc := HFC.out
          have hgf := HGF.out
          obtain ⟨fl, hfl⟩ : ∃ fl, fl = om.flood := ⟨_, rfl⟩
          rw [← hfl] at o2 hfc hgf
          clear HFC HGF hfl
          by_cases hk : k ≤ 7
          · simp only [if_pos hk] at hfc
            cases fl with
            | false =>
              have hg0 : gb = false := by
                cases gb with
                | false => rfl
                | true => exact absurd (hgf rfl) (by decide)
              subst hg0
              clear hfc hgf
              go_wp2_with fail
              go_roundw
              case rel => exact ⟨j + 1, now + y, bound, _, by omega, by go_num, rfl, by omega, by omega, HF8.out⟩
              case measure => simp [intOf]; omega
            | true =>
              obtain ⟨hc1, hc2⟩ := hfc rfl
              clear hfc hgf
              cases gb with
              | false =>
                go_wp2_with fail
                go_roundw
                case rel => exact ⟨j + 1, now + y, bound, _, by omega, by go_num, rfl, by omega, by omega, HF8.out⟩
                case measure => simp [intOf]; omega
              | true =>
                go_wp2_with fail
                go_roundw
                case rel => exact ⟨j + 1, now + y, bound, _, by omega, by go_num, rfl, by omega, by omega, HF8.out⟩
                case measure => simp [intOf]; omega
          · simp only [if_neg hk] at hfc
            cases fl with
            | false =>
              have hg0 : gb = false := by
                cases gb with
                | false => rfl
                | true => exact absurd (hgf rfl) (by decide)
              subst hg0
              clear hfc hgf
              go_wp2_with fail
              go_roundw
              case rel => exact ⟨j + 1, now + y, bound, _, by omega, by go_num, rfl, by omega, by omega, HF8.out⟩
              case measure => simp [intOf]; omega
            | true =>
              obtain ⟨hc1, hc2⟩ := hfc rfl
              clear hfc hgf
              cases gb with
              | false =>
                go_wp2_with fail
                go_roundw
                case rel => exact ⟨j + 1, now + y, bound, _, by omega, by go_num, rfl, by omega, by omega, HF8.out⟩
                case measure => simp [intOf]; omega
              | true =>
                go_wp2_with fail
                go_roundw
                case rel => exact ⟨j + 1, now + y, bound, _, by omega, by go_num, rfl, by omega, by omega, HF8.out⟩
                case measure => simp [intOf]; omega
      · go_wp2_with fail
        go_ret
        exact ⟨rfl, HB.out _ _ _ _ F⟩
    · go_wp2_with fail
      go_ret
      exact ⟨rfl, HB.out _ _ _ _ F⟩
end V
end Go.Proofs.Ytmddhglhfgomiaa
