/- law 16: BridgeMoves. Conditions: none. -/
import Derived.Test.YtmddhglhfgomiaaDoorMovM
namespace Go.Proofs.YtmddhglhfgomiaaDoor
open Go Go.RowKit Go.Maps

def VV (k : Nat) (es : List Ent) : List VSeg := (List.replicate 8 ⟨[], [], []⟩).set 0 ⟨es, up k, up k⟩

/-- What stands while the law runs. -/
structure MI (w : World) (m : Mac) (bb bm b11 : Nat) (room life : Int) (k : Nat) (segs : List SegG) (es : List Ent) (wr : World) : Prop where
  bs : BS w wr bb bm room life (bd k) segs (VV k es)
  k6 : Kp bb bm segs wr w.heap.size 24 (macCells (ofM m))
  k11 : Kp bb bm segs wr b11 24 (macCells (otM m))

theorem MI.frm0 {w wr wx : World} {m : Mac} {bb bm b11 : Nat} {room life : Int} {k : Nat} {segs : List SegG} {es : List Ent} (I : MI w m bb bm b11 room life k segs es wr) (f : Frm (fun _ => False) wr wx) : MI w m bb bm b11 room life k segs es wx :=
  ⟨I.bs.frm0 f, I.k6.frm0 f, I.k11.frm0 f⟩

theorem BS.write {w0 w w' : World} {bb bm : Nat} {room life : Int} {bound : List (Int × Int)} {segs : List SegG} {V : List VSeg} (S : BS w0 w bb bm room life bound segs V) {b : Nat} (hap : ¬ bridgeFp bb bm segs b) (hb : w0.heap.size ≤ b) (f : Frm (fun k => k = b) w w') : BS w0 w' bb bm room life bound segs V :=
  ⟨S.rep.frm f (fun k hk e => hap (e ▸ hk)), S.view, S.own, S.below.trans (f.to_below S.below.size (fun i hi e => by omega))⟩
theorem MI.turn {w wr wx : World} {m : Mac} {bb bm b11 : Nat} {room life : Int} {k : Nat} {segs segs' : List SegG} {es es' : List Ent} (I : MI w m bb bm b11 room life k segs es wr) (B : BridgeRep wx bb bm room life (bd k) segs')
    (hv : vw segs' = (vw segs).set 0 ⟨es', up k, up k⟩) (T : BrTurn bb bm segs wr wx segs') : MI w m bb bm b11 room life k segs' es' wx :=
  ⟨I.bs.turn B (hv.trans (by rw [I.bs.view]; unfold VV; rw [List.set_set])) T, I.k6.turn T, I.k11.turn T⟩

abbrev allM : Mac := ⟨255, 255, 255, 255, 255, 255⟩
theorem pn_ok (x : Int) : 1 ≤ wrap64 (1 + (bits BinOp.and IntKind.i64 x 65535).tmod 4) ∧ wrap64 (1 + (bits BinOp.and IntKind.i64 x 65535).tmod 4) ≤ 4 := by
  obtain ⟨h0, h1⟩ := and16 x
  rw [Int.tmod_eq_emod_of_nonneg h0]
  generalize bits BinOp.and IntKind.i64 x 65535 = r at *
  have h2 : wrap64 (1 + r % 4) = 1 + r % 4 := by unfold wrap64; omega
  rw [h2]
  omega
theorem all_cells {W : World} (h : MacAt W 0 0 allM) : W.cell? ⟨0, 0, none⟩ = some (.int .u8 255) ∧ W.cell? ⟨0, 1, none⟩ = some (.int .u8 255) ∧ W.cell? ⟨0, 2, none⟩ = some (.int .u8 255) ∧ W.cell? ⟨0, 3, none⟩ = some (.int .u8 255) ∧
    W.cell? ⟨0, 4, none⟩ = some (.int .u8 255) ∧ W.cell? ⟨0, 5, none⟩ = some (.int .u8 255) := ⟨h.c0, h.c1, h.c2, h.c3, h.c4, h.c5⟩
theorem place_cells {W : World} {b : Nat} {t : Bool} {n : Int} (h : Row W b 34 [.bool t, .int .i64 n]) : W.cell? ⟨b, 0, none⟩ = some (.bool t) ∧ W.cell? ⟨b, 1, none⟩ = some (.int .i64 n) := ⟨h.cell 0, h.cell 1⟩
theorem MacAt.below {w W : World} {b o : Nat} {m : Mac} (h : MacAt w b o m) (hlt : b < w.heap.size) (hb : Below w.heap.size w W) : MacAt W b o m := h.frm hlt (Frm.of_below hb) (by omega)
theorem BS.reV {w0 w : World} {bb bm : Nat} {room life : Int} {bound : List (Int × Int)} {segs : List SegG} {V V' : List VSeg} (S : BS w0 w bb bm room life bound segs V) (h : V = V') : BS w0 w bb bm room life bound segs V' := h ▸ S

set_option maxRecDepth 100000 in
set_option maxHeartbeats 40000000 in
theorem moves_any (w : World) (room life : Int) (m : Mac) (hm : m.ok) (la : Option Addr) (n c : Nat)
    (hl : ∀ j, j < n → ∃ g o, la = some ⟨g, o, none⟩ ∧ g < w.heap.size ∧ ∃ t x, w.cell? ⟨g, o + j * 2, none⟩ = some (.bool t) ∧ w.cell? ⟨g, o + j * 2 + 1, none⟩ = some (.int .i64 x))
    (hall : MacAt w 0 0 allM) (hz : 0 < w.heap.size) :
    Calls Tryd.prog 3 #[.int .i64 room, .int .u64 life, macV m, .slice la n c] w fun e w' => e = .returned (.bool true) ∧ Below w.heap.size w w' := by
  have HL := Lib.hid hl
  clear hl
  go_enter Tryd.func3, Tryd.ntmps3
  go_wp2_with fail
  refine (shown_any _).mono ?_
  rintro e w1 ⟨rfl, hb1⟩
  have hF1 := Frm.of_below' hb1 (fun _ => False)
  have R6 := (Row.new w 24 (macCells m)).frm0 hF1
  have hs1 := hF1.size
  rw [World.size_alloc] at hs1
  have B1 : Below w.heap.size w w1 := ((Below.refl _ w).alloc (Nat.le_refl _) _).trans (hb1.mono (by simp))
  clear hF1 hb1
  go_wp2_with fail
  obtain ⟨lf, hlf⟩ : ∃ lf, lf = max life 1 := ⟨_, rfl⟩
  obtain ⟨rm, hrm⟩ : ∃ rm, rm = roomOf (max room 2) := ⟨_, rfl⟩
  have hlf1 : 1 ≤ lf := by omega
  have hrm2 : 2 ≤ rm := by rw [hrm]; unfold roomOf; omega
  have hN := new_v w1 lf (max room 2)
  rw [hlf, ← hrm] at hN
  refine hN.mono ?_
  clear hN
  rw [← hlf]
  clear hrm hlf
  rintro e w2 ⟨bb, bm, segs, rfl, B, hv, hfp, hb2⟩
  have hF2 := Frm.of_below' hb2 (fun _ => False)
  have R6' := R6.frm0 hF2
  have S2 : BS w w2 bb bm rm lf [] segs _ := ⟨B, hv, fun k hk => Nat.le_trans (Nat.le_of_succ_le hs1) (hfp k hk), B1.trans (hb2.mono (Nat.le_of_succ_le hs1))⟩
  have hap : ¬ bridgeFp bb bm segs w.heap.size := fun h => absurd (hfp _ h) (by omega)
  clear R6 hF2 B hv hfp hb2 B1
  have h8 : 0 < segs.length := by rw [S2.rep.len]; decide
  go_wp2_with fail
  refine (bbase_in w2 bb bm rm lf [] segs 0 0 rfl h8 S2.rep).mono ?_
  rintro e w' ⟨rfl, rfl⟩
  have c0 := R6'.cell 0
  have c1 := R6'.cell 1
  have c2 := R6'.cell 2
  have c3 := R6'.cell 3
  have c4 := R6'.cell 4
  have c5 := R6'.cell 5
  simp at c0 c1 c2 c3 c4 c5
  have cl := R6'.lt
  have cf := R6'.free
  have hma := hm.a
  have hmf := hm.f
  go_wp2_with fail
  clear c0 c1 c2 c3 c4 c5 cl cf
  go_loopw [12] (fun i wr => ∃ (k : Nat) (segs : List SegG), k ≤ 5 ∧ i = .int .i64 ((k : Int) + 1) ∧ MI w m bb bm w2.heap.size rm lf k segs [] wr) (fun i _ => 6 - (intOf i).toNat)
  case atStart =>
    refine ⟨0, segs, by omega, rfl, (S2.write hap (Nat.le_refl _) ((Frm.refl (fun k => k = w.heap.size) w2).setCell _ (fun _ => rfl))).alloc _, ⟨(R6'.set 0 _).alloc _, hap⟩, ?_, fun h => Nat.lt_irrefl _ (S2.rep.fp_lt _ h)⟩
    have h := Row.new (w2.setCell ⟨w.heap.size, 0, none⟩ (.int .u8 (bits BinOp.andNot IntKind.u8 m.a 1))) 24 (macCells (otM m))
    rw [World.size_setCell] at h
    exact h
  case round =>
    obtain ⟨k, segs, hk, rfl, I⟩ := hrel
    by_cases hk5 : k < 5
    · as_aux_lemma =>
        obtain ⟨u1, u2, u3, u4, u5, u6, u7⟩ := up_facts hk5
        have hB := bind_v (es := []) (ps := up k) (qs := up k) wr bb bm rm lf (bd k) segs ((k : Int) + 1) 0 0 rfl (by omega) (by unfold i64ok; omega) I.bs.rep (by rw [I.bs.view]; rfl) (by omega) u5 u2 (by omega)
        rw [u1, u6] at hB
        have hkk : (k : Int) + 1 ≤ 5 := by omega
        have U := Lib.hid (And.intro u1 (And.intro u3 (And.intro u4 u5)))
        clear u1 u2 u3 u4 u5 u6 u7
        go_wp2_with fail
        refine hB.mono ?_
        clear hB
        rintro e w3 ⟨segs3, rfl, B, hv, T⟩
        have S3 := I.bs.turn B hv T
        rw [I.bs.view] at S3
        have k6 := I.k6.turn T
        have k11 := I.k11.turn T
        have hP := peer_v (es := []) (ps := up (k + 1)) (qs := up k) w3 bb bm rm lf (bd (k + 1)) segs3 ((k : Int) + 1) 0 0 rfl (by omega) S3.rep (by rw [S3.view]; rfl) (by have := U.out.2.2.1; omega) U.out.2.2.2 U.out.2.1
        rw [U.out.1] at hP
        clear I B hv T
        go_wp2_with fail
        refine hP.mono ?_
        clear hP
        rintro e w4 ⟨segs4, rfl, B, hv, T⟩
        have S4 := S3.turn B hv T
        rw [S3.view] at S4
        replace k6 := k6.turn T
        replace k11 := k11.turn T
        clear S3 B hv T
        go_wp2_with fail
        exact ⟨⟨k + 1, segs4, by omega, by go_num, S4.reV (by unfold VV; rw [List.set_set, List.set_set]), k6, k11⟩, by simp [intOf]; omega⟩
    · obtain rfl : k = 5 := by omega
      rw [show ((5 : Nat) : Int) + 1 = 6 from rfl]
      go_wp2_with fail
      go_loopw [13] (fun i wr => ∃ (j : Nat) (segs : List SegG) (es : List Ent), j ≤ 30 ∧ i = .int .i64 (j : Int) ∧ EsOk m es ∧ MI w m bb bm w2.heap.size rm lf 5 segs es wr) (fun i _ => 30 - (intOf i).toNat)
      case atStart => exact ⟨0, segs, [], by omega, rfl, .inl rfl, I⟩
      case round =>
        clear I S2 R6' hap
        obtain ⟨j, segs, es, hj, rfl, hE, I⟩ := hrel
        by_cases hjn : (j : Int) < (n : Int)
        · by_cases hj30 : (j : Int) < 30
          · obtain ⟨g, o, rfl, hg, t, x, ht, hx⟩ := HL.out j (by omega)
            have ht' := (I.bs.below.cell (p := ⟨g, o + j * 2, none⟩) hg).trans ht
            have hx' := (I.bs.below.cell (p := ⟨g, o + j * 2 + 1, none⟩) hg).trans hx
            have hgl : g < wr.heap.size := Nat.lt_of_lt_of_le hg I.bs.below.size
            clear ht hx
            go_upto_region 18 with fail
            go_cut [14] (fun t14 wx => ∃ b14 pn, t14 = ptr b14 ∧ 1 ≤ pn ∧ pn ≤ 4 ∧ Kp bb bm segs wx b14 34 [.bool t, .int .i64 pn] ∧ Frm (fun _ => False) wr wx)
            case first =>
              go_region
              go_wp2_with fail
              go_meet
              exact ⟨_, _, rfl, (pn_ok x).1, (pn_ok x).2, ⟨Row.new wr _ _, fun h => Nat.lt_irrefl _ (I.bs.rep.fp_lt _ h)⟩, ((Frm.refl _ _).alloc _).drew⟩
            case rest =>
              as_aux_lemma =>
                obtain ⟨wA, rfl⟩ : ∃ x : World, x = wc := ⟨_, rfl⟩
                obtain ⟨b14, pn, rfl, hp1, hp4, K14, hFA⟩ := hcut
                replace I := I.frm0 hFA
                clear hFA ht' hx' hgl
                have HA := hall.below hz I.bs.below
                obtain ⟨a0, a1, a2, a3, a4, a5⟩ := all_cells HA
                obtain ⟨c0, c1, c2, c3, c4, c5⟩ := mac_cells I.k6.1
                obtain ⟨d0, d1⟩ := place_cells K14.1
                have hFx : ∀ wx, Frm (fun _ => False) wA wx → MacAt wx 0 0 allM ∧ Row wx w.heap.size 24 (macCells (ofM m)) ∧ Row wx b14 34 [.bool t, .int .i64 pn] := fun wx f => ⟨HA.frm (Nat.lt_of_lt_of_le hz I.bs.below.size) f (fun h => h), I.k6.1.frm0 f, K14.1.frm0 f⟩
                have hd : Frm (fun _ => False) wA wA.drew := (Frm.refl _ wA).drew
                obtain ⟨hE1, hst, hrm⟩ := hE.step hm (p := ⟨t, pn⟩) (j := (j : Int)) hrm2
                have hju : u64ok (j : Int) := by unfold u64ok; omega
                have hwr : IntKind.u64.wrap (j : Int) = (j : Int) := by rw [IntKind.wrap_u64]; omega
                go_upto_if 83 with fail
                go_cut [15] (fun t15 wx => t15 = .int .i64 0 ∧ ∃ segs' es', Es1 m ⟨t, pn⟩ j es' ∧ MI w m bb bm w2.heap.size rm lf 5 segs' es' wx ∧ Kp bb bm segs' wx b14 34 [.bool t, .int .i64 pn])
                case first =>
                  cases t
                  · as_aux_lemma =>
                      go_upto_region 22 with fail
                      /-SLOW-/
                      have hft : ∀ w5 fb, Frm (fun _ => False) wA w5 → fb < w5.heap.size → MacAt w5 fb 0 allM → MacAt w5 fb 6 (ofM m) → Calls Tryd.prog 16 #[ptr bb, .int .i64 pn, .slice (some ⟨fb, 0, none⟩) 60 60, .int .u64 (j : Int)] w5
                          (FromV w5 bb bm rm lf (bd 5) segs 0 es (up 5) (up 5) ⟨false, pn⟩ allM (ofM m) j) := fun w5 fb hF5 hlt5 M1 M2 =>
                        fromport_v w5 bb bm rm lf (bd 5) segs pn j 0 0 rfl (by unfold i64ok; omega) (up5 hp1 (by omega)).1 (I.bs.frm0 hF5).rep (by rw [I.bs.view]; rfl) fb 0 60 60 allM (ofM m) (by decide) (by decide) (by decide) hlt5 M1 M2 ⟨⟨by decide, by decide⟩, ⟨by decide, by decide⟩, ⟨by decide, by decide⟩, ⟨by decide, by decide⟩, ⟨by decide, by decide⟩, ⟨by decide, by decide⟩⟩ (ofM_ok hm) (ofM_g hm) hju (by decide) (by decide) hst hrm
                      go_region_with (first
                        | (go_at_call 15; refine (lframe_ex _ allM (ofM m)).mono ?_; rintro e w5 ⟨fb, rfl, hlt5, M1, M2, F5⟩; have hF5 := hd.trans0 F5; clear F5; obtain ⟨HA5, R65, R145⟩ := hFx _ hF5; obtain ⟨a0', a1', a2', a3', a4', a5'⟩ := all_cells HA5; obtain ⟨c0', c1', c2', c3', c4', c5'⟩ := mac_cells R65; obtain ⟨d0', d1'⟩ := place_cells R145)
                        | (go_at_call 16; (try rw [hwr]); refine (hft w5 fb hF5 hlt5 M1 M2).mono ?_; rintro e w6 ⟨segs6, pa, ta, pl, pc, tl, tc, rfl, B, hv, T, -⟩))
                      all_goals
                        go_wp2_with fail
                        go_meet
                        exact ⟨rfl, segs6, _, hE1, (I.frm0 hF5).turn B hv T, (K14.frm0 hF5).turn T⟩
                      /-END-/
                  · as_aux_lemma =>
                      go_upto_region 21 with fail
                      /-SLOW-/
                      have hft : ∀ w5 fb, Frm (fun _ => False) wA w5 → fb < w5.heap.size → MacAt w5 fb 0 allM → MacAt w5 fb 6 (ofM m) → Calls Tryd.prog 14 #[ptr bb, .int .i64 0, .int .i64 pn, .slice (some ⟨fb, 0, none⟩) 60 60, .int .u64 (j : Int)] w5
                          (FromV w5 bb bm rm lf (bd 5) segs 0 es (up 5) (up 5) ⟨true, pn⟩ allM (ofM m) j) := fun w5 fb hF5 hlt5 M1 M2 =>
                        fromtunnel_v w5 bb bm rm lf (bd 5) segs pn j 0 0 rfl (I.bs.frm0 hF5).rep (by rw [I.bs.view]; rfl) (up5 hp1 (by omega)).2 fb 0 60 60 allM (ofM m) (by decide) (by decide) (by decide) hlt5 M1 M2 ⟨⟨by decide, by decide⟩, ⟨by decide, by decide⟩, ⟨by decide, by decide⟩, ⟨by decide, by decide⟩, ⟨by decide, by decide⟩, ⟨by decide, by decide⟩⟩ (ofM_ok hm) (ofM_g hm) hju (by decide) (by decide) hst hrm
                      go_region_with (first
                        | (go_at_call 15; refine (lframe_ex _ allM (ofM m)).mono ?_; rintro e w5 ⟨fb, rfl, hlt5, M1, M2, F5⟩; have hF5 := hd.trans0 F5; clear F5; obtain ⟨HA5, R65, R145⟩ := hFx _ hF5; obtain ⟨a0', a1', a2', a3', a4', a5'⟩ := all_cells HA5; obtain ⟨c0', c1', c2', c3', c4', c5'⟩ := mac_cells R65; obtain ⟨d0', d1'⟩ := place_cells R145)
                        | (go_at_call 14; (try rw [hwr]); refine (hft w5 fb hF5 hlt5 M1 M2).mono ?_; rintro e w6 ⟨segs6, pa, ta, pl, pc, tl, tc, rfl, B, hv, T, -⟩))
                      all_goals
                        go_wp2_with fail
                        go_meet
                        exact ⟨rfl, segs6, _, hE1, (I.frm0 hF5).turn B hv T, (K14.frm0 hF5).turn T⟩
                      /-END-/
                case rest =>
                  as_aux_lemma =>
                    obtain ⟨wB, rfl⟩ : ∃ x : World, x = wc := ⟨_, rfl⟩
                    obtain ⟨rfl, segs1, es1, hE2, I1, K2⟩ := hcut
                    clear I K14 hE1 hst hrm a0 a1 a2 a3 a4 a5 c0 c1 c2 c3 c4 c5 d0 d1 hFx hd HA hE
                    obtain ⟨bp, hbf⟩ := find_v wB bb bm rm lf (bd 5) segs1 j (ofM m) (ofM_ok hm) hju I1.bs.rep (by rw [I1.bs.view]; rfl) (hE2.seen hlf1)
                    obtain ⟨c0, c1, c2, c3, c4, c5⟩ := mac_cells I1.k6.1
                    have cl := I1.k6.1.lt
                    have hd : Frm (fun _ => False) wB wB.drew := (Frm.refl _ wB).drew
                    have hda : ∀ o, Frm (fun _ => False) wB (wB.alloc o).drew := fun o => ((Frm.refl _ wB).alloc o).drew
                    go_upto_region 23 with fail
                    go_cut [16, 17] (fun t16 t17 wx => ∃ b16, t16 = ptr b16 ∧ t17 = .bool true ∧ Kp bb bm segs1 wx b16 34 [.bool t, .int .i64 pn] ∧ Frm (fun _ => False) wB wx)
                    case first =>
                      as_aux_lemma =>
                        /-SLOW-/
                        go_region_with (first
                          | (go_at_call 11; first | (refine ((hbf _ hd).1).mono ?_; rintro e w' ⟨rfl, rfl⟩) | (refine ((hbf _ (hda _)).1).mono ?_; rintro e w' ⟨rfl, rfl⟩))
                          | (go_at_call 17; (try rw [hwr]); first | (refine ((hbf _ hd).2).mono ?_; rintro e w' ⟨rfl, hF⟩; have hF0 := hd.trans0 hF; have hsz := hF0.size; clear hF) | (refine ((hbf _ (hda (.cells #[.bool false, .int .i64 0] 34))).2).mono ?_; rintro e w' ⟨rfl, hF⟩; have hbx := ((Row.new wB 34 [.bool false, .int .i64 0]).drew).frm hF (fun h => h); have hx0 := hbx.cell 0; have hx1 := hbx.cell 1; simp at hx0 hx1; have hbfz := hbx.free; have hbl := hbx.lt; have hF0 := (hda (.cells #[.bool false, .int .i64 0] 34)).trans0 hF; have hsz := hF0.size; clear hF)))
                        all_goals
                          go_wp2_with fail
                          go_meet
                          refine ⟨_, rfl, rfl, ⟨?_, fun h => absurd (I1.bs.rep.fp_lt _ h) (by omega)⟩, ?_⟩
                          · first
                              | with_reducible exact Row.new _ _ _
                              | with_reducible exact put2 hbx _ _
                          · first
                              | with_reducible exact hF0.alloc _
                              | with_reducible exact (hF0.setCell _ (fun h => absurd h (Nat.lt_irrefl _))).setCell _ (fun h => absurd h (Nat.lt_irrefl _))
                        /-END-/
                    case rest =>
                      as_aux_lemma =>
                        obtain ⟨wC, rfl⟩ : ∃ x : World, x = wc := ⟨_, rfl⟩
                        obtain ⟨b16, rfl, rfl, K16, hFC⟩ := hcut
                        replace I1 := I1.frm0 hFC
                        replace K2 := K2.frm0 hFC
                        clear hFC hbf hd hda c0 c1 c2 c3 c4 c5 cl
                        obtain ⟨c0, c1, c2, c3, c4, c5⟩ := mac_cells I1.k6.1
                        obtain ⟨o0, o1, o2, o3, o4, o5⟩ := mac_cells I1.k11.1
                        obtain ⟨hE3, hst, hrm⟩ := hE2.step hm hrm2
                        go_wp2_with fail
                        refine (lframe_ex _ (ofM m) (otM m)).mono ?_
                        rintro e w5 ⟨fb, rfl, hlt5, M1, M2, F5⟩
                        replace I1 := I1.frm0 F5
                        replace K2 := K2.frm0 F5
                        replace K16 := K16.frm0 F5
                        clear F5 c0 c1 c2 c3 c4 c5 o0 o1 o2 o3 o4 o5
                        go_wp2_with fail
                        (try rw [hwr])
                        have hfp := fromport_v w5 bb bm rm lf (bd 5) segs1 5 j 0 0 rfl (by unfold i64ok; omega) (up5 (by omega) (by omega)).1 I1.bs.rep (by rw [I1.bs.view]; rfl) fb 0 60 60 (ofM m) (otM m) (by decide) (by decide) (by decide) hlt5 M1 M2 (ofM_ok hm) (otM_ok hm) (otM_g hm) hju (by decide) (by decide) hst hrm
                        refine hfp.mono ?_
                        clear hfp hst hrm
                        rintro e w6 ⟨segs6, pa, ta, pl, pc, tl, tc, rfl, B, hv, T, hP, hT, hpf, htf⟩
                        rw [hE3] at hP hT ⊢
                        rw [out_moves hm hp4 hlf1] at hP hT ⊢
                        rw [hE3] at hv
                        have I3 := I1.turn B hv T
                        replace K2 := K2.turn T
                        replace K16 := K16.turn T
                        clear B hv T I1 hE2 hE3 M1 M2 hlt5
                        obtain ⟨d0, d1⟩ := place_cells K2.1
                        obtain ⟨e0, e1⟩ := place_cells K16.1
                        have dl := K2.1.lt
                        have el := K16.1.lt
                        have hne := fun W => place_neq ⟨t, pn⟩ ⟨t, pn⟩ W
                        simp only [ne_eq, not_true_eq_false, decide_false] at hne
                        cases t
                        · as_aux_lemma =>
                            obtain ⟨ga, ca, rfl, rfl, hca, KA⟩ := one_at hP (fun y hy => (hpf y hy).2)
                            obtain rfl := nil_at hT
                            clear hP hT hpf htf
                            have z0 := KA.1.cell 0
                            rw [hca] at z0
                            have zl := KA.1.lt
                            clear hca
                            go_wp2_with fail
                            go_big_quiet (fail)
                            go_wp2_with fail
                            go_roundw
                            case rel => exact ⟨j + 1, segs6, _, by omega, by go_num, .inr ⟨_, _, _, rfl⟩, I3.frm0 (((Frm.refl _ _).alloc _).drewN _)⟩
                            case measure => simp [intOf]; omega
                        · as_aux_lemma =>
                            obtain ⟨ga, ca, rfl, rfl, hca, KA⟩ := one_at hT (fun y hy => (htf y hy).2)
                            obtain rfl := nil_at hP
                            clear hP hT hpf htf
                            have z0 := KA.1.cell 0
                            rw [hca] at z0
                            have zl := KA.1.lt
                            clear hca
                            go_wp2_with fail
                            go_big_quiet (fail)
                            go_wp2_with fail
                            go_roundw
                            case rel => exact ⟨j + 1, segs6, _, by omega, by go_num, .inr ⟨_, _, _, rfl⟩, I3.frm0 (((Frm.refl _ _).alloc _).drewN _)⟩
                            case measure => simp [intOf]; omega
          · go_wp2_with fail
            go_ret
            exact ⟨rfl, I.bs.below⟩
        · go_wp2_with fail
          go_ret
          exact ⟨rfl, I.bs.below⟩
end Go.Proofs.YtmddhglhfgomiaaDoor
