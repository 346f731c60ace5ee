/- law 15: FdbStatic. Conditions: none. -/
import Derived.Test.YtmddhglhfgomiaaDoorAges
import Derived.Test.YtmddhglhfgomiaaDoorArgsB
namespace Go.Proofs.YtmddhglhfgomiaaDoor
open Go Go.RowKit Go.Maps
namespace V

theorem addV_keep {room : Int} {es es' : List Ent} {e z : Ent} {code : Int} (h : AddV room es e code es') (ha : Apart es) (hz : z ∈ es) (hs : z.static = true) : z ∈ es' := by
  rcases h with ⟨_, _, rfl⟩ | ⟨_, ⟨_, _, rfl⟩ | ⟨v, hv, _, rfl⟩⟩
  · simp [hz]
  · exact hz
  · refine List.mem_append_left _ (List.mem_filter.2 ⟨hz, ?_⟩)
    simp only [bne_iff_ne, ne_eq]
    intro e
    have := ha.eq hz hv.1 e
    subst this
    rw [hv.2.1] at hs
    cases hs
theorem setE_keep {es : List Ent} {e z : Ent} (hz : z ∈ es) (hne : z.mac ≠ e.mac) : z ∈ setE es e := by
  unfold setE
  refine List.mem_map.2 ⟨z, hz, ?_⟩
  rw [if_neg hne]
theorem findE_mem {es : List Ent} {m : Mac} {g : Ent} (h : findE es m = some g) : g ∈ es ∧ g.mac = m := by
  unfold findE at h
  exact ⟨List.mem_of_find?_eq_some h, by simpa using List.find?_some h⟩
theorem findE_of {es : List Ent} {g : Ent} (ha : Apart es) (hg : g ∈ es) : findE es g.mac = some g := by
  cases h : findE es g.mac with
  | none =>
    unfold findE at h
    have := List.find?_eq_none.1 h g hg
    simp at this
  | some x =>
    obtain ⟨h1, h2⟩ := findE_mem h
    rw [ha.eq h1 hg h2]

/-- What must not be: what would let the static one go, or say otherwise. -/
def Bars (s : Stp) (m : Mac) (p : Place) : Bool := (s.kind == 3 && decide (s.mac = m)) || (s.kind == 5 && decide (s.mac = m)) || (s.kind == 4 && decide (s.p = p))

theorem static_stays {room life now : Int} {es es' : List Ent} {s : Stp} {m : Mac} {p : Place} (h : DoesV room life es s now es') (ha : Apart es) (hz : (⟨m, p, 0, true⟩ : Ent) ∈ es) (hb : Bars s m p = false) : (⟨m, p, 0, true⟩ : Ent) ∈ es' := by
  unfold Bars at hb
  simp only [Bool.or_eq_false_iff, Bool.and_eq_false_iff, beq_eq_false_iff_ne, decide_eq_false_iff_not] at hb
  obtain ⟨⟨b3, b5⟩, b4⟩ := hb
  rcases h with ⟨_, moved, code, h⟩ | ⟨h3, code, h⟩ | ⟨h4, rfl⟩ | ⟨h5, rfl⟩ | ⟨h6, rfl⟩ | ⟨_, _, _, _, _, _, _, rfl⟩
  · unfold LearnV at h
    split at h
    · rw [h.2.2]; exact hz
    · split at h
      · exact addV_keep h.2 ha hz rfl
      · rename_i g hg
        obtain ⟨hin, hm⟩ := findE_mem hg
        rw [h.2.2]
        split
        · exact hz
        · rename_i hst
          refine setE_keep hz (fun e => ?_)
          have := ha.eq hz hin (e.trans hm.symm)
          subst this
          exact hst rfl
  · have hne : s.mac ≠ m := b3.resolve_left (fun k => k h3)
    unfold StaticV at h
    split at h
    · rw [h.2]; exact hz
    · split at h
      · exact addV_keep h ha hz rfl
      · rw [h.2]
        exact setE_keep hz (fun e => hne e.symm)
  · have hne : s.p ≠ p := b4.resolve_left (fun k => k h4)
    refine List.mem_filter.2 ⟨hz, ?_⟩
    simp only [Bool.not_eq_true', decide_eq_false_iff_not]
    exact fun e => hne e.symm
  · have hne : s.mac ≠ m := b5.resolve_left (fun k => k h5)
    refine List.mem_filter.2 ⟨hz, ?_⟩
    simp only [Bool.not_eq_true', decide_eq_false_iff_not]
    exact fun e => hne e.symm
  · exact List.mem_filter.2 ⟨hz, by simp [oldB]⟩
  · exact hz

theorem static_seen {es : List Ent} {m : Mac} {p : Place} (ha : Apart es) (hz : (⟨m, p, 0, true⟩ : Ent) ∈ es) (life now : Int) : seenV life now (findE es m) = some p := by
  have := findE_of ha hz
  simp only at this
  rw [this]
  simp [seenV, oldB]

theorem StepsAt.frm' {w w' : World} {la : Option Addr} {n : Nat} (h : StepsAt w la n) (hb : Below w.heap.size w w') : StepsAt w' la n := fun j hj => by
  obtain ⟨g, o, h1, hg, s, hs, hc⟩ := h j hj
  exact ⟨g, o, h1, Nat.lt_of_lt_of_le hg hb.size, s, hs, fun i u hi => (hb.cell (p := ⟨g, o + j * 10 + i, none⟩) hg).trans (hc i u hi)⟩

set_option maxRecDepth 100000 in
set_option maxHeartbeats 8000000 in
theorem static15_any (w : World) (room life : Int) (m : Mac) (hm : m.ok) (p : Place) (la : Option Addr) (n c : Nat) (hl : StepsAt w la n) (hall : AllAt w) :
    Calls Tryd.prog 7 #[.int .i64 room, .int .u64 life, macV m, placeV p, .slice la n c] w fun e w' => e = .returned (.bool true) ∧ Below w.heap.size w w' := by
  have hall1 : AllAt ((w.alloc (.cells (macCells m).toArray 24)).alloc (.cells #[.bool p.tunnel, .int .i64 p.n] 34)) := hall.below (((Below.refl _ w).alloc (Nat.le_refl _) _).alloc (by rw [World.size_alloc]; omega) _) hall.hz
  have hsh := shown15_all _ hall1
  have HL := Lib.hid hl
  clear hall1 hall hl
  go_enter Tryd.func7, Tryd.ntmps7
  go_wp2_with fail
  refine hsh.mono ?_
  clear hsh
  rintro e w1 ⟨rfl, hB1⟩
  have hs1 := hB1.size
  rw [World.size_alloc, World.size_alloc] at hs1
  have hBw : Below w.heap.size w w1 := (((Below.refl _ w).alloc (Nat.le_refl _) _).alloc (by rw [World.size_alloc]; omega) _).trans (hB1.mono (by rw [World.size_alloc, World.size_alloc]; omega))
  have rM : Row w1 w.heap.size 24 (macCells m) := ((Row.new w 24 (macCells m)).alloc _).of_eq (hB1.block _ (by rw [World.size_alloc, World.size_alloc]; omega))
  have rP : Row w1 (w.heap.size + 1) 34 [.bool p.tunnel, .int .i64 p.n] := by
    have h := Row.new (w.alloc (.cells (macCells m).toArray 24)) 34 [.bool p.tunnel, .int .i64 p.n]
    rw [World.size_alloc] at h
    exact h.of_eq (hB1.block _ (by rw [World.size_alloc, World.size_alloc]; omega))
  have HL1 := Lib.hid (StepsAt.frm' HL.out hBw)
  clear hB1 HL
  go_wp2_with fail
  refine (new_V (fun k => w1.heap.size ≤ k) w1 w1 room life (Frm.refl _ _) (fun _ h => h)).mono ?_
  rintro e w2 ⟨b, rfl, F⟩
  have hM : ∀ {W es}, FB (fun k => w1.heap.size ≤ k) w1 W b (roomOf room) life es → Row W w.heap.size 24 (macCells m) := fun F => rM.frm F.since (fun h => by omega)
  have hP : ∀ {W es}, FB (fun k => w1.heap.size ≤ k) w1 W b (roomOf room) life es → Row W (w.heap.size + 1) 34 [.bool p.tunnel, .int .i64 p.n] := fun F => rP.frm F.since (fun h => by omega)
  have hB : ∀ {W es}, FB (fun k => w1.heap.size ≤ k) w1 W b (roomOf room) life es → Below w.heap.size w W := fun F => hBw.trans (F.below.mono (by omega))
  obtain ⟨rm, hrm⟩ : ∃ rm, rm = roomOf room := ⟨_, rfl⟩
  rw [← hrm] at F hM hP hB
  clear hrm
  obtain ⟨c0, c1, c2, c3, c4, c5⟩ := And.intro ((hM F).cell 0) (And.intro ((hM F).cell 1) (And.intro ((hM F).cell 2) (And.intro ((hM F).cell 3) (And.intro ((hM F).cell 4) ((hM F).cell 5)))))
  obtain ⟨p0, p1⟩ := And.intro ((hP F).cell 0) ((hP F).cell 1)
  simp at c0 c1 c2 c3 c4 c5 p0 p1
  have cl := (hM F).lt
  have pl := (hP F).lt
  have hr1 := F.r1
  go_wp2_with fail
  refine (static_V F m hm p).mono ?_
  rintro e w3 ⟨code, es', rfl, hL, F3⟩
  clear F c0 c1 c2 c3 c4 c5 p0 p1 cl pl
  obtain ⟨c0, c1, c2, c3, c4, c5⟩ := And.intro ((hM F3).cell 0) (And.intro ((hM F3).cell 1) (And.intro ((hM F3).cell 2) (And.intro ((hM F3).cell 3) (And.intro ((hM F3).cell 4) ((hM F3).cell 5)))))
  simp at c0 c1 c2 c3 c4 c5
  have cl := (hM F3).lt
  have hgr := fun W => group_any W m hm
  cases hg : groupB m with
  | true =>
    rw [hg] at hgr
    obtain ⟨rfl, rfl⟩ : code = 1 ∧ es' = [] := by
      unfold StaticV at hL
      rwa [if_pos hg] at hL
    clear hL hg
    go_wp2_with fail
    refine (hgr _).mono ?_
    rintro e w4 ⟨rfl, rfl⟩
    go_wp2_with fail
    refine (list_V (F3.alloc _)).mono ?_
    rintro e w5 ⟨v, es', rfl, hp, -, hE, F5⟩
    have hes : es' = [] := hp.eq_nil
    subst hes
    obtain ⟨a, c, rfl⟩ : ∃ a c, v = .slice a 0 c := by
      rcases hE.2 with ⟨rfl, _⟩ | ⟨g, cap, cur, rfl, _⟩
      · exact ⟨_, _, rfl⟩
      · exact ⟨_, _, rfl⟩
    have HB := Lib.hid (hB F5)
    clear hp hE F5 F3 hM hP hB
    go_wp2_with fail
    go_ret
    exact ⟨rfl, HB.out⟩
  | false =>
    rw [hg] at hgr
    obtain ⟨rfl, rfl⟩ := staticV_new hL hg rfl (by simp; omega)
    rw [List.nil_append] at F3
    clear hL hg hr1
    go_wp2_with fail
    refine (hgr _).mono ?_
    rintro e w4 ⟨rfl, rfl⟩
    have F4 := F3.alloc (.cells (macCells m).toArray 24)
    clear F3 c0 c1 c2 c3 c4 c5 cl hgr
    go_wp2_with fail
    go_loopw [14, 15] (fun tn ti wr => ∃ (j : Nat) (now : Int) (es : List Ent), j ≤ 300 ∧ ti = .int .i64 (j : Int) ∧ tn = .int .u64 now ∧ 0 ≤ now ∧ now ≤ 255 * j ∧ (⟨m, p, 0, true⟩ : Ent) ∈ es ∧ FB (fun k => w1.heap.size ≤ k) w1 wr b rm life es)
      (fun _ ti _ => 300 - (intOf ti).toNat)
    case atStart => exact ⟨0, 0, _, by omega, rfl, rfl, by omega, by omega, by simp, F4⟩
    case round =>
      clear F4
      obtain ⟨j, now, es, hj, rfl, rfl, hn0, hn1, hz, F⟩ := hrel
      by_cases hjn : (j : Int) < (n : Int)
      · by_cases hj3 : (j : Int) < 300
        · obtain ⟨g, o, rfl, hgl, s, hs, hc⟩ := HL1.out j (by omega)
          obtain ⟨k, sm, sp, y⟩ := s
          have hW := F.below
          have hc' : ∀ i u, (stpCells ⟨k, sm, sp, y⟩)[i]? = some u → wr.cell? ⟨g, o + j * 10 + i, none⟩ = some u := fun i u hi => (hW.cell (p := ⟨g, o + j * 10 + i, none⟩) hgl).trans (hc i u hi)
          have s0 := hc' 0 _ rfl
          have s1 := hc' 1 _ rfl
          have s2 := hc' 2 _ rfl
          have s3 := hc' 3 _ rfl
          have s4 := hc' 4 _ rfl
          have s5 := hc' 5 _ rfl
          have s6 := hc' 6 _ rfl
          have s7 := hc' 7 _ rfl
          have s8 := hc' 8 _ rfl
          have s9 := hc' 9 _ rfl
          rw [Nat.add_zero] at s0
          have sl : g < wr.heap.size := Nat.lt_of_lt_of_le hgl hW.size
          have hy := hs.by_
          simp only at hy
          obtain ⟨hy0, hy1⟩ := hy
          have hwy : IntKind.u64.wrap y = y := by rw [IntKind.wrap_u64]; omega
          clear hc hc' hW
          go_upto_region 14 with fail
          obtain ⟨wS, hwS⟩ : ∃ wS, wS = wr.alloc (.cells (stpCells ⟨k, sm, sp, y⟩).toArray 60) := ⟨_, rfl⟩
          rw [← hwS]
          have rS : Row wS wr.heap.size 60 (stpCells ⟨k, sm, sp, y⟩) := by rw [hwS]; exact Row.new wr 60 (stpCells ⟨k, sm, sp, y⟩)
          have FS : FB (fun k => w1.heap.size ≤ k) w1 wS b rm life es := by rw [hwS]; exact F.alloc _
          clear s0 s1 s2 s3 s4 s5 s6 s7 s8 s9 sl hwS F
          obtain ⟨s0, s1, s2, s3, s4, s5⟩ := And.intro (rS.cell 0) (And.intro (rS.cell 1) (And.intro (rS.cell 2) (And.intro (rS.cell 3) (And.intro (rS.cell 4) (rS.cell 5)))))
          obtain ⟨s6, s7, s8, s9⟩ := And.intro (rS.cell 6) (And.intro (rS.cell 7) (And.intro (rS.cell 8) (rS.cell 9)))
          simp at s0 s1 s2 s3 s4 s5 s6 s7 s8 s9
          have sl := rS.lt
          obtain ⟨c0, c1, c2, c3, c4, c5⟩ := And.intro ((hM FS).cell 0) (And.intro ((hM FS).cell 1) (And.intro ((hM FS).cell 2) (And.intro ((hM FS).cell 3) (And.intro ((hM FS).cell 4) ((hM FS).cell 5)))))
          obtain ⟨p0, p1⟩ := And.intro ((hP FS).cell 0) ((hP FS).cell 1)
          simp at c0 c1 c2 c3 c4 c5 p0 p1
          have cl := (hM FS).lt
          have pl := (hP FS).lt
          obtain ⟨bar, hbar⟩ : ∃ bar, bar = Bars ⟨k, sm, sp, y⟩ m p := ⟨_, rfl⟩
          have HBAR := Lib.hid hbar
          clear hbar rS
          have hsm := hs.mac
          simp only at hsm
          go_cut [91] (fun t91 wx => t91 = .bool bar ∧ wS = wx)
          case first =>
            as_aux_lemma =>
              have hme := fun W => mac_eql hsm hm W
              have hpe := fun W => place_eql sp p W
              have hg1 := macGuard
              have hg2 := placeGuard
              have HB : bar = (k == 3 && decide (sm = m) || k == 5 && decide (sm = m) || k == 4 && decide (sp = p)) := HBAR.out
              clear HBAR FS
              by_cases k3 : k = 3
              · subst k3
                by_cases hq : sm = m
                · have hv : bar = true := by rw [HB]; simp [hq]
                  have HV := Lib.hid hv
                  rw [decide_eq_true hq] at hme
                  clear HB hv hq
                  go_wp2_with fail
                  go_meet
                  exact ⟨by rw [HV.out], rfl⟩
                · have hv : bar = false := by rw [HB]; simp [hq]
                  have HV := Lib.hid hv
                  rw [decide_eq_false hq] at hme
                  clear HB hv hq
                  go_wp2_with fail
                  go_meet
                  exact ⟨by rw [HV.out], rfl⟩
              · by_cases k5 : k = 5
                · subst k5
                  by_cases hq : sm = m
                  · have hv : bar = true := by rw [HB]; simp [hq]
                    have HV := Lib.hid hv
                    rw [decide_eq_true hq] at hme
                    clear HB hv hq k3
                    go_wp2_with fail
                    go_meet
                    exact ⟨by rw [HV.out], rfl⟩
                  · have hv : bar = false := by rw [HB]; simp [hq]
                    have HV := Lib.hid hv
                    rw [decide_eq_false hq] at hme
                    clear HB hv hq k3
                    go_wp2_with fail
                    go_meet
                    exact ⟨by rw [HV.out], rfl⟩
                · by_cases k4 : k = 4
                  · subst k4
                    by_cases hq : sp = p
                    · have hv : bar = true := by rw [HB]; simp [hq]
                      have HV := Lib.hid hv
                      rw [decide_eq_true hq] at hpe
                      clear HB hv hq k3 k5
                      go_wp2_with fail
                      go_meet
                      exact ⟨by rw [HV.out], rfl⟩
                    · have hv : bar = false := by rw [HB]; simp [hq]
                      have HV := Lib.hid hv
                      rw [decide_eq_false hq] at hpe
                      clear HB hv hq k3 k5
                      go_wp2_with fail
                      go_meet
                      exact ⟨by rw [HV.out], rfl⟩
                  · have hv : bar = false := by rw [HB]; simp [k3, k5, k4]
                    have HV := Lib.hid hv
                    have b3 : ((k : Int) == 3) = false := beq_eq_false_iff_ne.2 k3
                    have b4 : ((k : Int) == 4) = false := beq_eq_false_iff_ne.2 k4
                    have b5 : ((k : Int) == 5) = false := beq_eq_false_iff_ne.2 k5
                    clear HB hv k3 k5 k4
                    go_wp2_with fail
                    go_meet
                    exact ⟨by rw [HV.out], rfl⟩
          case rest =>
            obtain ⟨rfl, rfl⟩ := hcut
            cases bar with
            | true =>
              go_wp2_with fail
              go_roundw
              case rel => exact ⟨j + 1, now + y, es, by omega, by go_num, rfl, by omega, by omega, hz, FS⟩
              case measure => simp [intOf]; omega
            | false =>
              have hnu : u64ok (now + y) := by unfold u64ok; omega
              have hdo := does15_any FS ⟨k, sm, sp, y⟩ hs (now + y) hnu
              have HAP := Lib.hid (fun es' hD => static_stays (room := rm) (life := life) (now := now + y) (es' := es') hD FS.apart hz HBAR.out.symm)
              clear FS
              go_wp2_with fail
              refine hdo.mono ?_
              clear hdo
              rintro e w5 ⟨rfl, es', hD, F5⟩
              have hz' := HAP.out es' hD
              have hfd := find_V F5 m hm (now + y) hnu
              rw [static_seen F5.apart hz'] at hfd
              clear HAP hD s0 s1 s2 s3 s4 s5 s6 s7 s8 s9 sl c0 c1 c2 c3 c4 c5 cl p0 p1 pl
              obtain ⟨c0, c1, c2, c3, c4, c5⟩ := And.intro ((hM F5).cell 0) (And.intro ((hM F5).cell 1) (And.intro ((hM F5).cell 2) (And.intro ((hM F5).cell 3) (And.intro ((hM F5).cell 4) ((hM F5).cell 5)))))
              simp at c0 c1 c2 c3 c4 c5
              have cl := (hM F5).lt
              clear F5
              go_wp2_with fail
              refine hfd.mono ?_
              clear hfd
              rintro e w6 ⟨rfl, F6⟩
              obtain ⟨p0, p1⟩ := And.intro ((hP F6).cell 0) ((hP F6).cell 1)
              simp at p0 p1
              have pl := (hP F6).lt
              have hpe := fun W => place_neq p p W
              rw [show decide (p ≠ p) = false by simp] at hpe
              have hg2 := placeGuard
              clear c0 c1 c2 c3 c4 c5 cl
              have F7 := F6.alloc (.cells #[.bool p.tunnel, .int .i64 p.n] 34)
              clear F6
              go_wp2_with fail
              go_roundw
              case rel => exact ⟨j + 1, now + y, es', by omega, by go_num, rfl, by omega, by omega, hz', F7⟩
              case measure => simp [intOf]; omega
        · go_wp2_with fail
          go_ret
          exact ⟨rfl, hB F⟩
      · go_wp2_with fail
        go_ret
        exact ⟨rfl, hB F⟩
end V
end Go.Proofs.YtmddhglhfgomiaaDoor
