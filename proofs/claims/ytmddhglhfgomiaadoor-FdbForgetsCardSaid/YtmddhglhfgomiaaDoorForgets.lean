/- law 15: FdbForgets. Conditions: none. -/
import Derived.Test.YtmddhglhfgomiaaDoorAges
import Derived.Test.YtmddhglhfgomiaaDoorStatic
namespace Go.Proofs.YtmddhglhfgomiaaDoor
open Go Go.RowKit Go.Maps
namespace V

theorem entGuard : Tryd.prog.eqGuardType Tryd.prog.depth 74 = false := by kernel_rfl
theorem entHeld : Tryd.prog.stoodInHeld 74 = false := by kernel_rfl
theorem entFields : Tryd.prog.underlying 74 = some (.struct (Tryd.prog.fieldsOf 74)) := by kernel_rfl
set_option maxRecDepth 100000 in
theorem ent_same (e : Ent) (he : e.mac.ok) (w : World) : (binOp .neq 74 (entV e) (entV e)).run Tryd.prog w = .ok (.bool false) w := by
  have h1 := placeHeld
  have h2 := placeGuard
  have hm : ∀ w, (Op.equalIn 9999 24 (macV e.mac) (macV e.mac)).run Tryd.prog w = .ok true w := fun w => by
    rw [macV_bs he, show (9999 : Nat) = 9997 + 2 from rfl, run_equalIn_bytes w 9997 24 5 6 macArr.hu u8Int (fun w => by kernel_rfl) (macBs e.mac) (macBs e.mac) rfl rfl]
    simp
  rw [run_neq_struct, show (10000 : Nat) = 9999 + 1 from rfl, run_equalIn_agg w 9999 74 _ _ entFields entHeld]
  simp only [Program.fieldsOf, Tryd.underlying74]
  go_simp

theorem flat_at : ∀ (es : List Ent) (i : Nat) (h : i < es.length) (j : Nat), j < 10 → (es.flatMap entCells)[i * 10 + j]? = (entCells es[i])[j]?
  | [], i, h, _, _ => by simp at h
  | e :: es, 0, _, j, hj => by
    rw [List.flatMap_cons, List.getElem?_append_left (by simp; omega)]
    simp
  | e :: es, i + 1, h, j, hj => by
    rw [List.flatMap_cons, List.getElem?_append_right (by simp; omega)]
    have := flat_at es i (by simpa using h) j hj
    simp only [List.length_cons, List.length_nil, List.getElem_cons_succ]
    rw [← this]
    congr 1
    omega

/-- A slice of entries, whatever its length. -/
theorem ESl.at {B : Nat} {w : World} {v : Value} {es : List Ent} (h : ESl B w v es) : ∃ a c, v = .slice a es.length c ∧ ∀ i (hi : i < es.length), ∃ g, a = some ⟨g, 0, none⟩ ∧ B ≤ g ∧ g < w.heap.size ∧ es.length ≤ c ∧ ∀ j u, (entCells es[i])[j]? = some u → w.cell? ⟨g, i * 10 + j, none⟩ = some u := by
  rcases h.2 with ⟨rfl, h0⟩ | ⟨g, cap, cur, rfl, hbase, hb, h1, h2, h3, h4⟩
  · exact ⟨none, 0, by rw [h0], fun i hi => by omega⟩
  · refine ⟨_, cap, rfl, fun i hi => ⟨g, rfl, hbase, heap_lt hb, h1, fun j u hj => ?_⟩⟩
    have hj10 : j < 10 := by
      have := (List.getElem?_eq_some_iff.1 hj).1
      simpa using this
    rw [← flat_at es i hi j hj10, ← h4, List.getElem?_take_of_lt (by omega)] at hj
    simp only [World.cell?, hb, Option.isSome_none, Bool.false_eq_true, if_false]
    rw [← Array.getElem?_toList]
    exact hj

theorem rising_eq {l l' : List Ent} (hp : l.Perm l') (h : Rising l) (h' : Rising l') : l = l' :=
  List.Perm.eq_of_pairwise (le := fun a b : Ent => macLt a.mac b.mac) (fun a b _ _ h1 h2 => by exfalso; unfold macLt at *; omega) h h' hp
theorem rising_filter {l : List Ent} (h : Rising l) (q : Ent → Bool) : Rising (l.filter q) := List.Pairwise.sublist List.filter_sublist h

theorem kth {α : Type} (l : List α) (q : α → Bool) (i : Nat) (hi : i < l.length) (hq : q l[i] = true) : (l.filter q)[((l.take i).filter q).length]? = some l[i] := by
  have h : l = l.take i ++ l[i] :: l.drop (i + 1) := by rw [List.getElem_cons_drop, List.take_append_drop]
  have h2 : l.filter q = (l.take i).filter q ++ l[i] :: (l.drop (i + 1)).filter q := by
    conv => lhs; rw [h]
    rw [List.filter_append, List.filter_cons, if_pos hq]
  rw [h2, List.getElem?_append_right (Nat.le_refl _), Nat.sub_self]
  rfl
theorem take_filter_succ {α : Type} (l : List α) (q : α → Bool) (i : Nat) (hi : i < l.length) : ((l.take (i + 1)).filter q).length = ((l.take i).filter q).length + if q l[i] then 1 else 0 := by
  rw [List.take_succ_eq_append_getElem hi, List.filter_append, List.length_append]
  cases h : q l[i] <;> simp [h]

theorem list_V2 {O : Nat → Prop} {w0 w : World} {b : Nat} {room life : Int} {es : List Ent} (F : FB O w0 w b room life es) : Calls Tryd.prog 21 #[ptr b] w fun e w' =>
    ∃ v es', e = .returned v ∧ es'.Perm es ∧ Rising es' ∧ ESl (w.heap.size + 1) w' v es' ∧ FB O w0 w' b room life es ∧ Frm (fun _ => False) w w' := by
  obtain ⟨mb, gs, he, B, hfp⟩ := F.rep
  have hN : gs.length ≤ 1048576 := by
    have h3 : gs.length = es.length := by rw [← he, List.length_map]
    have := F.len
    have := F.r64
    omega
  refine (list_any w b mb room life gs hN B (LstS w gs) (fun W v hL => sort_any w W gs v B.oks hN hL)).mono ?_
  rintro e w' ⟨v, rfl, es', hp, hs, hE, hB⟩
  rw [he] at hp
  exact ⟨v, es', rfl, hp, rising_of hp hs F.apart, hE, F.below' hB, Frm.of_below' hB _⟩

theorem cells10 {W : World} {g o : Nat} {e : Ent} (h : ∀ j u, (entCells e)[j]? = some u → W.cell? ⟨g, o + j, none⟩ = some u) :
    W.cell? ⟨g, o, none⟩ = some (.int .u8 e.mac.a) ∧ W.cell? ⟨g, o + 1, none⟩ = some (.int .u8 e.mac.b) ∧ W.cell? ⟨g, o + 2, none⟩ = some (.int .u8 e.mac.c) ∧ W.cell? ⟨g, o + 3, none⟩ = some (.int .u8 e.mac.d) ∧ W.cell? ⟨g, o + 4, none⟩ = some (.int .u8 e.mac.e) ∧ W.cell? ⟨g, o + 5, none⟩ = some (.int .u8 e.mac.f) ∧
    W.cell? ⟨g, o + 6, none⟩ = some (.bool e.place.tunnel) ∧ W.cell? ⟨g, o + 7, none⟩ = some (.int .i64 e.place.n) ∧ W.cell? ⟨g, o + 8, none⟩ = some (.int .u64 e.at_) ∧ W.cell? ⟨g, o + 9, none⟩ = some (.bool e.static) :=
  ⟨h 0 _ rfl, h 1 _ rfl, h 2 _ rfl, h 3 _ rfl, h 4 _ rfl, h 5 _ rfl, h 6 _ rfl, h 7 _ rfl, h 8 _ rfl, h 9 _ rfl⟩

set_option maxRecDepth 100000 in
set_option maxHeartbeats 8000000 in
theorem forgets_any (w : World) (room life : Int) (la : Option Addr) (n c : Nat) (hl : StepsAt w la n) (p : Place) (hall : AllAt w) :
    Calls Tryd.prog 8 #[.int .i64 room, .int .u64 life, .slice la n c, placeV p] w fun e w' => e = .returned (.bool true) ∧ Below w.heap.size w w' := by
  have hall1 : AllAt (w.alloc (.cells #[.bool p.tunnel, .int .i64 p.n] 34)) := hall.below ((Below.refl _ w).alloc (Nat.le_refl _) _) hall.hz
  have hsh := shown15_all _ hall1
  have HL := Lib.hid hl
  clear hall1 hall hl
  go_enter Tryd.func8, Tryd.ntmps8
  go_wp2_with fail
  refine hsh.mono ?_
  clear hsh
  rintro e w1 ⟨rfl, hB1⟩
  have hs1 := hB1.size
  rw [World.size_alloc] at hs1
  have hBw : Below w.heap.size w w1 := ((Below.refl _ w).alloc (Nat.le_refl _) _).trans (hB1.mono (by rw [World.size_alloc]; omega))
  have rP : Row w1 w.heap.size 34 [.bool p.tunnel, .int .i64 p.n] := (Row.new w 34 [.bool p.tunnel, .int .i64 p.n]).of_eq (hB1.block _ (by rw [World.size_alloc]; omega))
  have HL1 := Lib.hid (StepsAt.frm' HL.out hBw)
  clear hB1 HL
  go_wp2_with fail
  refine (new_V (fun k => w1.heap.size ≤ k) w1 w1 room life (Frm.refl _ _) (fun _ h => h)).mono ?_
  rintro e w2 ⟨b, rfl, F⟩
  obtain ⟨rm, hrm⟩ : ∃ rm, rm = roomOf room := ⟨_, rfl⟩
  rw [← hrm] at F
  clear hrm
  have hP : ∀ {W es}, FB (fun k => w1.heap.size ≤ k) w1 W b rm life es → Row W w.heap.size 34 [.bool p.tunnel, .int .i64 p.n] := fun F => rP.frm F.since (fun h => by omega)
  have hB : ∀ {W es}, FB (fun k => w1.heap.size ≤ k) w1 W b rm life es → Below w.heap.size w W := fun F => hBw.trans (F.below.mono (by omega))
  go_wp2_with fail
  go_loopw [11, 12] (fun tn ti wr => ∃ (j : Nat) (now : Int) (es : List Ent), j ≤ 100 ∧ ti = .int .i64 (j : Int) ∧ tn = .int .u64 now ∧ 0 ≤ now ∧ now ≤ 255 * j ∧ FB (fun k => w1.heap.size ≤ k) w1 wr b rm life es)
    (fun _ ti _ => 100 - (intOf ti).toNat)
  case atStart => exact ⟨0, 0, [], by omega, rfl, rfl, by omega, by omega, F⟩
  case round =>
    clear F
    obtain ⟨j, now, es, hj, rfl, rfl, hn0, hn1, F⟩ := hrel
    by_cases hjn : (j : Int) < (n : Int) ∧ (j : Int) < 100
    · as_aux_lemma =>
        obtain ⟨hjn, hj3⟩ := hjn
        obtain ⟨g, o, rfl, hgl, s, hs, hc⟩ := HL1.out j (by omega)
        obtain ⟨k, sm, sp, y⟩ := s
        have hW := F.below
        have hc' : ∀ i u, (stpCells ⟨k, sm, sp, y⟩)[i]? = some u → wr.cell? ⟨g, o + j * 10 + i, none⟩ = some u := fun i u hi => (hW.cell (p := ⟨g, o + j * 10 + i, none⟩) hgl).trans (hc i u hi)
        have s0 := hc' 0 _ rfl
        have s1 := hc' 1 _ rfl
        have s2 := hc' 2 _ rfl
        have s3 := hc' 3 _ rfl
        have s4 := hc' 4 _ rfl
        have s5 := hc' 5 _ rfl
        have s6 := hc' 6 _ rfl
        have s7 := hc' 7 _ rfl
        have s8 := hc' 8 _ rfl
        have s9 := hc' 9 _ rfl
        rw [Nat.add_zero] at s0
        have sl : g < wr.heap.size := Nat.lt_of_lt_of_le hgl hW.size
        have hy := hs.by_
        simp only at hy
        obtain ⟨hy0, hy1⟩ := hy
        have hwy : IntKind.u64.wrap y = y := by rw [IntKind.wrap_u64]; omega
        have hnu : u64ok (now + y) := by unfold u64ok; omega
        have hdo := does15_any F ⟨k, sm, sp, y⟩ hs (now + y) hnu
        clear hc hc' hW F
        go_wp2_with fail
        refine hdo.mono ?_
        clear hdo
        rintro e w5 ⟨rfl, es', hD, F5⟩
        go_wp2_with fail
        go_roundw
        case rel => exact ⟨j + 1, now + y, es', by omega, by go_num, rfl, by omega, by omega, F5⟩
        case measure => simp [intOf]; omega
    · have HJ := Lib.hid hjn
      by_cases hjn : (j : Int) < (n : Int)
      · have hj3 : ¬ (j : Int) < 100 := fun h => HJ.out ⟨hjn, h⟩
        clear HJ
        go_wp2_with fail
        refine (list_V2 F).mono ?_
        rintro e w4 ⟨v1, es1, rfl, hp1, hr1, hE1, F4, hf4⟩
        obtain ⟨O2, hO2, G⟩ := F.anew2 hf4
        obtain ⟨a1, cap1, rfl, hW1⟩ := ESl.at hE1
        have rP4 := (hP F).frm hf4 (fun h => h)
        have hB4 := hB F4
        have hsr := F.since.size
        have hs4 := hf4.size
        have hO2' : ∀ k, O2 k → (w1.heap.size ≤ k ∧ k < wr.heap.size) ∨ w4.heap.size ≤ k := hO2
        have hOP : ¬ O2 w.heap.size := fun h => by rcases hO2' _ h with ⟨h, _⟩ | h <;> omega
        have hO1 : ∀ g, wr.heap.size + 1 ≤ g → g < w4.heap.size → ¬ O2 g := fun g h1 h2 h => by rcases hO2' _ h with ⟨_, h⟩ | h <;> omega
        have hOw : ∀ k, O2 k → ¬ k < w.heap.size := fun k h => by rcases hO2' _ h with ⟨h, _⟩ | h <;> omega
        have q0 := rP4.cell 0
        have q1 := rP4.cell 1
        simp at q0 q1
        have ql := rP4.lt
        clear hE1 hP hB F F4 rP hBw hf4
        go_wp2_with fail
        refine (forget_V G p).mono ?_
        rintro e w5 ⟨rfl, G5⟩
        obtain ⟨es2, he2⟩ : ∃ es2, es2 = restV (fun e => decide (e.place = p)) es := ⟨_, rfl⟩
        rw [← he2] at G5 ⊢
        obtain ⟨d, hd⟩ : ∃ d : Int, d = (es.length : Int) - es2.length := ⟨_, rfl⟩
        rw [← hd]
        have HD := Lib.hid hd
        have HE2 := Lib.hid he2
        clear q0 q1 ql hd he2
        go_wp2_with fail
        refine (list_V2 G5).mono ?_
        rintro e w6 ⟨v3, es3, rfl, hp3, hr3, hE3, G6, -⟩
        obtain ⟨a3, cap3, rfl, hW3⟩ := ESl.at hE3
        have h3e : es3 = es1.filter (fun e => !decide (e.place = p)) := by
          refine rising_eq (hp3.trans ?_) hr3 (rising_filter hr1 _)
          rw [HE2.out]
          exact (hp1.filter _).symm
        have h31 : (es1.length : Int) - es3.length = d := by rw [HD.out, hp1.length_eq, hp3.length_eq]
        have HSZ1 : Hid (es1.length ≤ 64) := Lib.hid (by have h1 := G.len; have h2 := G.r64; rw [hp1.length_eq]; omega)
        have hok1 : ∀ e ∈ es1, e.mac.ok := fun e he => (G.oks e (hp1.subset he)).mac
        have rP6 := rP4.frm G6.since hOP
        have hB6 : Below w.heap.size w w6 := hB4.trans (G6.since.to_below hB4.size (fun i hi h => hOw i h hi))
        have hW6 : ∀ i (hi : i < es1.length), ∃ g, a1 = some ⟨g, 0, none⟩ ∧ g < w6.heap.size ∧ es1.length ≤ cap1 ∧ ∀ j u, (entCells es1[i])[j]? = some u → w6.cell? ⟨g, i * 10 + j, none⟩ = some u := fun i hi => by
          obtain ⟨g, h1, h2, h3, h4, h5⟩ := hW1 i hi
          exact ⟨g, h1, Nat.lt_of_lt_of_le h3 G6.since.size, h4, fun j u hj => (cells_of_heap (G6.since.keep g h3 (hO1 g h2 h3))).trans (h5 j u hj)⟩
        have HW := Lib.hid hW6
        have HI := Lib.hid hW3
        have H3 := Lib.hid h3e
        have HOK := Lib.hid hok1
        have H31 := Lib.hid h31
        clear hW1 hW3 hE3 G G5 G6 hp1 hp3 hr1 hr3 rP4 hOP hO1 hOw hO2 hO2' hW6 HD HE2 h3e hok1 h31 hB4 HL1
        have hsz1 : es1.length ≤ 64 := HSZ1.out
        have hsz3 : es3.length ≤ es1.length := by rw [H3.out]; exact List.length_filter_le _ _
        go_wp2_with fail
        go_loopw [16, 17] (fun tk ti wx => ∃ i : Nat, i ≤ es1.length ∧ ti = .int .i64 (i : Int) ∧ tk = .int .i64 (((es1.take i).filter (fun e => !decide (e.place = p))).length : Int) ∧ Frm (fun _ => False) w6 wx) (fun _ ti _ => es1.length - (intOf ti).toNat)
        case atStart => exact ⟨0, Nat.zero_le _, rfl, rfl, Frm.refl _ _⟩
        case round =>
          obtain ⟨i, hi, rfl, rfl, fx⟩ := hrel
          by_cases hlt : i < es1.length
          · as_aux_lemma =>
              obtain ⟨g1, rfl, hg1, hc1, hcell⟩ := HW.out i hlt
              obtain ⟨e, he⟩ : ∃ e, e = es1[i] := ⟨_, rfl⟩
              rw [← he] at hcell
              have hcx : ∀ j u, (entCells e)[j]? = some u → wr.cell? ⟨g1, i * 10 + j, none⟩ = some u := fun j u hj => (cells_of_heap (fx.keep g1 hg1 (fun h => h))).trans (hcell j u hj)
              obtain ⟨s0, s1, s2, s3, s4, s5, s6, s7, s8, s9⟩ := cells10 hcx
              have sl : g1 < wr.heap.size := Nat.lt_of_lt_of_le hg1 fx.size
              have rPx := rP6.frm fx (fun h => h)
              have q0 := rPx.cell 0
              have q1 := rPx.cell 1
              simp at q0 q1
              have ql := rPx.lt
              have hpe := fun W => place_eql e.place p W
              have hpg := placeGuard
              have HSUC := Lib.hid (take_filter_succ es1 (fun e => !decide (e.place = p)) i hlt)
              have HKTH := Lib.hid (kth es1 (fun e => !decide (e.place = p)) i hlt)
              have HE := Lib.hid he
              have HOKE := Lib.hid (HOK.out e (by rw [he]; exact List.getElem_mem hlt))
              obtain ⟨kk, hkk⟩ : ∃ kk, kk = ((es1.take i).filter (fun e => !decide (e.place = p))).length := ⟨_, rfl⟩
              rw [← hkk]
              have HKK := Lib.hid hkk
              clear hcell hcx he hkk
              by_cases hq : e.place = p
              · have hq1 : ((es1.take (i + 1)).filter (fun e => !decide (e.place = p))).length = kk := by
                  rw [HSUC.out, ← HE.out, ← HKK.out]
                  simp [hq]
                have HQ1 := Lib.hid hq1
                rw [decide_eq_true hq] at hpe
                clear hq hq1
                go_wp2_with fail
                go_quiet (fail)
                go_wp2_with fail
                go_roundw
                case rel => exact ⟨i + 1, by omega, by go_num, by rw [HQ1.out], fx.drewN _⟩
                case measure => simp [intOf]; omega
              · have hq1 : ((es1.take (i + 1)).filter (fun e => !decide (e.place = p))).length = kk + 1 := by
                  rw [HSUC.out, ← HE.out, ← HKK.out]
                  simp [hq]
                have hkth : es3[kk]? = some e := by
                  rw [H3.out, HKK.out, HKTH.out (by rw [← HE.out]; simp [hq]), ← HE.out]
                have HQ1 := Lib.hid hq1
                rw [decide_eq_false hq] at hpe
                obtain ⟨hk3, hk3e⟩ := List.getElem?_eq_some_iff.1 hkth
                obtain ⟨g3, rfl, _, hg3, hc3, hcell⟩ := HI.out kk hk3
                rw [hk3e] at hcell
                have hcx : ∀ j u, (entCells e)[j]? = some u → wr.cell? ⟨g3, kk * 10 + j, none⟩ = some u := fun j u hj => (cells_of_heap (fx.keep g3 hg3 (fun h => h))).trans (hcell j u hj)
                obtain ⟨t0, t1, t2, t3, t4, t5, t6, t7, t8, t9⟩ := cells10 hcx
                have tl : g3 < wr.heap.size := Nat.lt_of_lt_of_le hg3 fx.size
                have hen := fun W => ent_same e HOKE.out W
                have heg := entGuard
                have hdec : decide (es3.length ≤ kk) = false := decide_eq_false (by omega)
                clear hq hq1 hkth hcell hcx hk3e
                go_wp2_with fail
                go_quiet (fail)
                go_wp2_with fail
                go_big_quiet (fail)
                go_wp2_with fail
                go_roundw
                case rel => exact ⟨i + 1, by omega, by go_num, by rw [HQ1.out]; go_num, fx.drewN _⟩
                case measure => simp [intOf]; omega
          · obtain rfl : i = es1.length := by omega
            rw [List.take_length, ← H3.out]
            have h31 := H31.out
            have HB := Lib.hid (hB6.trans (fx.to_below hB6.size (fun _ _ h => h)))
            clear H3 H31 HW HI HOK
            go_wp2_with fail
            go_ret
            exact ⟨rfl, HB.out⟩
      · clear HJ
        go_wp2_with fail
        refine (list_V2 F).mono ?_
        rintro e w4 ⟨v1, es1, rfl, hp1, hr1, hE1, F4, hf4⟩
        obtain ⟨O2, hO2, G⟩ := F.anew2 hf4
        obtain ⟨a1, cap1, rfl, hW1⟩ := ESl.at hE1
        have rP4 := (hP F).frm hf4 (fun h => h)
        have hB4 := hB F4
        have hsr := F.since.size
        have hs4 := hf4.size
        have hO2' : ∀ k, O2 k → (w1.heap.size ≤ k ∧ k < wr.heap.size) ∨ w4.heap.size ≤ k := hO2
        have hOP : ¬ O2 w.heap.size := fun h => by rcases hO2' _ h with ⟨h, _⟩ | h <;> omega
        have hO1 : ∀ g, wr.heap.size + 1 ≤ g → g < w4.heap.size → ¬ O2 g := fun g h1 h2 h => by rcases hO2' _ h with ⟨_, h⟩ | h <;> omega
        have hOw : ∀ k, O2 k → ¬ k < w.heap.size := fun k h => by rcases hO2' _ h with ⟨h, _⟩ | h <;> omega
        have q0 := rP4.cell 0
        have q1 := rP4.cell 1
        simp at q0 q1
        have ql := rP4.lt
        clear hE1 hP hB F F4 rP hBw hf4
        go_wp2_with fail
        refine (forget_V G p).mono ?_
        rintro e w5 ⟨rfl, G5⟩
        obtain ⟨es2, he2⟩ : ∃ es2, es2 = restV (fun e => decide (e.place = p)) es := ⟨_, rfl⟩
        rw [← he2] at G5 ⊢
        obtain ⟨d, hd⟩ : ∃ d : Int, d = (es.length : Int) - es2.length := ⟨_, rfl⟩
        rw [← hd]
        have HD := Lib.hid hd
        have HE2 := Lib.hid he2
        clear q0 q1 ql hd he2
        go_wp2_with fail
        refine (list_V2 G5).mono ?_
        rintro e w6 ⟨v3, es3, rfl, hp3, hr3, hE3, G6, -⟩
        obtain ⟨a3, cap3, rfl, hW3⟩ := ESl.at hE3
        have h3e : es3 = es1.filter (fun e => !decide (e.place = p)) := by
          refine rising_eq (hp3.trans ?_) hr3 (rising_filter hr1 _)
          rw [HE2.out]
          exact (hp1.filter _).symm
        have h31 : (es1.length : Int) - es3.length = d := by rw [HD.out, hp1.length_eq, hp3.length_eq]
        have HSZ1 : Hid (es1.length ≤ 64) := Lib.hid (by have h1 := G.len; have h2 := G.r64; rw [hp1.length_eq]; omega)
        have hok1 : ∀ e ∈ es1, e.mac.ok := fun e he => (G.oks e (hp1.subset he)).mac
        have rP6 := rP4.frm G6.since hOP
        have hB6 : Below w.heap.size w w6 := hB4.trans (G6.since.to_below hB4.size (fun i hi h => hOw i h hi))
        have hW6 : ∀ i (hi : i < es1.length), ∃ g, a1 = some ⟨g, 0, none⟩ ∧ g < w6.heap.size ∧ es1.length ≤ cap1 ∧ ∀ j u, (entCells es1[i])[j]? = some u → w6.cell? ⟨g, i * 10 + j, none⟩ = some u := fun i hi => by
          obtain ⟨g, h1, h2, h3, h4, h5⟩ := hW1 i hi
          exact ⟨g, h1, Nat.lt_of_lt_of_le h3 G6.since.size, h4, fun j u hj => (cells_of_heap (G6.since.keep g h3 (hO1 g h2 h3))).trans (h5 j u hj)⟩
        have HW := Lib.hid hW6
        have HI := Lib.hid hW3
        have H3 := Lib.hid h3e
        have HOK := Lib.hid hok1
        have H31 := Lib.hid h31
        clear hW1 hW3 hE3 G G5 G6 hp1 hp3 hr1 hr3 rP4 hOP hO1 hOw hO2 hO2' hW6 HD HE2 h3e hok1 h31 hB4 HL1
        have hsz1 : es1.length ≤ 64 := HSZ1.out
        have hsz3 : es3.length ≤ es1.length := by rw [H3.out]; exact List.length_filter_le _ _
        go_wp2_with fail
        go_loopw [16, 17] (fun tk ti wx => ∃ i : Nat, i ≤ es1.length ∧ ti = .int .i64 (i : Int) ∧ tk = .int .i64 (((es1.take i).filter (fun e => !decide (e.place = p))).length : Int) ∧ Frm (fun _ => False) w6 wx) (fun _ ti _ => es1.length - (intOf ti).toNat)
        case atStart => exact ⟨0, Nat.zero_le _, rfl, rfl, Frm.refl _ _⟩
        case round =>
          obtain ⟨i, hi, rfl, rfl, fx⟩ := hrel
          by_cases hlt : i < es1.length
          · as_aux_lemma =>
              obtain ⟨g1, rfl, hg1, hc1, hcell⟩ := HW.out i hlt
              obtain ⟨e, he⟩ : ∃ e, e = es1[i] := ⟨_, rfl⟩
              rw [← he] at hcell
              have hcx : ∀ j u, (entCells e)[j]? = some u → wr.cell? ⟨g1, i * 10 + j, none⟩ = some u := fun j u hj => (cells_of_heap (fx.keep g1 hg1 (fun h => h))).trans (hcell j u hj)
              obtain ⟨s0, s1, s2, s3, s4, s5, s6, s7, s8, s9⟩ := cells10 hcx
              have sl : g1 < wr.heap.size := Nat.lt_of_lt_of_le hg1 fx.size
              have rPx := rP6.frm fx (fun h => h)
              have q0 := rPx.cell 0
              have q1 := rPx.cell 1
              simp at q0 q1
              have ql := rPx.lt
              have hpe := fun W => place_eql e.place p W
              have hpg := placeGuard
              have HSUC := Lib.hid (take_filter_succ es1 (fun e => !decide (e.place = p)) i hlt)
              have HKTH := Lib.hid (kth es1 (fun e => !decide (e.place = p)) i hlt)
              have HE := Lib.hid he
              have HOKE := Lib.hid (HOK.out e (by rw [he]; exact List.getElem_mem hlt))
              obtain ⟨kk, hkk⟩ : ∃ kk, kk = ((es1.take i).filter (fun e => !decide (e.place = p))).length := ⟨_, rfl⟩
              rw [← hkk]
              have HKK := Lib.hid hkk
              clear hcell hcx he hkk
              by_cases hq : e.place = p
              · have hq1 : ((es1.take (i + 1)).filter (fun e => !decide (e.place = p))).length = kk := by
                  rw [HSUC.out, ← HE.out, ← HKK.out]
                  simp [hq]
                have HQ1 := Lib.hid hq1
                rw [decide_eq_true hq] at hpe
                clear hq hq1
                go_wp2_with fail
                go_quiet (fail)
                go_wp2_with fail
                go_roundw
                case rel => exact ⟨i + 1, by omega, by go_num, by rw [HQ1.out], fx.drewN _⟩
                case measure => simp [intOf]; omega
              · have hq1 : ((es1.take (i + 1)).filter (fun e => !decide (e.place = p))).length = kk + 1 := by
                  rw [HSUC.out, ← HE.out, ← HKK.out]
                  simp [hq]
                have hkth : es3[kk]? = some e := by
                  rw [H3.out, HKK.out, HKTH.out (by rw [← HE.out]; simp [hq]), ← HE.out]
                have HQ1 := Lib.hid hq1
                rw [decide_eq_false hq] at hpe
                obtain ⟨hk3, hk3e⟩ := List.getElem?_eq_some_iff.1 hkth
                obtain ⟨g3, rfl, _, hg3, hc3, hcell⟩ := HI.out kk hk3
                rw [hk3e] at hcell
                have hcx : ∀ j u, (entCells e)[j]? = some u → wr.cell? ⟨g3, kk * 10 + j, none⟩ = some u := fun j u hj => (cells_of_heap (fx.keep g3 hg3 (fun h => h))).trans (hcell j u hj)
                obtain ⟨t0, t1, t2, t3, t4, t5, t6, t7, t8, t9⟩ := cells10 hcx
                have tl : g3 < wr.heap.size := Nat.lt_of_lt_of_le hg3 fx.size
                have hen := fun W => ent_same e HOKE.out W
                have heg := entGuard
                have hdec : decide (es3.length ≤ kk) = false := decide_eq_false (by omega)
                clear hq hq1 hkth hcell hcx hk3e
                go_wp2_with fail
                go_quiet (fail)
                go_wp2_with fail
                go_big_quiet (fail)
                go_wp2_with fail
                go_roundw
                case rel => exact ⟨i + 1, by omega, by go_num, by rw [HQ1.out]; go_num, fx.drewN _⟩
                case measure => simp [intOf]; omega
          · obtain rfl : i = es1.length := by omega
            rw [List.take_length, ← H3.out]
            have h31 := H31.out
            have HB := Lib.hid (hB6.trans (fx.to_below hB6.size (fun _ _ h => h)))
            clear H3 H31 HW HI HOK
            go_wp2_with fail
            go_ret
            exact ⟨rfl, HB.out⟩
end V
end Go.Proofs.YtmddhglhfgomiaaDoor
