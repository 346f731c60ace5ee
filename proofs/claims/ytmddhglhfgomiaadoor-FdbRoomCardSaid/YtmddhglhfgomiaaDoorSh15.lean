/- law 15: shown. Conditions: none. -/
import Derived.Test.YtmddhglhfgomiaaDoorFW
namespace Go.Proofs.YtmddhglhfgomiaaDoor
open Go Go.RowKit Go.Maps
namespace V

theorem learnV_new {room : Int} {es es' : List Ent} {m : Mac} {p : Place} {now : Int} {moved : Bool} {code : Int} (h : LearnV room es m p now moved code es') (hg : groupB m = false) (hf : findE es m = none) (hr : (es.length : Int) < room) :
    moved = false ∧ code = 0 ∧ es' = es ++ [⟨m, p, now, false⟩] := by
  unfold LearnV at h
  rw [if_neg (by rw [hg]; simp), hf] at h
  obtain ⟨h1, h2⟩ := h
  rcases h2 with ⟨_, h3, h4⟩ | ⟨h3, _⟩
  · exact ⟨h1, h3, h4⟩
  · omega
theorem staticV_new {room : Int} {es es' : List Ent} {m : Mac} {p : Place} {code : Int} (h : StaticV room es m p code es') (hg : groupB m = false) (hf : findE es m = none) (hr : (es.length : Int) < room) :
    code = 0 ∧ es' = es ++ [⟨m, p, 0, true⟩] := by
  unfold StaticV at h
  rw [if_neg (by rw [hg]; simp), hf] at h
  rcases h with ⟨_, h3, h4⟩ | ⟨h3, _⟩
  · exact ⟨h3, h4⟩
  · omega

abbrev m2 : Mac := ⟨2, 0, 0, 0, 0, 0⟩
abbrev m4 : Mac := ⟨4, 0, 0, 0, 0, 0⟩
abbrev m6 : Mac := ⟨6, 0, 0, 0, 0, 0⟩
abbrev mAll : Mac := ⟨255, 255, 255, 255, 255, 255⟩
abbrev p3 : Place := ⟨false, 3⟩
abbrev q3 : Place := ⟨true, 3⟩
theorem zero_ok : u8ok 0 := ⟨by decide, by decide⟩
theorem small_ok (x : Int) (h0 : 0 ≤ x) (h : x < 256) : (⟨x, 0, 0, 0, 0, 0⟩ : Mac).ok := ⟨⟨h0, h⟩, zero_ok, zero_ok, zero_ok, zero_ok, zero_ok⟩
theorem mAll_ok : mAll.ok := ⟨⟨by decide, by decide⟩, ⟨by decide, by decide⟩, ⟨by decide, by decide⟩, ⟨by decide, by decide⟩, ⟨by decide, by decide⟩, ⟨by decide, by decide⟩⟩

theorem lastV {es' : List Ent} {moved : Bool} {code : Int} (h : LearnV 2 [⟨m2, q3, 6, false⟩, ⟨m4, p3, 0, true⟩] m6 p3 7 moved code es') : es' = [⟨m4, p3, 0, true⟩, ⟨m6, p3, 7, false⟩] := by
  unfold LearnV at h
  rw [if_neg (by decide), show findE [⟨m2, q3, 6, false⟩, ⟨m4, p3, 0, true⟩] m6 = none from by decide] at h
  rcases h.2 with ⟨h1, _⟩ | ⟨_, ⟨h1, _⟩ | ⟨v, hv, _, h2⟩⟩
  · simp at h1
  · have := h1 ⟨m2, q3, 6, false⟩ (by simp)
    cases this
  · obtain ⟨h3, h4, _⟩ := hv
    simp at h3
    rcases h3 with rfl | rfl
    · rw [h2]; decide
    · cases h4

theorem two_rising {es' : List Ent} (hp : es'.Perm [⟨m4, p3, 0, true⟩, ⟨m6, p3, 7, false⟩]) (hr : Rising es') : es' = [⟨m4, p3, 0, true⟩, ⟨m6, p3, 7, false⟩] := by
  have hl := hp.length_eq
  match es', hl with
  | [x, y], _ =>
    have hx : x ∈ [(⟨m4, p3, 0, true⟩ : Ent), ⟨m6, p3, 7, false⟩] := hp.subset (by simp)
    have hy : y ∈ [(⟨m4, p3, 0, true⟩ : Ent), ⟨m6, p3, 7, false⟩] := hp.subset (by simp)
    have hxy : macLt x.mac y.mac := by
      unfold Rising at hr
      simpa using hr
    simp only [List.mem_cons, List.not_mem_nil, or_false] at hx hy
    rcases hx with rfl | rfl <;> rcases hy with rfl | rfl
    · exfalso; revert hxy; unfold macLt; decide
    · rfl
    · exfalso; revert hxy; unfold macLt; decide
    · exfalso; revert hxy; unfold macLt; decide

/-- A slice of entries, cell by cell. -/
theorem ESl.cells {B : Nat} {w : World} {v : Value} {es : List Ent} (h : ESl B w v es) (hne : es ≠ []) : ∃ g cap, v = .slice (some ⟨g, 0, none⟩) es.length cap ∧ B ≤ g ∧ g < w.heap.size ∧ es.length ≤ cap ∧ ∀ j u, (es.flatMap entCells)[j]? = some u → w.cell? ⟨g, j, none⟩ = some u := by
  rcases h.2 with ⟨_, h0⟩ | ⟨g, cap, cur, rfl, hbase, hb, h1, h2, h3, h4⟩
  · exact absurd (List.eq_nil_of_length_eq_zero h0) hne
  · refine ⟨g, cap, rfl, hbase, heap_lt hb, h1, fun j u hj => ?_⟩
    have hjl : j < es.length * 10 := by
      have := (List.getElem?_eq_some_iff.1 hj).1
      rwa [h.1] at this
    rw [← h4, List.getElem?_take_of_lt hjl] at hj
    simp only [World.cell?, hb, Option.isSome_none, Bool.false_eq_true, if_false]
    rw [← Array.getElem?_toList]
    exact hj

set_option maxRecDepth 100000 in
set_option maxHeartbeats 4000000 in
theorem shown15_any (w : World) (hz : 0 < w.heap.size) (a0 : w.cell? ⟨0, 0, none⟩ = some (.int .u8 255)) (a1 : w.cell? ⟨0, 1, none⟩ = some (.int .u8 255)) (a2 : w.cell? ⟨0, 2, none⟩ = some (.int .u8 255)) (a3 : w.cell? ⟨0, 3, none⟩ = some (.int .u8 255))
    (a4 : w.cell? ⟨0, 4, none⟩ = some (.int .u8 255)) (a5 : w.cell? ⟨0, 5, none⟩ = some (.int .u8 255)) : Calls Tryd.prog 18 #[] w fun e w' => e = .returned (.bool true) ∧ Below w.heap.size w w' := by
  go_enter Tryd.func18, Tryd.ntmps18
  go_wp2_with fail
  refine (new_V (fun k => w.heap.size ≤ k) w w 2 10 (Frm.refl _ _) (fun _ h => h)).mono ?_
  rintro e w1 ⟨b, rfl, F⟩
  rw [show roomOf 2 = 2 from by decide] at F
  go_wp2_with fail
  obtain ⟨wA, hwA⟩ : ∃ wA, wA = (w1.alloc (.cells #[.bool false, .int .i64 3] 34)).alloc (.cells #[.bool true, .int .i64 3] 34) := ⟨_, rfl⟩
  rw [← hwA]
  have hf : Frm (fun _ => False) w1 wA := by rw [hwA]; exact ((Frm.refl _ _).alloc _).alloc _
  have hsA : wA.heap.size = w1.heap.size + 2 := by rw [hwA]; simp
  have rP : Row wA w1.heap.size 34 [.bool false, .int .i64 3] := by rw [hwA]; exact (Row.new w1 34 [.bool false, .int .i64 3]).alloc _
  have rQ : Row wA (w1.heap.size + 1) 34 [.bool true, .int .i64 3] := by
    rw [hwA]
    have h := Row.new (w1.alloc (.cells #[.bool false, .int .i64 3] 34)) 34 [.bool true, .int .i64 3]
    rwa [World.size_alloc] at h
  obtain ⟨O, hO, FA⟩ := F.anew2 hf
  have hs1 := F.since.size
  have hBA : Below w.heap.size w wA := F.below.trans (hf.to_below hs1 (fun _ _ h => h))
  have hP : ∀ {W es}, FB O wA W b 2 10 es → Row W w1.heap.size 34 [.bool false, .int .i64 3] := fun F => rP.frm F.since (fun h => by rcases hO _ h with h | h <;> omega)
  have hQ : ∀ {W es}, FB O wA W b 2 10 es → Row W (w1.heap.size + 1) 34 [.bool true, .int .i64 3] := fun F => rQ.frm F.since (fun h => by rcases hO _ h with h | h <;> omega)
  have hB : ∀ {W es}, FB O wA W b 2 10 es → Below w.heap.size w W := fun F => hBA.trans (F.since.to_below hBA.size (fun i hi h => by rcases hO _ h with ⟨h, _⟩ | h <;> omega))
  have hnO : ∀ k, O k → ¬ (k = w1.heap.size ∨ k = w1.heap.size + 1) := fun k h => by rcases hO _ h with h | h <;> omega
  have hwO : ∀ k, O k → ¬ k < w.heap.size := fun k h => by rcases hO _ h with ⟨h, _⟩ | h <;> omega
  have hu : ∀ n : Int, 0 ≤ n → n < 100 → u64ok n := fun n h1 h2 => by unfold u64ok; omega
  clear rP rQ hwA hf hsA hBA F hO hs1
  -- 2 is learned
  refine (learn_V FA m2 (small_ok 2 (by decide) (by decide)) p3 5 (hu 5 (by decide) (by decide))).mono ?_
  rintro e w2 ⟨moved, code, es', rfl, hL, F⟩
  obtain ⟨rfl, rfl, rfl⟩ := learnV_new hL (by decide) rfl (by decide)
  clear hL FA
  have z0 := (hP F).cell 0
  have z1 := (hP F).cell 1
  have y0 := (hQ F).cell 0
  have y1 := (hQ F).cell 1
  simp at z0 z1 y0 y1
  have zl := (hP F).lt
  have yl := (hQ F).lt
  go_wp2_with fail
  refine (learn_V F m2 (small_ok 2 (by decide) (by decide)) q3 6 (hu 6 (by decide) (by decide))).mono ?_
  rintro e w3 ⟨moved, code, es', rfl, hL, F3⟩
  obtain ⟨rfl, rfl, rfl⟩ : moved = true ∧ code = 0 ∧ es' = [⟨m2, q3, 6, false⟩] := by
    revert hL
    unfold LearnV
    rw [if_neg (by decide), show findE ([] ++ [⟨m2, p3, 5, false⟩]) m2 = some ⟨m2, p3, 5, false⟩ from by decide]
    rintro ⟨h1, h2, h3⟩
    exact ⟨h1.trans (by decide), h2, h3.trans (by decide)⟩
  clear hL F z0 z1 y0 y1 zl yl
  have z0 := (hP F3).cell 0
  have z1 := (hP F3).cell 1
  have y0 := (hQ F3).cell 0
  have y1 := (hQ F3).cell 1
  simp at z0 z1 y0 y1
  have zl := (hP F3).lt
  have yl := (hQ F3).lt
  have A0 := ((hB F3).cell (p := ⟨0, 0, none⟩) hz).trans a0
  have A1 := ((hB F3).cell (p := ⟨0, 1, none⟩) hz).trans a1
  have A2 := ((hB F3).cell (p := ⟨0, 2, none⟩) hz).trans a2
  have A3 := ((hB F3).cell (p := ⟨0, 3, none⟩) hz).trans a3
  have A4 := ((hB F3).cell (p := ⟨0, 4, none⟩) hz).trans a4
  have A5 := ((hB F3).cell (p := ⟨0, 5, none⟩) hz).trans a5
  have zz : 0 < w3.heap.size := Nat.lt_of_lt_of_le hz (hB F3).size
  go_wp2_with fail
  refine (learn_V F3 mAll mAll_ok q3 6 (hu 6 (by decide) (by decide))).mono ?_
  rintro e w4 ⟨moved, code, es', rfl, hL, F⟩
  obtain ⟨rfl, rfl, rfl⟩ : moved = false ∧ code = 1 ∧ es' = [⟨m2, q3, 6, false⟩] := by
    revert hL
    unfold LearnV
    rw [if_pos (by decide)]
    exact id
  clear hL F3 z0 z1 y0 y1 zl yl A0 A1 A2 A3 A4 A5 zz
  go_wp2_with fail
  have hfd := find_V F m2 (small_ok 2 (by decide) (by decide)) 15 (hu 15 (by decide) (by decide))
  rw [show seenV 10 15 (findE [⟨m2, q3, 6, false⟩] m2) = some q3 from by decide] at hfd
  refine hfd.mono ?_
  clear hfd F
  rintro e w5 ⟨rfl, F⟩
  go_wp2_with fail
  obtain ⟨wX, hwX⟩ : ∃ wX, wX = w5.alloc (.cells #[.bool true, .int .i64 3] 34) := ⟨_, rfl⟩
  have rX : Row wX w5.heap.size 34 [.bool true, .int .i64 3] := by rw [hwX]; exact Row.new w5 34 [.bool true, .int .i64 3]
  rw [← hwX]
  have fX : Frm (fun _ => False) w5 wX := by rw [hwX]; exact (Frm.refl _ _).alloc _
  have hsX : wX.heap.size = w5.heap.size + 1 := by rw [hwX]; simp
  obtain ⟨O2, hO2, G⟩ := F.anew2 fX
  have lP := (hP F).lt
  have lQ := (hQ F).lt
  have rP2 := (hP F).frm fX (fun h => h)
  have rQ2 := (hQ F).frm fX (fun h => h)
  have hBX : Below w.heap.size w wX := (hB F).trans (fX.to_below (hB F).size (fun _ _ h => h))
  have hl5 := (hB F).size
  have nP : ¬ O2 w1.heap.size := fun h => by rcases hO2 _ h with ⟨h, _⟩ | h; exact hnO _ h (.inl rfl); omega
  have nQ : ¬ O2 (w1.heap.size + 1) := fun h => by rcases hO2 _ h with ⟨h, _⟩ | h; exact hnO _ h (.inr rfl); omega
  have nX : ¬ O2 w5.heap.size := fun h => by rcases hO2 _ h with ⟨_, h⟩ | h <;> omega
  have jP : ∀ {W es}, FB O2 wX W b 2 10 es → Row W w1.heap.size 34 [.bool false, .int .i64 3] := fun F => rP2.frm F.since nP
  have jQ : ∀ {W es}, FB O2 wX W b 2 10 es → Row W (w1.heap.size + 1) 34 [.bool true, .int .i64 3] := fun F => rQ2.frm F.since nQ
  have jX : ∀ {W es}, FB O2 wX W b 2 10 es → Row W w5.heap.size 34 [.bool true, .int .i64 3] := fun F => rX.frm F.since nX
  have jB : ∀ {W es}, FB O2 wX W b 2 10 es → Below w.heap.size w W := fun F => hBX.trans (F.since.to_below hBX.size (fun i hi h => by rcases hO2 _ h with ⟨h, _⟩ | h; exact hwO _ h hi; omega))
  clear hwX hsX lP lQ rP2 rQ2 hBX hl5 nP nQ nX rX hP hQ hB hO2 fX hnO hwO F
  have hfd := find_V G m2 (small_ok 2 (by decide) (by decide)) 16 (hu 16 (by decide) (by decide))
  rw [show seenV 10 16 (findE [⟨m2, q3, 6, false⟩] m2) = none from by decide] at hfd
  refine hfd.mono ?_
  clear hfd G
  rintro e w6 ⟨rfl, G⟩
  have z0 := (jP G).cell 0
  have z1 := (jP G).cell 1
  simp at z0 z1
  have zl := (jP G).lt
  go_wp2_with fail
  refine (static_V (G.alloc _) m4 (small_ok 4 (by decide) (by decide)) p3).mono ?_
  rintro e w7 ⟨code, es', rfl, hL, G7⟩
  obtain ⟨rfl, rfl⟩ := staticV_new hL (by decide) (by decide) (by decide)
  clear hL G z0 z1 zl
  have z0 := (jP G7).cell 0
  have z1 := (jP G7).cell 1
  simp at z0 z1
  have zl := (jP G7).lt
  go_wp2_with fail
  refine (learn_V G7 m6 (small_ok 6 (by decide) (by decide)) p3 7 (hu 7 (by decide) (by decide))).mono ?_
  rintro e w8 ⟨moved, code, es', rfl, hL, G⟩
  obtain rfl := lastV hL
  clear hL G7 z0 z1 zl
  go_wp2_with fail
  refine (list_V G).mono ?_
  rintro e w9 ⟨v, es', rfl, hp, hr, hE, G9⟩
  obtain rfl := two_rising hp hr
  clear hp hr G
  obtain ⟨g, cap, rfl, _, hgl, hcap, hcell⟩ := ESl.cells hE (by simp)
  have e9 := hcell 9 (.bool true) rfl
  have f0 := hcell 10 (.int .u8 6) rfl
  have f1 := hcell 11 (.int .u8 0) rfl
  have f2 := hcell 12 (.int .u8 0) rfl
  have f3 := hcell 13 (.int .u8 0) rfl
  have f4 := hcell 14 (.int .u8 0) rfl
  have f5 := hcell 15 (.int .u8 0) rfl
  have x0 := (jX G9).cell 0
  have x1 := (jX G9).cell 1
  have q0 := (jQ G9).cell 0
  have q1 := (jQ G9).cell 1
  simp at x0 x1 q0 q1
  have xl := (jX G9).lt
  have ql := (jQ G9).lt
  have hme := fun W => mac_eql (small_ok 6 (by decide) (by decide)) (small_ok 6 (by decide) (by decide)) W
  have hpe := fun W => place_eql q3 q3 W
  rw [show decide (m6 = m6) = true from by decide] at hme
  rw [show decide (q3 = q3) = true from by decide] at hpe
  have hg1 := macGuard
  have hg2 := placeGuard
  have HB := Lib.hid (jB G9)
  clear hE hcell jP jQ jX jB G9
  simp only [List.length_cons, List.length_nil] at hcap
  go_wp2_with fail
  go_ret
  exact ⟨rfl, HB.out⟩
end V
end Go.Proofs.YtmddhglhfgomiaaDoor
