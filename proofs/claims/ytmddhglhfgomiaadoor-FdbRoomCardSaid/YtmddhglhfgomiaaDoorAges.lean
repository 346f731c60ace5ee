/- law 15: FdbAges. Conditions: none. -/
import Derived.Test.YtmddhglhfgomiaaDoorSh15
namespace Go.Proofs.YtmddhglhfgomiaaDoor
open Go Go.RowKit Go.Maps
namespace V

structure AllAt (w : World) : Prop where
  hz : 0 < w.heap.size
  a0 : w.cell? ⟨0, 0, none⟩ = some (.int .u8 255)
  a1 : w.cell? ⟨0, 1, none⟩ = some (.int .u8 255)
  a2 : w.cell? ⟨0, 2, none⟩ = some (.int .u8 255)
  a3 : w.cell? ⟨0, 3, none⟩ = some (.int .u8 255)
  a4 : w.cell? ⟨0, 4, none⟩ = some (.int .u8 255)
  a5 : w.cell? ⟨0, 5, none⟩ = some (.int .u8 255)
theorem AllAt.below {w w' : World} {B : Nat} (h : AllAt w) (hb : Below B w w') (hB : 0 < B) : AllAt w' :=
  ⟨Nat.lt_of_lt_of_le h.hz hb.size, (hb.cell (p := ⟨0, 0, none⟩) hB).trans h.a0, (hb.cell (p := ⟨0, 1, none⟩) hB).trans h.a1, (hb.cell (p := ⟨0, 2, none⟩) hB).trans h.a2, (hb.cell (p := ⟨0, 3, none⟩) hB).trans h.a3, (hb.cell (p := ⟨0, 4, none⟩) hB).trans h.a4, (hb.cell (p := ⟨0, 5, none⟩) hB).trans h.a5⟩
theorem shown15_all (w : World) (h : AllAt w) : Calls Tryd.prog 18 #[] w fun e w' => e = .returned (.bool true) ∧ Below w.heap.size w w' := shown15_any w h.hz h.a0 h.a1 h.a2 h.a3 h.a4 h.a5

theorem and62 (x : Int) : 0 ≤ bits .and .u64 x 4611686018427387903 ∧ bits .and .u64 x 4611686018427387903 < 4611686018427387904 := by
  have h : (BitVec.ofInt 64 x &&& BitVec.ofInt 64 4611686018427387903).toNat ≤ 4611686018427387903 := by
    rw [BitVec.toNat_and]
    exact Nat.le_trans Nat.and_le_right (by decide)
  show 0 ≤ IntKind.u64.wrap (((BitVec.ofInt 64 x &&& BitVec.ofInt 64 4611686018427387903).toNat : Nat) : Int) ∧ IntKind.u64.wrap (((BitVec.ofInt 64 x &&& BitVec.ofInt 64 4611686018427387903).toNat : Nat) : Int) < 4611686018427387904
  generalize (BitVec.ofInt 64 x &&& BitVec.ofInt 64 4611686018427387903).toNat = n at h ⊢
  rw [IntKind.wrap_u64]
  omega

set_option maxRecDepth 100000 in
set_option maxHeartbeats 4000000 in
theorem ages_any (w : World) (m : Mac) (hm : m.ok) (life now by_ : Int) (hlife : u64ok life) (hby : u64ok by_) (hall : AllAt w) :
    Calls Tryd.prog 5 #[macV m, .int .u64 life, .int .u64 now, .int .u64 by_] w fun e w' => e = .returned (.bool true) ∧ Below w.heap.size w w' := by
  have hl0 := hlife.1
  have hl1 := hlife.2
  have hb0 := hby.1
  have hb1 := hby.2
  have hall1 : AllAt (w.alloc (.cells (macCells m).toArray 24)) := hall.below ((Below.refl _ w).alloc (Nat.le_refl _) _) hall.hz
  have hsh := shown15_all _ hall1
  have hn62 := and62 now
  obtain ⟨nw, hnw⟩ : ∃ nw, nw = bits .and .u64 now 4611686018427387903 := ⟨_, rfl⟩
  rw [← hnw] at hn62
  clear hall1
  go_enter Tryd.func5, Tryd.ntmps5
  go_wp2_with fail
  refine hsh.mono ?_
  clear hsh
  rintro e w1 ⟨rfl, hB1⟩
  go_wp2_with fail
  rw [← hnw]
  obtain ⟨lf, hlf⟩ : ∃ lf, lf = 1 + life % 1000 := ⟨_, rfl⟩
  obtain ⟨bb, hbb⟩ : ∃ bb, bb = by_ % 2000 := ⟨_, rfl⟩
  rw [← hlf, ← hbb]
  have h1 : 1 ≤ lf := by omega
  have h2 : lf ≤ 1000 := by omega
  have h3 : 0 ≤ bb := by omega
  have h4 : bb < 2000 := by omega
  have hs1 := hB1.size
  rw [World.size_alloc] at hs1
  have hBw : Below w.heap.size w w1 := ((Below.refl _ w).alloc (Nat.le_refl _) _).trans (hB1.mono (by rw [World.size_alloc]; omega))
  have rM : Row w1 w.heap.size 24 (macCells m) := (Row.new w 24 (macCells m)).of_eq (hB1.block _ (by rw [World.size_alloc]; omega))
  clear hlf hbb hnw hB1 hl0 hl1 hb0 hb1 hall
  refine (new_V (fun k => w1.heap.size ≤ k) w1 w1 4 lf (Frm.refl _ _) (fun _ h => h)).mono ?_
  rintro e w2 ⟨b, rfl, F⟩
  rw [show roomOf 4 = 4 from by decide] at F
  have hM : ∀ {W es}, FB (fun k => w1.heap.size ≤ k) w1 W b 4 lf es → Row W w.heap.size 24 (macCells m) := fun F => rM.frm F.since (fun h => by omega)
  have hB : ∀ {W es}, FB (fun k => w1.heap.size ≤ k) w1 W b 4 lf es → Below w.heap.size w W := fun F => hBw.trans (F.below.mono (by omega))
  obtain ⟨c0, c1, c2, c3, c4, c5⟩ := And.intro ((hM F).cell 0) (And.intro ((hM F).cell 1) (And.intro ((hM F).cell 2) (And.intro ((hM F).cell 3) (And.intro ((hM F).cell 4) ((hM F).cell 5)))))
  simp at c0 c1 c2 c3 c4 c5
  have cl := (hM F).lt
  have hgr := fun W => group_any W m hm
  clear hBw hs1
  cases hg : groupB m with
  | true =>
    rw [hg] at hgr
    go_wp2_with fail
    refine (hgr _).mono ?_
    rintro e w3 ⟨rfl, rfl⟩
    go_wp2_with fail
    go_ret
    exact ⟨rfl, hB (F.alloc _)⟩
  | false =>
    rw [hg] at hgr
    go_wp2_with fail
    refine (hgr _).mono ?_
    rintro e w3 ⟨rfl, rfl⟩
    have F3 := F.alloc (.cells (macCells m).toArray 24)
    obtain ⟨w3, hw3⟩ : ∃ w3, w3 = w2.alloc (.cells (macCells m).toArray 24) := ⟨_, rfl⟩
    rw [← hw3] at F3 ⊢
    clear F c0 c1 c2 c3 c4 c5 cl hgr hw3
    obtain ⟨c0, c1, c2, c3, c4, c5⟩ := And.intro ((hM F3).cell 0) (And.intro ((hM F3).cell 1) (And.intro ((hM F3).cell 2) (And.intro ((hM F3).cell 3) (And.intro ((hM F3).cell 4) ((hM F3).cell 5)))))
    simp at c0 c1 c2 c3 c4 c5
    have cl := (hM F3).lt
    have hn1 := hn62.1
    have hn2 := hn62.2
    have hu1 : u64ok nw := by unfold u64ok; omega
    have hu2 : u64ok (nw + bb) := by unfold u64ok; omega
    go_wp2_with fail
    refine (learn_V F3 m hm ⟨false, 1⟩ nw hu1).mono ?_
    rintro e w4 ⟨moved, code, es', rfl, hL, F⟩
    obtain ⟨rfl, rfl, rfl⟩ := learnV_new hL hg rfl (by decide)
    rw [List.nil_append] at F
    clear F3 hL c0 c1 c2 c3 c4 c5 cl
    obtain ⟨c0, c1, c2, c3, c4, c5⟩ := And.intro ((hM F).cell 0) (And.intro ((hM F).cell 1) (And.intro ((hM F).cell 2) (And.intro ((hM F).cell 3) (And.intro ((hM F).cell 4) ((hM F).cell 5)))))
    simp at c0 c1 c2 c3 c4 c5
    have cl := (hM F).lt
    have hold : oldB lf (nw + bb) ⟨m, ⟨false, 1⟩, nw, false⟩ = decide (lf ≤ bb) := by
      unfold oldB
      simp only [Bool.not_false, Bool.true_and, decide_eq_decide]
      rw [Int.min_eq_right (by omega)]
      omega
    have hfe : findE [⟨m, ⟨false, 1⟩, nw, false⟩] m = some ⟨m, ⟨false, 1⟩, nw, false⟩ := by simp [findE]
    have hfd := find_V F m hm (nw + bb) hu2
    have hse : seenV lf (nw + bb) (findE [⟨m, ⟨false, 1⟩, nw, false⟩] m) = if lf ≤ bb then none else some ⟨false, 1⟩ := by
      rw [hfe]
      unfold seenV
      simp only [hold, decide_eq_true_eq]
    have hre : restV (oldB lf (nw + bb)) [⟨m, ⟨false, 1⟩, nw, false⟩] = if lf ≤ bb then [] else [⟨m, ⟨false, 1⟩, nw, false⟩] := by
      unfold restV
      simp only [List.filter_cons, List.filter_nil, hold]
      by_cases h : lf ≤ bb <;> simp [h]
    rw [hse] at hfd
    have HR := Lib.hid hre
    clear hold hfe hse hre F hg hn62
    by_cases hgo : lf ≤ bb
    · rw [if_pos hgo] at hfd
      have hre := HR.out
      rw [if_pos hgo] at hre
      have HR := Lib.hid hre
      clear hre
      go_wp2_with fail
      refine hfd.mono ?_
      clear hfd
      rintro e w5 ⟨rfl, F⟩
      clear c0 c1 c2 c3 c4 c5 cl
      go_wp2_with fail
      refine (tick_V (F.alloc _) (nw + bb) hu2).mono ?_
      rintro e w6 ⟨rfl, F6⟩
      rw [HR.out] at F6
      rw [HR.out]
      clear F
      simp only [List.length_cons, List.length_nil]
      go_wp2_with fail
      refine (list_V F6).mono ?_
      rintro e w7 ⟨v, es', rfl, hp, -, hE, F7⟩
      have hes : es' = [] := hp.eq_nil
      subst hes
      obtain ⟨a, c, rfl⟩ : ∃ a c, v = .slice a 0 c := by
        rcases hE.2 with ⟨rfl, _⟩ | ⟨g, cap, cur, rfl, _⟩
        · exact ⟨_, _, rfl⟩
        · exact ⟨_, _, rfl⟩
      have HB := Lib.hid (hB F7)
      clear hp hE F6 F7 hM hB
      go_wp2_with fail
      go_ret
      exact ⟨rfl, HB.out⟩
    · rw [if_neg hgo] at hfd
      have hre := HR.out
      rw [if_neg hgo] at hre
      have HR := Lib.hid hre
      clear hre
      go_wp2_with fail
      refine hfd.mono ?_
      clear hfd
      rintro e w5 ⟨rfl, F⟩
      clear c0 c1 c2 c3 c4 c5 cl
      go_wp2_with fail
      refine (tick_V (F.alloc _) (nw + bb) hu2).mono ?_
      rintro e w6 ⟨rfl, F6⟩
      rw [HR.out] at F6
      rw [HR.out]
      clear F
      simp only [List.length_cons, List.length_nil]
      go_wp2_with fail
      refine (list_V F6).mono ?_
      rintro e w7 ⟨v, es', rfl, hp, -, hE, F7⟩
      have hes : es' = [⟨m, ⟨false, 1⟩, nw, false⟩] := List.perm_singleton.1 hp
      subst hes
      obtain ⟨g, cap, rfl, _⟩ := ESl.cells hE (by simp)
      have HB := Lib.hid (hB F7)
      clear hp hE F6 F7 hM hB
      simp only [List.length_cons, List.length_nil]
      go_wp2_with fail
      go_ret
      have hd : decide (lf ≤ bb) = false := decide_eq_false (by omega)
      exact ⟨by show Ending.returned (.bool (!decide (lf ≤ bb))) = _; rw [hd]; rfl, HB.out⟩
end V
end Go.Proofs.YtmddhglhfgomiaaDoor
