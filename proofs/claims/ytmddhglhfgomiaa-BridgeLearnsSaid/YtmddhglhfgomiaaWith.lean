/- bridge: with, without. Conditions: none. -/
import Derived.Test.YtmddhglhfgomiaaInts
import Derived.Test.YtmddhglhfgomiaaFdbM
import Derived.Lib.Hide
import Derived.Lib.SliceRun
namespace Go.Proofs.Ytmddhglhfgomiaa
open Go Go.RowKit

set_option maxRecDepth 100000 in
set_option maxHeartbeats 1000000 in
theorem with_any (w : World) (v : Value) (zs : List Int) (n : Int) (h : IntSl w v zs) (hl : zs.length ≤ 1073741824) (hs : zs.Pairwise (· ≤ ·)) :
    Calls Try.prog 40 #[v, .int .i64 n] w fun e w' =>
      ∃ v', e = .returned v' ∧ IntSl w' v' (insI zs n) ∧ (∀ g, v'.ownBlock = some g → w.heap.size ≤ g) ∧ Below w.heap.size w w' := by
  have hb := bsearch_any w v zs n h hl hs
  have hc := fun q => clone_any (w.drewN q) v zs (h.frm (F := fun _ => False) ((Frm.refl _ _).drewN q) (fun _ _ h => h)) hl
  have hi : ∀ (W : World) (u : Value), IntSl W u zs → (∀ g, u.ownBlock = some g → w.heap.size ≤ g) → Below w.heap.size w W →
      Calls Try.prog 55 #[u, .int .i64 (rank zs n), .slice (some ⟨W.heap.size, 0, none⟩) 1 1] (W.alloc (.cells #[.int .i64 n] 3)) fun e w' =>
        ∃ v', e = .returned v' ∧ IntSl w' v' (insI zs n) ∧ (∀ g, v'.ownBlock = some g → w.heap.size ≤ g) ∧ Below w.heap.size w w' := fun W u hu hg hB => by
    refine (insert_any (W.alloc (.cells #[.int .i64 n] 3)) u zs n W.heap.size (hu.frm (F := fun _ => False) ((Frm.refl _ _).alloc _) (fun _ _ h => h)) hl (rank zs n) (rank_le zs n) (Row.new W 3 [.int .i64 n])
      (fun e => absurd (hu.blk_lt e) (Nat.lt_irrefl _))).mono ?_
    rintro e w' ⟨v', rfl, h1, h2, h3⟩
    refine ⟨v', rfl, h1, fun g hg' => ?_, ?_⟩
    · rcases h2 g hg' with h4 | h4
      · exact hg g h4
      · rw [World.size_alloc] at h4
        have := hB.size
        omega
    · have hB' := hB.alloc hB.size (.cells #[.int .i64 n] 3)
      exact hB'.trans (h3.to_below hB'.size (fun i hi hF => by have := hg i hF; omega))
  clear h hs
  go_enter Try.func40, Try.ntmps40
  go_wp2_with (go_at_call 54; refine hb.mono ?_; rintro e w' ⟨rfl, q, rfl⟩)
  refine (hc q).mono ?_
  rintro e w' ⟨u, rfl, hu, hg, hB⟩
  have hI := hi w' u hu hg ((Below.refl _ _).drewN_l q |>.trans hB)
  go_wp2_with (go_at_call 55; refine hI.mono ?_; rintro e w'' ⟨v', rfl, hv, hgv, hBv⟩)
  go_ret
  exact ⟨v', rfl, hv, hgv, hBv⟩

/-! ### DeleteFunc at a row of numbers of the call's own: without -/

set_option maxRecDepth 100000 in
set_option maxHeartbeats 400000 in
theorem without1_any (w : World) (pb : Nat) (n x : Int) (h : Row w pb 3 [.int .i64 n]) :
    Calls Try.prog 57 #[.int .i64 x, ptr pb] w fun e w' => e = .returned (.bool (decide (x = n))) ∧ w = w' := by
  have c0 := h.cell 0
  simp at c0
  go_enter Try.func57, Try.ntmps57
  go_wp2_with fail
  go_ret
  exact ⟨rfl, rfl⟩

/-- Where the number stands first. -/
def firstAt (zs : List Int) (n : Int) (i : Int) : Prop := (i = -1 ∧ ∀ j : Nat, j < zs.length → zs.getD j 0 ≠ n) ∨ (∃ k : Nat, i = k ∧ k < zs.length ∧ zs.getD k 0 = n ∧ ∀ j : Nat, j < k → zs.getD j 0 ≠ n)

set_option maxRecDepth 100000 in
set_option maxHeartbeats 400000 in
theorem idxI_any (w : World) (g cap pb : Nat) (cs : List Value) (zs : List Int) (n : Int) (hr : Row w g 3 cs) (h4 : cs.take zs.length = zs.map (.int .i64)) (hl : zs.length ≤ 1073741824) (h : Row w pb 3 [.int .i64 n]) :
    Calls Try.prog 71 #[.slice (some ⟨g, 0, none⟩) zs.length cap, .func (.func 57) #[] #[ptr pb]] w fun e w' => (∃ i, e = .returned (.int .i64 i) ∧ firstAt zs n i) ∧ w = w' := by
  have hcell := cells_take hr h4
  have hcl := fun x => without1_any w pb n x h
  clear hr h4 h
  go_enter Try.func71, Try.ntmps71
  go_wp2_with fail
  go_loop [8] (fun i => ∃ k : Nat, k ≤ zs.length ∧ i = .int .i64 k ∧ ∀ j : Nat, j < k → zs.getD j 0 ≠ n) (fun i => zs.length - (intOf i).toNat)
  case atStart => exact ⟨0, Nat.zero_le _, rfl, fun j hj => absurd hj (Nat.not_lt_zero j)⟩
  case round =>
    obtain ⟨k, hk, rfl, hno⟩ := hrel
    have HN := Lib.hid hno
    clear hno
    by_cases hlt : k < zs.length
    · have hc := hcell k hlt
      rw [Nat.zero_add] at hc
      obtain ⟨x, hx⟩ : ∃ x, x = zs.getD k 0 := ⟨_, rfl⟩
      rw [← hx] at hc
      have HX := Lib.hid hx
      clear hx
      go_wp2_with (go_at_call 57; refine (hcl _).mono ?_; rintro e w' ⟨rfl, rfl⟩)
      · have hx : x = n := by assumption
        go_ret
        exact ⟨⟨k, rfl, .inr ⟨k, rfl, hlt, by rw [← HX.out, hx], HN.out⟩⟩, rfl⟩
      · have hx : ¬ x = n := by assumption
        go_round
        case rel =>
          refine ⟨k + 1, by omega, by go_num, fun j hj => ?_⟩
          rcases Nat.lt_or_ge j k with h | h
          · exact HN.out j h
          · obtain rfl : j = k := by omega
            rw [← HX.out]
            exact hx
        case measure => simp [intOf]; omega
    · go_wp2_with fail
      go_ret
      obtain rfl : k = zs.length := by omega
      exact ⟨⟨-1, rfl, .inl ⟨rfl, HN.out⟩⟩, rfl⟩

set_option maxRecDepth 100000 in
set_option maxHeartbeats 400000 in
theorem idxI_nil (w : World) (f : Value) :
    Calls Try.prog 71 #[.slice none 0 0, f] w fun e w' => e = .returned (.int .i64 (-1)) ∧ w = w' := by
  go_enter Try.func71, Try.ntmps71
  go_wp2_with fail
  go_loop [8] (fun i => i = .int .i64 0) (fun _ => 0)
  case atStart => rfl
  case round =>
    subst hrel
    go_wp2_with fail
    go_ret
    exact ⟨rfl, rfl⟩

set_option maxRecDepth 100000 in
set_option maxHeartbeats 400000 in
theorem delI_nil (w : World) (f : Value) :
    Calls Try.prog 56 #[.slice none 0 0, f] w fun e w' => e = .returned (.slice none 0 0) ∧ w = w' := by
  have hidx := idxI_nil w f
  go_enter Try.func56, Try.ntmps56
  go_wp2_with fail
  refine hidx.mono ?_
  rintro e w' ⟨rfl, rfl⟩
  go_wp2_with fail
  go_ret
  exact ⟨rfl, rfl⟩

/-- What is left when the number n is struck. -/
def strike (zs : List Int) (n : Int) : List Int := zs.filter (fun x => x != n)

theorem strike_take_succ {zs : List Int} {n : Int} {j : Nat} (h : j < zs.length) : strike (zs.take (j + 1)) n = strike (zs.take j) n ++ if zs.getD j 0 = n then [] else [zs.getD j 0] := by
  unfold strike
  rw [List.take_succ_eq_append_getElem h, List.filter_append]
  simp only [List.getD_eq_getElem?_getD, List.getElem?_eq_getElem h, Option.getD_some]
  by_cases e : zs[j] = n <;> simp [e]

theorem strike_all {zs : List Int} {n : Int} (h : ∀ j : Nat, j < zs.length → zs.getD j 0 ≠ n) : strike zs n = zs := by
  unfold strike
  refine List.filter_eq_self.2 (fun x hx => ?_)
  obtain ⟨j, hj, rfl⟩ := List.getElem_of_mem hx
  have := h j hj
  simp only [List.getD_eq_getElem?_getD, List.getElem?_eq_getElem hj, Option.getD_some] at this
  simpa using this

theorem strike_le (zs : List Int) (n : Int) : (strike zs n).length ≤ zs.length := List.length_filter_le _ _

set_option maxRecDepth 100000 in
set_option maxHeartbeats 2000000 in
theorem delI_any (w : World) (g cap pb : Nat) (cs : List Value) (zs : List Int) (n : Int) (hr : Row w g 3 cs) (h1 : zs.length ≤ cap) (h2 : cap ≤ maxLen) (h3 : cs.length = cap) (h4 : cs.take zs.length = zs.map (.int .i64)) (hl : zs.length ≤ 1073741824)
    (h : Row w pb 3 [.int .i64 n]) (hne : pb ≠ g) :
    Calls Try.prog 56 #[.slice (some ⟨g, 0, none⟩) zs.length cap, .func (.func 57) #[] #[ptr pb]] w fun e w' =>
      e = .returned (.slice (some ⟨g, 0, none⟩) (strike zs n).length cap) ∧ IntSl w' (.slice (some ⟨g, 0, none⟩) (strike zs n).length cap) (strike zs n) ∧ Frm (fun k => k = g) w w' := by
  have hidx := idxI_any w g cap pb cs zs n hr h4 hl h
  go_enter Try.func56, Try.ntmps56
  go_wp2_with fail
  refine hidx.mono ?_
  rintro e w' ⟨⟨i, rfl, ⟨rfl, hno⟩ | ⟨k, rfl, hk, hkn, hno⟩⟩, rfl⟩
  · go_wp2_with fail
    go_ret
    rw [strike_all hno]
    exact ⟨rfl, IntSl.mk hr h1 h2 h3 h4, Frm.refl _ _⟩
  · have hst : strike (zs.take (k + 1)) n = zs.take k := by
      rw [strike_take_succ hk, if_pos hkn, List.append_nil, strike_all]
      intro j hj
      have hj' : j < k := by simp at hj; omega
      have := hno j hj'
      simpa [List.getElem?_take, hj'] using this
    have hw0 : Frm (fun k => k = g) w w := Frm.refl _ _
    have hk1 : ((k : Int) == -1) = false := by rw [beq_eq_false_iff_ne]; omega
    have HS := Lib.hid hst
    clear hst
    go_wp2_with fail
    replace hst := HS.out
    go_loopw [5, 6] (fun ti tj wr => ∃ m j : Nat, ti = .int .i64 m ∧ tj = .int .i64 j ∧ m + 1 ≤ j ∧ j ≤ zs.length ∧ m = (strike (zs.take j) n).length ∧
        (∃ cs', Row wr g 3 cs' ∧ cs'.length = cap ∧ cs'.take m = (strike (zs.take j) n).map (.int .i64) ∧ ∀ x, j ≤ x → cs'[x]? = cs[x]?) ∧ Frm (fun k => k = g) w wr)
      (fun _ tj _ => zs.length - (intOf tj).toNat)
    case atStart =>
      refine ⟨k, k + 1, rfl, by go_num, by omega, by omega, by rw [hst]; simp; omega, ⟨cs, hr, h3, ?_, fun _ _ => rfl⟩, hw0⟩
      rw [hst, List.map_take, ← h4, List.take_take, Nat.min_eq_left (by omega)]
    case round =>
      obtain ⟨m, j, rfl, rfl, hmj, hj, hm, ⟨cs', hr', hl', ht', hd'⟩, hf'⟩ := hrel
      have HM := Lib.hid hm
      clear hm
      have hpb := without1_any wr pb n
      have hrow := h.frm hf' hne
      by_cases hlt : j < zs.length
      · obtain ⟨x, hx⟩ : ∃ x, x = zs.getD j 0 := ⟨_, rfl⟩
        have hcj : wr.cell? ⟨g, j, none⟩ = some (.int .i64 x) := by
          have h5 := cells_take hr h4 j hlt
          rw [Nat.zero_add, hr.cell] at h5
          rw [hr'.cell, hd' j (Nat.le_refl _), h5, hx]
        have hcm : ∃ u, wr.cell? ⟨g, m, none⟩ = some u := by
          rw [hr'.cell, List.getElem?_eq_getElem (by omega)]
          exact ⟨_, rfl⟩
        obtain ⟨um, hcm⟩ := hcm
        have hfm := hr'.free m
        have HX := Lib.hid hx
        have HL := Lib.hid hl'
        have H3 := Lib.hid h3
        have H4 := Lib.hid h4
        have HT := Lib.hid ht'
        have HD := Lib.hid hd'
        have HS := Lib.hid hst
        clear hx hl' h3 h4 ht' hd' hst hkn hno
        go_wp2_with (go_at_call 57; refine (hpb x hrow).mono ?_; rintro e w' ⟨rfl, rfl⟩)
        · have hxn : ¬ x = n := by
            have h9 : (!decide (x = n)) = true := by assumption
            simpa using h9
          go_roundw
          case rel =>
            refine ⟨m + 1, j + 1, by go_num, by go_num, by omega, by omega, ?_, ⟨cs'.set m (.int .i64 x), hr'.set m _, by rw [List.length_set]; exact HL.out, ?_, fun y hy => ?_⟩, hf'.setCell _ (fun _ => rfl)⟩
            · rw [strike_take_succ hlt, ← HX.out, if_neg hxn, List.length_append, ← HM.out]
              rfl
            · rw [strike_take_succ hlt, ← HX.out, if_neg hxn, List.map_append, ← HT.out, List.take_set, List.take_succ_eq_append_getElem (by have := HL.out; omega), List.set_append_right _ _ (by simp; omega)]
              simp [Nat.min_eq_left (show m ≤ cs'.length by have := HL.out; omega)]
            · rw [List.getElem?_set_ne (by omega)]
              exact HD.out y (by omega)
          case measure => simp [intOf]; omega
        · have hxn : x = n := by
            have h9 : (!decide (x = n)) = false := by assumption
            simpa using h9
          go_roundw
          case rel =>
            refine ⟨m, j + 1, rfl, by go_num, by omega, by omega, ?_, ⟨cs', hr', HL.out, ?_, fun y hy => HD.out y (by omega)⟩, hf'⟩
            · rw [strike_take_succ hlt, ← HX.out, if_pos hxn, List.append_nil, ← HM.out]
            · rw [strike_take_succ hlt, ← HX.out, if_pos hxn, List.append_nil, ← HT.out]
          case measure => simp [intOf]; omega
      · obtain rfl : j = zs.length := by omega
        have hclr : ∀ ty, (Builtin.clear_ #[32] ty #[.slice (some ⟨g, m, none⟩) (zs.length - m) (cap - m)]).run Try.prog wr = .ok (.tuple #[]) (wr.setCells g m (List.replicate (zs.length - m) (.int .i64 0))) := fun ty =>
          Lib.run_clear_slice wr _ 3 ty (.int .i64 0) (by kernel_rfl) (fun w => by kernel_rfl) rfl rfl g m _ _ (by omega) (fun y hy => by rw [hr'.cell, List.getElem?_eq_getElem (by omega)]; rfl) (fun y _ => hr'.free _)
        have HL := Lib.hid hl'
        have H3 := Lib.hid h3
        have H4 := Lib.hid h4
        have HT := Lib.hid ht'
        have HS := Lib.hid hst
        clear hl' h3 h4 ht' hd' hst hkn hno
        have hcm : ¬ cap = m := by omega
        go_wp2_with fail
        go_ret
        have hms : m = (strike zs n).length := by
          have := HM.out
          rwa [List.take_length] at this
        have ht2 : cs'.take m = (strike zs n).map (.int .i64) := by
          have := HT.out
          rwa [List.take_length] at this
        rw [← hms]
        have hrz := Row.setCells (List.replicate (zs.length - m) (Value.int .i64 0)) m cs' wr hr' (by have := HL.out; simp; omega)
        refine ⟨rfl, ?_, Frm.setCells (F := fun k => k = g) (fun _ => rfl) _ _ _ hf'⟩
        have hL := HL.out
        have := IntSl.mk (zs := strike zs n) hrz (by omega) h2 (by simp; omega) (by
          rw [← hms, List.append_assoc, List.take_append_of_le_length (by simp; omega), List.take_take, Nat.min_self, ht2])
        rwa [← hms] at this

set_option maxRecDepth 100000 in
set_option maxHeartbeats 2000000 in
theorem without_any (w : World) (v : Value) (zs : List Int) (n : Int) (h : IntSl w v zs) (hl : zs.length ≤ 1073741824) :
    Calls Try.prog 42 #[v, .int .i64 n] w fun e w' =>
      ∃ v', e = .returned v' ∧ IntSl w' v' (strike zs n) ∧ (∀ g, v'.ownBlock = some g → w.heap.size ≤ g) ∧ Below w.heap.size w w' := by
  have hc := clone_any (w.alloc (.cells #[.int .i64 n] 3)) v zs (h.frm (F := fun _ => False) ((Frm.refl _ _).alloc _) (fun _ _ h => h)) hl
  have hd : ∀ (W : World) (u : Value), IntSl W u zs → (∀ g, u.ownBlock = some g → w.heap.size + 1 ≤ g) → Below (w.heap.size + 1) (w.alloc (.cells #[.int .i64 n] 3)) W →
      Calls Try.prog 56 #[u, .func (.func 57) #[] #[ptr w.heap.size]] W fun e w' =>
        ∃ v', e = .returned v' ∧ IntSl w' v' (strike zs n) ∧ (∀ g, v'.ownBlock = some g → w.heap.size ≤ g) ∧ Below w.heap.size w w' := fun W u hu hg hB => by
    have hrow : Row W w.heap.size 3 [.int .i64 n] := (Row.new w 3 [.int .i64 n]).of_eq (hB.block _ (Nat.lt_succ_self _))
    have hB0 : Below w.heap.size w W := ((Below.refl _ w).alloc (Nat.le_refl _) _).trans (hB.mono (Nat.le_succ _))
    rcases hu.cases with ⟨rfl, rfl⟩ | ⟨g, cap, cs, rfl, hr, h1, h2, h3, h4⟩
    · refine (delI_nil W _).mono ?_
      rintro e w' ⟨rfl, rfl⟩
      exact ⟨_, rfl, IntSl.nil _, (fun g hg => by cases hg), hB0⟩
    · refine (delI_any W g cap w.heap.size cs zs n hr h1 h2 h3 h4 hl hrow (by have := hg g rfl; omega)).mono ?_
      rintro e w' ⟨rfl, h5, h6⟩
      have hgg := hg g rfl
      exact ⟨_, rfl, h5, (fun g' hg' => by simp only [Value.ownBlock, Option.some.injEq] at hg'; omega), hB0.trans (h6.to_below hB0.size (fun i hi e => by omega))⟩
  clear h
  go_enter Try.func42, Try.ntmps42
  go_wp2_with fail
  refine hc.mono ?_
  rintro e w' ⟨u, rfl, hu, hg, hB⟩
  rw [World.size_alloc] at hg hB
  have hD := hd w' u hu hg hB
  go_wp2_with (go_at_call 56; refine hD.mono ?_; rintro e w'' ⟨v', rfl, hv, hgv, hBv⟩)
  go_ret
  exact ⟨v', rfl, hv, hgv, hBv⟩

end Go.Proofs.Ytmddhglhfgomiaa
