/- fdb: slices.DeleteFunc at a base's entries: what is static is struck. Conditions: none. -/
import Derived.Test.YtmddhglhfgomiaaCol
import Derived.Test.YtmddhglhfgomiaaInts
import Derived.Lib.Hide
import Derived.Lib.SliceRun
namespace Go.Proofs.Ytmddhglhfgomiaa
open Go Go.RowKit Go.Maps

/-- Value v is a slice of pointers at these entries. -/
def PSl (w : World) (v : Value) (ss : List GEnt) : Prop := w.ownsRow 0 79 1 v ss.length (ss.map encG)

section
variable {w w' : World} {v : Value} {ss : List GEnt}
theorem PSl.nil (w : World) : PSl w (.slice none 0 0) [] := ⟨rfl, .inl ⟨rfl, rfl⟩⟩
theorem PSl.cases (h : PSl w v ss) : (v = .slice none 0 0 ∧ ss = []) ∨
    ∃ g cap cs, v = .slice (some ⟨g, 0, none⟩) ss.length cap ∧ Row w g 79 cs ∧ ss.length ≤ cap ∧ cap ≤ maxLen ∧ cs.length = cap ∧ cs.take ss.length = ss.map encG := by
  obtain ⟨_, h⟩ := h
  rcases h with ⟨h1, h2⟩ | ⟨g, cap, cur, h1, _, h3, h4, h5, h6, h7⟩
  · exact .inl ⟨h1, List.eq_nil_of_length_eq_zero h2⟩
  · exact .inr ⟨g, cap, cur.toList, h1, by unfold Row; simpa using h3, h4, h5, by simpa using h6, by simpa using h7⟩
theorem PSl.mk {g cap : Nat} {cs : List Value} (hr : Row w g 79 cs) (h1 : ss.length ≤ cap) (h2 : cap ≤ maxLen) (h3 : cs.length = cap) (h4 : cs.take ss.length = ss.map encG) :
    PSl w (.slice (some ⟨g, 0, none⟩) ss.length cap) ss :=
  ⟨by simp, .inr ⟨g, cap, cs.toArray, rfl, Nat.zero_le _, hr, h1, h2, by simpa using h3, by simpa using h4⟩⟩
theorem PSl.of_owns {B : Nat} (h : w.ownsRow B 79 1 v ss.length (ss.map encG)) : PSl w v ss ∧ ∀ g, v.ownBlock = some g → B ≤ g := by
  obtain ⟨h0, h⟩ := h
  rcases h with ⟨h1, h2⟩ | ⟨g, cap, cur, h1, hB, h3, h4, h5, h6, h7⟩
  · refine ⟨⟨h0, .inl ⟨h1, h2⟩⟩, fun g hg => ?_⟩
    subst h1
    cases hg
  · refine ⟨⟨h0, .inr ⟨g, cap, cur, h1, Nat.zero_le _, h3, h4, h5, h6, h7⟩⟩, fun g' hg => ?_⟩
    subst h1
    cases hg
    exact hB

def g0 : GEnt := (0, ⟨⟨0, 0, 0, 0, 0, 0⟩, ⟨false, 0⟩, 0, false⟩)
def gAt (ss : List GEnt) (j : Nat) : GEnt := ss.getD j g0
theorem gAt_eq {j : Nat} (h : j < ss.length) : gAt ss j = ss[j] := by
  unfold gAt
  simp [List.getElem?_eq_getElem h]
theorem gAt_mem {j : Nat} (h : j < ss.length) : gAt ss j ∈ ss := by
  rw [gAt_eq h]
  exact List.getElem_mem h

theorem pcells_take {g : Nat} {cs : List Value} (hr : Row w g 79 cs) (h : cs.take ss.length = ss.map encG) :
    ∀ j, j < ss.length → w.cell? ⟨g, j, none⟩ = some (ptr (gAt ss j).1) := by
  intro j hj
  rw [hr.cell]
  have h1 : (cs.take ss.length)[j]? = cs[j]? := by rw [List.getElem?_take, if_pos hj]
  rw [← h1, h, gAt_eq hj]
  simp [List.getElem?_eq_getElem hj]
end

def firstSt (ss : List GEnt) (i : Int) : Prop := (i = -1 ∧ ∀ j : Nat, j < ss.length → (gAt ss j).2.static = false) ∨ (∃ k : Nat, i = k ∧ k < ss.length ∧ (gAt ss k).2.static = true ∧ ∀ j : Nat, j < k → (gAt ss j).2.static = false)

set_option maxRecDepth 100000 in
set_option maxHeartbeats 400000 in
theorem add1_any (w : World) (eb : Nat) (e : Ent) (h : Row w eb 85 (entCells e)) :
    Calls Try.prog 77 #[ptr eb] w fun en w' => en = .returned (.bool e.static) ∧ w = w' := by
  have c9 := h.cell 9
  simp at c9
  go_enter Try.func77, Try.ntmps77
  go_wp2_with fail
  go_ret
  exact ⟨rfl, rfl⟩

set_option maxRecDepth 100000 in
set_option maxHeartbeats 400000 in
theorem idxE_any (w : World) (g cap : Nat) (cs : List Value) (ss : List GEnt) (hr : Row w g 79 cs) (h4 : cs.take ss.length = ss.map encG) (hl : ss.length ≤ 1073741824) (hE : ∀ x ∈ ss, Row w x.1 85 (entCells x.2)) :
    Calls Try.prog 85 #[.slice (some ⟨g, 0, none⟩) ss.length cap, .func (.func 77) #[] #[]] w fun e w' => (∃ i, e = .returned (.int .i64 i) ∧ firstSt ss i) ∧ w = w' := by
  have HC := Lib.hid (pcells_take hr h4)
  have HE := Lib.hid hE
  clear hr h4 hE
  go_enter Try.func85, Try.ntmps85
  go_wp2_with fail
  go_loop [8] (fun i => ∃ k : Nat, k ≤ ss.length ∧ i = .int .i64 k ∧ ∀ j : Nat, j < k → (gAt ss j).2.static = false) (fun i => ss.length - (intOf i).toNat)
  case atStart => exact ⟨0, Nat.zero_le _, rfl, fun j hj => absurd hj (Nat.not_lt_zero j)⟩
  case round =>
    obtain ⟨k, hk, rfl, hno⟩ := hrel
    have HN := Lib.hid hno
    clear hno
    by_cases hlt : k < ss.length
    · have hc := HC.out k hlt
      have ha := add1_any w (gAt ss k).1 (gAt ss k).2 (HE.out _ (gAt_mem hlt))
      obtain ⟨b, hb⟩ : ∃ b, b = (gAt ss k).2.static := ⟨_, rfl⟩
      obtain ⟨q, hq⟩ : ∃ q, q = (gAt ss k).1 := ⟨_, rfl⟩
      rw [← hb] at ha
      rw [← hq] at ha hc
      have HB := Lib.hid hb
      clear hb hq
      cases b with
      | true =>
        go_wp2_with (go_at_call 77; refine ha.mono ?_; rintro e w' ⟨rfl, rfl⟩)
        go_ret
        exact ⟨⟨k, rfl, .inr ⟨k, rfl, hlt, HB.out.symm, HN.out⟩⟩, rfl⟩
      | false =>
        go_wp2_with (go_at_call 77; refine ha.mono ?_; rintro e w' ⟨rfl, rfl⟩)
        go_round
        case rel =>
          refine ⟨k + 1, by omega, by go_num, fun j hj => ?_⟩
          rcases Nat.lt_or_ge j k with h | h
          · exact HN.out j h
          · obtain rfl : j = k := by omega
            exact HB.out.symm
        case measure => simp [intOf]; omega
    · go_wp2_with fail
      go_ret
      obtain rfl : k = ss.length := by omega
      exact ⟨⟨-1, rfl, .inl ⟨rfl, HN.out⟩⟩, rfl⟩

/-- Those that are not static. -/
def loose (ss : List GEnt) : List GEnt := ss.filter (fun g => !g.2.static)
theorem loose_take_succ {ss : List GEnt} {j : Nat} (h : j < ss.length) : loose (ss.take (j + 1)) = loose (ss.take j) ++ if (gAt ss j).2.static then [] else [gAt ss j] := by
  unfold loose
  rw [List.take_succ_eq_append_getElem h, List.filter_append, gAt_eq h]
  cases e : ss[j].2.static <;> simp [e]
theorem loose_all {ss : List GEnt} (h : ∀ j : Nat, j < ss.length → (gAt ss j).2.static = false) : loose ss = ss := by
  unfold loose
  refine List.filter_eq_self.2 (fun x hx => ?_)
  obtain ⟨j, hj, rfl⟩ := List.getElem_of_mem hx
  have := h j hj
  rw [gAt_eq hj] at this
  simp [this]
theorem loose_le (ss : List GEnt) : (loose ss).length ≤ ss.length := List.length_filter_le _ _

set_option maxRecDepth 100000 in
set_option maxHeartbeats 2000000 in
theorem delE_any (w : World) (g cap : Nat) (cs : List Value) (ss : List GEnt) (hr : Row w g 79 cs) (h1 : ss.length ≤ cap) (h2 : cap ≤ maxLen) (h3 : cs.length = cap) (h4 : cs.take ss.length = ss.map encG) (hl : ss.length ≤ 1073741824)
    (hE : ∀ x ∈ ss, Row w x.1 85 (entCells x.2)) :
    Calls Try.prog 76 #[.slice (some ⟨g, 0, none⟩) ss.length cap, .func (.func 77) #[] #[]] w fun e w' =>
      e = .returned (.slice (some ⟨g, 0, none⟩) (loose ss).length cap) ∧ PSl w' (.slice (some ⟨g, 0, none⟩) (loose ss).length cap) (loose ss) ∧ Frm (fun k => k = g) w w' := by
  have hidx := idxE_any w g cap cs ss hr h4 hl hE
  have HE0 := Lib.hid hE
  clear hE
  go_enter Try.func76, Try.ntmps76
  go_wp2_with fail
  refine hidx.mono ?_
  rintro e w' ⟨⟨i, rfl, ⟨rfl, hno⟩ | ⟨k, rfl, hk, hkn, hno⟩⟩, rfl⟩
  · go_wp2_with fail
    go_ret
    rw [loose_all hno]
    exact ⟨rfl, PSl.mk hr h1 h2 h3 h4, Frm.refl _ _⟩
  · have hst : loose (ss.take (k + 1)) = ss.take k := by
      rw [loose_take_succ hk, hkn, if_pos rfl, List.append_nil, loose_all]
      intro j hj
      have hj' : j < k := by simp at hj; omega
      have := hno j hj'
      rw [gAt_eq (by omega)] at this
      rw [gAt_eq hj]
      simpa [List.getElem_take] using this
    have hw0 : Frm (fun k => k = g) w w := Frm.refl _ _
    have hk1 : ((k : Int) == -1) = false := by rw [beq_eq_false_iff_ne]; omega
    have HS := Lib.hid hst
    clear hst hkn hno
    go_wp2_with fail
    replace hst := HS.out
    go_loopw [5, 6] (fun ti tj wr => ∃ m j : Nat, ti = .int .i64 m ∧ tj = .int .i64 j ∧ m + 1 ≤ j ∧ j ≤ ss.length ∧ m = (loose (ss.take j)).length ∧
        (∃ cs', Row wr g 79 cs' ∧ cs'.length = cap ∧ cs'.take m = (loose (ss.take j)).map encG ∧ ∀ x, j ≤ x → cs'[x]? = cs[x]?) ∧ Frm (fun k => k = g) w wr)
      (fun _ tj _ => ss.length - (intOf tj).toNat)
    case atStart =>
      refine ⟨k, k + 1, rfl, by go_num, by omega, by omega, by rw [hst]; simp; omega, ⟨cs, hr, h3, ?_, fun _ _ => rfl⟩, hw0⟩
      rw [hst, List.map_take, ← h4, List.take_take, Nat.min_eq_left (by omega)]
    case round =>
      obtain ⟨m, j, rfl, rfl, hmj, hj, hm, ⟨cs', hr', hl', ht', hd'⟩, hf'⟩ := hrel
      have HM := Lib.hid hm
      clear hm
      by_cases hlt : j < ss.length
      · obtain ⟨x, hx⟩ : ∃ x, x = gAt ss j := ⟨_, rfl⟩
        have hcj : wr.cell? ⟨g, j, none⟩ = some (ptr x.1) := by
          have h5 := pcells_take hr h4 j hlt
          rw [hr.cell] at h5
          rw [hr'.cell, hd' j (Nat.le_refl _), h5, hx]
        have hcm : ∃ u, wr.cell? ⟨g, m, none⟩ = some u := by
          rw [hr'.cell, List.getElem?_eq_getElem (by omega)]
          exact ⟨_, rfl⟩
        obtain ⟨um, hcm⟩ := hcm
        have hfm := hr'.free m
        have hxr : Row wr x.1 85 (entCells x.2) := by
          rw [hx]
          have h6 := HE0.out _ (gAt_mem hlt)
          refine h6.frm hf' (fun e => ?_)
          rw [e] at h6
          exact absurd (h6.inj hr).1 (by decide)
        have ha := add1_any wr x.1 x.2 hxr
        have HX := Lib.hid hx
        have HL := Lib.hid hl'
        have H3 := Lib.hid h3
        have H4 := Lib.hid h4
        have HT := Lib.hid ht'
        have HD := Lib.hid hd'
        have HS := Lib.hid hst
        clear hx hl' h3 h4 ht' hd' hst hxr
        obtain ⟨q, e⟩ := x
        obtain ⟨b, hb⟩ : ∃ b, b = e.static := ⟨_, rfl⟩
        simp only at ha hcj
        rw [← hb] at ha
        have HB := Lib.hid hb
        clear hb
        cases b with
        | false =>
          go_wp2_with (go_at_call 77; refine ha.mono ?_; rintro e w' ⟨rfl, rfl⟩)
          go_roundw
          case rel =>
            have hxn : (gAt ss j).2.static = false := by rw [← HX.out]; exact HB.out.symm
            refine ⟨m + 1, j + 1, by go_num, by go_num, by omega, by omega, ?_, ⟨cs'.set m (ptr q), hr'.set m _, by rw [List.length_set]; exact HL.out, ?_, fun y hy => ?_⟩, hf'.setCell _ (fun _ => rfl)⟩
            · rw [loose_take_succ hlt, hxn, if_neg (by simp), List.length_append, ← HM.out]
              rfl
            · rw [loose_take_succ hlt, hxn, if_neg (by simp), List.map_append, ← HT.out, List.take_set, List.take_succ_eq_append_getElem (by have := HL.out; omega), List.set_append_right _ _ (by simp; omega), ← HX.out]
              simp [Nat.min_eq_left (show m ≤ cs'.length by have := HL.out; omega)]
            · rw [List.getElem?_set_ne (by omega)]
              exact HD.out y (by omega)
          case measure => simp [intOf]; omega
        | true =>
          go_wp2_with (go_at_call 77; refine ha.mono ?_; rintro e w' ⟨rfl, rfl⟩)
          go_roundw
          case rel =>
            have hxn : (gAt ss j).2.static = true := by rw [← HX.out]; exact HB.out.symm
            refine ⟨m, j + 1, rfl, by go_num, by omega, by omega, ?_, ⟨cs', hr', HL.out, ?_, fun y hy => HD.out y (by omega)⟩, hf'⟩
            · rw [loose_take_succ hlt, hxn, if_pos rfl, List.append_nil, ← HM.out]
            · rw [loose_take_succ hlt, hxn, if_pos rfl, List.append_nil, ← HT.out]
          case measure => simp [intOf]; omega
      · obtain rfl : j = ss.length := by omega
        have hclr : ∀ ty, (Builtin.clear_ #[126] ty #[.slice (some ⟨g, m, none⟩) (ss.length - m) (cap - m)]).run Try.prog wr = .ok (.tuple #[]) (wr.setCells g m (List.replicate (ss.length - m) (.pointer none))) := fun ty =>
          Lib.run_clear_slice wr _ 79 ty (.pointer none) (by kernel_rfl) (fun w => by kernel_rfl) rfl rfl g m _ _ (by omega) (fun y hy => by rw [hr'.cell, List.getElem?_eq_getElem (by omega)]; rfl) (fun y _ => hr'.free _)
        have HL := Lib.hid hl'
        have H3 := Lib.hid h3
        have H4 := Lib.hid h4
        have HT := Lib.hid ht'
        have HS := Lib.hid hst
        clear hl' h3 h4 ht' hd' hst
        have hcm : ¬ cap = m := by omega
        go_wp2_with fail
        go_ret
        have hms : m = (loose ss).length := by
          have := HM.out
          rwa [List.take_length] at this
        have ht2 : cs'.take m = (loose ss).map encG := by
          have := HT.out
          rwa [List.take_length] at this
        rw [← hms]
        have hrz := Row.setCells (List.replicate (ss.length - m) (Value.pointer none)) m cs' wr hr' (by have := HL.out; simp; omega)
        refine ⟨rfl, ?_, Frm.setCells (F := fun k => k = g) (fun _ => rfl) _ _ _ hf'⟩
        have hL := HL.out
        have := PSl.mk (ss := loose ss) hrz (by omega) h2 (by simp; omega) (by
          rw [← hms, List.append_assoc, List.take_append_of_le_length (by simp; omega), List.take_take, Nat.min_self, ht2])
        rwa [← hms] at this
end Go.Proofs.Ytmddhglhfgomiaa
