/- fdb: compare, and slices.MinFunc by it. Conditions: none. -/
import Derived.Test.YtmddhglhfgomiaaCmp
import Derived.StillTailTactics
namespace Go.Proofs.Ytmddhglhfgomiaa
open Go Go.RowKit Go.Maps

set_option maxRecDepth 100000 in
set_option maxHeartbeats 2000000 in
theorem cmpE_any (w : World) (b b' : Nat) (e e' : Ent) (he : e.ok) (he' : e'.ok) (h : Row w b 85 (entCells e)) (h' : Row w b' 85 (entCells e')) :
    Calls Try.prog 79 #[ptr b, ptr b'] w fun en w' => en = .returned (.int .i64 (entCmp e e')) ∧ Below w.heap.size w w' := by
  have c8 := h.cell 8
  have d8 := h'.cell 8
  simp at c8 d8
  have hl := h.lt
  have hl' := h'.lt
  have hc := (cmp64_any w.drew e.at_ e'.at_).mono (R' := fun en w' => en = .returned (.int .i64 (cmpI e.at_ e'.at_)) ∧ w' = w.drew) fun _ _ ⟨h1, h2⟩ => ⟨h1, h2.symm⟩
  have hb := (bcmp_any w.drew b b' 6 6 e e' he.mac he'.mac h h').mono (R' := fun en w' => en = .returned (.int .i64 (macCmp e.mac e'.mac)) ∧ w' = w.drew) fun _ _ ⟨h1, h2⟩ => ⟨h1, h2.symm⟩
  obtain ⟨x, hx⟩ : ∃ x, x = cmpI e.at_ e'.at_ := ⟨_, rfl⟩
  obtain ⟨y, hy⟩ : ∃ y, y = macCmp e.mac e'.mac := ⟨_, rfl⟩
  obtain ⟨r, hr⟩ : ∃ r, r = entCmp e e' := ⟨_, rfl⟩
  have hF : (if x ≠ 0 then x else y) = r := by rw [hr, hx, hy]; rfl
  rw [← hr]
  clear hr
  rw [← hx] at hc
  rw [← hy] at hb
  clear hx hy
  have hor := cmpOr_any (w.drew.alloc (.cells #[.int .i64 x, .int .i64 y] 3)) w.heap.size x y (Row.new w.drew 3 [.int .i64 x, .int .i64 y])
  rw [hF] at hor
  clear hF
  go_enter Try.func79, Try.ntmps79
  go_wp2_with fail
  refine wp_region_still_tail 18 (by kernel_rfl) (by kernel_rfl) ?_
  simp only [List.take_succ_cons, List.take_zero, List.drop_succ_cons, List.drop_zero]
  change wpStill _ _ (World.drew _) (fun a' => wpList _ _ _ _ a' (World.drew _)) _ _
  (repeat still_step)
  still_call hc
  (repeat still_step)
  still_call hb
  (repeat still_step)
  refine wpStill_nil ?_
  go_wp2_with (go_at_call 86; refine hor.mono ?_; rintro e w' ⟨rfl, rfl⟩)
  go_ret
  exact ⟨rfl, ((Below.refl _ w).drew).alloc (Nat.le_refl _) _⟩

/-- Of these, whose comparison is the least. -/
def least : List GEnt → GEnt → GEnt
  | [], m => m
  | g :: r, m => least r (if entCmp g.2 m.2 < 0 then g else m)

theorem least_mem : ∀ (l : List GEnt) (m : GEnt), least l m = m ∨ least l m ∈ l
  | [], _ => .inl rfl
  | g :: r, m => by
    unfold least
    rcases least_mem r (if entCmp g.2 m.2 < 0 then g else m) with h | h
    · rw [h]
      split
      · exact .inr (by simp)
      · exact .inl rfl
    · exact .inr (List.mem_cons_of_mem _ h)

theorem least_le : ∀ (l : List GEnt) (m : GEnt), (∀ x ∈ m :: l, ∀ y ∈ m :: l, x.2.mac = y.2.mac → x = y) → ∀ x ∈ m :: l, x = least l m ∨ entLt (least l m).2 x.2
  | [], m, _, x, hx => .inl (by unfold least; exact List.mem_singleton.1 hx)
  | g :: r, m, hd, x, hx => by
    unfold least
    split
    · rename_i h
      rw [entCmp_lt] at h
      have ih := least_le r g (fun a ha b hb => hd a (List.mem_cons_of_mem _ ha) b (List.mem_cons_of_mem _ hb))
      rcases List.mem_cons.1 hx with rfl | hx
      · rcases ih g (by simp) with h2 | h2
        · exact .inr (by rw [← h2]; exact h)
        · exact .inr (entLt_trans h2 h)
      · exact ih x hx
    · rename_i h
      rw [entCmp_lt] at h
      have ih := least_le r m (fun a ha b hb => hd a (by rcases List.mem_cons.1 ha with rfl | ha; simp; simp [ha]) b (by rcases List.mem_cons.1 hb with rfl | hb; simp; simp [hb]))
      rcases List.mem_cons.1 hx with rfl | hx
      · exact ih x (by simp)
      · rcases List.mem_cons.1 hx with rfl | hx
        · by_cases e : x = m
          · subst e
            exact ih x (by simp)
          · have h3 : entLt m.2 x.2 := entLt_total h (fun e2 => e (hd x (by simp) m (by simp) e2))
            rcases ih m (by simp) with h2 | h2
            · exact .inr (by rw [← h2]; exact h3)
            · exact .inr (entLt_trans h2 h3)
        · exact ih x (List.mem_cons_of_mem _ hx)

theorem least_snoc (l : List GEnt) (g m : GEnt) : least (l ++ [g]) m = if entCmp g.2 (least l m).2 < 0 then g else least l m := by
  induction l generalizing m with
  | nil => rfl
  | cons x r ih => exact ih _

set_option maxRecDepth 100000 in
set_option maxHeartbeats 2000000 in
theorem minE_any (w : World) (g cap : Nat) (cs : List Value) (x0 : GEnt) (ss : List GEnt) (hr : Row w g 79 cs) (h4 : cs.take (ss.length + 1) = (x0 :: ss).map encG) (hl : ss.length ≤ 1073741823)
    (hE : ∀ x ∈ x0 :: ss, Row w x.1 85 (entCells x.2)) (hok : ∀ x ∈ x0 :: ss, x.2.ok) :
    Calls Try.prog 78 #[.slice (some ⟨g, 0, none⟩) (ss.length + 1) cap, .func (.func 79) #[] #[]] w fun e w' => e = .returned (ptr (least ss x0).1) ∧ Below w.heap.size w w' := by
  have HC := Lib.hid (pcells_take (ss := x0 :: ss) hr h4)
  have HE := Lib.hid hE
  have HO := Lib.hid hok
  have c0 := HC.out 0 (by simp)
  have hz : (gAt (x0 :: ss) 0).1 = x0.1 := rfl
  rw [hz] at c0
  have hgl := hr.lt
  clear hr h4 hE hok hz
  go_enter Try.func78, Try.ntmps78
  go_wp2_with fail
  go_loopw [5, 6] (fun tm ti wr => ∃ k : Nat, k ≤ ss.length ∧ ti = .int .i64 ((k : Int) + 1) ∧ tm = ptr (least (ss.take k) x0).1 ∧ Below w.heap.size w wr) (fun _ ti _ => ss.length + 1 - (intOf ti).toNat)
  case atStart => exact ⟨0, Nat.zero_le _, rfl, rfl, Below.refl _ _⟩
  case round =>
    obtain ⟨k, hk, rfl, rfl, hB⟩ := hrel
    by_cases hlt : k < ss.length
    · obtain ⟨y, hy⟩ : ∃ y, y = gAt (x0 :: ss) (k + 1) := ⟨_, rfl⟩
      obtain ⟨m, hm⟩ : ∃ m, m = least (ss.take k) x0 := ⟨_, rfl⟩
      have hyin : y ∈ x0 :: ss := by rw [hy]; exact gAt_mem (by simp; omega)
      have hmin : m ∈ x0 :: ss := by
        rw [hm]
        rcases least_mem (ss.take k) x0 with h | h
        · rw [h]; simp
        · exact List.mem_cons_of_mem _ (List.mem_of_mem_take h)
      have hcy := HC.out (k + 1) (by simp; omega)
      rw [← hy] at hcy
      have hcy2 := (hB.cell (p := ⟨g, k + 1, none⟩) hgl).trans hcy
      have hRy := HE.out y hyin
      have hRm := HE.out m hmin
      have hcmp := cmpE_any wr y.1 m.1 y.2 m.2 (HO.out y hyin) (HO.out m hmin) (hRy.of_eq (hB.block _ hRy.lt)) (hRm.of_eq (hB.block _ hRm.lt))
      have hyg : y = ss[k] := by rw [hy, gAt_eq (by simp; omega)]; rfl
      have hst : least (ss.take (k + 1)) x0 = if entCmp y.2 m.2 < 0 then y else m := by
        rw [List.take_succ_eq_append_getElem hlt, least_snoc, ← hm, ← hyg]
      rw [← hm]
      have hgl2 : g < wr.heap.size := Nat.lt_of_lt_of_le hgl hB.size
      have e1 : IntKind.i64.wrap ((k : Int) + 1) = (k : Int) + 1 := by rw [IntKind.wrap_i64]; omega
      have e2 : ((k : Int) + 1).toNat = k + 1 := by omega
      obtain ⟨r, hr⟩ : ∃ r, r = entCmp y.2 m.2 := ⟨_, rfl⟩
      rw [← hr] at hcmp hst
      clear hyin hmin hcy hRy hRm hyg hy hm hr
      obtain ⟨yb, ye⟩ := y
      obtain ⟨mb, me⟩ := m
      by_cases hneg : r < 0
      · rw [if_pos hneg] at hst
        have HST := Lib.hid hst
        clear hst e1 e2
        go_wp2_with fail
        refine hcmp.mono ?_
        rintro e w1 ⟨rfl, hB1⟩
        have hB2 := hB.trans (hB1.mono hB.size)
        have hcy3 := (hB1.cell (p := ⟨g, k + 1, none⟩) hgl2).trans hcy2
        have hgl3 : g < w1.heap.size := Nat.lt_of_lt_of_le hgl2 hB1.size
        go_wp2_with fail
        go_roundw
        case rel => exact ⟨k + 1, by omega, by go_num, by rw [HST.out], hB2⟩
        case measure => simp [intOf]; omega
      · rw [if_neg hneg] at hst
        have HST := Lib.hid hst
        clear hst e1 e2
        go_wp2_with fail
        refine hcmp.mono ?_
        rintro e w1 ⟨rfl, hB1⟩
        have hB2 := hB.trans (hB1.mono hB.size)
        go_wp2_with fail
        go_roundw
        case rel => exact ⟨k + 1, by omega, by go_num, by rw [HST.out], hB2⟩
        case measure => simp [intOf]; omega
    · obtain rfl : k = ss.length := by omega
      rw [List.take_length]
      go_wp2_with fail
      go_ret
      exact ⟨rfl, hB⟩
end Go.Proofs.Ytmddhglhfgomiaa
