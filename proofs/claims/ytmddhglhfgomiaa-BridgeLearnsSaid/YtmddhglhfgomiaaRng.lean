/- Words on a map that is ranged over. Conditions: none. -/
import Derived.Test.YtmddhglhfgomiaaHeap
import Derived.Maps.RangeWalk
import Derived.Sort.MapsRangeIn
import Derived.RangeFuncGives
namespace Go.Proofs.Ytmddhglhfgomiaa
open Go Go.RowKit Go.Maps

abbrev kvE (x : MapEntry) : Value × Value := (x.key, x.val)

/-- Block b is a map that holds kvs; block r walks over it; left is still to come. -/
def RngAt (w : World) (b r : Nat) (kvs left : List (Value × Value)) : Prop :=
  ∃ es clk since seen c0, w.heap[b]? = some (.map es clk) ∧ es.toList.map kvE = kvs ∧ (∀ x ∈ es.toList, x.born < clk) ∧ (es.toList.map (·.born)).Nodup ∧
    w.heap[r]? = some (.mapIter (some b) since seen c0) ∧ (∀ x ∈ es.toList, x.born < since) ∧ (leftOf es seen).toList.map kvE = left ∧ since ≤ c0 ∧ since ≤ clk

section
variable {w w' : World} {b r : Nat} {kvs left : List (Value × Value)}
theorem RngAt.map (h : RngAt w b r kvs left) : MapAt w b kvs := by
  obtain ⟨es, clk, _, _, _, h1, h2, h3, h4, _⟩ := h
  exact ⟨es, clk, h1, h2, h3, h4⟩
theorem RngAt.ne (h : RngAt w b r kvs left) : r ≠ b := by
  obtain ⟨es, clk, _, _, _, h1, _, _, _, h5, _⟩ := h
  intro e
  rw [e, h1] at h5
  cases h5
theorem RngAt.lt (h : RngAt w b r kvs left) : r < w.heap.size := by
  obtain ⟨es, clk, _, _, _, h1, _, _, _, h5, _⟩ := h
  exact heap_lt h5
theorem RngAt.of_eq (h : RngAt w b r kvs left) (e1 : w'.heap[b]? = w.heap[b]?) (e2 : w'.heap[r]? = w.heap[r]?) : RngAt w' b r kvs left := by
  obtain ⟨es, clk, s, se, c0, h1, h2, h3, h4, h5, h6⟩ := h
  exact ⟨es, clk, s, se, c0, e1.trans h1, h2, h3, h4, e2.trans h5, h6⟩
theorem RngAt.frm {F : Nat → Prop} (h : RngAt w b r kvs left) (f : Frm F w w') (hb : ¬ F b) (hr : ¬ F r) : RngAt w' b r kvs left := h.of_eq (f.keep b h.map.lt hb) (f.keep r h.lt hr)
theorem RngAt.alloc (h : RngAt w b r kvs left) (o : Obj) : RngAt (w.alloc o) b r kvs left := h.of_eq (heap_alloc_lt h.map.lt) (heap_alloc_lt h.lt)
theorem RngAt.walk (h : RngAt w b r kvs left) : ∃ o : Obj, w.heap[r]? = some o ∧ o.isWalk = true := by
  obtain ⟨es, clk, s, se, c0, h1, h2, h3, h4, h5, h6⟩ := h
  exact ⟨_, h5, rfl⟩
theorem RngAt.of_walks (h : RngAt w b r kvs left) (k : KeepsWalks w w') : RngAt w' b r kvs left := by
  obtain ⟨es, clk, s, se, c0, h1, h2, h3, h4, h5, h6⟩ := h
  exact ⟨es, clk, s, se, c0, k.same b _ h1 rfl, h2, h3, h4, k.same r _ h5 rfl, h6⟩

theorem leftOf_list (es : Array MapEntry) (seen : Array Nat) : (leftOf es seen).toList = es.toList.filter (fun e => !seen.contains e.born) := by
  unfold leftOf
  rw [Array.toList_filter]

theorem left_push {es : Array MapEntry} {seen : Array Nat} {e : MapEntry} {l1 l2 : List MapEntry} (hn : (es.toList.map (·.born)).Nodup) (hl : (leftOf es seen).toList = l1 ++ e :: l2) : (leftOf es (seen.push e.born)).toList = l1 ++ l2 := by
  rw [leftOf_list] at hl ⊢
  have h1 : es.toList.filter (fun x => !(seen.push e.born).contains x.born) = (es.toList.filter (fun x => !seen.contains x.born)).filter (fun x => !(x.born == e.born)) := by
    rw [List.filter_filter]
    apply List.filter_congr
    intro x _
    rw [contains_push]
    cases seen.contains x.born <;> cases (x.born == e.born) <;> rfl
  rw [h1, hl]
  have hsub : (l1 ++ e :: l2).Sublist es.toList := by rw [← hl]; exact List.filter_sublist
  have hnd : ((l1 ++ e :: l2).map (·.born)).Nodup := hn.sublist (hsub.map _)
  rw [List.map_append, List.map_cons, List.nodup_append, List.nodup_cons] at hnd
  obtain ⟨_, ⟨h3, _⟩, h4⟩ := hnd
  rw [List.filter_append, List.filter_cons]
  simp only [beq_self_eq_true, Bool.not_true, Bool.false_eq_true, if_false]
  congr 1
  · refine List.filter_eq_self.2 (fun x hx => ?_)
    have := h4 x.born (List.mem_map_of_mem hx) e.born (by simp)
    simpa using this
  · refine List.filter_eq_self.2 (fun x hx => ?_)
    have : x.born ≠ e.born := fun h => h3 (h ▸ List.mem_map_of_mem hx)
    simpa using this

theorem MapAt.range {P : Program} {t k e : TypeId} (h : MapAt w b kvs) (ht : P.underlying t = some (.map k e)) :
    ∃ o, (Instr.range t (.map (some b))).run P w = .ok (.pointer (some ⟨w.heap.size, 0, none⟩)) (w.alloc o) ∧ RngAt (w.alloc o) b w.heap.size kvs kvs := by
  have hlt := h.lt
  obtain ⟨es, clk, h1, h2, h3, h4⟩ := h
  refine ⟨_, run_range_map w t k e b es clk ht h1, es, clk, clk, #[], clk, (heap_alloc_lt hlt).trans h1, h2, h3, h4, heap_alloc_new w _, h3, ?_, Nat.le_refl _, Nat.le_refl _⟩
  rw [leftOf_list, ← h2, List.filter_eq_self.2 (fun x _ => by simp)]

theorem RngAt.next {P : Program} (h : RngAt w b r kvs left) (ty : TypeId) :
    (left = [] ∧ (Instr.next (.pointer (some ⟨r, 0, none⟩)) false ty).run P w = .ok (.tuple #[.bool false]) w) ∨
    ∃ l1 p l2 o n, left = l1 ++ p :: l2 ∧ (Instr.next (.pointer (some ⟨r, 0, none⟩)) false ty).run P w = .ok (.tuple #[.bool true, p.1, p.2]) (setB (w.drewN n) r o) ∧
      RngAt (setB (w.drewN n) r o) b r kvs (l1 ++ l2) ∧ (Instr.entry (.pointer (some ⟨r, 0, none⟩))).run P (setB (w.drewN n) r o) = .ok (.tuple #[p.1, p.2]) (setB (w.drewN n) r o) := by
  have hne := h.ne
  have hlt := h.lt
  obtain ⟨es, clk, since, seen, c0, h1, h2, h3, h4, h5, h6, h7, h8, h9⟩ := h
  rcases run_next_at (P := P) w ty r b since c0 seen es clk h5 h1 h6 h8 with ⟨h0, hrun⟩ | ⟨e, he, w1, hal, hrun⟩
  · refine .inl ⟨?_, hrun⟩
    rw [← h7]
    have : (leftOf es seen) = #[] := Array.eq_empty_of_size_eq_zero h0
    rw [this]
    rfl
  · obtain ⟨l1, l2, hl⟩ := List.append_of_mem he
    have hd : ∃ n, w1 = w.drewN n := by
      rcases hal with rfl | rfl
      · exact ⟨0, rfl⟩
      · exact ⟨1, rfl⟩
    obtain ⟨n, rfl⟩ := hd
    have hr1 : r < (w.drewN n).heap.size := hlt
    have hb' : (setB (w.drewN n) r (.mapIter (some b) since (seen.push e.born) clk)).heap[b]? = some (.map es clk) := (heap_setB_ne (fun e => hne e.symm)).trans h1
    have hr' : (setB (w.drewN n) r (.mapIter (some b) since (seen.push e.born) clk)).heap[r]? = some (.mapIter (some b) since (seen.push e.born) clk) := heap_setB_eq hr1
    have hem := (mem_left he).1
    refine .inr ⟨l1.map kvE, kvE e, l2.map kvE, .mapIter (some b) since (seen.push e.born) clk, n, ?_, hrun, ⟨es, clk, since, _, _, hb', h2, h3, h4, hr', h6, ?_, h9, h9⟩, run_entry_at _ r b since seen es clk e hr' hb' hem h4⟩
    · rw [← h7, hl]
      simp
    · rw [left_push h4 hl]
      simp

theorem RngAt.del {P : Program} {t k e : TypeId} {k1 k2 : List (Value × Value)} {key v0 : Value} {kl : Lit} (h : RngAt w b r (k1 ++ (key, v0) :: k2) left) (K : Keyed P k) (ht : P.underlying t = some (.map k e)) (hk : KeysFit P k (k1 ++ (key, v0) :: k2)) (hkey : keyOf P k key = some kl)
    (hn : ((k1 ++ (key, v0) :: k2).map Prod.fst).Pairwise (· ≠ ·)) (hno : ∀ p ∈ left, p.1 ≠ key) (kt ty : TypeId) :
    ∃ o, (Builtin.delete_ #[t, kt] ty #[.map (some b), key]).run P w = .ok (.tuple #[]) (setB w b o) ∧ RngAt (setB w b o) b r (k1 ++ k2) left := by
  have hne := h.ne
  have hblt := h.map.lt
  obtain ⟨es, clk, since, seen, c0, h1, h2, h3, h4, h5, h6, h7, h8, h9⟩ := h
  have hks : ∀ x ∈ es.toList, ∃ l, keyOf P k x.key = some l := fun x hx => hk (x.key, x.val) (by rw [← h2]; exact List.mem_map.2 ⟨x, hx, rfl⟩)
  rcases K.find w hkey es.toList hks with ⟨_, h⟩ | ⟨j, e0, hf, hj, hj2⟩
  · have hin : (key, v0) ∈ es.toList.map kvE := by rw [h2]; simp
    obtain ⟨x, hx, hxe⟩ := List.mem_map.1 hin
    simp only [Prod.mk.injEq] at hxe
    exact absurd hxe.1 (h x hx)
  · obtain ⟨hjl, hje⟩ := split_at rfl hn (j := j) (q := (e0.key, e0.val)) (by rw [← h2]; simp [hj]) hj2
    have hjs : j < es.size := by simpa using (List.getElem?_eq_some_iff.1 hj).1
    have hsub : (es.eraseIdxIfInBounds j).toList = es.toList.eraseIdx j := by
      unfold Array.eraseIdxIfInBounds
      rw [dif_pos hjs]
      simp
    refine ⟨.map (es.eraseIdxIfInBounds j) clk, ?_, es.eraseIdxIfInBounds j, clk, since, seen, c0, heap_setB_eq hblt, ?_, ?_, ?_, (heap_setB_ne hne).trans h5, ?_, ?_, h8, h9⟩
    · simp [Builtin.delete_, run_underlying ht, MapKept.run_getObj_map h1, K.check w _ hkey, hf, MapKept.run_setObj_map _ h1, Result.andThen, setB]
    · rw [hsub, ChangeMaps.map_eraseIdx, h2, hjl, List.eraseIdx_append_of_length_le (Nat.le_refl _)]
      simp
    · rw [hsub]
      intro x hx
      exact h3 x ((List.eraseIdx_sublist _ _).subset hx)
    · rw [hsub, ChangeMaps.map_eraseIdx]
      exact h4.sublist (List.eraseIdx_sublist _ _)
    · rw [hsub]
      intro x hx
      exact h6 x ((List.eraseIdx_sublist _ _).subset hx)
    · rw [← h7, leftOf_list, leftOf_list, hsub]
      congr 1
      have hsplit : es.toList = es.toList.take j ++ e0 :: es.toList.drop (j + 1) := by
        have hjj := (List.getElem?_eq_some_iff.1 hj).1
        have hee := (List.getElem?_eq_some_iff.1 hj).2
        rw [← hee, List.getElem_cons_drop, List.take_append_drop]
      have hseen : seen.contains e0.born = true := by
        cases hs : seen.contains e0.born
        · exfalso
          have : e0 ∈ (leftOf es seen).toList := by
            rw [leftOf_list]
            exact List.mem_filter.2 ⟨List.mem_of_getElem? hj, by rw [hs]; rfl⟩
          exact hno (kvE e0) (by rw [← h7]; exact List.mem_map_of_mem this) hj2
        · rfl
      have herase : es.toList.eraseIdx j = es.toList.take j ++ es.toList.drop (j + 1) := List.eraseIdx_eq_take_drop_succ _ _
      rw [herase]
      conv => rhs; rw [hsplit]
      rw [List.filter_append, List.filter_append, List.filter_cons, hseen]
      rfl
end

/-! ### at the walk -/
section
variable {P : Program} (w : World) {ops : Array Oper} {rest : List Oper} {o : Oper} {a : Act} {Q : Exit → Act → World → Prop} {α : Type}

theorem wpList_range_map (hg : o.guard = none) (m : Operand) (t : TypeId) (hop : o.op = Op.range t m) (k e : TypeId) (ht : P.underlying t = some (.map k e)) (b : Nat) (kvs : List (Value × Value))
    (hm : a.eval m = .map (some b)) (h : MapAt w b kvs)
    (hK : ∀ x, RngAt (w.alloc x) b w.heap.size kvs kvs → wpList P ops Q rest (a.put o.dst (.pointer (some ⟨w.heap.size, 0, none⟩))) (w.alloc x)) :
    wpList P ops Q (o :: rest) a w := by
  refine wpList_plain hg fun K' hK' => ?_
  obtain ⟨x, hrun, r1⟩ := h.range (P := P) ht
  unfold Oper.wp
  simp [execOp, hop, hm, hrun, Result.andThen]
  exact hK' _ _ (hK x r1)

theorem wpList_next_map (hg : o.guard = none) (it : Operand) (hop : o.op = Op.next it false) (mk : α → Value × Value) (b r : Nat) (kvs : List (Value × Value)) (left : List α)
    (hit : a.eval it = .pointer (some ⟨r, 0, none⟩)) (h : RngAt w b r kvs (left.map mk))
    (hDone : left = [] → wpList P ops Q rest (a.put o.dst (.tuple #[.bool false])) w)
    (hMore : ∀ l1 x l2 w', left = l1 ++ x :: l2 → RngAt w' b r kvs ((l1 ++ l2).map mk) → Frm (fun k => k = r) w w' → w'.heap.size = w.heap.size →
      (Instr.entry (.pointer (some ⟨r, 0, none⟩))).run P w' = .ok (.tuple #[(mk x).1, (mk x).2]) w' → wpList P ops Q rest (a.put o.dst (.tuple #[.bool true, (mk x).1, (mk x).2])) w') :
    wpList P ops Q (o :: rest) a w := by
  refine wpList_plain hg fun K' hK' => ?_
  unfold Oper.wp
  rcases h.next (P := P) o.type with ⟨hl, hrun⟩ | ⟨l1, p, l2, x, n, hl, hrun, hrg, hen⟩
  · simp [execOp, hop, hit, hrun, Result.andThen]
    exact hK' _ _ (hDone (List.map_eq_nil_iff.1 hl))
  · obtain ⟨m1, m2, rfl, rfl, hm2⟩ := List.map_eq_append_iff.1 hl
    obtain ⟨y, m3, rfl, rfl, rfl⟩ := List.map_eq_cons_iff.1 hm2
    simp [execOp, hop, hit, hrun, Result.andThen]
    exact hK' _ _ (hMore m1 y m3 _ rfl (by rw [List.map_append]; exact hrg) (((Frm.refl _ w).drewN n).setB x (fun _ => rfl)) (by rw [size_setB]; rfl) hen)

variable {F : Fence} {n : Nat}
theorem wpListIn_range_map (hg : o.guard = none) (m : Operand) (t : TypeId) (hop : o.op = Op.range t m) (k e : TypeId) (ht : P.underlying t = some (.map k e)) (b : Nat) (kvs : List (Value × Value))
    (hm : a.eval m = .map (some b)) (h : MapAt w b kvs)
    (hK : ∀ x, RngAt (w.alloc x) b w.heap.size kvs kvs → wpListIn F n P ops Q rest (a.put o.dst (.pointer (some ⟨w.heap.size, 0, none⟩))) (w.alloc x)) :
    wpListIn F n P ops Q (o :: rest) a w := by
  refine wpListIn_plain hg fun K' hK' => ?_
  obtain ⟨x, hrun, r1⟩ := h.range (P := P) ht
  unfold Oper.wpIn
  refine ⟨by simp [Oper.about, hop], ?_⟩
  rw [Oper.semAt_plain F _ _ (by rw [hop]; intro c hc'; cases hc')]
  simp [execOp, hop, hm, hrun, Result.andThen]
  exact hK' _ _ (hK x r1)

theorem wpListIn_next_map (hg : o.guard = none) (it : Operand) (hop : o.op = Op.next it false) (mk : α → Value × Value) (b r : Nat) (kvs : List (Value × Value)) (left : List α)
    (hit : a.eval it = .pointer (some ⟨r, 0, none⟩)) (h : RngAt w b r kvs (left.map mk))
    (hDone : left = [] → wpListIn F n P ops Q rest (a.put o.dst (.tuple #[.bool false])) w)
    (hMore : ∀ l1 x l2 w', left = l1 ++ x :: l2 → RngAt w' b r kvs ((l1 ++ l2).map mk) → Frm (fun k => k = r) w w' → w'.heap.size = w.heap.size →
      (Instr.entry (.pointer (some ⟨r, 0, none⟩))).run P w' = .ok (.tuple #[(mk x).1, (mk x).2]) w' → wpListIn F n P ops Q rest (a.put o.dst (.tuple #[.bool true, (mk x).1, (mk x).2])) w') :
    wpListIn F n P ops Q (o :: rest) a w := by
  refine wpListIn_plain hg fun K' hK' => ?_
  unfold Oper.wpIn
  refine ⟨by simp [Oper.about, hop], ?_⟩
  rw [Oper.semAt_plain F _ _ (by rw [hop]; intro c hc'; cases hc')]
  rcases h.next (P := P) o.type with ⟨hl, hrun⟩ | ⟨l1, p, l2, x, n, hl, hrun, hrg, hen⟩
  · simp [execOp, hop, hit, hrun, Result.andThen]
    exact hK' _ _ (hDone (List.map_eq_nil_iff.1 hl))
  · obtain ⟨m1, m2, rfl, rfl, hm2⟩ := List.map_eq_append_iff.1 hl
    obtain ⟨y, m3, rfl, rfl, rfl⟩ := List.map_eq_cons_iff.1 hm2
    simp [execOp, hop, hit, hrun, Result.andThen]
    exact hK' _ _ (hMore m1 y m3 _ rfl (by rw [List.map_append]; exact hrg) (((Frm.refl _ w).drewN n).setB x (fun _ => rfl)) (by rw [size_setB]; rfl) hen)
end

/-- How much is still to come, read off the world. -/
theorem RngAt.left_eq {w : World} {b r : Nat} {kvs left : List (Value × Value)} (h : RngAt w b r kvs left) : w.rangeLeft b r = left.length := by
  obtain ⟨es, clk, since, seen, c0, h1, h2, h3, h4, h5, h6, h7, h8, h9⟩ := h
  simp only [World.rangeLeft, h1, h5, ← h7]
  simp
end Go.Proofs.Ytmddhglhfgomiaa
