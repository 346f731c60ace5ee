/- fdb: List: the entries by rising MACs. Conditions: none. -/
import Derived.Test.YtmddhglhfgomiaaDoorLst
import Derived.Test.YtmddhglhfgomiaaDoorShelfB
import Derived.Shelf.SlSortCmp.NoneTotal
namespace Go.Proofs.YtmddhglhfgomiaaDoor
open Go Go.RowKit Go.Maps Go.Sort Go.Lib Go.Shelf

abbrev EntO := { e : Ent // e.ok }
theorem ent0_ok : (⟨⟨0, 0, 0, 0, 0, 0⟩, ⟨false, 0⟩, 0, false⟩ : Ent).ok := ⟨⟨⟨by decide, by decide⟩, ⟨by decide, by decide⟩, ⟨by decide, by decide⟩, ⟨by decide, by decide⟩, ⟨by decide, by decide⟩, ⟨by decide, by decide⟩⟩, ⟨by decide, by decide⟩⟩
instance entO_inh : Inhabited EntO := ⟨⟨_, ent0_ok⟩⟩
abbrev encO (x : EntO) : List Value := entCells x.1
abbrev cfO (x y : EntO) : Int := macCmp x.1.mac y.1.mac

set_option maxRecDepth 100000 in
set_option maxHeartbeats 1000000 in
theorem list1_any (x y : EntO) (W : World) : Calls Tryd.prog 45 #[.agg (encO x).toArray, .agg (encO y).toArray] W fun e w' => e = .returned (.int .i64 (cfO x y)) ∧ ∃ q os', w' = grow (W.drewN q) os' := by
  obtain ⟨x, hx⟩ := x
  obtain ⟨y, hy⟩ := y
  obtain ⟨r, hr⟩ : ∃ r, r = cfO ⟨x, hx⟩ ⟨y, hy⟩ := ⟨_, rfl⟩
  have h1 : Row (((W.alloc (.cells (entCells x).toArray 74)).alloc (.cells (entCells y).toArray 74)).drew) W.heap.size 74 (entCells x) := ((Row.new W 74 (entCells x)).alloc _).drew
  have h2 : Row (((W.alloc (.cells (entCells x).toArray 74)).alloc (.cells (entCells y).toArray 74)).drew) (W.heap.size + 1) 74 (entCells y) := by
    have h := Row.new (W.alloc (.cells (entCells x).toArray 74)) 74 (entCells y)
    rw [World.size_alloc] at h
    exact h.drew
  have hb := (bcmp_any _ W.heap.size (W.heap.size + 1) 6 6 x y hx.mac hy.mac h1 h2).mono (R' := fun en w' => en = .returned (.int .i64 r) ∧ w' = _) fun _ _ ⟨h1, h2⟩ => ⟨by rw [hr]; exact h1, h2.symm⟩
  rw [← hr]
  clear hr h1 h2
  go_enter Tryd.func45, Tryd.ntmps45
  go_wp2_with fail
  refine wp_region_still_lit (by kernel_rfl) (by kernel_rfl) ?_
  change wpStill _ _ (World.drew _) _ _ _
  (repeat still_step)
  still_call hb
  (repeat still_step)
  refine wpStill_nil ?_
  go_wp2_with fail
  go_ret
  exact ⟨rfl, 1, _, by
    change ((W.drew.alloc _).alloc _) = _
    rw [alloc_eq_grow, alloc_eq_grow, grow_grow]
    rfl⟩

theorem ltO (x y : EntO) : ltOf cfO x y = true ↔ macLt x.1.mac y.1.mac := by
  unfold ltOf
  rw [decide_eq_true_iff]
  exact macCmp_lt _ _
theorem ltO_f (x y : EntO) : ltOf cfO x y = false ↔ ¬ macLt x.1.mac y.1.mac := by
  rw [← ltO]
  simp
theorem swoO : SWO (ltOf cfO) where
  irrefl x := by rw [ltO_f]; unfold macLt; omega
  trans x y z h1 h2 := by rw [ltO] at *; unfold macLt at *; omega
  ntrans x y z h1 h2 := by rw [ltO_f] at *; unfold macLt at *; omega

section
variable {α : Type} [Inhabited α] (enc : α → List Value) (k : Nat)
theorem flat_get (hk : ∀ x, (enc x).length = k) (k0 : 0 < k) : ∀ (l : List α) (t : Nat), t < l.length * k → (l.flatMap enc)[t]? = some ((enc l[t / k]!)[t % k]!)
  | [], t, h => by simp at h
  | x :: l, t, h => by
    rw [List.flatMap_cons]
    by_cases hlt : t < k
    · rw [List.getElem?_append_left (by rw [hk]; exact hlt), Nat.div_eq_of_lt hlt, Nat.mod_eq_of_lt hlt, List.getElem?_eq_getElem (by rw [hk]; exact hlt)]
      simp [hk, hlt]
    · have hle : k ≤ t := by omega
      have e1 : t / k = (t - k) / k + 1 := by
        rw [Nat.div_eq_sub_div k0 hle]
      have e2 : t % k = (t - k) % k := by rw [Nat.mod_eq_sub_mod hle]
      have hl : t - k < l.length * k := by
        rw [List.length_cons, Nat.add_mul, Nat.one_mul] at h
        omega
      rw [List.getElem?_append_right (by rw [hk]; exact hle), hk, flat_get hk k0 l (t - k) hl, e1, e2]
      simp

theorem flatK_toList (hk : ∀ x, (enc x).length = k) (k0 : 0 < k) (l : List α) : (flatK enc k l.toArray).toList = l.flatMap enc := by
  have hlen : (l.flatMap enc).length = l.length * k := by
    induction l with
    | nil => simp
    | cons x l ih => rw [List.flatMap_cons, List.length_append, ih, hk, List.length_cons, Nat.add_mul, Nat.one_mul]; omega
  apply List.ext_getElem?
  intro t
  by_cases h : t < l.length * k
  · rw [flat_get enc k hk k0 l t h]
    have h2 := get_flatK enc k l.toArray t (by simpa using h)
    have h3 : t < (flatK enc k l.toArray).toList.length := by simpa using h
    rw [List.getElem?_eq_getElem h3]
    rw [getElem!_pos (flatK enc k l.toArray) t (by simpa using h)] at h2
    simp only [Array.getElem_toList]
    rw [h2]
    simp
  · rw [List.getElem?_eq_none (by simp; omega), List.getElem?_eq_none (by omega)]
end

theorem lift_ok : ∀ (es : List Ent), (∀ e ∈ es, e.ok) → ∃ l : List EntO, l.map (·.1) = es
  | [], _ => ⟨[], rfl⟩
  | e :: es, h => by
    obtain ⟨l, hl⟩ := lift_ok es (fun x hx => h x (List.mem_cons_of_mem _ hx))
    exact ⟨⟨e, h e (by simp)⟩ :: l, by simp [hl]⟩
theorem lift_flat (l : List EntO) : (l.map (·.1)).flatMap entCells = l.flatMap encO := by
  rw [List.flatMap_map]

/-- What List hands back. -/
def LstS (w : World) (gs : List GEnt) (v : Value) (W : World) : Prop := ∃ es : List Ent, es.Perm (gs.map (·.2)) ∧ es.Pairwise (fun a b => ¬ macLt b.mac a.mac) ∧ ESl (w.heap.size + 1) W v es ∧ Below w.heap.size w W

theorem isAggE (w : World) : (isAgg 74).run Tryd.prog w = .ok true w := by kernel_rfl
theorem sizeE (w : World) : (Go.sizeOf 74).run Tryd.prog w = .ok 10 w := by kernel_rfl

theorem sort_any (w W : World) (gs : List GEnt) (v : Value) (hok : ∀ g ∈ gs, g.2.ok) (hN : gs.length ≤ 1048576) (hL : Lst w gs W v) : Calls Tryd.prog 44 #[v, .func (.func 45) #[] #[]] W fun e w' => e = .returned (.tuple #[]) ∧ LstS w gs v w' := by
  obtain ⟨ss, hp, hown, hB⟩ := hL
  rcases hown.2 with ⟨rfl, h0⟩ | ⟨g, cap, cur, rfl, hbase, hb, h1, h2, h3, h4⟩
  · have hss : ss = [] := List.eq_nil_of_length_eq_zero (by simpa using h0)
    subst hss
    refine (AnyF.slices_SortFunc_none Tryd.sortE none 0 (.func (.func 45) #[] #[]) W).mono ?_
    rintro e w' ⟨rfl, rfl⟩
    exact ⟨rfl, [], by simpa using hp.map (·.2), by simp, hown, hB⟩
  · obtain ⟨l, hl⟩ := lift_ok (ss.map (·.2)) (fun e he => by
      obtain ⟨x, hx, rfl⟩ := List.mem_map.1 he
      exact hok x (hp.subset hx))
    have hll : l.length = (ss.map (·.2)).length := by rw [← hl]; simp
    have hfl : (flatK encO 10 l.toArray).toList = (ss.map (·.2)).flatMap entCells := by rw [flatK_toList encO 10 (fun _ => rfl) (by decide), ← hl, lift_flat]
    have hgl : g < W.heap.size := heap_lt hb
    have hH : HoldsK encO 10 W g 0 l.toArray := by
      intro j hj
      refine ⟨?_, by simp [World.frozen?, hb]⟩
      have hj' : j < (ss.map (·.2)).length * 10 := by simpa [hll] using hj
      have e1 : (cur.toList.take ((ss.map (·.2)).length * 10))[j]? = ((ss.map (·.2)).flatMap entCells)[j]? := by rw [h4]
      rw [List.getElem?_take_of_lt hj', ← hfl] at e1
      simp only [World.cell?, hb, Nat.zero_add, Option.isSome_none, Bool.false_eq_true, if_false]
      rw [← Array.getElem?_toList, e1, Array.getElem?_toList]
      rw [Array.getElem?_eq_getElem hj, getElem!_pos _ j hj]
      rfl
    have hsz : (ss.map (·.2)).length ≤ 1048576 := by rw [List.length_map, hp.length_eq]; exact hN
    have hc := AnyQ.slices_SortFunc Tryd.sortE 10 isAggE sizeE encO (fun _ => rfl) (fun x => entCells_one x.1) cfO swoO 45 #[] g 0 cap l.toArray W (enters_of Tryd.func45 (by kernel_rfl) rfl) (fun m os dk hdk x y => list1_any x y _) hH hgl (by rw [List.size_toArray]; omega)
    have hs : l.toArray.size = (ss.map (·.2)).length := by simpa using hll
    rw [hs] at hc
    refine hc.mono ?_
    rintro e w' ⟨rfl, d', n, os, hperm, hsort, rfl⟩
    obtain ⟨hp1, _, hp3⟩ := hperm
    have hd : d'.size = (ss.map (·.2)).length := by rw [hp1]; exact hs
    have e1 : d'.extract 0 (ss.map (·.2)).length = d' := by rw [← hd]; simp
    have e2 : l.toArray.extract 0 (ss.map (·.2)).length = l.toArray := by rw [← hs]; simp
    rw [e1, e2] at hp3
    refine ⟨rfl, d'.toList.map (·.1), ?_, ?_, ?_, ?_⟩
    · have h5 := hp3.map (fun x : EntO => x.1)
      have h6 : (l.toArray.toList).map (fun x : EntO => x.1) = ss.map (·.2) := by simpa using hl
      rw [h6] at h5
      exact h5.trans (hp.map _)
    · rw [List.pairwise_map, List.pairwise_iff_getElem]
      intro i j hi hj hij
      have h5 := hsort i j (Nat.zero_le _) hij (by rw [← hd]; simpa using hj)
      rw [ltO_f] at h5
      rw [getElem!_pos d' i (by simpa using hi), getElem!_pos d' j (by simpa using hj)] at h5
      simpa using h5
    · have hflat : (flatK encO 10 d').toList = (d'.toList.map (·.1)).flatMap entCells := by
        have := flatK_toList encO 10 (fun _ => rfl) (by decide) d'.toList
        rw [lift_flat, ← this]
      have hfs : (flatK encO 10 d').size = (ss.map (·.2)).length * 10 := by rw [size_flatK, hd]
      refine ⟨by rw [← hflat]; simp [hd], .inr ⟨g, cap, putCells id 0 (flatK encO 10 d') cur, ?_, hbase, ?_, ?_, h2, ?_, ?_⟩⟩
      · simp [hd]
      · unfold sortWorldK
        rw [heap_grow_old _ _ (by simpa [putRowK, putRow, mapBlock, Sort.ahead] using hgl)]
        simp [putRowK, putRow, mapBlock, Sort.ahead, Array.getElem?_modify, hb, onCells]
      · simpa [hd] using h1
      · simp [putCells, h3]
      · rw [← hflat]
        apply List.ext_getElem?
        intro j
        have hcs : (ss.map (·.2)).length * 10 ≤ cur.size := by rw [h3]; exact Nat.mul_le_mul_right 10 h1
        have hll2 : (List.map (fun x : EntO => x.1) d'.toList).length * 10 = (ss.map (·.2)).length * 10 := by simp [hd]
        rw [hll2]
        by_cases hj : j < (ss.map (·.2)).length * 10
        · rw [List.getElem?_take_of_lt hj, Array.getElem?_toList, Array.getElem?_toList]
          have hjc : j < cur.size := by omega
          have hjf : j < (flatK encO 10 d').size := by omega
          simp only [putCells, Array.getElem?_mapIdx, Array.getElem?_eq_getElem hjc, Option.map_some, Nat.zero_le, Nat.zero_add, true_and, hjf, if_true, Nat.sub_zero, id]
          rw [getElem!_pos _ j hjf, Array.getElem?_eq_getElem hjf]
        · rw [List.getElem?_take_eq_none (by omega), List.getElem?_eq_none (by simp; omega)]
    · refine hB.trans ⟨rfl, rfl, rfl, ?_, fun i hi => ?_⟩
      · simp [sortWorldK, grow, putRowK, putRow, mapBlock, Sort.ahead]
      · have hi2 : i < W.heap.size := Nat.lt_of_lt_of_le hi hB.size
        unfold sortWorldK
        rw [heap_grow_old _ _ (by simpa [putRowK, putRow, mapBlock, Sort.ahead] using hi2)]
        have : g ≠ i := by omega
        simp [putRowK, putRow, mapBlock, Sort.ahead, Array.getElem?_modify, this]
end Go.Proofs.YtmddhglhfgomiaaDoor
