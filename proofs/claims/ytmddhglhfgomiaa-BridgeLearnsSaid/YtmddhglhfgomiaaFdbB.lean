/- fdb: New; add where there is room. Conditions: none. -/
import Derived.Test.YtmddhglhfgomiaaFdbA
namespace Go.Proofs.Ytmddhglhfgomiaa
open Go Go.RowKit Go.Maps

theorem base_new (w : World) (room life : Int) : BaseRep ((w.alloc (.map #[] 0)).alloc (.cells #[.int .i64 room, .int .u64 life, .map (some w.heap.size)] 82)) (w.heap.size + 1) w.heap.size room life [] := by
  refine ⟨?_, ?_, by simp, by simp, by simp, by simp⟩
  · have := Row.new (w.alloc (.map #[] 0)) 82 [.int .i64 room, .int .u64 life, .map (some w.heap.size)]
    rwa [World.size_alloc] at this
  · exact (MapAt.new w).alloc _

set_option maxHeartbeats 400000 in
theorem fnew_any (w : World) (room life : Int) :
    Calls Try.prog 34 #[.int .i64 room, .int .u64 life] w fun e w' =>
      e = .returned (ptr (w.heap.size + 1)) ∧ (w.alloc (.map #[] 0)).alloc (.cells #[.int .i64 (roomOf room), .int .u64 life, .map (some w.heap.size)] 82) = w' := by
  have hmm := @run_makeMap Try.prog
  go_enter Try.func34, Try.ntmps34
  go_wp2_with fail
  · go_ret
    exact ⟨rfl, by rw [show roomOf room = 1 from by unfold roomOf; omega]⟩
  · go_ret
    exact ⟨rfl, by rw [show roomOf room = 64 from by unfold roomOf; omega]⟩
  · go_ret
    exact ⟨rfl, by rw [show roomOf room = room from by unfold roomOf; omega]⟩

theorem eq_of_blk {gs : List GEnt} (hn : gs.Pairwise (fun g g' => g.1 ≠ g'.1)) {x y : GEnt} (hx : x ∈ gs) (hy : y ∈ gs) (h : x.1 = y.1) : x = y := by
  induction gs with
  | nil => cases hx
  | cons z r ih =>
    obtain ⟨h1, h2⟩ := List.pairwise_cons.1 hn
    rcases List.mem_cons.1 hx with rfl | hx' <;> rcases List.mem_cons.1 hy with rfl | hy'
    · rfl
    · exact absurd h (h1 y hy')
    · exact absurd h.symm (h1 x hx')
    · exact ih h2 hx' hy'

section
variable {w w' : World} {b mb : Nat} {room life : Int} {gs : List GEnt}
theorem BaseRep.len (B : BaseRep w b mb room life gs) (ty : TypeId) : (Builtin.len_ #[80] ty #[.map (some mb)]).run Try.prog w = .ok (.int .i64 gs.length) w := by
  have := B.map.len (ty := ty) macMapT
  simpa using this

/-- One entry more: its block is new, and laid behind all that was. -/
theorem BaseRep.put {o : Obj} (B : BaseRep w b mb room life gs) {e : Ent} {nb : Nat} (he : e.ok) (hno : findG gs e.mac = none) (hnb : Row w nb 85 (entCells e)) (hnew : ∀ g ∈ gs, g.1 ≠ nb)
    (hm : MapAt (setB w mb o) mb (kvOf gs ++ [(macV e.mac, ptr nb)])) : BaseRep (setB w mb o) b mb room life (gs ++ [(nb, e)]) := by
  have hmb : ∀ k T cs, Row w k T cs → k ≠ mb := fun k T cs h e => by
    subst e
    obtain ⟨es, clk, h1, _⟩ := B.map
    unfold Row at h
    rw [h1] at h
    cases h
  refine ⟨B.base.of_eq (heap_setB_ne (hmb _ _ _ B.base)), by simpa using hm, ?_, ?_, ?_, ?_⟩
  · intro g hg
    rcases List.mem_append.1 hg with hg | hg
    · exact (B.ents g hg).of_eq (heap_setB_ne (hmb _ _ _ (B.ents g hg)))
    · simp at hg
      subst hg
      exact hnb.of_eq (heap_setB_ne (hmb _ _ _ hnb))
  · intro g hg
    rcases List.mem_append.1 hg with hg | hg
    · exact B.oks g hg
    · simp at hg
      subst hg
      exact he
  · refine List.pairwise_append.2 ⟨B.macs, by simp, fun g hg g' hg' => ?_⟩
    simp at hg'
    subst hg'
    exact findG_none hno g hg
  · refine List.pairwise_append.2 ⟨B.blks, by simp, fun g hg g' hg' => ?_⟩
    simp at hg'
    subst hg'
    exact hnew g hg
theorem setG_mem {gs : List GEnt} {nb : Nat} {e : Ent} {x : GEnt} (h : x ∈ setG gs nb e) : x = (nb, e) ∨ (x ∈ gs ∧ x.1 ≠ nb) := by
  obtain ⟨g, hg, rfl⟩ := List.mem_map.1 h
  split
  · exact .inl rfl
  · rename_i hne
    exact .inr ⟨hg, hne⟩

/-- One entry is told anew, in its place. -/
theorem BaseRep.setEnt (B : BaseRep w b mb room life gs) {g : GEnt} (hg : g ∈ gs) {e : Ent} (he : e.ok) (hm : e.mac = g.2.mac) (hr : Row w' g.1 85 (entCells e))
    (hf : Frm (fun k => k = g.1) w w') : BaseRep w' b mb room life (setG gs g.1 e) := by
  have hr0 := B.ents g hg
  have hkv : kvOf (setG gs g.1 e) = kvOf gs := by
    unfold kvOf setG
    rw [List.map_map]
    refine List.map_congr_left (fun x hx => ?_)
    simp only [Function.comp]
    split
    · rename_i h1
      have : x = g := eq_of_blk B.blks hx hg h1
      subst this
      rw [hm]
    · rfl
  refine ⟨B.base.frm hf (fun h => ?_), ?_, ?_, ?_, ?_, ?_⟩
  · subst h
    exact absurd (B.base.inj hr0).1 (by decide)
  · rw [hkv]
    refine B.map.frm hf (fun h => ?_)
    obtain ⟨es, clk, h1, _⟩ := B.map
    unfold Row at hr0
    rw [← h, h1] at hr0
    cases hr0
  · intro x hx
    rcases setG_mem hx with rfl | ⟨hx, hne⟩
    · exact hr
    · exact (B.ents x hx).frm hf hne
  · intro x hx
    rcases setG_mem hx with rfl | ⟨hx, hne⟩
    · exact he
    · exact B.oks x hx
  · unfold setG
    rw [List.pairwise_map]
    have h2 := B.macs
    refine List.Pairwise.imp_of_mem ?_ h2
    intro x y hx hy hxy
    split <;> split
    · rename_i h3 h4
      exact absurd (by rw [eq_of_blk B.blks hx hg h3, eq_of_blk B.blks hy hg h4]) hxy
    · rename_i h3 h4
      rw [eq_of_blk B.blks hx hg h3] at hxy
      rw [hm]
      exact hxy
    · rename_i h3 h4
      rw [eq_of_blk B.blks hy hg h4] at hxy
      rw [hm]
      exact hxy
    · exact hxy
  · unfold setG
    rw [List.pairwise_map]
    refine List.Pairwise.imp_of_mem ?_ B.blks
    intro x y hx hy hxy
    split <;> split
    · rename_i h3 h4
      exact absurd (h3.trans h4.symm) hxy
    · rename_i h3 h4
      exact fun h => h4 h.symm
    · rename_i h3 h4
      exact h3
    · exact hxy
end

theorem row_learned {w : World} {eb : Nat} {e : Ent} {m : Mac} {p : Place} {now : Int} (hr : Row w eb 85 (entCells e)) (hs : e.static = false) (hm : e.mac = m) :
    Row (((w.setCell ⟨eb, 6, none⟩ (.bool p.tunnel)).setCell ⟨eb, 7, none⟩ (.int .i64 p.n)).setCell ⟨eb, 8, none⟩ (.int .u64 now)) eb 85 (entCells ⟨m, p, now, false⟩) := by
  have h := ((hr.set 6 (.bool p.tunnel)).set 7 (.int .i64 p.n)).set 8 (.int .u64 now)
  subst hm
  simpa [hs] using h

set_option maxHeartbeats 1000000 in
theorem add_room (w : World) (b mb : Nat) (room life : Int) (gs : List GEnt) (e : Ent) (he : e.ok) (hr : (gs.length : Int) < room) (hno : findG gs e.mac = none) (B : BaseRep w b mb room life gs) :
    Calls Try.prog 66 #[ptr b, entV e] w fun en w' =>
      en = .returned (.int .i64 0) ∧ BaseRep w' b mb room life (gs ++ [(w.heap.size, e)]) ∧ Frm (fun k => k = mb) w w' := by
  have c0 := B.base.cell 0
  have c2 := B.base.cell 2
  simp at c0 c2
  have hlt := B.base.lt
  have hml := B.map.lt
  obtain ⟨kl, hkl⟩ := macKey e.mac he.mac
  obtain ⟨o, ho⟩ := B.map.upd_new macLaw macMapT B.keys hkl (fun p hp h => by
    obtain ⟨g, hg, rfl⟩ := List.mem_map.1 hp
    exact findG_none hno g hg (macV_inj h)) (ptr w.heap.size)
  obtain ⟨w1, hw1⟩ : ∃ w1, w1 = w.alloc (.cells (entCells e).toArray 85) := ⟨_, rfl⟩
  have B1 : BaseRep w1 b mb room life gs := by rw [hw1]; exact B.alloc _
  have hrow : Row w1 w.heap.size 85 (entCells e) := by rw [hw1]; exact Row.new w _ _
  have hnew : ∀ g ∈ gs, g.1 ≠ w.heap.size := fun g hg => Nat.ne_of_lt (B.ents g hg).lt
  have hlen : ∀ n ty, (Builtin.len_ #[80] ty #[.map (some mb)]).run Try.prog (w1.drewN n) = .ok (.int .i64 gs.length) (w1.drewN n) := fun n ty => (B1.drewN n).len ty
  have hupd : ∀ n, (Instr.mapUpdate 80 (.map (some mb)) (macV e.mac) (ptr w.heap.size)).run Try.prog (w1.drewN n) = .ok () (setB (w1.drewN n) mb o) := fun n => (ho _ (by rw [hw1]; exact heap_alloc_lt hml)).1
  have hpost : ∀ n, BaseRep (setB (w1.drewN n) mb o) b mb room life (gs ++ [(w.heap.size, e)]) := fun n =>
    (B1.drewN n).put he hno (hrow.drewN n) hnew (ho _ (by rw [hw1]; exact heap_alloc_lt hml)).2
  have hfrm : ∀ n, Frm (fun k => k = mb) w (setB (w1.drewN n) mb o) := fun n => by
    rw [hw1]
    exact (((Frm.refl _ w).alloc _).drewN n).setB o (fun _ => rfl)
  clear B B1 ho hkl hnew hno hrow
  subst hw1
  go_enter Try.func66, Try.ntmps66
  go_wp2_with fail
  go_quiet (fail)
  go_wp2_with fail
  go_region
  go_wp2_with fail
  go_ret
  exact ⟨rfl, hpost _, hfrm _⟩


set_option maxHeartbeats 1000000 in
theorem learn_group (w : World) (b : Nat) (m : Mac) (hm : m.ok) (p : Place) (now : Int) (hg : groupB m = true) :
    Calls Try.prog 53 #[ptr b, macV m, placeV p, .int .u64 now] w fun en w' =>
      en = .returned (.tuple #[.bool false, .int .i64 1]) ∧ Frm (fun _ => False) w w' := by
  have hgr := fun W => group_any W m hm
  rw [hg] at hgr
  go_enter Try.func53, Try.ntmps53
  go_wp2_with (go_at_call 52; refine (hgr _).mono ?_; rintro e w' ⟨rfl, rfl⟩)
  go_ret2
  exact ⟨rfl, (by repeat (first | exact Frm.refl _ _ | assumption | refine Frm.drewN ?_ _ | refine Frm.drew ?_ | refine Frm.alloc ?_ _ | refine Frm.setCell ?_ _ (by simp)))⟩

set_option maxRecDepth 100000 in
set_option maxHeartbeats 1000000 in
theorem learn_known (w : World) (b mb : Nat) (room life : Int) (gs : List GEnt) (m : Mac) (hm : m.ok) (p : Place) (now : Int) (hn : u64ok now) (hg : groupB m = false)
    (g : GEnt) (hf : findG gs m = some g) (B : BaseRep w b mb room life gs) :
    Calls Try.prog 53 #[ptr b, macV m, placeV p, .int .u64 now] w fun en w' =>
      en = .returned (.tuple #[.bool (decide (g.2.place ≠ p)), .int .i64 0]) ∧ BaseRep w' b mb room life (if g.2.static then gs else setG gs g.1 ⟨m, p, now, false⟩) ∧ Frm (fun k => k = g.1) w w' := by
  have hgr := fun W => group_any W m hm
  rw [hg] at hgr
  have c2 := B.base.cell 2
  simp at c2
  have hlt := B.base.lt
  obtain ⟨hgin, hgm⟩ := findG_some hf
  have hl : ∀ n o1 o2 o3, (Instr.lookup 80 (.map (some mb)) (macV m) false).run Try.prog ((((w.alloc o1).alloc o2).alloc o3).drewN n) = .ok (ptr g.1) ((((w.alloc o1).alloc o2).alloc o3).drewN n) := fun n o1 o2 o3 => by
    have := ((((B.alloc o1).alloc o2).alloc o3).drewN n).look m hm false
    simpa [hf] using this
  have hr := B.ents g hgin
  have hrlt := hr.lt
  have e6 := hr.cell 6
  have e7 := hr.cell 7
  have e8 := hr.cell 8
  have e9 := hr.cell 9
  have f6 := hr.free 6
  have f7 := hr.free 7
  have f8 := hr.free 8
  simp at e6 e7 e8 e9
  have hpg := placeGuard
  have hne := fun W => place_neq g.2.place p W
  cases hs : g.2.static
  all_goals
    rw [hs] at e9
    go_enter Try.func53, Try.ntmps53
    go_wp2_with (go_at_call 52; refine (hgr _).mono ?_; rintro e w' ⟨rfl, rfl⟩)
    go_quiet (fail)
    go_wp2_with fail
    go_quiet (fail)
    go_wp2_with fail
  · go_ret2
    refine ⟨rfl, ?_, ?_⟩
    · try rw [if_neg (by simp [hs])]
      try rw [if_neg (by simp)]
      refine B.setEnt hgin ⟨hm, hn⟩ hgm.symm ?_ (by repeat (first | exact Frm.refl _ _ | assumption | refine Frm.drewN ?_ _ | refine Frm.drew ?_ | refine Frm.alloc ?_ _ | refine Frm.setCell ?_ _ (by simp)))
      exact row_learned ((((hr.alloc _).alloc _).alloc _).drewN _) hs hgm
    · exact (by repeat (first | exact Frm.refl _ _ | assumption | refine Frm.drewN ?_ _ | refine Frm.drew ?_ | refine Frm.alloc ?_ _ | refine Frm.setCell ?_ _ (by simp)))
  · go_ret2
    exact ⟨rfl, by simpa using B.frm (by repeat (first | exact Frm.refl _ _ | assumption | refine Frm.drewN ?_ _ | refine Frm.drew ?_ | refine Frm.alloc ?_ _ | refine Frm.setCell ?_ _ (by simp))) (fun _ _ h => h), (by repeat (first | exact Frm.refl _ _ | assumption | refine Frm.drewN ?_ _ | refine Frm.drew ?_ | refine Frm.alloc ?_ _ | refine Frm.setCell ?_ _ (by simp)))⟩

end Go.Proofs.Ytmddhglhfgomiaa
