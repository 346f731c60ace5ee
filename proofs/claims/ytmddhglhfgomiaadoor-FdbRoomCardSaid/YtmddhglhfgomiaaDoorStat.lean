/- fdb: Drop, Static. Conditions: none. -/
import Derived.Test.YtmddhglhfgomiaaDoorDrop
import Derived.Stop.BytesEq
namespace Go.Proofs.YtmddhglhfgomiaaDoor
open Go Go.RowKit Go.Maps

abbrev macBs (m : Mac) : List UInt8 := [m.a.toNat.toUInt8, m.b.toNat.toUInt8, m.c.toNat.toUInt8, m.d.toNat.toUInt8, m.e.toNat.toUInt8, m.f.toNat.toUInt8]
theorem u8_cell {x : Int} (h : u8ok x) : Value.int .u8 x = Extern.Stop.cell x.toNat.toUInt8 := by
  obtain ⟨h1, h2⟩ := h
  obtain ⟨n, rfl⟩ := Int.eq_ofNat_of_zero_le h1
  unfold Extern.Stop.cell
  rw [Int.toNat_natCast, Nat.toUInt8, UInt8.toNat_ofNat', Nat.mod_eq_of_lt (by omega)]
  rfl
theorem macV_bs {m : Mac} (h : m.ok) : macV m = .agg ((macBs m).map Extern.Stop.cell).toArray := by
  unfold macV
  rw [u8_cell h.a, u8_cell h.b, u8_cell h.c, u8_cell h.d, u8_cell h.e, u8_cell h.f]
  rfl
theorem macBs_eq {p q : Mac} (hp : p.ok) (hq : q.ok) : (macBs p == macBs q) = decide (p = q) := by
  rw [Bool.eq_iff_iff, beq_iff_eq, decide_eq_true_iff]
  constructor
  · intro h
    simp only [List.cons.injEq, and_true] at h
    obtain ⟨h1, h2, h3, h4, h5, h6⟩ := h
    have e1 := (u8_lt hp.a hq.a).2.1 h1
    have e2 := (u8_lt hp.b hq.b).2.1 h2
    have e3 := (u8_lt hp.c hq.c).2.1 h3
    have e4 := (u8_lt hp.d hq.d).2.1 h4
    have e5 := (u8_lt hp.e hq.e).2.1 h5
    have e6 := (u8_lt hp.f hq.f).2.1 h6
    cases p; cases q
    simp only at e1 e2 e3 e4 e5 e6
    subst e1 e2 e3 e4 e5 e6
    rfl
  · intro h
    rw [h]
theorem macGuard : Tryd.prog.eqGuardType Tryd.prog.depth 24 = false := by kernel_rfl
theorem mac_eql {p q : Mac} (hp : p.ok) (hq : q.ok) (w : World) : (binOp .eql 24 (macV p) (macV q)).run Tryd.prog w = .ok (.bool (decide (p = q))) w := by
  rw [macV_bs hp, macV_bs hq, run_eql_bytes w 24 5 6 macArr.hu u8Int (fun w => by kernel_rfl) (macBs p) (macBs q) rfl rfl, macBs_eq hp hq]

set_option maxRecDepth 100000 in
set_option maxHeartbeats 400000 in
theorem dropM1_any (W : World) (eb pb : Nat) (e : Ent) (m : Mac) (he : e.mac.ok) (hm : m.ok) (hr : Row W eb 74 (entCells e)) (hp : Row W pb 24 (macCells m)) :
    Calls Tryd.prog 53 #[ptr eb, ptr pb] W fun en w' => en = .returned (.bool (decide (e.mac = m))) ∧ Frm (fun _ => False) W w' := by
  obtain ⟨e0, e1, e2, e3, e4, e5⟩ := And.intro (hr.cell 0) (And.intro (hr.cell 1) (And.intro (hr.cell 2) (And.intro (hr.cell 3) (And.intro (hr.cell 4) (hr.cell 5)))))
  obtain ⟨p0, p1, p2, p3, p4, p5⟩ := And.intro (hp.cell 0) (And.intro (hp.cell 1) (And.intro (hp.cell 2) (And.intro (hp.cell 3) (And.intro (hp.cell 4) (hp.cell 5)))))
  simp at e0 e1 e2 e3 e4 e5 p0 p1 p2 p3 p4 p5
  have hpg := macGuard
  have hpl := fun W => mac_eql he hm W
  clear hr hp
  go_enter Tryd.func53, Tryd.ntmps53
  go_wp2_with fail
  go_quiet (fail)
  go_wp2_with fail
  go_ret
  exact ⟨rfl, (by repeat (first | exact Frm.refl _ _ | assumption | refine Frm.drewN ?_ _ | refine Frm.drew ?_ | refine Frm.alloc ?_ _ | refine Frm.setCell ?_ _ (by simp)))⟩

theorem dropM_cells (w : World) (m : Mac) : Row (w.alloc (.cells (macCells m).toArray 24)) w.heap.size 24 (macCells m) := Row.new w 24 (macCells m)

set_option maxRecDepth 100000 in
set_option maxHeartbeats 400000 in
theorem dropM_any (w : World) (b mb : Nat) (room life : Int) (gs : List GEnt) (m : Mac) (hm : m.ok) (hN : gs.length ≤ 1048576) (B : BaseRep w b mb room life gs) :
    Calls Tryd.prog 31 #[ptr b, macV m] w fun e w' => e = .returned (.bool (decide (0 < (gs.length : Int) - (rest (fun e => decide (e.mac = m)) gs).length))) ∧ BaseRep w' b mb room life (rest (fun e => decide (e.mac = m)) gs) ∧ Frm (fun k => k = mb) w w' := by
  have hmf : ∀ (fn : Fn) (first cap : Array Value) (w : World), (Instr.makeFunc fn first cap).run Tryd.prog w = .ok (.func fn first cap) w := fun _ _ _ _ => rfl
  obtain ⟨w1, hw1⟩ : ∃ w1, w1 = w.alloc (.cells (macCells m).toArray 24) := ⟨_, rfl⟩
  have B1 : BaseRep w1 b mb room life gs := by rw [hw1]; exact B.alloc _
  have hF1 : Frm (fun k => k = mb) w w1 := by rw [hw1]; exact (Frm.refl _ w).alloc _
  have hc1 : Row w1 w.heap.size 24 (macCells m) := by rw [hw1]; exact Row.new w 24 (macCells m)
  have hd := drop_any w1 b mb room life gs 53 #[ptr w.heap.size] (fun e => decide (e.mac = m)) hN B1 (enters_of Tryd.func53 (by kernel_rfl) rfl)
    (fun W g hg hF => dropM1_any W g.1 w.heap.size g.2 m (B1.oks g hg).mac hm ((B1.ents g hg).frm hF (B1.not_map (B1.ents g hg))) (hc1.frm hF (B1.not_map hc1)))
  have HF := Lib.hid hF1
  obtain ⟨d, hdd⟩ : ∃ d : Int, d = (gs.length : Int) - (rest (fun e => decide (e.mac = m)) gs).length := ⟨_, rfl⟩
  rw [← hdd] at hd
  have HR := Lib.hid hdd
  clear B B1 hF1 hc1 hdd
  subst hw1
  by_cases hlt : 0 < d
  · have e1 := Lib.hid (decide_eq_true hlt)
    go_enter Tryd.func31, Tryd.ntmps31
    go_wp2_with fail
    refine hd.mono ?_
    rintro e w' ⟨rfl, h1, h2⟩
    go_wp2_with fail
    go_ret
    rw [← HR.out, e1.out]
    exact ⟨rfl, h1, HF.out.trans h2 (fun _ h _ => h)⟩
  · have e1 := Lib.hid (decide_eq_false hlt)
    go_enter Tryd.func31, Tryd.ntmps31
    go_wp2_with fail
    refine hd.mono ?_
    rintro e w' ⟨rfl, h1, h2⟩
    go_wp2_with fail
    go_ret
    rw [← HR.out, e1.out]
    exact ⟨rfl, h1, HF.out.trans h2 (fun _ h _ => h)⟩

/-! ### Static -/

def StaticRes (room : Int) (gs : List GEnt) (m : Mac) (p : Place) (nb : Nat) (code : Int) (gs' : List GEnt) : Prop :=
  if groupB m = true then code = 1 ∧ gs' = gs
  else match findG gs m with
    | none => AddRes room gs ⟨m, p, 0, true⟩ nb code gs'
    | some g => code = 0 ∧ gs' = gs.map fun x => if x.1 = g.1 then (nb, ⟨m, p, 0, true⟩) else x

def StaticPost (b mb : Nat) (room life : Int) (gs : List GEnt) (m : Mac) (p : Place) (w : World) (en : Ending) (w' : World) : Prop :=
  ∃ nb code gs', en = .returned (.int .i64 code) ∧ w.heap.size ≤ nb ∧ StaticRes room gs m p nb code gs' ∧ BaseRep w' b mb room life gs' ∧ Frm (fun k => k = mb) w w'

theorem swap_split {gs l1 l2 : List GEnt} {g : GEnt} (y : GEnt) (h : gs = l1 ++ g :: l2) (hn : gs.Pairwise (fun g g' => g.1 ≠ g'.1)) : gs.map (fun x => if x.1 = g.1 then y else x) = l1 ++ y :: l2 := by
  subst h
  obtain ⟨_, h2, h3⟩ := List.pairwise_append.1 hn
  obtain ⟨h4, _⟩ := List.pairwise_cons.1 h2
  rw [List.map_append, List.map_cons, if_pos rfl]
  congr 1
  · conv => rhs; rw [← List.map_id l1]
    exact List.map_congr_left (fun x hx => by rw [if_neg (h3 x hx g (by simp))]; rfl)
  · congr 1
    conv => rhs; rw [← List.map_id l2]
    exact List.map_congr_left (fun x hx => by rw [if_neg (fun e => h4 x hx e.symm)]; rfl)

/-- One entry is laid anew, in another block. -/
theorem BaseRep.swap {w : World} {b mb : Nat} {room life : Int} {l1 l2 : List GEnt} {g : GEnt} {nb : Nat} {e : Ent} {o : Obj} (B : BaseRep w b mb room life (l1 ++ g :: l2)) (he : e.ok) (hm : e.mac = g.2.mac) (hnb : Row w nb 74 (entCells e)) (hnew : ∀ x ∈ l1 ++ g :: l2, x.1 ≠ nb)
    (hmap : MapAt (setB w mb o) mb (kvOf l1 ++ (macV e.mac, ptr nb) :: kvOf l2)) : BaseRep (setB w mb o) b mb room life (l1 ++ (nb, e) :: l2) := by
  have hin : ∀ x ∈ l1 ++ (nb, e) :: l2, x = (nb, e) ∨ x ∈ l1 ++ g :: l2 := fun x hx => by
    rcases List.mem_append.1 hx with h | h
    · exact .inr (by simp [h])
    · rcases List.mem_cons.1 h with h | h
      · exact .inl h
      · exact .inr (by simp [h])
  have hk : ∀ {k T cs}, Row w k T cs → Row (setB w mb o) k T cs := fun h => h.of_eq (heap_setB_ne (B.not_map h))
  have hpw : ∀ (R : GEnt → GEnt → Prop), (l1 ++ g :: l2).Pairwise R → (∀ x ∈ l1, R x g → R x (nb, e)) → (∀ x ∈ l2, R g x → R (nb, e) x) → (l1 ++ (nb, e) :: l2).Pairwise R := fun R h h1 h2 => by
    rw [List.pairwise_append, List.pairwise_cons] at *
    exact ⟨h.1, ⟨fun x hx => h2 x hx (h.2.1.1 x hx), h.2.1.2⟩, fun x hx y hy => by
      rcases List.mem_cons.1 hy with rfl | hy
      · exact h1 x hx (h.2.2 x hx g (by simp))
      · exact h.2.2 x hx y (by simp [hy])⟩
  refine ⟨hk B.base, by simpa using hmap, fun x hx => ?_, fun x hx => ?_, hpw _ B.macs (fun x hx h => by rw [hm]; exact h) (fun x hx h => by rw [hm]; exact h), hpw _ B.blks (fun x hx _ => hnew x (by simp [hx])) (fun x hx _ e2 => hnew x (by simp [hx]) e2.symm)⟩
  · rcases hin x hx with rfl | h
    · exact hk hnb
    · exact hk (B.ents x h)
  · rcases hin x hx with rfl | h
    · exact he
    · exact B.oks x h

set_option maxRecDepth 100000 in
set_option maxHeartbeats 2000000 in
theorem static_any (w : World) (b mb : Nat) (room life : Int) (gs : List GEnt) (m : Mac) (hm : m.ok) (p : Place) (hroom : 1 ≤ room) (hN : gs.length ≤ 1048576) (B : BaseRep w b mb room life gs) :
    Calls Tryd.prog 27 #[ptr b, macV m, placeV p] w (StaticPost b mb room life gs m p w) := by
  have hgr := fun W => group_any W m hm
  have he : (⟨m, p, 0, true⟩ : Ent).ok := ⟨hm, by unfold u64ok; simp⟩
  cases hg : groupB m with
  | true =>
    rw [hg] at hgr
    have HB := Lib.hid (fun W (f : Frm (fun _ => False) w W) => B.frm f (fun _ _ h => h))
    have HG := Lib.hid hg
    clear B hg
    go_enter Tryd.func27, Tryd.ntmps27
    go_wp2_with fail
    refine (hgr _).mono ?_
    rintro e w' ⟨rfl, rfl⟩
    go_wp2_with fail
    go_ret
    exact ⟨w.heap.size, 1, gs, rfl, Nat.le_refl _, by unfold StaticRes; rw [if_pos HG.out]; exact ⟨rfl, rfl⟩, HB.out _ (by repeat (first | exact Frm.refl _ _ | assumption | refine Frm.drewN ?_ _ | refine Frm.drew ?_ | refine Frm.alloc ?_ _ | refine Frm.setCell ?_ _ (by simp))), (by repeat (first | exact Frm.refl _ _ | assumption | refine Frm.drewN ?_ _ | refine Frm.drew ?_ | refine Frm.alloc ?_ _ | refine Frm.setCell ?_ _ (by simp)))⟩
  | false =>
    rw [hg] at hgr
    have hlt := B.base.lt
    have c2 := B.base.cell 2
    simp at c2
    have HB := Lib.hid B
    have HG := Lib.hid hg
    have hl : ∀ W, Frm (fun _ => False) w W → (Instr.lookup 95 (.map (some mb)) (macV m) false).run Tryd.prog W = .ok (match findG gs m with | some g => ptr g.1 | none => .pointer none) W := fun W f => by
      have := (B.frm f (fun _ _ h => h)).look m hm false
      cases hf : findG gs m <;> simpa [hf] using this
    have hf4 : ∀ n o1 o2 o3 o4, Frm (fun _ => False) w (((((w.alloc o1).alloc o2).alloc o3).alloc o4).drewN n) := fun n o1 o2 o3 o4 => (by repeat (first | exact Frm.refl _ _ | assumption | refine Frm.drewN ?_ _ | refine Frm.drew ?_ | refine Frm.alloc ?_ _ | refine Frm.setCell ?_ _ (by simp)))
    have hl4 := fun n o1 o2 o3 o4 => hl _ (hf4 n o1 o2 o3 o4)
    have hrow : ∀ n o1 o2 o4, Row (((((w.alloc o1).alloc o2).alloc (.cells (entCells ⟨m, p, 0, true⟩).toArray 74)).alloc o4).drewN n) (w.heap.size + 2) 74 (entCells ⟨m, p, 0, true⟩) := fun n o1 o2 o4 => by
      have h := Row.new ((w.alloc o1).alloc o2) 74 (entCells ⟨m, p, 0, true⟩)
      rw [World.size_alloc, World.size_alloc] at h
      exact (h.alloc o4).drewN n
    have HF4 := Lib.hid hf4
    clear B hl hf4
    cases hf : findG gs m with
    | some g =>
      rw [hf] at hl4
      obtain ⟨hgin, hgm⟩ := findG_some hf
      obtain ⟨l1, l2, hsp⟩ := List.append_of_mem hgin
      obtain ⟨kl, hkl⟩ := macKey m hm
      have B0 : BaseRep w b mb room life (l1 ++ g :: l2) := hsp ▸ HB.out
      obtain ⟨o, ho⟩ := MapAt.upd_old (key := macV m) (v0 := ptr g.1) (l1 := kvOf l1) (l2 := kvOf l2) (by have := B0.map; simpa [hgm] using this) macLaw macMapT (by have := B0.keys; simpa [hgm] using this) hkl (by have := B0.apart; simpa [hgm] using this) (ptr (w.heap.size + 2))
      have hupd : ∀ n o1 o2 o3 o4, (Instr.mapUpdate 95 (.map (some mb)) (macV m) (ptr (w.heap.size + 2))).run Tryd.prog (((((w.alloc o1).alloc o2).alloc o3).alloc o4).drewN n) = .ok () (setB (((((w.alloc o1).alloc o2).alloc o3).alloc o4).drewN n) mb o) := fun n o1 o2 o3 o4 =>
        (ho _ ((HF4.out n o1 o2 o3 o4).keep mb B0.map.lt (fun h => h))).1
      have HP : Hid (∀ n o1 o2 o4, BaseRep (setB (((((w.alloc o1).alloc o2).alloc (.cells (entCells ⟨m, p, 0, true⟩).toArray 74)).alloc o4).drewN n) mb o) b mb room life (gs.map fun x => if x.1 = g.1 then (w.heap.size + 2, ⟨m, p, 0, true⟩) else x)) := Lib.hid (fun n o1 o2 o4 => by
        rw [swap_split _ hsp HB.out.blks]
        exact BaseRep.swap (B0.frm (HF4.out n o1 o2 _ o4) (fun _ _ h => h)) he hgm.symm (hrow n o1 o2 o4) (fun x hx e => by have := (B0.ents x hx).lt; omega) (ho _ ((HF4.out n o1 o2 _ o4).keep mb B0.map.lt (fun h => h))).2)
      have HFF : Hid (∀ n o1 o2 o3 o4, Frm (fun k => k = mb) w (setB (((((w.alloc o1).alloc o2).alloc o3).alloc o4).drewN n) mb o)) := Lib.hid (fun n o1 o2 o3 o4 => ((HF4.out n o1 o2 o3 o4).mono (fun _ h => h.elim)).setB o (fun _ => rfl))
      have HR : Hid (∀ nb, StaticRes room gs m p nb 0 (gs.map fun x => if x.1 = g.1 then (nb, ⟨m, p, 0, true⟩) else x)) := Lib.hid (fun nb => by
        unfold StaticRes
        rw [if_neg (by rw [HG.out]; simp), hf]
        exact ⟨rfl, rfl⟩)
      have hml := B0.map.lt
      clear hrow ho B0 hkl hsp hgin hgm hf
      go_enter Tryd.func27, Tryd.ntmps27
      go_wp2_with fail
      refine (hgr _).mono ?_
      rintro e w' ⟨rfl, rfl⟩
      go_wp2_with fail
      go_quiet (fail)
      go_wp2_with fail
      go_region
      go_wp2_with fail
      go_ret
      exact ⟨w.heap.size + 2, 0, _, rfl, by omega, HR.out _, HP.out _ _ _ _, HFF.out _ _ _ _ _⟩
    | none =>
      rw [hf] at hl4
      have hadd := fun n o1 o2 o3 o4 => add_any (((((w.alloc o1).alloc o2).alloc o3).alloc o4).drewN n) b mb room life gs ⟨m, p, 0, true⟩ he hroom hN hf (HB.out.frm (HF4.out n o1 o2 o3 o4) (fun _ _ h => h))
      have HR : Hid (∀ nb code gs', AddRes room gs ⟨m, p, 0, true⟩ nb code gs' → StaticRes room gs m p nb code gs') := Lib.hid (fun nb code gs' h => by
        unfold StaticRes
        rw [if_neg (by rw [HG.out]; simp), hf]
        exact h)
      have HA := Lib.hid hadd
      clear hrow hf hadd
      go_enter Tryd.func27, Tryd.ntmps27
      go_wp2_with fail
      refine (hgr _).mono ?_
      rintro e w' ⟨rfl, rfl⟩
      go_wp2_with fail
      go_quiet (fail)
      go_wp2_with fail
      refine (HA.out _ _ _ _ _).mono ?_
      rintro e w' ⟨nb, code, gs', rfl, hnb, hres, hB', hF'⟩
      go_wp2_with fail
      go_ret
      exact ⟨nb, code, gs', rfl, Nat.le_trans (HF4.out _ _ _ _ _).size hnb, HR.out _ _ _ hres, hB', ((HF4.out _ _ _ _ _).mono (fun _ h => h.elim)).trans hF' (fun _ h _ => h)⟩
end Go.Proofs.YtmddhglhfgomiaaDoor
