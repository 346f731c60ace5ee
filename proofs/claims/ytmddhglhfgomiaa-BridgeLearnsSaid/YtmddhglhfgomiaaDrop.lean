/- fdb: maps.DeleteFunc, drop, Forget, Drop, Tick. Conditions: none. -/
import Derived.Test.YtmddhglhfgomiaaAdd
namespace Go.Proofs.Ytmddhglhfgomiaa
open Go Go.RowKit Go.Maps

set_option maxRecDepth 100000 in
set_option maxHeartbeats 400000 in
theorem drop1_any (W : World) (cb h : Nat) (lb : Array Value) (m : Mac) (eb : Nat) (b : Bool) (hc : Row W cb 99 [.func (.func h) #[] lb]) (eh : ∀ args w, (callFunc h args).run Try.prog w = .ok (.enter h args) w)
    (hh : ∀ o, Calls Try.prog h (#[ptr eb] ++ lb) (W.alloc o) fun e w' => e = .returned (.bool b) ∧ Frm (fun _ => False) (W.alloc o) w') :
    Calls Try.prog 65 #[macV m, ptr eb, ptr cb] W fun e w' => e = .returned (.bool b) ∧ Frm (fun _ => False) W w' := by
  have c0 := hc.cell 0
  simp at c0
  have hl := hc.lt
  have hF : ∀ o w', Frm (fun _ => False) (W.alloc o) w' → Frm (fun _ => False) W w' := fun o w' f => ((Frm.refl _ W).alloc o).trans f (fun _ h _ => h)
  clear hc
  go_enter Try.func65, Try.ntmps65
  go_wp2_with fail
  refine (hh _).mono ?_
  rintro e w' ⟨rfl, hf⟩
  go_wp2_with fail
  go_ret
  exact ⟨rfl, hF _ _ hf⟩

def keepG (p : Ent → Bool) (left : List GEnt) (g : GEnt) : Bool := left.contains g || !p g.2

theorem keep_stay {p : Ent → Bool} {gs l1 l2 : List GEnt} {x : GEnt} (h : p x.2 = false) : gs.filter (keepG p (l1 ++ l2)) = gs.filter (keepG p (l1 ++ x :: l2)) := by
  apply List.filter_congr
  intro g _
  unfold keepG
  by_cases e : g = x
  · subst e
    simp [h]
  · rw [Bool.eq_iff_iff]
    simp [e]
theorem keep_drop {p : Ent → Bool} {gs l1 l2 k1 k2 : List GEnt} {x : GEnt} (h : p x.2 = true) (hn : gs.Nodup) (hl : (l1 ++ x :: l2).Nodup) (hk : gs.filter (keepG p (l1 ++ x :: l2)) = k1 ++ x :: k2) : gs.filter (keepG p (l1 ++ l2)) = k1 ++ k2 := by
  have h1 : gs.filter (keepG p (l1 ++ l2)) = (gs.filter (keepG p (l1 ++ x :: l2))).filter (fun g => !decide (g = x)) := by
    rw [List.filter_filter]
    apply List.filter_congr
    intro g _
    unfold keepG
    by_cases e : g = x
    · subst e
      have : ¬ g ∈ l1 ++ l2 := by
        rw [List.nodup_append] at hl
        obtain ⟨_, h2, h3⟩ := hl
        rw [List.nodup_cons] at h2
        intro hm
        rcases List.mem_append.1 hm with hm | hm
        · exact h3 g hm g (by simp) rfl
        · exact h2.1 hm
      have : (l1 ++ l2).contains g = false := by simpa using this
      rw [this, h]
      simp
    · rw [Bool.eq_iff_iff]
      simp [e]
  rw [h1, hk]
  have hnd : (k1 ++ x :: k2).Nodup := by rw [← hk]; exact hn.sublist List.filter_sublist
  rw [List.nodup_append] at hnd
  obtain ⟨_, h2, h3⟩ := hnd
  rw [List.nodup_cons] at h2
  rw [List.filter_append, List.filter_cons]
  simp only [decide_true, Bool.not_true, Bool.false_eq_true, if_false]
  congr 1
  · exact List.filter_eq_self.2 (fun y hy => by have := h3 y hy x (by simp); simpa using this)
  · exact List.filter_eq_self.2 (fun y hy => by have : y ≠ x := fun e => h2.1 (e ▸ hy); simpa using this)
theorem keep_all (p : Ent → Bool) (gs : List GEnt) : gs.filter (keepG p gs) = gs := List.filter_eq_self.2 (fun g hg => by unfold keepG; simp [hg])
theorem keep_nil (p : Ent → Bool) (gs : List GEnt) : gs.filter (keepG p []) = gs.filter (fun g => !p g.2) := by
  apply List.filter_congr
  intro g _
  simp [keepG]

set_option maxRecDepth 100000 in
set_option maxHeartbeats 4000000 in
theorem mdel_any (w : World) (mb cb : Nat) (gs : List GEnt) (p : Ent → Bool) (hmap : MapAt w mb (kvOf gs)) (hok : ∀ g ∈ gs, g.2.ok) (macs : gs.Pairwise (fun g g' => g.2.mac ≠ g'.2.mac))
    (hf : ∀ W g, g ∈ gs → Frm (fun k => k = mb) w W → Calls Try.prog 65 #[macV g.2.mac, ptr g.1, ptr cb] W fun e w' => e = .returned (.bool (p g.2)) ∧ Frm (fun _ => False) W w') :
    Calls Try.prog 64 #[.map (some mb), .func (.func 65) #[] #[ptr cb]] w fun e w' => e = .returned (.tuple #[]) ∧ MapAt w' mb (kvOf (gs.filter (fun g => !p g.2))) ∧ Frm (fun k => k = mb) w w' := by
  have HF := Lib.hid hf
  clear hf
  have hnd : gs.Nodup := macs.imp (fun h e => h (by rw [e]))
  have hml := hmap.lt
  go_enter Try.func64, Try.ntmps64
  go_wp2_with (first
    | (at_range; refine wpList_range_map _ rfl _ 80 rfl 25 79 macMapT mb _ rfl hmap ?_; intro x0 hrg0)
    | go_in)
  go_frame
  go_loopw [] (fun wr => ∃ left : List GEnt, (∀ x ∈ left, x ∈ gs) ∧ left.Nodup ∧ RngAt wr mb w.heap.size (kvOf (gs.filter (keepG p left))) (kvOf left) ∧ Frm (fun k => k = mb) w wr)
    (fun wr => wr.rangeLeft mb w.heap.size)
  case atStart => exact ⟨gs, fun _ h => h, hnd, by rw [keep_all]; exact hrg0, (Frm.refl _ w).alloc _⟩
  case round =>
    obtain ⟨left, hsub, hln, hrg, hF⟩ := hrel
    go_wp2_with (first
      | (at_next; refine wpList_next_map _ rfl _ rfl kvG mb w.heap.size _ left rfl hrg ?_ ?_)
      | go_in)
    · intro hl0
      subst hl0
      go_wp2
      go_end0
      rw [keep_nil] at hrg
      exact ⟨rfl, hrg.map, hF⟩
    · intro l1 xb xe l2 w2 hl hrg2 hF2 hs2 hen
      subst hl
      rw [← List.map_append] at hrg2
      have hxin : (xb, xe) ∈ gs := hsub _ (by simp)
      have hF02 : Frm (fun k => k = mb) w w2 := hF.trans hF2 (fun i hi hlt => by omega)
      have hF03 : ∀ o, Frm (fun k => k = mb) w (w2.alloc o) := fun o => hF02.alloc o
      have hml2 : mb < w2.heap.size := hrg2.map.lt
      have hrl2 : w.heap.size < w2.heap.size := hrg2.lt
      have hlt2 : ∀ {W4 o}, Frm (fun _ => False) (w2.alloc o) W4 → w2.heap.size < W4.heap.size := fun f => by have := f.size; rw [World.size_alloc] at this; omega
      have hrow4 : ∀ {W4}, Frm (fun _ => False) (w2.alloc (.cells (macCells xe.mac).toArray 25)) W4 → Row W4 w2.heap.size 25 (macCells xe.mac) := fun f => (Row.new w2 25 (macCells xe.mac)).frm f (fun h => h)
      have hrg4 : ∀ {W4 o}, Frm (fun _ => False) (w2.alloc o) W4 → RngAt W4 mb w.heap.size (kvOf (gs.filter (keepG p (l1 ++ (xb, xe) :: l2)))) (kvOf (l1 ++ l2)) := fun f => (hrg2.alloc _).frm f (fun h => h) (fun h => h)
      have hF4 : ∀ {W4 o}, Frm (fun _ => False) (w2.alloc o) W4 → Frm (fun k => k = mb) w W4 := fun f => (hF03 _).trans f (fun _ h _ => h.elim)
      have hsub2 : ∀ y ∈ l1 ++ l2, y ∈ gs := fun y hy => hsub y (by rcases List.mem_append.1 hy with h | h <;> simp [h])
      have hln2 : (l1 ++ l2).Nodup := hln.sublist (List.Sublist.append (List.Sublist.refl _) (List.sublist_cons_self _ _))
      have hcl := HF.out (w2.alloc (.cells (macCells xe.mac).toArray 25)) (xb, xe) hxin (hF03 _)
      have HLE := Lib.hid hrg.left_eq
      clear hs2 hF hF2 hrg hrg2 hF02 hF03
      simp only at hcl
      cases hp : p xe with
      | false =>
        rw [hp] at hcl
        go_wp2_with fail
        refine hcl.mono ?_
        rintro e W4 ⟨rfl, f4⟩
        go_wp2_with fail
        go_roundw
        case rel => exact ⟨l1 ++ l2, hsub2, hln2, by rw [keep_stay (x := (xb, xe)) hp]; exact hrg4 f4, hF4 f4⟩
        case measure => rw [(hrg4 f4).left_eq, HLE.out]; simp
      | true =>
        rw [hp] at hcl
        have hxk : (xb, xe) ∈ gs.filter (keepG p (l1 ++ (xb, xe) :: l2)) := List.mem_filter.2 ⟨hxin, by simp [keepG]⟩
        obtain ⟨k1, k2, hk⟩ := List.append_of_mem hxk
        have hk' := keep_drop (x := (xb, xe)) hp hnd hln hk
        rw [hk] at hrg4
        have hks : ∀ y ∈ k1 ++ (xb, xe) :: k2, y ∈ gs := fun y hy => by rw [← hk] at hy; exact (List.mem_filter.1 hy).1
        have hmk : (k1 ++ (xb, xe) :: k2).Pairwise (fun g g' => g.2.mac ≠ g'.2.mac) := by rw [← hk]; exact macs.sublist List.filter_sublist
        have hkeys : KeysFit Try.prog 25 (kvOf (k1 ++ (xb, xe) :: k2)) := fun q hq => by
          obtain ⟨g, hg, rfl⟩ := List.mem_map.1 hq
          exact macKey _ (hok g (hks g hg)).mac
        have hap : ((kvOf (k1 ++ (xb, xe) :: k2)).map Prod.fst).Pairwise (· ≠ ·) := by
          rw [List.map_map, List.pairwise_map]
          exact hmk.imp (fun h e => h (macV_inj e))
        obtain ⟨kl, hkl⟩ := macKey xe.mac (hok _ hxin).mac
        have hnl : ∀ q ∈ kvOf (l1 ++ l2), q.1 ≠ macV xe.mac := fun q hq e => by
          obtain ⟨g, hg, rfl⟩ := List.mem_map.1 hq
          have h1 : g = (xb, xe) := eq_of_mac macs (hsub2 g hg) hxin (macV_inj e)
          subst h1
          rw [List.nodup_append] at hln
          obtain ⟨_, h2, h3⟩ := hln
          rw [List.nodup_cons] at h2
          rcases List.mem_append.1 hg with hm | hm
          · exact h3 _ hm _ (by simp) rfl
          · exact h2.1 hm
        have hdel := fun {W4} (f : Frm (fun _ => False) (w2.alloc (.cells (macCells xe.mac).toArray 25)) W4) (ty : TypeId) => RngAt.del (k1 := kvOf k1) (k2 := kvOf k2) (key := macV xe.mac) (v0 := ptr xb) (by have := hrg4 f; simpa using this) macLaw macMapT (by have := hkeys; simpa using this) hkl (by have := hap; simpa using this) hnl 25 ty
        have HK := Lib.hid hk'
        clear hk hk' hkeys hap hmk hks hnl hkl hxk
        go_wp2_with fail
        refine hcl.mono ?_
        rintro e W4 ⟨rfl, f4⟩
        have hr4 := hrow4 f4
        obtain ⟨m0, m1, m2, m3, m4, m5⟩ := And.intro (hr4.cell 0) (And.intro (hr4.cell 1) (And.intro (hr4.cell 2) (And.intro (hr4.cell 3) (And.intro (hr4.cell 4) (hr4.cell 5)))))
        simp at m0 m1 m2 m3 m4 m5
        obtain ⟨od, hrun, hrg5⟩ := hdel f4 0
        go_wp2_with fail
        go_roundw
        case rel => exact ⟨l1 ++ l2, hsub2, hln2, by rw [HK.out]; simpa using hrg5, (hF4 f4).setB od (fun _ => rfl)⟩
        case measure => rw [hrg5.left_eq, HLE.out]; simp

/-- Those of which something does not hold. -/
def rest (p : Ent → Bool) (gs : List GEnt) : List GEnt := gs.filter (fun g => !p g.2)
theorem rest_le (p : Ent → Bool) (gs : List GEnt) : (rest p gs).length ≤ gs.length := List.length_filter_le _ _

theorem BaseRep.rest {w w' : World} {b mb : Nat} {room life : Int} {gs : List GEnt} (B : BaseRep w b mb room life gs) (p : Ent → Bool) (hm : MapAt w' mb (kvOf (Go.Proofs.Ytmddhglhfgomiaa.rest p gs))) (hF : Frm (fun k => k = mb) w w') : BaseRep w' b mb room life (Go.Proofs.Ytmddhglhfgomiaa.rest p gs) := by
  have hsub : (Go.Proofs.Ytmddhglhfgomiaa.rest p gs).Sublist gs := List.filter_sublist
  exact ⟨B.base.frm hF (B.not_map B.base), hm, fun g hg => (B.ents g (hsub.subset hg)).frm hF (B.not_map (B.ents g (hsub.subset hg))), fun g hg => B.oks g (hsub.subset hg), B.macs.sublist hsub, B.blks.sublist hsub⟩

set_option maxRecDepth 100000 in
set_option maxHeartbeats 1000000 in
theorem drop_any (w : World) (b mb : Nat) (room life : Int) (gs : List GEnt) (h : Nat) (lb : Array Value) (p : Ent → Bool) (hN : gs.length ≤ 1048576) (B : BaseRep w b mb room life gs) (eh : ∀ args w, (callFunc h args).run Try.prog w = .ok (.enter h args) w)
    (hh : ∀ W g, g ∈ gs → Frm (fun k => k = mb) w W → Calls Try.prog h (#[ptr g.1] ++ lb) W fun e w' => e = .returned (.bool (p g.2)) ∧ Frm (fun _ => False) W w') :
    Calls Try.prog 48 #[ptr b, .func (.func h) #[] lb] w fun e w' => e = .returned (.int .i64 ((gs.length : Int) - (rest p gs).length)) ∧ BaseRep w' b mb room life (rest p gs) ∧ Frm (fun k => k = mb) w w' := by
  have hmf : ∀ (fn : Fn) (first cap : Array Value) (w : World), (Instr.makeFunc fn first cap).run Try.prog w = .ok (.func fn first cap) w := fun _ _ _ _ => rfl
  obtain ⟨w1, hw1⟩ : ∃ w1, w1 = w.alloc (.cells #[.func (.func h) #[] lb] 99) := ⟨_, rfl⟩
  have B1 : BaseRep w1 b mb room life gs := by rw [hw1]; exact B.alloc _
  have hF1 : Frm (fun k => k = mb) w w1 := by rw [hw1]; exact (Frm.refl _ w).alloc _
  have hc1 : Row w1 w.heap.size 99 [.func (.func h) #[] lb] := by rw [hw1]; exact Row.new w 99 [.func (.func h) #[] lb]
  have hmd := mdel_any w1 mb w.heap.size gs p B1.map B1.oks B1.macs (fun W g hg hF => by
    have hcW := hc1.frm hF (B1.not_map hc1)
    exact drop1_any W w.heap.size h lb g.2.mac g.1 (p g.2) hcW eh (fun o => hh (W.alloc o) g hg ((hF1.trans hF (fun _ h _ => h)).alloc o)))
  have hlen : ∀ ty, (Builtin.len_ #[80] ty #[.map (some mb)]).run Try.prog w1 = .ok (.int .i64 gs.length) w1 := fun ty => B1.len ty
  have c2 := B1.base.cell 2
  simp at c2
  have hlt := B1.base.lt
  have HB := Lib.hid B1
  have HF1 := Lib.hid hF1
  have hle := rest_le p gs
  change Calls Try.prog 64 _ w1 (fun e w' => e = _ ∧ MapAt w' mb (kvOf (rest p gs)) ∧ _) at hmd
  clear B B1 hF1 hc1 hh eh
  subst hw1
  go_enter Try.func48, Try.ntmps48
  go_wp2_with fail
  refine hmd.mono ?_
  clear hmd hlen
  rintro e w2 ⟨rfl, hm2, hF2⟩
  have B2 := HB.out.rest p hm2 hF2
  have hF := HF1.out.trans hF2 (fun _ h _ => h)
  have hlen : ∀ ty, (Builtin.len_ #[80] ty #[.map (some mb)]).run Try.prog w2 = .ok (.int .i64 (rest p gs).length) w2 := fun ty => B2.len ty
  have d2 := B2.base.cell 2
  simp at d2
  have hlt2 := B2.base.lt
  have e1 : IntKind.i64.wrap ((gs.length : Int) - ((rest p gs).length : Int)) = (gs.length : Int) - ((rest p gs).length : Int) := by rw [IntKind.wrap_i64]; omega
  obtain ⟨n, hn⟩ : ∃ n : Nat, n = (rest p gs).length := ⟨_, rfl⟩
  rw [← hn] at hlen e1 hle
  have HB2 := Lib.hid B2
  have HN := Lib.hid hn
  clear B2 c2 hm2 hF2 hn
  go_wp2_with fail
  go_ret
  rw [← HN.out]
  exact ⟨rfl, HB2.out, hF⟩

/-! ### Forget -/

set_option maxRecDepth 100000 in
set_option maxHeartbeats 400000 in
theorem forget1_any (W : World) (eb pb : Nat) (e : Ent) (p : Place) (hr : Row W eb 85 (entCells e)) (hp : Row W pb 46 [.bool p.tunnel, .int .i64 p.n]) :
    Calls Try.prog 58 #[ptr eb, ptr pb] W fun en w' => en = .returned (.bool (decide (e.place = p))) ∧ Frm (fun _ => False) W w' := by
  have e6 := hr.cell 6
  have e7 := hr.cell 7
  have p0 := hp.cell 0
  have p1 := hp.cell 1
  simp at e6 e7 p0 p1
  have hpg := placeGuard
  have hpl := fun W => place_eql e.place p W
  clear hr hp
  go_enter Try.func58, Try.ntmps58
  go_wp2_with fail
  go_quiet (fail)
  go_wp2_with fail
  go_ret
  exact ⟨rfl, (by repeat (first | exact Frm.refl _ _ | assumption | refine Frm.drewN ?_ _ | refine Frm.drew ?_ | refine Frm.alloc ?_ _ | refine Frm.setCell ?_ _ (by simp)))⟩

set_option maxRecDepth 100000 in
set_option maxHeartbeats 400000 in
theorem forget_any (w : World) (b mb : Nat) (room life : Int) (gs : List GEnt) (p : Place) (hN : gs.length ≤ 1048576) (B : BaseRep w b mb room life gs) :
    Calls Try.prog 43 #[ptr b, placeV p] w fun e w' => e = .returned (.int .i64 ((gs.length : Int) - (rest (fun e => decide (e.place = p)) gs).length)) ∧ BaseRep w' b mb room life (rest (fun e => decide (e.place = p)) gs) ∧ Frm (fun k => k = mb) w w' := by
  have hmf : ∀ (fn : Fn) (first cap : Array Value) (w : World), (Instr.makeFunc fn first cap).run Try.prog w = .ok (.func fn first cap) w := fun _ _ _ _ => rfl
  obtain ⟨w1, hw1⟩ : ∃ w1, w1 = w.alloc (.cells #[.bool p.tunnel, .int .i64 p.n] 46) := ⟨_, rfl⟩
  have B1 : BaseRep w1 b mb room life gs := by rw [hw1]; exact B.alloc _
  have hF1 : Frm (fun k => k = mb) w w1 := by rw [hw1]; exact (Frm.refl _ w).alloc _
  have hc1 : Row w1 w.heap.size 46 [.bool p.tunnel, .int .i64 p.n] := by rw [hw1]; exact Row.new w 46 [.bool p.tunnel, .int .i64 p.n]
  have hd := drop_any w1 b mb room life gs 58 #[ptr w.heap.size] (fun e => decide (e.place = p)) hN B1 (enters_of Try.func58 (by kernel_rfl) rfl)
    (fun W g hg hF => forget1_any W g.1 w.heap.size g.2 p ((B1.ents g hg).frm hF (B1.not_map (B1.ents g hg))) (hc1.frm hF (B1.not_map hc1)))
  have HF := Lib.hid hF1
  clear B B1 hF1 hc1
  subst hw1
  go_enter Try.func43, Try.ntmps43
  go_wp2_with fail
  refine hd.mono ?_
  rintro e w' ⟨rfl, h1, h2⟩
  go_wp2_with fail
  go_ret
  exact ⟨rfl, h1, HF.out.trans h2 (fun _ h _ => h)⟩

/-! ### Tick -/

set_option maxRecDepth 100000 in
set_option maxHeartbeats 400000 in
theorem tick1_any (W : World) (eb bb nb b : Nat) (e : Ent) (room life now : Int) (mv : Value) (he : u64ok e.at_) (hn : u64ok now) (hr : Row W eb 85 (entCells e)) (hb : Row W b 82 [.int .i64 room, .int .u64 life, mv])
    (h1 : Row W bb 39 [ptr b]) (h2 : Row W nb 22 [.int .u64 now]) :
    Calls Try.prog 49 #[ptr eb, ptr bb, ptr nb] W fun en w' => en = .returned (.bool (oldB life now e)) ∧ Frm (fun _ => False) W w' := by
  have hold := old_any W b eb room life now mv e he hn hb hr
  have b0 := h1.cell 0
  have n0 := h2.cell 0
  simp at b0 n0
  clear hr hb h1 h2
  go_enter Try.func49, Try.ntmps49
  go_wp2_with fail
  refine hold.mono ?_
  rintro e' w' ⟨rfl, n, rfl⟩
  go_wp2_with fail
  go_ret
  exact ⟨rfl, (by repeat (first | exact Frm.refl _ _ | assumption | refine Frm.drewN ?_ _ | refine Frm.drew ?_ | refine Frm.alloc ?_ _ | refine Frm.setCell ?_ _ (by simp)))⟩

set_option maxRecDepth 100000 in
set_option maxHeartbeats 400000 in
theorem tick_any (w : World) (b mb : Nat) (room life now : Int) (hn : u64ok now) (gs : List GEnt) (hN : gs.length ≤ 1048576) (B : BaseRep w b mb room life gs) :
    Calls Try.prog 30 #[ptr b, .int .u64 now] w fun e w' => e = .returned (.int .i64 ((gs.length : Int) - (rest (oldB life now) gs).length)) ∧ BaseRep w' b mb room life (rest (oldB life now) gs) ∧ Frm (fun k => k = mb) w w' := by
  have hmf : ∀ (fn : Fn) (first cap : Array Value) (w : World), (Instr.makeFunc fn first cap).run Try.prog w = .ok (.func fn first cap) w := fun _ _ _ _ => rfl
  obtain ⟨w1, hw1⟩ : ∃ w1, w1 = (w.alloc (.cells #[ptr b] 39)).alloc (.cells #[.int .u64 now] 22) := ⟨_, rfl⟩
  have B1 : BaseRep w1 b mb room life gs := by rw [hw1]; exact (B.alloc _).alloc _
  have hF1 : Frm (fun k => k = mb) w w1 := by rw [hw1]; exact ((Frm.refl _ w).alloc _).alloc _
  have hc1 : Row w1 w.heap.size 39 [ptr b] := by rw [hw1]; exact (Row.new w 39 [ptr b]).alloc _
  have hc2 : Row w1 (w.heap.size + 1) 22 [.int .u64 now] := by
    have := Row.new (w.alloc (.cells #[ptr b] 39)) 22 [.int .u64 now]
    rw [World.size_alloc] at this
    rw [hw1]
    exact this
  have hd := drop_any w1 b mb room life gs 49 #[ptr w.heap.size, ptr (w.heap.size + 1)] (oldB life now) hN B1 (enters_of Try.func49 (by kernel_rfl) rfl)
    (fun W g hg hF => tick1_any W g.1 w.heap.size (w.heap.size + 1) b g.2 room life now (.map (some mb)) (B1.oks g hg).at_ hn ((B1.ents g hg).frm hF (B1.not_map (B1.ents g hg))) (B1.base.frm hF (B1.not_map B1.base)) (hc1.frm hF (B1.not_map hc1)) (hc2.frm hF (B1.not_map hc2)))
  have HF := Lib.hid hF1
  clear B B1 hF1 hc1 hc2
  subst hw1
  go_enter Try.func30, Try.ntmps30
  go_wp2_with fail
  refine hd.mono ?_
  rintro e w' ⟨rfl, h1, h2⟩
  go_wp2_with fail
  go_ret
  exact ⟨rfl, h1, HF.out.trans h2 (fun _ h _ => h)⟩
end Go.Proofs.Ytmddhglhfgomiaa
