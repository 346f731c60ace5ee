/- bridge: where a frame goes. Conditions: none. -/
import Derived.Test.YtmddhglhfgomiaaBrC
import Derived.Laws.Cover3
import Derived.Deep.DeepCutAuto
namespace Go.Proofs.Ytmddhglhfgomiaa
open Go Go.RowKit Go.Maps

/-- Six bytes of memory are a MAC's. -/
structure MacAt (w : World) (b o : Nat) (m : Mac) : Prop where
  c0 : w.cell? ⟨b, o, none⟩ = some (.int .u8 m.a)
  c1 : w.cell? ⟨b, o + 1, none⟩ = some (.int .u8 m.b)
  c2 : w.cell? ⟨b, o + 2, none⟩ = some (.int .u8 m.c)
  c3 : w.cell? ⟨b, o + 3, none⟩ = some (.int .u8 m.d)
  c4 : w.cell? ⟨b, o + 4, none⟩ = some (.int .u8 m.e)
  c5 : w.cell? ⟨b, o + 5, none⟩ = some (.int .u8 m.f)

theorem arr_at (W : World) (a : Option Addr) (n c : Nat) (h : 6 ≤ n) : (Instr.arrayAt 25 (.slice a n c)).run Try.prog W = .ok (.pointer a) W := run_arrayAt (P := Try.prog) W 25 5 6 a n c macArr.hu h

set_option maxRecDepth 100000 in
set_option maxHeartbeats 1000000 in
theorem sframe_short (w : World) (sb : Nat) (p : Place) (a : Option Addr) (n c : Nat) (now : Int) (hn : n < 14) :
    Calls Try.prog 36 #[ptr sb, placeV p, .slice a n c, .int .u64 now] w fun e w' => e = .returned (.tuple #[.agg #[.slice none 0 0, .slice none 0 0, .bool false], .int .i64 2]) ∧ Frm (fun _ => False) w w' := by
  go_enter Try.func36, Try.ntmps36
  go_wp2_with fail
  refine bodyPost_ret (v := .tuple #[.agg #[.slice none 0 0, .slice none 0 0, .bool false], .int .i64 2]) (by simp [results, Try.results36, go_sem]) rfl ⟨rfl, (by repeat (first | exact Frm.refl _ _ | assumption | refine Frm.drewN ?_ _ | refine Frm.drew ?_ | refine Frm.alloc ?_ _ | refine Frm.setCell ?_ _ (by simp)))⟩

set_option maxRecDepth 100000 in
set_option maxHeartbeats 1000000 in
theorem sframe_big (w : World) (sb : Nat) (p : Place) (a : Option Addr) (n c : Nat) (now : Int) (hn : 9000 < n) :
    Calls Try.prog 36 #[ptr sb, placeV p, .slice a n c, .int .u64 now] w fun e w' => e = .returned (.tuple #[.agg #[.slice none 0 0, .slice none 0 0, .bool false], .int .i64 7]) ∧ Frm (fun _ => False) w w' := by
  go_enter Try.func36, Try.ntmps36
  go_wp2_with fail
  refine bodyPost_ret (v := .tuple #[.agg #[.slice none 0 0, .slice none 0 0, .bool false], .int .i64 7]) (by simp [results, Try.results36, go_sem]) rfl ⟨rfl, (by repeat (first | exact Frm.refl _ _ | assumption | refine Frm.drewN ?_ _ | refine Frm.drew ?_ | refine Frm.alloc ?_ _ | refine Frm.setCell ?_ _ (by simp)))⟩

/-- Behind the frame's head: the boxes of the place, the answer, the two MACs. -/
structure FrA (F : Nat → Prop) (w : World) (p : Place) (mt mo : Mac) (bt bo : Nat) (wx : World) : Prop where
  place : Row wx w.heap.size 46 [.bool p.tunnel, .int .i64 p.n]
  out : Row wx (w.heap.size + 1) 34 [.slice none 0 0, .slice none 0 0, .bool false]
  rt : Row wx bt 25 (macCells mt)
  ro : Row wx bo 25 (macCells mo)
  frm : Frm F w wx
  lt : w.heap.size + 2 ≤ bt
  lo : w.heap.size + 2 ≤ bo

theorem FrA.frame {F G : Nat → Prop} {w wx wy : World} {p : Place} {mt mo : Mac} {bt bo : Nat} (A : FrA F w p mt mo bt bo wx) (f : Frm G wx wy) (hG : ∀ k, G k → F k ∧ k < w.heap.size) : FrA F w p mt mo bt bo wy :=
  ⟨A.place.frm f (fun h => Nat.lt_irrefl _ (hG _ h).2), A.out.frm f (fun h => by have := (hG _ h).2; omega), A.rt.frm f (fun h => by have := (hG _ h).2; have := A.lt; omega), A.ro.frm f (fun h => by have := (hG _ h).2; have := A.lo; omega),
    A.frm.trans f (fun i hi _ => (hG i hi).1), A.lt, A.lo⟩
theorem FrA.weaken {F G : Nat → Prop} {w wx : World} {p : Place} {mt mo : Mac} {bt bo : Nat} (A : FrA F w p mt mo bt bo wx) (h : ∀ k, F k → G k) : FrA G w p mt mo bt bo wx :=
  ⟨A.place, A.out, A.rt, A.ro, A.frm.mono h, A.lt, A.lo⟩

theorem FrA.drew {F : Nat → Prop} {w wx : World} {p : Place} {mt mo : Mac} {bt bo : Nat} (A : FrA F w p mt mo bt bo wx) : FrA F w p mt mo bt bo wx.drew := ⟨A.place, A.out, A.rt, A.ro, A.frm.drew, A.lt, A.lo⟩

theorem rows4 (w : World) (T1 T2 T3 T4 : Nat) (x1 x2 x3 x4 : List Value) :
    Row ((((w.alloc (.cells x1.toArray T1)).alloc (.cells x2.toArray T2)).alloc (.cells x3.toArray T3)).alloc (.cells x4.toArray T4)) w.heap.size T1 x1 ∧
    Row ((((w.alloc (.cells x1.toArray T1)).alloc (.cells x2.toArray T2)).alloc (.cells x3.toArray T3)).alloc (.cells x4.toArray T4)) (w.heap.size + 1) T2 x2 ∧
    Row ((((w.alloc (.cells x1.toArray T1)).alloc (.cells x2.toArray T2)).alloc (.cells x3.toArray T3)).alloc (.cells x4.toArray T4)) (w.heap.size + 2) T3 x3 ∧
    Row ((((w.alloc (.cells x1.toArray T1)).alloc (.cells x2.toArray T2)).alloc (.cells x3.toArray T3)).alloc (.cells x4.toArray T4)) (w.heap.size + 3) T4 x4 := by
  refine ⟨(((Row.new w T1 x1).alloc _).alloc _).alloc _, ?_, ?_, ?_⟩
  · have h := ((Row.new (w.alloc (.cells x1.toArray T1)) T2 x2).alloc (.cells x3.toArray T3)).alloc (.cells x4.toArray T4)
    rwa [World.size_alloc] at h
  · have h := (Row.new ((w.alloc (.cells x1.toArray T1)).alloc (.cells x2.toArray T2)) T3 x3).alloc (.cells x4.toArray T4)
    rwa [World.size_alloc, World.size_alloc] at h
  · have h := Row.new (((w.alloc (.cells x1.toArray T1)).alloc (.cells x2.toArray T2)).alloc (.cells x3.toArray T3)) T4 x4
    rwa [World.size_alloc, World.size_alloc, World.size_alloc] at h

theorem frA_new1 (w : World) (p : Place) (mt mo : Mac) : FrA (fun _ => False) w p mt mo (w.heap.size + 1 + 1) (w.heap.size + 1 + 1 + 1)
    ((((w.alloc (.cells #[.bool p.tunnel, .int .i64 p.n] 46)).alloc (.cells #[.slice none 0 0, .slice none 0 0, .bool false] 34)).alloc (.cells (macCells mt).toArray 25)).alloc (.cells (macCells mo).toArray 25)) := by
  obtain ⟨h1, h2, h3, h4⟩ := rows4 w 46 34 25 25 [.bool p.tunnel, .int .i64 p.n] [.slice none 0 0, .slice none 0 0, .bool false] (macCells mt) (macCells mo)
  exact ⟨h1, h2, h3, h4, (by repeat (first | exact Frm.refl _ _ | assumption | refine Frm.drewN ?_ _ | refine Frm.drew ?_ | refine Frm.alloc ?_ _ | refine Frm.setCell ?_ _ (by simp))), by omega, by omega⟩

theorem frA_new2 (w : World) (p : Place) (mt mo : Mac) : FrA (fun _ => False) w p mt mo (w.heap.size + 1 + 1 + 1) (w.heap.size + 1 + 1)
    ((((w.alloc (.cells #[.bool p.tunnel, .int .i64 p.n] 46)).alloc (.cells #[.slice none 0 0, .slice none 0 0, .bool false] 34)).alloc (.cells (macCells mo).toArray 25)).alloc (.cells (macCells mt).toArray 25)) := by
  obtain ⟨h1, h2, h3, h4⟩ := rows4 w 46 34 25 25 [.bool p.tunnel, .int .i64 p.n] [.slice none 0 0, .slice none 0 0, .bool false] (macCells mo) (macCells mt)
  exact ⟨h1, h2, h4, h3, (by repeat (first | exact Frm.refl _ _ | assumption | refine Frm.drewN ?_ _ | refine Frm.drew ?_ | refine Frm.alloc ?_ _ | refine Frm.setCell ?_ _ (by simp))), by omega, by omega⟩

theorem mac_cells {wx : World} {b : Nat} {m : Mac} (h : Row wx b 25 (macCells m)) :
    wx.cell? ⟨b, 0, none⟩ = some (.int .u8 m.a) ∧ wx.cell? ⟨b, 1, none⟩ = some (.int .u8 m.b) ∧ wx.cell? ⟨b, 2, none⟩ = some (.int .u8 m.c) ∧ wx.cell? ⟨b, 3, none⟩ = some (.int .u8 m.d) ∧ wx.cell? ⟨b, 4, none⟩ = some (.int .u8 m.e) ∧ wx.cell? ⟨b, 5, none⟩ = some (.int .u8 m.f) :=
  ⟨h.cell 0, h.cell 1, h.cell 2, h.cell 3, h.cell 4, h.cell 5⟩

set_option maxRecDepth 100000 in
set_option maxHeartbeats 2000000 in
theorem sframe_form (w : World) (sb fb fo : Nat) (p : Place) (n c : Nat) (now : Int) (mt mo : Mac) (hn : 14 ≤ n) (hn2 : n ≤ 9000) (hc : n ≤ c) (hlt : fb < w.heap.size)
    (h1 : MacAt w fb fo mt) (h2 : MacAt w fb (fo + 6) mo) (hof : mo.ok) (hg : groupB mo = true) :
    Calls Try.prog 36 #[ptr sb, placeV p, .slice (some ⟨fb, fo, none⟩) n c, .int .u64 now] w fun e w' => e = .returned (.tuple #[.agg #[.slice none 0 0, .slice none 0 0, .bool false], .int .i64 3]) ∧ Frm (fun _ => False) w w' := by
  obtain ⟨a0, a1, a2, a3, a4, a5⟩ := h1
  obtain ⟨b0, b1, b2, b3, b4, b5⟩ := h2
  have hc6 : ¬ c = 6 := by omega
  have hgr := fun W => group_any W mo hof
  have s1 := fun W => arr_at W (some ⟨fb, fo, none⟩) n c (by omega)
  have s2 := fun W => arr_at W (some ⟨fb, fo + 6, none⟩) (n - 6) (c - 6) (by omega)
  rw [hg] at hgr
  go_enter Try.func36, Try.ntmps36
  go_upto_region 5 with fail
  go_cut [10, 11] (fun t10 t11 wx => ∃ bt bo, t10 = ptr bt ∧ t11 = ptr bo ∧ FrA (fun _ => False) w p mt mo bt bo wx)
  case first =>
    go_region
    all_goals
      go_wp2_with fail
      go_meet
      first
        | exact ⟨_, _, rfl, rfl, frA_new1 w p mt mo⟩
        | exact ⟨_, _, rfl, rfl, (frA_new1 w p mt mo).drew⟩
        | exact ⟨_, _, rfl, rfl, frA_new2 w p mt mo⟩
        | exact ⟨_, _, rfl, rfl, (frA_new2 w p mt mo).drew⟩
  case rest =>
    obtain ⟨bt, bo, rfl, rfl, A⟩ := hcut
    obtain ⟨o0, o1, o2, o3, o4, o5⟩ := mac_cells A.ro
    have u0 := A.out.cell 0
    have u1 := A.out.cell 1
    have u2 := A.out.cell 2
    have v0 := A.out.free 0
    have v1 := A.out.free 1
    have v2 := A.out.free 2
    have hA := A.frm
    have hl := A.out.lt
    simp at u0 u1 u2
    clear A
    go_wp2_with (go_at_call 52; refine (hgr _).mono ?_; rintro e w' ⟨rfl, rfl⟩)
    refine bodyPost_ret (v := .tuple #[.agg #[.slice none 0 0, .slice none 0 0, .bool false], .int .i64 3]) ?_ rfl ⟨rfl, ?_⟩
    · simp [results, Try.results36, go_sem, u0, u1, u2, hl]
    · exact (by repeat (first | exact Frm.refl _ _ | assumption | refine Frm.drewN ?_ _ | refine Frm.drew ?_ | refine Frm.alloc ?_ _ | refine Frm.setCell ?_ _ (by simp)))
end Go.Proofs.Ytmddhglhfgomiaa
