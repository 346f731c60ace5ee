/- fdb: Learn, whatever add does. Conditions: none. -/
import Derived.Test.YtmddhglhfgomiaaFdbB
namespace Go.Proofs.Ytmddhglhfgomiaa
open Go Go.RowKit Go.Maps

/-- What add leaves: of the old blocks the map's alone may have turned. -/
def AddPost (b mb : Nat) (room life : Int) (gs : List GEnt) (e : Ent) (w : World) (en : Ending) (w' : World) : Prop :=
  ∃ nb code gs', en = .returned (.int .i64 code) ∧ w.heap.size ≤ nb ∧ AddRes room gs e nb code gs' ∧ BaseRep w' b mb room life gs' ∧ Frm (fun k => k = mb) w w'

theorem add_room_post (w : World) (b mb : Nat) (room life : Int) (gs : List GEnt) (e : Ent) (he : e.ok) (hr : (gs.length : Int) < room) (hno : findG gs e.mac = none) (B : BaseRep w b mb room life gs) :
    Calls Try.prog 66 #[ptr b, entV e] w (AddPost b mb room life gs e w) :=
  (add_room w b mb room life gs e he hr hno B).mono fun _ _ ⟨h1, h2, h3⟩ => ⟨w.heap.size, 0, _, h1, Nat.le_refl _, .inl ⟨hr, rfl, rfl⟩, h2, h3⟩

/-- What Learn leaves. -/
def LearnPost (b mb : Nat) (room life : Int) (gs : List GEnt) (m : Mac) (p : Place) (now : Int) (w : World) (en : Ending) (w' : World) : Prop :=
  ∃ nb moved code gs', en = .returned (.tuple #[.bool moved, .int .i64 code]) ∧ w.heap.size ≤ nb ∧ LearnRes room gs m p now nb moved code gs' ∧ BaseRep w' b mb room life gs' ∧ Frm (baseFp b mb gs) w w'

set_option maxRecDepth 100000 in
set_option maxHeartbeats 1000000 in
theorem learn_new (w : World) (b mb : Nat) (room life : Int) (gs : List GEnt) (m : Mac) (hm : m.ok) (p : Place) (now : Int) (hg : groupB m = false)
    (hf : findG gs m = none) (B : BaseRep w b mb room life gs)
    (hadd : ∀ W, BaseRep W b mb room life gs → Calls Try.prog 66 #[ptr b, entV ⟨m, p, now, false⟩] W (AddPost b mb room life gs ⟨m, p, now, false⟩ W)) :
    Calls Try.prog 53 #[ptr b, macV m, placeV p, .int .u64 now] w (LearnPost b mb room life gs m p now w) := by
  have hgr := fun W => group_any W m hm
  rw [hg] at hgr
  have c2 := B.base.cell 2
  simp at c2
  have hlt := B.base.lt
  have hl : ∀ n o1 o2 o3, (Instr.lookup 80 (.map (some mb)) (macV m) false).run Try.prog ((((w.alloc o1).alloc o2).alloc o3).drewN n) = .ok (.pointer none) ((((w.alloc o1).alloc o2).alloc o3).drewN n) := fun n o1 o2 o3 => by
    have := ((((B.alloc o1).alloc o2).alloc o3).drewN n).look m hm false
    simpa [hf] using this
  have hB : ∀ n o1 o2 o3, BaseRep ((((w.alloc o1).alloc o2).alloc o3).drewN n) b mb room life gs := fun n o1 o2 o3 => (((B.alloc o1).alloc o2).alloc o3).drewN n
  have hF : ∀ n o1 o2 o3 w', Frm (fun k => k = mb) ((((w.alloc o1).alloc o2).alloc o3).drewN n) w' → Frm (baseFp b mb gs) w w' := fun n o1 o2 o3 w' h =>
    (((((Frm.refl (baseFp b mb gs) w).alloc o1).alloc o2).alloc o3).drewN n).trans h (fun i hi _ => .inr (.inl hi))
  have hS : ∀ n o1 o2 o3, w.heap.size ≤ ((((w.alloc o1).alloc o2).alloc o3).drewN n).heap.size := fun n o1 o2 o3 => by
    show w.heap.size ≤ (((w.alloc o1).alloc o2).alloc o3).heap.size
    simp only [World.size_alloc]
    omega
  have hR : ∀ nb code gs', AddRes room gs ⟨m, p, now, false⟩ nb code gs' → LearnRes room gs m p now nb false code gs' := fun nb code gs' h => by
    unfold LearnRes
    rw [if_neg (by simp [hg]), hf]
    exact ⟨rfl, h⟩
  clear B hf
  go_enter Try.func53, Try.ntmps53
  go_wp2_with (go_at_call 52; refine (hgr _).mono ?_; rintro e w' ⟨rfl, rfl⟩)
  go_quiet (fail)
  go_wp2_with (go_at_call 66; refine (hadd _ (hB _ _ _ _)).mono ?_; rintro e w' ⟨nb, code, gs', rfl, hnb, hres, hB', hfrm⟩)
  go_ret2
  exact ⟨nb, false, code, gs', rfl, Nat.le_trans (hS _ _ _ _) hnb, hR _ _ _ hres, hB', hF _ _ _ _ _ hfrm⟩

theorem learn_of (w : World) (b mb : Nat) (room life : Int) (gs : List GEnt) (m : Mac) (hm : m.ok) (p : Place) (now : Int) (hn : u64ok now) (B : BaseRep w b mb room life gs)
    (hadd : ∀ W, findG gs m = none → BaseRep W b mb room life gs → Calls Try.prog 66 #[ptr b, entV ⟨m, p, now, false⟩] W (AddPost b mb room life gs ⟨m, p, now, false⟩ W)) :
    Calls Try.prog 53 #[ptr b, macV m, placeV p, .int .u64 now] w (LearnPost b mb room life gs m p now w) := by
  cases hg : groupB m with
  | true =>
    refine (learn_group w b m hm p now hg).mono fun e w' ⟨h1, h2⟩ => ⟨w.heap.size, false, 1, gs, h1, Nat.le_refl _, ?_, B.frm h2 (fun _ _ h => h), h2.mono (fun _ h => h.elim)⟩
    unfold LearnRes
    rw [if_pos hg]
    exact ⟨rfl, rfl, rfl⟩
  | false =>
    cases hf : findG gs m with
    | none => exact learn_new w b mb room life gs m hm p now hg hf B (fun W => hadd W hf)
    | some g =>
      refine (learn_known w b mb room life gs m hm p now hn hg g hf B).mono fun e w' ⟨h1, h2, h3⟩ => ⟨w.heap.size, _, 0, _, h1, Nat.le_refl _, ?_, h2, h3.mono (fun k hk => .inr (.inr ⟨g, (findG_some hf).1, hk⟩))⟩
      unfold LearnRes
      rw [if_neg (by simp [hg]), hf]
      exact ⟨rfl, rfl, rfl⟩

end Go.Proofs.Ytmddhglhfgomiaa
