/- fdb: what a base is in memory; Group, old, Find. Conditions: none. -/
import Derived.Test.YtmddhglhfgomiaaHeap
import Derived.Test.YtmddhglhfgomiaaFdbM
import Derived.Test.YtmddhglhfgomiaaProg
import Derived.BigRegion
namespace Go.Proofs.Ytmddhglhfgomiaa
open Go Go.RowKit Go.Maps

theorem macArr : WideMaps.ArrKey Try.prog 25 5 6 := ⟨by kernel_rfl, by kernel_rfl, by kernel_rfl, by kernel_rfl⟩
theorem u8Int : Try.prog.underlying 5 = some (.int .u8) := by kernel_rfl
theorem typesPos : 0 < Try.prog.types.size := of_decide_eq_true (by kernel_rfl)
theorem typesSz : ∃ m, Try.prog.types.size = m + 1 := ⟨Try.prog.types.size - 1, by have := typesPos; omega⟩
theorem macLaw : Keyed Try.prog 25 := Keyed.of_law macArr.law
theorem macMapT : Try.prog.underlying 80 = some (.map 25 79) := by kernel_rfl
theorem entZero (w : World) : (zeroValue 79).run Try.prog w = .ok (.pointer none) w := by kernel_rfl

theorem u8wf {x : Int} (h : u8ok x) : (Lit.int .u8 x).wf = true := by
  obtain ⟨h0, h1⟩ := h
  exact WalkArith.wf_u8 (by omega)

theorem macKey (m : Mac) (h : m.ok) : ∃ l, keyOf Try.prog 25 (macV m) = some l := by
  refine ⟨.string (keyBytes [.int .u8 m.a, .int .u8 m.b, .int .u8 m.c, .int .u8 m.d, .int .u8 m.e, .int .u8 m.f]), ?_⟩
  have hkt := macArr.keyType typesSz
  obtain ⟨n, hn⟩ := typesSz
  unfold keyOf
  simp only [macArr.hu]
  rw [if_pos (by simp [hkt, Value.formed, macArr.hu, macArr.size]), hn]
  unfold Program.keyLits
  simp only [macArr.hu, Value.cells]
  rw [if_pos (by rw [macArr.size]; rfl), show List.range 6 = [0, 1, 2, 3, 4, 5] from rfl]
  simp [List.mapM_cons, macArr.one, Program.keyLits, show Try.prog.underlying 5 = some (.int .u8) from u8Int, u8wf h.a, u8wf h.b, u8wf h.c, u8wf h.d, u8wf h.e, u8wf h.f]

theorem placeHeld : Try.prog.stoodInHeld 46 = false := by kernel_rfl
theorem placeGuard : Try.prog.eqGuardType Try.prog.depth 46 = false := by kernel_rfl
theorem place_eql (p q : Place) (w : World) : (binOp .eql 46 (placeV p) (placeV q)).run Try.prog w = .ok (.bool (decide (p = q))) w := by
  have h1 := placeHeld
  have h2 := placeGuard
  cases p; cases q
  go_simp
  split <;> (try split) <;> simp_all
theorem place_neq (p q : Place) (w : World) : (binOp .neq 46 (placeV p) (placeV q)).run Try.prog w = .ok (.bool (decide (p ≠ q))) w := by
  have h1 := placeHeld
  have h2 := placeGuard
  cases p; cases q
  go_simp
  split <;> (try split) <;> simp_all

/-! ### A base in memory -/

abbrev kvOf (gs : List GEnt) : List (Value × Value) := gs.map fun g => (macV g.2.mac, ptr g.1)

/-- Block b is a base whose map is block mb, with these entries in this order. -/
structure BaseRep (w : World) (b mb : Nat) (room life : Int) (gs : List GEnt) : Prop where
  base : Row w b 82 [.int .i64 room, .int .u64 life, .map (some mb)]
  map : MapAt w mb (kvOf gs)
  ents : ∀ g ∈ gs, Row w g.1 85 (entCells g.2)
  oks : ∀ g ∈ gs, g.2.ok
  macs : gs.Pairwise (fun g g' => g.2.mac ≠ g'.2.mac)
  blks : gs.Pairwise (fun g g' => g.1 ≠ g'.1)

section
variable {w w' : World} {b mb : Nat} {room life : Int} {gs : List GEnt}

theorem BaseRep.keys (B : BaseRep w b mb room life gs) : KeysFit Try.prog 25 (kvOf gs) := by
  intro p hp
  obtain ⟨g, hg, rfl⟩ := List.mem_map.1 hp
  exact macKey _ (B.oks g hg).mac

theorem BaseRep.apart (B : BaseRep w b mb room life gs) : ((kvOf gs).map Prod.fst).Pairwise (· ≠ ·) := by
  rw [List.map_map, List.pairwise_map]
  exact B.macs.imp (fun h e => h (macV_inj e))

theorem BaseRep.look (B : BaseRep w b mb room life gs) (m : Mac) (hm : m.ok) (c : Bool) :
    (Instr.lookup 80 (.map (some mb)) (macV m) c).run Try.prog w =
      .ok (match findG gs m with | some g => if c then .tuple #[ptr g.1, .bool true] else ptr g.1 | none => if c then .tuple #[.pointer none, .bool false] else .pointer none) w := by
  obtain ⟨l, hl⟩ := macKey m hm
  cases h : findG gs m with
  | none =>
    simpa using B.map.look_none macLaw macMapT B.keys hl (entZero w) (fun p hp e => by
      obtain ⟨g, hg, rfl⟩ := List.mem_map.1 hp
      exact findG_none h g hg (macV_inj e)) c
  | some g =>
    obtain ⟨hg, hgm⟩ := findG_some h
    simpa using B.map.look_some macLaw macMapT B.keys hl B.apart (val := ptr g.1) (List.mem_map.2 ⟨g, hg, by rw [hgm]⟩) c

/-- The blocks of a base. -/
def baseFp (b mb : Nat) (gs : List GEnt) (k : Nat) : Prop := k = b ∨ k = mb ∨ ∃ g ∈ gs, k = g.1

theorem BaseRep.frm {F : Nat → Prop} (B : BaseRep w b mb room life gs) (f : Frm F w w') (hF : ∀ k, baseFp b mb gs k → ¬ F k) : BaseRep w' b mb room life gs :=
  ⟨B.base.frm f (hF b (.inl rfl)), B.map.frm f (hF mb (.inr (.inl rfl))), fun g hg => (B.ents g hg).frm f (hF g.1 (.inr (.inr ⟨g, hg, rfl⟩))), B.oks, B.macs, B.blks⟩

theorem BaseRep.fp_lt (B : BaseRep w b mb room life gs) : ∀ k, baseFp b mb gs k → k < w.heap.size := by
  rintro k (rfl | rfl | ⟨g, hg, rfl⟩)
  · exact B.base.lt
  · exact B.map.lt
  · exact (B.ents g hg).lt

theorem BaseRep.alloc (B : BaseRep w b mb room life gs) (o : Obj) : BaseRep (w.alloc o) b mb room life gs :=
  B.frm ((Frm.refl (fun _ => False) w).alloc o) (fun _ _ h => h)
theorem BaseRep.drewN (B : BaseRep w b mb room life gs) (n : Nat) : BaseRep (w.drewN n) b mb room life gs :=
  B.frm ((Frm.refl (fun _ => False) w).drewN n) (fun _ _ h => h)
end

set_option maxHeartbeats 400000 in
theorem group_any (w : World) (m : Mac) (hm : m.ok) :
    Calls Try.prog 52 #[macV m] w fun e w' => e = .returned (.bool (groupB m)) ∧ w.alloc (.cells (macCells m).toArray 25) = w' := by
  have hB : groupB m = (bits BinOp.and IntKind.u8 m.a 1 == 1) := (and1_u8 _ hm.a).symm
  rw [hB]
  clear hB
  have ha := hm.a.1
  have ha' := hm.a.2
  go_enter Try.func52, Try.ntmps52
  go_wp2_with fail
  go_ret
  exact ⟨rfl, rfl⟩

set_option maxHeartbeats 400000 in
theorem old_any (w : World) (b eb : Nat) (room life now : Int) (mv : Value) (e : Ent) (he : u64ok e.at_) (hn : u64ok now)
    (hb : Row w b 82 [.int .i64 room, .int .u64 life, mv]) (hr : Row w eb 85 (entCells e)) :
    Calls Try.prog 37 #[ptr b, ptr eb, .int .u64 now] w fun e' w' => e' = .returned (.bool (oldB life now e)) ∧ ∃ n, w' = w.drewN n := by
  have c1 := hb.cell 1
  have e8 := hr.cell 8
  have e9 := hr.cell 9
  simp at c1 e8 e9
  clear hb hr
  obtain ⟨he1, he2⟩ := he
  obtain ⟨hn1, hn2⟩ := hn
  go_enter Try.func37, Try.ntmps37
  cases hs : e.static
  all_goals
    rw [hs] at e9
    go_wp2_with fail
    go_quiet (fail)
    go_wp2_with fail
  · go_ret
    exact ⟨by rw [oldB, hs, Int.min_eq_right (by omega)]; simp, _, rfl⟩
  · go_ret
    exact ⟨by rw [oldB, hs, Int.min_eq_left (by omega)]; simp, _, rfl⟩
  · go_ret
    exact ⟨by rw [oldB, hs]; simp, _, rfl⟩

set_option maxHeartbeats 400000 in
theorem find_any (w : World) (b mb : Nat) (room life now : Int) (gs : List GEnt) (m : Mac) (hm : m.ok) (hn : u64ok now) (B : BaseRep w b mb room life gs) :
    Calls Try.prog 14 #[ptr b, macV m, .int .u64 now] w fun e w' =>
      e = .returned (.tuple #[placeV ((seenE life now (findG gs m)).getD ⟨false, 0⟩), .bool (seenE life now (findG gs m)).isSome]) ∧ Frm (fun _ => False) w w' := by
  have c2 := B.base.cell 2
  simp at c2
  have hlt := B.base.lt
  cases hf : findG gs m with
  | none =>
    have hl : ∀ n o1 o2, (Instr.lookup 80 (.map (some mb)) (macV m) false).run Try.prog (((w.alloc o1).alloc o2).drewN n) = .ok (.pointer none) (((w.alloc o1).alloc o2).drewN n) := fun n o1 o2 => by
      have := (((B.alloc o1).alloc o2).drewN n).look m hm false
      simpa [hf] using this
    clear B hf
    go_enter Try.func14, Try.ntmps14
    go_wp2_with fail
    go_quiet (fail)
    go_wp2_with fail
    refine bodyPost_ret (v := .tuple #[placeV ⟨false, 0⟩, .bool false]) (by simp [results, Try.results14, go_sem]) rfl ⟨rfl, ?_⟩
    exact (by repeat (first | exact Frm.refl _ _ | assumption | refine Frm.drewN ?_ _ | refine Frm.drew ?_ | refine Frm.alloc ?_ _ | refine Frm.setCell ?_ _ (by simp)))
  | some g =>
    obtain ⟨hg, hgm⟩ := findG_some hf
    have hl : ∀ n o1 o2, (Instr.lookup 80 (.map (some mb)) (macV m) false).run Try.prog (((w.alloc o1).alloc o2).drewN n) = .ok (ptr g.1) (((w.alloc o1).alloc o2).drewN n) := fun n o1 o2 => by
      have := (((B.alloc o1).alloc o2).drewN n).look m hm false
      simpa [hf] using this
    have hr := B.ents g hg
    have hb := B.base
    have hrlt := hr.lt
    have hold := fun W (h1 : Row W b _ _) (h2 : Row W g.1 _ _) => old_any W b g.1 room life now (.map (some mb)) g.2 (B.oks g hg).at_ hn h1 h2
    have e6 := hr.cell 6
    have e7 := hr.cell 7
    simp at e6 e7
    have hb2 : ∀ n o1 o2, Row (((w.alloc o1).alloc o2).drewN n) b _ _ := fun n o1 o2 => ((hb.alloc o1).alloc o2).drewN n
    have hr2 : ∀ n o1 o2, Row (((w.alloc o1).alloc o2).drewN n) g.1 _ _ := fun n o1 o2 => ((hr.alloc o1).alloc o2).drewN n
    clear B hf hb hr
    cases ho : oldB life now g.2
    all_goals
      rw [ho] at hold
      go_enter Try.func14, Try.ntmps14
      go_wp2_with fail
      go_quiet (fail)
      go_wp2_with (go_at_call 37; refine (hold _ (hb2 _ _ _) (hr2 _ _ _)).mono ?_; rintro e w' ⟨rfl, n2, rfl⟩)
    · refine bodyPost_ret (v := .tuple #[placeV g.2.place, .bool true]) (by simp [results, Try.results14, go_sem]) rfl ⟨by simp [seenE, ho], ?_⟩
      exact (by repeat (first | exact Frm.refl _ _ | assumption | refine Frm.drewN ?_ _ | refine Frm.drew ?_ | refine Frm.alloc ?_ _ | refine Frm.setCell ?_ _ (by simp)))
    · refine bodyPost_ret (v := .tuple #[placeV ⟨false, 0⟩, .bool false]) (by simp [results, Try.results14, go_sem]) rfl ⟨by simp [seenE, ho], ?_⟩
      exact (by repeat (first | exact Frm.refl _ _ | assumption | refine Frm.drewN ?_ _ | refine Frm.drew ?_ | refine Frm.alloc ?_ _ | refine Frm.setCell ?_ _ (by simp)))
end Go.Proofs.Ytmddhglhfgomiaa
