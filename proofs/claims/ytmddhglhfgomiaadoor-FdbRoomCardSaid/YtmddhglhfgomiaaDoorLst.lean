/- fdb: List, its loop: the entries, collected by value. Conditions: none. -/
import Derived.Test.YtmddhglhfgomiaaDoorDrop
import Derived.Maps.AppendAt
import Derived.Sort.Grow
namespace Go.Proofs.YtmddhglhfgomiaaDoor
open Go Go.RowKit Go.Maps Go.Sort

/-- Value v is a slice of these entries, in a row of its own. -/
def ESl (B : Nat) (w : World) (v : Value) (es : List Ent) : Prop := w.ownsRow B 74 10 v es.length (es.flatMap entCells)

theorem entInfo : (Tryd.prog.info? 74).map (fun i => (i.zero, i.size, i.bytes)) = some (some (.agg #[.int .u8 0, .int .u8 0, .int .u8 0, .int .u8 0, .int .u8 0, .int .u8 0, .bool false, .int .i64 0, .int .u64 0, .bool false]), 10, 40) := by kernel_rfl
theorem entriesT : Tryd.prog.underlying 50 = some (.slice 74) := by kernel_rfl

theorem entCells_one (e : Ent) : ∀ u ∈ entCells e, u.oneCell' = true := by
  intro u hu
  simp at hu
  rcases hu with h | h | h | h | h | h | h | h | h | h <;> subst h <;> rfl

theorem owns_ne {W : World} {base : Nat} {e : TypeId} {size : Nat} {v : Value} {k : Nat} {xs : List Value} (h : W.ownsRow base e size v k xs) {j : Nat} {o : Obj} (hj : W.heap[j]? = some o) (hno : ∀ cur t f, o ≠ .cells cur t f) : some j ≠ v.ownBlock := by
  rcases h.2 with ⟨rfl, _⟩ | ⟨g, cap, cur, rfl, _, hgb, _⟩
  · intro e; cases e
  · intro e'
    have : j = g := by simpa [Value.ownBlock] using e'
    subst this
    rw [hgb] at hj
    cases hj
    exact hno _ _ _ rfl
theorem owns_low {W : World} {base : Nat} {e : TypeId} {size : Nat} {v : Value} {k : Nat} {xs : List Value} (h : W.ownsRow base e size v k xs) {j : Nat} (hj : j < base) : some j ≠ v.ownBlock := by
  rcases h.2 with ⟨rfl, _⟩ | ⟨g, cap, cur, rfl, hb, hgb, _⟩
  · intro e; cases e
  · intro e'
    have : j = g := by simpa [Value.ownBlock] using e'
    omega
theorem RngAt.grown {w w' : World} {b r : Nat} {kvs left : List (Value × Value)} {row : Option Nat} (h : RngAt w b r kvs left) (hg : w.grownBy w' row) (hb : some b ≠ row) (hr : some r ≠ row) : RngAt w' b r kvs left :=
  h.of_eq (hg.block b h.map.lt hb) (hg.block r h.lt hr)
theorem RngAt.map_obj {w : World} {b r : Nat} {kvs left : List (Value × Value)} (h : RngAt w b r kvs left) : ∃ o, w.heap[b]? = some o ∧ ∀ cur t f, o ≠ .cells cur t f := by
  obtain ⟨es, clk, s, se, c0, h1, h2, h3, h4, h5, h6⟩ := h
  exact ⟨_, h1, fun _ _ _ e => by cases e⟩
theorem RngAt.iter_obj {w : World} {b r : Nat} {kvs left : List (Value × Value)} (h : RngAt w b r kvs left) : ∃ o, w.heap[r]? = some o ∧ ∀ cur t f, o ≠ .cells cur t f := by
  obtain ⟨es, clk, s, se, c0, h1, h2, h3, h4, h5, h6⟩ := h
  exact ⟨_, h5, fun _ _ _ e => by cases e⟩

/-- What the loop has collected. -/
def Lst (w : World) (gs : List GEnt) (W : World) (v : Value) : Prop := ∃ ss : List GEnt, ss.Perm gs ∧ ESl (w.heap.size + 1) W v (ss.map (·.2)) ∧ Below w.heap.size w W

set_option maxRecDepth 100000 in
set_option maxHeartbeats 4000000 in
theorem list_any (w : World) (b mb : Nat) (room life : Int) (gs : List GEnt) (hN : gs.length ≤ 1048576) (B : BaseRep w b mb room life gs) (R : Value → World → Prop)
    (hsort : ∀ W v, Lst w gs W v → Calls Tryd.prog 44 #[v, .func (.func 45) #[] #[]] W fun e w' => e = .returned (.tuple #[]) ∧ R v w') :
    Calls Tryd.prog 21 #[ptr b] w fun e w' => ∃ v, e = .returned v ∧ R v w' := by
  obtain ⟨i0, hi, hz0, hz1, hz2⟩ := info_parts entInfo
  have c2 := B.base.cell 2
  simp at c2
  have hlt := B.base.lt
  have hml := B.map.lt
  have hmap := B.map
  have HE := Lib.hid (fun g (hg : g ∈ gs) => B.ents g hg)
  have HS := Lib.hid hsort
  clear B hsort
  go_enter Tryd.func21, Tryd.ntmps21
  go_wp2_with (first
    | (at_range; refine wpList_range_map _ rfl _ 95 rfl 24 94 macMapT mb _ rfl hmap ?_; intro x0 hrg0)
    | go_in)
  go_frame
  go_loopw [3] (fun tv wr => ∃ (left pre : List GEnt), RngAt wr mb w.heap.size (kvOf gs) (kvOf left) ∧ (pre ++ left).Perm gs ∧ ESl (w.heap.size + 1) wr tv (pre.map (·.2)) ∧ Below w.heap.size w wr)
    (fun _ wr => wr.rangeLeft mb w.heap.size)
  case atStart => exact ⟨gs, [], hrg0, List.Perm.refl _, ⟨rfl, .inl ⟨rfl, rfl⟩⟩, (Below.refl _ w).alloc (Nat.le_refl _) _⟩
  case round =>
    obtain ⟨left, pre, hrg, hp, hown, hB⟩ := hrel
    have HP := Lib.hid hp
    clear hp
    go_wp2_with (first
      | (at_next; refine wpList_next_map _ rfl _ rfl kvG mb w.heap.size _ left rfl hrg ?_ ?_)
      | go_in)
    · intro hl0
      subst hl0
      have hL : Lst w gs wr u3 := ⟨pre, by have := HP.out; simpa using this, hown, hB⟩
      have hc := HS.out wr u3 hL
      clear hL hown hrg
      go_wp2_with fail
      refine hc.mono ?_
      rintro e w' ⟨rfl, hR⟩
      go_wp2_with fail
      go_ret
      exact ⟨_, rfl, hR⟩
    · intro l1 xb xe l2 w2 hl hrg2 hF2 hs2 hen
      subst hl
      rw [← List.map_append] at hrg2
      have hpl : pre.length + 1 ≤ gs.length := by
        have := HP.out.length_eq
        simp at this
        omega
      have hxin : (xb, xe) ∈ gs := HP.out.subset (by simp)
      have hB2 : Below w.heap.size w w2 := hB.trans (hF2.to_below hB.size (fun i hi e => by omega))
      have hx := (HE.out _ hxin).of_eq (hB2.block _ (HE.out _ hxin).lt)
      have hown2 : ESl (w.heap.size + 1) w2 u3 (pre.map (·.2)) := World.ownsRow.kept hown (frm_grownBy hF2) (.inr (fun e => owns_low hown (Nat.lt_succ_self _) e.symm))
      have hws := hrg2.lt
      have hnews : ∀ j u, (entCells xe)[j]? = some u → (w2.alloc (.cells (entCells xe).toArray 74)).cell? ((⟨w2.heap.size, 0, none⟩ : Addr).add j) = some u := fun j u hj => by
        rw [Addr.add_lit, Nat.zero_add]
        exact ((Row.new w2 74 (entCells xe)).cell j).trans hj
      have hownA := hown2.alloc (.cells (entCells xe).toArray 74)
      have hpm : (pre.map (·.2)).length = pre.length := List.length_map ..
      have hbl : w.heap.size + 1 ≤ (w2.alloc (.cells (entCells xe).toArray 74)).heap.size := by rw [World.size_alloc]; omega
      have hxl := hx.lt
      obtain ⟨x0c, x1c, x2c, x3c, x4c, x5c⟩ := And.intro (hx.cell 0) (And.intro (hx.cell 1) (And.intro (hx.cell 2) (And.intro (hx.cell 3) (And.intro (hx.cell 4) (hx.cell 5)))))
      obtain ⟨x6c, x7c, x8c, x9c⟩ := And.intro (hx.cell 6) (And.intro (hx.cell 7) (And.intro (hx.cell 8) (hx.cell 9)))
      simp at x0c x1c x2c x3c x4c x5c x6c x7c x8c x9c
      have HLE := Lib.hid hrg.left_eq
      have HN := Lib.hid hpm
      have HO := Lib.hid hownA
      clear hs2 hx hown hF2 hrg hown2 hB hpm hownA
      go_wp2_with (first
        | (at_builtin
           refine wpList_append_own_at _ rfl _ _ 50 rfl (w.heap.size + 1) 74 i0 _ 10 40 entriesT hi hz0 hz1 hz2 rfl (by decide) _ _ _ rfl HO.out ⟨w2.heap.size, 0, none⟩ 1 1 (entCells xe) rfl rfl hnews (entCells_one xe) (by rw [HN.out]; unfold maxLen; omega) (by rw [HN.out]; omega) hbl ?_
           intro v' w3 hown3 hg3 _ _
           go_frame)
        | go_in)
      have hrgA := hrg2.alloc (.cells (entCells xe).toArray 74)
      have hrg3 : RngAt w3 mb w.heap.size (kvOf gs) (kvOf (l1 ++ l2)) := by
        obtain ⟨o1, h1, h2⟩ := hrgA.map_obj
        obtain ⟨o2, h3, h4⟩ := hrgA.iter_obj
        exact hrgA.grown hg3 (owns_ne HO.out h1 h2) (owns_ne HO.out h3 h4)
      have hB3 : Below w.heap.size w w3 := (hB2.alloc hB2.size _).grown hg3 (by rw [World.size_alloc]; omega) (fun k e => by
        rcases Nat.lt_or_ge k (w.heap.size + 1) with h | h
        · exact absurd e.symm (owns_low HO.out h)
        · omega)
      go_roundw
      case rel => exact ⟨l1 ++ l2, pre ++ [(xb, xe)], hrg3, List.Perm.trans (by simpa using List.perm_middle.symm.append_left pre) HP.out, by simpa [ESl] using hown3, hB3⟩
      case measure => rw [hrg3.left_eq, HLE.out]; simp
end Go.Proofs.YtmddhglhfgomiaaDoor
