/- The entries of a base as plain data. Conditions: none. -/
import Derived.WalkKit
namespace Go.Proofs.Ytmddhglhfgomiaa
open Go

structure Mac where
  (a b c d e f : Int)
  deriving DecidableEq

structure Place where
  (tunnel : Bool)
  (n : Int)
  deriving DecidableEq

structure Ent where
  (mac : Mac)
  (place : Place)
  (at_ : Int)
  (static : Bool)
  deriving DecidableEq

def u8ok (x : Int) : Prop := 0 ≤ x ∧ x < 256
def u64ok (x : Int) : Prop := 0 ≤ x ∧ x < 18446744073709551616
def i64ok (x : Int) : Prop := -9223372036854775808 ≤ x ∧ x < 9223372036854775808

structure Mac.ok (m : Mac) : Prop where
  (a : u8ok m.a) (b : u8ok m.b) (c : u8ok m.c) (d : u8ok m.d) (e : u8ok m.e) (f : u8ok m.f)

structure Ent.ok (e : Ent) : Prop where
  mac : e.mac.ok
  at_ : u64ok e.at_

abbrev macCells (m : Mac) : List Value := [.int .u8 m.a, .int .u8 m.b, .int .u8 m.c, .int .u8 m.d, .int .u8 m.e, .int .u8 m.f]
abbrev macV (m : Mac) : Value := .agg #[.int .u8 m.a, .int .u8 m.b, .int .u8 m.c, .int .u8 m.d, .int .u8 m.e, .int .u8 m.f]
abbrev placeV (p : Place) : Value := .agg #[.bool p.tunnel, .int .i64 p.n]
abbrev entCells (e : Ent) : List Value := [.int .u8 e.mac.a, .int .u8 e.mac.b, .int .u8 e.mac.c, .int .u8 e.mac.d, .int .u8 e.mac.e, .int .u8 e.mac.f, .bool e.place.tunnel, .int .i64 e.place.n, .int .u64 e.at_, .bool e.static]
abbrev entV (e : Ent) : Value := .agg #[.int .u8 e.mac.a, .int .u8 e.mac.b, .int .u8 e.mac.c, .int .u8 e.mac.d, .int .u8 e.mac.e, .int .u8 e.mac.f, .bool e.place.tunnel, .int .i64 e.place.n, .int .u64 e.at_, .bool e.static]
abbrev ptr (b : Nat) : Value := .pointer (some ⟨b, 0, none⟩)

theorem macV_inj {m m' : Mac} (h : macV m = macV m') : m = m' := by
  cases m; cases m'
  simp at h
  simp [h]

def oldB (life now : Int) (e : Ent) : Bool := !e.static && decide (life ≤ now - min now e.at_)
def groupB (m : Mac) : Bool := m.a % 2 == 1

theorem and1_u8 (x : Int) (h : u8ok x) : (bits BinOp.and IntKind.u8 x 1 == 1) = (x % 2 == 1) := by
  obtain ⟨h0, h1⟩ := h
  have key : ∀ n : Fin 256, (bits BinOp.and IntKind.u8 (n.val : Int) 1 == 1) = ((n.val : Int) % 2 == 1) := by decide +kernel
  have := key ⟨x.toNat, by omega⟩
  simpa [Int.toNat_of_nonneg h0] using this

/-- An entry, with the block in which it lies. -/
abbrev GEnt := Nat × Ent

def findG (gs : List GEnt) (m : Mac) : Option GEnt := gs.find? (fun g => g.2.mac == m)

def seenE (life now : Int) : Option GEnt → Option Place
  | some g => if oldB life now g.2 then none else some g.2.place
  | none => none

theorem findG_some {gs : List GEnt} {m : Mac} {g : GEnt} (h : findG gs m = some g) : g ∈ gs ∧ g.2.mac = m := by
  unfold findG at h
  exact ⟨List.mem_of_find?_eq_some h, by simpa using List.find?_some h⟩
theorem findG_none {gs : List GEnt} {m : Mac} (h : findG gs m = none) : ∀ g ∈ gs, g.2.mac ≠ m := by
  unfold findG at h
  intro g hg e
  have := List.find?_eq_none.1 h g hg
  simp [e] at this


def macLt (x y : Mac) : Prop :=
  x.a < y.a ∨ x.a = y.a ∧ (x.b < y.b ∨ x.b = y.b ∧ (x.c < y.c ∨ x.c = y.c ∧ (x.d < y.d ∨ x.d = y.d ∧ (x.e < y.e ∨ x.e = y.e ∧ x.f < y.f))))
/-- Which of two was heard earlier; of the same time: whose MAC is less. -/
def entLt (x y : Ent) : Prop := x.at_ < y.at_ ∨ x.at_ = y.at_ ∧ macLt x.mac y.mac

def roomOf (room : Int) : Int := min (max room 1) 64

/-- Who goes where there is no room. -/
def IsVictim (gs : List GEnt) (v : GEnt) : Prop := v ∈ gs ∧ v.2.static = false ∧ ∀ g ∈ gs, g.2.static = false → g.1 ≠ v.1 → entLt v.2 g.2

def AddRes (room : Int) (gs : List GEnt) (e : Ent) (nb : Nat) (code : Int) (gs' : List GEnt) : Prop :=
  ((gs.length : Int) < room ∧ code = 0 ∧ gs' = gs ++ [(nb, e)]) ∨
  (room ≤ (gs.length : Int) ∧ (((∀ g ∈ gs, g.2.static = true) ∧ code = 5 ∧ gs' = gs) ∨
    ∃ v, IsVictim gs v ∧ code = 0 ∧ gs' = gs.filter (fun g => g.1 != v.1) ++ [(nb, e)]))

/-- The entry at block nb is e now. -/
def setG (gs : List GEnt) (nb : Nat) (e : Ent) : List GEnt := gs.map fun g => if g.1 = nb then (nb, e) else g

theorem setG_ne {gs : List GEnt} {nb : Nat} {e : Ent} (h : ∀ g ∈ gs, g.1 ≠ nb) : setG gs nb e = gs := by
  unfold setG
  conv => rhs; rw [← List.map_id gs]
  exact List.map_congr_left (fun g hg => by simp [h g hg])

def LearnRes (room : Int) (gs : List GEnt) (m : Mac) (p : Place) (now : Int) (nb : Nat) (moved : Bool) (code : Int) (gs' : List GEnt) : Prop :=
  if groupB m = true then moved = false ∧ code = 1 ∧ gs' = gs
  else match findG gs m with
    | none => moved = false ∧ AddRes room gs ⟨m, p, now, false⟩ nb code gs'
    | some g => moved = decide (g.2.place ≠ p) ∧ code = 0 ∧ gs' = if g.2.static then gs else setG gs g.1 ⟨m, p, now, false⟩

end Go.Proofs.Ytmddhglhfgomiaa
