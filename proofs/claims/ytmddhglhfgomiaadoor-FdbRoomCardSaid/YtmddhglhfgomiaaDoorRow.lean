/- law 15: what the rows of this seat share. Conditions: none. -/
import Derived.Test.YtmddhglhfgomiaaDoorCards
import Derived.Test.YtmddhglhfgomiaaDoorTie
import Derived.Test.YtmddhglhfgomiaaDoorArgs
import Derived.Test.YtmddhglhfgomiaaDoorAges
import Derived.ProofKit
import Derived.OpenShut
import Derived.Deep.DeepHandedRow
import Derived.Lib.LaidTab
namespace Go.Proofs.YtmddhglhfgomiaaDoor
open Go Go.ChangeShapes Go.WideShapes Go.ChangeAt Go.RowKit
namespace rw15
theorem own : ownKnob Tryd.prog.godebug = none := by kernel_rfl
theorem laidOut' : laidOutB Tryd.prog = true := by kernel_rfl
theorem gAll : Tryd.prog.globalNamed "underpass/api.All" = some 0 := by kernel_rfl
theorem gAllType : (Tryd.prog.globals[0]?).map (·.type) = some 24 := by kernel_rfl
theorem u8u : Tryd.prog.underlying 5 = some (.int .u8) := by kernel_rfl
theorem boolu : Tryd.prog.underlying 4 = some .bool := by kernel_rfl
theorem intu : Tryd.prog.underlying 3 = some (.int .i64) := by kernel_rfl
theorem u64u : Tryd.prog.underlying 22 = some (.int .u64) := by kernel_rfl
theorem cellsMac : Tryd.prog.cellsOf 24 = 6 := by kernel_rfl
theorem cellsU8 : Tryd.prog.cellsOf 5 = 1 := by kernel_rfl
theorem table {W : World} (h : laidMetH Tryd.prog [("underpass/api.All", Rows.laid_underpass_api_All)] W) : Lib.TabIs Tryd.prog W "underpass/api.All" .u8 [255, 255, 255, 255, 255, 255] :=
  Lib.tabIs_of_head (rest := []) gAll gAllType macArr.hu u8u cellsU8 cellsMac h
theorem all_at {W : World} (h : laidMetH Tryd.prog [("underpass/api.All", Rows.laid_underpass_api_All)] W) : V.AllAt W :=
  ⟨World.block_lt_of_cell? W _ ((table h).cell gAll 0 (by decide)), (table h).cell gAll 0 (by decide), (table h).cell gAll 1 (by decide), (table h).cell gAll 2 (by decide), (table h).cell gAll 3 (by decide), (table h).cell gAll 4 (by decide), (table h).cell gAll 5 (by decide)⟩
theorem i64_wf {n : Int} (h : (Lit.int .i64 n).wf = true) : i64ok n := by
  unfold i64ok
  simp [Lit.wf, IntKind.min, IntKind.max, IntKind.signed, IntKind.bits] at h
  omega
theorem u64_wf {n : Int} (h : (Lit.int .u64 n).wf = true) : u64ok n := by
  unfold u64ok
  simp [Lit.wf, IntKind.min, IntKind.max, IntKind.signed, IntKind.bits] at h
  omega
/-- A world for the witness: the settled one, the table (block 0) holding what its initialiser lays. -/
noncomputable def laidWorld (os : Os) : World :=
  { World.holding Tryd.prog os ⟨#[], #[], []⟩ with heap := (World.holding Tryd.prog os ⟨#[], #[], []⟩).heap.modify 0 fun
      | .cells _ t frozen => .cells #[.int .u8 255, .int .u8 255, .int .u8 255, .int .u8 255, .int .u8 255, .int .u8 255] t frozen
      | o => o }
theorem trodAll_five {H : Type} {enc : TypeId × Value → H} {P : Program} {w : World} {base : Nat} {spare : Nat → Bool} {held : Bool} {t t' t'' t3 t4 : TypeId} {args : Array Value} {ds : List (DataW H)} {ps : List MemPlace} (h : DataW.TrodAll enc P w base spare held [t, t', t'', t3, t4] args.toList ds ps) :
    ∃ v v' v'' v3 v4 d d' d'' d3 d4 p p' p'' p3 p4, args = #[v, v', v'', v3, v4] ∧ ds = [d, d', d'', d3, d4] ∧ ps = p ++ p' ++ p'' ++ p3 ++ p4 ∧ DataW.Trod enc P w base spare held t v d p ∧ DataW.Trod enc P w base spare held t' v' d' p' ∧ DataW.Trod enc P w base spare held t'' v'' d'' p'' ∧ DataW.Trod enc P w base spare held t3 v3 d3 p3 ∧ DataW.Trod enc P w base spare held t4 v4 d4 p4 := by
  obtain ⟨v, vs, d, ds', p, q, hargs, rfl, rfl, hd, hrest⟩ := trodAll_cons h
  obtain ⟨v', vs', d', ds'', p', q', rfl, rfl, rfl, hd', hrest'⟩ := trodAll_cons hrest
  obtain ⟨v'', vs'', d'', ds''', p'', q'', rfl, rfl, rfl, hd'', hrest''⟩ := trodAll_cons hrest'
  obtain ⟨v3, vs3, d3, ds3, p3, q3, rfl, rfl, rfl, hd3, hrest3⟩ := trodAll_cons hrest''
  obtain ⟨v4, vs4, d4, ds4, p4, q4, rfl, rfl, rfl, hd4, hrest4⟩ := trodAll_cons hrest3
  obtain ⟨rfl, rfl, rfl⟩ := trodAll_nil hrest4
  exact ⟨v, v', v'', v3, v4, d, d', d'', d3, d4, p, p', p'', p3, p4, by cases args; simp_all, rfl, by simp, hd, hd', hd'', hd3, hd4⟩
end rw15
end Go.Proofs.YtmddhglhfgomiaaDoor
