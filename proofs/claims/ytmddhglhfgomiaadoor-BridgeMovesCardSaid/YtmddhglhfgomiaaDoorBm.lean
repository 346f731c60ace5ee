/- law 16: the row of BridgeMoves, and its card. Conditions: none. -/
import Derived.Test.YtmddhglhfgomiaaDoorCards
import Derived.Test.YtmddhglhfgomiaaDoorTie
import Derived.Test.YtmddhglhfgomiaaDoorArgs
import Derived.Test.YtmddhglhfgomiaaDoorMoves
import Derived.ProofKit
import Derived.OpenShut
import Derived.Deep.DeepHandedRow
import Derived.Lib.LaidTab
namespace Go.Proofs.YtmddhglhfgomiaaDoor
open Go Go.ChangeShapes Go.WideShapes Go.ChangeAt Go.RowKit

namespace bm
theorem own : ownKnob Tryd.prog.godebug = none := by kernel_rfl
theorem laidOut' : laidOutB Tryd.prog = true := by kernel_rfl
theorem gAll : Tryd.prog.globalNamed "underpass/api.All" = some 0 := by kernel_rfl
theorem gAllType : (Tryd.prog.globals[0]?).map (·.type) = some 24 := by kernel_rfl
theorem u8u : Tryd.prog.underlying 5 = some (.int .u8) := by kernel_rfl
theorem boolu : Tryd.prog.underlying 4 = some .bool := by kernel_rfl
theorem intu : Tryd.prog.underlying 3 = some (.int .i64) := by kernel_rfl
theorem u64u : Tryd.prog.underlying 22 = some (.int .u64) := by kernel_rfl
theorem cellsMac : Tryd.prog.cellsOf 24 = 6 := by kernel_rfl
theorem cellsU8 : Tryd.prog.cellsOf 5 = 1 := by kernel_rfl

theorem table {W : World} (h : laidMetH Tryd.prog Rows.bridgeMovesRow.laid W) : Lib.TabIs Tryd.prog W "underpass/api.All" .u8 [255, 255, 255, 255, 255, 255] :=
  Lib.tabIs_of_head (rest := []) gAll gAllType macArr.hu u8u cellsU8 cellsMac h

theorem all_at {W : World} (h : laidMetH Tryd.prog Rows.bridgeMovesRow.laid W) : MacAt W 0 0 allM :=
  ⟨(table h).cell gAll 0 (by decide), (table h).cell gAll 1 (by decide), (table h).cell gAll 2 (by decide), (table h).cell gAll 3 (by decide), (table h).cell gAll 4 (by decide), (table h).cell gAll 5 (by decide)⟩

theorem i64_wf {n : Int} (h : (Lit.int .i64 n).wf = true) : i64ok n := by
  unfold i64ok
  simp [Lit.wf, IntKind.min, IntKind.max, IntKind.signed, IntKind.bits] at h
  omega
theorem u64_wf {n : Int} (h : (Lit.int .u64 n).wf = true) : u64ok n := by
  unfold u64ok
  simp [Lit.wf, IntKind.min, IntKind.max, IntKind.signed, IntKind.bits] at h
  omega

set_option maxRecDepth 100000 in
set_option maxHeartbeats 800000 in
theorem contract (H : Type) (enc : TypeId × Value → H) (W : World) (base : Nat) (args : Array Value) (ds gs : List (DataW H)) (before : List MemPlace)
    (hval : ∀ (j : Nat) t v, Tryd.f3.params[j]? = some t → args[j]? = some v → Value.okWide Tryd.prog W .any base t v)
    (hW : DataW.Whole enc Tryd.prog Tryd.f3.params.toList Rows.bridgeMovesSpec.vars false W args.toList ds gs before) (hL : laidMetH Tryd.prog Rows.bridgeMovesRow.laid W) :
    Calls Tryd.prog 3 args W fun e W' => ∃ v, e = .returned v ∧ Rows.bridgeMovesSpec.post enc Tryd.prog Tryd.f3 false true false false W args v W' := by
  have hW' := hW
  obtain ⟨p, q, hA0, hV, rfl, hfz, hnd⟩ := hW
  have hA : DataW.TrodAll enc Tryd.prog W 0 (fun _ => true) true Tryd.f3.params.toList args.toList ds p := hA0
  rw [Tryd.params3] at hA hval
  obtain ⟨v0, v1, v2, v3, d0, d1, d2, d3, p0, p1, p2, p3, rfl, rfl, rfl, h0, h1, h2, h3⟩ := trodAll_four hA
  obtain ⟨rfl, rfl⟩ := trodVars_none hV
  obtain ⟨n0, rfl, _, _, w0⟩ := open_int intu (hval 0 3 v0 rfl rfl) h0
  obtain ⟨n1, rfl, _, _, w1⟩ := open_int u64u (hval 1 22 v1 rfl rfl) h1
  obtain ⟨m, hm, rfl⟩ := open_mac (hval 2 24 v2 rfl rfl) h2
  obtain ⟨la, n, c, rfl, hl⟩ := open_places (hval 3 25 v3 rfl rfl) h3
  clear hA0
  simp only [List.append_nil] at hW'
  have hall := all_at hL
  have hlt : ∀ x ∈ p0 ++ p1 ++ p2 ++ p3, x.block < W.heap.size := fun x hx => by simpa using hW'.lt x hx
  refine (moves_any W n0 n1 m hm la n c hl hall (World.block_lt_of_cell? W _ hall.c0)).mono fun e W' ⟨he, hb⟩ => ?_
  subst he
  have a0 := Below.trod laidOut' (by kernel_rfl) (of_decide_eq_true (by kernel_rfl)) h0 hb (fun x hx => hlt x (by simp [hx]))
  have a1 := Below.trod laidOut' (by kernel_rfl) (of_decide_eq_true (by kernel_rfl)) h1 hb (fun x hx => hlt x (by simp [hx]))
  have a2 := Below.trod laidOut' (by kernel_rfl) (of_decide_eq_true (by kernel_rfl)) h2 hb (fun x hx => hlt x (by simp [hx]))
  have a3 := Below.trod laidOut' (by kernel_rfl) (of_decide_eq_true (by kernel_rfl)) h3 hb (fun x hx => hlt x (by simp [hx]))
  exact ⟨_, rfl, _, _, _, [], _, [], hW', trodAll_mk1 (shut_bool boolu _), trodAll_cons_mk a0 (trodAll_cons_mk a1 (trodAll_cons_mk a2 (trodAll_cons_mk a3 trodAll_mk0))), rfl, hb.frame _, fun h => by cases h⟩

abbrev wargs : Array Value := #[.int .i64 0, .int .u64 0, .agg #[.int .u8 0, .int .u8 0, .int .u8 0, .int .u8 0, .int .u8 0, .int .u8 0], .slice none 0 0]

/-- A world for the witness: the settled one, the table (block 0) holding what its initialiser lays. -/
noncomputable def laidWorld (os : Os) : World :=
  { World.holding Tryd.prog os ⟨#[], #[], []⟩ with heap := (World.holding Tryd.prog os ⟨#[], #[], []⟩).heap.modify 0 fun
      | .cells _ t frozen => .cells #[.int .u8 255, .int .u8 255, .int .u8 255, .int .u8 255, .int .u8 255, .int .u8 255] t frozen
      | o => o }
theorem laid_met (os : Os) : laidMet Tryd.prog Rows.bridgeMovesRow.laid ((laidWorld os).forCall (fun _ _ => 0) ⟨#[], wargs, []⟩).memory :=
  laidMet_of_run' 8 (by kernel_rfl) (by kernel_rfl)
theorem reads (os : Os) {H : Type} (enc : TypeId × Value → H) : ∃ places, DataW.whole enc Tryd.prog ((laidWorld os).forCall (fun _ _ => 0) ⟨#[], wargs, []⟩).memory Tryd.f3.params.toList Rows.bridgeMovesSpec.vars false wargs.toList 8 =
    some ([.lit (.int .i64 0), .lit (.int .u64 0), .agg [.lit (.int .u8 0), .lit (.int .u8 0), .lit (.int .u8 0), .lit (.int .u8 0), .lit (.int .u8 0), .lit (.int .u8 0)], .nil], [], places) :=
  ⟨[], by kernel_rfl⟩

set_option maxRecDepth 100000 in
theorem lifted (os : Os) (started : os.Started) (H : Type) (enc : TypeId × Value → H) (F : Stop.Interp) :
    ReturnsInHanded {} Tryd.checked os 3 .any ((OpenSpec.ofChange Rows.bridgeMovesSpec).preRow enc Tryd.prog Tryd.f3 Rows.bridgeMovesRow.domain false Rows.bridgeMovesRow.laid) (((OpenSpec.ofChange Rows.bridgeMovesSpec).at F).post enc Tryd.prog Tryd.f3 false true false false) := by
  obtain ⟨places, hx⟩ := reads os enc
  refine returnsInHanded_of_row (C := Tryd.checked) (s := OpenSpec.ofChange Rows.bridgeMovesSpec) own started (by kernel_rfl) Tryd.func3
    (witness_row_at (enc := enc) (C := Tryd.checked) false (laidWorld os) wargs rfl (by kernel_rfl) (by kernel_rfl) (by kernel_rfl)
      (OpenSpec.preRow_of_cond 8 hx (by kernel_rfl) (fun k hk => by cases hk) (by kernel_rfl) (laid_met os))) ?_
  intro W base args ds gs before hval hW _ _ _ hL _ _
  exact contract H enc W base args ds gs before hval hW hL

set_option maxRecDepth 100000 in
theorem said : Rows.BridgeMovesSaid :=
  OpenClaim.holds_of_cond 3 Tryd.f3 rfl rfl rfl rfl rfl rfl rfl ⟨rfl, rfl, rfl, rfl, rfl⟩ rfl rfl rfl rfl rfl (by kernel_rfl) Tryd.func3 (by kernel_rfl)
    (of_decide_eq_true (by kernel_rfl)) (by unfold Func.isWrapper; first | (rw [if_pos (by decide +kernel)]; kernel_rfl) | (rw [if_neg (by decide +kernel)]; exact ⟨rfl, rfl⟩))
    (fun os started H enc _ F => by rw [OpenClaim.pre_eq_preRow]; exact lifted os started H enc F)

set_option maxRecDepth 100000 in
theorem plain (f : FuncId) (fn : Func) (hf : Tryd.pinned.checked.prog.funcNamed "underpass/underpasslaw16.BridgeMoves" = some f) (hfn : Tryd.pinned.checked.prog.funcs[f]? = some fn) :
    false = Tryd.pinned.checked.prog.looks [] ∧ ∀ (j : Nat) t, fn.params[j]? = some t → Tryd.pinned.checked.prog.wantsStandIn t = false := by
  obtain rfl : f = 3 := Option.some.inj ((show Tryd.prog.funcNamed "underpass/underpasslaw16.BridgeMoves" = some 3 by kernel_rfl).symm.trans hf) |>.symm
  obtain rfl : fn = Tryd.f3 := (Option.some.inj (Tryd.func3.symm.trans hfn)).symm
  refine ⟨by kernel_rfl, fun j t ht => ?_⟩
  rw [Tryd.params3] at ht
  have h4 : t = 3 ∨ t = 22 ∨ t = 24 ∨ t = 25 := by simpa using Array.mem_of_getElem? ht
  rcases h4 with rfl | rfl | rfl | rfl
  · exact (show Tryd.prog.wantsStandIn 3 = false by kernel_rfl)
  · exact (show Tryd.prog.wantsStandIn 22 = false by kernel_rfl)
  · exact (show Tryd.prog.wantsStandIn 24 = false by kernel_rfl)
  · exact (show Tryd.prog.wantsStandIn 25 = false by kernel_rfl)
end bm

theorem bridgeMoves_holds : Rows.BridgeMovesCardSaid :=
  Claim7.holds_tied_plain_at .later [] _ _ _ _ bm.said (fun _ h => by cases h) (by kernel_rfl) (fun _ h => by cases h) bridgeMoves_row_tie rfl ⟨rfl, rfl⟩ (by kernel_rfl) rfl bm.plain (by kernel_rfl)
end Go.Proofs.YtmddhglhfgomiaaDoor
