/- law 15: the row of FdbRoom, and its card. Conditions: none. -/
import Derived.Test.YtmddhglhfgomiaaDoorRow
import Derived.Test.YtmddhglhfgomiaaDoorRoom
namespace Go.Proofs.YtmddhglhfgomiaaDoor
open Go Go.ChangeShapes Go.WideShapes Go.ChangeAt Go.RowKit
namespace rFdbRoom
open rw15

set_option maxRecDepth 100000 in
set_option maxHeartbeats 800000 in
theorem contract (H : Type) (enc : TypeId × Value → H) (W : World) (base : Nat) (args : Array Value) (ds gs : List (DataW H)) (before : List MemPlace)
    (hval : ∀ (j : Nat) t v, Tryd.f4.params[j]? = some t → args[j]? = some v → Value.okWide Tryd.prog W .any base t v)
    (hW : DataW.Whole enc Tryd.prog Tryd.f4.params.toList Rows.fdbRoomSpec.vars false W args.toList ds gs before) (hL : laidMetH Tryd.prog Rows.fdbRoomRow.laid W) :
    Calls Tryd.prog 4 args W fun e W' => ∃ v, e = .returned v ∧ Rows.fdbRoomSpec.post enc Tryd.prog Tryd.f4 false true false false W args v W' := by
  have hW' := hW
  obtain ⟨p, q, hA0, hV, rfl, hfz, hnd⟩ := hW
  have hA : DataW.TrodAll enc Tryd.prog W 0 (fun _ => true) true Tryd.f4.params.toList args.toList ds p := hA0
  rw [Tryd.params4] at hA hval
  obtain ⟨v0, v1, d0, d1, p0, p1, rfl, rfl, rfl, h0, h1⟩ := trodAll_two hA
  obtain ⟨rfl, rfl⟩ := trodVars_none hV
  obtain ⟨n0, rfl, _, _, w0⟩ := open_int intu (hval 0 3 v0 rfl rfl) h0
  obtain ⟨n1, rfl, _, _, w1⟩ := open_int intu (hval 1 3 v1 rfl rfl) h1
  clear hA0
  simp only [List.append_nil] at hW'
  have hall := all_at hL
  have hlt : ∀ x ∈ p0 ++ p1, x.block < W.heap.size := fun x hx => by simpa using hW'.lt x hx
  refine (V.room_any W n0 n1 hall).mono fun e W' ⟨he, hb⟩ => ?_
  subst he
  have a0 := Below.trod laidOut' (by kernel_rfl) (of_decide_eq_true (by kernel_rfl)) h0 hb (fun x hx => hlt x (by simp [hx]))
  have a1 := Below.trod laidOut' (by kernel_rfl) (of_decide_eq_true (by kernel_rfl)) h1 hb (fun x hx => hlt x (by simp [hx]))
  exact ⟨_, rfl, _, _, _, [], _, [], hW', trodAll_mk1 (shut_bool boolu _), (trodAll_cons_mk a0 (trodAll_cons_mk a1 trodAll_mk0)), rfl, hb.frame _, fun h => by cases h⟩

abbrev wargs : Array Value := #[.int .i64 0, .int .i64 0]
theorem laid_met (os : Os) : laidMet Tryd.prog Rows.fdbRoomRow.laid ((laidWorld os).forCall (fun _ _ => 0) ⟨#[], wargs, []⟩).memory :=
  laidMet_of_run' 8 (by kernel_rfl) (by kernel_rfl)
theorem reads (os : Os) {H : Type} (enc : TypeId × Value → H) : ∃ places, DataW.whole enc Tryd.prog ((laidWorld os).forCall (fun _ _ => 0) ⟨#[], wargs, []⟩).memory Tryd.f4.params.toList Rows.fdbRoomSpec.vars false wargs.toList 8 =
    some ([.lit (.int .i64 0), .lit (.int .i64 0)], [], places) :=
  ⟨[], by kernel_rfl⟩

set_option maxRecDepth 100000 in
theorem lifted (os : Os) (started : os.Started) (H : Type) (enc : TypeId × Value → H) (F : Stop.Interp) :
    ReturnsInHanded {} Tryd.checked os 4 .any ((OpenSpec.ofChange Rows.fdbRoomSpec).preRow enc Tryd.prog Tryd.f4 Rows.fdbRoomRow.domain false Rows.fdbRoomRow.laid) (((OpenSpec.ofChange Rows.fdbRoomSpec).at F).post enc Tryd.prog Tryd.f4 false true false false) := by
  obtain ⟨places, hx⟩ := reads os enc
  refine returnsInHanded_of_row (C := Tryd.checked) (s := OpenSpec.ofChange Rows.fdbRoomSpec) own started (by kernel_rfl) Tryd.func4
    (witness_row_at (enc := enc) (C := Tryd.checked) false (laidWorld os) wargs rfl (by kernel_rfl) (by kernel_rfl) (by kernel_rfl)
      (OpenSpec.preRow_of_cond 8 hx (by kernel_rfl) (fun k hk => by cases hk) (by kernel_rfl) (laid_met os))) ?_
  intro W base args ds gs before hval hW _ _ _ hL _ _
  exact contract H enc W base args ds gs before hval hW hL

set_option maxRecDepth 100000 in
theorem said : Rows.FdbRoomSaid :=
  OpenClaim.holds_of_cond 4 Tryd.f4 rfl rfl rfl rfl rfl rfl rfl ⟨rfl, rfl, rfl, rfl, rfl⟩ rfl rfl rfl rfl rfl (by kernel_rfl) Tryd.func4 (by kernel_rfl)
    (of_decide_eq_true (by kernel_rfl)) (by unfold Func.isWrapper; first | (rw [if_pos (by decide +kernel)]; kernel_rfl) | (rw [if_neg (by decide +kernel)]; exact ⟨rfl, rfl⟩))
    (fun os started H enc _ F => by rw [OpenClaim.pre_eq_preRow]; exact lifted os started H enc F)

set_option maxRecDepth 100000 in
theorem plain (f : FuncId) (fn : Func) (hf : Tryd.pinned.checked.prog.funcNamed "underpass/underpasslaw15.FdbRoom" = some f) (hfn : Tryd.pinned.checked.prog.funcs[f]? = some fn) :
    false = Tryd.pinned.checked.prog.looks [] ∧ ∀ (j : Nat) t, fn.params[j]? = some t → Tryd.pinned.checked.prog.wantsStandIn t = false := by
  obtain rfl : f = 4 := Option.some.inj ((show Tryd.prog.funcNamed "underpass/underpasslaw15.FdbRoom" = some 4 by kernel_rfl).symm.trans hf) |>.symm
  obtain rfl : fn = Tryd.f4 := (Option.some.inj (Tryd.func4.symm.trans hfn)).symm
  refine ⟨by kernel_rfl, fun j t ht => ?_⟩
  rw [Tryd.params4] at ht
  have h4 : t = 3 := by simpa using Array.mem_of_getElem? ht
  subst h4
  exact (show Tryd.prog.wantsStandIn 3 = false by kernel_rfl)
end rFdbRoom

theorem fdbRoom_holds : Rows.FdbRoomCardSaid :=
  Claim7.holds_tied_plain_at .later [] _ _ _ _ rFdbRoom.said (fun _ h => by cases h) (by kernel_rfl) (fun _ h => by cases h) fdbRoom_row_tie rfl ⟨rfl, rfl⟩ (by kernel_rfl) rfl rFdbRoom.plain (by kernel_rfl)
end Go.Proofs.YtmddhglhfgomiaaDoor
