/- law 15: the row of FdbAges, and its card. Conditions: none. -/
import Derived.Test.YtmddhglhfgomiaaDoorRow
import Derived.Test.YtmddhglhfgomiaaDoorAges
namespace Go.Proofs.YtmddhglhfgomiaaDoor
open Go Go.ChangeShapes Go.WideShapes Go.ChangeAt Go.RowKit
namespace rFdbAges
open rw15

set_option maxRecDepth 100000 in
set_option maxHeartbeats 800000 in
theorem contract (H : Type) (enc : TypeId × Value → H) (W : World) (base : Nat) (args : Array Value) (ds gs : List (DataW H)) (before : List MemPlace)
    (hval : ∀ (j : Nat) t v, Tryd.f5.params[j]? = some t → args[j]? = some v → Value.okWide Tryd.prog W .any base t v)
    (hW : DataW.Whole enc Tryd.prog Tryd.f5.params.toList Rows.fdbAgesSpec.vars false W args.toList ds gs before) (hL : laidMetH Tryd.prog Rows.fdbAgesRow.laid W) :
    Calls Tryd.prog 5 args W fun e W' => ∃ v, e = .returned v ∧ Rows.fdbAgesSpec.post enc Tryd.prog Tryd.f5 false true false false W args v W' := by
  have hW' := hW
  obtain ⟨p, q, hA0, hV, rfl, hfz, hnd⟩ := hW
  have hA : DataW.TrodAll enc Tryd.prog W 0 (fun _ => true) true Tryd.f5.params.toList args.toList ds p := hA0
  rw [Tryd.params5] at hA hval
  obtain ⟨v0, v1, v2, v3, d0, d1, d2, d3, p0, p1, p2, p3, rfl, rfl, rfl, h0, h1, h2, h3⟩ := trodAll_four hA
  obtain ⟨rfl, rfl⟩ := trodVars_none hV
  obtain ⟨m0, hm0, rfl⟩ := open_mac (hval 0 24 v0 rfl rfl) h0
  obtain ⟨n1, rfl, _, _, w1⟩ := open_int u64u (hval 1 22 v1 rfl rfl) h1
  obtain ⟨n2, rfl, _, _, w2⟩ := open_int u64u (hval 2 22 v2 rfl rfl) h2
  obtain ⟨n3, rfl, _, _, w3⟩ := open_int u64u (hval 3 22 v3 rfl rfl) h3
  clear hA0
  simp only [List.append_nil] at hW'
  have hall := all_at hL
  have hlt : ∀ x ∈ p0 ++ p1 ++ p2 ++ p3, x.block < W.heap.size := fun x hx => by simpa using hW'.lt x hx
  refine (V.ages_any W m0 hm0 n1 n2 n3 (u64_wf w1) (u64_wf w3) hall).mono fun e W' ⟨he, hb⟩ => ?_
  subst he
  have a0 := Below.trod laidOut' (by kernel_rfl) (of_decide_eq_true (by kernel_rfl)) h0 hb (fun x hx => hlt x (by simp [hx]))
  have a1 := Below.trod laidOut' (by kernel_rfl) (of_decide_eq_true (by kernel_rfl)) h1 hb (fun x hx => hlt x (by simp [hx]))
  have a2 := Below.trod laidOut' (by kernel_rfl) (of_decide_eq_true (by kernel_rfl)) h2 hb (fun x hx => hlt x (by simp [hx]))
  have a3 := Below.trod laidOut' (by kernel_rfl) (of_decide_eq_true (by kernel_rfl)) h3 hb (fun x hx => hlt x (by simp [hx]))
  exact ⟨_, rfl, _, _, _, [], _, [], hW', trodAll_mk1 (shut_bool boolu _), (trodAll_cons_mk a0 (trodAll_cons_mk a1 (trodAll_cons_mk a2 (trodAll_cons_mk a3 trodAll_mk0)))), rfl, hb.frame _, fun h => by cases h⟩

abbrev wargs : Array Value := #[.agg #[.int .u8 0, .int .u8 0, .int .u8 0, .int .u8 0, .int .u8 0, .int .u8 0], .int .u64 0, .int .u64 0, .int .u64 0]
theorem laid_met (os : Os) : laidMet Tryd.prog Rows.fdbAgesRow.laid ((laidWorld os).forCall (fun _ _ => 0) ⟨#[], wargs, []⟩).memory :=
  laidMet_of_run' 8 (by kernel_rfl) (by kernel_rfl)
theorem reads (os : Os) {H : Type} (enc : TypeId × Value → H) : ∃ places, DataW.whole enc Tryd.prog ((laidWorld os).forCall (fun _ _ => 0) ⟨#[], wargs, []⟩).memory Tryd.f5.params.toList Rows.fdbAgesSpec.vars false wargs.toList 8 =
    some ([.agg [.lit (.int .u8 0), .lit (.int .u8 0), .lit (.int .u8 0), .lit (.int .u8 0), .lit (.int .u8 0), .lit (.int .u8 0)], .lit (.int .u64 0), .lit (.int .u64 0), .lit (.int .u64 0)], [], places) :=
  ⟨[], by kernel_rfl⟩

set_option maxRecDepth 100000 in
theorem lifted (os : Os) (started : os.Started) (H : Type) (enc : TypeId × Value → H) (F : Stop.Interp) :
    ReturnsInHanded {} Tryd.checked os 5 .any ((OpenSpec.ofChange Rows.fdbAgesSpec).preRow enc Tryd.prog Tryd.f5 Rows.fdbAgesRow.domain false Rows.fdbAgesRow.laid) (((OpenSpec.ofChange Rows.fdbAgesSpec).at F).post enc Tryd.prog Tryd.f5 false true false false) := by
  obtain ⟨places, hx⟩ := reads os enc
  refine returnsInHanded_of_row (C := Tryd.checked) (s := OpenSpec.ofChange Rows.fdbAgesSpec) own started (by kernel_rfl) Tryd.func5
    (witness_row_at (enc := enc) (C := Tryd.checked) false (laidWorld os) wargs rfl (by kernel_rfl) (by kernel_rfl) (by kernel_rfl)
      (OpenSpec.preRow_of_cond 8 hx (by kernel_rfl) (fun k hk => by cases hk) (by kernel_rfl) (laid_met os))) ?_
  intro W base args ds gs before hval hW _ _ _ hL _ _
  exact contract H enc W base args ds gs before hval hW hL

set_option maxRecDepth 100000 in
theorem said : Rows.FdbAgesSaid :=
  OpenClaim.holds_of_cond 5 Tryd.f5 rfl rfl rfl rfl rfl rfl rfl ⟨rfl, rfl, rfl, rfl, rfl⟩ rfl rfl rfl rfl rfl (by kernel_rfl) Tryd.func5 (by kernel_rfl)
    (of_decide_eq_true (by kernel_rfl)) (by unfold Func.isWrapper; first | (rw [if_pos (by decide +kernel)]; kernel_rfl) | (rw [if_neg (by decide +kernel)]; exact ⟨rfl, rfl⟩))
    (fun os started H enc _ F => by rw [OpenClaim.pre_eq_preRow]; exact lifted os started H enc F)

set_option maxRecDepth 100000 in
theorem plain (f : FuncId) (fn : Func) (hf : Tryd.pinned.checked.prog.funcNamed "underpass/underpasslaw15.FdbAges" = some f) (hfn : Tryd.pinned.checked.prog.funcs[f]? = some fn) :
    false = Tryd.pinned.checked.prog.looks [] ∧ ∀ (j : Nat) t, fn.params[j]? = some t → Tryd.pinned.checked.prog.wantsStandIn t = false := by
  obtain rfl : f = 5 := Option.some.inj ((show Tryd.prog.funcNamed "underpass/underpasslaw15.FdbAges" = some 5 by kernel_rfl).symm.trans hf) |>.symm
  obtain rfl : fn = Tryd.f5 := (Option.some.inj (Tryd.func5.symm.trans hfn)).symm
  refine ⟨by kernel_rfl, fun j t ht => ?_⟩
  rw [Tryd.params5] at ht
  have h4 : t = 24 ∨ t = 22 := by
    have := Array.mem_of_getElem? ht
    simp at this
    omega
  rcases h4 with rfl | rfl
  · exact (show Tryd.prog.wantsStandIn 24 = false by kernel_rfl)
  · exact (show Tryd.prog.wantsStandIn 22 = false by kernel_rfl)
end rFdbAges

theorem fdbAges_holds : Rows.FdbAgesCardSaid :=
  Claim7.holds_tied_plain_at .later [] _ _ _ _ rFdbAges.said (fun _ h => by cases h) (by kernel_rfl) (fun _ h => by cases h) fdbAges_row_tie rfl ⟨rfl, rfl⟩ (by kernel_rfl) rfl rFdbAges.plain (by kernel_rfl)
end Go.Proofs.YtmddhglhfgomiaaDoor
