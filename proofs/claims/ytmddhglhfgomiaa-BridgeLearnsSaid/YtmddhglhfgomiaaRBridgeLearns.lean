/- law 16: the row of BridgeLearns. Conditions: none. -/
import Derived.Test.YtmddhglhfgomiaaRowP
import Derived.Test.YtmddhglhfgomiaaLearns
namespace Go.Proofs.Ytmddhglhfgomiaa
open Go Go.ChangeShapes Go.WideShapes Go.ChangeAt Go.RowKit
namespace rBridgeLearns
open rwP

set_option maxRecDepth 100000 in
set_option maxHeartbeats 800000 in
theorem contract (H : Type) (enc : TypeId × Value → H) (W : World) (base : Nat) (args : Array Value) (ds gs : List (DataW H)) (before : List MemPlace)
    (hval : ∀ (j : Nat) t v, Try.f3.params[j]? = some t → args[j]? = some v → Value.okWide Try.prog W .any base t v)
    (hW : DataW.Whole enc Try.prog Try.f3.params.toList Rows.bridgeLearnsSpec.vars false W args.toList ds gs before) :
    Calls Try.prog 3 args W fun e W' => ∃ v, e = .returned v ∧ Rows.bridgeLearnsSpec.post enc Try.prog Try.f3 false true false false W args v W' := by
  have hW' := hW
  obtain ⟨p, q, hA0, hV, rfl, hfz, hnd⟩ := hW
  have hA : DataW.TrodAll enc Try.prog W 0 (fun _ => true) true Try.f3.params.toList args.toList ds p := hA0
  rw [Try.params3] at hA hval
  obtain ⟨v0, v1, v2, v3, v4, v5, v6, d0, d1, d2, d3, d4, d5, d6, p0, p1, p2, p3, p4, p5, p6, rfl, rfl, rfl, h0, h1, h2, h3, h4, h5, h6⟩ := trodAll_seven hA
  obtain ⟨rfl, rfl⟩ := trodVars_none hV
  obtain ⟨n0, rfl, _, _, w0⟩ := open_int intu (hval 0 3 v0 rfl rfl) h0
  obtain ⟨n1, rfl, _, _, w1⟩ := open_int u64u (hval 1 22 v1 rfl rfl) h1
  obtain ⟨la, n, c, rfl, hl⟩ := open_steps16 (hval 2 23 v2 rfl rfl) h2
  obtain ⟨n3, rfl, _, _, w3⟩ := open_int intu (hval 3 3 v3 rfl rfl) h3
  obtain ⟨n4, rfl, _, _, w4⟩ := open_int intu (hval 4 3 v4 rfl rfl) h4
  obtain ⟨m5, hm5, rfl⟩ := open_mac (hval 5 25 v5 rfl rfl) h5
  obtain ⟨m6, hm6, rfl⟩ := open_mac (hval 6 25 v6 rfl rfl) h6
  clear hA0
  simp only [List.append_nil] at hW'
  have hlt : ∀ x ∈ p0 ++ p1 ++ p2 ++ p3 ++ p4 ++ p5 ++ p6, x.block < W.heap.size := fun x hx => by simpa using hW'.lt x hx
  refine (V.learns_any W n0 n1 la n c hl n3 (i64_wf w3) n4 (i64_wf w4) m5 hm5 m6 hm6).mono fun e W' ⟨he, hb⟩ => ?_
  subst he
  have a0 := Below.trod laidOut' (by kernel_rfl) (of_decide_eq_true (by kernel_rfl)) h0 hb (fun x hx => hlt x (by simp [hx]))
  have a1 := Below.trod laidOut' (by kernel_rfl) (of_decide_eq_true (by kernel_rfl)) h1 hb (fun x hx => hlt x (by simp [hx]))
  have a2 := Below.trod laidOut' (by kernel_rfl) (of_decide_eq_true (by kernel_rfl)) h2 hb (fun x hx => hlt x (by simp [hx]))
  have a3 := Below.trod laidOut' (by kernel_rfl) (of_decide_eq_true (by kernel_rfl)) h3 hb (fun x hx => hlt x (by simp [hx]))
  have a4 := Below.trod laidOut' (by kernel_rfl) (of_decide_eq_true (by kernel_rfl)) h4 hb (fun x hx => hlt x (by simp [hx]))
  have a5 := Below.trod laidOut' (by kernel_rfl) (of_decide_eq_true (by kernel_rfl)) h5 hb (fun x hx => hlt x (by simp [hx]))
  have a6 := Below.trod laidOut' (by kernel_rfl) (of_decide_eq_true (by kernel_rfl)) h6 hb (fun x hx => hlt x (by simp [hx]))
  exact ⟨_, rfl, _, _, _, [], _, [], hW', trodAll_mk1 (shut_bool boolu _), (trodAll_cons_mk a0 (trodAll_cons_mk a1 (trodAll_cons_mk a2 (trodAll_cons_mk a3 (trodAll_cons_mk a4 (trodAll_cons_mk a5 (trodAll_cons_mk a6 trodAll_mk0))))))), rfl, hb.frame _, fun h => by cases h⟩

abbrev wargs : Array Value := #[.int .i64 0, .int .u64 0, .slice none 0 0, .int .i64 0, .int .i64 0, .agg #[.int .u8 0, .int .u8 0, .int .u8 0, .int .u8 0, .int .u8 0, .int .u8 0], .agg #[.int .u8 0, .int .u8 0, .int .u8 0, .int .u8 0, .int .u8 0, .int .u8 0]]
theorem laid_met (os : Os) : laidMet Try.prog Rows.bridgeLearnsRow.laid ((emptyWorld os).forCall (fun _ _ => 0) ⟨#[], wargs, []⟩).memory := laidMet_of_run' 8 (by kernel_rfl) (by kernel_rfl)
theorem reads (os : Os) {H : Type} (enc : TypeId × Value → H) : ∃ places, DataW.whole enc Try.prog ((emptyWorld os).forCall (fun _ _ => 0) ⟨#[], wargs, []⟩).memory Try.f3.params.toList Rows.bridgeLearnsSpec.vars false wargs.toList 8 =
    some ([.lit (.int .i64 0), .lit (.int .u64 0), .nil, .lit (.int .i64 0), .lit (.int .i64 0), .agg [.lit (.int .u8 0), .lit (.int .u8 0), .lit (.int .u8 0), .lit (.int .u8 0), .lit (.int .u8 0), .lit (.int .u8 0)], .agg [.lit (.int .u8 0), .lit (.int .u8 0), .lit (.int .u8 0), .lit (.int .u8 0), .lit (.int .u8 0), .lit (.int .u8 0)]], [], places) :=
  ⟨[], by kernel_rfl⟩

set_option maxRecDepth 100000 in
theorem lifted (os : Os) (started : os.Started) (H : Type) (enc : TypeId × Value → H) (F : Stop.Interp) :
    ReturnsInHanded {} Try.checked os 3 .any ((OpenSpec.ofChange Rows.bridgeLearnsSpec).preRow enc Try.prog Try.f3 Rows.bridgeLearnsRow.domain false Rows.bridgeLearnsRow.laid) (((OpenSpec.ofChange Rows.bridgeLearnsSpec).at F).post enc Try.prog Try.f3 false true false false) := by
  obtain ⟨places, hx⟩ := reads os enc
  refine returnsInHanded_of_row (C := Try.checked) (s := OpenSpec.ofChange Rows.bridgeLearnsSpec) own started (by kernel_rfl) Try.func3
    (witness_row_at (enc := enc) (C := Try.checked) false (emptyWorld os) wargs rfl (by kernel_rfl) (by kernel_rfl) (by kernel_rfl)
      (OpenSpec.preRow_of_cond 8 hx (by kernel_rfl) (fun k hk => by cases hk) (by kernel_rfl) (laid_met os))) ?_
  intro W base args ds gs before hval hW _ _ _ _ _ _
  exact contract H enc W base args ds gs before hval hW
end rBridgeLearns

set_option maxRecDepth 100000 in
theorem bridgeLearns_holds : Rows.BridgeLearnsSaid :=
  OpenClaim.holds_of_cond 3 Try.f3 rfl rfl rfl rfl rfl rfl rfl ⟨rfl, rfl, rfl, rfl, rfl⟩ rfl rfl rfl rfl rfl (by kernel_rfl) Try.func3 (by kernel_rfl)
    (of_decide_eq_true (by kernel_rfl)) (by unfold Func.isWrapper; first | (rw [if_pos (by decide +kernel)]; kernel_rfl) | (rw [if_neg (by decide +kernel)]; exact ⟨rfl, rfl⟩))
    (fun os started H enc _ F => by rw [OpenClaim.pre_eq_preRow]; exact rBridgeLearns.lifted os started H enc F)
end Go.Proofs.Ytmddhglhfgomiaa
