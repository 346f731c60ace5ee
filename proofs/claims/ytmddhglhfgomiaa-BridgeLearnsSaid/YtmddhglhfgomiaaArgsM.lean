/- The arguments, opened: a MAC (of a seat with no places). Conditions: none. -/
import Derived.Test.YtmddhglhfgomiaaFdbA
import Derived.OpenShut
import Derived.WideKeyArr2
import Derived.Deep.Slices
namespace Go.Proofs.Ytmddhglhfgomiaa
open Go Go.RowKit Go.ChangeShapes Go.WideShapes

section
variable {H : Type} {enc : TypeId × Value → H} {W : World} {base : Nat} {sp : Nat → Bool} {held : Bool}

theorem u8_wf {n : Int} (h : (Lit.int .u8 n).wf = true) : u8ok n := by
  unfold u8ok
  simp [Lit.wf, IntKind.min, IntKind.max, IntKind.signed, IntKind.bits] at h
  omega

set_option maxRecDepth 100000 in
theorem open_mac {r : Reach} {b0 : Nat} {v : Value} {d : DataW H} {ps : List MemPlace} (hval : Value.okWide Try.prog W r b0 25 v) (hd : DataW.Trod enc Try.prog W base sp held 25 v d ps) : ∃ m : Mac, m.ok ∧ v = macV m := by
  obtain ⟨xs, rfl, hn⟩ := Go.WideMaps.okWide_arr macArr hval
  obtain ⟨fuel, hf⟩ := hd
  obtain ⟨ys, k, rfl, _, _, hl, h⟩ := DataW.trod_array macArr.hu hf
  have h1 : Try.prog.cellsOf 5 = 1 := by kernel_rfl
  have hu : Try.prog.underlying 5 = some (.int .u8) := by kernel_rfl
  rw [h1] at h
  obtain ⟨cs⟩ := xs
  have key : ∀ i, i < 6 → ∃ n, (cs.drop i).take 1 = [.int .u8 n] ∧ u8ok n := by
    intro i hi
    have h2 := h i hi
    rw [List.getElem?_eq_getElem (by omega)] at h2
    obtain ⟨n, h3, _, h4⟩ := DataW.trod_int hu h2
    refine ⟨n, ?_, u8_wf h4⟩
    simpa [Value.cells] using h3
  have hn' : cs.length = 6 := by simpa using hn
  match cs, hn', key with
  | [c0, c1, c2, c3, c4, c5], _, key =>
    obtain ⟨n0, e0, w0⟩ := key 0 (by decide)
    obtain ⟨n1, e1, w1⟩ := key 1 (by decide)
    obtain ⟨n2, e2, w2⟩ := key 2 (by decide)
    obtain ⟨n3, e3, w3⟩ := key 3 (by decide)
    obtain ⟨n4, e4, w4⟩ := key 4 (by decide)
    obtain ⟨n5, e5, w5⟩ := key 5 (by decide)
    simp at e0 e1 e2 e3 e4 e5
    subst e0 e1 e2 e3 e4 e5
    exact ⟨⟨n0, n1, n2, n3, n4, n5⟩, ⟨w0, w1, w2, w3, w4, w5⟩, rfl⟩

end
end Go.Proofs.Ytmddhglhfgomiaa
