/- The arguments, opened: a MAC, a row of places. Conditions: none. -/
import Derived.Test.YtmddhglhfgomiaaDoorFdbA
import Derived.OpenShut
import Derived.WideKeyArr2
import Derived.Deep.Slices
namespace Go.Proofs.YtmddhglhfgomiaaDoor
open Go Go.RowKit Go.ChangeShapes Go.WideShapes

set_option maxRecDepth 100000 in
theorem placeF : ∃ fs : Array Field, Tryd.prog.underlying 34 = some (.struct fs) ∧ (fs.toList.map fun f => (f.type, f.offset)) = [(4, 0), (3, 1)] := by
  have h : (match Tryd.prog.underlying 34 with | some (.struct fs) => decide ((fs.toList.map fun f => (f.type, f.offset)) = [(4, 0), (3, 1)]) | _ => false) = true := by kernel_rfl
  split at h
  · exact ⟨_, by assumption, of_decide_eq_true h⟩
  · cases h

section
variable {H : Type} {enc : TypeId × Value → H} {W : World} {base : Nat} {sp : Nat → Bool} {held : Bool}

theorem u8_wf {n : Int} (h : (Lit.int .u8 n).wf = true) : u8ok n := by
  unfold u8ok
  simp [Lit.wf, IntKind.min, IntKind.max, IntKind.signed, IntKind.bits] at h
  omega

set_option maxRecDepth 100000 in
theorem open_mac {r : Reach} {b0 : Nat} {v : Value} {d : DataW H} {ps : List MemPlace} (hval : Value.okWide Tryd.prog W r b0 24 v) (hd : DataW.Trod enc Tryd.prog W base sp held 24 v d ps) : ∃ m : Mac, m.ok ∧ v = macV m := by
  obtain ⟨xs, rfl, hn⟩ := Go.WideMaps.okWide_arr macArr hval
  obtain ⟨fuel, hf⟩ := hd
  obtain ⟨ys, k, rfl, _, _, hl, h⟩ := DataW.trod_array macArr.hu hf
  have h1 : Tryd.prog.cellsOf 5 = 1 := by kernel_rfl
  have hu : Tryd.prog.underlying 5 = some (.int .u8) := by kernel_rfl
  rw [h1] at h
  obtain ⟨cs⟩ := xs
  have key : ∀ i, i < 6 → ∃ n, (cs.drop i).take 1 = [.int .u8 n] ∧ u8ok n := by
    intro i hi
    have h2 := h i hi
    rw [List.getElem?_eq_getElem (by omega)] at h2
    obtain ⟨n, h3, _, h4⟩ := DataW.trod_int hu h2
    refine ⟨n, ?_, u8_wf h4⟩
    simpa [Value.cells] using h3
  have hn' : cs.length = 6 := by simpa using hn
  match cs, hn', key with
  | [c0, c1, c2, c3, c4, c5], _, key =>
    obtain ⟨n0, e0, w0⟩ := key 0 (by decide)
    obtain ⟨n1, e1, w1⟩ := key 1 (by decide)
    obtain ⟨n2, e2, w2⟩ := key 2 (by decide)
    obtain ⟨n3, e3, w3⟩ := key 3 (by decide)
    obtain ⟨n4, e4, w4⟩ := key 4 (by decide)
    obtain ⟨n5, e5, w5⟩ := key 5 (by decide)
    simp at e0 e1 e2 e3 e4 e5
    subst e0 e1 e2 e3 e4 e5
    exact ⟨⟨n0, n1, n2, n3, n4, n5⟩, ⟨w0, w1, w2, w3, w4, w5⟩, rfl⟩

set_option maxRecDepth 100000 in
theorem open_places {v : Value} {d : DataW H} {ps : List MemPlace} {r : Reach} {b0 : Nat} (hval : Value.okWide Tryd.prog W r b0 25 v) (hd : DataW.Trod enc Tryd.prog W base sp held 25 v d ps) :
    ∃ la n c, v = .slice la n c ∧ ∀ j, j < n → ∃ g o, la = some ⟨g, o, none⟩ ∧ g < W.heap.size ∧ ∃ t x, W.cell? ⟨g, o + j * 2, none⟩ = some (.bool t) ∧ W.cell? ⟨g, o + j * 2 + 1, none⟩ = some (.int .i64 x) := by
  have hu : Tryd.prog.underlying 25 = some (.slice 34) := by kernel_rfl
  have hc : Tryd.prog.cellsOf 34 = 2 := by kernel_rfl
  obtain ⟨la, n, c, rfl⟩ := okWide_slice hu hval
  refine ⟨la, n, c, rfl, fun j hj => ?_⟩
  obtain ⟨fuel, hf⟩ := hd
  rcases Go.Deep.open_slice hu hf with ⟨h1, _⟩ | ⟨a, len, cap, m, k, D, Pl, h1, _, hl, _, hm, _, hx⟩
  · simp [Value.cells] at h1
    omega
  · simp [Value.cells] at h1
    obtain ⟨rfl, rfl, rfl⟩ := h1
    have hnm : n ≤ m := by rw [hm]; split <;> omega
    have get : ∀ j, j < n → ∃ t x, W.cell? (a.add (j * 2)) = some (.bool t) ∧ W.cell? (a.add (j * 2 + 1)) = some (.int .i64 x) := by
      intro j hj
      obtain ⟨cs', h2, h3⟩ := hx j (by omega)
      rw [hc] at h2
      obtain ⟨_, h4, h5⟩ := World.cells?_some h2
      obtain ⟨fs, hf1, hf2⟩ := placeF
      obtain ⟨xs, k', _, _, hcl, hxl, hh⟩ := DataW.trod_struct hf1 h3
      obtain ⟨fs⟩ := fs
      match fs, hf2, hxl, hh with
      | [f0, f1], hf2, hxl, hh =>
        simp only [List.map_cons, List.map_nil, List.cons.injEq, Prod.mk.injEq, and_true] at hf2
        obtain ⟨⟨t0, o0⟩, t1, o1⟩ := hf2
        have h6 := hh 0 f0 rfl
        have h7 := hh 1 f1 rfl
        rw [t0, o0, show Tryd.prog.cellsOf 4 = 1 by kernel_rfl] at h6
        rw [t1, o1, show Tryd.prog.cellsOf 3 = 1 by kernel_rfl] at h7
        have hxl' : xs.length = 2 := by simpa using hxl
        rw [List.getElem?_eq_getElem (by omega)] at h6 h7
        obtain ⟨b, e6, _⟩ := DataW.trod_bool (by kernel_rfl) h6
        obtain ⟨x, e7, _⟩ := DataW.trod_int (k := .i64) (by kernel_rfl) h7
        match cs', h4, e6, e7 with
        | [u0, u1], _, e6, e7 =>
          simp at e6 e7
          subst e6 e7
          refine ⟨b, x, h5 0 (by decide), ?_⟩
          have := h5 1 (by decide)
          rw [Go.Deep.add_add] at this
          exact this
    obtain ⟨g, o, s⟩ := a
    have hs : s = none := by
      obtain ⟨t, x, h6, _⟩ := get 0 (by omega)
      simpa [Addr.add] using World.cell?_spot h6
    subst hs
    obtain ⟨t, x, h6, h7⟩ := get j hj
    have e : (⟨g, o, none⟩ : Addr).add (j * 2) = ⟨g, o + j * 2, none⟩ := by
      unfold Addr.add
      split
      · rename_i h
        rw [h]
        rfl
      · rfl
    have e2 : (⟨g, o, none⟩ : Addr).add (j * 2 + 1) = ⟨g, o + j * 2 + 1, none⟩ := by
      unfold Addr.add
      rw [if_neg (by omega)]
      rfl
    rw [e] at h6
    rw [e2] at h7
    exact ⟨g, o, rfl, World.block_lt_of_cell? W _ h6, t, x, h6, h7⟩
end
end Go.Proofs.YtmddhglhfgomiaaDoor
