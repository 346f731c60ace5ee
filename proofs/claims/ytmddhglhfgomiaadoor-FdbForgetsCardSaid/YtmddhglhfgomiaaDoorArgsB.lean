/- The arguments, opened: a place, a row of steps of law 15. Conditions: none. -/
import Derived.Test.YtmddhglhfgomiaaDoorArgs
import Derived.Test.YtmddhglhfgomiaaDoorDoes
namespace Go.Proofs.YtmddhglhfgomiaaDoor
open Go Go.RowKit Go.ChangeShapes Go.WideShapes

/-- The rows of steps that came in. -/
def StepsAt (w : World) (la : Option Addr) (n : Nat) : Prop :=
  ∀ j, j < n → ∃ g o, la = some ⟨g, o, none⟩ ∧ g < w.heap.size ∧ ∃ s : V.Stp, s.ok ∧ ∀ i u, (V.stpCells s)[i]? = some u → w.cell? ⟨g, o + j * 10 + i, none⟩ = some u

set_option maxRecDepth 100000 in
theorem stepF : ∃ fs : Array Field, Tryd.prog.underlying 60 = some (.struct fs) ∧ (fs.toList.map fun f => (f.type, f.offset)) = [(3, 0), (24, 1), (34, 7), (5, 9)] := by
  have h : (match Tryd.prog.underlying 60 with | some (.struct fs) => decide ((fs.toList.map fun f => (f.type, f.offset)) = [(3, 0), (24, 1), (34, 7), (5, 9)]) | _ => false) = true := by kernel_rfl
  split at h
  · exact ⟨_, by assumption, of_decide_eq_true h⟩
  · cases h

section
variable {H : Type} {enc : TypeId × Value → H} {W : World} {base : Nat} {sp : Nat → Bool} {held : Bool}

set_option maxRecDepth 100000 in
/-- Cells that are trodden as a MAC. -/
theorem trod_mac {fuel : Nat} {cs : List Value} {x : DataW H × List MemPlace} (h : DataW.trod enc Tryd.prog W base sp held fuel 24 cs = some x) : ∃ m : Mac, m.ok ∧ cs = macCells m := by
  obtain ⟨ys, k, rfl, _, hcl, _, h⟩ := DataW.trod_array macArr.hu h
  have h1 : Tryd.prog.cellsOf 5 = 1 := by kernel_rfl
  have hu : Tryd.prog.underlying 5 = some (.int .u8) := by kernel_rfl
  rw [show Tryd.prog.cellsOf 24 = 6 by kernel_rfl] at hcl
  rw [h1] at h
  have key : ∀ i, i < 6 → ∃ n, (cs.drop i).take 1 = [.int .u8 n] ∧ u8ok n := by
    intro i hi
    have h2 := h i hi
    rw [Nat.mul_one, List.getElem?_eq_getElem (by omega)] at h2
    obtain ⟨n, h3, _, h4⟩ := DataW.trod_int hu h2
    exact ⟨n, h3, u8_wf h4⟩
  match cs, hcl, key with
  | [c0, c1, c2, c3, c4, c5], _, key =>
    obtain ⟨n0, e0, w0⟩ := key 0 (by decide)
    obtain ⟨n1, e1, w1⟩ := key 1 (by decide)
    obtain ⟨n2, e2, w2⟩ := key 2 (by decide)
    obtain ⟨n3, e3, w3⟩ := key 3 (by decide)
    obtain ⟨n4, e4, w4⟩ := key 4 (by decide)
    obtain ⟨n5, e5, w5⟩ := key 5 (by decide)
    simp at e0 e1 e2 e3 e4 e5
    subst e0 e1 e2 e3 e4 e5
    exact ⟨⟨n0, n1, n2, n3, n4, n5⟩, ⟨w0, w1, w2, w3, w4, w5⟩, rfl⟩

theorem i64_wf' {n : Int} (h : (Lit.int .i64 n).wf = true) : i64ok n := by
  unfold i64ok
  simp [Lit.wf, IntKind.min, IntKind.max, IntKind.signed, IntKind.bits] at h
  omega

set_option maxRecDepth 100000 in
theorem trod_place {fuel : Nat} {cs : List Value} {x : DataW H × List MemPlace} (h : DataW.trod enc Tryd.prog W base sp held fuel 34 cs = some x) : ∃ p : Place, i64ok p.n ∧ cs = [.bool p.tunnel, .int .i64 p.n] := by
  obtain ⟨fs, hf1, hf2⟩ := placeF
  obtain ⟨xs, k', _, _, hcl, hxl, hh⟩ := DataW.trod_struct hf1 h
  rw [show Tryd.prog.cellsOf 34 = 2 by kernel_rfl] at hcl
  obtain ⟨fs⟩ := fs
  match fs, hf2, hxl, hh with
  | [f0, f1], hf2, hxl, hh =>
    simp only [List.map_cons, List.map_nil, List.cons.injEq, Prod.mk.injEq, and_true] at hf2
    obtain ⟨⟨t0, o0⟩, t1, o1⟩ := hf2
    have h6 := hh 0 f0 rfl
    have h7 := hh 1 f1 rfl
    rw [t0, o0, show Tryd.prog.cellsOf 4 = 1 by kernel_rfl] at h6
    rw [t1, o1, show Tryd.prog.cellsOf 3 = 1 by kernel_rfl] at h7
    have hxl' : xs.length = 2 := by simpa using hxl
    rw [List.getElem?_eq_getElem (by omega)] at h6 h7
    obtain ⟨b, e6, _⟩ := DataW.trod_bool (by kernel_rfl) h6
    obtain ⟨x, e7, _, w7⟩ := DataW.trod_int (k := .i64) (by kernel_rfl) h7
    match cs, hcl, e6, e7 with
    | [u0, u1], _, e6, e7 =>
      simp at e6 e7
      subst e6 e7
      exact ⟨⟨b, x⟩, i64_wf' w7, rfl⟩

set_option maxRecDepth 100000 in
theorem open_place {r : Reach} {b0 : Nat} {v : Value} {d : DataW H} {ps : List MemPlace} (hval : Value.okWide Tryd.prog W r b0 34 v) (hd : DataW.Trod enc Tryd.prog W base sp held 34 v d ps) : ∃ p : Place, i64ok p.n ∧ v = placeV p := by
  obtain ⟨fs, hf1, _⟩ := placeF
  obtain ⟨cs, rfl⟩ : ∃ cs : List Value, v = .agg cs.toArray := by
    obtain ⟨cs, rfl, _⟩ := okWide_struct hf1 hval
    exact ⟨cs.toList, by simp⟩
  obtain ⟨fuel, hf⟩ := hd
  obtain ⟨p, hp, hc⟩ := trod_place hf
  refine ⟨p, hp, ?_⟩
  simp only [Value.cells] at hc
  rw [hc]

set_option maxRecDepth 100000 in
theorem trod_step {fuel : Nat} {cs : List Value} {x : DataW H × List MemPlace} (h : DataW.trod enc Tryd.prog W base sp held fuel 60 cs = some x) : ∃ s : V.Stp, s.ok ∧ cs = V.stpCells s := by
  obtain ⟨fs, hf1, hf2⟩ := stepF
  obtain ⟨xs, k', _, _, hcl, hxl, hh⟩ := DataW.trod_struct hf1 h
  rw [show Tryd.prog.cellsOf 60 = 10 by kernel_rfl] at hcl
  obtain ⟨fs⟩ := fs
  match fs, hf2, hxl, hh with
  | [f0, f1, f2, f3], hf2, hxl, hh =>
    simp only [List.map_cons, List.map_nil, List.cons.injEq, Prod.mk.injEq, and_true] at hf2
    obtain ⟨⟨t0, o0⟩, ⟨t1, o1⟩, ⟨t2, o2⟩, t3, o3⟩ := hf2
    have h0 := hh 0 f0 rfl
    have h1 := hh 1 f1 rfl
    have h2 := hh 2 f2 rfl
    have h3 := hh 3 f3 rfl
    rw [t0, o0, show Tryd.prog.cellsOf 3 = 1 by kernel_rfl] at h0
    rw [t1, o1, show Tryd.prog.cellsOf 24 = 6 by kernel_rfl] at h1
    rw [t2, o2, show Tryd.prog.cellsOf 34 = 2 by kernel_rfl] at h2
    rw [t3, o3, show Tryd.prog.cellsOf 5 = 1 by kernel_rfl] at h3
    have hxl' : xs.length = 4 := by simpa using hxl
    rw [List.getElem?_eq_getElem (by omega)] at h0 h1 h2 h3
    obtain ⟨k, e0, _, w0⟩ := DataW.trod_int (k := .i64) (by kernel_rfl) h0
    obtain ⟨m, hm, e1⟩ := trod_mac h1
    obtain ⟨p, hp, e2⟩ := trod_place h2
    obtain ⟨y, e3, _, w3⟩ := DataW.trod_int (k := .u8) (by kernel_rfl) h3
    match cs, hcl, e0, e1, e2, e3 with
    | [u0, u1, u2, u3, u4, u5, u6, u7, u8, u9], _, e0, e1, e2, e3 =>
      simp at e0 e1 e2 e3
      obtain ⟨a1, a2, a3, a4, a5, a6⟩ := e1
      obtain ⟨b1, b2⟩ := e2
      subst e0 a1 a2 a3 a4 a5 a6 b1 b2 e3
      exact ⟨⟨k, m, p, y⟩, ⟨i64_wf' w0, hm, u8_wf w3⟩, rfl⟩

set_option maxRecDepth 100000 in
theorem open_steps15 {v : Value} {d : DataW H} {ps : List MemPlace} {r : Reach} {b0 : Nat} (hval : Value.okWide Tryd.prog W r b0 56 v) (hd : DataW.Trod enc Tryd.prog W base sp held 56 v d ps) :
    ∃ la n c, v = .slice la n c ∧ StepsAt W la n := by
  have hu : Tryd.prog.underlying 56 = some (.slice 60) := by kernel_rfl
  have hc : Tryd.prog.cellsOf 60 = 10 := by kernel_rfl
  obtain ⟨la, n, c, rfl⟩ := okWide_slice hu hval
  refine ⟨la, n, c, rfl, fun j hj => ?_⟩
  obtain ⟨fuel, hf⟩ := hd
  rcases Go.Deep.open_slice hu hf with ⟨h1, _⟩ | ⟨a, len, cap, m, k, D, Pl, h1, _, hl, _, hm, _, hx⟩
  · simp [Value.cells] at h1
    omega
  · simp [Value.cells] at h1
    obtain ⟨rfl, rfl, rfl⟩ := h1
    have hnm : n ≤ m := by rw [hm]; split <;> omega
    have get : ∀ j, j < n → ∃ s : V.Stp, s.ok ∧ ∀ i u, (V.stpCells s)[i]? = some u → W.cell? (a.add (j * 10 + i)) = some u := by
      intro j hj
      obtain ⟨cs', h2, h3⟩ := hx j (by omega)
      rw [hc] at h2
      obtain ⟨_, h4, h5⟩ := World.cells?_some h2
      obtain ⟨s, hs, rfl⟩ := trod_step h3
      refine ⟨s, hs, fun i u hi => ?_⟩
      have hi10 : i < 10 := by
        have := (List.getElem?_eq_some_iff.1 hi).1
        simpa using this
      have := h5 i hi10
      rw [Go.Deep.add_add] at this
      rw [this]
      exact hi
    obtain ⟨g, o, st⟩ := a
    obtain ⟨s, hs, hcell⟩ := get j hj
    have hst : st = none := by
      obtain ⟨_, _, hc0⟩ := get 0 (by omega)
      have h6 := hc0 0 _ rfl
      simpa [Addr.add] using World.cell?_spot h6
    subst hst
    have e : ∀ k, (⟨g, o, none⟩ : Addr).add k = ⟨g, o + k, none⟩ := fun k => by
      unfold Addr.add
      split
      · rename_i h
        rw [h]
        rfl
      · rfl
    have hgl : g < W.heap.size := by
      have h9 := hcell 0 _ rfl
      rw [e] at h9
      exact World.block_lt_of_cell? W _ h9
    refine ⟨g, o, rfl, hgl, s, hs, fun i u hi => ?_⟩
    have := hcell i u hi
    rw [e] at this
    rw [Nat.add_assoc]
    exact this
end
end Go.Proofs.YtmddhglhfgomiaaDoor
