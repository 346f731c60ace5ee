/- The arguments, opened: a row of steps of law 16. Conditions: none. -/
import Derived.Test.YtmddhglhfgomiaaArgsM
import Derived.Test.YtmddhglhfgomiaaDoesB
namespace Go.Proofs.Ytmddhglhfgomiaa
open Go Go.RowKit Go.ChangeShapes Go.WideShapes

/-- The rows of steps that came in. -/
def StepsB (w : World) (la : Option Addr) (n : Nat) : Prop :=
  ∀ j, j < n → ∃ g o, la = some ⟨g, o, none⟩ ∧ g < w.heap.size ∧ ∃ x : V.St16, x.ok w ∧ ∀ i u, (V.st16Cells x)[i]? = some u → w.cell? ⟨g, o + j * 5 + i, none⟩ = some u

theorem StepsB.frm {w w' : World} {la : Option Addr} {n : Nat} (h : StepsB w la n) {F : Nat → Prop} (f : Frm F w w') (hF : ∀ k, k < w.heap.size → ¬ F k) : StepsB w' la n := by
  intro j hj
  obtain ⟨g, o, e, hg, x, hx, hc⟩ := h j hj
  refine ⟨g, o, e, Nat.lt_of_lt_of_le hg f.size, x, ⟨hx.kind, hx.n, hx.s, hx.by_, hx.fr.frm f hF⟩, fun i u hi => ?_⟩
  have := hc i u hi
  have e := f.keep g hg (hF g hg)
  have key : ∀ o, w'.cell? ⟨g, o, none⟩ = w.cell? ⟨g, o, none⟩ := fun o => by unfold World.cell?; rw [e]
  rw [key]
  exact this

theorem add_o (g o k : Nat) : (⟨g, o, none⟩ : Addr).add k = ⟨g, o + k, none⟩ := by
  unfold Addr.add
  split
  · rename_i h
    rw [h]
    rfl
  · rfl

set_option maxRecDepth 100000 in
theorem step16F : ∃ fs : Array Field, Try.prog.underlying 31 = some (.struct fs) ∧ (fs.toList.map fun f => (f.type, f.offset)) = [(3, 0), (3, 1), (3, 2), (29, 3), (5, 4)] := by
  have h : (match Try.prog.underlying 31 with | some (.struct fs) => decide ((fs.toList.map fun f => (f.type, f.offset)) = [(3, 0), (3, 1), (3, 2), (29, 3), (5, 4)]) | _ => false) = true := by kernel_rfl
  split at h
  · exact ⟨_, by assumption, of_decide_eq_true h⟩
  · cases h

section
variable {H : Type} {enc : TypeId × Value → H} {W : World} {base : Nat} {sp : Nat → Bool} {held : Bool}

theorem i64_wfB {n : Int} (h : (Lit.int .i64 n).wf = true) : i64ok n := by
  unfold i64ok
  simp [Lit.wf, IntKind.min, IntKind.max, IntKind.signed, IntKind.bits] at h
  omega

set_option maxRecDepth 100000 in
/-- Bytes, as a frame. -/
theorem trod_fr {fuel : Nat} {cs : List Value} {x : DataW H × List MemPlace} (h : DataW.trod enc Try.prog W base sp held fuel 29 cs = some x) : ∃ a ln c mt mo, cs = [.slice a ln c] ∧ FrAt W a ln c mt mo := by
  have hu : Try.prog.underlying 29 = some (.slice 5) := by kernel_rfl
  have hc : Try.prog.cellsOf 5 = 1 := by kernel_rfl
  have hb : Try.prog.underlying 5 = some (.int .u8) := by kernel_rfl
  have z : Mac.ok ⟨0, 0, 0, 0, 0, 0⟩ := by constructor <;> exact ⟨by decide, by decide⟩
  rcases Go.Deep.open_slice1 hu hc h with ⟨rfl, _⟩ | ⟨a, len, cap, m, k, V, D, Pl, rfl, _, hl, _, hm, _, hx⟩
  · exact ⟨none, 0, 0, ⟨0, 0, 0, 0, 0, 0⟩, ⟨0, 0, 0, 0, 0, 0⟩, rfl, Nat.le_refl _, fun h => by omega, z, z⟩
  · have hnm : len ≤ m := by rw [hm]; split <;> omega
    have get : ∀ i, i < len → ∃ n, W.cell? (a.add i) = some (.int .u8 n) ∧ u8ok n := by
      intro i hi
      obtain ⟨h1, h2⟩ := hx i (by omega)
      obtain ⟨n, h3, _, h4⟩ := DataW.trod_int hb h2
      simp at h3
      exact ⟨n, by rw [h1, h3], u8_wf h4⟩
    by_cases h14 : 14 ≤ len
    · obtain ⟨g, o, st⟩ := a
      have hst : st = none := by
        obtain ⟨_, h6, _⟩ := get 0 (by omega)
        simpa [Addr.add] using World.cell?_spot h6
      subst hst
      simp only [add_o] at get
      obtain ⟨n0, c0, k0⟩ := get 0 (by omega)
      obtain ⟨n1, c1, k1⟩ := get 1 (by omega)
      obtain ⟨n2, c2, k2⟩ := get 2 (by omega)
      obtain ⟨n3, c3, k3⟩ := get 3 (by omega)
      obtain ⟨n4, c4, k4⟩ := get 4 (by omega)
      obtain ⟨n5, c5, k5⟩ := get 5 (by omega)
      obtain ⟨n6, c6, k6⟩ := get 6 (by omega)
      obtain ⟨n7, c7, k7⟩ := get 7 (by omega)
      obtain ⟨n8, c8, k8⟩ := get 8 (by omega)
      obtain ⟨n9, c9, k9⟩ := get 9 (by omega)
      obtain ⟨n10, c10, k10⟩ := get 10 (by omega)
      obtain ⟨n11, c11, k11⟩ := get 11 (by omega)
      exact ⟨_, len, cap, ⟨n0, n1, n2, n3, n4, n5⟩, ⟨n6, n7, n8, n9, n10, n11⟩, rfl, hl, fun _ => ⟨g, o, rfl, World.block_lt_of_cell? W _ c0, ⟨c0, c1, c2, c3, c4, c5⟩, ⟨c6, c7, c8, c9, c10, c11⟩⟩, ⟨k0, k1, k2, k3, k4, k5⟩, ⟨k6, k7, k8, k9, k10, k11⟩⟩
    · exact ⟨_, len, cap, ⟨0, 0, 0, 0, 0, 0⟩, ⟨0, 0, 0, 0, 0, 0⟩, rfl, hl, fun h => absurd h h14, z, z⟩

set_option maxRecDepth 100000 in
theorem trod_step16 {fuel : Nat} {cs : List Value} {x : DataW H × List MemPlace} (h : DataW.trod enc Try.prog W base sp held fuel 31 cs = some x) : ∃ s : V.St16, s.ok W ∧ cs = V.st16Cells s := by
  obtain ⟨fs, hf1, hf2⟩ := step16F
  obtain ⟨xs, k', _, _, hcl, hxl, hh⟩ := DataW.trod_struct hf1 h
  rw [show Try.prog.cellsOf 31 = 5 by kernel_rfl] at hcl
  obtain ⟨fs⟩ := fs
  match fs, hf2, hxl, hh with
  | [f0, f1, f2, f3, f4], hf2, hxl, hh =>
    simp only [List.map_cons, List.map_nil, List.cons.injEq, Prod.mk.injEq, and_true] at hf2
    obtain ⟨⟨t0, o0⟩, ⟨t1, o1⟩, ⟨t2, o2⟩, ⟨t3, o3⟩, t4, o4⟩ := hf2
    have h0 := hh 0 f0 rfl
    have h1 := hh 1 f1 rfl
    have h2 := hh 2 f2 rfl
    have h3 := hh 3 f3 rfl
    have h4 := hh 4 f4 rfl
    rw [t0, o0, show Try.prog.cellsOf 3 = 1 by kernel_rfl] at h0
    rw [t1, o1, show Try.prog.cellsOf 3 = 1 by kernel_rfl] at h1
    rw [t2, o2, show Try.prog.cellsOf 3 = 1 by kernel_rfl] at h2
    rw [t3, o3, show Try.prog.cellsOf 29 = 1 by kernel_rfl] at h3
    rw [t4, o4, show Try.prog.cellsOf 5 = 1 by kernel_rfl] at h4
    have hxl' : xs.length = 5 := by simpa using hxl
    rw [List.getElem?_eq_getElem (by omega)] at h0 h1 h2 h3 h4
    obtain ⟨k, e0, _, w0⟩ := DataW.trod_int (k := .i64) (by kernel_rfl) h0
    obtain ⟨n, e1, _, w1⟩ := DataW.trod_int (k := .i64) (by kernel_rfl) h1
    obtain ⟨s, e2, _, w2⟩ := DataW.trod_int (k := .i64) (by kernel_rfl) h2
    obtain ⟨a, ln, c, mt, mo, e3, w3⟩ := trod_fr h3
    obtain ⟨y, e4, _, w4⟩ := DataW.trod_int (k := .u8) (by kernel_rfl) h4
    match cs, hcl, e0, e1, e2, e3, e4 with
    | [u0, u1, u2, u3, u4], _, e0, e1, e2, e3, e4 =>
      simp at e0 e1 e2 e3 e4
      subst e0 e1 e2 e3 e4
      exact ⟨⟨k, n, s, a, ln, c, y, mt, mo⟩, ⟨i64_wfB w0, i64_wfB w1, i64_wfB w2, u8_wf w4, w3⟩, rfl⟩

set_option maxRecDepth 100000 in
theorem open_steps16 {v : Value} {d : DataW H} {ps : List MemPlace} {r : Reach} {b0 : Nat} (hval : Value.okWide Try.prog W r b0 23 v) (hd : DataW.Trod enc Try.prog W base sp held 23 v d ps) :
    ∃ la n c, v = .slice la n c ∧ StepsB W la n := by
  have hu : Try.prog.underlying 23 = some (.slice 31) := by kernel_rfl
  have hc : Try.prog.cellsOf 31 = 5 := by kernel_rfl
  obtain ⟨la, n, c, rfl⟩ := okWide_slice hu hval
  refine ⟨la, n, c, rfl, fun j hj => ?_⟩
  obtain ⟨fuel, hf⟩ := hd
  rcases Go.Deep.open_slice hu hf with ⟨h1, _⟩ | ⟨a, len, cap, m, k, D, Pl, h1, _, hl, _, hm, _, hx⟩
  · simp [Value.cells] at h1
    omega
  · simp [Value.cells] at h1
    obtain ⟨rfl, rfl, rfl⟩ := h1
    have hnm : n ≤ m := by rw [hm]; split <;> omega
    have get : ∀ j, j < n → ∃ s : V.St16, s.ok W ∧ ∀ i u, (V.st16Cells s)[i]? = some u → W.cell? (a.add (j * 5 + i)) = some u := by
      intro j hj
      obtain ⟨cs', h2, h3⟩ := hx j (by omega)
      rw [hc] at h2
      obtain ⟨_, h4, h5⟩ := World.cells?_some h2
      obtain ⟨s, hs, rfl⟩ := trod_step16 h3
      refine ⟨s, hs, fun i u hi => ?_⟩
      have hi10 : i < 5 := by
        have := (List.getElem?_eq_some_iff.1 hi).1
        simpa using this
      have := h5 i hi10
      rw [Go.Deep.add_add] at this
      rw [this]
      exact hi
    obtain ⟨g, o, st⟩ := a
    obtain ⟨s, hs, hcell⟩ := get j hj
    have hst : st = none := by
      obtain ⟨_, _, hc0⟩ := get 0 (by omega)
      have h6 := hc0 0 _ rfl
      simpa [Addr.add] using World.cell?_spot h6
    subst hst
    have hgl : g < W.heap.size := by
      have h9 := hcell 0 _ rfl
      rw [add_o] at h9
      exact World.block_lt_of_cell? W _ h9
    refine ⟨g, o, rfl, hgl, s, hs, fun i u hi => ?_⟩
    have := hcell i u hi
    rw [add_o] at this
    rw [Nat.add_assoc]
    exact this
end
end Go.Proofs.Ytmddhglhfgomiaa
