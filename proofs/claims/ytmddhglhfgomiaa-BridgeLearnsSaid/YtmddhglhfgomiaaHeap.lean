/- Words on memory: a row of cells, a map, what a step leaves alone. Conditions: none. -/
import Derived.WalkKit
import Derived.Maps.OwnSet
import Derived.DeepKeys4
import Derived.Deep.Draws
import Derived.Deep.QuietTactic
import Derived.BigQuiet
import Derived.StillTailTactics
import Derived.BigRegion
import Derived.WalkLawsBesides
import Derived.WalkSpells
namespace Go.Proofs.Ytmddhglhfgomiaa
open Go Go.RowKit Go.Maps

/-! ### Worlds: heap facts -/

@[go_sem] theorem lt_addR {k n c : Nat} (h : k < n) : (k < n + c) = True := by
  simp only [eq_iff_iff, iff_true]
  omega

@[go_sem] theorem le_addR {k n c : Nat} (h : k < n) : (k ≤ n + c) = True := by
  simp only [eq_iff_iff, iff_true]
  omega
@[go_sem] theorem le_R {k n : Nat} (h : k < n) : (k ≤ n) = True := by
  simp only [eq_iff_iff, iff_true]
  omega

theorem cells_of_heap {w w' : World} {b o : Nat} (h : w'.heap[b]? = w.heap[b]?) : w'.cell? ⟨b, o, none⟩ = w.cell? ⟨b, o, none⟩ := by simp only [World.cell?, h]
theorem frozen_of_heap {w w' : World} {b o : Nat} (h : w'.heap[b]? = w.heap[b]?) : w'.frozen? ⟨b, o, none⟩ = w.frozen? ⟨b, o, none⟩ := by simp only [World.frozen?, h]
@[go_sem] theorem cell_alloc3 {w : World} (o1 o2 o3 : Obj) {b o : Nat} (h : b < w.heap.size) : (((w.alloc o1).alloc o2).alloc o3).cell? ⟨b, o, none⟩ = w.cell? ⟨b, o, none⟩ := cells_of_heap (by simp only [World.alloc, Array.getElem?_push, Array.size_push]; repeat rw [if_neg (by omega)])
@[go_sem] theorem frozen_alloc3 {w : World} (o1 o2 o3 : Obj) {b o : Nat} (h : b < w.heap.size) : (((w.alloc o1).alloc o2).alloc o3).frozen? ⟨b, o, none⟩ = w.frozen? ⟨b, o, none⟩ := frozen_of_heap (by simp only [World.alloc, Array.getElem?_push, Array.size_push]; repeat rw [if_neg (by omega)])
@[go_sem] theorem cell_alloc4 {w : World} (o1 o2 o3 o4 : Obj) {b o : Nat} (h : b < w.heap.size) : ((((w.alloc o1).alloc o2).alloc o3).alloc o4).cell? ⟨b, o, none⟩ = w.cell? ⟨b, o, none⟩ := cells_of_heap (by simp only [World.alloc, Array.getElem?_push, Array.size_push]; repeat rw [if_neg (by omega)])
@[go_sem] theorem frozen_alloc4 {w : World} (o1 o2 o3 o4 : Obj) {b o : Nat} (h : b < w.heap.size) : ((((w.alloc o1).alloc o2).alloc o3).alloc o4).frozen? ⟨b, o, none⟩ = w.frozen? ⟨b, o, none⟩ := frozen_of_heap (by simp only [World.alloc, Array.getElem?_push, Array.size_push]; repeat rw [if_neg (by omega)])
@[go_sem] theorem cell_alloc5 {w : World} (o1 o2 o3 o4 o5 : Obj) {b o : Nat} (h : b < w.heap.size) : (((((w.alloc o1).alloc o2).alloc o3).alloc o4).alloc o5).cell? ⟨b, o, none⟩ = w.cell? ⟨b, o, none⟩ := cells_of_heap (by simp only [World.alloc, Array.getElem?_push, Array.size_push]; repeat rw [if_neg (by omega)])
@[go_sem] theorem frozen_alloc5 {w : World} (o1 o2 o3 o4 o5 : Obj) {b o : Nat} (h : b < w.heap.size) : (((((w.alloc o1).alloc o2).alloc o3).alloc o4).alloc o5).frozen? ⟨b, o, none⟩ = w.frozen? ⟨b, o, none⟩ := frozen_of_heap (by simp only [World.alloc, Array.getElem?_push, Array.size_push]; repeat rw [if_neg (by omega)])
@[go_sem] theorem cell_alloc6 {w : World} (o1 o2 o3 o4 o5 o6 : Obj) {b o : Nat} (h : b < w.heap.size) : ((((((w.alloc o1).alloc o2).alloc o3).alloc o4).alloc o5).alloc o6).cell? ⟨b, o, none⟩ = w.cell? ⟨b, o, none⟩ := cells_of_heap (by simp only [World.alloc, Array.getElem?_push, Array.size_push]; repeat rw [if_neg (by omega)])
@[go_sem] theorem frozen_alloc6 {w : World} (o1 o2 o3 o4 o5 o6 : Obj) {b o : Nat} (h : b < w.heap.size) : ((((((w.alloc o1).alloc o2).alloc o3).alloc o4).alloc o5).alloc o6).frozen? ⟨b, o, none⟩ = w.frozen? ⟨b, o, none⟩ := frozen_of_heap (by simp only [World.alloc, Array.getElem?_push, Array.size_push]; repeat rw [if_neg (by omega)])
@[go_sem] theorem cell_alloc7 {w : World} (o1 o2 o3 o4 o5 o6 o7 : Obj) {b o : Nat} (h : b < w.heap.size) : (((((((w.alloc o1).alloc o2).alloc o3).alloc o4).alloc o5).alloc o6).alloc o7).cell? ⟨b, o, none⟩ = w.cell? ⟨b, o, none⟩ := cells_of_heap (by simp only [World.alloc, Array.getElem?_push, Array.size_push]; repeat rw [if_neg (by omega)])
@[go_sem] theorem frozen_alloc7 {w : World} (o1 o2 o3 o4 o5 o6 o7 : Obj) {b o : Nat} (h : b < w.heap.size) : (((((((w.alloc o1).alloc o2).alloc o3).alloc o4).alloc o5).alloc o6).alloc o7).frozen? ⟨b, o, none⟩ = w.frozen? ⟨b, o, none⟩ := frozen_of_heap (by simp only [World.alloc, Array.getElem?_push, Array.size_push]; repeat rw [if_neg (by omega)])
@[go_sem] theorem cell_alloc8 {w : World} (o1 o2 o3 o4 o5 o6 o7 o8 : Obj) {b o : Nat} (h : b < w.heap.size) : ((((((((w.alloc o1).alloc o2).alloc o3).alloc o4).alloc o5).alloc o6).alloc o7).alloc o8).cell? ⟨b, o, none⟩ = w.cell? ⟨b, o, none⟩ := cells_of_heap (by simp only [World.alloc, Array.getElem?_push, Array.size_push]; repeat rw [if_neg (by omega)])
@[go_sem] theorem frozen_alloc8 {w : World} (o1 o2 o3 o4 o5 o6 o7 o8 : Obj) {b o : Nat} (h : b < w.heap.size) : ((((((((w.alloc o1).alloc o2).alloc o3).alloc o4).alloc o5).alloc o6).alloc o7).alloc o8).frozen? ⟨b, o, none⟩ = w.frozen? ⟨b, o, none⟩ := frozen_of_heap (by simp only [World.alloc, Array.getElem?_push, Array.size_push]; repeat rw [if_neg (by omega)])
@[go_sem] theorem cell_alloc9 {w : World} (o1 o2 o3 o4 o5 o6 o7 o8 o9 : Obj) {b o : Nat} (h : b < w.heap.size) : (((((((((w.alloc o1).alloc o2).alloc o3).alloc o4).alloc o5).alloc o6).alloc o7).alloc o8).alloc o9).cell? ⟨b, o, none⟩ = w.cell? ⟨b, o, none⟩ := cells_of_heap (by simp only [World.alloc, Array.getElem?_push, Array.size_push]; repeat rw [if_neg (by omega)])
@[go_sem] theorem frozen_alloc9 {w : World} (o1 o2 o3 o4 o5 o6 o7 o8 o9 : Obj) {b o : Nat} (h : b < w.heap.size) : (((((((((w.alloc o1).alloc o2).alloc o3).alloc o4).alloc o5).alloc o6).alloc o7).alloc o8).alloc o9).frozen? ⟨b, o, none⟩ = w.frozen? ⟨b, o, none⟩ := frozen_of_heap (by simp only [World.alloc, Array.getElem?_push, Array.size_push]; repeat rw [if_neg (by omega)])

theorem heap_alloc_lt {w : World} {o : Obj} {k : Nat} (h : k < w.heap.size) : (w.alloc o).heap[k]? = w.heap[k]? := Below.heap_alloc w o k h
theorem heap_alloc_new (w : World) (o : Obj) : (w.alloc o).heap[w.heap.size]? = some o := by
  show (w.heap.push o)[w.heap.size]? = _
  simp
theorem heap_drew (w : World) (k : Nat) : w.drew.heap[k]? = w.heap[k]? := rfl
theorem heap_drewN (w : World) (n k : Nat) : (w.drewN n).heap[k]? = w.heap[k]? := rfl
theorem heap_setCell_ne {w : World} {b o : Nat} {v : Value} {k : Nat} (h : k ≠ b) : (w.setCell ⟨b, o, none⟩ v).heap[k]? = w.heap[k]? := Below.heap_setCell w ⟨b, o, none⟩ v k h
theorem size_setCell (w : World) (a : Addr) (v : Value) : (w.setCell a v).heap.size = w.heap.size := by simp [World.setCell]

/-- Block b is the row cs of T. -/
def Row (w : World) (b : Nat) (T : TypeId) (cs : List Value) : Prop := w.heap[b]? = some (.cells cs.toArray T (0, 0))

theorem heap_lt {w : World} {b : Nat} {o : Obj} (h : w.heap[b]? = some o) : b < w.heap.size := by
  rcases Nat.lt_or_ge b w.heap.size with h' | h'
  · exact h'
  · simp [Array.getElem?_eq_none h'] at h

section
variable {w w' : World} {b T : Nat} {cs : List Value}
theorem Row.lt (h : Row w b T cs) : b < w.heap.size := heap_lt h
theorem Row.cell (h : Row w b T cs) (o : Nat) : w.cell? ⟨b, o, none⟩ = cs[o]? := by
  unfold Row at h
  simp [World.cell?, h]
theorem Row.free (h : Row w b T cs) (o : Nat) : w.frozen? ⟨b, o, none⟩ = false := by
  unfold Row at h
  simp [World.frozen?, h]
theorem Row.of_eq (h : Row w b T cs) (e : w'.heap[b]? = w.heap[b]?) : Row w' b T cs := by unfold Row at *; rw [e]; exact h
theorem Row.set (h : Row w b T cs) (o : Nat) (v : Value) : Row (w.setCell ⟨b, o, none⟩ v) b T (cs.set o v) := by
  unfold Row at *
  simp [World.setCell, Array.getElem?_modify, h]
theorem Row.set_ne (h : Row w b T cs) {b' o : Nat} {v : Value} (hne : b ≠ b') : Row (w.setCell ⟨b', o, none⟩ v) b T cs := h.of_eq (heap_setCell_ne hne)
theorem Row.alloc (h : Row w b T cs) (o : Obj) : Row (w.alloc o) b T cs := h.of_eq (heap_alloc_lt h.lt)
theorem Row.drew (h : Row w b T cs) : Row w.drew b T cs := h
theorem Row.drewN (h : Row w b T cs) (n : Nat) : Row (w.drewN n) b T cs := h
theorem Row.new (w : World) (T : Nat) (cs : List Value) : Row (w.alloc (.cells cs.toArray T)) w.heap.size T cs := heap_alloc_new w _
theorem Row.inj {T' : Nat} {cs' : List Value} (h : Row w b T cs) (h' : Row w b T' cs') : T = T' ∧ cs = cs' := by
  unfold Row at *
  rw [h] at h'
  simp at h'
  exact ⟨h'.2, h'.1⟩
end

/-! ### What a step leaves alone -/

/-- Of the blocks that were there, only those of F may have turned. -/
structure Frm (F : Nat → Prop) (w w' : World) : Prop where
  os : w'.os = w.os
  tape : w'.tape = w.tape
  output : w'.output = w.output
  size : w.heap.size ≤ w'.heap.size
  keep : ∀ k, k < w.heap.size → ¬ F k → w'.heap[k]? = w.heap[k]?

section
variable {F G : Nat → Prop} {a b c w w' : World}
theorem Frm.refl (F : Nat → Prop) (w : World) : Frm F w w := ⟨rfl, rfl, rfl, Nat.le_refl _, fun _ _ _ => rfl⟩
theorem Frm.trans (h : Frm F a b) (k : Frm G b c) (hG : ∀ i, G i → i < a.heap.size → F i) : Frm F a c :=
  ⟨k.os.trans h.os, k.tape.trans h.tape, k.output.trans h.output, Nat.le_trans h.size k.size, fun i hi hF =>
    (k.keep i (Nat.lt_of_lt_of_le hi h.size) (fun hg => hF (hG i hg hi))).trans (h.keep i hi hF)⟩
theorem Frm.mono (h : Frm F a b) (hG : ∀ i, F i → G i) : Frm G a b := ⟨h.os, h.tape, h.output, h.size, fun i hi hg => h.keep i hi (fun hf => hg (hG i hf))⟩
theorem Frm.mono' (h : Frm F a b) (hG : ∀ i, i < a.heap.size → F i → G i) : Frm G a b := ⟨h.os, h.tape, h.output, h.size, fun i hi hg => h.keep i hi (fun hf => hg (hG i hi hf))⟩
theorem Frm.alloc (h : Frm F a w) (o : Obj) : Frm F a (w.alloc o) :=
  h.trans (G := fun _ => False) ⟨rfl, rfl, rfl, by simp, fun _ hi _ => heap_alloc_lt hi⟩ (fun _ h => h.elim)
theorem Frm.drew (h : Frm F a w) : Frm F a w.drew := ⟨h.os, h.tape, h.output, h.size, h.keep⟩
theorem Frm.drewN (h : Frm F a w) (n : Nat) : Frm F a (w.drewN n) := ⟨h.os, h.tape, h.output, h.size, h.keep⟩
theorem Frm.setCell (h : Frm F a w) {bl o : Nat} (v : Value) (hF : bl < a.heap.size → F bl) : Frm F a (w.setCell ⟨bl, o, none⟩ v) :=
  h.trans (G := fun k => k = bl) ⟨rfl, rfl, rfl, by simp [World.setCell], fun _ _ hne => heap_setCell_ne hne⟩ (fun _ e hi => by subst e; exact hF hi)
theorem Frm.of_below {B : Nat} (h : Below B a b) : Frm (fun k => B ≤ k) a b := ⟨h.os, h.tape, h.output, h.size, fun k _ hk => h.block k (by omega)⟩
theorem Frm.of_below' (h : Below a.heap.size a b) (F : Nat → Prop) : Frm F a b := ⟨h.os, h.tape, h.output, h.size, fun k hk _ => h.block k hk⟩
theorem Frm.to_below {B : Nat} (h : Frm F a b) (hB : B ≤ a.heap.size) (hF : ∀ i, i < B → ¬ F i) : Below B a b := ⟨h.os, h.tape, h.output, h.size, fun k hk => h.keep k (by omega) (hF k hk)⟩
theorem Row.frm {bl T : Nat} {cs : List Value} (h : Row w bl T cs) (f : Frm F w w') (hF : ¬ F bl) : Row w' bl T cs := h.of_eq (f.keep bl h.lt hF)
end

theorem _root_.Go.RowKit.Below.drewN_l {B : Nat} {a w : World} (h : Below B a w) (n : Nat) : Below B a (w.drewN n) := ⟨h.os, h.tape, h.output, h.size, h.block⟩

/-- The rewriting of one block that is no row. -/
def setB (w : World) (b : Nat) (o : Obj) : World := { w with heap := w.heap.setIfInBounds b o }
theorem heap_setB_ne {w : World} {b k : Nat} {o : Obj} (h : k ≠ b) : (setB w b o).heap[k]? = w.heap[k]? := by
  simp [setB, Ne.symm h]
theorem heap_setB_eq {w : World} {b : Nat} {o : Obj} (h : b < w.heap.size) : (setB w b o).heap[b]? = some o := by
  simp [setB, h]
theorem Frm.setB {F : Nat → Prop} {a w : World} (h : Frm F a w) {b : Nat} (o : Obj) (hF : b < a.heap.size → F b) : Frm F a (setB w b o) :=
  h.trans (G := fun k => k = b) ⟨rfl, rfl, rfl, by simp [Go.Proofs.Ytmddhglhfgomiaa.setB], fun _ _ hne => heap_setB_ne hne⟩ (fun _ e hi => by subst e; exact hF hi)
theorem size_setB (w : World) (b : Nat) (o : Obj) : (setB w b o).heap.size = w.heap.size := by simp [setB]

@[go_sem] theorem cell_setB {w : World} {b bl o : Nat} {x : Obj} (h : bl ≠ b) : (setB w b x).cell? ⟨bl, o, none⟩ = w.cell? ⟨bl, o, none⟩ := by
  simp only [World.cell?, heap_setB_ne h]
@[go_sem] theorem frozen_setB {w : World} {b bl o : Nat} {x : Obj} (h : bl ≠ b) : (setB w b x).frozen? ⟨bl, o, none⟩ = w.frozen? ⟨bl, o, none⟩ := by
  simp only [World.frozen?, heap_setB_ne h]

/-! ### Maps -/

/-- Block b is a map that bears these keys with these values, in this order. -/
def MapAt (w : World) (b : Nat) (kvs : List (Value × Value)) : Prop :=
  ∃ es clk, w.heap[b]? = some (.map es clk) ∧ es.toList.map (fun x => (x.key, x.val)) = kvs ∧ (∀ x ∈ es.toList, x.born < clk) ∧ (es.toList.map (·.born)).Nodup

section
variable {w w' : World} {b : Nat} {kvs : List (Value × Value)}
theorem MapAt.lt (h : MapAt w b kvs) : b < w.heap.size := let ⟨_, _, h, _⟩ := h; heap_lt h
theorem MapAt.of_eq (h : MapAt w b kvs) (e : w'.heap[b]? = w.heap[b]?) : MapAt w' b kvs := let ⟨es, clk, h1, h2⟩ := h; ⟨es, clk, by rw [e]; exact h1, h2⟩
theorem MapAt.alloc (h : MapAt w b kvs) (o : Obj) : MapAt (w.alloc o) b kvs := h.of_eq (heap_alloc_lt h.lt)
theorem MapAt.drew (h : MapAt w b kvs) : MapAt w.drew b kvs := h
theorem MapAt.drewN (h : MapAt w b kvs) (n : Nat) : MapAt (w.drewN n) b kvs := h
theorem MapAt.frm {F : Nat → Prop} (h : MapAt w b kvs) (f : Frm F w w') (hF : ¬ F b) : MapAt w' b kvs := h.of_eq (f.keep b h.lt hF)
theorem MapAt.new (w : World) : MapAt (w.alloc (.map #[] 0)) w.heap.size [] := ⟨#[], 0, heap_alloc_new w _, rfl, by simp, by simp⟩
theorem MapAt.setCell_ne (h : MapAt w b kvs) {b' o : Nat} {v : Value} (hne : b ≠ b') : MapAt (w.setCell ⟨b', o, none⟩ v) b kvs := h.of_eq (heap_setCell_ne hne)
end

section
variable {P : Program} {k t e : TypeId} {w : World} {b : Nat} {kvs : List (Value × Value)} {key val z : Value} {kl : Lit}

/-- All keys can be read. -/
def KeysFit (P : Program) (k : TypeId) (kvs : List (Value × Value)) : Prop := ∀ p ∈ kvs, ∃ l, keyOf P k p.1 = some l

theorem keys_of {es : Array MapEntry} (he : es.toList.map (fun x => (x.key, x.val)) = kvs) (hk : KeysFit P k kvs) : ∀ x ∈ es.toList, ∃ l, keyOf P k x.key = some l := by
  intro x hx
  exact hk (x.key, x.val) (by rw [← he]; exact List.mem_map.2 ⟨x, hx, rfl⟩)

theorem MapAt.look_none (h : MapAt w b kvs) (K : Keyed P k) (ht : P.underlying t = some (.map k e)) (hk : KeysFit P k kvs) (hkey : keyOf P k key = some kl)
    (hz : (zeroValue e).run P w = .ok z w) (hno : ∀ p ∈ kvs, p.1 ≠ key) (c : Bool) :
    (Instr.lookup t (.map (some b)) key c).run P w = .ok (if c then .tuple #[z, .bool false] else z) w := by
  obtain ⟨es, clk, hb, he, _⟩ := h
  rcases K.find w hkey es.toList (keys_of he hk) with ⟨h1, _⟩ | ⟨j, e0, _, h2, h3⟩
  · simp [Instr.lookup, run_underlying ht, MapKept.run_getObj_map hb, K.check w _ hkey, h1, hz, Result.andThen]
  · exact absurd h3 (hno (e0.key, e0.val) (by rw [← he]; exact List.mem_map.2 ⟨e0, List.mem_of_getElem? h2, rfl⟩))

theorem nodup_fst_inj {l : List (Value × Value)} (hn : (l.map Prod.fst).Pairwise (· ≠ ·)) {p q : Value × Value} (hp : p ∈ l) (hq : q ∈ l) (h : p.1 = q.1) : p = q := by
  induction l with
  | nil => cases hp
  | cons x r ih =>
    simp only [List.map_cons, List.pairwise_cons] at hn
    rcases List.mem_cons.1 hp with rfl | hp' <;> rcases List.mem_cons.1 hq with rfl | hq'
    · rfl
    · exact absurd h (hn.1 _ (List.mem_map.2 ⟨q, hq', rfl⟩))
    · exact absurd h.symm (hn.1 _ (List.mem_map.2 ⟨p, hp', rfl⟩))
    · exact ih hn.2 hp' hq'

theorem MapAt.look_some (h : MapAt w b kvs) (K : Keyed P k) (ht : P.underlying t = some (.map k e)) (hk : KeysFit P k kvs) (hkey : keyOf P k key = some kl)
    (hn : (kvs.map Prod.fst).Pairwise (· ≠ ·)) (hin : (key, val) ∈ kvs) (c : Bool) :
    (Instr.lookup t (.map (some b)) key c).run P w = .ok (if c then .tuple #[val, .bool true] else val) w := by
  obtain ⟨es, clk, hb, he, _⟩ := h
  rcases K.find w hkey es.toList (keys_of he hk) with ⟨_, h2⟩ | ⟨j, e0, h1, h2, h3⟩
  · rw [← he] at hin
    obtain ⟨x, hx, hxe⟩ := List.mem_map.1 hin
    simp only [Prod.mk.injEq] at hxe
    exact absurd hxe.1 (h2 x hx)
  · have hm : (e0.key, e0.val) ∈ kvs := by rw [← he]; exact List.mem_map.2 ⟨e0, List.mem_of_getElem? h2, rfl⟩
    have := nodup_fst_inj hn hm hin h3
    simp only [Prod.mk.injEq] at this
    simp [Instr.lookup, run_underlying ht, MapKept.run_getObj_map hb, K.check w _ hkey, h1, Result.andThen, this.2]

theorem MapAt.upd_new (h : MapAt w b kvs) (K : Keyed P k) (ht : P.underlying t = some (.map k e)) (hk : KeysFit P k kvs) (hkey : keyOf P k key = some kl)
    (hno : ∀ p ∈ kvs, p.1 ≠ key) (val : Value) :
    ∃ o, ∀ w', w'.heap[b]? = w.heap[b]? → (Instr.mapUpdate t (.map (some b)) key val).run P w' = .ok () (setB w' b o) ∧ MapAt (setB w' b o) b (kvs ++ [(key, val)]) := by
  obtain ⟨es, clk, hb, he, hborn, hnd⟩ := h
  by_cases hno' : ∃ (j : Nat) (e0 : MapEntry), es.toList[j]? = some e0 ∧ e0.key = key
  · obtain ⟨j, e0, h2, h3⟩ := hno'
    exact absurd h3 (hno (e0.key, e0.val) (by rw [← he]; exact List.mem_map.2 ⟨e0, List.mem_of_getElem? h2, rfl⟩))
  · refine ⟨.map (es.push { key, val, born := clk }) (clk + 1), fun w' hw' => ?_⟩
    rw [hb] at hw'
    have hlt := heap_lt hw'
    have h1 : (Instr.findKey k key es.toList).run P w' = .ok none w' := by
      rcases K.find w' hkey es.toList (keys_of he hk) with ⟨h1, _⟩ | ⟨j, e0, _, h2, h3⟩
      · exact h1
      · exact absurd ⟨j, e0, h2, h3⟩ hno'
    refine ⟨?_, ?_⟩
    · simp [Instr.mapUpdate, run_underlying ht, MapKept.run_getObj_map hw', K.check w' _ hkey, h1, MapKept.run_setObj_map _ hw', Result.andThen, setB]
    · refine ⟨_, _, heap_setB_eq hlt, by simp [he], ?_, ?_⟩
      · intro x hx
        simp only [Array.toList_push, List.mem_append, List.mem_singleton] at hx
        rcases hx with hx | rfl
        · exact Nat.lt_succ_of_lt (hborn x hx)
        · exact Nat.lt_succ_self _
      · simp only [Array.toList_push, List.map_append, List.map_cons, List.map_nil]
        refine List.nodup_append.2 ⟨hnd, by simp, ?_⟩
        intro a ha c hc
        simp only [List.mem_singleton] at hc
        obtain ⟨x, hx, rfl⟩ := List.mem_map.1 ha
        have := hborn x hx
        omega

theorem split_at {l : List (Value × Value)} {l1 l2 : List (Value × Value)} {p : Value × Value} (hl : l = l1 ++ p :: l2) (hn : (l.map Prod.fst).Pairwise (· ≠ ·))
    {j : Nat} {q : Value × Value} (hj : l[j]? = some q) (h : q.1 = p.1) : j = l1.length ∧ q = p := by
  subst hl
  have hq : q = p := nodup_fst_inj hn (List.mem_of_getElem? hj) (by simp) h
  subst hq
  refine ⟨?_, rfl⟩
  have h2 : (l1 ++ q :: l2)[l1.length]? = some q := by simp
  have hlt := (List.getElem?_eq_some_iff.1 hj).1
  have hlt2 := (List.getElem?_eq_some_iff.1 h2).1
  rcases Nat.lt_trichotomy j l1.length with h3 | h3 | h3
  · have := List.pairwise_iff_getElem.1 hn j l1.length (by rw [List.length_map]; exact hlt) (by rw [List.length_map]; exact hlt2) h3
    exfalso
    apply this
    have e1 := (List.getElem?_eq_some_iff.1 hj).2
    have e2 := (List.getElem?_eq_some_iff.1 h2).2
    simp only [List.getElem_map, e1, e2]
  · exact h3
  · have := List.pairwise_iff_getElem.1 hn l1.length j (by rw [List.length_map]; exact hlt2) (by rw [List.length_map]; exact hlt) h3
    exfalso
    apply this
    have e1 := (List.getElem?_eq_some_iff.1 hj).2
    have e2 := (List.getElem?_eq_some_iff.1 h2).2
    simp only [List.getElem_map, e1, e2]

theorem found (K : Keyed P k) {es : Array MapEntry} (hk : ∀ x ∈ es.toList, ∃ l, keyOf P k x.key = some l) (hkey : keyOf P k key = some kl)
    (hn : (es.toList.map (Prod.fst ∘ fun x => (x.key, x.val))).Pairwise (· ≠ ·)) {j : Nat} {e0 : MapEntry} (h2 : es.toList[j]? = some e0) (h3 : e0.key = key) (w' : World) :
    (Instr.findKey k key es.toList).run P w' = .ok (some (j, e0.val)) w' := by
  rcases K.find w' hkey es.toList hk with ⟨_, h⟩ | ⟨i, e1, h1, h4, h5⟩
  · exact absurd h3 (h e0 (List.mem_of_getElem? h2))
  · have hij : i = j := by
      have hi := (List.getElem?_eq_some_iff.1 h4)
      have hj := (List.getElem?_eq_some_iff.1 h2)
      obtain ⟨hi1, hi2⟩ := hi
      obtain ⟨hj1, hj2⟩ := hj
      rcases Nat.lt_trichotomy i j with h | h | h
      · have := List.pairwise_iff_getElem.1 hn i j (by simpa using hi1) (by simpa using hj1) h
        simp only [List.getElem_map, Function.comp, hi2, hj2] at this
        exact absurd (h5.trans h3.symm) this
      · exact h
      · have := List.pairwise_iff_getElem.1 hn j i (by simpa using hj1) (by simpa using hi1) h
        simp only [List.getElem_map, Function.comp, hi2, hj2] at this
        exact absurd (h3.trans h5.symm) this
    subst hij
    rw [h2] at h4
    cases h4
    exact h1

theorem MapAt.upd_old {l1 l2 : List (Value × Value)} {v0 : Value} (h : MapAt w b (l1 ++ (key, v0) :: l2)) (K : Keyed P k) (ht : P.underlying t = some (.map k e)) (hk : KeysFit P k (l1 ++ (key, v0) :: l2)) (hkey : keyOf P k key = some kl)
    (hn : ((l1 ++ (key, v0) :: l2).map Prod.fst).Pairwise (· ≠ ·)) (val : Value) :
    ∃ o, ∀ w', w'.heap[b]? = w.heap[b]? → (Instr.mapUpdate t (.map (some b)) key val).run P w' = .ok () (setB w' b o) ∧ MapAt (setB w' b o) b (l1 ++ (key, val) :: l2) := by
  obtain ⟨es, clk, hb, he, hborn, hnd⟩ := h
  rcases K.find w hkey es.toList (keys_of he hk) with ⟨_, h2⟩ | ⟨j, e0, _, h2, h3⟩
  · have hin : (key, v0) ∈ es.toList.map (fun x => (x.key, x.val)) := by rw [he]; simp
    obtain ⟨x, hx, hxe⟩ := List.mem_map.1 hin
    simp only [Prod.mk.injEq] at hxe
    exact absurd hxe.1 (h2 x hx)
  · have hj : es[j]? = some e0 := by simpa using h2
    have hn0 := hn
    rw [← he] at hn0
    obtain ⟨hjl, _⟩ := split_at rfl hn (j := j) (q := (e0.key, e0.val)) (by rw [← he]; simp [h2]) h3
    have hlist : (es.modify j (fun e' => { e' with key := key, val := val })).toList = es.toList.set j { e0 with key := key, val := val } := by rw [Array.toList_modify, ChangeMaps.modify_eq_set _ _ _ _ h2]
    refine ⟨.map (es.modify j fun e => { e with key, val := val }) clk, fun w' hw' => ?_⟩
    rw [hb] at hw'
    have hlt := heap_lt hw'
    have h1 : (Instr.findKey k key es.toList).run P w' = .ok (some (j, e0.val)) w' := found K (keys_of he hk) hkey (by rw [List.map_map] at hn0; exact hn0) h2 h3 w'
    refine ⟨?_, ?_⟩
    · simp [Instr.mapUpdate, run_underlying ht, MapKept.run_getObj_map hw', K.check w' _ hkey, h1, hj, h3, K.stays w' hkey, MapKept.run_setObj_map _ hw', Result.andThen, setB]
    · refine ⟨_, _, heap_setB_eq hlt, ?_, ?_, ?_⟩
      · rw [hlist, List.map_set, he, hjl, List.set_append_right _ _ (Nat.le_refl _)]
        simp
      · rw [hlist]
        intro x hx
        rcases List.mem_or_eq_of_mem_set hx with hx | rfl
        · exact hborn x hx
        · exact hborn e0 (List.mem_of_getElem? h2)
      · rw [hlist, List.map_set]
        have e1 : (es.toList.map (·.born)).set j e0.born = es.toList.map (·.born) := by
          apply List.ext_getElem?
          intro i
          rw [List.getElem?_set]
          split
          · rename_i hji
            subst hji
            simp [h2]
            exact (List.getElem?_eq_some_iff.1 h2).1
          · rfl
        simpa [e1] using hnd

theorem MapAt.del_some {l1 l2 : List (Value × Value)} {v0 : Value} (h : MapAt w b (l1 ++ (key, v0) :: l2)) (K : Keyed P k) (ht : P.underlying t = some (.map k e)) (hk : KeysFit P k (l1 ++ (key, v0) :: l2)) (hkey : keyOf P k key = some kl)
    (hn : ((l1 ++ (key, v0) :: l2).map Prod.fst).Pairwise (· ≠ ·)) (k2 : TypeId) :
    ∃ o, ∀ w', w'.heap[b]? = w.heap[b]? → ∀ ty, (Builtin.delete_ #[t, k2] ty #[.map (some b), key]).run P w' = .ok (.tuple #[]) (setB w' b o) ∧ MapAt (setB w' b o) b (l1 ++ l2) := by
  obtain ⟨es, clk, hb, he, hborn, hnd⟩ := h
  rcases K.find w hkey es.toList (keys_of he hk) with ⟨_, h2⟩ | ⟨j, e0, _, h2, h3⟩
  · have hin : (key, v0) ∈ es.toList.map (fun x => (x.key, x.val)) := by rw [he]; simp
    obtain ⟨x, hx, hxe⟩ := List.mem_map.1 hin
    simp only [Prod.mk.injEq] at hxe
    exact absurd hxe.1 (h2 x hx)
  · have hn0 := hn
    rw [← he] at hn0
    obtain ⟨hjl, _⟩ := split_at rfl hn (j := j) (q := (e0.key, e0.val)) (by rw [← he]; simp [h2]) h3
    have hjs : j < es.size := by simpa using (List.getElem?_eq_some_iff.1 h2).1
    have hsub : (es.eraseIdxIfInBounds j).toList = es.toList.eraseIdx j := by
      unfold Array.eraseIdxIfInBounds
      rw [dif_pos hjs]
      simp
    refine ⟨.map (es.eraseIdxIfInBounds j) clk, fun w' hw' => ?_⟩
    rw [hb] at hw'
    have hlt := heap_lt hw'
    have h1 : (Instr.findKey k key es.toList).run P w' = .ok (some (j, e0.val)) w' := found K (keys_of he hk) hkey (by rw [List.map_map] at hn0; exact hn0) h2 h3 w'
    refine fun ty => ⟨?_, ?_⟩
    · simp [Builtin.delete_, run_underlying ht, MapKept.run_getObj_map hw', K.check w' _ hkey, h1, MapKept.run_setObj_map _ hw', Result.andThen, setB]
    · refine ⟨_, _, heap_setB_eq hlt, ?_, ?_, ?_⟩
      · rw [hsub, ChangeMaps.map_eraseIdx, he, hjl, List.eraseIdx_append_of_length_le (Nat.le_refl _)]
        simp
      · rw [hsub]
        intro x hx
        exact hborn x ((List.eraseIdx_sublist _ _).subset hx)
      · rw [hsub, ChangeMaps.map_eraseIdx]
        exact hnd.sublist (List.eraseIdx_sublist _ _)

theorem MapAt.del_none (h : MapAt w b kvs) (K : Keyed P k) (ht : P.underlying t = some (.map k e)) (hk : KeysFit P k kvs) (hkey : keyOf P k key = some kl)
    (hno : ∀ p ∈ kvs, p.1 ≠ key) (k2 : TypeId) :
    ∃ o, ∀ w', w'.heap[b]? = w.heap[b]? → ∀ ty, (Builtin.delete_ #[t, k2] ty #[.map (some b), key]).run P w' = .ok (.tuple #[]) (setB w' b o) ∧ MapAt (setB w' b o) b kvs := by
  obtain ⟨es, clk, hb, he, hborn, hnd⟩ := h
  refine ⟨.map es clk, fun w' hw' ty => ?_⟩
  rw [hb] at hw'
  have hlt := heap_lt hw'
  rcases K.find w' hkey es.toList (keys_of he hk) with ⟨h1, _⟩ | ⟨j, e0, _, h2, h3⟩
  · refine ⟨?_, ⟨_, _, heap_setB_eq hlt, he, hborn, hnd⟩⟩
    simp [Builtin.delete_, run_underlying ht, MapKept.run_getObj_map hw', K.check w' _ hkey, h1, MapKept.run_setObj_map _ hw', Result.andThen, setB]
  · exact absurd h3 (hno (e0.key, e0.val) (by rw [← he]; exact List.mem_map.2 ⟨e0, List.mem_of_getElem? h2, rfl⟩))

theorem MapAt.len {ty : TypeId} (h : MapAt w b kvs) (ht : P.underlying t = some (.map k e)) :
    (Builtin.len_ #[t] ty #[.map (some b)]).run P w = .ok (.int .i64 kvs.length) w := by
  obtain ⟨es, clk, hb, he, _⟩ := h
  have : es.size = kvs.length := by rw [← he]; simp
  simp [Builtin.len_, run_underlying ht, MapKept.run_getObj_map hb, Result.andThen, goInt, this]
end

end Go.Proofs.Ytmddhglhfgomiaa
