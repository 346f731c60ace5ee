/- law 16: frame. Conditions: none. -/
import Derived.Test.YtmddhglhfgomiaaFr
namespace Go.Proofs.Ytmddhglhfgomiaa
open Go Go.RowKit Go.Maps

structure LfI (w : World) (mt mo : Mac) (k : Nat) (wr : World) : Prop where
  ht : Row wr w.heap.size 25 (macCells mt)
  ho : Row wr (w.heap.size + 1) 25 (macCells mo)
  out : ∃ cs, Row wr (w.heap.size + 2) 5 cs ∧ cs.length = 60 ∧ (∀ j, j < k → cs[j]? = (macCells mt)[j]?) ∧ (∀ j, j < k → cs[6 + j]? = (macCells mo)[j]?)
  frm : Frm (fun _ => False) w wr

theorem mac_at (m : Mac) {k : Nat} (h : k < 6) : ∃ x, (macCells m)[k]? = some (.int .u8 x) := by
  match k, h with
  | 0, _ => exact ⟨_, rfl⟩
  | 1, _ => exact ⟨_, rfl⟩
  | 2, _ => exact ⟨_, rfl⟩
  | 3, _ => exact ⟨_, rfl⟩
  | 4, _ => exact ⟨_, rfl⟩
  | 5, _ => exact ⟨_, rfl⟩

theorem LfI.step {w wr : World} {mt mo : Mac} {k : Nat} (I : LfI w mt mo k wr) (hk : k < 6) {x y : Value} (hx : (macCells mt)[k]? = some x) (hy : (macCells mo)[k]? = some y) :
    LfI w mt mo (k + 1) ((wr.setCell ⟨w.heap.size + 2, k, none⟩ x).setCell ⟨w.heap.size + 2, 6 + k, none⟩ y) := by
  obtain ⟨cs, hR, hcl, h1, h2⟩ := I.out
  refine ⟨(I.ht.set_ne (by omega)).set_ne (by omega), (I.ho.set_ne (by omega)).set_ne (by omega), ⟨_, (hR.set k x).set (6 + k) y, by simpa using hcl, fun j hj => ?_, fun j hj => ?_⟩,
    (I.frm.setCell _ (fun h => by omega)).setCell _ (fun h => by omega)⟩
  · rw [List.getElem?_set_ne (by omega)]
    by_cases h : k = j
    · subst h
      rw [List.getElem?_set_self (by omega), hx]
    · rw [List.getElem?_set_ne h]
      exact h1 j (by omega)
  · by_cases h : k = j
    · subst h
      rw [List.getElem?_set_self (by simp; omega), hy]
    · rw [List.getElem?_set_ne (by omega), List.getElem?_set_ne (by omega)]
      exact h2 j (by omega)

theorem LfI.macs {w wr : World} {mt mo : Mac} (I : LfI w mt mo 6 wr) : MacAt wr (w.heap.size + 2) 0 mt ∧ MacAt wr (w.heap.size + 2) 6 mo := by
  obtain ⟨cs, hR, hcl, h1, h2⟩ := I.out
  constructor
  · exact ⟨(hR.cell _).trans (h1 0 (by omega)), (hR.cell _).trans (h1 1 (by omega)), (hR.cell _).trans (h1 2 (by omega)), (hR.cell _).trans (h1 3 (by omega)), (hR.cell _).trans (h1 4 (by omega)), (hR.cell _).trans (h1 5 (by omega))⟩
  · exact ⟨(hR.cell _).trans (h2 0 (by omega)), (hR.cell _).trans (h2 1 (by omega)), (hR.cell _).trans (h2 2 (by omega)), (hR.cell _).trans (h2 3 (by omega)), (hR.cell _).trans (h2 4 (by omega)), (hR.cell _).trans (h2 5 (by omega))⟩

/-- Sixty bytes, of which the first twelve are two MACs. -/
def LfPost (mt mo : Mac) (w : World) (e : Ending) (w' : World) : Prop :=
  e = .returned (.slice (some ⟨w.heap.size + 2, 0, none⟩) 60 60) ∧ w.heap.size + 2 < w'.heap.size ∧ MacAt w' (w.heap.size + 2) 0 mt ∧ MacAt w' (w.heap.size + 2) 6 mo ∧ Frm (fun _ => False) w w'

set_option maxRecDepth 100000 in
set_option maxHeartbeats 1000000 in
theorem lframe_any (w : World) (mt mo : Mac) : Calls Try.prog 13 #[macV mt, macV mo] w (LfPost mt mo w) := by
  have hmk : ∀ W : World, (Instr.makeSlice 29 (.int .i64 60) (.int .i64 60)).run Try.prog W = .ok (.slice (some ⟨W.heap.size, 0, none⟩) 60 60) (W.alloc (.cells (List.replicate 60 (.int .u8 0)).toArray 5)) := fun _ => by kernel_rfl
  go_enter Try.func13, Try.ntmps13
  go_wp2_with fail
  go_loopw [6] (fun i wr => ∃ (k : Nat), k ≤ 6 ∧ i = .int .i64 k ∧ LfI w mt mo k wr) (fun i _ => 6 - (intOf i).toNat)
  case atStart =>
    refine ⟨0, Nat.zero_le _, rfl, ((Row.new w 25 (macCells mt)).alloc _).alloc _, ?_, ?_, (((Frm.refl _ w).alloc _).alloc _).alloc _⟩
    · have := (Row.new (w.alloc (.cells (macCells mt).toArray 25)) 25 (macCells mo)).alloc (.cells (List.replicate 60 (.int .u8 0)).toArray 5)
      rw [World.size_alloc] at this
      exact this
    · have := Row.new ((w.alloc (.cells (macCells mt).toArray 25)).alloc (.cells (macCells mo).toArray 25)) 5 (List.replicate 60 (.int .u8 0))
      rw [World.size_alloc, World.size_alloc] at this
      exact ⟨_, this, by simp, by omega, by omega⟩
  case round =>
    obtain ⟨k, hk, rfl, I⟩ := hrel
    obtain ⟨cs, hR, hcl, h1, h2⟩ := I.out
    by_cases hlt : k < 6
    · obtain ⟨x, hx⟩ := mac_at mt hlt
      obtain ⟨y, hy⟩ := mac_at mo hlt
      have hcx := I.ht.cell k
      have hcy := I.ho.cell k
      rw [hx] at hcx
      rw [hy] at hcy
      obtain ⟨u, hu⟩ : ∃ u, wr.cell? ⟨w.heap.size + 2, k, none⟩ = some u := by
        rw [hR.cell, List.getElem?_eq_getElem (by omega)]
        exact ⟨_, rfl⟩
      obtain ⟨u', hu'⟩ : ∃ u, wr.cell? ⟨w.heap.size + 2, 6 + k, none⟩ = some u := by
        rw [hR.cell, List.getElem?_eq_getElem (by omega)]
        exact ⟨_, rfl⟩
      have hf := hR.free
      have hlt2 := hR.lt
      go_wp2_with fail
      exact ⟨⟨k + 1, by omega, by go_num, I.step hlt hx hy⟩, by simp [intOf]; omega⟩
    · obtain rfl : k = 6 := by omega
      have F := I.frm
      have hlt2 := hR.lt
      obtain ⟨m1, m2⟩ := I.macs
      clear I
      go_wp2_with fail
      go_ret
      exact ⟨rfl, hlt2, m1, m2, F⟩
end Go.Proofs.Ytmddhglhfgomiaa
