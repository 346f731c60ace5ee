/- bridge: New; Bind of a port that is bound to none. Conditions: none. -/
import Derived.Test.YtmddhglhfgomiaaBrB
namespace Go.Proofs.Ytmddhglhfgomiaa
open Go Go.RowKit Go.Maps

/-- A segment that is new. -/
def SegNew (s : SegG) : Prop := s.gs = [] ∧ s.pv = .slice none 0 0 ∧ s.qv = .slice none 0 0 ∧ s.ports = [] ∧ s.peers = []

/-- k segments are made. -/
structure NewInv (w : World) (room life : Int) (k : Nat) (wr : World) (segs : List SegG) : Prop where
  row : Row wr (w.heap.size + 1) 73 (segs.map (fun s => ptr s.blk) ++ (List.replicate (8 - k) (.pointer none) ++ [.map (some w.heap.size)]))
  map : MapAt wr w.heap.size []
  len : segs.length = k
  srep : ∀ s ∈ segs, SegRep wr (roomOf room) life s ∧ SegNew s ∧ ∀ i, segFp s i → w.heap.size + 2 ≤ i
  apart : segs.Pairwise (fun s t => ∀ k, segFp s k → ¬ segFp t k)
  below : Below w.heap.size w wr
  size : w.heap.size + 2 ≤ wr.heap.size

theorem NewInv.step {w : World} {room life : Int} {k : Nat} {wr W : World} {segs : List SegG} (I : NewInv w room life k wr segs) (hk : k < 8)
    (hf : Frm (fun i => i = w.heap.size + 1) wr W) (hrow : ∀ cs, Row wr (w.heap.size + 1) 73 cs → Row W (w.heap.size + 1) 73 (cs.set k (ptr (wr.heap.size + 2))))
    (hb : BaseRep W (wr.heap.size + 1) wr.heap.size (roomOf room) life []) (hs : Row W (wr.heap.size + 2) 76 [ptr (wr.heap.size + 1), .slice none 0 0, .slice none 0 0]) :
    NewInv w room life (k + 1) W (segs ++ [⟨wr.heap.size + 2, wr.heap.size + 1, wr.heap.size, [], .slice none 0 0, .slice none 0 0, [], []⟩]) := by
  have hfp : ∀ i, segFp ⟨wr.heap.size + 2, wr.heap.size + 1, wr.heap.size, [], .slice none 0 0, .slice none 0 0, [], []⟩ i → wr.heap.size ≤ i := by
    rintro i (h | (h | h | ⟨g, hg, _⟩) | h | h)
    · rw [h]; exact Nat.le_add_right _ _
    · rw [h]; exact Nat.le_add_right _ _
    · rw [h]; exact Nat.le_refl _
    · cases hg
    · cases h
    · cases h
  refine ⟨?_, I.map.frm hf (by omega), by simp [I.len], ?_, ?_, ?_, Nat.le_trans I.size hf.size⟩
  · have h := hrow _ I.row
    rw [List.set_append_right _ _ (by simp [I.len]), List.length_map, I.len, Nat.sub_self] at h
    have e : 8 - k = (8 - (k + 1)) + 1 := by omega
    rw [e, List.replicate_succ, List.cons_append, List.set_cons_zero] at h
    simpa using h
  · intro s hs'
    rcases List.mem_append.1 hs' with h | h
    · obtain ⟨h1, h2, h3⟩ := I.srep s h
      exact ⟨h1.frm hf (fun i hi e => by have := h3 i hi; omega), h2, h3⟩
    · simp only [List.mem_singleton] at h
      subst h
      exact ⟨⟨hs, hb, IntSl.nil _, IntSl.nil _⟩, ⟨rfl, rfl, rfl, rfl, rfl⟩, fun i hi => Nat.le_trans I.size (hfp i hi)⟩
  · refine List.pairwise_append.2 ⟨I.apart, by simp, fun s hs' t ht i h1 h2 => ?_⟩
    simp only [List.mem_singleton] at ht
    subst ht
    have h3 := (I.srep s hs').1.fp_lt i h1
    have h4 := hfp i h2
    omega
  · exact I.below.trans (hf.to_below I.below.size (fun i hi e => by omega))

set_option maxRecDepth 100000 in
set_option maxHeartbeats 1000000 in
theorem bnew_any (w : World) (room life : Int) :
    Calls Try.prog 8 #[.int .i64 room, .int .u64 life] w fun e w' => ∃ bb bm segs, e = .returned (ptr bb) ∧ BridgeRep w' bb bm (roomOf room) life [] segs ∧ (∀ s ∈ segs, SegNew s) ∧
      (∀ k, bridgeFp bb bm segs k → w.heap.size ≤ k) ∧ Below w.heap.size w w' := by
  have hmm := @run_makeMap Try.prog
  have hnew := fun W => fnew_any W room life
  go_enter Try.func8, Try.ntmps8
  go_wp2_with fail
  go_loopw [10] (fun i wr => ∃ (k : Nat) (segs : List SegG), k ≤ 8 ∧ i = .int .i64 k ∧ NewInv w room life k wr segs) (fun i _ => 8 - (intOf i).toNat)
  case atStart =>
    refine ⟨0, [], Nat.zero_le _, rfl, ?_, (MapAt.new w).alloc _, rfl, by simp, by simp, ((Below.refl _ w).alloc (Nat.le_refl _) _).alloc (by simp) _, by simp⟩
    have := Row.new (w.alloc (.map #[] 0)) 73 [.pointer none, .pointer none, .pointer none, .pointer none, .pointer none, .pointer none, .pointer none, .pointer none, .map (some w.heap.size)]
    rw [World.size_alloc] at this
    exact this
  case round =>
    obtain ⟨k, segs, hk, rfl, I⟩ := hrel
    by_cases hlt : k < 8
    · have hck : ∃ u, wr.cell? ⟨w.heap.size + 1, k, none⟩ = some u := by
        rw [I.row.cell, List.getElem?_eq_getElem (by simp [I.len])]
        exact ⟨_, rfl⟩
      obtain ⟨u, hck⟩ := hck
      have hfk := I.row.free k
      have hsz := I.row.lt
      go_wp2_with fail
      go_region_with (go_at_call 34; refine (hnew _).mono ?_; rintro e w' ⟨rfl, rfl⟩)
      go_wp2_with fail
      go_roundw
      case rel =>
        refine ⟨k + 1, _, by omega, by go_num, I.step hlt ?_ ?_ ?_ ?_⟩
        · exact (by repeat (first | exact Frm.refl _ _ | assumption | refine Frm.drewN ?_ _ | refine Frm.drew ?_ | refine Frm.alloc ?_ _ | refine Frm.setCell ?_ _ (by simp)))
        · exact fun cs h => ((((h.alloc _).alloc _).alloc _).set k _).drew
        · have h1 := I.size
          refine (((base_new wr (roomOf room) life).alloc _).frm (F := fun i => i = w.heap.size + 1) ((Frm.refl _ _).setCell _ (fun _ => rfl)) (fun i hi e => ?_)).drewN 1
          rcases hi with h | h | ⟨g, hg, _⟩
          · omega
          · omega
          · cases hg
        · have h1 := I.size
          have h2 := Row.new ((wr.alloc (.map #[] 0)).alloc (.cells #[.int .i64 (roomOf room), .int .u64 life, .map (some wr.heap.size)] 82)) 76 [ptr (wr.heap.size + 1), .slice none 0 0, .slice none 0 0]
          rw [World.size_alloc, World.size_alloc] at h2
          exact (h2.set_ne (by omega)).drew
      case measure => simp [intOf]; omega
    · obtain rfl : k = 8 := by omega
      go_wp2_with fail
      go_ret
      refine ⟨w.heap.size + 1, w.heap.size, segs, rfl, ⟨?_, I.map, I.len, fun s hs => (I.srep s hs).1, I.apart, fun s hs e => ?_, by simp, by simp⟩, fun s hs => (I.srep s hs).2.1, ?_, I.below⟩
      · simpa using I.row
      · have := (I.srep s hs).2.2 s.mb (.inr (.inl (.inr (.inl rfl))))
        omega
      · rintro i (h | h | ⟨s, hs, h⟩)
        · omega
        · omega
        · have := (I.srep s hs).2.2 i h
          omega
end Go.Proofs.Ytmddhglhfgomiaa
