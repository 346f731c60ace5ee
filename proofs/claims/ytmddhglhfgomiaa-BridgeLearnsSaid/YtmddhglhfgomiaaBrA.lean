/- bridge: segment, Segment, Ports, Peers, Base, Peer. Conditions: none. -/
import Derived.Test.YtmddhglhfgomiaaBr
namespace Go.Proofs.Ytmddhglhfgomiaa
open Go Go.RowKit Go.Maps

section
variable (w : World) (bb bm : Nat) (room life : Int) (bound : List (Int × Int)) (segs : List SegG)

set_option maxRecDepth 100000 in
set_option maxHeartbeats 400000 in
theorem seg_in (n : Int) (i : Nat) (hn : n = i) (hi : i < segs.length) (B : BridgeRep w bb bm room life bound segs) :
    Calls Try.prog 35 #[ptr bb, .int .i64 n] w fun e w' => e = .returned (ptr segs[i].blk) ∧ w = w' := by
  have hc := B.cell hi
  have hl := B.len
  obtain ⟨p, hp⟩ : ∃ p, p = segs[i].blk := ⟨_, rfl⟩
  rw [← hp] at hc ⊢
  have h0 : 0 ≤ n := by omega
  have h8 : n < 8 := by omega
  have hc' : w.cell? ⟨bb, n.toNat, none⟩ = some (ptr p) := by rw [hn]; exact hc
  clear B hc hl hp hn
  go_enter Try.func35, Try.ntmps35
  go_wp2_with fail
  go_ret
  exact ⟨rfl, rfl⟩

set_option maxRecDepth 100000 in
set_option maxHeartbeats 400000 in
theorem seg_out (n : Int) (hn : n < 0 ∨ 8 ≤ n) :
    Calls Try.prog 35 #[ptr bb, .int .i64 n] w fun e w' => e = .returned (.pointer none) ∧ w = w' := by
  rcases hn with hn | hn
  · go_enter Try.func35, Try.ntmps35
    go_wp2_with fail
    go_ret
    exact ⟨rfl, rfl⟩
  · have h0 : ¬ n < 0 := by omega
    go_enter Try.func35, Try.ntmps35
    go_wp2_with fail
    go_ret
    exact ⟨rfl, rfl⟩

set_option maxRecDepth 100000 in
set_option maxHeartbeats 400000 in
theorem bbase_in (n : Int) (i : Nat) (hn : n = i) (hi : i < segs.length) (B : BridgeRep w bb bm room life bound segs) :
    Calls Try.prog 11 #[ptr bb, .int .i64 n] w fun e w' => e = .returned (ptr segs[i].base) ∧ w = w' := by
  have hs := seg_in w bb bm room life bound segs n i hn hi B
  have hr := (B.srep _ (List.getElem_mem hi)).row
  generalize segs[i] = s at *
  have c0 := hr.cell 0
  simp at c0
  clear B hr hn
  go_enter Try.func11, Try.ntmps11
  go_wp2_with (go_at_call 35; refine hs.mono ?_; rintro e w' ⟨rfl, rfl⟩)
  go_ret
  exact ⟨rfl, rfl⟩

set_option maxRecDepth 100000 in
set_option maxHeartbeats 400000 in
theorem bbase_out (n : Int) (hn : n < 0 ∨ 8 ≤ n) :
    Calls Try.prog 11 #[ptr bb, .int .i64 n] w fun e w' => e = .returned (.pointer none) ∧ w = w' := by
  have hs := seg_out w bb n hn
  go_enter Try.func11, Try.ntmps11
  go_wp2_with (go_at_call 35; refine hs.mono ?_; rintro e w' ⟨rfl, rfl⟩)
  go_ret
  exact ⟨rfl, rfl⟩

end
end Go.Proofs.Ytmddhglhfgomiaa
