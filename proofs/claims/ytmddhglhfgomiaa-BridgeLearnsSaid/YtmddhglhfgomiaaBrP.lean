/- bridge: Ports, Peers. Conditions: none. -/
import Derived.Test.YtmddhglhfgomiaaBrA
namespace Go.Proofs.Ytmddhglhfgomiaa
open Go Go.RowKit Go.Maps

section
variable (w : World) (bb bm : Nat) (room life : Int) (bound : List (Int × Int)) (segs : List SegG)

set_option maxRecDepth 100000 in
set_option maxHeartbeats 400000 in
theorem Seg_any (port : Int) (hp : i64ok port) (B : BridgeRep w bb bm room life bound segs) :
    Calls Try.prog 10 #[ptr bb, .int .i64 port] w fun e w' => e = .returned (.tuple #[.int .i64 ((boundTo bound port).getD 0), .bool (boundTo bound port).isSome]) ∧ w = w' := by
  have c8 := B.cell8
  have hl := B.look hp
  clear B
  go_enter Try.func10, Try.ntmps10
  go_wp2_with fail
  go_ret2
  exact ⟨rfl, rfl⟩

set_option maxRecDepth 100000 in
set_option maxHeartbeats 400000 in
theorem ports_in (n : Int) (i : Nat) (hn : n = i) (hi : i < segs.length) (B : BridgeRep w bb bm room life bound segs) (hl : segs[i].ports.length ≤ 1073741824) :
    Calls Try.prog 16 #[ptr bb, .int .i64 n] w fun e w' => ∃ v', e = .returned v' ∧ IntSl w' v' segs[i].ports ∧ (∀ g, v'.ownBlock = some g → w.heap.size ≤ g) ∧ Below w.heap.size w w' := by
  have hs := seg_in w bb bm room life bound segs n i hn hi B
  have hr := (B.srep _ (List.getElem_mem hi)).row
  have hcl := clone_any w segs[i].pv segs[i].ports (B.srep _ (List.getElem_mem hi)).ports hl
  generalize segs[i] = s at *
  have c1 := hr.cell 1
  simp at c1
  clear B hr hn
  go_enter Try.func16, Try.ntmps16
  go_wp2_with (first | (go_at_call 35; refine hs.mono ?_; rintro e w' ⟨rfl, rfl⟩) | (go_at_call 38; refine hcl.mono ?_; rintro e w' ⟨v', rfl, h1, h2, h3⟩))
  go_ret
  exact ⟨v', rfl, h1, h2, h3⟩

set_option maxRecDepth 100000 in
set_option maxHeartbeats 400000 in
theorem peers_in (n : Int) (i : Nat) (hn : n = i) (hi : i < segs.length) (B : BridgeRep w bb bm room life bound segs) (hl : segs[i].peers.length ≤ 1073741824) :
    Calls Try.prog 15 #[ptr bb, .int .i64 n] w fun e w' => ∃ v', e = .returned v' ∧ IntSl w' v' segs[i].peers ∧ (∀ g, v'.ownBlock = some g → w.heap.size ≤ g) ∧ Below w.heap.size w w' := by
  have hs := seg_in w bb bm room life bound segs n i hn hi B
  have hr := (B.srep _ (List.getElem_mem hi)).row
  have hcl := clone_any w segs[i].qv segs[i].peers (B.srep _ (List.getElem_mem hi)).peers hl
  generalize segs[i] = s at *
  have c2 := hr.cell 2
  simp at c2
  clear B hr hn
  go_enter Try.func15, Try.ntmps15
  go_wp2_with (first | (go_at_call 35; refine hs.mono ?_; rintro e w' ⟨rfl, rfl⟩) | (go_at_call 38; refine hcl.mono ?_; rintro e w' ⟨v', rfl, h1, h2, h3⟩))
  go_ret
  exact ⟨v', rfl, h1, h2, h3⟩

set_option maxRecDepth 100000 in
set_option maxHeartbeats 400000 in
theorem ports_out (n : Int) (hn : n < 0 ∨ 8 ≤ n) :
    Calls Try.prog 16 #[ptr bb, .int .i64 n] w fun e w' => e = .returned (.slice none 0 0) ∧ w = w' := by
  have hs := seg_out w bb n hn
  go_enter Try.func16, Try.ntmps16
  go_wp2_with (go_at_call 35; refine hs.mono ?_; rintro e w' ⟨rfl, rfl⟩)
  go_ret
  exact ⟨rfl, rfl⟩

set_option maxRecDepth 100000 in
set_option maxHeartbeats 400000 in
theorem peers_out (n : Int) (hn : n < 0 ∨ 8 ≤ n) :
    Calls Try.prog 15 #[ptr bb, .int .i64 n] w fun e w' => e = .returned (.slice none 0 0) ∧ w = w' := by
  have hs := seg_out w bb n hn
  go_enter Try.func15, Try.ntmps15
  go_wp2_with (go_at_call 35; refine hs.mono ?_; rintro e w' ⟨rfl, rfl⟩)
  go_ret
  exact ⟨rfl, rfl⟩

end
end Go.Proofs.Ytmddhglhfgomiaa
