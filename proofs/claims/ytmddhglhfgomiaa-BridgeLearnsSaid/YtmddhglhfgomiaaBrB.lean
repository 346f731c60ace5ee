/- bridge: Peer. Conditions: none. -/
import Derived.Test.YtmddhglhfgomiaaBrA
namespace Go.Proofs.Ytmddhglhfgomiaa
open Go Go.RowKit Go.Maps

/-- What has turned of a bridge is its own; what is new lies behind all that was. -/
def BrTurn (bb bm : Nat) (segs : List SegG) (w w' : World) (segs' : List SegG) : Prop :=
  Frm (bridgeFp bb bm segs) w w' ∧ ∀ k, bridgeFp bb bm segs' k → bridgeFp bb bm segs k ∨ w.heap.size ≤ k

theorem BrTurn.refl (bb bm : Nat) (segs : List SegG) (w : World) : BrTurn bb bm segs w w segs := ⟨Frm.refl _ _, fun _ h => .inl h⟩
theorem BrTurn.trans {bb bm : Nat} {segs segs' segs'' : List SegG} {w w' w'' : World} (h : BrTurn bb bm segs w w' segs') (k : BrTurn bb bm segs' w' w'' segs'') : BrTurn bb bm segs w w'' segs'' :=
  ⟨h.1.trans k.1 (fun i hi hlt => (h.2 i hi).resolve_right (by omega)), fun i hi => by
    rcases k.2 i hi with h1 | h1
    · exact h.2 i h1
    · exact .inr (Nat.le_trans h.1.size h1)⟩

theorem bridgeFp_set {bb bm : Nat} {segs : List SegG} {i : Nat} (hi : i < segs.length) {s' : SegG} {n : Nat} (h : ∀ k, segFp s' k → segFp segs[i] k ∨ n ≤ k) :
    ∀ k : Nat, bridgeFp bb bm (segs.set i s') k → bridgeFp bb bm segs k ∨ n ≤ k := by
  intro k h0
  rcases h0 with h1 | h1 | ⟨t, ht, h1⟩
  · exact .inl (.inl h1)
  · exact .inl (.inr (.inl h1))
  · rcases List.mem_or_eq_of_mem_set ht with h2 | rfl
    · exact .inl (.inr (.inr ⟨t, h2, h1⟩))
    · rcases h k h1 with h3 | h3
      · exact .inl (.inr (.inr ⟨_, List.getElem_mem hi, h3⟩))
      · exact .inr h3

theorem BrTurn.seg {bb bm : Nat} {segs : List SegG} {w w' : World} {i : Nat} (hi : i < segs.length) {s' : SegG} (hf : Frm (segFp segs[i]) w w') (h : ∀ k, segFp s' k → segFp segs[i] k ∨ w.heap.size ≤ k) :
    BrTurn bb bm segs w w' (segs.set i s') :=
  ⟨hf.mono (fun _ hk => .inr (.inr ⟨_, List.getElem_mem hi, hk⟩)), bridgeFp_set hi h⟩

/-- One of a segment's rows told anew. -/
theorem SegRep.setPeers {w w1 w' : World} {room life : Int} {s : SegG} (S : SegRep w room life s) (hb : Below w.heap.size w w1) {v' : Value} {zs : List Int} (hv : IntSl w1 v' zs) (hnew : ∀ g, v'.ownBlock = some g → w.heap.size ≤ g)
    (hw : w' = w1.setCell ⟨s.blk, 2, none⟩ v') : SegRep w' room life { s with qv := v', peers := zs } ∧ Frm (segFp s) w w' ∧ ∀ k, segFp { s with qv := v', peers := zs } k → segFp s k ∨ w.heap.size ≤ k := by
  have f1 : Frm (fun _ => False) w w1 := Frm.of_below' hb _
  have S1 := S.frm f1 (fun _ _ h => h)
  have f2 : Frm (fun k => k = s.blk) w1 w' := by rw [hw]; exact (Frm.refl _ _).setCell _ (fun _ => rfl)
  have hr := S1.row.set 2 v'
  refine ⟨⟨?_, S1.base.frm f2 (fun k hk e => (S1.base_apart hk).1 e), S1.ports.frm f2 (fun g hg e => S1.blk_apart.1 (e ▸ hg)), hv.frm f2 (fun g hg e => ?_)⟩, ?_, ?_⟩
  · rw [hw]; exact hr
  · have := hnew g hg
    have := S.row.lt
    omega
  · exact (f1.mono (fun _ h => h.elim)).trans f2 (fun i hi _ => .inl hi)
  · rintro k (h | h | h | h)
    · exact .inl (.inl h)
    · exact .inl (.inr (.inl h))
    · exact .inl (.inr (.inr (.inl h)))
    · exact .inr (hnew k h)

theorem SegRep.setPorts {w w1 w' : World} {room life : Int} {s : SegG} (S : SegRep w room life s) (hb : Below w.heap.size w w1) {v' : Value} {zs : List Int} (hv : IntSl w1 v' zs) (hnew : ∀ g, v'.ownBlock = some g → w.heap.size ≤ g)
    (hw : w' = w1.setCell ⟨s.blk, 1, none⟩ v') : SegRep w' room life { s with pv := v', ports := zs } ∧ Frm (segFp s) w w' ∧ ∀ k, segFp { s with pv := v', ports := zs } k → segFp s k ∨ w.heap.size ≤ k := by
  have f1 : Frm (fun _ => False) w w1 := Frm.of_below' hb _
  have S1 := S.frm f1 (fun _ _ h => h)
  have f2 : Frm (fun k => k = s.blk) w1 w' := by rw [hw]; exact (Frm.refl _ _).setCell _ (fun _ => rfl)
  have hr := S1.row.set 1 v'
  refine ⟨⟨?_, S1.base.frm f2 (fun k hk e => (S1.base_apart hk).1 e), hv.frm f2 (fun g hg e => ?_), S1.peers.frm f2 (fun g hg e => S1.blk_apart.2 (e ▸ hg))⟩, ?_, ?_⟩
  · rw [hw]; exact hr
  · have := hnew g hg
    have := S.row.lt
    omega
  · exact (f1.mono (fun _ h => h.elim)).trans f2 (fun i hi _ => .inl hi)
  · rintro k (h | h | h | h)
    · exact .inl (.inl h)
    · exact .inl (.inr (.inl h))
    · exact .inr (hnew k h)
    · exact .inl (.inr (.inr (.inr h)))

/-- What Peer answers, and what it leaves. -/
def PeerRes (segs : List SegG) (i : Nat) (s : SegG) (tunnel code : Int) (segs' : List SegG) : Prop :=
  (s.peers.contains tunnel = true ∧ code = 0 ∧ segs' = segs) ∨ (s.peers.contains tunnel = false ∧ 8 ≤ s.peers.length ∧ code = 5 ∧ segs' = segs) ∨
    (s.peers.contains tunnel = false ∧ s.peers.length < 8 ∧ code = 0 ∧ ∃ v', segs' = segs.set i { s with qv := v', peers := insI s.peers tunnel })

theorem storable {w : World} {v : Value} {zs : List Int} (h : IntSl w v zs) : ∃ a n c, v = .slice a n c := by
  obtain ⟨a, c, h⟩ := h.len
  exact ⟨_, _, _, h⟩

section
variable (w : World) (bb bm : Nat) (room life : Int) (bound : List (Int × Int)) (segs : List SegG)

set_option maxRecDepth 100000 in
set_option maxHeartbeats 1000000 in
theorem peer_arg (n tunnel : Int) (h : tunnel < 0 ∨ n < 0 ∨ 8 ≤ n) (hlen : segs.length = 8) (B : BridgeRep w bb bm room life bound segs) :
    Calls Try.prog 22 #[ptr bb, .int .i64 n, .int .i64 tunnel] w fun e w' => e = .returned (.int .i64 1) ∧ w = w' := by
  have hs : ∃ p : Option Addr, (0 ≤ tunnel → p = none) ∧ Calls Try.prog 35 #[ptr bb, .int .i64 n] w fun e w' => e = .returned (.pointer p) ∧ w = w' := by
    by_cases hn : n < 0 ∨ 8 ≤ n
    · exact ⟨none, fun _ => rfl, seg_out w bb n hn⟩
    · have hi : n.toNat < segs.length := by omega
      exact ⟨_, fun h0 => by omega, seg_in w bb bm room life bound segs n n.toNat (by omega) hi B⟩
  obtain ⟨p, hp, hs⟩ := hs
  by_cases ht : tunnel < 0
  · clear hp
    go_enter Try.func22, Try.ntmps22
    go_wp2_with (go_at_call 35; refine hs.mono ?_; rintro e w' ⟨rfl, rfl⟩)
    go_ret
    exact ⟨rfl, rfl⟩
  · obtain rfl := hp (by omega)
    clear hp
    go_enter Try.func22, Try.ntmps22
    go_wp2_with (go_at_call 35; refine hs.mono ?_; rintro e w' ⟨rfl, rfl⟩)
    go_ret
    exact ⟨rfl, rfl⟩

set_option maxRecDepth 100000 in
set_option maxHeartbeats 1000000 in
theorem peer_in (n tunnel : Int) (i : Nat) (hn : n = i) (hi : i < segs.length) (ht : 0 ≤ tunnel) (hl : segs[i].peers.length ≤ 8) (hso : segs[i].peers.Pairwise (· ≤ ·)) (B : BridgeRep w bb bm room life bound segs) :
    Calls Try.prog 22 #[ptr bb, .int .i64 n, .int .i64 tunnel] w fun e w' => ∃ code segs', e = .returned (.int .i64 code) ∧ BridgeRep w' bb bm room life bound segs' ∧ BrTurn bb bm segs w w' segs' ∧
      PeerRes segs i segs[i] tunnel code segs' := by
  have hs := seg_in w bb bm room life bound segs n i hn hi B
  have S := B.srep _ (List.getElem_mem hi)
  have hset := fun (w' : World) (s' : SegG) h1 h2 h3 h4 h5 => B.setSeg (w' := w') (s' := s') hi h1 h2 h3 h4 h5
  have hturn := fun (w' : World) (s' : SegG) h1 h2 => BrTurn.seg (bb := bb) (bm := bm) (w := w) (w' := w') (s' := s') hi h1 h2
  have hcon := contains_any w segs[i].qv segs[i].peers tunnel S.peers (by omega)
  have hwith := with_any w segs[i].qv segs[i].peers tunnel S.peers (by omega) hso
  generalize segs[i] = s at *
  have c2 := S.row.cell 2
  have hlt := S.row.lt
  have f2 := S.row.free 2
  simp at c2
  obtain ⟨aq, cq, hq⟩ := S.peers.len
  rw [hq] at c2 hcon hwith
  have Hn := Lib.hid hn
  have Hq := Lib.hid hq
  clear hn hq
  cases hc : s.peers.contains tunnel with
  | true =>
    rw [hc] at hcon
    go_enter Try.func22, Try.ntmps22
    go_wp2_with (first | (go_at_call 35; refine hs.mono ?_; rintro e w' ⟨rfl, rfl⟩) | (go_at_call 45; refine hcon.mono ?_; rintro e w' ⟨rfl, rfl⟩))
    go_ret
    exact ⟨0, segs, rfl, B, BrTurn.refl _ _ _ _, .inl ⟨hc, rfl, rfl⟩⟩
  | false =>
    rw [hc] at hcon
    by_cases h8 : 8 ≤ s.peers.length
    · go_enter Try.func22, Try.ntmps22
      go_wp2_with (first | (go_at_call 35; refine hs.mono ?_; rintro e w' ⟨rfl, rfl⟩) | (go_at_call 45; refine hcon.mono ?_; rintro e w' ⟨rfl, rfl⟩))
      go_ret
      exact ⟨5, segs, rfl, B, BrTurn.refl _ _ _ _, .inr (.inl ⟨hc, h8, rfl, rfl⟩)⟩
    · go_enter Try.func22, Try.ntmps22
      go_wp2_with (first | (go_at_call 35; refine hs.mono ?_; rintro e w' ⟨rfl, rfl⟩) | (go_at_call 45; refine hcon.mono ?_; rintro e w' ⟨rfl, rfl⟩))
      refine hwith.mono ?_
      rintro e w1 ⟨v', rfl, hv, hnew, hB⟩
      have c2' : w1.cell? ⟨s.blk, 2, none⟩ = some (.slice aq s.peers.length cq) := (hB.cell (p := ⟨s.blk, 2, none⟩) hlt).trans c2
      have f2' : w1.frozen? ⟨s.blk, 2, none⟩ = false := (hB.frozen (p := ⟨s.blk, 2, none⟩) hlt).trans f2
      obtain ⟨av, nv, cv, hvv⟩ := storable hv
      obtain ⟨S', hf', hfp'⟩ := S.setPeers hB hv hnew rfl
      subst hvv
      go_wp2_with fail
      go_ret
      exact ⟨0, _, rfl, hset _ _ S' rfl rfl hf' hfp', hturn _ _ hf' hfp', .inr (.inr ⟨hc, by omega, rfl, _, rfl⟩)⟩
end
end Go.Proofs.Ytmddhglhfgomiaa
