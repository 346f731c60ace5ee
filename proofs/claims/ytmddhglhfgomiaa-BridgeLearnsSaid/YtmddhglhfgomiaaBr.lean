/- bridge: what one is in memory. Conditions: none. -/
import Derived.Test.YtmddhglhfgomiaaWith
import Derived.Test.YtmddhglhfgomiaaFdbC
namespace Go.Proofs.Ytmddhglhfgomiaa
open Go Go.RowKit Go.Maps

/-- A segment: its blocks, its entries, its ports and peers. -/
structure SegG where
  (blk base mb : Nat)
  (gs : List GEnt)
  (pv qv : Value)
  (ports peers : List Int)

def segFp (s : SegG) (k : Nat) : Prop := k = s.blk ∨ baseFp s.base s.mb s.gs k ∨ s.pv.ownBlock = some k ∨ s.qv.ownBlock = some k

structure SegRep (w : World) (room life : Int) (s : SegG) : Prop where
  row : Row w s.blk 76 [ptr s.base, s.pv, s.qv]
  base : BaseRep w s.base s.mb room life s.gs
  ports : IntSl w s.pv s.ports
  peers : IntSl w s.qv s.peers

section
variable {w w' : World} {room life : Int} {s : SegG}
theorem SegRep.frm {F : Nat → Prop} (S : SegRep w room life s) (f : Frm F w w') (hF : ∀ k, segFp s k → ¬ F k) : SegRep w' room life s :=
  ⟨S.row.frm f (hF _ (.inl rfl)), S.base.frm f (fun k hk => hF k (.inr (.inl hk))), S.ports.frm f (fun g hg => hF g (.inr (.inr (.inl hg)))), S.peers.frm f (fun g hg => hF g (.inr (.inr (.inr hg))))⟩
theorem SegRep.fp_lt (S : SegRep w room life s) : ∀ k, segFp s k → k < w.heap.size := by
  rintro k (rfl | h | h | h)
  · exact S.row.lt
  · exact S.base.fp_lt k h
  · exact S.ports.blk_lt h
  · exact S.peers.blk_lt h
theorem SegRep.kind (S : SegRep w room life s) : ∀ k, segFp s k → (∃ T cs, Row w k T cs ∧ T ≠ 73) ∨ k = s.mb := by
  rintro k (rfl | h | h | h)
  · exact .inl ⟨_, _, S.row, by decide⟩
  · rcases h with rfl | rfl | ⟨g, hg, rfl⟩
    · exact .inl ⟨_, _, S.base.base, by decide⟩
    · exact .inr rfl
    · exact .inl ⟨_, _, S.base.ents g hg, by decide⟩
  · rcases S.ports.cases with ⟨h1, _⟩ | ⟨g, cap, cs, h1, hr, _⟩
    · rw [h1] at h
      cases h
    · rw [h1] at h
      cases h
      exact .inl ⟨_, _, hr, by decide⟩
  · rcases S.peers.cases with ⟨h1, _⟩ | ⟨g, cap, cs, h1, hr, _⟩
    · rw [h1] at h
      cases h
    · rw [h1] at h
      cases h
      exact .inl ⟨_, _, hr, by decide⟩
/-- The base's blocks are neither the segment's own nor its rows'. -/
theorem SegRep.base_apart (S : SegRep w room life s) {k : Nat} (h : baseFp s.base s.mb s.gs k) : k ≠ s.blk ∧ s.pv.ownBlock ≠ some k ∧ s.qv.ownBlock ≠ some k := by
  have key : ∀ T cs, Row w k T cs → T = 76 ∨ T = 3 → False := by
    intro T cs hr hT
    rcases h with rfl | rfl | ⟨g, hg, rfl⟩
    · have := (hr.inj S.base.base).1
      rcases hT with hT | hT <;> rw [hT] at this <;> exact absurd this (by decide)
    · obtain ⟨es, clk, h1, _⟩ := S.base.map
      unfold Row at hr
      rw [h1] at hr
      cases hr
    · have := (hr.inj (S.base.ents g hg)).1
      rcases hT with hT | hT <;> rw [hT] at this <;> exact absurd this (by decide)
  refine ⟨fun e => ?_, fun e => ?_, fun e => ?_⟩
  · exact key _ _ (e ▸ S.row) (.inl rfl)
  · rcases S.ports.cases with ⟨h1, _⟩ | ⟨g, cap, cs, h1, hr, _⟩
    · rw [h1] at e
      cases e
    · rw [h1] at e
      cases e
      exact key _ _ hr (.inr rfl)
  · rcases S.peers.cases with ⟨h1, _⟩ | ⟨g, cap, cs, h1, hr, _⟩
    · rw [h1] at e
      cases e
    · rw [h1] at e
      cases e
      exact key _ _ hr (.inr rfl)
/-- The segment's own block is none of its rows'. -/
theorem SegRep.blk_apart (S : SegRep w room life s) : s.pv.ownBlock ≠ some s.blk ∧ s.qv.ownBlock ≠ some s.blk := by
  constructor
  · intro e
    rcases S.ports.cases with ⟨h1, _⟩ | ⟨g, cap, cs, h1, hr, _⟩
    · rw [h1] at e
      cases e
    · rw [h1] at e
      have e' : g = s.blk := by simpa [Value.ownBlock] using e
      exact absurd ((e' ▸ hr).inj S.row).1 (by decide)
  · intro e
    rcases S.peers.cases with ⟨h1, _⟩ | ⟨g, cap, cs, h1, hr, _⟩
    · rw [h1] at e
      cases e
    · rw [h1] at e
      have e' : g = s.blk := by simpa [Value.ownBlock] using e
      exact absurd ((e' ▸ hr).inj S.row).1 (by decide)
end

abbrev bkv (bound : List (Int × Int)) : List (Value × Value) := bound.map fun p => (Value.int .i64 p.1, Value.int .i64 p.2)

/-- Block bb is a bridge; its map of ports is block bm. -/
structure BridgeRep (w : World) (bb bm : Nat) (room life : Int) (bound : List (Int × Int)) (segs : List SegG) : Prop where
  row : Row w bb 73 (segs.map (fun s => ptr s.blk) ++ [.map (some bm)])
  map : MapAt w bm (bkv bound)
  len : segs.length = 8
  srep : ∀ s ∈ segs, SegRep w room life s
  apart : segs.Pairwise (fun s t => ∀ k, segFp s k → ¬ segFp t k)
  bmap : ∀ s ∈ segs, bm ≠ s.mb
  keys : ∀ p ∈ bound, i64ok p.1
  ports : bound.Pairwise (fun p q => p.1 ≠ q.1)

def bridgeFp (bb bm : Nat) (segs : List SegG) (k : Nat) : Prop := k = bb ∨ k = bm ∨ ∃ s ∈ segs, segFp s k

section
variable {w w' : World} {bb bm : Nat} {room life : Int} {bound : List (Int × Int)} {segs : List SegG}

theorem BridgeRep.frm {F : Nat → Prop} (B : BridgeRep w bb bm room life bound segs) (f : Frm F w w') (hF : ∀ k, bridgeFp bb bm segs k → ¬ F k) : BridgeRep w' bb bm room life bound segs :=
  ⟨B.row.frm f (hF _ (.inl rfl)), B.map.frm f (hF _ (.inr (.inl rfl))), B.len, fun s hs => (B.srep s hs).frm f (fun k hk => hF k (.inr (.inr ⟨s, hs, hk⟩))), B.apart, B.bmap, B.keys, B.ports⟩

theorem BridgeRep.fp_lt (B : BridgeRep w bb bm room life bound segs) : ∀ k, bridgeFp bb bm segs k → k < w.heap.size := by
  rintro k (rfl | rfl | ⟨s, hs, h⟩)
  · exact B.row.lt
  · exact B.map.lt
  · exact (B.srep s hs).fp_lt k h

theorem row_not_map {b T : Nat} {cs : List Value} {kvs : List (Value × Value)} (hr : Row w b T cs) (hm : MapAt w b kvs) : False := by
  obtain ⟨es, clk, h1, _⟩ := hm
  unfold Row at hr
  rw [h1] at hr
  cases hr

theorem BridgeRep.bb_apart (B : BridgeRep w bb bm room life bound segs) {s : SegG} (hs : s ∈ segs) : ¬ segFp s bb := by
  intro h
  rcases (B.srep s hs).kind bb h with ⟨T, cs, h1, h2⟩ | h1
  · exact h2 (h1.inj B.row).1
  · exact row_not_map (h1 ▸ B.row) (B.srep s hs).base.map

theorem BridgeRep.bm_apart (B : BridgeRep w bb bm room life bound segs) {s : SegG} (hs : s ∈ segs) : ¬ segFp s bm := by
  intro h
  rcases (B.srep s hs).kind bm h with ⟨T, cs, h1, _⟩ | h1
  · exact row_not_map h1 B.map
  · exact B.bmap s hs h1

theorem BridgeRep.bb_ne_bm (B : BridgeRep w bb bm room life bound segs) : bb ≠ bm := fun e => row_not_map (e ▸ B.row) B.map

/-- One segment has turned, and nothing else. -/
theorem BridgeRep.setSeg (B : BridgeRep w bb bm room life bound segs) {i : Nat} (hi : i < segs.length) {s' : SegG} (hS : SegRep w' room life s') (hb : s'.blk = segs[i].blk) (hm : s'.mb = segs[i].mb)
    (hf : Frm (segFp segs[i]) w w') (hfp : ∀ k, segFp s' k → segFp segs[i] k ∨ w.heap.size ≤ k) : BridgeRep w' bb bm room life bound (segs.set i s') := by
  have hin : segs[i] ∈ segs := List.getElem_mem hi
  have hap : ∀ j (hj : j < segs.length), j ≠ i → ∀ k, segFp segs[j] k → ¬ segFp segs[i] k := by
    intro j hj hne k h1 h2
    rcases Nat.lt_or_gt_of_ne hne with h | h
    · exact List.pairwise_iff_getElem.1 B.apart j i hj hi h k h1 h2
    · exact List.pairwise_iff_getElem.1 B.apart i j hi hj h k h2 h1
  refine ⟨?_, B.map.frm hf (fun h => B.bm_apart hin h), by simpa using B.len, ?_, ?_, ?_, B.keys, B.ports⟩
  · have : (segs.set i s').map (fun s => ptr s.blk) = segs.map (fun s => ptr s.blk) := by
      rw [List.map_set]
      apply List.ext_getElem?
      intro j
      rw [List.getElem?_set]
      split
      · rename_i h
        subst h
        rw [List.length_map, if_pos hi, List.getElem?_map, List.getElem?_eq_getElem hi, hb]
        rfl
      · rfl
    rw [this]
    exact B.row.frm hf (fun h => B.bb_apart hin h)
  · intro t ht
    obtain ⟨j, hj, rfl⟩ := List.getElem_of_mem ht
    rw [List.getElem_set]
    split
    · exact hS
    · rename_i hne
      have hj' : j < segs.length := by simpa using hj
      exact (B.srep _ (List.getElem_mem hj')).frm hf (fun k hk => hap j hj' (Ne.symm hne) k hk)
  · rw [List.pairwise_iff_getElem]
    intro a b ha hb' hab k h1 h2
    have ha' : a < segs.length := by simpa using ha
    have hb'' : b < segs.length := by simpa using hb'
    rw [List.getElem_set] at h1 h2
    split at h1
    · rename_i h3
      split at h2
      · omega
      · rename_i h4
        subst h3
        rcases hfp k h1 with h5 | h5
        · exact hap b hb'' (Ne.symm h4) k h2 h5
        · have := (B.srep _ (List.getElem_mem hb'')).fp_lt k h2
          omega
    · rename_i h3
      split at h2
      · rename_i h4
        subst h4
        rcases hfp k h2 with h5 | h5
        · exact hap a ha' (Ne.symm h3) k h1 h5
        · have := (B.srep _ (List.getElem_mem ha')).fp_lt k h1
          omega
      · exact List.pairwise_iff_getElem.1 B.apart a b ha' hb'' hab k h1 h2
  · intro t ht
    obtain ⟨j, hj, rfl⟩ := List.getElem_of_mem ht
    rw [List.getElem_set]
    split
    · rw [hm]
      exact B.bmap _ hin
    · exact B.bmap _ (List.getElem_mem _)

theorem BridgeRep.cell (B : BridgeRep w bb bm room life bound segs) {i : Nat} (hi : i < segs.length) : w.cell? ⟨bb, i, none⟩ = some (ptr segs[i].blk) := by
  rw [B.row.cell, List.getElem?_append_left (by simpa using hi), List.getElem?_map, List.getElem?_eq_getElem hi]
  rfl
theorem BridgeRep.cell8 (B : BridgeRep w bb bm room life bound segs) : w.cell? ⟨bb, 8, none⟩ = some (.map (some bm)) := by
  rw [B.row.cell, List.getElem?_append_right (by simp [B.len])]
  simp [B.len]

/-! ### The map of ports -/
theorem intLaw : Keyed Try.prog 3 := int_keyed (q := .i64) (by kernel_rfl)
theorem imapT : Try.prog.underlying 69 = some (.map 3 3) := by kernel_rfl
theorem intZero (w : World) : (zeroValue 3).run Try.prog w = .ok (.int .i64 0) w := by kernel_rfl
theorem i64wf {x : Int} (h : i64ok x) : (Lit.int .i64 x).wf = true := WalkArith.wf_i64 (by unfold i64ok at h; omega)
theorem intKey {x : Int} (h : i64ok x) : keyOf Try.prog 3 (.int .i64 x) = some (.int .i64 x) := keyOf_int_mk (q := .i64) (by kernel_rfl) (i64wf h)

def boundTo (bound : List (Int × Int)) (port : Int) : Option Int := (bound.find? (fun p => p.1 == port)).map (·.2)

theorem BridgeRep.kfit (B : BridgeRep w bb bm room life bound segs) : KeysFit Try.prog 3 (bkv bound) := by
  intro p hp
  obtain ⟨q, hq, rfl⟩ := List.mem_map.1 hp
  exact ⟨_, intKey (B.keys q hq)⟩
theorem BridgeRep.kapart (B : BridgeRep w bb bm room life bound segs) : ((bkv bound).map Prod.fst).Pairwise (· ≠ ·) := by
  rw [List.map_map, List.pairwise_map]
  exact B.ports.imp (fun h e => h (by simpa using e))

theorem boundTo_some {port n : Int} (h : boundTo bound port = some n) : (port, n) ∈ bound := by
  unfold boundTo at h
  obtain ⟨p, hp, rfl⟩ := Option.map_eq_some_iff.1 h
  have h1 := List.mem_of_find?_eq_some hp
  have h2 : p.1 = port := by simpa using List.find?_some hp
  rw [← h2]
  exact h1
theorem boundTo_none {port : Int} (h : boundTo bound port = none) : ∀ p ∈ bound, p.1 ≠ port := by
  unfold boundTo at h
  intro p hp e
  have := List.find?_eq_none.1 (Option.map_eq_none_iff.1 h) p hp
  simp [e] at this

theorem BridgeRep.look (B : BridgeRep w bb bm room life bound segs) {port : Int} (hp : i64ok port) :
    (Instr.lookup 69 (.map (some bm)) (.int .i64 port) true).run Try.prog w = .ok (.tuple #[.int .i64 ((boundTo bound port).getD 0), .bool (boundTo bound port).isSome]) w := by
  cases h : boundTo bound port with
  | none =>
    simpa using B.map.look_none intLaw imapT B.kfit (intKey hp) (intZero w) (fun p hp e => by
      obtain ⟨q, hq, rfl⟩ := List.mem_map.1 hp
      exact boundTo_none h q hq (by simpa using e)) true
  | some n =>
    simpa using B.map.look_some intLaw imapT B.kfit (intKey hp) B.kapart (val := .int .i64 n) (List.mem_map.2 ⟨(port, n), boundTo_some h, rfl⟩) true
end

end Go.Proofs.Ytmddhglhfgomiaa
