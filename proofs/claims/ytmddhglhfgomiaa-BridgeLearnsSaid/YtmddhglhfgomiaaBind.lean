/- bridge: Bind. Conditions: none. -/
import Derived.Test.YtmddhglhfgomiaaBrC
namespace Go.Proofs.Ytmddhglhfgomiaa
open Go Go.RowKit Go.Maps

theorem boundTo_none_of {bound : List (Int × Int)} {port : Int} (h : ∀ p ∈ bound, p.1 ≠ port) : boundTo bound port = none := by
  unfold boundTo
  rw [Option.map_eq_none_iff, List.find?_eq_none]
  exact fun p hp => by simpa using h p hp

section
variable {w w' : World} {bb bm : Nat} {room life : Int} {bound : List (Int × Int)} {segs : List SegG}

theorem BridgeRep.len16 (B : BridgeRep w bb bm room life bound segs) (ty : TypeId) : (Builtin.len_ #[69] ty #[.map (some bm)]).run Try.prog w = .ok (.int .i64 bound.length) w := by
  have := B.map.len (ty := ty) imapT
  simpa using this

theorem BridgeRep.put (B : BridgeRep w bb bm room life bound segs) {port n : Int} (hp : i64ok port) (hno : ∀ p ∈ bound, p.1 ≠ port) :
    ∃ o, (Instr.mapUpdate 69 (.map (some bm)) (.int .i64 port) (.int .i64 n)).run Try.prog w = .ok () (setB w bm o) ∧ BridgeRep (setB w bm o) bb bm room life (bound ++ [(port, n)]) segs := by
  obtain ⟨o, h⟩ := B.map.upd_new intLaw imapT B.kfit (intKey hp) (fun p hp e => by
      obtain ⟨q, hq, rfl⟩ := List.mem_map.1 hp
      exact hno q hq (by simpa using e)) (.int .i64 n)
  obtain ⟨h1, h2⟩ := h w rfl
  have f : Frm (fun k => k = bm) w (setB w bm o) := (Frm.refl _ _).setB _ (fun _ => rfl)
  refine ⟨o, h1, B.row.frm f B.bb_ne_bm, by simpa using h2, B.len, fun s hs => (B.srep s hs).frm f (fun k hk e => B.bm_apart hs (e ▸ hk)), B.apart, B.bmap, ?_, ?_⟩
  · intro q hq
    rcases List.mem_append.1 hq with h | h
    · exact B.keys q h
    · simp at h
      rw [h]
      exact hp
  · refine List.pairwise_append.2 ⟨B.ports, by simp, fun a ha b hb => ?_⟩
    simp at hb
    rw [hb]
    exact hno a ha
end

section
variable (w : World) (bb bm : Nat) (room life : Int) (bound : List (Int × Int)) (segs : List SegG)

set_option maxRecDepth 100000 in
set_option maxHeartbeats 1000000 in
theorem unbind_none (port : Int) (hp : i64ok port) (hb : boundTo bound port = none) (B : BridgeRep w bb bm room life bound segs) :
    Calls Try.prog 20 #[ptr bb, .int .i64 port] w fun e w' => e = .returned (.int .i64 6) ∧ w = w' := by
  have hl := B.look hp
  rw [hb] at hl
  have c8 := B.cell8
  simp only [Option.getD_none, Option.isSome_none] at hl
  clear B hb
  go_enter Try.func20, Try.ntmps20
  go_wp2_with fail
  go_ret
  exact ⟨rfl, rfl⟩

/-- What Unbind leaves, as far as Bind asks. -/
def UnbindPost (port : Int) (i : Nat) (hi : i < segs.length) (en : Ending) (w' : World) : Prop :=
  ∃ code bound' segs', en = .returned (.int .i64 code) ∧ BridgeRep w' bb bm room life bound' segs' ∧ BrTurn bb bm segs w w' segs' ∧ (∀ p ∈ bound', p.1 ≠ port) ∧ (∃ h : i < segs'.length, segs'[i] = segs[i])

def BindPost (port n : Int) (i : Nat) (hi : i < segs.length) (Q : List (Int × Int) → List SegG → Prop) (en : Ending) (w' : World) : Prop :=
  ∃ bound' segs' v', en = .returned (.int .i64 0) ∧ Q bound' segs' ∧ BridgeRep w' bb bm room life (bound' ++ [(port, n)]) (segs'.set i { segs[i] with pv := v', ports := insI segs[i].ports port }) ∧
    BrTurn bb bm segs w w' (segs'.set i { segs[i] with pv := v', ports := insI segs[i].ports port })

set_option maxRecDepth 100000 in
set_option maxHeartbeats 1000000 in
theorem bind_new (port n : Int) (i : Nat) (hn : n = i) (hi : i < segs.length) (hp0 : 0 ≤ port) (hp : i64ok port) (hl : segs[i].ports.length ≤ 1073741823) (hso : segs[i].ports.Pairwise (· ≤ ·)) (B : BridgeRep w bb bm room life bound segs)
    (hb : boundTo bound port = none) (h16 : bound.length < 16) :
    Calls Try.prog 18 #[ptr bb, .int .i64 port, .int .i64 n] w (BindPost w bb bm room life segs port n i hi (fun b s => b = bound ∧ s = segs)) := by
  have hs := seg_in w bb bm room life bound segs n i hn hi B
  have hlk := B.look hp
  have hun := unbind_none w bb bm room life bound segs port hp hb B
  rw [hb] at hlk
  simp only [Option.getD_none, Option.isSome_none] at hlk
  have c8 := B.cell8
  have hlen := B.len16
  have h16' : ¬ (16 : Int) ≤ (bound.length : Int) := by omega
  obtain ⟨o, hput, B2⟩ := B.put (n := n) hp (boundTo_none hb)
  have S := B2.srep _ (List.getElem_mem hi)
  have hset := fun (w' : World) (s' : SegG) h1 h2 h3 h4 h5 => B2.setSeg (w' := w') (s' := s') hi h1 h2 h3 h4 h5
  have hturn := fun (w' : World) (s' : SegG) h1 h2 => BrTurn.seg (bb := bb) (bm := bm) (w := setB w bm o) (w' := w') (s' := s') hi h1 h2
  have hturn0 : BrTurn bb bm segs w (setB w bm o) segs := ⟨(Frm.refl _ _).setB _ (fun _ => .inr (.inl rfl)), fun k hk => .inl hk⟩
  have hwith := with_any (setB w bm o) segs[i].pv segs[i].ports port S.ports (by omega) hso
  have hne : segs[i].blk ≠ bm := fun e => B.bm_apart (List.getElem_mem hi) (e ▸ .inl rfl)
  have hbne := B.bb_ne_bm
  unfold BindPost
  generalize segs[i] = s at *
  have c1 := S.row.cell 1
  have hlt := S.row.lt
  have f1 := S.row.free 1
  simp at c1
  obtain ⟨aq, cq, hq⟩ := S.ports.len
  rw [hq] at c1 hwith
  have Hn := Lib.hid hn
  have Hq := Lib.hid hq
  clear hn hq B B2
  go_enter Try.func18, Try.ntmps18
  go_wp2_with (first | (go_at_call 35; refine hs.mono ?_; rintro e w' ⟨rfl, rfl⟩) | (go_at_call 20; refine hun.mono ?_; rintro e w' ⟨rfl, rfl⟩))
  refine hwith.mono ?_
  rintro e w1 ⟨v', rfl, hv, hnew, hB⟩
  have c1' : w1.cell? ⟨s.blk, 1, none⟩ = some (.slice aq s.ports.length cq) := (hB.cell (p := ⟨s.blk, 1, none⟩) hlt).trans c1
  have f1' : w1.frozen? ⟨s.blk, 1, none⟩ = false := (hB.frozen (p := ⟨s.blk, 1, none⟩) hlt).trans f1
  obtain ⟨av, nv, cv, hvv⟩ := storable hv
  obtain ⟨S', hf', hfp'⟩ := S.setPorts hB hv hnew rfl
  subst hvv
  go_wp2_with fail
  go_ret
  exact ⟨bound, segs, _, rfl, ⟨rfl, rfl⟩, hset _ _ S' rfl rfl hf' hfp', hturn0.trans (hturn _ _ hf' hfp')⟩
end
end Go.Proofs.Ytmddhglhfgomiaa
