/- bridge: FromPort and FromTunnel of a right frame. Conditions: none. -/
import Derived.Test.YtmddhglhfgomiaaFrC
namespace Go.Proofs.Ytmddhglhfgomiaa
open Go Go.RowKit Go.Maps

theorem LearnRes.blks {room : Int} {gs gs' : List GEnt} {m : Mac} {p : Place} {now : Int} {nb : Nat} {moved : Bool} {code : Int} (h : LearnRes room gs m p now nb moved code gs') : ∀ g ∈ gs', (∃ g' ∈ gs, g'.1 = g.1) ∨ g.1 = nb := by
  intro g hg
  unfold LearnRes at h
  split at h
  · obtain ⟨_, _, rfl⟩ := h
    exact .inl ⟨g, hg, rfl⟩
  · split at h
    · obtain ⟨_, h⟩ := h
      rcases h with ⟨_, _, rfl⟩ | ⟨_, ⟨_, _, rfl⟩ | ⟨v, _, _, rfl⟩⟩
      · rcases List.mem_append.1 hg with h | h
        · exact .inl ⟨g, h, rfl⟩
        · exact .inr (by simp at h; rw [h])
      · exact .inl ⟨g, hg, rfl⟩
      · rcases List.mem_append.1 hg with h | h
        · exact .inl ⟨g, (List.mem_filter.1 h).1, rfl⟩
        · exact .inr (by simp at h; rw [h])
    · obtain ⟨_, _, rfl⟩ := h
      split at hg
      · exact .inl ⟨g, hg, rfl⟩
      · obtain ⟨g', h1, rfl⟩ := List.mem_map.1 hg
        refine .inl ⟨g', h1, ?_⟩
        split
        · rename_i h2
          exact h2
        · rfl

/-- A frame's answer, on a bridge. -/
def BrFrame (w : World) (bb bm : Nat) (room life : Int) (bound : List (Int × Int)) (segs : List SegG) (i : Nat) (hi : i < segs.length) (p : Place) (mt mo : Mac) (now : Int) (en : Ending) (w' : World) : Prop :=
  ∃ pa ta pl pc tl tc nb moved code gs', en = tuple2 pa ta pl pc tl tc (outOf life now p mt gs' segs[i].ports segs[i].peers).flood 0 ∧ w.heap.size ≤ nb ∧ LearnRes room segs[i].gs mo p now nb moved code gs' ∧
    BridgeRep w' bb bm room life bound (segs.set i { segs[i] with gs := gs' }) ∧ BrTurn bb bm segs w w' (segs.set i { segs[i] with gs := gs' }) ∧
    IntSl w' (.slice pa pl pc) (outOf life now p mt gs' segs[i].ports segs[i].peers).ports ∧ IntSl w' (.slice ta tl tc) (outOf life now p mt gs' segs[i].ports segs[i].peers).tunnels ∧
    (∀ a, pa = some a → w.heap.size ≤ a.block) ∧ (∀ a, ta = some a → w.heap.size ≤ a.block)

theorem own_of {w : World} {v : Value} {zs : List Int} (h : IntSl w v zs) : ∃ a n c, v = .slice a n c ∧ ∀ x, a = some x → v.ownBlock = some x.block := by
  rcases h.cases with ⟨rfl, _⟩ | ⟨g, cap, cs, rfl, _⟩
  · exact ⟨none, 0, 0, rfl, fun x hx => by cases hx⟩
  · exact ⟨_, _, _, rfl, fun x hx => by cases hx; rfl⟩

theorem BrFrame.of_post {w : World} {bb bm : Nat} {room life : Int} {bound : List (Int × Int)} {segs : List SegG} {i : Nat} {hi : i < segs.length} {p : Place} {mt mo : Mac} {now : Int} {en : Ending} {w1 : World}
    (B : BridgeRep w bb bm room life bound segs) (h : FramePost (w.alloc outO) room life segs[i] p mt mo now en w1) :
    ∃ pa ta pl pc tl tc fl code, en = tuple2 pa ta pl pc tl tc fl code ∧ Row w1 w.heap.size 34 [.slice none 0 0, .slice none 0 0, .bool false] ∧
      BrFrame w bb bm room life bound segs i hi p mt mo now en (put3w w1 w.heap.size (.slice pa pl pc) (.slice ta tl tc) (.bool fl)) := by
  obtain ⟨v, nb, moved, code, gs', rfl, hnb, hres, hS, hF, pv, tv, rfl, hP, hT, hpf, htf⟩ := h
  obtain ⟨pa, pl, pc, rfl, hpo⟩ := own_of hP
  obtain ⟨ta, tl, tc, rfl, hto⟩ := own_of hT
  have hsz : w.heap.size + 1 ≤ nb := by rw [World.size_alloc] at hnb; exact hnb
  have S0 := B.srep _ (List.getElem_mem hi)
  have hlt : ∀ k, segFp segs[i] k → k < w.heap.size := S0.fp_lt
  have hR : Row w1 w.heap.size 34 [.slice none 0 0, .slice none 0 0, .bool false] := (Row.new w 34 [.slice none 0 0, .slice none 0 0, .bool false]).frm hF (fun h => Nat.lt_irrefl _ (hlt _ (.inr (.inl h))))
  refine ⟨pa, ta, pl, pc, tl, tc, _, _, rfl, hR, pa, ta, pl, pc, tl, tc, nb, moved, code, gs', rfl, by omega, hres, ?_⟩
  have f1 : Frm (segFp segs[i]) w w1 := ((Frm.refl (segFp segs[i]) w).alloc outO).trans hF (fun k hk _ => .inr (.inl hk))
  have f2 : Frm (fun k => k = w.heap.size) w1 (put3w w1 w.heap.size (.slice pa pl pc) (.slice ta tl tc) (.bool (outOf life now p mt gs' segs[i].ports segs[i].peers).flood)) :=
    (((Frm.refl (fun k => k = w.heap.size) w1).setCell _ (fun _ => rfl)).setCell _ (fun _ => rfl)).setCell _ (fun _ => rfl)
  have f3 := f1.trans f2 (fun k hk hlt => absurd hk (by omega))
  have S3 := hS.frm f2 (fun k hk e => hS.no_out hk (e ▸ hR))
  have hfp : ∀ k, segFp { segs[i] with gs := gs' } k → segFp segs[i] k ∨ w.heap.size ≤ k := by
    rintro k (h | h | h | h)
    · exact .inl (.inl h)
    · rcases h with h | h | ⟨g, hg, rfl⟩
      · exact .inl (.inr (.inl (.inl h)))
      · exact .inl (.inr (.inl (.inr (.inl h))))
      · rcases hres.blks g hg with ⟨g', h1, h2⟩ | h1
        · exact .inl (.inr (.inl (.inr (.inr ⟨g', h1, h2.symm⟩))))
        · exact .inr (by omega)
    · exact .inl (.inr (.inr (.inl h)))
    · exact .inl (.inr (.inr (.inr h)))
  refine ⟨B.setSeg hi S3 rfl rfl f3 hfp, BrTurn.seg hi f3 hfp, hP.frm f2 (fun g hg e => hP.no_out hg (e ▸ hR)), hT.frm f2 (fun g hg e => hT.no_out hg (e ▸ hR)), fun x hx => ?_, fun x hx => ?_⟩
  · have := hpf _ (hpo x hx)
    rw [World.size_alloc] at this
    omega
  · have := htf _ (hto x hx)
    rw [World.size_alloc] at this
    omega

section
variable (w : World) (bb bm : Nat) (room life : Int) (bound : List (Int × Int)) (segs : List SegG)

theorem MacAt.frm {w w' : World} {b o : Nat} {m : Mac} {F : Nat → Prop} (h : MacAt w b o m) (hlt : b < w.heap.size) (f : Frm F w w') (hF : ¬ F b) : MacAt w' b o m := by
  have e := f.keep b hlt hF
  have key : ∀ o, w'.cell? ⟨b, o, none⟩ = w.cell? ⟨b, o, none⟩ := fun o => by unfold World.cell?; rw [e]
  exact ⟨(key _).trans h.c0, (key _).trans h.c1, (key _).trans h.c2, (key _).trans h.c3, (key _).trans h.c4, (key _).trans h.c5⟩

theorem fromport_ok (port now n : Int) (i : Nat) (hn : n = i) (hi : i < segs.length) (hp : i64ok port) (hb : boundTo bound port = some n) (B : BridgeRep w bb bm room life bound segs)
    (fb fo ln c : Nat) (mt mo : Mac) (h14 : 14 ≤ ln) (h9 : ln ≤ 9000) (hc : ln ≤ c) (hlt : fb < w.heap.size) (h1 : MacAt w fb fo mt) (h2 : MacAt w fb (fo + 6) mo) (hmt : mt.ok) (hof : mo.ok) (hg : groupB mo = false) (hnow : u64ok now)
    (hpl : segs[i].ports.length ≤ 1073741824) (hql : segs[i].peers.length ≤ 1073741824)
    (hlearn : ∀ W, BaseRep W segs[i].base segs[i].mb room life segs[i].gs → Calls Try.prog 53 #[ptr segs[i].base, macV mo, placeV ⟨false, port⟩, .int .u64 now] W (LearnPost segs[i].base segs[i].mb room life segs[i].gs mo ⟨false, port⟩ now W)) :
    Calls Try.prog 12 #[ptr bb, .int .i64 port, .slice (some ⟨fb, fo, none⟩) ln c, .int .u64 now] w (BrFrame w bb bm room life bound segs i hi ⟨false, port⟩ mt mo now) := by
  refine fromport_via w bb bm room life bound segs port now _ hp n i hn hi hb B _ ?_
  have f : Frm (fun _ => False) w (w.alloc outO) := (Frm.refl _ _).alloc _
  refine (sframe_ok (w.alloc outO) room life segs[i] fb fo ⟨false, port⟩ ln c now mt mo h14 h9 hc (by rw [World.size_alloc]; omega) (h1.frm hlt f (fun h => h)) (h2.frm hlt f (fun h => h)) hmt hof hg hnow hpl hql ((B.srep _ (List.getElem_mem hi)).frm0 f) hlearn).mono ?_
  intro e w1 h
  exact BrFrame.of_post B h

theorem fromtunnel_ok (port now n : Int) (i : Nat) (hn : n = i) (hi : i < segs.length) (hb : segs[i].peers.contains port = true) (B : BridgeRep w bb bm room life bound segs)
    (fb fo ln c : Nat) (mt mo : Mac) (h14 : 14 ≤ ln) (h9 : ln ≤ 9000) (hc : ln ≤ c) (hlt : fb < w.heap.size) (h1 : MacAt w fb fo mt) (h2 : MacAt w fb (fo + 6) mo) (hmt : mt.ok) (hof : mo.ok) (hg : groupB mo = false) (hnow : u64ok now)
    (hpl : segs[i].ports.length ≤ 1073741824) (hql : segs[i].peers.length ≤ 1073741824)
    (hlearn : ∀ W, BaseRep W segs[i].base segs[i].mb room life segs[i].gs → Calls Try.prog 53 #[ptr segs[i].base, macV mo, placeV ⟨true, port⟩, .int .u64 now] W (LearnPost segs[i].base segs[i].mb room life segs[i].gs mo ⟨true, port⟩ now W)) :
    Calls Try.prog 28 #[ptr bb, .int .i64 n, .int .i64 port, .slice (some ⟨fb, fo, none⟩) ln c, .int .u64 now] w (BrFrame w bb bm room life bound segs i hi ⟨true, port⟩ mt mo now) := by
  refine fromtunnel_via w bb bm room life bound segs port now n _ i hn hi hql hb B _ ?_
  have f : Frm (fun _ => False) w (w.alloc outO) := (Frm.refl _ _).alloc _
  refine (sframe_ok (w.alloc outO) room life segs[i] fb fo ⟨true, port⟩ ln c now mt mo h14 h9 hc (by rw [World.size_alloc]; omega) (h1.frm hlt f (fun h => h)) (h2.frm hlt f (fun h => h)) hmt hof hg hnow hpl hql ((B.srep _ (List.getElem_mem hi)).frm0 f) hlearn).mono ?_
  intro e w1 h
  exact BrFrame.of_post B h
end
end Go.Proofs.Ytmddhglhfgomiaa
