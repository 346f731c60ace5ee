/- bridge: what its segments hold, with no blocks in sight; each function's contract so told. Conditions: none. -/
import Derived.Test.YtmddhglhfgomiaaFrD
import Derived.Test.YtmddhglhfgomiaaBind
import Derived.Test.YtmddhglhfgomiaaLf
namespace Go.Proofs.Ytmddhglhfgomiaa
open Go Go.RowKit Go.Maps

structure VSeg where
  (es : List Ent)
  (ports peers : List Int)

def vseg (s : SegG) : VSeg := ⟨s.gs.map (·.2), s.ports, s.peers⟩
def vw (segs : List SegG) : List VSeg := segs.map vseg

def findE (es : List Ent) (m : Mac) : Option Ent := es.find? (fun e => e.mac == m)
def seenV (life now : Int) : Option Ent → Option Place
  | some e => if oldB life now e then none else some e.place
  | none => none
def outE (life now : Int) (p : Place) (mt : Mac) (es : List Ent) (ports peers : List Int) : OutM :=
  match groupB mt, seenV life now (findE es mt) with
  | false, some q => if q = p ∨ (q.tunnel = true ∧ p.tunnel = true) then ⟨[], [], false⟩ else if q.tunnel then ⟨[], [q.n], false⟩ else ⟨[q.n], [], false⟩
  | _, _ => if p.tunnel then ⟨ports, [], true⟩ else ⟨strike ports p.n, peers, true⟩
def learnE (es : List Ent) (m : Mac) (p : Place) (now : Int) : List Ent :=
  if (findE es m).isSome then es.map (fun e => if e.mac = m then ⟨m, p, now, false⟩ else e) else es ++ [⟨m, p, now, false⟩]

theorem findE_eq (gs : List GEnt) (m : Mac) : findE (gs.map (·.2)) m = (findG gs m).map (·.2) := by
  unfold findE findG
  rw [List.find?_map]
  rfl
theorem seenV_eq (life now : Int) (gs : List GEnt) (m : Mac) : seenE life now (findG gs m) = seenV life now (findE (gs.map (·.2)) m) := by
  rw [findE_eq]
  cases findG gs m <;> rfl
theorem outOf_eq (life now : Int) (p : Place) (mt : Mac) (gs : List GEnt) (ports peers : List Int) : outOf life now p mt gs ports peers = outE life now p mt (gs.map (·.2)) ports peers := by
  unfold outOf outE
  rw [seenV_eq]
  cases groupB mt <;> cases seenV life now (findE (gs.map (·.2)) mt) <;> rfl

theorem learnE_of {room : Int} {gs gs' : List GEnt} {m : Mac} {p : Place} {now : Int} {nb : Nat} {moved : Bool} {code : Int} (h : LearnRes room gs m p now nb moved code gs') (hg : groupB m = false) (hst : ∀ g ∈ gs, g.2.static = false)
    (hroom : findG gs m = none → (gs.length : Int) < room) (macs : gs.Pairwise (fun g g' => g.2.mac ≠ g'.2.mac)) (blks : gs.Pairwise (fun g g' => g.1 ≠ g'.1)) : gs'.map (·.2) = learnE (gs.map (·.2)) m p now := by
  unfold LearnRes at h
  rw [if_neg (by simp [hg])] at h
  unfold learnE
  rw [findE_eq]
  cases hf : findG gs m with
  | none =>
    rw [hf] at h
    have := hroom hf
    rcases h.2 with ⟨_, _, rfl⟩ | ⟨h1, _⟩
    · simp
    · omega
  | some g =>
    rw [hf] at h
    obtain ⟨hin, hm⟩ := findG_some hf
    obtain ⟨_, _, rfl⟩ := h
    rw [hst g hin]
    simp only [Bool.false_eq_true, if_false, Option.map_some, Option.isSome_some, if_true]
    unfold setG
    rw [List.map_map, List.map_map]
    apply List.map_congr_left
    intro x hx
    simp only [Function.comp]
    by_cases hxg : x = g
    · subst hxg
      rw [if_pos rfl, if_pos hm]
    · rw [if_neg, if_neg]
      · intro e
        apply hxg
        have : ∀ {l : List GEnt}, l.Pairwise (fun g g' => g.2.mac ≠ g'.2.mac) → ∀ x ∈ l, ∀ y ∈ l, x.2.mac = y.2.mac → x = y := by
          intro l hl
          induction hl with
          | nil => intro x hx; cases hx
          | cons h1 _ ih =>
            intro x hx y hy e
            rcases List.mem_cons.1 hx with rfl | hx' <;> rcases List.mem_cons.1 hy with rfl | hy'
            · rfl
            · exact absurd e (h1 y hy')
            · exact absurd e.symm (h1 x hx')
            · exact ih x hx' y hy' e
        exact this macs x hx g hin (e.trans hm.symm)
      · exact fun e => hxg (eq_of_blk blks hx hin e)

section
variable {w w' : World} {bb bm : Nat} {room life : Int} {bound : List (Int × Int)} {segs segs' : List SegG}
/-- A row of ints that is none of the segments' own is no block of the bridge. -/
theorem BridgeRep.int_apart (B : BridgeRep w bb bm room life bound segs) {k : Nat} {cs : List Value} (hr : Row w k 3 cs) (h : ∀ s ∈ segs, s.pv.ownBlock ≠ some k ∧ s.qv.ownBlock ≠ some k) : ¬ bridgeFp bb bm segs k := by
  rintro (rfl | rfl | ⟨s, hs, hk⟩)
  · exact absurd (hr.inj B.row).1 (by decide)
  · exact row_not_map hr B.map
  · have S := B.srep s hs
    rcases hk with rfl | hk | hk | hk
    · exact absurd (hr.inj S.row).1 (by decide)
    · rcases hk with rfl | rfl | ⟨g, hg, rfl⟩
      · exact absurd (hr.inj S.base.base).1 (by decide)
      · exact row_not_map hr S.base.map
      · exact absurd (hr.inj (S.base.ents g hg)).1 (by decide)
    · exact (h s hs).1 hk
    · exact (h s hs).2 hk
end

/-- Of a frame that is right: what is answered and left. -/
def FromV (w : World) (bb bm : Nat) (room life : Int) (bound : List (Int × Int)) (segs : List SegG) (i : Nat) (es : List Ent) (ps qs : List Int) (p : Place) (mt mo : Mac) (now : Int) (en : Ending) (w' : World) : Prop :=
  ∃ segs' pa ta pl pc tl tc, en = tuple2 pa ta pl pc tl tc (outE life now p mt (learnE es mo p now) ps qs).flood 0 ∧ BridgeRep w' bb bm room life bound segs' ∧ vw segs' = (vw segs).set i ⟨learnE es mo p now, ps, qs⟩ ∧ BrTurn bb bm segs w w' segs' ∧
    IntSl w' (.slice pa pl pc) (outE life now p mt (learnE es mo p now) ps qs).ports ∧ IntSl w' (.slice ta tl tc) (outE life now p mt (learnE es mo p now) ps qs).tunnels ∧
    (∀ a, pa = some a → w.heap.size ≤ a.block ∧ ¬ bridgeFp bb bm segs' a.block) ∧ (∀ a, ta = some a → w.heap.size ≤ a.block ∧ ¬ bridgeFp bb bm segs' a.block)

section
variable (w : World) (bb bm : Nat) (room life : Int) (bound : List (Int × Int)) (segs : List SegG)

theorem FromV.of {w w' : World} {bb bm : Nat} {room life : Int} {bound : List (Int × Int)} {segs : List SegG} {i : Nat} {hi : i < segs.length} {p : Place} {mt mo : Mac} {now : Int} {en : Ending} (B : BridgeRep w bb bm room life bound segs)
    {es : List Ent} {ps qs : List Int} (hV : vseg segs[i] = ⟨es, ps, qs⟩) (hg : groupB mo = false) (hst : ∀ e ∈ es, e.static = false) (hroom : findE es mo = none → (es.length : Int) < room)
    (h : BrFrame w bb bm room life bound segs i hi p mt mo now en w') : FromV w bb bm room life bound segs i es ps qs p mt mo now en w' := by
  obtain ⟨pa, ta, pl, pc, tl, tc, nb, moved, code, gs', rfl, hnb, hres, B', T, hP, hT, hpf, htf⟩ := h
  have S := B.srep _ (List.getElem_mem hi)
  obtain ⟨rfl, rfl, rfl⟩ : segs[i].gs.map (·.2) = es ∧ segs[i].ports = ps ∧ segs[i].peers = qs := by
    unfold vseg at hV
    exact ⟨congrArg VSeg.es hV, congrArg VSeg.ports hV, congrArg VSeg.peers hV⟩
  have hle : gs'.map (·.2) = learnE (segs[i].gs.map (·.2)) mo p now := learnE_of hres hg (fun g hg => hst _ (List.mem_map_of_mem hg)) (fun hf => by
    have := hroom (by rw [findE_eq, hf]; rfl)
    simpa using this) S.base.macs S.base.blks
  rw [outOf_eq, hle] at hP hT ⊢
  have key : ∀ a : Option Addr, ∀ pl pc : Nat, ∀ zs : List Int, IntSl w' (.slice a pl pc) zs → (∀ x, a = some x → w.heap.size ≤ x.block) →
      ∀ x, a = some x → w.heap.size ≤ x.block ∧ ¬ bridgeFp bb bm (segs.set i { segs[i] with gs := gs' }) x.block := by
    intro a pl pc zs hI hf x hx
    refine ⟨hf x hx, ?_⟩
    subst hx
    rcases hI.cases with ⟨h1, _⟩ | ⟨g, cap, cs, h1, hr, _⟩
    · cases h1
    · cases h1
      refine B'.int_apart hr (fun s hs => ?_)
      have h0 : w.heap.size ≤ g := hf _ rfl
      have hin : s ∈ segs ∨ s = { segs[i] with gs := gs' } := List.mem_or_eq_of_mem_set hs
      have : ∃ s0 ∈ segs, s0.pv = s.pv ∧ s0.qv = s.qv := by
        rcases hin with h | h
        · exact ⟨s, h, rfl, rfl⟩
        · exact ⟨_, List.getElem_mem hi, by rw [h], by rw [h]⟩
      obtain ⟨s0, h2, h3, h4⟩ := this
      have S0 := B.srep s0 h2
      constructor
      · intro e
        rw [← h3] at e
        have h9 := S0.ports.blk_lt e
        exact absurd (Nat.lt_of_lt_of_le h9 h0) (Nat.lt_irrefl _)
      · intro e
        rw [← h4] at e
        have h9 := S0.peers.blk_lt e
        exact absurd (Nat.lt_of_lt_of_le h9 h0) (Nat.lt_irrefl _)
  refine ⟨_, pa, ta, pl, pc, tl, tc, rfl, B', ?_, T, hP, hT, key _ _ _ _ hP hpf, key _ _ _ _ hT htf⟩
  unfold vw
  rw [List.map_set]
  unfold vseg
  rw [hle]

theorem learn_v (W : World) {b mb : Nat} {gs : List GEnt} {m : Mac} (hm : m.ok) (p : Place) {now : Int} (hn : u64ok now) (hroom : findG gs m = none → (gs.length : Int) < room) (B : BaseRep W b mb room life gs) :
    Calls Try.prog 53 #[ptr b, macV m, placeV p, .int .u64 now] W (LearnPost b mb room life gs m p now W) :=
  learn_of W b mb room life gs m hm p now hn B (fun W' hf B' => add_room_post W' b mb room life gs ⟨m, p, now, false⟩ ⟨hm, hn⟩ (hroom hf) hf B')

theorem vseg_at {V : VSeg} {i : Nat} (hV : (vw segs)[i]? = some V) : ∃ hi : i < segs.length, vseg segs[i] = V := by
  unfold vw at hV
  rw [List.getElem?_map] at hV
  obtain ⟨s, h1, h2⟩ := Option.map_eq_some_iff.1 hV
  obtain ⟨hi, rfl⟩ := List.getElem?_eq_some_iff.1 h1
  exact ⟨hi, h2⟩

theorem fromport_v (port now n : Int) (i : Nat) (hn : n = i) (hp : i64ok port) (hb : boundTo bound port = some n) (B : BridgeRep w bb bm room life bound segs) {es : List Ent} {ps qs : List Int} (hV : (vw segs)[i]? = some ⟨es, ps, qs⟩)
    (fb fo ln c : Nat) (mt mo : Mac) (h14 : 14 ≤ ln) (h9 : ln ≤ 9000) (hc : ln ≤ c) (hlt : fb < w.heap.size) (h1 : MacAt w fb fo mt) (h2 : MacAt w fb (fo + 6) mo) (hmt : mt.ok) (hof : mo.ok) (hg : groupB mo = false) (hnow : u64ok now)
    (hpl : ps.length ≤ 1073741824) (hql : qs.length ≤ 1073741824) (hst : ∀ e ∈ es, e.static = false) (hroom : findE es mo = none → (es.length : Int) < room) :
    Calls Try.prog 12 #[ptr bb, .int .i64 port, .slice (some ⟨fb, fo, none⟩) ln c, .int .u64 now] w (FromV w bb bm room life bound segs i es ps qs ⟨false, port⟩ mt mo now) := by
  obtain ⟨hi, hV⟩ := vseg_at segs hV
  have e1 : segs[i].gs.map (·.2) = es := congrArg VSeg.es hV
  have e2 : segs[i].ports = ps := congrArg VSeg.ports hV
  have e3 : segs[i].peers = qs := congrArg VSeg.peers hV
  refine (fromport_ok w bb bm room life bound segs port now n i hn hi hp hb B fb fo ln c mt mo h14 h9 hc hlt h1 h2 hmt hof hg hnow (by rw [e2]; exact hpl) (by rw [e3]; exact hql) (fun W hW => learn_v room life W hof _ hnow (fun hf => ?_) hW)).mono ?_
  · have := hroom (by rw [← e1, findE_eq, hf]; rfl)
    rw [← e1] at this
    simpa using this
  · exact fun e w' h => FromV.of B hV hg hst hroom h

theorem fromtunnel_v (port now n : Int) (i : Nat) (hn : n = i) (B : BridgeRep w bb bm room life bound segs) {es : List Ent} {ps qs : List Int} (hV : (vw segs)[i]? = some ⟨es, ps, qs⟩) (hb : qs.contains port = true)
    (fb fo ln c : Nat) (mt mo : Mac) (h14 : 14 ≤ ln) (h9 : ln ≤ 9000) (hc : ln ≤ c) (hlt : fb < w.heap.size) (h1 : MacAt w fb fo mt) (h2 : MacAt w fb (fo + 6) mo) (hmt : mt.ok) (hof : mo.ok) (hg : groupB mo = false) (hnow : u64ok now)
    (hpl : ps.length ≤ 1073741824) (hql : qs.length ≤ 1073741824) (hst : ∀ e ∈ es, e.static = false) (hroom : findE es mo = none → (es.length : Int) < room) :
    Calls Try.prog 28 #[ptr bb, .int .i64 n, .int .i64 port, .slice (some ⟨fb, fo, none⟩) ln c, .int .u64 now] w (FromV w bb bm room life bound segs i es ps qs ⟨true, port⟩ mt mo now) := by
  obtain ⟨hi, hV⟩ := vseg_at segs hV
  have e1 : segs[i].gs.map (·.2) = es := congrArg VSeg.es hV
  have e2 : segs[i].ports = ps := congrArg VSeg.ports hV
  have e3 : segs[i].peers = qs := congrArg VSeg.peers hV
  refine (fromtunnel_ok w bb bm room life bound segs port now n i hn hi (by rw [e3]; exact hb) B fb fo ln c mt mo h14 h9 hc hlt h1 h2 hmt hof hg hnow (by rw [e2]; exact hpl) (by rw [e3]; exact hql) (fun W hW => learn_v room life W hof _ hnow (fun hf => ?_) hW)).mono ?_
  · have := hroom (by rw [← e1, findE_eq, hf]; rfl)
    rw [← e1] at this
    simpa using this
  · exact fun e w' h => FromV.of B hV hg hst hroom h

/-- Bind of a port that is not bound. -/
theorem bind_v (port n : Int) (i : Nat) (hn : n = i) (hp0 : 0 ≤ port) (hp : i64ok port) (B : BridgeRep w bb bm room life bound segs) {es : List Ent} {ps qs : List Int} (hV : (vw segs)[i]? = some ⟨es, ps, qs⟩)
    (hl : ps.length ≤ 1073741823) (hso : ps.Pairwise (· ≤ ·)) (hb : boundTo bound port = none) (h16 : bound.length < 16) :
    Calls Try.prog 18 #[ptr bb, .int .i64 port, .int .i64 n] w fun e w' => ∃ segs', e = .returned (.int .i64 0) ∧ BridgeRep w' bb bm room life (bound ++ [(port, n)]) segs' ∧ vw segs' = (vw segs).set i ⟨es, insI ps port, qs⟩ ∧ BrTurn bb bm segs w w' segs' := by
  obtain ⟨hi, hV⟩ := vseg_at segs hV
  have e1 : segs[i].gs.map (·.2) = es := congrArg VSeg.es hV
  have e2 : segs[i].ports = ps := congrArg VSeg.ports hV
  have e3 : segs[i].peers = qs := congrArg VSeg.peers hV
  refine (bind_new w bb bm room life bound segs port n i hn hi hp0 hp (by rw [e2]; exact hl) (by rw [e2]; exact hso) B hb h16).mono ?_
  rintro e w' ⟨bound', segs', v', rfl, ⟨rfl, rfl⟩, B', T⟩
  refine ⟨_, rfl, B', ?_, T⟩
  unfold vw
  rw [List.map_set]
  unfold vseg
  rw [e1, e2, e3]

/-- Peer of a tunnel that is no peer yet. -/
theorem peer_v (tunnel n : Int) (i : Nat) (hn : n = i) (ht : 0 ≤ tunnel) (B : BridgeRep w bb bm room life bound segs) {es : List Ent} {ps qs : List Int} (hV : (vw segs)[i]? = some ⟨es, ps, qs⟩)
    (hl : qs.length < 8) (hso : qs.Pairwise (· ≤ ·)) (hb : qs.contains tunnel = false) :
    Calls Try.prog 22 #[ptr bb, .int .i64 n, .int .i64 tunnel] w fun e w' => ∃ segs', e = .returned (.int .i64 0) ∧ BridgeRep w' bb bm room life bound segs' ∧ vw segs' = (vw segs).set i ⟨es, ps, insI qs tunnel⟩ ∧ BrTurn bb bm segs w w' segs' := by
  obtain ⟨hi, hV⟩ := vseg_at segs hV
  have e1 : segs[i].gs.map (·.2) = es := congrArg VSeg.es hV
  have e2 : segs[i].ports = ps := congrArg VSeg.ports hV
  have e3 : segs[i].peers = qs := congrArg VSeg.peers hV
  refine (peer_in w bb bm room life bound segs n tunnel i hn hi ht (by rw [e3]; omega) (by rw [e3]; exact hso) B).mono ?_
  rintro e w' ⟨code, segs', rfl, B', T, h⟩
  rcases h with ⟨h1, _⟩ | ⟨_, h1, _⟩ | ⟨_, _, rfl, v', rfl⟩
  · rw [e3, hb] at h1
    cases h1
  · rw [e3] at h1
    omega
  · refine ⟨_, rfl, B', ?_, T⟩
    unfold vw
    rw [List.map_set]
    unfold vseg
    rw [e1, e2, e3]

theorem new_v (room0 : Int) : Calls Try.prog 8 #[.int .i64 room0, .int .u64 life] w fun e w' => ∃ bb bm segs, e = .returned (ptr bb) ∧ BridgeRep w' bb bm (roomOf room0) life [] segs ∧ vw segs = List.replicate 8 ⟨[], [], []⟩ ∧
      (∀ k, bridgeFp bb bm segs k → w.heap.size ≤ k) ∧ Below w.heap.size w w' := by
  refine (bnew_any w room0 life).mono ?_
  rintro e w' ⟨bb, bm, segs, rfl, B, hn, hk, hb⟩
  refine ⟨bb, bm, segs, rfl, B, ?_, hk, hb⟩
  rw [← B.len]
  unfold vw
  rw [List.eq_replicate_iff]
  refine ⟨by simp, fun v hv => ?_⟩
  obtain ⟨s, hs, rfl⟩ := List.mem_map.1 hv
  have := hn s hs
  unfold vseg
  obtain ⟨e1, _, _, e2, e3⟩ := this
  rw [e1, e2, e3]
  rfl
end
end Go.Proofs.Ytmddhglhfgomiaa
