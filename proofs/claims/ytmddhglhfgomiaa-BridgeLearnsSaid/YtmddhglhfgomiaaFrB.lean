/- bridge: where a frame goes that may go. Conditions: none. -/
import Derived.Test.YtmddhglhfgomiaaFr
namespace Go.Proofs.Ytmddhglhfgomiaa
open Go Go.RowKit Go.Maps

structure OutM where
  (ports tunnels : List Int)
  (flood : Bool)

/-- Where a frame goes that came from p, to the MAC mt. -/
def outOf (life now : Int) (p : Place) (mt : Mac) (gs : List GEnt) (ports peers : List Int) : OutM :=
  match groupB mt, seenE life now (findG gs mt) with
  | false, some q => if q = p ∨ (q.tunnel = true ∧ p.tunnel = true) then ⟨[], [], false⟩ else if q.tunnel then ⟨[], [q.n], false⟩ else ⟨[q.n], [], false⟩
  | _, _ => if p.tunnel then ⟨ports, [], true⟩ else ⟨strike ports p.n, peers, true⟩

/-- An answer: two rows of its own, or nil. -/
def OutAt (w w' : World) (v : Value) (o : OutM) : Prop :=
  ∃ pv tv, v = .agg #[pv, tv, .bool o.flood] ∧ IntSl w' pv o.ports ∧ IntSl w' tv o.tunnels ∧ (∀ g, pv.ownBlock = some g → w.heap.size ≤ g) ∧ (∀ g, tv.ownBlock = some g → w.heap.size ≤ g)

def FramePost (w : World) (room life : Int) (s : SegG) (p : Place) (mt mo : Mac) (now : Int) (en : Ending) (w' : World) : Prop :=
  ∃ v nb moved code gs', en = .returned (.tuple #[v, .int .i64 0]) ∧ w.heap.size ≤ nb ∧ LearnRes room s.gs mo p now nb moved code gs' ∧ SegRep w' room life { s with gs := gs' } ∧ Frm (baseFp s.base s.mb s.gs) w w' ∧
    OutAt w w' v (outOf life now p mt gs' s.ports s.peers)

theorem SegRep.learn {w w' : World} {room life : Int} {s : SegG} {gs' : List GEnt} (S : SegRep w room life s) (hB : BaseRep w' s.base s.mb room life gs') (hF : Frm (baseFp s.base s.mb s.gs) w w') :
    SegRep w' room life { s with gs := gs' } :=
  ⟨S.row.frm hF (fun h => (S.base_apart h).1 rfl), hB, S.ports.frm hF (fun _ hg h => (S.base_apart h).2.1 hg), S.peers.frm hF (fun _ hg h => (S.base_apart h).2.2 hg)⟩

theorem SegRep.frm0 {w w' : World} {room life : Int} {s : SegG} (S : SegRep w room life s) (f : Frm (fun _ => False) w w') : SegRep w' room life s := S.frm f (fun _ _ h => h)
theorem Row.frm0 {w w' : World} {b T : Nat} {cs : List Value} (h : Row w b T cs) (f : Frm (fun _ => False) w w') : Row w' b T cs := h.frm f (fun h => h)
theorem Frm.trans0 {F : Nat → Prop} {w w' w'' : World} (h : Frm F w w') (f : Frm (fun _ => False) w' w'') : Frm F w w'' := h.trans f (fun _ h _ => h.elim)
theorem FrA.frame0 {F : Nat → Prop} {w wx wy : World} {p : Place} {mt mo : Mac} {bt bo : Nat} (A : FrA F w p mt mo bt bo wx) (f : Frm (fun _ => False) wx wy) : FrA F w p mt mo bt bo wy := A.frame f (fun _ h => h.elim)

theorem put2 {w : World} {b T : Nat} {x y : Value} (h : Row w b T [x, y]) (x' y' : Value) : Row ((w.setCell ⟨b, 0, none⟩ x').setCell ⟨b, 1, none⟩ y') b T [x', y'] := (h.set 0 x').set 1 y'
theorem put3 {w : World} {b T : Nat} {x y z : Value} (h : Row w b T [x, y, z]) (x' y' z' : Value) : Row (((w.setCell ⟨b, 0, none⟩ x').setCell ⟨b, 1, none⟩ y').setCell ⟨b, 2, none⟩ z') b T [x', y', z'] := ((h.set 0 x').set 1 y').set 2 z'

theorem SegRep.no_out {w : World} {room life : Int} {s : SegG} (S : SegRep w room life s) {k : Nat} (hk : segFp s k) {cs : List Value} (hr : Row w k 34 cs) : False := by
  rcases hk with rfl | h | h | h
  · exact absurd (hr.inj S.row).1 (by decide)
  · rcases h with rfl | rfl | ⟨g, hg, rfl⟩
    · exact absurd (hr.inj S.base.base).1 (by decide)
    · exact row_not_map hr S.base.map
    · exact absurd (hr.inj (S.base.ents g hg)).1 (by decide)
  · rcases S.ports.cases with ⟨h1, _⟩ | ⟨g, cap, cs, h1, hr', _⟩
    · rw [h1] at h
      cases h
    · rw [h1] at h
      cases h
      exact absurd (hr.inj hr').1 (by decide)
  · rcases S.peers.cases with ⟨h1, _⟩ | ⟨g, cap, cs, h1, hr', _⟩
    · rw [h1] at h
      cases h
    · rw [h1] at h
      cases h
      exact absurd (hr.inj hr').1 (by decide)

theorem IntSl.no_out {w : World} {v : Value} {zs : List Int} (h : IntSl w v zs) {g : Nat} (hg : v.ownBlock = some g) {cs : List Value} (hr : Row w g 34 cs) : False := by
  rcases h.cases with ⟨rfl, _⟩ | ⟨g', cap, cs, rfl, hr', _⟩
  · cases hg
  · cases hg
    exact absurd (hr.inj hr').1 (by decide)

theorem framePost_mk {w wx w' : World} {room life : Int} {s : SegG} {p : Place} {mt mo : Mac} {bt bo : Nat} {now : Int} {nb : Nat} {moved : Bool} {code : Int} {gs' : List GEnt} {pv tv : Value} {ps ts : List Int} {fl : Bool}
    (A : FrA (baseFp s.base s.mb s.gs) w p mt mo bt bo wx) (hS : SegRep wx room life { s with gs := gs' }) (hnb : w.heap.size ≤ nb) (hres : LearnRes room s.gs mo p now nb moved code gs')
    (hf : Frm (fun k => w.heap.size ≤ k ∧ ∃ cs, Row wx k 34 cs) wx w') (hP : IntSl wx pv ps) (hT : IntSl wx tv ts) (hpf : ∀ g, pv.ownBlock = some g → w.heap.size ≤ g) (htf : ∀ g, tv.ownBlock = some g → w.heap.size ≤ g)
    (ho : outOf life now p mt gs' s.ports s.peers = ⟨ps, ts, fl⟩) :
    FramePost w room life s p mt mo now (.returned (.tuple #[.agg #[pv, tv, .bool fl], .int .i64 0])) w' := by
  refine ⟨_, nb, moved, code, gs', rfl, hnb, hres, hS.frm hf (fun k hk h => ?_), A.frm.trans hf (fun i h hi => absurd h.1 (by omega)), pv, tv, ?_, ?_, ?_, ?_, ?_⟩
  · obtain ⟨_, cs, hr⟩ := h
    exact hS.no_out hk hr
  · rw [ho]
  · rw [ho]
    exact hP.frm hf (fun g hg ⟨_, cs, hr⟩ => hP.no_out hg hr)
  · rw [ho]
    exact hT.frm hf (fun g hg ⟨_, cs, hr⟩ => hT.no_out hg hr)
  · exact hpf
  · exact htf

theorem one_new (w : World) (n : Nat) (x : Int) (h : w.heap.size = n) : IntSl (w.alloc (.cells #[.int .i64 x] 3)) (.slice (some ⟨n, 0, none⟩) 1 1) [x] := h ▸ IntSl.mk (zs := [x]) (Row.new w _ [.int .i64 x]) (by simp) (by decide) rfl rfl

theorem framePost_mk3 {w wx w' : World} {room life : Int} {s : SegG} {p : Place} {mt mo : Mac} {bt bo : Nat} {now : Int} {nb : Nat} {moved : Bool} {code : Int} {gs' : List GEnt} {pv tv : Value} {ps ts : List Int} {fl : Bool}
    (A : FrA (baseFp s.base s.mb s.gs) w p mt mo bt bo wx) (hS : SegRep wx room life { s with gs := gs' }) (hnb : w.heap.size ≤ nb) (hres : LearnRes room s.gs mo p now nb moved code gs')
    (hf : Frm (fun k => w.heap.size ≤ k ∧ ∃ cs, Row wx k 34 cs) wx w') (hP : IntSl w' pv ps) (hT : IntSl w' tv ts) (hpf : ∀ g, pv.ownBlock = some g → w.heap.size ≤ g) (htf : ∀ g, tv.ownBlock = some g → w.heap.size ≤ g)
    (ho : outOf life now p mt gs' s.ports s.peers = ⟨ps, ts, fl⟩) :
    FramePost w room life s p mt mo now (.returned (.tuple #[.agg #[pv, tv, .bool fl], .int .i64 0])) w' := by
  refine ⟨_, nb, moved, code, gs', rfl, hnb, hres, hS.frm hf (fun k hk h => ?_), A.frm.trans hf (fun i h hi => absurd h.1 (by omega)), pv, tv, ?_, ?_, ?_, hpf, htf⟩
  · obtain ⟨_, cs, hr⟩ := h
    exact hS.no_out hk hr
  · rw [ho]
  · rw [ho]
    exact hP
  · rw [ho]
    exact hT

theorem framePost_mk2 {w wx wF w' : World} {room life : Int} {s : SegG} {p : Place} {mt mo : Mac} {bt bo bx : Nat} {now : Int} {nb : Nat} {moved : Bool} {code : Int} {gs' : List GEnt} {pv tv : Value} {ps ts : List Int} {fl : Bool} {cs cs' : List Value}
    (A : FrA (baseFp s.base s.mb s.gs) w p mt mo bt bo wx) (hS : SegRep wx room life { s with gs := gs' }) (hnb : w.heap.size ≤ nb) (hres : LearnRes room s.gs mo p now nb moved code gs')
    (hF : Frm (fun k => k = bx) wx wF) (hO : Row wF (w.heap.size + 1) 34 cs) (hX : Row wx bx 34 cs') (hbx : w.heap.size + 2 ≤ bx) (hf : Frm (fun k => k = w.heap.size + 1) wF w')
    (hP : IntSl wF pv ps) (hT : IntSl wF tv ts) (hpf : ∀ g, pv.ownBlock = some g → wx.heap.size ≤ g) (htf : ∀ g, tv.ownBlock = some g → wx.heap.size ≤ g)
    (ho : outOf life now p mt gs' s.ports s.peers = ⟨ps, ts, fl⟩) :
    FramePost w room life s p mt mo now (.returned (.tuple #[.agg #[pv, tv, .bool fl], .int .i64 0])) w' := by
  have hg : Frm (fun k => w.heap.size ≤ k ∧ ∃ cs, Row wx k 34 cs) wx w' := (hF.mono (fun k h => h ▸ ⟨by omega, _, hX⟩)).trans hf (fun i h _ => h ▸ ⟨by omega, _, A.out⟩)
  refine ⟨_, nb, moved, code, gs', rfl, hnb, hres, hS.frm hg (fun k hk h => ?_), A.frm.trans hg (fun i h hi => absurd h.1 (by omega)), pv, tv, ?_, ?_, ?_, ?_, ?_⟩
  · obtain ⟨_, cs, hr⟩ := h
    exact hS.no_out hk hr
  · rw [ho]
  · rw [ho]
    exact hP.frm hf (fun g hg h => hP.no_out hg (h ▸ hO))
  · rw [ho]
    exact hT.frm hf (fun g hg h => hT.no_out hg (h ▸ hO))
  · exact fun g hg => Nat.le_trans A.frm.size (hpf g hg)
  · exact fun g hg => Nat.le_trans A.frm.size (htf g hg)

theorem out13 {wE w2 w' : World} {bx : Nat} {pv qv a b c : Value} {ps qs : List Int} (R : Row w2 bx 34 [a, b, c]) (hF : Frm (fun _ => False) wE w2) (hP : IntSl w2 pv ps) (hQ : IntSl w2 qv qs)
    (hPf : ∀ g, pv.ownBlock = some g → wE.heap.size ≤ g) (hQf : ∀ g, qv.ownBlock = some g → wE.heap.size ≤ g)
    (hw : w' = (w2.setCell ⟨bx, 0, none⟩ pv).setCell ⟨bx, 1, none⟩ qv ∨ w' = (w2.setCell ⟨bx, 1, none⟩ qv).setCell ⟨bx, 0, none⟩ pv) :
    ∃ pv qv, Row w' bx 34 [pv, qv, c] ∧ IntSl w' pv ps ∧ IntSl w' qv qs ∧ (∀ g, pv.ownBlock = some g → wE.heap.size ≤ g) ∧ (∀ g, qv.ownBlock = some g → wE.heap.size ≤ g) ∧ Frm (fun k => k = bx) wE w' := by
  have hf : Frm (fun k => k = bx) w2 w' := by
    rcases hw with rfl | rfl
    · exact ((Frm.refl (fun k => k = bx) _).setCell _ (fun _ => rfl)).setCell _ (fun _ => rfl)
    · exact ((Frm.refl (fun k => k = bx) _).setCell _ (fun _ => rfl)).setCell _ (fun _ => rfl)
  refine ⟨pv, qv, ?_, hP.frm hf (fun g hg h => hP.no_out hg (h ▸ R)), hQ.frm hf (fun g hg h => hQ.no_out hg (h ▸ R)), hPf, hQf, (hF.mono (fun _ h => h.elim)).trans hf (fun i h _ => h)⟩
  rcases hw with rfl | rfl
  · exact (R.set 0 pv).set 1 qv
  · exact (R.set 1 qv).set 0 pv

set_option maxRecDepth 100000 in
set_option maxHeartbeats 4000000 in
theorem sframe_ok (w : World) (room life : Int) (s : SegG) (fb fo : Nat) (p : Place) (n c : Nat) (now : Int) (mt mo : Mac) (hn : 14 ≤ n) (hn2 : n ≤ 9000) (hc : n ≤ c) (hlt : fb < w.heap.size)
    (h1 : MacAt w fb fo mt) (h2 : MacAt w fb (fo + 6) mo) (hmt : mt.ok) (hof : mo.ok) (hg : groupB mo = false) (hnow : u64ok now) (hpl : s.ports.length ≤ 1073741824) (hql : s.peers.length ≤ 1073741824) (S : SegRep w room life s)
    (hlearn : ∀ W, BaseRep W s.base s.mb room life s.gs → Calls Try.prog 53 #[ptr s.base, macV mo, placeV p, .int .u64 now] W (LearnPost s.base s.mb room life s.gs mo p now W)) :
    Calls Try.prog 36 #[ptr s.blk, placeV p, .slice (some ⟨fb, fo, none⟩) n c, .int .u64 now] w (FramePost w room life s p mt mo now) := by
  obtain ⟨a0, a1, a2, a3, a4, a5⟩ := h1
  obtain ⟨b0, b1, b2, b3, b4, b5⟩ := h2
  have hc6 : ¬ c = 6 := by omega
  have hgr := fun W => group_any W mo hof
  have s1 := fun W => arr_at W (some ⟨fb, fo, none⟩) n c (by omega)
  have s2 := fun W => arr_at W (some ⟨fb, fo + 6, none⟩) (n - 6) (c - 6) (by omega)
  rw [hg] at hgr
  go_enter Try.func36, Try.ntmps36
  go_upto_region 5 with fail
  go_cut [10, 11] (fun t10 t11 wx => ∃ bt bo, t10 = ptr bt ∧ t11 = ptr bo ∧ FrA (fun _ => False) w p mt mo bt bo wx)
  case first =>
    go_region
    all_goals
      go_wp2_with fail
      go_meet
      first
        | exact ⟨_, _, rfl, rfl, frA_new1 w p mt mo⟩
        | exact ⟨_, _, rfl, rfl, (frA_new1 w p mt mo).drew⟩
        | exact ⟨_, _, rfl, rfl, frA_new2 w p mt mo⟩
        | exact ⟨_, _, rfl, rfl, (frA_new2 w p mt mo).drew⟩
  case rest =>
    obtain ⟨wA, rfl⟩ : ∃ x : World, x = wc := ⟨_, rfl⟩
    obtain ⟨bt, bo, rfl, rfl, A⟩ := hcut
    clear a0 a1 a2 a3 a4 a5 b0 b1 b2 b3 b4 b5 s1 s2
    obtain ⟨o0, o1, o2, o3, o4, o5⟩ := mac_cells A.ro
    have p0 := A.place.cell 0
    have p1 := A.place.cell 1
    simp at p0 p1
    have Sc := S.frm A.frm (fun _ _ h => h)
    have c0 := Sc.row.cell 0
    simp at c0
    have hsl := Sc.row.lt
    have hpl0 := A.place.lt
    have hol := A.ro.lt
    have hB : ∀ o, BaseRep (wA.alloc o).drew s.base s.mb room life s.gs := fun o => (Sc.base.alloc o).drewN 1
    have hAl : ∀ o, FrA (fun _ => False) w p mt mo bt bo (wA.alloc o).drew := fun o => (A.frame (G := fun _ => False) ((Frm.refl _ _).alloc o) (fun _ h => h.elim)).drew
    go_upto_region 8 with (go_at_call 52; refine (hgr _).mono ?_; rintro e w' ⟨rfl, rfl⟩)
    go_cut [] (fun wx => FrA (baseFp s.base s.mb s.gs) w p mt mo bt bo wx ∧ ∃ nb moved code gs', w.heap.size ≤ nb ∧ LearnRes room s.gs mo p now nb moved code gs' ∧ BaseRep wx s.base s.mb room life gs')
    case first =>
      refine wp_region_still_tail 7 (by kernel_rfl) (by kernel_rfl) ?_; simp only [List.take_succ_cons, List.take_zero, List.drop_succ_cons, List.drop_zero]; change wpStill _ _ (World.drew _) (fun a' => wpList _ _ _ _ a' (World.drew _)) _ _; (repeat still_step); refine wpStill_nil ?_
      go_wp2_with (go_at_call 53; refine (hlearn _ (hB _)).mono ?_; rintro e w' ⟨nb, moved, code, gs', rfl, hnb, hres, hB', hF⟩)
      go_meet
      refine ⟨((hAl _).weaken (fun _ h => h.elim)).frame hF (fun k hk => ⟨hk, S.base.fp_lt k hk⟩), nb, moved, code, gs', Nat.le_trans (hAl _).frm.size hnb, hres, hB'⟩
    case rest =>
      obtain ⟨wB, rfl⟩ : ∃ x : World, x = wc := ⟨_, rfl⟩
      obtain ⟨A2, nb, moved, code, gs', hnb, hres, hB'⟩ := hcut
      have hS2 : SegRep wB room life { s with gs := gs' } := S.learn hB' A2.frm
      have Sr2 := hS2.row.cell 0
      simp at Sr2
      obtain ⟨t0, t1, t2, t3, t4, t5⟩ := mac_cells A2.rt
      have htl := A2.rt.lt
      have hsl2 := hS2.row.lt
      have hfind := fun W (h : BaseRep W s.base s.mb room life gs') => find_any W s.base s.mb room life now gs' mt hmt hnow h
      have hBa : ∀ o, BaseRep (wB.alloc o).drew s.base s.mb room life gs' := fun o => (hB'.alloc o).drewN 1
      have hBd : BaseRep wB.drew s.base s.mb room life gs' := hB'.drewN 1
      obtain ⟨q, hq⟩ : ∃ q, q = seenE life now (findG gs' mt) := ⟨_, rfl⟩
      rw [← hq] at hfind
      have HQ := Lib.hid hq
      clear hq
      go_upto_region 9 with fail
      go_cut [12, 13] (fun t12 t13 wx => ∃ bp, t12 = ptr bp ∧ w.heap.size + 2 ≤ bp ∧ t13 = .bool q.isSome ∧ Row wx bp 46 [.bool (q.getD ⟨false, 0⟩).tunnel, .int .i64 (q.getD ⟨false, 0⟩).n] ∧ Frm (fun _ => False) wB wx)
      case first =>
        have hszB := A2.frm.size
        have hBl := A2.out.lt
        go_region_with (go_at_call 14; first | (refine (hfind _ hBd).mono ?_; rintro e w' ⟨rfl, hF⟩; have hF0 := ((Frm.refl (fun _ => False) wB).drew).trans0 hF; have hsz := hF0.size; clear hF) | (refine (hfind _ (hBa _)).mono ?_; rintro e w' ⟨rfl, hF⟩; have hbx := ((Row.new wB 46 [.bool false, .int .i64 0]).drew).frm hF (fun h => h); have hx0 := hbx.cell 0; have hx1 := hbx.cell 1; simp at hx0 hx1; have hbf := hbx.free; have hbl := hbx.lt; have hF0 := ((Frm.refl (fun _ => False) wB).alloc (.cells #[.bool false, .int .i64 0] 46)).drew.trans0 hF; have hsz := hF0.size; clear hF))
        all_goals
          go_wp2_with fail
          go_meet
          refine ⟨_, rfl, ?_, rfl, ?_, ?_⟩
          · omega
          · first
              | with_reducible exact Row.new _ _ _
              | with_reducible exact put2 hbx _ _
          · first
              | with_reducible exact hF0.alloc _
              | with_reducible exact (hF0.setCell _ (fun h => absurd h (Nat.lt_irrefl _))).setCell _ (fun h => absurd h (Nat.lt_irrefl _))
      case rest =>
        obtain ⟨wC, rfl⟩ : ∃ x : World, x = wc := ⟨_, rfl⟩
        obtain ⟨bp, rfl, hbp, h13, hP, hFC⟩ := hcut
        replace A2 := A2.frame0 hFC
        replace hS2 := hS2.frm0 hFC
        clear hFC hfind hBa hBd Sr2 htl hsl2 t0 t1 t2 t3 t4 t5 hB'
        obtain ⟨t0, t1, t2, t3, t4, t5⟩ := mac_cells A2.rt
        have htl := A2.rt.lt
        have hgt := fun W => group_any W mt hmt
        obtain ⟨fl, hfl⟩ : ∃ fl, fl = (groupB mt || q.isNone) := ⟨_, rfl⟩
        have hfl' := Lib.hid hfl
        clear hfl
        go_upto_region 10 with fail
        go_cut [53] (fun t53 wx => t53 = .bool fl ∧ Frm (fun _ => False) wC wx)
        case first =>
          subst h13
          cases hgm : groupB mt
          · rw [hgm] at hgt
            go_wp2_with (go_at_call 52; refine (hgt _).mono ?_; rintro e w' ⟨rfl, rfl⟩)
            go_meet
            exact ⟨by rw [show fl = (groupB mt || q.isNone) from hfl', hgm]; cases q <;> rfl, (Frm.refl _ wC).alloc _⟩
          · rw [hgm] at hgt
            go_wp2_with (go_at_call 52; refine (hgt _).mono ?_; rintro e w' ⟨rfl, rfl⟩)
            go_meet
            exact ⟨by rw [show fl = (groupB mt || q.isNone) from hfl', hgm]; rfl, (Frm.refl _ wC).alloc _⟩
        case rest =>
          obtain ⟨wD, rfl⟩ : ∃ x : World, x = wc := ⟨_, rfl⟩
          obtain ⟨rfl, hFD⟩ := hcut
          replace A2 := A2.frame0 hFD
          replace hS2 := hS2.frm0 hFD
          replace hP := hP.frm0 hFD
          clear hFD hgt t0 t1 t2 t3 t4 t5 htl h13
          have RS := hS2.row
          have k1 := RS.cell 1
          simp at k1
          have kl := RS.lt
          cases fl
          · have h1 : (groupB mt || q.isNone) = false := hfl'.symm
            have h2 : groupB mt = false := by
              cases hg' : groupB mt
              · rfl
              · rw [hg'] at h1; simp at h1
            cases q with
            | none => rw [h2] at h1; simp at h1
            | some r =>
              clear h1
              have hz2 := A2.frm.size
              have ho : outOf life now p mt gs' s.ports s.peers = if r = p ∨ (r.tunnel = true ∧ p.tunnel = true) then ⟨[], [], false⟩ else if r.tunnel then ⟨[], [r.n], false⟩ else ⟨[r.n], [], false⟩ := by
                unfold outOf
                rw [← show some r = seenE life now (findG gs' mt) from HQ, h2]
              have hO := Lib.hid ho
              clear ho h2 k1 kl RS
              change Row wD bp 46 [.bool r.tunnel, .int .i64 r.n] at hP
              have R5 := A2.place
              have q0 := R5.cell 0
              have q1 := R5.cell 1
              have r0 := hP.cell 0
              have r1 := hP.cell 1
              have y0 := A2.out.cell 0
              have y1 := A2.out.cell 1
              have y2 := A2.out.cell 2
              have yf := A2.out.free
              have yl := A2.out.lt
              have ql := R5.lt
              have rl := hP.lt
              simp at q0 q1 r0 r1 y0 y1 y2
              have hE := fun W => place_eql r p W
              obtain ⟨rt, rn⟩ := r
              obtain ⟨pt, pn⟩ := p
              by_cases hrp : (⟨rt, rn⟩ : Place) = ⟨pt, pn⟩
              · simp only [hrp, decide_true] at hE
                cases hrp
                go_wp2_with fail
                refine bodyPost_ret (v := .tuple #[.agg #[.slice none 0 0, .slice none 0 0, .bool false], .int .i64 0]) (by simp [results, Try.results36, go_sem, *]) rfl ?_
                refine framePost_mk A2 hS2 hnb hres ?_ (IntSl.nil _) (IntSl.nil _) (fun g hg => nomatch hg) (fun g hg => nomatch hg) (by rw [show outOf _ _ _ _ _ _ _ = _ from hO]; simp)
                (repeat (first | with_reducible exact Frm.refl _ _ | with_reducible refine Frm.drew ?_ | with_reducible refine Frm.alloc ?_ _ | with_reducible refine Frm.setCell ?_ _ (fun _ => ⟨by omega, _, A2.out⟩)))
              · simp only [hrp, decide_false] at hE
                have hrp' := Lib.hid hrp
                clear hrp
                cases rt
                · go_wp2_with fail
                  refine bodyPost_ret (v := .tuple #[.agg #[.slice (some ⟨wD.heap.size, 0, none⟩) 1 1, .slice none 0 0, .bool false], .int .i64 0]) (by simp [results, Try.results36, go_sem, *]) rfl ?_
                  refine framePost_mk3 A2 hS2 hnb hres ?_ (one_new _ _ rn (by simp)) (IntSl.nil _) (fun g hg => by cases hg; exact hz2) (fun g hg => nomatch hg) (by rw [show outOf _ _ _ _ _ _ _ = _ from hO, if_neg (fun h => h.elim (show ¬ _ from hrp') (fun h => by cases h.1 <;> cases h.2))]; rfl)
                  (repeat (first | with_reducible exact Frm.refl _ _ | with_reducible refine Frm.drew ?_ | with_reducible refine Frm.alloc ?_ _ | with_reducible refine Frm.setCell ?_ _ (fun _ => ⟨by omega, _, A2.out⟩)))
                · cases pt
                  · go_wp2_with fail
                    refine bodyPost_ret (v := .tuple #[.agg #[.slice none 0 0, .slice (some ⟨wD.heap.size, 0, none⟩) 1 1, .bool false], .int .i64 0]) (by simp [results, Try.results36, go_sem, *]) rfl ?_
                    refine framePost_mk3 A2 hS2 hnb hres ?_ (IntSl.nil _) (one_new _ _ rn (by simp)) (fun g hg => nomatch hg) (fun g hg => by cases hg; exact hz2) (by rw [show outOf _ _ _ _ _ _ _ = _ from hO, if_neg (fun h => h.elim (show ¬ _ from hrp') (fun h => by cases h.1 <;> cases h.2))]; rfl)
                    (repeat (first | with_reducible exact Frm.refl _ _ | with_reducible refine Frm.drew ?_ | with_reducible refine Frm.alloc ?_ _ | with_reducible refine Frm.setCell ?_ _ (fun _ => ⟨by omega, _, A2.out⟩)))
                  · go_wp2_with fail
                    refine bodyPost_ret (v := .tuple #[.agg #[.slice none 0 0, .slice none 0 0, .bool false], .int .i64 0]) (by simp [results, Try.results36, go_sem, *]) rfl ?_
                    refine framePost_mk A2 hS2 hnb hres ?_ (IntSl.nil _) (IntSl.nil _) (fun g hg => nomatch hg) (fun g hg => nomatch hg) (by rw [show outOf _ _ _ _ _ _ _ = _ from hO, if_pos (by simp)])
                    (repeat (first | with_reducible exact Frm.refl _ _ | with_reducible refine Frm.drew ?_ | with_reducible refine Frm.alloc ?_ _ | with_reducible refine Frm.setCell ?_ _ (fun _ => ⟨by omega, _, A2.out⟩)))
          · have hcl := fun W (f : Frm (fun _ => False) wD W) => clone_any W s.pv s.ports (hS2.frm0 f).ports hpl
            go_upto_region 11 with fail
            go_cut [14] (fun t14 wx => ∃ bx pv, t14 = ptr bx ∧ w.heap.size + 2 ≤ bx ∧ Row wx bx 34 [pv, .slice none 0 0, .bool true] ∧ IntSl wx pv s.ports ∧ (∀ g, pv.ownBlock = some g → w.heap.size ≤ g) ∧ Frm (fun _ => False) wD wx)
            case first =>
              go_wp2_with (go_at_call 38; refine (hcl _ (Frm.refl _ _)).mono ?_; rintro e w' ⟨pv', rfl, hI, hIf, hIb⟩; obtain ⟨sa, sc, rfl⟩ := hI.len)
              go_meet
              have hF0 := Frm.of_below' hIb (fun _ => False)
              have hz := hF0.size
              have hz2 := A2.frm.size
              have hz3 := A2.out.lt
              refine ⟨_, _, rfl, ?_, ?_, ?_, fun g hg => Nat.le_trans hz2 (hIf g hg), ?_⟩
              · omega
              · first
                  | with_reducible exact Row.new _ _ _
              · exact hI.frm ((Frm.refl (fun _ => False) _).alloc _) (fun _ _ h => h)
              · first
                  | with_reducible exact hF0.alloc _
            case rest =>
              obtain ⟨wE, rfl⟩ : ∃ x : World, x = wc := ⟨_, rfl⟩
              obtain ⟨bx, pv, rfl, hbx, R14, hI, hIf, hFE⟩ := hcut
              have hz2 := A2.frm.size
              replace A2 := A2.frame0 hFE
              replace hS2 := hS2.frm0 hFE
              clear RS k1 kl hcl hP hbp
              obtain ⟨sa, sc, rfl⟩ := hI.len
              have RS := hS2.row
              have k1 := RS.cell 1
              have k2 := RS.cell 2
              have kl := RS.lt
              have R5 := A2.place
              have q0 := R5.cell 0
              have q1 := R5.cell 1
              have r0 := R14.cell 0
              have r1 := R14.cell 1
              have r2 := R14.cell 2
              have rf := R14.free
              have rl := R14.lt
              have y0 := A2.out.cell 0
              have y1 := A2.out.cell 1
              have y2 := A2.out.cell 2
              have yf := A2.out.free
              have yl := A2.out.lt
              simp at k1 k2 q0 q1 r0 r1 r2 y0 y1 y2
              have ho : outOf life now p mt gs' s.ports s.peers = if p.tunnel then ⟨s.ports, [], true⟩ else ⟨strike s.ports p.n, s.peers, true⟩ := by
                have h1 : (groupB mt || q.isNone) = true := hfl'.symm
                unfold outOf
                rw [← show q = seenE life now (findG gs' mt) from HQ]
                cases hg' : groupB mt
                · cases q with
                  | none => rfl
                  | some r => rw [hg'] at h1; simp at h1
                · rfl
              have hO := Lib.hid ho
              clear ho
              cases hpt : p.tunnel
              · rw [hpt] at q0
                have hpt' := Lib.hid hpt
                clear hpt
                have hwo := fun W (f : Frm (fun _ => False) wE W) => without_any W s.pv s.ports p.n (hS2.frm0 f).ports hpl
                have hcl := fun W (f : Frm (fun _ => False) wE W) => clone_any W s.qv s.peers (hS2.frm0 f).peers hql
                have hd : Frm (fun _ => False) wE wE.drew := (Frm.refl _ wE).drew
                go_upto_region 13 with fail
                go_cut [] (fun wx => ∃ pv qv, Row wx bx 34 [pv, qv, .bool true] ∧ IntSl wx pv (strike s.ports p.n) ∧ IntSl wx qv s.peers ∧ (∀ g, pv.ownBlock = some g → wE.heap.size ≤ g) ∧ (∀ g, qv.ownBlock = some g → wE.heap.size ≤ g) ∧ Frm (fun k => k = bx) wE wx)
                case first =>
                  go_region_with (first
                    | (go_at_call 42; first
                        | (refine (hwo _ hd).mono ?_; rintro e w' ⟨pv', rfl, hP1, hPf', hb⟩; obtain ⟨sa1, sc1, rfl⟩ := hP1.len; have hPf := fun g hg => Nat.le_trans hd.size (hPf' g hg); clear hPf'; have hF1 := hd.trans0 (Frm.of_below' hb (fun _ => False)); clear hb; have k2 := (RS.frm0 hF1).cell 2; have r0 := (R14.frm0 hF1).cell 0; have r1 := (R14.frm0 hF1).cell 1; simp at k2 r0 r1; have rf := (R14.frm0 hF1).free; have rl := (R14.frm0 hF1).lt; have kl := (RS.frm0 hF1).lt)
                        | (refine (hwo _ hF1).mono ?_; rintro e w' ⟨pv', rfl, hP1, hPf', hb⟩; obtain ⟨sa1, sc1, rfl⟩ := hP1.len; have hPf := fun g hg => Nat.le_trans hF1.size (hPf' g hg); clear hPf'; have hs := Frm.of_below' hb (fun _ => False); clear hb; have hF2 := hF1.trans0 hs; have hP2 := hP1; have hQ2 := hQ1.frm hs (fun _ _ h => h); clear hs; have r0 := (R14.frm0 hF2).cell 0; have r1 := (R14.frm0 hF2).cell 1; simp at r0 r1; have rf := (R14.frm0 hF2).free; have rl := (R14.frm0 hF2).lt))
                    | (go_at_call 38; first
                        | (refine (hcl _ hd).mono ?_; rintro e w' ⟨qv', rfl, hQ1, hQf', hb⟩; obtain ⟨sa2, sc2, rfl⟩ := hQ1.len; have hQf := fun g hg => Nat.le_trans hd.size (hQf' g hg); clear hQf'; have hF1 := hd.trans0 (Frm.of_below' hb (fun _ => False)); clear hb; have k1 := (RS.frm0 hF1).cell 1; have q1 := (R5.frm0 hF1).cell 1; have r0 := (R14.frm0 hF1).cell 0; have r1 := (R14.frm0 hF1).cell 1; simp at k1 q1 r0 r1; have rf := (R14.frm0 hF1).free; have rl := (R14.frm0 hF1).lt; have kl := (RS.frm0 hF1).lt)
                        | (refine (hcl _ hF1).mono ?_; rintro e w' ⟨qv', rfl, hQ1, hQf', hb⟩; obtain ⟨sa2, sc2, rfl⟩ := hQ1.len; have hQf := fun g hg => Nat.le_trans hF1.size (hQf' g hg); clear hQf'; have hs := Frm.of_below' hb (fun _ => False); clear hb; have hF2 := hF1.trans0 hs; have hQ2 := hQ1; have hP2 := hP1.frm hs (fun _ _ h => h); clear hs; have r0 := (R14.frm0 hF2).cell 0; have r1 := (R14.frm0 hF2).cell 1; simp at r0 r1; have rf := (R14.frm0 hF2).free; have rl := (R14.frm0 hF2).lt)))
                  all_goals
                    go_wp2_with fail
                    go_meet
                    first
                      | with_reducible exact out13 (R14.frm0 hF2) hF2 hP2 hQ2 hPf hQf (.inl rfl)
                      | with_reducible exact out13 (R14.frm0 hF2) hF2 hP2 hQ2 hPf hQf (.inr rfl)
                case rest =>
                  obtain ⟨wF, rfl⟩ : ∃ x : World, x = wc := ⟨_, rfl⟩
                  obtain ⟨pv, qv, R14', hP1, hQ1, hPf, hQf, hFF⟩ := hcut
                  obtain ⟨sa1, sc1, rfl⟩ := hP1.len
                  obtain ⟨sa2, sc2, rfl⟩ := hQ1.len
                  have O' := A2.out.frm hFF (fun h => by omega)
                  clear r0 r1 r2 rf rl y0 y1 y2 yf yl hwo hcl hd k1 k2 q0 q1
                  have r0 := R14'.cell 0
                  have r1 := R14'.cell 1
                  have r2 := R14'.cell 2
                  have y0 := O'.cell 0
                  have y1 := O'.cell 1
                  have y2 := O'.cell 2
                  have yf := O'.free
                  have yl := O'.lt
                  simp at r0 r1 r2 y0 y1 y2
                  go_wp2_with fail
                  refine bodyPost_ret (v := .tuple #[.agg #[.slice sa1 (strike s.ports p.n).length sc1, .slice sa2 s.peers.length sc2, .bool true], .int .i64 0]) (by simp [results, Try.results36, go_sem, *]) rfl ?_
                  refine framePost_mk2 A2 hS2 hnb hres hFF O' R14 hbx ?_ hP1 hQ1 hPf hQf (by rw [show outOf life now p mt gs' s.ports s.peers = _ from hO, show p.tunnel = false from hpt']; rfl)
                  (repeat (first | with_reducible exact Frm.refl _ _ | with_reducible refine Frm.drew ?_ | with_reducible refine Frm.alloc ?_ _ | with_reducible refine Frm.setCell ?_ _ (fun _ => rfl)))
              · rw [hpt] at q0
                have hpt' := Lib.hid hpt
                clear hpt
                go_wp2_with fail
                refine bodyPost_ret (v := .tuple #[.agg #[.slice sa s.ports.length sc, .slice none 0 0, .bool true], .int .i64 0]) (by simp [results, Try.results36, go_sem, *]) rfl ?_
                refine framePost_mk A2 hS2 hnb hres ?_ hI (IntSl.nil _) hIf (fun g hg => nomatch hg) (by rw [show outOf life now p mt gs' s.ports s.peers = _ from hO, show p.tunnel = true from hpt']; rfl)
                (repeat (first | with_reducible exact Frm.refl _ _ | with_reducible refine Frm.drew ?_ | with_reducible refine Frm.alloc ?_ _ | with_reducible refine Frm.setCell ?_ _ (fun _ => ⟨by omega, _, A2.out⟩)))
end Go.Proofs.Ytmddhglhfgomiaa
