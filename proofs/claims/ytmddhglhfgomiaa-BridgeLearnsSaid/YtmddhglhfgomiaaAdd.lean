/- fdb: add, with and without room. Conditions: none. -/
import Derived.Test.YtmddhglhfgomiaaMin
import Derived.Test.YtmddhglhfgomiaaFdbC
import Derived.Deep.DeepCutAuto
import Derived.Deep.RegionWith
import Derived.Deep.Cut
namespace Go.Proofs.Ytmddhglhfgomiaa
open Go Go.RowKit Go.Maps

theorem eq_of_mac {gs : List GEnt} (hn : gs.Pairwise (fun g g' => g.2.mac ≠ g'.2.mac)) {x y : GEnt} (hx : x ∈ gs) (hy : y ∈ gs) (h : x.2.mac = y.2.mac) : x = y := by
  induction gs with
  | nil => cases hx
  | cons z r ih =>
    obtain ⟨h1, h2⟩ := List.pairwise_cons.1 hn
    rcases List.mem_cons.1 hx with rfl | hx' <;> rcases List.mem_cons.1 hy with rfl | hy'
    · rfl
    · exact absurd h (h1 y hy')
    · exact absurd h.symm (h1 x hx')
    · exact ih h2 hx' hy'

theorem victim_of {gs ss rest : List GEnt} {x0 : GEnt} (hp : ss.Perm gs) (hl : loose ss = x0 :: rest) (macs : gs.Pairwise (fun g g' => g.2.mac ≠ g'.2.mac)) : IsVictim gs (least rest x0) := by
  have hin : ∀ x, x ∈ x0 :: rest ↔ (x ∈ gs ∧ x.2.static = false) := fun x => by
    rw [← hl]
    unfold loose
    rw [List.mem_filter, hp.mem_iff]
    simp
  have hv : least rest x0 ∈ x0 :: rest := by
    rcases least_mem rest x0 with h | h
    · rw [h]; simp
    · exact List.mem_cons_of_mem _ h
  refine ⟨((hin _).1 hv).1, ((hin _).1 hv).2, fun g hg hs hne => ?_⟩
  rcases least_le rest x0 (fun x hx y hy => eq_of_mac macs ((hin x).1 hx).1 ((hin y).1 hy).1) g ((hin g).2 ⟨hg, hs⟩) with h | h
  · exact absurd (congrArg Prod.fst h) hne
  · exact h

theorem split_blk {gs l1 l2 : List GEnt} {v : GEnt} (h : gs = l1 ++ v :: l2) (hn : gs.Pairwise (fun g g' => g.1 ≠ g'.1)) : gs.filter (fun g => g.1 != v.1) = l1 ++ l2 := by
  subst h
  obtain ⟨_, h2, h3⟩ := List.pairwise_append.1 hn
  obtain ⟨h4, _⟩ := List.pairwise_cons.1 h2
  rw [List.filter_append, List.filter_cons]
  simp only [bne_self_eq_false, Bool.false_eq_true, if_false]
  congr 1
  · exact List.filter_eq_self.2 (fun x hx => by have := h3 x hx v (by simp); simpa using this)
  · exact List.filter_eq_self.2 (fun x hx => by have := h4 x hx; simpa using fun e : x.1 = v.1 => this e.symm)

section
variable {w : World} {b mb : Nat} {room life : Int} {gs : List GEnt}
theorem BaseRep.not_map (B : BaseRep w b mb room life gs) {k T : Nat} {cs : List Value} (h : Row w k T cs) : k ≠ mb := fun e => by
  subst e
  obtain ⟨es, clk, h1, _⟩ := B.map
  unfold Row at h
  rw [h1] at h
  cases h

/-- One entry less. -/
theorem BaseRep.cut {l1 l2 : List GEnt} {v : GEnt} {o : Obj} (B : BaseRep w b mb room life (l1 ++ v :: l2)) (hm : MapAt (setB w mb o) mb (kvOf (l1 ++ l2))) : BaseRep (setB w mb o) b mb room life (l1 ++ l2) := by
  have hsub : (l1 ++ l2).Sublist (l1 ++ v :: l2) := List.Sublist.append (List.Sublist.refl _) (List.sublist_cons_self _ _)
  exact ⟨B.base.of_eq (heap_setB_ne (B.not_map B.base)), hm, fun g hg => (B.ents g (hsub.subset hg)).of_eq (heap_setB_ne (B.not_map (B.ents g (hsub.subset hg)))), fun g hg => B.oks g (hsub.subset hg), B.macs.sublist hsub, B.blks.sublist hsub⟩
end

/-- The entries, collected. -/
def Col (w : World) (nb : Nat) (e : Ent) (gs : List GEnt) (en : Ending) (w' : World) : Prop :=
  ∃ (g cap : Nat) (cs : List Value) (ss : List GEnt), en = .returned (.slice (some ⟨g, 0, none⟩) ss.length cap) ∧ ss.Perm gs ∧ Row w' g 79 cs ∧ ss.length ≤ cap ∧ cap ≤ maxLen ∧ cs.length = cap ∧ cs.take ss.length = ss.map encG ∧ w.heap.size < g ∧ Frm (fun _ => False) w w' ∧ Row w' nb 85 (entCells e)

theorem col_any (w W : World) (mb : Nat) (gs : List GEnt) (e : Ent) (hF : Frm (fun _ => False) w W) (hB : MapAt W mb (kvOf gs)) (hs : W.heap.size = w.heap.size + 1) (hr : Row W w.heap.size 85 (entCells e)) (hN : gs.length ≤ 1048576) (hne : gs ≠ []) :
    Calls Try.prog 74 #[.func (.func 84) #[] #[.pointer (some ⟨w.heap.size + 1, 0, none⟩)]] (W.alloc (.cells #[.map (some mb)] 80)) (Col w w.heap.size e gs) := by
  have hc : Row (W.alloc (.cells #[.map (some mb)] 80)) W.heap.size 80 [.map (some mb)] := Row.new W 80 [.map (some mb)]
  rw [hs] at hc
  refine (collect_any (W.alloc (.cells #[.map (some mb)] 80)) (w.heap.size + 1) mb gs hc.lt (by have := hc.cell 0; simpa using this) (hB.alloc _) hN).mono ?_
  rintro en w' ⟨v, ss, rfl, hp, hown, hnil, hb⟩
  obtain ⟨hP, hblk⟩ := PSl.of_owns hown
  rw [World.size_alloc, hs] at hblk hb
  rcases hP.cases with ⟨rfl, rfl⟩ | ⟨g, cap, cs, rfl, h1, h2, h3, h4, h5⟩
  · exact absurd hp.symm.eq_nil hne
  · have hg := hblk g rfl
    exact ⟨g, cap, cs, ss, rfl, hp, h1, h2, h3, h4, h5, by omega, (hF.alloc _).trans (Frm.of_below hb) (fun i hi hlt => by omega), (hr.alloc _).of_eq (hb.block _ (by omega))⟩

set_option maxRecDepth 100000 in
set_option maxHeartbeats 4000000 in
theorem add_full (w : World) (b mb : Nat) (room life : Int) (gs : List GEnt) (e : Ent) (he : e.ok) (hr : room ≤ (gs.length : Int)) (hroom : 1 ≤ room) (hN : gs.length ≤ 1048576) (hno : findG gs e.mac = none) (B : BaseRep w b mb room life gs) :
    Calls Try.prog 66 #[ptr b, entV e] w (AddPost b mb room life gs e w) := by
  have c0 := B.base.cell 0
  have c2 := B.base.cell 2
  simp at c0 c2
  have hlt := B.base.lt
  have hml := B.map.lt
  obtain ⟨kl, hkl⟩ := macKey e.mac he.mac
  obtain ⟨w1, hw1⟩ : ∃ w1, w1 = w.alloc (.cells (entCells e).toArray 85) := ⟨_, rfl⟩
  have B1 : BaseRep w1 b mb room life gs := by rw [hw1]; exact B.alloc _
  have hrow : Row w1 w.heap.size 85 (entCells e) := by rw [hw1]; exact Row.new w _ _
  have hF1 : ∀ n, Frm (fun _ => False) w (w1.drewN n) := fun n => by rw [hw1]; exact ((Frm.refl _ w).alloc _).drewN n
  have hs1 : w1.heap.size = w.heap.size + 1 := by rw [hw1]; simp
  have hlen : ∀ n ty, (Builtin.len_ #[80] ty #[.map (some mb)]).run Try.prog (w1.drewN n) = .ok (.int .i64 gs.length) (w1.drewN n) := fun n ty => (B1.drewN n).len ty
  have hne : gs ≠ [] := fun e => by subst e; simp at hr; omega
  have hcol := fun n => col_any w (w1.drewN n) mb gs e (hF1 n) (B1.drewN n).map hs1 (hrow.drewN n) hN hne
  have hval := fun W => values_any (some mb) W
  have HB := Lib.hid B
  have HS := Lib.hid hs1
  clear B B1 hkl hrow hF1 hne hs1
  subst hw1
  go_enter Try.func66, Try.ntmps66
  go_wp2_with fail
  go_quiet (fail)
  go_wp2_with fail
  refine (hval _).mono ?_
  rintro en w' ⟨rfl, rfl⟩
  go_wp2_with fail
  refine (hcol _).mono ?_
  clear hcol hval hlen
  rintro en W3 ⟨g, cap, cs, ss, rfl, hp, hg1, hg2, hg3, hg4, hg5, hgb, hF3, hr3⟩
  have B3 := HB.out.frm hF3 (fun _ _ h => h)
  have hlen3 : ss.length ≤ 1048576 := by rw [hp.length_eq]; exact hN
  have hE3 : ∀ x ∈ ss, Row W3 x.1 85 (entCells x.2) := fun x hx => B3.ents x (hp.mem_iff.1 hx)
  have hdel := delE_any W3 g cap cs ss hg1 hg2 hg3 hg4 hg5 (by omega) hE3
  clear hg1 hg2 hg3 hg4 hg5 hE3
  go_wp2_with fail
  refine hdel.mono ?_
  clear hdel
  rintro en W4 ⟨rfl, hP4, hF4⟩
  have hlt3 := HB.out.fp_lt
  have B4 := B3.frm hF4 (fun k hk e => by have := hlt3 k hk; omega)
  have hr4 : Row W4 w.heap.size 85 (entCells e) := hr3.frm hF4 (fun e => by omega)
  have hFw4 : Frm (fun _ => False) w W4 := hF3.trans hF4 (fun i hi hlt => by omega)
  have hll := loose_le ss
  clear B3 hr3 hF3 hF4
  cases hls : loose ss with
  | nil =>
    rw [hls] at hP4
    have hall : ∀ x ∈ gs, x.2.static = true := fun x hx => by
      cases hx2 : x.2.static with
      | true => rfl
      | false =>
        have : x ∈ loose ss := List.mem_filter.2 ⟨hp.mem_iff.2 hx, by simp [hx2]⟩
        rw [hls] at this
        cases this
    have HA := Lib.hid hall
    clear hall hls hp
    simp only [List.length_nil]
    go_wp2_with fail
    go_ret
    exact ⟨w.heap.size, 5, gs, rfl, Nat.le_refl _, .inr ⟨hr, .inl ⟨HA.out, rfl, rfl⟩⟩, B4, hFw4.mono (fun _ h => h.elim)⟩
  | cons x0 rest =>
    have hV := victim_of hp hls B4.macs
    rw [hls] at hP4 hll
    have hmem : ∀ x ∈ x0 :: rest, x ∈ gs := fun x hx => by
      rw [← hls] at hx
      exact hp.mem_iff.1 (List.mem_filter.1 hx).1
    rcases hP4.cases with ⟨h, _⟩ | ⟨g', cap', cs', h, hg1, hg2, hg3, hg4, hg5⟩
    · cases h
    · cases h
      obtain ⟨v, hv⟩ : ∃ v, v = least rest x0 := ⟨_, rfl⟩
      have hmin := fun n => minE_any (W4.drewN n) g cap cs' x0 rest (hg1.drewN n) hg5 (by simp at hll; omega) (fun x hx => (B4.ents x (hmem x hx)).drewN n) (fun x hx => B4.oks x (hmem x hx))
      rw [← hv] at hmin hV
      obtain ⟨l1, l2, hsp⟩ := List.append_of_mem hV.1
      obtain ⟨vl, hvl⟩ := macKey v.2.mac (B4.oks v hV.1).mac
      have hkv : kvOf gs = kvOf l1 ++ (macV v.2.mac, ptr v.1) :: kvOf l2 := by rw [hsp]; simp
      obtain ⟨od, hod⟩ := MapAt.del_some (key := macV v.2.mac) (v0 := ptr v.1) (l1 := kvOf l1) (l2 := kvOf l2) (hkv ▸ B4.map) macLaw macMapT (hkv ▸ B4.keys) hvl (hkv ▸ B4.apart) 25
      have hvr := B4.ents v hV.1
      have hvlt := hvr.lt
      obtain ⟨m0, m1, m2, m3, m4, m5⟩ := And.intro (hvr.cell 0) (And.intro (hvr.cell 1) (And.intro (hvr.cell 2) (And.intro (hvr.cell 3) (And.intro (hvr.cell 4) (hvr.cell 5)))))
      simp at m0 m1 m2 m3 m4 m5
      have d2 := B4.base.cell 2
      simp at d2
      have hbl4 := B4.base.lt
      have hml4 := B4.map.lt
      have hbo : ∀ {W}, Below W4.heap.size W4 W → Row W b 82 [.int .i64 room, .int .u64 life, .map (some mb)] := fun h => B4.base.of_eq (h.block _ hbl4)
      have hvo : ∀ {W}, Below W4.heap.size W4 W → Row W v.1 85 (entCells v.2) := fun h => hvr.of_eq (h.block _ hvlt)
      have hdo : ∀ {W}, Below W4.heap.size W4 W → ∀ ty, (Builtin.delete_ #[80, 25] ty #[.map (some mb), macV v.2.mac]).run Try.prog W = .ok (.tuple #[]) (setB W mb od) := fun h ty => (hod _ (h.block _ hml4) ty).1
      have hcutB : ∀ {W}, Below W4.heap.size W4 W → BaseRep (setB W mb od) b mb room life (l1 ++ l2) := fun {W} h => by
        have BW : BaseRep W b mb room life (l1 ++ v :: l2) := hsp ▸ B4.frm (Frm.of_below' h (fun _ => False)) (fun _ _ h => h)
        refine BW.cut ?_
        have := (hod W (h.block _ hml4) 0).2
        simpa using this
      have hro : ∀ {W}, Below W4.heap.size W4 W → Row (setB W mb od) w.heap.size 85 (entCells e) := fun {W} h =>
        (hr4.of_eq (h.block _ hr4.lt)).of_eq (heap_setB_ne (fun e => by omega))
      have hfo : ∀ {W}, Below W4.heap.size W4 W → Frm (fun k => k = mb) w (setB W mb od) := fun {W} h => ((hFw4.trans (Frm.of_below' h (fun _ => False)) (fun _ h _ => h)).mono (fun _ h => h.elim)).setB od (fun _ => rfl)
      have HV := Lib.hid hV
      have HSP := Lib.hid hsp
      have HN := Lib.hid (split_blk hsp B4.blks)
      have HNO := Lib.hid hno
      have HNB : Hid (∀ x ∈ gs, x.1 ≠ w.heap.size) := Lib.hid (fun x hx => Nat.ne_of_lt (HB.out.ents x hx).lt)
      clear hP4 hls hmem hp hg1 hg2 hg3 hg4 hg5 hkv hod hvr hV hsp hno hv B4 hvl hr4
      obtain ⟨vb, ve⟩ := v
      simp only [List.length_cons]
      simp only at m0 m1 m2 m3 m4 m5
      go_wp2_with fail
      go_cut [] (fun wx => ∃ W5, Below W4.heap.size W4 W5 ∧ wx = setB W5 mb od)
      case first =>
        go_region_with (go_at_call 78; refine (hmin 1).mono ?_; rintro en w5 ⟨rfl, hB5⟩; have hB5' := ((Below.refl _ W4).drew).trans hB5; have hd5 := hdo hB5'; have q2 := (hbo hB5').cell 2; have qv0 := (hvo hB5').cell 0; have qv1 := (hvo hB5').cell 1; have qv2 := (hvo hB5').cell 2; have qv3 := (hvo hB5').cell 3; have qv4 := (hvo hB5').cell 4; have qv5 := (hvo hB5').cell 5; simp at q2 qv0 qv1 qv2 qv3 qv4 qv5; clear hB5)
        all_goals
          go_wp2_with fail
          go_meet
          exact ⟨_, hB5', rfl⟩
      case rest =>
        obtain ⟨wA, rfl⟩ : ∃ x : World, x = wc := ⟨_, rfl⟩
        obtain ⟨W5, hB5, hwA⟩ := hcut
        have B6 := hcutB hB5
        have r6 := hro hB5
        have f6 := hfo hB5
        rw [← hwA] at B6 r6 f6
        clear hwA hB5 hcutB hro hfo hdo hbo hvo hmin m0 m1 m2 m3 m4 m5 d2
        have hno6 : findG (l1 ++ l2) e.mac = none := by
          rw [findG, List.find?_eq_none]
          intro x hx
          have hxg : x ∈ gs := by rw [HSP.out]; rcases List.mem_append.1 hx with h | h <;> simp [h]
          simpa using findG_none HNO.out x hxg
        have hnb6 : ∀ x ∈ l1 ++ l2, x.1 ≠ w.heap.size := fun x hx => HNB.out x (by rw [HSP.out]; rcases List.mem_append.1 hx with h | h <;> simp [h])
        obtain ⟨kl, hkl⟩ := macKey e.mac he.mac
        obtain ⟨o, ho⟩ := B6.map.upd_new macLaw macMapT B6.keys hkl (fun p hp h => by
          obtain ⟨x, hx, rfl⟩ := List.mem_map.1 hp
          exact findG_none hno6 x hx (macV_inj h)) (ptr w.heap.size)
        have hupd : (Instr.mapUpdate 80 (.map (some mb)) (macV e.mac) (ptr w.heap.size)).run Try.prog wA.drew = .ok () (setB wA.drew mb o) := (ho wA.drew rfl).1
        have hpost : BaseRep (setB wA.drew mb o) b mb room life ((l1 ++ l2) ++ [(w.heap.size, e)]) := (B6.drewN 1).put he hno6 r6.drew hnb6 (ho wA.drew rfl).2
        have hfrm : Frm (fun k => k = mb) w (setB wA.drew mb o) := f6.drew.setB o (fun _ => rfl)
        obtain ⟨n0, n1, n2, n3, n4, n5⟩ := And.intro (r6.cell 0) (And.intro (r6.cell 1) (And.intro (r6.cell 2) (And.intro (r6.cell 3) (And.intro (r6.cell 4) (r6.cell 5)))))
        simp at n0 n1 n2 n3 n4 n5
        have d2 := B6.base.cell 2
        simp at d2
        have hbl6 := B6.base.lt
        have hrl6 := r6.lt
        clear B6 r6 f6 ho hkl hno6 hnb6
        go_wp2_with fail
        go_region
        go_wp2_with fail
        go_ret
        exact ⟨w.heap.size, 0, _, rfl, Nat.le_refl _, .inr ⟨hr, .inr ⟨_, HV.out, rfl, by rw [HN.out]⟩⟩, hpost, hfrm⟩

theorem add_any (w : World) (b mb : Nat) (room life : Int) (gs : List GEnt) (e : Ent) (he : e.ok) (hroom : 1 ≤ room) (hN : gs.length ≤ 1048576) (hno : findG gs e.mac = none) (B : BaseRep w b mb room life gs) :
    Calls Try.prog 66 #[ptr b, entV e] w (AddPost b mb room life gs e w) := by
  by_cases h : (gs.length : Int) < room
  · exact add_room_post w b mb room life gs e he h hno B
  · exact add_full w b mb room life gs e he (by omega) hroom hN hno B

theorem learn_any (w : World) (b mb : Nat) (room life : Int) (gs : List GEnt) (m : Mac) (hm : m.ok) (p : Place) (now : Int) (hn : u64ok now) (hroom : 1 ≤ room) (hN : gs.length ≤ 1048576) (B : BaseRep w b mb room life gs) :
    Calls Try.prog 53 #[ptr b, macV m, placeV p, .int .u64 now] w (LearnPost b mb room life gs m p now w) :=
  learn_of w b mb room life gs m hm p now hn B (fun W hf B' => add_any W b mb room life gs ⟨m, p, now, false⟩ ⟨hm, hn⟩ hroom hN hf B')
end Go.Proofs.Ytmddhglhfgomiaa
