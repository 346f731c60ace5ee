/- bridge: each function's contract, told by what a bridge holds. Conditions: none. -/
import Derived.Test.YtmddhglhfgomiaaBM
import Derived.Test.YtmddhglhfgomiaaBrP
import Derived.Test.YtmddhglhfgomiaaShown
namespace Go.Proofs.Ytmddhglhfgomiaa
open Go Go.RowKit Go.Maps
namespace V

def unbindV (b : Bd) (Vs : List VSeg) (port : Int) : Int × Bd × List VSeg :=
  match boundTo b port with
  | none => (6, b, Vs)
  | some n => (0, noP b port, modV Vs n.toNat (unU ⟨false, port⟩))
def bindV (b : Bd) (Vs : List VSeg) (port n : Int) : Int × Bd × List VSeg :=
  if port < 0 ∨ n < 0 ∨ 8 ≤ n then (1, b, Vs)
  else if boundTo b port = some n then (0, b, Vs)
  else if boundTo b port = none ∧ 16 ≤ b.length then (5, b, Vs)
  else (0, (unbindV b Vs port).2.1 ++ [(port, n)], modV (unbindV b Vs port).2.2 n.toNat (inU ⟨false, port⟩))
def peerV (Vs : List VSeg) (n tunnel : Int) : Int × List VSeg :=
  if tunnel < 0 ∨ n < 0 ∨ 8 ≤ n then (1, Vs)
  else match Vs[n.toNat]? with
  | none => (1, Vs)
  | some U => if U.peers.contains tunnel = true then (0, Vs) else if 8 ≤ U.peers.length then (5, Vs) else (0, Vs.set n.toNat (inU ⟨true, tunnel⟩ U))
def unpeerV (Vs : List VSeg) (n tunnel : Int) : Int × List VSeg :=
  if n < 0 ∨ 8 ≤ n then (6, Vs)
  else match Vs[n.toNat]? with
  | none => (6, Vs)
  | some U => if U.peers.contains tunnel = true then (0, Vs.set n.toNat (unU ⟨true, tunnel⟩ U)) else (6, Vs)

/-- A bridge: what it holds. Its blocks are of O; since w0 only such have turned; whatever is new since then is of O. -/
structure BB (O : Nat → Prop) (w0 w : World) (bb : Nat) (room life t : Int) (bound : Bd) (Vs : List VSeg) : Prop where
  rep : ∃ bm segs, vw segs = Vs ∧ BridgeRep w bb bm room life bound segs ∧ ∀ k, bridgeFp bb bm segs k → O k
  since : Frm O w0 w
  cof : ∀ k, w0.heap.size ≤ k → O k
  inv : BInv room t bound Vs

section
variable {O : Nat → Prop} {w0 w w' : World} {bb bm : Nat} {room life t t' : Int} {bound bound' : Bd} {Vs Vs' : List VSeg} {segs segs' : List SegG}
theorem BB.mk' (F : BB O w0 w bb room life t bound Vs) (hO : ∀ k, bridgeFp bb bm segs k → O k) (T : BrTurn bb bm segs w w' segs') (B' : BridgeRep w' bb bm room life bound' segs') (hv : vw segs' = Vs') (I : BInv room t' bound' Vs') : BB O w0 w' bb room life t' bound' Vs' :=
  ⟨⟨bm, segs', hv, B', fun k hk => (T.2 k hk).elim (hO k) (fun h => F.cof k (Nat.le_trans F.since.size h))⟩, F.since.trans T.1 (fun i hi _ => hO i hi), F.cof, I⟩
theorem BB.frm (F : BB O w0 w bb room life t bound Vs) (f : Frm (fun _ => False) w w') : BB O w0 w' bb room life t bound Vs := by
  obtain ⟨bm, segs, h1, B, h2⟩ := F.rep
  exact ⟨⟨bm, segs, h1, B.frm f (fun _ _ h => h), h2⟩, F.since.trans f (fun _ h _ => h.elim), F.cof, F.inv⟩
theorem BB.mono (F : BB O w0 w bb room life t bound Vs) (h : t ≤ t') : BB O w0 w bb room life t' bound Vs := ⟨F.rep, F.since, F.cof, F.inv.mono h⟩
theorem BB.alloc (F : BB O w0 w bb room life t bound Vs) (o : Obj) : BB O w0 (w.alloc o) bb room life t bound Vs := F.frm ((Frm.refl _ _).alloc o)
theorem BB.drew (F : BB O w0 w bb room life t bound Vs) : BB O w0 w.drew bb room life t bound Vs := F.frm (Frm.refl _ _).drew
theorem BB.drewN (F : BB O w0 w bb room life t bound Vs) (n : Nat) : BB O w0 (w.drewN n) bb room life t bound Vs := F.frm ((Frm.refl _ _).drewN n)
theorem BB.below' (F : BB O w0 w bb room life t bound Vs) (h : Below w.heap.size w w') : BB O w0 w' bb room life t bound Vs := F.frm (Frm.of_below' h _)
theorem BB.anew2 (F : BB O w0 w bb room life t bound Vs) (f : Frm (fun _ => False) w w') : ∃ O', (∀ k, O' k → (O k ∧ k < w.heap.size) ∨ w'.heap.size ≤ k) ∧ BB O' w' w' bb room life t bound Vs := by
  obtain ⟨bm, segs, h1, B, h2⟩ := F.rep
  exact ⟨fun k => bridgeFp bb bm segs k ∨ w'.heap.size ≤ k, fun k hk => hk.elim (fun h => .inl ⟨h2 k h, B.fp_lt k h⟩) .inr, ⟨bm, segs, h1, B.frm f (fun _ _ h => h), fun k hk => .inl hk⟩, Frm.refl _ _, fun k hk => .inr hk, F.inv⟩
theorem BB.wide {O' : Nat → Prop} {wA : World} (F : BB O' wA w bb room life t bound Vs) (h : Frm O w0 wA) (hc : ∀ k, w0.heap.size ≤ k → O k) (hO : ∀ k, O' k → O k) : BB O w0 w bb room life t bound Vs := by
  obtain ⟨bm, segs, h1, B, h2⟩ := F.rep
  exact ⟨⟨bm, segs, h1, B, fun k hk => hO k (h2 k hk)⟩, h.trans F.since (fun k hk _ => hO k hk), hc, F.inv⟩
theorem BB.at (_ : BB O w0 w bb room life t bound Vs) (h1 : vw segs = Vs) {i : Nat} {U : VSeg} (hU : Vs[i]? = some U) : ∃ hi : i < segs.length, vseg segs[i] = U := vseg_at segs (h1 ▸ hU)
end

theorem new_B (O : Nat → Prop) (w0 w : World) (room0 life : Int) (hb : Frm O w0 w) (hc : ∀ k, w0.heap.size ≤ k → O k) :
    Calls Try.prog 8 #[.int .i64 room0, .int .u64 life] w fun e w' => ∃ bb, e = .returned (ptr bb) ∧ BB O w0 w' bb (roomOf room0) life 0 [] (List.replicate 8 ⟨[], [], []⟩) := by
  refine (new_v w life room0).mono ?_
  rintro e w' ⟨bb, bm, segs, rfl, B, hV, hk, hB⟩
  refine ⟨bb, rfl, ⟨bm, segs, hV, B, fun k h => hc k (Nat.le_trans hb.size (hk k h))⟩, hb.trans (Frm.of_below' hB (fun _ => False)) (fun _ h _ => h.elim), hc, ?_⟩
  refine ⟨by unfold roomOf; omega, by unfold roomOf; omega, by simp, by simp, by simp, by simp, fun i U hU => ?_⟩
  rw [List.getElem?_replicate] at hU
  split at hU
  · cases hU
    exact ⟨by simp, List.Pairwise.nil, List.Pairwise.nil, by simp, by unfold roomOf; simp; omega, by simp⟩
  · cases hU

section
variable {O : Nat → Prop} {w0 w : World} {bb : Nat} {room life t : Int} {bound : Bd} {Vs : List VSeg} (F : BB O w0 w bb room life t bound Vs)
include F

theorem Seg_V (port : Int) (hp : i64ok port) : Calls Try.prog 10 #[ptr bb, .int .i64 port] w fun e w' => e = .returned (.tuple #[.int .i64 ((boundTo bound port).getD 0), .bool (boundTo bound port).isSome]) ∧ w = w' := by
  obtain ⟨bm, segs, _, B, _⟩ := F.rep
  exact Seg_any w bb bm room life bound segs port hp B

theorem ports_V (i : Nat) (U : VSeg) (hU : Vs[i]? = some U) : Calls Try.prog 16 #[ptr bb, .int .i64 (i : Int)] w fun e w' => ∃ v', e = .returned v' ∧ IntSl w' v' U.ports ∧ Below w.heap.size w w' := by
  obtain ⟨bm, segs, h1, B, _⟩ := F.rep
  obtain ⟨hi, hv⟩ := F.at h1 hU
  have e2 : segs[i].ports = U.ports := congrArg VSeg.ports hv
  have := (F.inv.seg i U hU).plen
  have := F.inv.b16
  refine (ports_in w bb bm room life bound segs i i rfl hi B (by rw [e2]; omega)).mono ?_
  rintro e w' ⟨v', rfl, h, _, hb⟩
  exact ⟨v', rfl, e2 ▸ h, hb⟩
theorem peers_V (i : Nat) (U : VSeg) (hU : Vs[i]? = some U) : Calls Try.prog 15 #[ptr bb, .int .i64 (i : Int)] w fun e w' => ∃ v', e = .returned v' ∧ IntSl w' v' U.peers ∧ Below w.heap.size w w' := by
  obtain ⟨bm, segs, h1, B, _⟩ := F.rep
  obtain ⟨hi, hv⟩ := F.at h1 hU
  have e2 : segs[i].peers = U.peers := congrArg VSeg.peers hv
  have := (F.inv.seg i U hU).q8
  refine (peers_in w bb bm room life bound segs i i rfl hi B (by rw [e2]; omega)).mono ?_
  rintro e w' ⟨v', rfl, h, _, hb⟩
  exact ⟨v', rfl, e2 ▸ h, hb⟩

theorem unbind_V (port : Int) (hp : i64ok port) : Calls Try.prog 20 #[ptr bb, .int .i64 port] w fun e w' => e = .returned (.int .i64 (unbindV bound Vs port).1) ∧ BB O w0 w' bb room life t (unbindV bound Vs port).2.1 (unbindV bound Vs port).2.2 := by
  obtain ⟨bm, segs, h1, B, hO⟩ := F.rep
  unfold unbindV
  cases hb : boundTo bound port with
  | none =>
    refine (unbind_none w bb bm room life bound segs port hp hb B).mono ?_
    rintro e w' ⟨rfl, rfl⟩
    exact ⟨rfl, F⟩
  | some n =>
    obtain ⟨i, U, rfl, h8, hU, hin⟩ := F.inv.of_some hb
    obtain ⟨hi, hv⟩ := F.at h1 hU
    have e1 : segs[i].gs.map (·.2) = U.es := congrArg VSeg.es hv
    have e2 : segs[i].ports = U.ports := congrArg VSeg.ports hv
    have e3 : segs[i].peers = U.peers := congrArg VSeg.peers hv
    have hl := (F.inv.seg i U hU).plen
    have hl2 := (F.inv.seg i U hU).len
    have := F.inv.b16
    have := F.inv.r64
    have hgl : segs[i].gs.length = U.es.length := by rw [← e1]; simp
    refine (unbind_some w bb bm room life bound segs port i i rfl hi hp (by rw [e2]; omega) (by omega) B hb).mono ?_
    rintro e w' ⟨v', rfl, B', T⟩
    simp only [Int.toNat_natCast]
    rw [modV_set hU]
    refine ⟨by trivial, F.mk' hO T B' ?_ (F.inv.un hU (boundTo_some hb))⟩
    subst h1
    unfold vw
    rw [List.map_set]
    congr 1
    unfold vseg unU unG
    simp only [e2, e3, Bool.false_eq_true, if_false]
    rw [← e1]
    unfold rest restV
    rw [List.filter_map]
    rfl

theorem bind_V (port n : Int) (hp : i64ok port) : Calls Try.prog 18 #[ptr bb, .int .i64 port, .int .i64 n] w fun e w' => e = .returned (.int .i64 (bindV bound Vs port n).1) ∧ BB O w0 w' bb room life t (bindV bound Vs port n).2.1 (bindV bound Vs port n).2.2 := by
  obtain ⟨bm, segs, h1, B, hO⟩ := F.rep
  unfold bindV
  by_cases ha : port < 0 ∨ n < 0 ∨ 8 ≤ n
  · simp only [if_pos ha]
    refine (bind_arg w bb bm room life bound segs port n hp B ha).mono ?_
    rintro e w' ⟨rfl, rfl⟩
    exact ⟨rfl, F⟩
  · simp only [if_neg ha]
    obtain ⟨i, rfl⟩ : ∃ i : Nat, n = i := ⟨n.toNat, by omega⟩
    have h8 : i < Vs.length := by have := F.inv.len; omega
    obtain ⟨U, hU⟩ : ∃ U, Vs[i]? = some U := ⟨_, List.getElem?_eq_getElem h8⟩
    obtain ⟨hi, hv⟩ := F.at h1 hU
    have e1 : segs[i].gs.map (·.2) = U.es := congrArg VSeg.es hv
    have e2 : segs[i].ports = U.ports := congrArg VSeg.ports hv
    have e3 : segs[i].peers = U.peers := congrArg VSeg.peers hv
    have S := F.inv.seg i U hU
    have hl := S.plen
    have := F.inv.b16
    have := F.inv.r64
    by_cases hs : boundTo bound port = some (i : Int)
    · simp only [if_pos hs]
      refine (bind_same w bb bm room life bound segs port i i rfl hi (by omega) hp hs B).mono ?_
      rintro e w' ⟨rfl, rfl⟩
      exact ⟨rfl, F⟩
    · simp only [if_neg hs]
      by_cases hf : boundTo bound port = none ∧ 16 ≤ bound.length
      · simp only [if_pos hf]
        refine (bind_full w bb bm room life bound segs port i i rfl hi (by omega) hp hf.1 hf.2 B).mono ?_
        rintro e w' ⟨rfl, rfl⟩
        exact ⟨rfl, F⟩
      · simp only [if_neg hf, Int.toNat_natCast]
        unfold unbindV
        cases hb : boundTo bound port with
        | none =>
          have h16 : bound.length < 16 := by
            rcases Nat.lt_or_ge bound.length 16 with h | h
            · exact h
            · exact absurd ⟨hb, h⟩ hf
          refine (bind_new w bb bm room life bound segs port i i rfl hi (by omega) hp (by rw [e2]; omega) (by rw [e2]; exact S.pr.le) B hb h16).mono ?_
          rintro e w' ⟨bound', segs', v', rfl, ⟨rfl, rfl⟩, B', T⟩
          simp only
          rw [modV_set hU]
          refine ⟨by trivial, F.mk' hO T B' ?_ (F.inv.put hU (boundTo_none hb) h16)⟩
          subst h1
          unfold vw
          rw [List.map_set]
          congr 1
          unfold vseg inU
          simp only [e1, e2, e3, Bool.false_eq_true, if_false]
        | some m =>
          obtain ⟨j, Uj, rfl, hj8, hUj, _⟩ := F.inv.of_some hb
          obtain ⟨hj, hvj⟩ := F.at h1 hUj
          have hij : j ≠ i := fun e => hs (by rw [hb, e])
          have f1 : segs[j].gs.map (·.2) = Uj.es := congrArg VSeg.es hvj
          have f2 : segs[j].ports = Uj.ports := congrArg VSeg.ports hvj
          have f3 : segs[j].peers = Uj.peers := congrArg VSeg.peers hvj
          have hlj := (F.inv.seg j Uj hUj).plen
          have hlj2 := (F.inv.seg j Uj hUj).len
          have hgl : segs[j].gs.length = Uj.es.length := by rw [← f1]; simp
          have Iu := F.inv.un hUj (boundTo_some hb)
          have hUi : (Vs.set j (unU ⟨false, port⟩ Uj))[i]? = some U := by rw [List.getElem?_set_ne hij]; exact hU
          have hno : ∀ p ∈ noP bound port, p.1 ≠ port := fun p hp => (mem_noP.1 hp).2
          have hless : (noP bound port).length < 16 := by
            have h2 : (noP bound port).length < bound.length := by
              rcases Nat.lt_or_ge (noP bound port).length bound.length with h | h
              · exact h
              · have h3 := List.Sublist.eq_of_length_le (List.filter_sublist : (noP bound port).Sublist bound) h
                exact absurd rfl (hno (port, (j : Int)) (by unfold noP; rw [h3]; exact boundTo_some hb))
            omega
          refine (bind_move w bb bm room life bound segs port i j i j rfl rfl hi hj hij (by omega) hp (by rw [e2]; omega) (by rw [f2]; omega) (by omega) (by rw [e2]; exact S.pr.le) B hb).mono ?_
          rintro e w' ⟨u, v, rfl, B', T⟩
          simp only [Int.toNat_natCast]
          rw [modV_set hUj, modV_set hUi]
          refine ⟨by trivial, F.mk' hO T B' ?_ (Iu.put hUi hno hless)⟩
          subst h1
          unfold vw movG
          rw [List.map_set, List.map_set]
          congr 1
          · congr 1
            unfold vseg unU unG
            simp only [f2, f3, Bool.false_eq_true, if_false]
            rw [← f1]
            unfold rest restV
            rw [List.filter_map]
            rfl
          · unfold vseg inU
            simp only [e1, e2, e3, Bool.false_eq_true, if_false]

theorem peer_V (n tunnel : Int) : Calls Try.prog 22 #[ptr bb, .int .i64 n, .int .i64 tunnel] w fun e w' => e = .returned (.int .i64 (peerV Vs n tunnel).1) ∧ BB O w0 w' bb room life t bound (peerV Vs n tunnel).2 := by
  obtain ⟨bm, segs, h1, B, hO⟩ := F.rep
  unfold peerV
  by_cases ha : tunnel < 0 ∨ n < 0 ∨ 8 ≤ n
  · simp only [if_pos ha]
    refine (peer_arg w bb bm room life bound segs n tunnel ha B.len B).mono ?_
    rintro e w' ⟨rfl, rfl⟩
    exact ⟨rfl, F⟩
  · simp only [if_neg ha]
    obtain ⟨i, rfl⟩ : ∃ i : Nat, n = i := ⟨n.toNat, by omega⟩
    have h8 : i < Vs.length := by have := F.inv.len; omega
    obtain ⟨U, hU⟩ : ∃ U, Vs[i]? = some U := ⟨_, List.getElem?_eq_getElem h8⟩
    obtain ⟨hi, hv⟩ := F.at h1 hU
    have e1 : segs[i].gs.map (·.2) = U.es := congrArg VSeg.es hv
    have e2 : segs[i].ports = U.ports := congrArg VSeg.ports hv
    have e3 : segs[i].peers = U.peers := congrArg VSeg.peers hv
    have S := F.inv.seg i U hU
    simp only [Int.toNat_natCast, hU]
    refine (peer_in w bb bm room life bound segs i tunnel i rfl hi (by omega) (by rw [e3]; exact S.q8) (by rw [e3]; exact S.qr.le) B).mono ?_
    rintro e w' ⟨code, segs', rfl, B', T, h⟩
    unfold PeerRes at h
    rw [e3] at h
    rcases h with ⟨h2, rfl, rfl⟩ | ⟨h2, h3, rfl, rfl⟩ | ⟨h2, h3, rfl, v', rfl⟩
    · rw [if_pos h2]
      exact ⟨rfl, F.mk' hO T B' h1 F.inv⟩
    · rw [if_neg (by rw [h2]; decide), if_pos h3]
      exact ⟨rfl, F.mk' hO T B' h1 F.inv⟩
    · rw [if_neg (by rw [h2]; decide), if_neg (by omega)]
      refine ⟨rfl, F.mk' hO T B' ?_ (F.inv.pu hU (by simpa using h2) h3)⟩
      subst h1
      unfold vw
      rw [List.map_set]
      congr 1
      unfold vseg inU
      simp only [e1, e2, if_true]

theorem unpeer_V (n tunnel : Int) : Calls Try.prog 24 #[ptr bb, .int .i64 n, .int .i64 tunnel] w fun e w' => e = .returned (.int .i64 (unpeerV Vs n tunnel).1) ∧ BB O w0 w' bb room life t bound (unpeerV Vs n tunnel).2 := by
  obtain ⟨bm, segs, h1, B, hO⟩ := F.rep
  unfold unpeerV
  by_cases ha : n < 0 ∨ 8 ≤ n
  · simp only [if_pos ha]
    refine (unpeer_out w bb n tunnel ha).mono ?_
    rintro e w' ⟨rfl, rfl⟩
    exact ⟨rfl, F⟩
  · simp only [if_neg ha]
    obtain ⟨i, rfl⟩ : ∃ i : Nat, n = i := ⟨n.toNat, by omega⟩
    have h8 : i < Vs.length := by have := F.inv.len; omega
    obtain ⟨U, hU⟩ : ∃ U, Vs[i]? = some U := ⟨_, List.getElem?_eq_getElem h8⟩
    obtain ⟨hi, hv⟩ := F.at h1 hU
    have e1 : segs[i].gs.map (·.2) = U.es := congrArg VSeg.es hv
    have e2 : segs[i].ports = U.ports := congrArg VSeg.ports hv
    have e3 : segs[i].peers = U.peers := congrArg VSeg.peers hv
    have S := F.inv.seg i U hU
    have hq8 := S.q8
    have hl2 := S.len
    have := F.inv.r64
    have hgl : segs[i].gs.length = U.es.length := by rw [← e1]; simp
    simp only [Int.toNat_natCast, hU]
    cases hc : U.peers.contains tunnel with
    | false =>
      refine (unpeer_no w bb bm room life bound segs i tunnel i rfl hi (by rw [e3]; omega) (by rw [e3]; exact hc) B).mono ?_
      rintro e w' ⟨rfl, rfl⟩
      exact ⟨rfl, F⟩
    | true =>
      refine (unpeer_yes w bb bm room life bound segs i tunnel i rfl hi (by rw [e3]; omega) (by omega) (by rw [e3]; exact hc) B).mono ?_
      rintro e w' ⟨v', rfl, B', T⟩
      refine ⟨rfl, F.mk' hO T B' ?_ (F.inv.unq hU)⟩
      subst h1
      unfold vw
      rw [List.map_set]
      congr 1
      unfold vseg unU unQ
      simp only [e2, e3, if_true]
      rw [← e1]
      unfold rest restV
      rw [List.filter_map]
      rfl
end

/-- Of a frame that went: where, and what is left. -/
def Goes (O : Nat → Prop) (w0 : World) (bb : Nat) (room life : Int) (bound : Bd) (Vs : List VSeg) (i : Nat) (p : Place) (mt mo : Mac) (now : Int) (en : Ending) (w' : World) : Prop :=
  ∃ es ps qs moved code es' pa ta pl pc tl tc o, o = outE life now p mt es' ps qs ∧ en = tuple2 pa ta pl pc tl tc o.flood 0 ∧ Vs[i]? = some ⟨es, ps, qs⟩ ∧ (p.tunnel = false → p.n ∈ ps) ∧ (p.tunnel = true → p.n ∈ qs) ∧ groupB mo = false ∧ LearnV room es mo p now moved code es' ∧
    BB O w0 w' bb room life now bound (Vs.set i ⟨es', ps, qs⟩) ∧ IntSl w' (.slice pa pl pc) o.ports ∧ IntSl w' (.slice ta tl tc) o.tunnels
def NoGo (O : Nat → Prop) (w0 : World) (bb : Nat) (room life t : Int) (bound : Bd) (Vs : List VSeg) (code : Int) (en : Ending) (w' : World) : Prop :=
  code ≠ 0 ∧ en = tuple2 none none 0 0 0 0 false code ∧ BB O w0 w' bb room life t bound Vs

section
variable {O : Nat → Prop} {w0 w : World} {bb : Nat} {room life t : Int} {bound : Bd} {Vs : List VSeg} (F : BB O w0 w bb room life t bound Vs)
include F

theorem goes_of {bm : Nat} {segs : List SegG} {i : Nat} {es : List Ent} {ps qs : List Int} {p : Place} {mt mo : Mac} {now : Int} {e : Ending} {w' : World} (h1 : vw segs = Vs) (hO : ∀ k, bridgeFp bb bm segs k → O k) (hU : Vs[i]? = some ⟨es, ps, qs⟩)
    (hp1 : p.tunnel = false → p.n ∈ ps) (hp2 : p.tunnel = true → p.n ∈ qs) (ht : t ≤ now) (h : FromG w bb bm room life bound segs i es ps qs p mt mo now e w') : Goes O w0 bb room life bound Vs i p mt mo now e w' := by
  obtain ⟨segs', moved, code, es', pa, ta, pl, pc, tl, tc, rfl, hg, hL, B', hv, T, hP, hT, _, _⟩ := h
  rw [h1] at hv
  exact ⟨es, ps, qs, moved, code, es', pa, ta, pl, pc, tl, tc, _, rfl, rfl, hU, hp1, hp2, hg, hL, F.mk' hO T B' hv (F.inv.learn hU hL ht hp2 hp1), hP, hT⟩

theorem fromport_V (port now : Int) (hp : i64ok port) (hnow : u64ok now) (ht : t ≤ now) (a : Option Addr) (ln c : Nat) (mt mo : Mac) (hf : FrAt w a ln c mt mo) :
    Calls Try.prog 12 #[ptr bb, .int .i64 port, .slice a ln c, .int .u64 now] w fun e w' => (boundTo bound port = none ∧ NoGo O w0 bb room life t bound Vs 6 e w') ∨
      ∃ i : Nat, boundTo bound port = some (i : Int) ∧ i < 8 ∧ (NoGo O w0 bb room life t bound Vs (codeF ln mo) e w' ∨ (14 ≤ ln ∧ codeF ln mo = 0 ∧ Goes O w0 bb room life bound Vs i ⟨false, port⟩ mt mo now e w')) := by
  obtain ⟨bm, segs, h1, B, hO⟩ := F.rep
  cases hb : boundTo bound port with
  | none =>
    refine (fromport_none w bb bm room life bound segs port now _ hp hb B).mono ?_
    rintro e w' ⟨rfl, f⟩
    exact .inl ⟨rfl, by decide, rfl, F.frm f⟩
  | some n =>
    obtain ⟨i, U, rfl, h8, hU, hin⟩ := F.inv.of_some hb
    obtain ⟨es, ps, qs⟩ := U
    have S := F.inv.seg i _ hU
    have hl := S.plen
    have hl2 := S.len
    have hl3 := S.q8
    have := F.inv.b16
    have := F.inv.r64
    simp only at hl hl2 hl3 hin
    refine (fromport_g w bb bm room life bound segs port now i i rfl hp hb B (by rw [h1]; exact hU) a ln c mt mo hf hnow F.inv.r1 (by omega) (by omega) (by omega)).mono ?_
    rintro e w' (⟨h0, rfl, f⟩ | ⟨h14, h0, h⟩)
    · exact .inr ⟨i, rfl, h8, .inl ⟨h0, rfl, F.frm f⟩⟩
    · exact .inr ⟨i, rfl, h8, .inr ⟨h14, h0, goes_of F h1 hO hU (fun _ => hin) (fun h => by cases h) ht h⟩⟩

theorem fromtunnel_V (n port now : Int) (hnow : u64ok now) (ht : t ≤ now) (a : Option Addr) (ln c : Nat) (mt mo : Mac) (hf : FrAt w a ln c mt mo) :
    Calls Try.prog 28 #[ptr bb, .int .i64 n, .int .i64 port, .slice a ln c, .int .u64 now] w fun e w' => (((n < 0 ∨ 8 ≤ n) ∨ ∃ (i : Nat) (U : VSeg), n = i ∧ Vs[i]? = some U ∧ U.peers.contains port = false) ∧ NoGo O w0 bb room life t bound Vs 6 e w') ∨
      ∃ (i : Nat) (U : VSeg), n = i ∧ i < 8 ∧ Vs[i]? = some U ∧ U.peers.contains port = true ∧ (NoGo O w0 bb room life t bound Vs (codeF ln mo) e w' ∨ (14 ≤ ln ∧ codeF ln mo = 0 ∧ Goes O w0 bb room life bound Vs i ⟨true, port⟩ mt mo now e w')) := by
  obtain ⟨bm, segs, h1, B, hO⟩ := F.rep
  by_cases ha : n < 0 ∨ 8 ≤ n
  · refine (fromtunnel_out w bb port now n _ ha).mono ?_
    rintro e w' ⟨h0, rfl, f⟩
    exact .inl ⟨.inl ha, h0, rfl, F.frm f⟩
  · obtain ⟨i, rfl⟩ : ∃ i : Nat, n = i := ⟨n.toNat, by omega⟩
    have h8 : i < Vs.length := by have := F.inv.len; omega
    obtain ⟨U, hU⟩ : ∃ U, Vs[i]? = some U := ⟨_, List.getElem?_eq_getElem h8⟩
    obtain ⟨hi, hv⟩ := F.at h1 hU
    obtain ⟨es, ps, qs⟩ := U
    have e3 : segs[i].peers = qs := congrArg VSeg.peers hv
    have S := F.inv.seg i _ hU
    have hl := S.plen
    have hl2 := S.len
    have hl3 := S.q8
    have := F.inv.b16
    have := F.inv.r64
    simp only at hl hl2 hl3
    cases hc : qs.contains port with
    | false =>
      refine (fromtunnel_no w bb bm room life bound segs port now i _ i rfl hi (by rw [e3]; omega) (by rw [e3]; exact hc) B).mono ?_
      rintro e w' ⟨h0, rfl, f⟩
      exact .inl ⟨.inr ⟨i, _, rfl, hU, hc⟩, h0, rfl, F.frm f⟩
    | true =>
      refine (fromtunnel_g w bb bm room life bound segs port now i i rfl B (by rw [h1]; exact hU) hc a ln c mt mo hf hnow F.inv.r1 (by omega) (by omega) (by omega)).mono ?_
      have hin : port ∈ qs := by simpa using hc
      have h8' : i < 8 := by omega
      rintro e w' (⟨h0, rfl, f⟩ | ⟨h14, h0, h⟩)
      · exact .inr ⟨i, _, rfl, h8', hU, hc, .inl ⟨h0, rfl, F.frm f⟩⟩
      · exact .inr ⟨i, _, rfl, h8', hU, hc, .inr ⟨h14, h0, goes_of F h1 hO hU (fun h => by cases h) (fun _ => hin) ht h⟩⟩
end
end V
end Go.Proofs.Ytmddhglhfgomiaa
