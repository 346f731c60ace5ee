/- bridge: Unbind, Unpeer; Bind of a port that is bound. Conditions: none. -/
import Derived.Test.YtmddhglhfgomiaaBind
import Derived.Test.YtmddhglhfgomiaaDrop
namespace Go.Proofs.Ytmddhglhfgomiaa
open Go Go.RowKit Go.Maps

section
variable {w w' : World} {bb bm : Nat} {room life : Int} {bound : List (Int × Int)} {segs : List SegG}

theorem BridgeRep.bnd (B : BridgeRep w bb bm room life bound segs) {port n : Int} (h : (port, n) ∈ bound) : boundTo bound port = some n := by
  cases hb : boundTo bound port with
  | none => exact absurd rfl (boundTo_none hb _ h)
  | some m =>
    have h2 := boundTo_some hb
    have key : ∀ {l : List (Int × Int)}, l.Pairwise (fun p q => p.1 ≠ q.1) → ∀ x ∈ l, ∀ y ∈ l, x.1 = y.1 → x = y := by
      intro l hl
      induction hl with
      | nil => intro x hx; cases hx
      | cons h1 _ ih =>
        intro x hx y hy e
        rcases List.mem_cons.1 hx with rfl | hx' <;> rcases List.mem_cons.1 hy with rfl | hy'
        · rfl
        · exact absurd e (h1 y hy')
        · exact absurd e.symm (h1 x hx')
        · exact ih x hx' y hy' e
    have := key B.ports _ h _ h2 rfl
    cases this
    rfl

theorem BridgeRep.unput (B : BridgeRep w bb bm room life bound segs) {port n : Int} (hp : i64ok port) (hin : (port, n) ∈ bound) :
    ∃ o, (∀ ty, (Builtin.delete_ #[69, 3] ty #[.map (some bm), .int .i64 port]).run Try.prog w = .ok (.tuple #[]) (setB w bm o)) ∧ BridgeRep (setB w bm o) bb bm room life (bound.filter (fun p => p.1 != port)) segs := by
  obtain ⟨l1, l2, hs⟩ := List.append_of_mem hin
  have hf : bound.filter (fun p => p.1 != port) = l1 ++ l2 := by
    have hp := B.ports
    rw [hs] at hp ⊢
    obtain ⟨_, h2, h3⟩ := List.pairwise_append.1 hp
    obtain ⟨h4, _⟩ := List.pairwise_cons.1 h2
    rw [List.filter_append, List.filter_cons]
    simp only [bne_self_eq_false, Bool.false_eq_true, if_false]
    congr 1
    · exact List.filter_eq_self.2 (fun x hx => by have := h3 x hx (port, n) (by simp); simpa using this)
    · exact List.filter_eq_self.2 (fun x hx => by have := h4 x hx; simpa using fun e : x.1 = port => this e.symm)
  have hk : bkv bound = bkv l1 ++ (Value.int .i64 port, Value.int .i64 n) :: bkv l2 := by rw [hs]; simp [bkv]
  obtain ⟨o, ho⟩ := MapAt.del_some (key := Value.int .i64 port) (v0 := Value.int .i64 n) (l1 := bkv l1) (l2 := bkv l2) (hk ▸ B.map) intLaw imapT (hk ▸ B.kfit) (intKey hp) (hk ▸ B.kapart) 3
  have f : Frm (fun k => k = bm) w (setB w bm o) := (Frm.refl _ _).setB _ (fun _ => rfl)
  refine ⟨o, fun ty => (ho w rfl ty).1, B.row.frm f B.bb_ne_bm, ?_, B.len, fun s hs => (B.srep s hs).frm f (fun k hk e => B.bm_apart hs (e ▸ hk)), B.apart, B.bmap, fun p hp => B.keys p (List.mem_filter.1 hp).1, B.ports.sublist List.filter_sublist⟩
  have := (ho w rfl 0).2
  rw [hf]
  simpa [bkv] using this

theorem SegRep.forgot {W W' : World} {s : SegG} (S : SegRep W room life s) {p : Ent → Bool} (hB : BaseRep W' s.base s.mb room life (rest p s.gs)) (hF : Frm (fun k => k = s.mb) W W') :
    SegRep W' room life { s with gs := rest p s.gs } :=
  have hF' : Frm (baseFp s.base s.mb s.gs) W W' := hF.mono (fun _ h => .inr (.inl h))
  ⟨S.row.frm hF' (fun h => (S.base_apart h).1 rfl), hB, S.ports.frm hF' (fun _ hg h => (S.base_apart h).2.1 hg), S.peers.frm hF' (fun _ hg h => (S.base_apart h).2.2 hg)⟩
end

def unG (s : SegG) (v' : Value) (port : Int) : SegG := { s with pv := v', ports := strike s.ports port, gs := rest (fun e => decide (e.place = ⟨false, port⟩)) s.gs }
def unQ (s : SegG) (v' : Value) (port : Int) : SegG := { s with qv := v', peers := strike s.peers port, gs := rest (fun e => decide (e.place = ⟨true, port⟩)) s.gs }

theorem unG_fp {s : SegG} {v' : Value} {port : Int} {n : Nat} (h : ∀ k, segFp { s with pv := v', ports := strike s.ports port } k → segFp s k ∨ n ≤ k) : ∀ k, segFp (unG s v' port) k → segFp s k ∨ n ≤ k := by
  rintro k (hk | hk | hk | hk)
  · exact h k (.inl hk)
  · refine h k (.inr (.inl ?_))
    rcases hk with hk | hk | ⟨g, hg, hk⟩
    · exact .inl hk
    · exact .inr (.inl hk)
    · exact .inr (.inr ⟨g, (List.mem_filter.1 hg).1, hk⟩)
  · exact h k (.inr (.inr (.inl hk)))
  · exact h k (.inr (.inr (.inr hk)))
theorem unQ_fp {s : SegG} {v' : Value} {port : Int} {n : Nat} (h : ∀ k, segFp { s with qv := v', peers := strike s.peers port } k → segFp s k ∨ n ≤ k) : ∀ k, segFp (unQ s v' port) k → segFp s k ∨ n ≤ k := by
  rintro k (hk | hk | hk | hk)
  · exact h k (.inl hk)
  · refine h k (.inr (.inl ?_))
    rcases hk with hk | hk | ⟨g, hg, hk⟩
    · exact .inl hk
    · exact .inr (.inl hk)
    · exact .inr (.inr ⟨g, (List.mem_filter.1 hg).1, hk⟩)
  · exact h k (.inr (.inr (.inl hk)))
  · exact h k (.inr (.inr (.inr hk)))

section
variable (w : World) (bb bm : Nat) (room life : Int) (bound : List (Int × Int)) (segs : List SegG)

/-- Of a port that was bound to segment i: it is not any more. -/
def UnbindOk (port : Int) (i : Nat) (hi : i < segs.length) (en : Ending) (w' : World) : Prop :=
  ∃ v', en = .returned (.int .i64 0) ∧ BridgeRep w' bb bm room life (bound.filter (fun p => p.1 != port)) (segs.set i (unG segs[i] v' port)) ∧ BrTurn bb bm segs w w' (segs.set i (unG segs[i] v' port))

set_option maxRecDepth 100000 in
set_option maxHeartbeats 1000000 in
theorem unbind_some (port n : Int) (i : Nat) (hn : n = i) (hi : i < segs.length) (hp : i64ok port) (hl : segs[i].ports.length ≤ 1073741824) (hN : segs[i].gs.length ≤ 1048576) (B : BridgeRep w bb bm room life bound segs) (hb : boundTo bound port = some n) :
    Calls Try.prog 20 #[ptr bb, .int .i64 port] w (UnbindOk w bb bm room life bound segs port i hi) := by
  have hlk := B.look hp
  rw [hb] at hlk
  simp only [Option.getD_some, Option.isSome_some] at hlk
  have c8 := B.cell8
  obtain ⟨o, hdel, B2⟩ := B.unput hp (boundTo_some hb)
  have h0 : 0 ≤ n := by omega
  have h8 : n < 8 := by have := B.len; omega
  have hc : (setB w bm o).cell? ⟨bb, n.toNat, none⟩ = some (ptr segs[i].blk) := by rw [hn]; exact B2.cell hi
  have S := B2.srep _ (List.getElem_mem hi)
  have hset := fun (w' : World) (s' : SegG) h1 h2 h3 h4 h5 => B2.setSeg (w' := w') (s' := s') hi h1 h2 h3 h4 h5
  have hturn := fun (w' : World) (s' : SegG) h1 h2 => BrTurn.seg (bb := bb) (bm := bm) (w := setB w bm o) (w' := w') (s' := s') hi h1 h2
  have hturn0 : BrTurn bb bm segs w (setB w bm o) segs := ⟨(Frm.refl _ _).setB _ (fun _ => .inr (.inl rfl)), fun k hk => .inl hk⟩
  have hwo := without_any (setB w bm o) segs[i].pv segs[i].ports port S.ports hl
  unfold UnbindOk
  generalize segs[i] = s at *
  have c1 := S.row.cell 1
  have hlt := S.row.lt
  have f1 := S.row.free 1
  simp at c1
  obtain ⟨aq, cq, hq⟩ := S.ports.len
  rw [hq] at c1 hwo
  have Hn := Lib.hid hn
  have Hq := Lib.hid hq
  have HS := Lib.hid S
  clear hn hq B B2 hb S
  go_enter Try.func20, Try.ntmps20
  go_wp2_with fail
  refine hwo.mono ?_
  clear hwo
  rintro e w1 ⟨v', rfl, hv, hnew, hB⟩
  have S := HS.out
  have c1' : w1.cell? ⟨s.blk, 1, none⟩ = some (.slice aq s.ports.length cq) := (hB.cell (p := ⟨s.blk, 1, none⟩) hlt).trans c1
  have f1' : w1.frozen? ⟨s.blk, 1, none⟩ = false := (hB.frozen (p := ⟨s.blk, 1, none⟩) hlt).trans f1
  obtain ⟨av, nv, cv, hvv⟩ := storable hv
  obtain ⟨w2, hw2⟩ : ∃ w2, w2 = w1.setCell ⟨s.blk, 1, none⟩ v' := ⟨_, rfl⟩
  obtain ⟨S', hf', hfp'⟩ := S.setPorts hB hv hnew hw2
  subst hvv
  have hfg := forget_any w2 s.base s.mb room life s.gs ⟨false, port⟩ hN S'.base
  have d0 := S'.row.cell 0
  have dlt := S'.row.lt
  simp at d0
  have HS' := Lib.hid S'
  clear S S' HS hv hnew
  subst hw2
  go_wp2_with fail
  refine hfg.mono ?_
  rintro e w3 ⟨rfl, hB3, hF3⟩
  have S3 := HS'.out.forgot hB3 hF3
  have hf3 : Frm (segFp s) (setB w bm o) w3 := hf'.trans hF3 (fun k hk _ => .inr (.inl (.inr (.inl hk))))
  go_wp2_with fail
  go_ret
  exact ⟨.slice av nv cv, rfl, hset w3 (unG s (.slice av nv cv) port) S3 rfl rfl hf3 (unG_fp hfp'), hturn0.trans (hturn w3 (unG s (.slice av nv cv) port) hf3 (unG_fp hfp'))⟩

set_option maxRecDepth 100000 in
set_option maxHeartbeats 1000000 in
theorem unpeer_no (n tunnel : Int) (i : Nat) (hn : n = i) (hi : i < segs.length) (hl : segs[i].peers.length ≤ 1073741824) (hc : segs[i].peers.contains tunnel = false) (B : BridgeRep w bb bm room life bound segs) :
    Calls Try.prog 24 #[ptr bb, .int .i64 n, .int .i64 tunnel] w fun e w' => e = .returned (.int .i64 6) ∧ w = w' := by
  have hs := seg_in w bb bm room life bound segs n i hn hi B
  have S := B.srep _ (List.getElem_mem hi)
  have hcon := contains_any w segs[i].qv segs[i].peers tunnel S.peers hl
  rw [hc] at hcon
  generalize segs[i] = s at *
  have c2 := S.row.cell 2
  simp at c2
  obtain ⟨aq, cq, hq⟩ := S.peers.len
  rw [hq] at c2 hcon
  clear hn hq B S
  go_enter Try.func24, Try.ntmps24
  go_wp2_with (first | (go_at_call 35; refine hs.mono ?_; rintro e w' ⟨rfl, rfl⟩) | (go_at_call 45; refine hcon.mono ?_; rintro e w' ⟨rfl, rfl⟩))
  go_ret
  exact ⟨rfl, rfl⟩

set_option maxRecDepth 100000 in
set_option maxHeartbeats 1000000 in
theorem unpeer_out (n tunnel : Int) (hn : n < 0 ∨ 8 ≤ n) :
    Calls Try.prog 24 #[ptr bb, .int .i64 n, .int .i64 tunnel] w fun e w' => e = .returned (.int .i64 6) ∧ w = w' := by
  have hs := seg_out w bb n hn
  go_enter Try.func24, Try.ntmps24
  go_wp2_with (go_at_call 35; refine hs.mono ?_; rintro e w' ⟨rfl, rfl⟩)
  go_ret
  exact ⟨rfl, rfl⟩

set_option maxRecDepth 100000 in
set_option maxHeartbeats 1000000 in
theorem unpeer_yes (n tunnel : Int) (i : Nat) (hn : n = i) (hi : i < segs.length) (hl : segs[i].peers.length ≤ 1073741824) (hN : segs[i].gs.length ≤ 1048576) (hc : segs[i].peers.contains tunnel = true) (B : BridgeRep w bb bm room life bound segs) :
    Calls Try.prog 24 #[ptr bb, .int .i64 n, .int .i64 tunnel] w fun e w' => ∃ v', e = .returned (.int .i64 0) ∧ BridgeRep w' bb bm room life bound (segs.set i (unQ segs[i] v' tunnel)) ∧ BrTurn bb bm segs w w' (segs.set i (unQ segs[i] v' tunnel)) := by
  have hs := seg_in w bb bm room life bound segs n i hn hi B
  have S := B.srep _ (List.getElem_mem hi)
  have hset := fun (w' : World) (s' : SegG) h1 h2 h3 h4 h5 => B.setSeg (w' := w') (s' := s') hi h1 h2 h3 h4 h5
  have hturn := fun (w' : World) (s' : SegG) h1 h2 => BrTurn.seg (bb := bb) (bm := bm) (w := w) (w' := w') (s' := s') hi h1 h2
  have hcon := contains_any w segs[i].qv segs[i].peers tunnel S.peers hl
  have hwo := without_any w segs[i].qv segs[i].peers tunnel S.peers hl
  rw [hc] at hcon
  generalize segs[i] = s at *
  have c2 := S.row.cell 2
  have hlt := S.row.lt
  have f2 := S.row.free 2
  simp at c2
  obtain ⟨aq, cq, hq⟩ := S.peers.len
  rw [hq] at c2 hcon hwo
  have Hn := Lib.hid hn
  have Hq := Lib.hid hq
  have HS := Lib.hid S
  clear hn hq B S
  go_enter Try.func24, Try.ntmps24
  go_wp2_with (first | (go_at_call 35; refine hs.mono ?_; rintro e w' ⟨rfl, rfl⟩) | (go_at_call 45; refine hcon.mono ?_; rintro e w' ⟨rfl, rfl⟩))
  refine hwo.mono ?_
  clear hwo
  rintro e w1 ⟨v', rfl, hv, hnew, hB⟩
  have S := HS.out
  have c2' : w1.cell? ⟨s.blk, 2, none⟩ = some (.slice aq s.peers.length cq) := (hB.cell (p := ⟨s.blk, 2, none⟩) hlt).trans c2
  have f2' : w1.frozen? ⟨s.blk, 2, none⟩ = false := (hB.frozen (p := ⟨s.blk, 2, none⟩) hlt).trans f2
  obtain ⟨av, nv, cv, hvv⟩ := storable hv
  obtain ⟨w2, hw2⟩ : ∃ w2, w2 = w1.setCell ⟨s.blk, 2, none⟩ v' := ⟨_, rfl⟩
  obtain ⟨S', hf', hfp'⟩ := S.setPeers hB hv hnew hw2
  subst hvv
  have hfg := forget_any w2 s.base s.mb room life s.gs ⟨true, tunnel⟩ hN S'.base
  have d0 := S'.row.cell 0
  have dlt := S'.row.lt
  simp at d0
  have HS' := Lib.hid S'
  clear S S' HS hv hnew
  subst hw2
  go_wp2_with fail
  refine hfg.mono ?_
  rintro e w3 ⟨rfl, hB3, hF3⟩
  have S3 := HS'.out.forgot hB3 hF3
  have hf3 : Frm (segFp s) w w3 := hf'.trans hF3 (fun k hk _ => .inr (.inl (.inr (.inl hk))))
  go_wp2_with fail
  go_ret
  exact ⟨.slice av nv cv, rfl, hset w3 (unQ s (.slice av nv cv) tunnel) S3 rfl rfl hf3 (unQ_fp hfp'), hturn w3 (unQ s (.slice av nv cv) tunnel) hf3 (unQ_fp hfp')⟩

/-! ### Bind, the other ways -/

set_option maxRecDepth 100000 in
set_option maxHeartbeats 1000000 in
theorem bind_arg (port n : Int) (hp : i64ok port) (B : BridgeRep w bb bm room life bound segs) (h : port < 0 ∨ n < 0 ∨ 8 ≤ n) :
    Calls Try.prog 18 #[ptr bb, .int .i64 port, .int .i64 n] w fun e w' => e = .returned (.int .i64 1) ∧ w = w' := by
  have hs : ∃ p : Option Addr, (0 ≤ port → p = none) ∧ Calls Try.prog 35 #[ptr bb, .int .i64 n] w fun e w' => e = .returned (.pointer p) ∧ w = w' := by
    by_cases hn : n < 0 ∨ 8 ≤ n
    · exact ⟨none, fun _ => rfl, seg_out w bb n hn⟩
    · have hi : n.toNat < segs.length := by have := B.len; omega
      exact ⟨_, fun h0 => by omega, seg_in w bb bm room life bound segs n n.toNat (by omega) hi B⟩
  obtain ⟨p, hp0, hs⟩ := hs
  have hlk := B.look hp
  have c8 := B.cell8
  clear B
  by_cases ht : port < 0
  · clear hp0 h
    go_enter Try.func18, Try.ntmps18
    go_wp2_with (go_at_call 35; refine hs.mono ?_; rintro e w' ⟨rfl, rfl⟩)
    go_ret
    exact ⟨rfl, rfl⟩
  · obtain rfl := hp0 (by omega)
    clear hp0 h
    go_enter Try.func18, Try.ntmps18
    go_wp2_with (go_at_call 35; refine hs.mono ?_; rintro e w' ⟨rfl, rfl⟩)
    go_ret
    exact ⟨rfl, rfl⟩

set_option maxRecDepth 100000 in
set_option maxHeartbeats 1000000 in
theorem bind_same (port n : Int) (i : Nat) (hn : n = i) (hi : i < segs.length) (hp0 : 0 ≤ port) (hp : i64ok port) (hb : boundTo bound port = some n) (B : BridgeRep w bb bm room life bound segs) :
    Calls Try.prog 18 #[ptr bb, .int .i64 port, .int .i64 n] w fun e w' => e = .returned (.int .i64 0) ∧ w = w' := by
  have hs := seg_in w bb bm room life bound segs n i hn hi B
  have hlk := B.look hp
  rw [hb] at hlk
  simp only [Option.getD_some, Option.isSome_some] at hlk
  have c8 := B.cell8
  clear B hb hn
  go_enter Try.func18, Try.ntmps18
  go_wp2_with (go_at_call 35; refine hs.mono ?_; rintro e w' ⟨rfl, rfl⟩)
  go_ret
  exact ⟨rfl, rfl⟩

set_option maxRecDepth 100000 in
set_option maxHeartbeats 1000000 in
theorem bind_full (port n : Int) (i : Nat) (hn : n = i) (hi : i < segs.length) (hp0 : 0 ≤ port) (hp : i64ok port) (hb : boundTo bound port = none) (h16 : 16 ≤ bound.length) (B : BridgeRep w bb bm room life bound segs) :
    Calls Try.prog 18 #[ptr bb, .int .i64 port, .int .i64 n] w fun e w' => e = .returned (.int .i64 5) ∧ w = w' := by
  have hs := seg_in w bb bm room life bound segs n i hn hi B
  have hlk := B.look hp
  rw [hb] at hlk
  simp only [Option.getD_none, Option.isSome_none] at hlk
  have c8 := B.cell8
  have hlen := B.len16
  have h16' : (16 : Int) ≤ (bound.length : Int) := by omega
  clear B hb hn
  go_enter Try.func18, Try.ntmps18
  go_wp2_with (go_at_call 35; refine hs.mono ?_; rintro e w' ⟨rfl, rfl⟩)
  go_ret
  exact ⟨rfl, rfl⟩

/-- The segments behind a move from j to i. -/
def movG (segs : List SegG) (port : Int) (j i : Nat) (hj : j < segs.length) (hi : i < segs.length) (u v : Value) : List SegG := (segs.set j (unG segs[j] u port)).set i { segs[i] with pv := v, ports := insI segs[i].ports port }

set_option maxRecDepth 100000 in
set_option maxHeartbeats 2000000 in
theorem bind_move (port n m : Int) (i j : Nat) (hn : n = i) (hm : m = j) (hi : i < segs.length) (hj : j < segs.length) (hij : j ≠ i) (hp0 : 0 ≤ port) (hp : i64ok port) (hl : segs[i].ports.length ≤ 1073741823) (hlj : segs[j].ports.length ≤ 1073741824) (hN : segs[j].gs.length ≤ 1048576)
    (hso : segs[i].ports.Pairwise (· ≤ ·)) (B : BridgeRep w bb bm room life bound segs) (hb : boundTo bound port = some m) :
    Calls Try.prog 18 #[ptr bb, .int .i64 port, .int .i64 n] w fun en w' => ∃ u v, en = .returned (.int .i64 0) ∧ BridgeRep w' bb bm room life (bound.filter (fun p => p.1 != port) ++ [(port, n)]) (movG segs port j i hj hi u v) ∧ BrTurn bb bm segs w w' (movG segs port j i hj hi u v) := by
  have hs := seg_in w bb bm room life bound segs n i hn hi B
  have hlk := B.look hp
  rw [hb] at hlk
  simp only [Option.getD_some, Option.isSome_some] at hlk
  have c8 := B.cell8
  have hun := unbind_some w bb bm room life bound segs port m j hm hj hp hlj hN B hb
  have hmn : ¬ m = n := by omega
  unfold movG
  obtain ⟨sb, hsb⟩ : ∃ sb, sb = segs[i].blk := ⟨_, rfl⟩
  rw [← hsb] at hs
  have HB := Lib.hid B
  have Hn := Lib.hid hn
  have Hsb := Lib.hid hsb
  clear hn hm B hb hsb
  go_enter Try.func18, Try.ntmps18
  go_wp2_with (go_at_call 35; refine hs.mono ?_; rintro e w' ⟨rfl, rfl⟩)
  refine hun.mono ?_
  clear hun hs hlk c8
  rintro e w1 ⟨u, rfl, B1, T1⟩
  have c8 := B1.cell8
  have hno : ∀ p ∈ bound.filter (fun p => p.1 != port), p.1 ≠ port := fun p hp => by simpa using (List.mem_filter.1 hp).2
  obtain ⟨o, hput, B2⟩ := B1.put (n := n) hp hno
  have hi' : i < (segs.set j (unG segs[j] u port)).length := by simpa using hi
  have hgi : (segs.set j (unG segs[j] u port))[i] = segs[i] := List.getElem_set_ne hij _
  have S := B2.srep _ (List.getElem_mem hi')
  have hset := fun (w' : World) (s' : SegG) h1 h2 h3 h4 h5 => B2.setSeg (w' := w') (s' := s') hi' h1 h2 h3 h4 h5
  have hturn := fun (w' : World) (s' : SegG) h1 h2 => BrTurn.seg (bb := bb) (bm := bm) (w := setB w1 bm o) (w' := w') (s' := s') hi' h1 h2
  have hturn0 : BrTurn bb bm (segs.set j (unG segs[j] u port)) w1 (setB w1 bm o) (segs.set j (unG segs[j] u port)) := ⟨(Frm.refl _ _).setB _ (fun _ => .inr (.inl rfl)), fun k hk => .inl hk⟩
  rw [hgi] at S hset hturn
  have hwith := with_any (setB w1 bm o) segs[i].pv segs[i].ports port S.ports (by omega) hso
  have HT := Lib.hid (T1.trans hturn0)
  have hsb := Hsb.out
  clear HB B1 B2 T1 hturn0 hgi
  obtain ⟨s, hseg⟩ : ∃ s, s = segs[i] := ⟨_, rfl⟩
  rw [← hseg] at S hset hturn hwith hsb
  rw [← hseg] at hl hso
  have Hseg := Lib.hid hseg
  clear hseg
  subst hsb
  have c1 := S.row.cell 1
  have hlt := S.row.lt
  have f1 := S.row.free 1
  simp at c1
  obtain ⟨aq, cq, hq⟩ := S.ports.len
  rw [hq] at c1 hwith
  have Hq := Lib.hid hq
  clear hq
  go_wp2_with fail
  refine hwith.mono ?_
  rintro e w2 ⟨v', rfl, hv, hnew, hB⟩
  have c1' : w2.cell? ⟨s.blk, 1, none⟩ = some (.slice aq s.ports.length cq) := (hB.cell (p := ⟨s.blk, 1, none⟩) hlt).trans c1
  have f1' : w2.frozen? ⟨s.blk, 1, none⟩ = false := (hB.frozen (p := ⟨s.blk, 1, none⟩) hlt).trans f1
  obtain ⟨av, nv, cv, hvv⟩ := storable hv
  obtain ⟨S', hf', hfp'⟩ := S.setPorts hB hv hnew rfl
  subst hvv
  go_wp2_with fail
  go_ret
  have hseg := Hseg.out
  rw [← hseg]
  exact ⟨u, _, rfl, hset _ _ S' rfl rfl hf' hfp', HT.out.trans (hturn _ _ hf' hfp')⟩
end
end Go.Proofs.Ytmddhglhfgomiaa
