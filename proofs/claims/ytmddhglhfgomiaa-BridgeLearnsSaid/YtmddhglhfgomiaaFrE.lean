/- bridge: FromPort and FromTunnel of any frame. Conditions: none. -/
import Derived.Test.YtmddhglhfgomiaaView
import Derived.Test.YtmddhglhfgomiaaUn
import Derived.Test.YtmddhglhfgomiaaFV
namespace Go.Proofs.Ytmddhglhfgomiaa
open Go Go.RowKit Go.Maps

/-- A frame as it came: if it is long enough, its two MACs. -/
structure FrAt (w : World) (a : Option Addr) (ln c : Nat) (mt mo : Mac) : Prop where
  cap : ln ≤ c
  macs : 14 ≤ ln → ∃ fb fo, a = some ⟨fb, fo, none⟩ ∧ fb < w.heap.size ∧ MacAt w fb fo mt ∧ MacAt w fb (fo + 6) mo
  tok : mt.ok
  ook : mo.ok

theorem FrAt.frm {w w' : World} {F : Nat → Prop} {a : Option Addr} {ln c : Nat} {mt mo : Mac} (h : FrAt w a ln c mt mo) (f : Frm F w w') (hF : ∀ k, k < w.heap.size → ¬ F k) : FrAt w' a ln c mt mo :=
  ⟨h.cap, fun h14 => by
    obtain ⟨fb, fo, e, hlt, h1, h2⟩ := h.macs h14
    exact ⟨fb, fo, e, Nat.lt_of_lt_of_le hlt f.size, h1.frm hlt f (hF _ hlt), h2.frm hlt f (hF _ hlt)⟩, h.tok, h.ook⟩

/-- What is answered and left. -/
def FromG (w : World) (bb bm : Nat) (room life : Int) (bound : List (Int × Int)) (segs : List SegG) (i : Nat) (es : List Ent) (ps qs : List Int) (p : Place) (mt mo : Mac) (now : Int) (en : Ending) (w' : World) : Prop :=
  ∃ segs' moved code es' pa ta pl pc tl tc, en = tuple2 pa ta pl pc tl tc (outE life now p mt es' ps qs).flood 0 ∧ groupB mo = false ∧ V.LearnV room es mo p now moved code es' ∧ BridgeRep w' bb bm room life bound segs' ∧ vw segs' = (vw segs).set i ⟨es', ps, qs⟩ ∧
    BrTurn bb bm segs w w' segs' ∧ IntSl w' (.slice pa pl pc) (outE life now p mt es' ps qs).ports ∧ IntSl w' (.slice ta tl tc) (outE life now p mt es' ps qs).tunnels ∧
    (∀ a, pa = some a → w.heap.size ≤ a.block ∧ ¬ bridgeFp bb bm segs' a.block) ∧ (∀ a, ta = some a → w.heap.size ≤ a.block ∧ ¬ bridgeFp bb bm segs' a.block)

theorem FromG.of {w w' : World} {bb bm : Nat} {room life : Int} {bound : List (Int × Int)} {segs : List SegG} {i : Nat} {hi : i < segs.length} {p : Place} {mt mo : Mac} {now : Int} {en : Ending} (B : BridgeRep w bb bm room life bound segs)
    {es : List Ent} {ps qs : List Int} (hV : vseg segs[i] = ⟨es, ps, qs⟩) (hg : groupB mo = false) (h : BrFrame w bb bm room life bound segs i hi p mt mo now en w') : FromG w bb bm room life bound segs i es ps qs p mt mo now en w' := by
  obtain ⟨pa, ta, pl, pc, tl, tc, nb, moved, code, gs', rfl, hnb, hres, B', T, hP, hT, hpf, htf⟩ := h
  have S := B.srep _ (List.getElem_mem hi)
  obtain ⟨rfl, rfl, rfl⟩ : segs[i].gs.map (·.2) = es ∧ segs[i].ports = ps ∧ segs[i].peers = qs := by
    unfold vseg at hV
    exact ⟨congrArg VSeg.es hV, congrArg VSeg.ports hV, congrArg VSeg.peers hV⟩
  have hle := V.learnV_of hres S.base.macs S.base.blks
  rw [outOf_eq] at hP hT ⊢
  have key : ∀ a : Option Addr, ∀ pl pc : Nat, ∀ zs : List Int, IntSl w' (.slice a pl pc) zs → (∀ x, a = some x → w.heap.size ≤ x.block) →
      ∀ x, a = some x → w.heap.size ≤ x.block ∧ ¬ bridgeFp bb bm (segs.set i { segs[i] with gs := gs' }) x.block := by
    intro a pl pc zs hI hf x hx
    refine ⟨hf x hx, ?_⟩
    subst hx
    rcases hI.cases with ⟨h1, _⟩ | ⟨g, cap, cs, h1, hr, _⟩
    · cases h1
    · cases h1
      refine B'.int_apart hr (fun s hs => ?_)
      have h0 : w.heap.size ≤ g := hf _ rfl
      have hin : s ∈ segs ∨ s = { segs[i] with gs := gs' } := List.mem_or_eq_of_mem_set hs
      have : ∃ s0 ∈ segs, s0.pv = s.pv ∧ s0.qv = s.qv := by
        rcases hin with h | h
        · exact ⟨s, h, rfl, rfl⟩
        · exact ⟨_, List.getElem_mem hi, by rw [h], by rw [h]⟩
      obtain ⟨s0, h2, h3, h4⟩ := this
      have S0 := B.srep s0 h2
      constructor
      · intro e
        rw [← h3] at e
        have h9 := S0.ports.blk_lt e
        exact absurd (Nat.lt_of_lt_of_le h9 h0) (Nat.lt_irrefl _)
      · intro e
        rw [← h4] at e
        have h9 := S0.peers.blk_lt e
        exact absurd (Nat.lt_of_lt_of_le h9 h0) (Nat.lt_irrefl _)
  refine ⟨_, moved, code, gs'.map (·.2), pa, ta, pl, pc, tl, tc, rfl, hg, hle, B', ?_, T, hP, hT, key _ _ _ _ hP hpf, key _ _ _ _ hT htf⟩
  unfold vw
  rw [List.map_set]
  rfl

/-- Refused. -/
def Refus (w : World) (code : Int) (en : Ending) (w' : World) : Prop := code ≠ 0 ∧ en = tuple2 none none 0 0 0 0 false code ∧ Frm (fun _ => False) w w'
/-- Why a frame is refused; 0: it is not. -/
def codeF (ln : Nat) (mo : Mac) : Int := if ln < 14 then 2 else if 9000 < ln then 7 else if groupB mo = true then 3 else 0

section
variable (w : World) (bb bm : Nat) (room life : Int) (bound : List (Int × Int)) (segs : List SegG)

theorem put3_frm {w w1 : World} (f : Frm (fun _ => False) (w.alloc outO) w1) (x y z : Value) : Frm (fun _ => False) w (put3w w1 w.heap.size x y z) := by
  have f0 := ((Frm.refl (fun _ => False) w).alloc outO).trans0 f
  have f1 : Frm (fun k => k = w.heap.size) w1 (put3w w1 w.heap.size x y z) := (((Frm.refl (fun k => k = w.heap.size) w1).setCell _ (fun _ => rfl)).setCell _ (fun _ => rfl)).setCell _ (fun _ => rfl)
  exact f0.trans f1 (fun i hi hlt => by omega)

/-- What segment.frame refuses. -/
theorem sframe_bad (sb : Nat) (p : Place) (a : Option Addr) (ln c : Nat) (now : Int) (mt mo : Mac) (h : FrAt w a ln c mt mo) (hbad : ln < 14 ∨ 9000 < ln ∨ groupB mo = true) :
    Calls Try.prog 36 #[ptr sb, placeV p, .slice a ln c, .int .u64 now] w (Refus w (codeF ln mo)) := by
  by_cases h1 : ln < 14
  · exact (sframe_short w sb p a ln c now h1).mono fun _ _ h => by rw [show codeF ln mo = 2 by unfold codeF; rw [if_pos h1]]; exact ⟨by decide, h.1, h.2⟩
  · by_cases h2 : 9000 < ln
    · exact (sframe_big w sb p a ln c now h2).mono fun _ _ h => by rw [show codeF ln mo = 7 by unfold codeF; rw [if_neg h1, if_pos h2]]; exact ⟨by decide, h.1, h.2⟩
    · obtain ⟨fb, fo, rfl, hlt, m1, m2⟩ := h.macs (by omega)
      exact (sframe_form w sb fb fo p ln c now mt mo (by omega) (by omega) h.cap hlt m1 m2 h.ook ((hbad.resolve_left h1).resolve_left h2)).mono fun _ _ h => by rw [show codeF ln mo = 3 by unfold codeF; rw [if_neg h1, if_neg h2, if_pos ((hbad.resolve_left h1).resolve_left h2)]]; exact ⟨by decide, h.1, h.2⟩

theorem via_bad {sb : Nat} {p : Place} {a : Option Addr} {ln c : Nat} {now kd : Int} (Q : Ending → World → Prop) (h : Calls Try.prog 36 #[ptr sb, placeV p, .slice a ln c, .int .u64 now] (w.alloc outO) (Refus (w.alloc outO) kd)) :
    Calls Try.prog 36 #[ptr sb, placeV p, .slice a ln c, .int .u64 now] (w.alloc outO) fun e w1 => ∃ pa ta pl pc tl tc fl code, e = tuple2 pa ta pl pc tl tc fl code ∧
      Row w1 w.heap.size 34 [.slice none 0 0, .slice none 0 0, .bool false] ∧ (Refus w kd e (put3w w1 w.heap.size (.slice pa pl pc) (.slice ta tl tc) (.bool fl)) ∨ Q e (put3w w1 w.heap.size (.slice pa pl pc) (.slice ta tl tc) (.bool fl))) :=
  h.mono fun e w1 h => by
    obtain ⟨h0, rfl, f⟩ := h
    exact ⟨none, none, 0, 0, 0, 0, false, kd, rfl, (Row.new w 34 [.slice none 0 0, .slice none 0 0, .bool false]).frm f (fun h => h), .inl ⟨h0, rfl, put3_frm f _ _ _⟩⟩

theorem learn_gs {W : World} {s : SegG} (hr : 1 ≤ room) (hN : s.gs.length ≤ 1048576) {mo : Mac} (hof : mo.ok) (p : Place) {now : Int} (hnow : u64ok now) (hW : BaseRep W s.base s.mb room life s.gs) :
    Calls Try.prog 53 #[ptr s.base, macV mo, placeV p, .int .u64 now] W (LearnPost s.base s.mb room life s.gs mo p now W) :=
  learn_any W s.base s.mb room life s.gs mo hof p now hnow hr hN hW

theorem fromport_g (port now n : Int) (i : Nat) (hn : n = i) (hp : i64ok port) (hb : boundTo bound port = some n) (B : BridgeRep w bb bm room life bound segs) {es : List Ent} {ps qs : List Int} (hV : (vw segs)[i]? = some ⟨es, ps, qs⟩)
    (a : Option Addr) (ln c : Nat) (mt mo : Mac) (hf : FrAt w a ln c mt mo) (hnow : u64ok now) (hr : 1 ≤ room) (hN : es.length ≤ 1048576) (hpl : ps.length ≤ 1073741824) (hql : qs.length ≤ 1073741824) :
    Calls Try.prog 12 #[ptr bb, .int .i64 port, .slice a ln c, .int .u64 now] w fun e w' => Refus w (codeF ln mo) e w' ∨ (14 ≤ ln ∧ codeF ln mo = 0 ∧ FromG w bb bm room life bound segs i es ps qs ⟨false, port⟩ mt mo now e w') := by
  obtain ⟨hi, hV⟩ := vseg_at segs hV
  have e1 : segs[i].gs.map (·.2) = es := congrArg VSeg.es hV
  have e2 : segs[i].ports = ps := congrArg VSeg.ports hV
  have e3 : segs[i].peers = qs := congrArg VSeg.peers hV
  by_cases hbad : ln < 14 ∨ 9000 < ln ∨ groupB mo = true
  · exact fromport_via w bb bm room life bound segs port now _ hp n i hn hi hb B _ (via_bad w (fun e w' => 14 ≤ ln ∧ codeF ln mo = 0 ∧ FromG w bb bm room life bound segs i es ps qs ⟨false, port⟩ mt mo now e w') (sframe_bad (w.alloc outO) segs[i].blk ⟨false, port⟩ a ln c now mt mo (hf.frm ((Frm.refl (fun _ => False) w).alloc _) (fun _ _ h => h)) hbad))
  · have hgf : groupB mo = false := by cases h : groupB mo; rfl; exact absurd (.inr (.inr h)) hbad
    obtain ⟨fb, fo, rfl, hlt, m1, m2⟩ := hf.macs (by omega)
    refine (fromport_ok w bb bm room life bound segs port now n i hn hi hp hb B fb fo ln c mt mo (by omega) (by omega) hf.cap hlt m1 m2 hf.tok hf.ook hgf hnow (by rw [e2]; exact hpl) (by rw [e3]; exact hql) (fun W hW => ?_)).mono ?_
    · exact learn_gs room life hr (by rw [← e1] at hN; simpa using hN) hf.ook _ hnow hW
    · exact fun e w' h => .inr ⟨by omega, by unfold codeF; rw [if_neg (by omega), if_neg (by omega), if_neg (by simp [hgf])], FromG.of B hV hgf h⟩

theorem fromtunnel_g (port now n : Int) (i : Nat) (hn : n = i) (B : BridgeRep w bb bm room life bound segs) {es : List Ent} {ps qs : List Int} (hV : (vw segs)[i]? = some ⟨es, ps, qs⟩) (hb : qs.contains port = true)
    (a : Option Addr) (ln c : Nat) (mt mo : Mac) (hf : FrAt w a ln c mt mo) (hnow : u64ok now) (hr : 1 ≤ room) (hN : es.length ≤ 1048576) (hpl : ps.length ≤ 1073741824) (hql : qs.length ≤ 1073741824) :
    Calls Try.prog 28 #[ptr bb, .int .i64 n, .int .i64 port, .slice a ln c, .int .u64 now] w fun e w' => Refus w (codeF ln mo) e w' ∨ (14 ≤ ln ∧ codeF ln mo = 0 ∧ FromG w bb bm room life bound segs i es ps qs ⟨true, port⟩ mt mo now e w') := by
  obtain ⟨hi, hV⟩ := vseg_at segs hV
  have e1 : segs[i].gs.map (·.2) = es := congrArg VSeg.es hV
  have e2 : segs[i].ports = ps := congrArg VSeg.ports hV
  have e3 : segs[i].peers = qs := congrArg VSeg.peers hV
  by_cases hbad : ln < 14 ∨ 9000 < ln ∨ groupB mo = true
  · exact fromtunnel_via w bb bm room life bound segs port now n _ i hn hi (by rw [e3]; exact hql) (by rw [e3]; exact hb) B _ (via_bad w (fun e w' => 14 ≤ ln ∧ codeF ln mo = 0 ∧ FromG w bb bm room life bound segs i es ps qs ⟨true, port⟩ mt mo now e w') (sframe_bad (w.alloc outO) segs[i].blk ⟨true, port⟩ a ln c now mt mo (hf.frm ((Frm.refl (fun _ => False) w).alloc _) (fun _ _ h => h)) hbad))
  · have hgf : groupB mo = false := by cases h : groupB mo; rfl; exact absurd (.inr (.inr h)) hbad
    obtain ⟨fb, fo, rfl, hlt, m1, m2⟩ := hf.macs (by omega)
    refine (fromtunnel_ok w bb bm room life bound segs port now n i hn hi (by rw [e3]; exact hb) B fb fo ln c mt mo (by omega) (by omega) hf.cap hlt m1 m2 hf.tok hf.ook hgf hnow (by rw [e2]; exact hpl) (by rw [e3]; exact hql) (fun W hW => ?_)).mono ?_
    · exact learn_gs room life hr (by rw [← e1] at hN; simpa using hN) hf.ook _ hnow hW
    · exact fun e w' h => .inr ⟨by omega, by unfold codeF; rw [if_neg (by omega), if_neg (by omega), if_neg (by simp [hgf])], FromG.of B hV hgf h⟩

set_option maxRecDepth 100000 in
set_option maxHeartbeats 1000000 in
theorem fromtunnel_out (port now n : Int) (fr : Value) (hn : n < 0 ∨ 8 ≤ n) :
    Calls Try.prog 28 #[ptr bb, .int .i64 n, .int .i64 port, fr, .int .u64 now] w (Refus w 6) := by
  have hs := seg_out (w.alloc outO) bb n hn
  go_enter Try.func28, Try.ntmps28
  go_wp2_with (go_at_call 35; refine hs.mono ?_; rintro e w1 ⟨rfl, rfl⟩)
  refine bodyPost_ret (v := .tuple #[.agg #[.slice none 0 0, .slice none 0 0, .bool false], .int .i64 6]) (by simp [results, Try.results28, go_sem, *]) rfl ⟨by decide, rfl, (by repeat (first | exact Frm.refl _ _ | assumption | refine Frm.drewN ?_ _ | refine Frm.drew ?_ | refine Frm.alloc ?_ _ | refine Frm.setCell ?_ _ (by simp)))⟩

set_option maxRecDepth 100000 in
set_option maxHeartbeats 1000000 in
theorem fromtunnel_no (port now n : Int) (fr : Value) (i : Nat) (hn : n = i) (hi : i < segs.length) (hq : segs[i].peers.length ≤ 1073741824) (hb : segs[i].peers.contains port = false) (B : BridgeRep w bb bm room life bound segs) :
    Calls Try.prog 28 #[ptr bb, .int .i64 n, .int .i64 port, fr, .int .u64 now] w (Refus w 6) := by
  have B' : BridgeRep (w.alloc outO) bb bm room life bound segs := B.frm ((Frm.refl (fun _ => False) w).alloc _) (fun _ _ h => h)
  have hs := seg_in _ bb bm room life bound segs n i hn hi B'
  have hr := (B'.srep _ (List.getElem_mem hi)).row
  have hI := (B'.srep _ (List.getElem_mem hi)).peers
  have hcn := contains_any _ _ _ port hI hq
  rw [hb] at hcn
  have hbl := B.row.lt
  clear hb hq B' B hn
  generalize segs[i] = s at *
  have c2 := hr.cell 2
  simp at c2
  obtain ⟨qa, qc, hqv⟩ := hI.len
  rw [hqv] at hcn c2
  clear hI hqv hr
  go_enter Try.func28, Try.ntmps28
  go_wp2_with (first | (go_at_call 35; refine hs.mono ?_; rintro e w1 ⟨rfl, rfl⟩) | (go_at_call 45; refine hcn.mono ?_; rintro e w1 ⟨rfl, rfl⟩))
  refine bodyPost_ret (v := .tuple #[.agg #[.slice none 0 0, .slice none 0 0, .bool false], .int .i64 6]) (by simp [results, Try.results28, go_sem, *]) rfl ⟨by decide, rfl, (by repeat (first | exact Frm.refl _ _ | assumption | refine Frm.drewN ?_ _ | refine Frm.drew ?_ | refine Frm.alloc ?_ _ | refine Frm.setCell ?_ _ (by simp)))⟩
end
end Go.Proofs.Ytmddhglhfgomiaa
