/- law 16: who was learned now is there, and stays where another one is learned. Conditions: none. -/
import Derived.Test.YtmddhglhfgomiaaBV
import Derived.Test.YtmddhglhfgomiaaMeq
namespace Go.Proofs.Ytmddhglhfgomiaa
open Go
namespace V

theorem findM {es : List Ent} {g : Ent} (ha : Apart es) (hg : g ∈ es) : findE es g.mac = some g := by
  cases h : findE es g.mac with
  | none =>
    unfold findE at h
    have := List.find?_eq_none.1 h g hg
    simp at this
  | some x =>
    unfold findE at h
    rw [ha.eq (List.mem_of_find?_eq_some h) hg (by simpa using List.find?_some h)]
theorem findN {es : List Ent} {m : Mac} (h : findE es m = none) : ∀ e ∈ es, e.mac ≠ m := by
  unfold findE at h
  intro e he
  have := List.find?_eq_none.1 h e he
  simpa using this
theorem setM {es : List Ent} {e z : Ent} (hz : z ∈ es) (hne : z.mac ≠ e.mac) : z ∈ setE es e := by
  unfold setE
  refine List.mem_map.2 ⟨z, hz, ?_⟩
  rw [if_neg hne]

section
variable {room now t : Int} {es es' : List Ent} {m : Mac} {p : Place} {moved : Bool} {code : Int}
theorem learns_in (h : LearnV room es m p now moved code es') (hg : groupB m = false) (hr : 1 ≤ room) (hs : ∀ e ∈ es, e.static = false) : (⟨m, p, now, false⟩ : Ent) ∈ es' := by
  unfold LearnV at h
  rw [if_neg (by simp [hg])] at h
  cases hf : findE es m with
  | none =>
    rw [hf] at h
    rcases h.2 with ⟨_, _, rfl⟩ | ⟨h1, ⟨h2, _, rfl⟩ | ⟨v, _, _, rfl⟩⟩
    · simp
    · cases es' with
      | nil => simp at h1; omega
      | cons x r =>
        have := h2 x (by simp)
        rw [hs x (by simp)] at this
        cases this
    · simp
  | some g =>
    rw [hf] at h
    obtain ⟨_, _, rfl⟩ := h
    unfold findE at hf
    have hg := List.mem_of_find?_eq_some hf
    have hm : g.mac = m := by simpa using List.find?_some hf
    rw [hs g hg]
    simp only [Bool.false_eq_true, if_false]
    unfold setE
    exact List.mem_map.2 ⟨g, hg, by simp [hm]⟩

theorem learns_stay {z : Ent} (h : LearnV room es m p now moved code es') (ha : Apart es) (hz : z ∈ es) (hne : z.mac ≠ m) (hr : 2 ≤ room) (hs : ∀ e ∈ es, e.static = false) (hold : ∀ e ∈ es, e = z ∨ e.at_ < z.at_) : z ∈ es' := by
  unfold LearnV at h
  split at h
  · rw [h.2.2]; exact hz
  · cases hf : findE es m with
    | none =>
      rw [hf] at h
      rcases h.2 with ⟨_, _, rfl⟩ | ⟨h1, ⟨_, _, rfl⟩ | ⟨v, hv, _, rfl⟩⟩
      · simp [hz]
      · exact hz
      · refine List.mem_append_left _ (List.mem_filter.2 ⟨hz, ?_⟩)
        simp only [bne_iff_ne, ne_eq]
        intro e
        have hvz := ha.eq hz hv.1 e
        subst hvz
        have : ∃ x ∈ es, x ≠ z := by
          match es, h1, ha, hz with
          | [], h1, _, _ => simp at h1; omega
          | [a], h1, _, _ => simp at h1; omega
          | a :: b :: r, _, ha, hz =>
            have hab : a.mac ≠ b.mac := (List.pairwise_cons.1 ha).1 b (by simp)
            by_cases hza : a = z
            · exact ⟨b, by simp, fun e => hab (by rw [hza, e])⟩
            · exact ⟨a, by simp, hza⟩
        obtain ⟨x, hx, hxz⟩ := this
        have h3 := hv.2.2 x hx (hs x hx) hxz
        have h4 := (hold x hx).resolve_left hxz
        unfold entLt at h3
        omega
    | some g =>
      rw [hf] at h
      obtain ⟨_, _, rfl⟩ := h
      split
      · exact hz
      · exact setM hz hne
theorem seen_now {life : Int} {e : Ent} (ha : Apart es) (he : e ∈ es) (hl : 1 ≤ life) : Go.Proofs.Ytmddhglhfgomiaa.seenV life e.at_ (Go.Proofs.Ytmddhglhfgomiaa.findE es e.mac) = some e.place := by
  rw [← findE_v, findM ha he]
  unfold Go.Proofs.Ytmddhglhfgomiaa.seenV oldB
  have : decide (life ≤ e.at_ - min e.at_ e.at_) = false := decide_eq_false (by omega)
  simp only [this]
  simp
end

theorem BB.apart {O : Nat → Prop} {w0 w : World} {bb : Nat} {room life t : Int} {bound : Bd} {Vs : List VSeg} (F : BB O w0 w bb room life t bound Vs) {i : Nat} {U : VSeg} (hU : Vs[i]? = some U) : Apart U.es := by
  obtain ⟨bm, segs, h1, B, _⟩ := F.rep
  obtain ⟨hi, hv⟩ := F.at h1 hU
  have e1 : segs[i].gs.map (·.2) = U.es := congrArg VSeg.es hv
  rw [← e1]
  exact apart_of (B.srep _ (List.getElem_mem hi)).base.macs

section
variable {O : Nat → Prop} {w0 w : World} {bb : Nat} {room life t : Int} {bound : Bd} {Vs : List VSeg} (F : BB O w0 w bb room life t bound Vs)
include F

/-- FromPort of a frame that may go, from a port that is bound. -/
theorem fromport_L {i : Nat} {es : List Ent} {ps qs : List Int} (port now : Int) (hb : boundTo bound port = some (i : Int)) (hU : Vs[i]? = some ⟨es, ps, qs⟩) (hp : i64ok port) (hnow : u64ok now) (ht : t ≤ now) (fb : Nat) (mt mo : Mac) (hlt : fb < w.heap.size) (m1 : MacAt w fb 0 mt) (m2 : MacAt w fb 6 mo) (tok : mt.ok) (ook : mo.ok) (hg : groupB mo = false) :
    Calls Try.prog 12 #[ptr bb, .int .i64 port, .slice (some ⟨fb, 0, none⟩) 60 60, .int .u64 now] w fun e w' => ∃ moved code es' pa pl pc ta tl tc o O2, o = outE life now ⟨false, port⟩ mt es' ps qs ∧ e = tuple2 pa ta pl pc tl tc o.flood 0 ∧ LearnV room es mo ⟨false, port⟩ now moved code es' ∧
      BB O w0 w' bb room life now bound (Vs.set i ⟨es', ps, qs⟩) ∧ BB O2 w' w' bb room life now bound (Vs.set i ⟨es', ps, qs⟩) ∧ (∀ k, O2 k → O k) ∧ (∀ g, pa = some g → ¬ O2 g.block) ∧ IntSl w' (.slice pa pl pc) o.ports ∧ IntSl w' (.slice ta tl tc) o.tunnels := by
  obtain ⟨bm, segs, h1, B, hO⟩ := F.rep
  have S := F.inv.seg i _ hU
  have hl := S.plen
  have hl2 := S.len
  have hl3 := S.q8
  have := F.inv.b16
  have := F.inv.r64
  simp only at hl hl2 hl3
  have hin : port ∈ ps := (S.ports port).2 (boundTo_some hb)
  have hf : FrAt w (some ⟨fb, 0, none⟩) 60 60 mt mo := ⟨Nat.le_refl _, fun _ => ⟨fb, 0, rfl, hlt, m1, by simpa using m2⟩, tok, ook⟩
  have hc : codeF 60 mo = 0 := by unfold codeF; rw [if_neg (by omega), if_neg (by omega), if_neg (by simp [hg])]
  refine (fromport_g w bb bm room life bound segs port now i i rfl hp hb B (by rw [h1]; exact hU) (some ⟨fb, 0, none⟩) 60 60 mt mo hf hnow F.inv.r1 (by omega) (by omega) (by omega)).mono ?_
  rintro e w' (⟨h0, _⟩ | ⟨_, _, h⟩)
  · exact absurd hc h0
  · obtain ⟨segs', moved, code, es', pa, ta, pl, pc, tl, tc, rfl, hg', hL, B', hv, T, hP, hT, hpf, _⟩ := h
    rw [h1] at hv
    have F' := F.mk' hO T B' hv (F.inv.learn (p := ⟨false, port⟩) hU hL ht (fun h => by cases h) (fun _ => hin))
    refine ⟨moved, code, es', pa, pl, pc, ta, tl, tc, _, fun k => bridgeFp bb bm segs' k ∨ w'.heap.size ≤ k, rfl, rfl, hL, F', ⟨⟨bm, segs', hv, B', fun k hk => .inl hk⟩, Frm.refl _ _, fun k hk => .inr hk, F'.inv⟩, fun k hk => ?_, fun g hg => ?_, hP, hT⟩
    · rcases hk with h | h
      · exact (T.2 k h).elim (hO k) (fun h => F.cof k (Nat.le_trans F.since.size h))
      · exact F.cof k (Nat.le_trans F'.since.size h)
    · subst hg
      rintro (h | h)
      · exact (hpf g rfl).2 h
      · rcases hP.cases with ⟨h1, _⟩ | ⟨gg, cap, cs, h1, hr, _⟩
        · cases h1
        · cases h1
          have := hr.lt
          exact absurd h (by simpa using this)
end
end V
end Go.Proofs.Ytmddhglhfgomiaa
