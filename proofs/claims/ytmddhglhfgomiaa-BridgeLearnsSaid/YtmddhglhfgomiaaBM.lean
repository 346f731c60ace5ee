/- bridge: what its functions do to what it holds, as plain data; what is always so of it. Conditions: none. -/
import Derived.Test.YtmddhglhfgomiaaFrE
namespace Go.Proofs.Ytmddhglhfgomiaa
open Go
namespace V

/-! ### Rising rows -/
def Rows (zs : List Int) : Prop := zs.Pairwise (· < ·)
theorem rank_split {zs : List Int} {n : Int} (h : zs.Pairwise (· ≤ ·)) : (∀ x ∈ zs.take (rank zs n), x < n) ∧ ∀ x ∈ zs.drop (rank zs n), n ≤ x := by
  induction zs with
  | nil => simp
  | cons y r ih =>
    obtain ⟨h1, h2⟩ := List.pairwise_cons.1 h
    obtain ⟨i1, i2⟩ := ih h2
    by_cases hy : y < n
    · have : rank (y :: r) n = rank r n + 1 := by unfold rank; rw [List.countP_cons_of_pos (by simpa using hy)]
      rw [this]
      constructor
      · intro x hx
        rcases List.mem_cons.1 hx with rfl | hx
        · exact hy
        · exact i1 x hx
      · exact i2
    · have : rank (y :: r) n = 0 := by
        unfold rank
        rw [List.countP_eq_zero]
        intro x hx
        rcases List.mem_cons.1 hx with rfl | hx
        · simpa using hy
        · have := h1 x hx
          simp; omega
      rw [this]
      refine ⟨by simp, fun x hx => ?_⟩
      rcases List.mem_cons.1 hx with rfl | hx
      · omega
      · have := h1 x hx
        omega
theorem mem_insI {zs : List Int} {n x : Int} : x ∈ insI zs n ↔ x = n ∨ x ∈ zs := by
  unfold insI
  constructor
  · intro h
    rcases List.mem_append.1 h with h | h
    · exact .inr (List.mem_of_mem_take h)
    · rcases List.mem_cons.1 h with h | h
      · exact .inl h
      · exact .inr (List.mem_of_mem_drop h)
  · rintro (rfl | h)
    · simp
    · rw [← List.take_append_drop (rank zs n) zs] at h
      rcases List.mem_append.1 h with h | h
      · exact List.mem_append_left _ h
      · exact List.mem_append_right _ (List.mem_cons_of_mem _ h)
theorem Rows.le {zs : List Int} (h : Rows zs) : zs.Pairwise (· ≤ ·) := h.imp (fun h => by omega)
theorem Rows.ins {zs : List Int} {n : Int} (h : Rows zs) (hn : n ∉ zs) : Rows (insI zs n) := by
  obtain ⟨h1, h2⟩ := rank_split (n := n) h.le
  unfold Rows insI
  refine List.pairwise_append.2 ⟨h.sublist (List.take_sublist _ _), List.pairwise_cons.2 ⟨fun x hx => ?_, h.sublist (List.drop_sublist _ _)⟩, fun x hx y hy => ?_⟩
  · have := h2 x hx
    have hne : x ≠ n := fun e => hn (e ▸ List.mem_of_mem_drop hx)
    omega
  · have := h1 x hx
    rcases List.mem_cons.1 hy with rfl | hy
    · exact this
    · have := h2 y hy
      omega
theorem Rows.strike {zs : List Int} (h : Rows zs) (n : Int) : Rows (strike zs n) := h.sublist List.filter_sublist
theorem mem_strike {zs : List Int} {n x : Int} : x ∈ strike zs n ↔ x ∈ zs ∧ x ≠ n := by unfold Go.Proofs.Ytmddhglhfgomiaa.strike; simp
theorem Rows.nodup {zs : List Int} (h : Rows zs) : zs.Nodup := h.imp (fun h => by omega)
theorem strike_len {zs : List Int} (h : zs.Nodup) {n : Int} (hn : n ∈ zs) : (strike zs n).length + 1 = zs.length := by
  unfold Go.Proofs.Ytmddhglhfgomiaa.strike
  induction zs with
  | nil => cases hn
  | cons y r ih =>
    obtain ⟨h1, h2⟩ := List.nodup_cons.1 h
    rw [List.filter_cons]
    rcases List.mem_cons.1 hn with rfl | hn
    · have : r.filter (fun x => x != n) = r := List.filter_eq_self.2 (fun x hx => by simpa using fun e : x = n => h1 (e ▸ hx))
      simp [this]
    · have : y ≠ n := fun e => h1 (e ▸ hn)
      rw [if_pos (by simpa using this)]
      have := ih h2 hn
      simp
      omega
theorem nodup_le {l m : List Int} (h : l.Nodup) (hs : ∀ x ∈ l, x ∈ m) : l.length ≤ m.length := by
  induction l generalizing m with
  | nil => simp
  | cons x r ih =>
    obtain ⟨h1, h2⟩ := List.nodup_cons.1 h
    obtain ⟨m1, m2, rfl⟩ := List.append_of_mem (hs x (by simp))
    have := ih (m := m1 ++ m2) h2 (fun y hy => by
      have h3 := hs y (List.mem_cons_of_mem _ hy)
      rcases List.mem_append.1 h3 with h3 | h3
      · exact List.mem_append_left _ h3
      · rcases List.mem_cons.1 h3 with rfl | h3
        · exact absurd hy h1
        · exact List.mem_append_right _ h3)
    simp at this ⊢
    omega

/-! ### What the functions do -/
abbrev Bd := List (Int × Int)
def modV (Vs : List VSeg) (i : Nat) (f : VSeg → VSeg) : List VSeg := match Vs[i]? with | some U => Vs.set i (f U) | none => Vs
def unU (p : Place) (U : VSeg) : VSeg := if p.tunnel then ⟨restV (fun e => decide (e.place = p)) U.es, U.ports, strike U.peers p.n⟩ else ⟨restV (fun e => decide (e.place = p)) U.es, strike U.ports p.n, U.peers⟩
def inU (p : Place) (U : VSeg) : VSeg := if p.tunnel then ⟨U.es, U.ports, insI U.peers p.n⟩ else ⟨U.es, insI U.ports p.n, U.peers⟩
def noP (b : Bd) (port : Int) : Bd := b.filter (fun p => p.1 != port)

theorem modV_set {Vs : List VSeg} {i : Nat} {f : VSeg → VSeg} {U : VSeg} (h : Vs[i]? = some U) : modV Vs i f = Vs.set i (f U) := by unfold modV; rw [h]

/-- What is always so of a segment. -/
structure SInv (room t : Int) (bound : Bd) (i : Nat) (U : VSeg) : Prop where
  ports : ∀ p, p ∈ U.ports ↔ (p, (i : Int)) ∈ bound
  pr : Rows U.ports
  qr : Rows U.peers
  q8 : U.peers.length ≤ 8
  len : (U.es.length : Int) ≤ room
  ent : ∀ e ∈ U.es, e.static = false ∧ e.at_ ≤ t ∧ (e.place.tunnel = true → e.place.n ∈ U.peers) ∧ (e.place.tunnel = false → e.place.n ∈ U.ports)

structure BInv (room t : Int) (bound : Bd) (Vs : List VSeg) : Prop where
  r1 : 1 ≤ room
  r64 : room ≤ 64
  b16 : bound.length ≤ 16
  ap : bound.Pairwise (fun p q => p.1 ≠ q.1)
  val : ∀ p ∈ bound, ∃ i : Nat, i < 8 ∧ p.2 = i
  len : Vs.length = 8
  seg : ∀ i U, Vs[i]? = some U → SInv room t bound i U

section
variable {room t t' : Int} {bound bound' : Bd} {Vs : List VSeg} {i : Nat} {U U' : VSeg}
theorem SInv.mono (S : SInv room t bound i U) (h : t ≤ t') (hb : ∀ p, (p, (i : Int)) ∈ bound' ↔ (p, (i : Int)) ∈ bound) : SInv room t' bound' i U :=
  ⟨fun p => (S.ports p).trans (hb p).symm, S.pr, S.qr, S.q8, S.len, fun e he => by obtain ⟨h1, h2, h3⟩ := S.ent e he; exact ⟨h1, by omega, h3⟩⟩
theorem BInv.mono (I : BInv room t bound Vs) (h : t ≤ t') : BInv room t' bound Vs := ⟨I.r1, I.r64, I.b16, I.ap, I.val, I.len, fun i U hU => (I.seg i U hU).mono h (fun _ => Iff.rfl)⟩
theorem BInv.set (I : BInv room t bound Vs) (h16 : bound'.length ≤ 16) (hap : bound'.Pairwise (fun p q => p.1 ≠ q.1)) (hval : ∀ p ∈ bound', ∃ i : Nat, i < 8 ∧ p.2 = i) (ht : t ≤ t')
    (hoth : ∀ j : Nat, j ≠ i → ∀ p, (p, (j : Int)) ∈ bound' ↔ (p, (j : Int)) ∈ bound) (hU : SInv room t' bound' i U') : BInv room t' bound' (Vs.set i U') := by
  refine ⟨I.r1, I.r64, h16, hap, hval, by simpa using I.len, fun j U hj => ?_⟩
  rw [List.getElem?_set] at hj
  split at hj
  · rename_i e
    subst e
    split at hj
    · cases hj
      exact hU
    · cases hj
  · rename_i e
    exact (I.seg j U hj).mono ht (hoth j (Ne.symm e))
theorem BInv.same (I : BInv room t bound Vs) (ht : t ≤ t') (hU : SInv room t' bound i U') : BInv room t' bound (Vs.set i U') := I.set I.b16 I.ap I.val ht (fun _ _ _ => Iff.rfl) hU

theorem BInv.uniq (I : BInv room t bound Vs) {x y : Int × Int} (hx : x ∈ bound) (hy : y ∈ bound) (e : x.1 = y.1) : x = y := by
  have key : ∀ {l : Bd}, l.Pairwise (fun p q => p.1 ≠ q.1) → ∀ x ∈ l, ∀ y ∈ l, x.1 = y.1 → x = y := by
    intro l hl
    induction hl with
    | nil => intro x hx; cases hx
    | cons h1 _ ih =>
      intro x hx y hy e
      rcases List.mem_cons.1 hx with rfl | hx' <;> rcases List.mem_cons.1 hy with rfl | hy'
      · rfl
      · exact absurd e (h1 y hy')
      · exact absurd e.symm (h1 x hx')
      · exact ih x hx' y hy' e
  exact key I.ap _ hx _ hy e
theorem BInv.bnd (I : BInv room t bound Vs) {port n : Int} : boundTo bound port = some n ↔ (port, n) ∈ bound := by
  refine ⟨boundTo_some, fun h => ?_⟩
  cases hb : boundTo bound port with
  | none => exact absurd rfl (boundTo_none hb _ h)
  | some m =>
    have := I.uniq h (boundTo_some hb) rfl
    cases this
    rfl
theorem BInv.of_some (I : BInv room t bound Vs) {port n : Int} (h : boundTo bound port = some n) : ∃ (i : Nat) (U : VSeg), n = i ∧ i < 8 ∧ Vs[i]? = some U ∧ port ∈ U.ports := by
  have h1 := boundTo_some h
  obtain ⟨i, h8, hi⟩ := I.val _ h1
  have hl := I.len
  simp only at hi
  refine ⟨i, Vs[i], hi, h8, List.getElem?_eq_getElem (by omega), ?_⟩
  rw [(I.seg i _ (List.getElem?_eq_getElem (by omega))).ports, ← hi]
  exact h1
theorem SInv.plen (S : SInv room t bound i U) : U.ports.length ≤ bound.length := by
  have := nodup_le (m := bound.map (·.1)) S.pr.nodup (fun x hx => List.mem_map.2 ⟨_, (S.ports x).1 hx, rfl⟩)
  simpa using this

theorem mem_noP {port : Int} {x : Int × Int} : x ∈ noP bound port ↔ x ∈ bound ∧ x.1 ≠ port := by unfold noP; simp
theorem restV_mem {p : Ent → Bool} {es : List Ent} {e : Ent} : e ∈ restV p es ↔ e ∈ es ∧ p e = false := by unfold restV; simp
theorem restV_len (p : Ent → Bool) (es : List Ent) : (restV p es).length ≤ es.length := List.length_filter_le _ _

theorem BInv.un (I : BInv room t bound Vs) {port : Int} (hV : Vs[i]? = some U) (hin : (port, (i : Int)) ∈ bound) : BInv room t (noP bound port) (Vs.set i (unU ⟨false, port⟩ U)) := by
  have S := I.seg i U hV
  refine I.set (Nat.le_trans (List.length_filter_le _ _) I.b16) (I.ap.sublist List.filter_sublist) (fun p hp => I.val p (mem_noP.1 hp).1) (Int.le_refl _) (fun j hj p => ?_) ?_
  · rw [mem_noP]
    refine ⟨fun h => h.1, fun h => ⟨h, fun e => ?_⟩⟩
    have := I.uniq h hin e
    simp at this
    omega
  · refine ⟨fun p => ?_, S.pr.strike _, S.qr, S.q8, ?_, fun e he => ?_⟩
    · show p ∈ strike U.ports port ↔ _
      rw [mem_strike, mem_noP, S.ports]
    · have := restV_len (fun e => decide (e.place = ⟨false, port⟩)) U.es
      have := S.len
      show ((restV _ U.es).length : Int) ≤ _
      omega
    · obtain ⟨h1, h2⟩ := restV_mem.1 (show e ∈ restV _ U.es from he)
      obtain ⟨h3, h4, h5, h6⟩ := S.ent e h1
      refine ⟨h3, h4, h5, fun hf => mem_strike.2 ⟨h6 hf, fun e2 => ?_⟩⟩
      have : e.place = ⟨false, port⟩ := by
        obtain ⟨m, ⟨tn, n⟩, a, s⟩ := e
        simp at hf e2
        subst hf e2
        rfl
      simp [this] at h2
theorem BInv.unq (I : BInv room t bound Vs) {port : Int} (hV : Vs[i]? = some U) : BInv room t bound (Vs.set i (unU ⟨true, port⟩ U)) := by
  have S := I.seg i U hV
  refine I.same (Int.le_refl _) ⟨S.ports, S.pr, S.qr.strike _, Nat.le_trans (List.length_filter_le _ _) S.q8, ?_, fun e he => ?_⟩
  · have := restV_len (fun e => decide (e.place = ⟨true, port⟩)) U.es
    have := S.len
    show ((restV _ U.es).length : Int) ≤ _
    omega
  · obtain ⟨h1, h2⟩ := restV_mem.1 (show e ∈ restV _ U.es from he)
    obtain ⟨h3, h4, h5, h6⟩ := S.ent e h1
    refine ⟨h3, h4, fun hf => mem_strike.2 ⟨h5 hf, fun e2 => ?_⟩, h6⟩
    have : e.place = ⟨true, port⟩ := by
      obtain ⟨m, ⟨tn, n⟩, a, s⟩ := e
      simp at hf e2
      subst hf e2
      rfl
    simp [this] at h2
theorem BInv.put (I : BInv room t bound Vs) {port : Int} (hV : Vs[i]? = some U) (hno : ∀ p ∈ bound, p.1 ≠ port) (h16 : bound.length < 16) : BInv room t (bound ++ [(port, (i : Int))]) (Vs.set i (inU ⟨false, port⟩ U)) := by
  have S := I.seg i U hV
  have h8 : i < 8 := by
    have := (List.getElem?_eq_some_iff.1 hV).1
    have := I.len
    omega
  have hnp : port ∉ U.ports := fun h => hno _ ((S.ports _).1 h) rfl
  refine I.set (by simp; omega) (List.pairwise_append.2 ⟨I.ap, by simp, fun a ha b hb => by simp at hb; rw [hb]; exact hno a ha⟩) (fun p hp => ?_) (Int.le_refl _) (fun j hj p => ?_) ?_
  · rcases List.mem_append.1 hp with h | h
    · exact I.val p h
    · simp at h
      exact ⟨i, h8, by rw [h]⟩
  · simp
    intro _ h
    omega
  · refine ⟨fun p => ?_, S.pr.ins hnp, S.qr, S.q8, S.len, fun e he => ?_⟩
    · show p ∈ insI U.ports port ↔ _
      rw [mem_insI, S.ports]
      simp
      exact Or.comm
    · obtain ⟨h3, h4, h5, h6⟩ := S.ent e he
      exact ⟨h3, h4, h5, fun hf => mem_insI.2 (.inr (h6 hf))⟩
theorem BInv.pu (I : BInv room t bound Vs) {port : Int} (hV : Vs[i]? = some U) (hno : port ∉ U.peers) (h8 : U.peers.length < 8) : BInv room t bound (Vs.set i (inU ⟨true, port⟩ U)) := by
  have S := I.seg i U hV
  refine I.same (Int.le_refl _) ⟨S.ports, S.pr, S.qr.ins hno, ?_, S.len, fun e he => ?_⟩
  · show (insI U.peers port).length ≤ 8
    rw [insI_length]
    omega
  · obtain ⟨h3, h4, h5, h6⟩ := S.ent e he
    exact ⟨h3, h4, fun hf => mem_insI.2 (.inr (h5 hf)), h6⟩

theorem learnV_mem {es es' : List Ent} {m : Mac} {p : Place} {now : Int} {moved : Bool} {code : Int} (h : LearnV room es m p now moved code es') {e : Ent} (he : e ∈ es') : e ∈ es ∨ e = ⟨m, p, now, false⟩ := by
  unfold LearnV at h
  split at h
  · rw [h.2.2] at he; exact .inl he
  · split at h
    · rcases h.2 with ⟨_, _, rfl⟩ | ⟨_, ⟨_, _, rfl⟩ | ⟨v, _, _, rfl⟩⟩
      · rcases List.mem_append.1 he with h | h
        · exact .inl h
        · simp at h; exact .inr h
      · exact .inl he
      · rcases List.mem_append.1 he with h | h
        · exact .inl (List.mem_filter.1 h).1
        · simp at h; exact .inr h
    · rw [h.2.2] at he
      split at he
      · exact .inl he
      · rcases mem_setE he with h | h
        · exact .inr h
        · exact .inl h.1

theorem BInv.learn (I : BInv room t bound Vs) {es' ps qs} {m : Mac} {p : Place} {now : Int} {moved : Bool} {code : Int} {es : List Ent} (hV : Vs[i]? = some ⟨es, ps, qs⟩) (h : LearnV room es m p now moved code es') (ht : t ≤ now)
    (hp1 : p.tunnel = true → p.n ∈ qs) (hp2 : p.tunnel = false → p.n ∈ ps) : BInv room now bound (Vs.set i ⟨es', ps, qs⟩) := by
  have S := I.seg i _ hV
  refine I.same ht ⟨S.ports, S.pr, S.qr, S.q8, learnV_len h S.len, fun e he => ?_⟩
  rcases learnV_mem h he with h1 | rfl
  · obtain ⟨h3, h4, h5, h6⟩ := S.ent e h1
    exact ⟨h3, by omega, h5, h6⟩
  · exact ⟨rfl, Int.le_refl _, hp1, hp2⟩

/-! ### Where a frame goes -/
theorem findE_v (es : List Ent) (m : Mac) : findE es m = Go.Proofs.Ytmddhglhfgomiaa.findE es m := rfl
theorem seen_place {life now : Int} {es : List Ent} {m : Mac} {q : Place} (h : Go.Proofs.Ytmddhglhfgomiaa.seenV life now (Go.Proofs.Ytmddhglhfgomiaa.findE es m) = some q) : ∃ e ∈ es, e.mac = m ∧ e.place = q := by
  cases hf : Go.Proofs.Ytmddhglhfgomiaa.findE es m with
  | none => rw [hf] at h; cases h
  | some e =>
    rw [hf] at h
    unfold Go.Proofs.Ytmddhglhfgomiaa.seenV at h
    simp only at h
    split at h
    · cases h
    · cases h
      exact ⟨e, List.mem_of_find?_eq_some hf, by simpa using List.find?_some hf, rfl⟩

/-- Of what came from p: where it goes is of the segment, and so on. -/
theorem out_facts {room t now life : Int} {bound : Bd} {i : Nat} {es : List Ent} {ps qs : List Int} (S : SInv room t bound i ⟨es, ps, qs⟩) (p : Place) (mt : Mac) :
    Rows (outE life now p mt es ps qs).ports ∧ Rows (outE life now p mt es ps qs).tunnels ∧ (∀ x ∈ (outE life now p mt es ps qs).ports, x ∈ ps ∧ (p.tunnel = false → x ≠ p.n)) ∧ (∀ x ∈ (outE life now p mt es ps qs).tunnels, x ∈ qs ∧ p.tunnel = false) ∧
      ((outE life now p mt es ps qs).flood = false → (outE life now p mt es ps qs).ports.length + (outE life now p mt es ps qs).tunnels.length ≤ 1) ∧
      ((outE life now p mt es ps qs).flood = true → (outE life now p mt es ps qs).ports = (if p.tunnel then ps else strike ps p.n) ∧ (outE life now p mt es ps qs).tunnels = (if p.tunnel then [] else qs)) ∧
      (groupB mt = true → (outE life now p mt es ps qs).flood = true) := by
  have hfl : ∀ o : OutM, o = (if p.tunnel then ⟨ps, [], true⟩ else ⟨strike ps p.n, qs, true⟩) → Rows o.ports ∧ Rows o.tunnels ∧ (∀ x ∈ o.ports, x ∈ ps ∧ (p.tunnel = false → x ≠ p.n)) ∧ (∀ x ∈ o.tunnels, x ∈ qs ∧ p.tunnel = false) ∧
      (o.flood = false → o.ports.length + o.tunnels.length ≤ 1) ∧ (o.flood = true → o.ports = (if p.tunnel then ps else strike ps p.n) ∧ o.tunnels = (if p.tunnel then [] else qs)) ∧ (groupB mt = true → o.flood = true) := by
    rintro o rfl
    cases h : p.tunnel
    · exact ⟨S.pr.strike _, S.qr, fun x hx => ⟨(mem_strike.1 hx).1, fun _ => (mem_strike.1 hx).2⟩, fun x hx => ⟨hx, rfl⟩, fun h => by simp at h, fun _ => by simp, fun _ => rfl⟩
    · exact ⟨S.pr, List.Pairwise.nil, fun x hx => ⟨hx, fun h => by cases h⟩, fun x hx => by simp at hx, fun h => by simp at h, fun _ => by simp, fun _ => rfl⟩
  obtain ⟨o, ho⟩ : ∃ o, o = outE life now p mt es ps qs := ⟨_, rfl⟩
  rw [← ho]
  unfold outE at ho
  have hg : groupB mt = true ∨ groupB mt = false := by cases groupB mt <;> simp
  rcases hg with hg | hg
  · rw [hg] at ho
    exact hfl o ho
  · rw [hg] at ho
    cases hs : Go.Proofs.Ytmddhglhfgomiaa.seenV life now (Go.Proofs.Ytmddhglhfgomiaa.findE es mt) with
    | none => rw [hs] at ho; exact hfl o ho
    | some q =>
      rw [hs] at ho
      obtain ⟨e, he, _, rfl⟩ := seen_place hs
      obtain ⟨_, _, h5, h6⟩ := S.ent e he
      simp only at ho
      split at ho
      · subst ho
        exact ⟨List.Pairwise.nil, List.Pairwise.nil, by simp, by simp, by simp, by simp, by simp [hg]⟩
      · rename_i hne
        split at ho
        · rename_i ht
          subst ho
          refine ⟨List.Pairwise.nil, by simp [Rows], by simp, fun x hx => ?_, by simp, by simp, by simp [hg]⟩
          simp at hx
          subst hx
          refine ⟨h5 ht, ?_⟩
          cases hp : p.tunnel
          · rfl
          · exact absurd (.inr ⟨ht, hp⟩) hne
        · rename_i ht
          have ht' : e.place.tunnel = false := by simpa using ht
          subst ho
          refine ⟨by simp [Rows], List.Pairwise.nil, fun x hx => ?_, by simp, by simp, by simp, by simp [hg]⟩
          simp at hx
          subst hx
          refine ⟨h6 ht', fun hp e2 => hne (.inl ?_)⟩
          obtain ⟨pt, pn⟩ := p
          simp at hp e2
          subst hp
          cases hpl : e.place with
          | mk a b =>
            rw [hpl] at ht' e2
            simp at ht' e2
            rw [ht', e2]
end
end V
end Go.Proofs.Ytmddhglhfgomiaa
