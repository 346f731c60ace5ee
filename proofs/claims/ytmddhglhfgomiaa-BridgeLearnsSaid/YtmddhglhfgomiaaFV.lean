/- fdb: what a base holds, with no blocks in sight; each function's contract so told. Conditions: none. -/
import Derived.Test.YtmddhglhfgomiaaDrop
namespace Go.Proofs.Ytmddhglhfgomiaa
open Go Go.RowKit Go.Maps
namespace V

def findE (es : List Ent) (m : Mac) : Option Ent := es.find? (fun e => e.mac == m)
def seenV (life now : Int) : Option Ent → Option Place
  | some e => if oldB life now e then none else some e.place
  | none => none

theorem findE_eq (gs : List GEnt) (m : Mac) : findE (gs.map (·.2)) m = (findG gs m).map (·.2) := by
  unfold findE findG
  rw [List.find?_map]
  rfl
theorem seenV_eq (life now : Int) (gs : List GEnt) (m : Mac) : seenE life now (findG gs m) = seenV life now (findE (gs.map (·.2)) m) := by
  rw [findE_eq]
  cases findG gs m <;> rfl

/-- Who goes. -/
def Vict (es : List Ent) (v : Ent) : Prop := v ∈ es ∧ v.static = false ∧ ∀ x ∈ es, x.static = false → x ≠ v → entLt v x
def AddV (room : Int) (es : List Ent) (e : Ent) (code : Int) (es' : List Ent) : Prop :=
  ((es.length : Int) < room ∧ code = 0 ∧ es' = es ++ [e]) ∨
  (room ≤ (es.length : Int) ∧ (((∀ x ∈ es, x.static = true) ∧ code = 5 ∧ es' = es) ∨ ∃ v, Vict es v ∧ code = 0 ∧ es' = es.filter (fun x => x.mac != v.mac) ++ [e]))
/-- The entry of a MAC is told anew. -/
def setE (es : List Ent) (e : Ent) : List Ent := es.map fun x => if x.mac = e.mac then e else x
def LearnV (room : Int) (es : List Ent) (m : Mac) (p : Place) (now : Int) (moved : Bool) (code : Int) (es' : List Ent) : Prop :=
  if groupB m = true then moved = false ∧ code = 1 ∧ es' = es
  else match findE es m with
    | none => moved = false ∧ AddV room es ⟨m, p, now, false⟩ code es'
    | some g => moved = decide (g.place ≠ p) ∧ code = 0 ∧ es' = if g.static then es else setE es ⟨m, p, now, false⟩
def StaticV (room : Int) (es : List Ent) (m : Mac) (p : Place) (code : Int) (es' : List Ent) : Prop :=
  if groupB m = true then code = 1 ∧ es' = es
  else match findE es m with
    | none => AddV room es ⟨m, p, 0, true⟩ code es'
    | some _ => code = 0 ∧ es' = setE es ⟨m, p, 0, true⟩
def restV (p : Ent → Bool) (es : List Ent) : List Ent := es.filter (fun e => !p e)

/-- MACs are apart. -/
def Apart (es : List Ent) : Prop := es.Pairwise (fun x y => x.mac ≠ y.mac)
theorem Apart.eq {es : List Ent} (h : Apart es) {x y : Ent} (hx : x ∈ es) (hy : y ∈ es) (e : x.mac = y.mac) : x = y := by
  induction es with
  | nil => cases hx
  | cons z r ih =>
    obtain ⟨h1, h2⟩ := List.pairwise_cons.1 h
    rcases List.mem_cons.1 hx with rfl | hx' <;> rcases List.mem_cons.1 hy with rfl | hy'
    · rfl
    · exact absurd e (h1 y hy')
    · exact absurd e.symm (h1 x hx')
    · exact ih h2 hx' hy'

section
variable {room : Int} {gs gs' : List GEnt}
theorem apart_of (macs : gs.Pairwise (fun g g' => g.2.mac ≠ g'.2.mac)) : Apart (gs.map (·.2)) := List.pairwise_map.2 macs

theorem addV_of {e : Ent} {nb : Nat} {code : Int} (h : AddRes room gs e nb code gs') (macs : gs.Pairwise (fun g g' => g.2.mac ≠ g'.2.mac)) (blks : gs.Pairwise (fun g g' => g.1 ≠ g'.1)) : AddV room (gs.map (·.2)) e code (gs'.map (·.2)) := by
  rcases h with ⟨h1, h2, rfl⟩ | ⟨h1, ⟨h2, h3, rfl⟩ | ⟨v, hv, h3, rfl⟩⟩
  · exact .inl ⟨by simpa using h1, h2, by simp⟩
  · exact .inr ⟨by simpa using h1, .inl ⟨fun x hx => by obtain ⟨g, hg, rfl⟩ := List.mem_map.1 hx; exact h2 g hg, h3, rfl⟩⟩
  · obtain ⟨hv1, hv2, hv3⟩ := hv
    refine .inr ⟨by simpa using h1, .inr ⟨v.2, ⟨List.mem_map_of_mem hv1, hv2, fun x hx hs hne => ?_⟩, h3, ?_⟩⟩
    · obtain ⟨g, hg, rfl⟩ := List.mem_map.1 hx
      refine hv3 g hg hs (fun e => hne ?_)
      rw [eq_of_blk blks hg hv1 e]
    · rw [List.map_append, List.filter_map]
      congr 2
      apply List.filter_congr
      intro g hg
      rw [Bool.eq_iff_iff]
      simp only [bne_iff_ne, ne_eq, Function.comp]
      constructor
      · exact fun h e => h (by rw [eq_of_mac macs hg hv1 e])
      · exact fun h e => h (by rw [eq_of_blk blks hg hv1 e])

theorem setE_of {g : GEnt} {nb : Nat} {e : Ent} (hg : g ∈ gs) (hm : e.mac = g.2.mac) (macs : gs.Pairwise (fun g g' => g.2.mac ≠ g'.2.mac)) (blks : gs.Pairwise (fun g g' => g.1 ≠ g'.1)) : (gs.map fun x => if x.1 = g.1 then (nb, e) else x).map (·.2) = setE (gs.map (·.2)) e := by
  unfold setE
  rw [List.map_map, List.map_map]
  apply List.map_congr_left
  intro x hx
  simp only [Function.comp]
  by_cases h : x = g
  · subst h
    rw [if_pos rfl, if_pos hm.symm]
  · rw [if_neg (fun e => h (eq_of_blk blks hx hg e)), if_neg (fun e2 => h (eq_of_mac macs hx hg (e2.trans hm)))]

theorem learnV_of {m : Mac} {p : Place} {now : Int} {nb : Nat} {moved : Bool} {code : Int} (h : LearnRes room gs m p now nb moved code gs') (macs : gs.Pairwise (fun g g' => g.2.mac ≠ g'.2.mac)) (blks : gs.Pairwise (fun g g' => g.1 ≠ g'.1)) :
    LearnV room (gs.map (·.2)) m p now moved code (gs'.map (·.2)) := by
  unfold LearnRes at h
  unfold LearnV
  split at h
  · rename_i hg
    rw [if_pos hg]
    obtain ⟨h1, h2, rfl⟩ := h
    exact ⟨h1, h2, rfl⟩
  · rename_i hg
    rw [if_neg hg, findE_eq]
    cases hf : findG gs m with
    | none =>
      rw [hf] at h
      exact ⟨h.1, addV_of h.2 macs blks⟩
    | some g =>
      rw [hf] at h
      obtain ⟨hin, hgm⟩ := findG_some hf
      obtain ⟨h1, h2, rfl⟩ := h
      refine ⟨h1, h2, ?_⟩
      show List.map (·.2) (if g.2.static = true then gs else setG gs g.1 ⟨m, p, now, false⟩) = if g.2.static = true then _ else _
      split
      · rfl
      · exact setE_of hin hgm.symm macs blks
end

theorem mem_setE {es : List Ent} {e x : Ent} (h : x ∈ setE es e) : x = e ∨ (x ∈ es ∧ x.mac ≠ e.mac) := by
  obtain ⟨y, hy, rfl⟩ := List.mem_map.1 h
  split
  · exact .inl rfl
  · rename_i hne
    exact .inr ⟨hy, hne⟩
theorem setE_len (es : List Ent) (e : Ent) : (setE es e).length = es.length := by simp [setE]
theorem addV_len {room : Int} {es es' : List Ent} {e : Ent} {code : Int} (h : AddV room es e code es') (hl : (es.length : Int) ≤ room) : (es'.length : Int) ≤ room := by
  rcases h with ⟨h1, _, rfl⟩ | ⟨h1, ⟨_, _, rfl⟩ | ⟨v, hv, _, rfl⟩⟩
  · simp; omega
  · exact hl
  · have : (es.filter (fun x => x.mac != v.mac)).length < es.length := by
      rcases Nat.lt_or_ge (es.filter (fun x => x.mac != v.mac)).length es.length with h | h
      · exact h
      · have := List.filter_eq_self.1 (List.Sublist.eq_of_length_le List.filter_sublist h) v hv.1
        simp at this
    simp
    omega
theorem learnV_len {room : Int} {es es' : List Ent} {m : Mac} {p : Place} {now : Int} {moved : Bool} {code : Int} (h : LearnV room es m p now moved code es') (hl : (es.length : Int) ≤ room) : (es'.length : Int) ≤ room := by
  unfold LearnV at h
  split at h
  · rw [h.2.2]; exact hl
  · split at h
    · exact addV_len h.2 hl
    · rw [h.2.2]
      split
      · exact hl
      · rw [setE_len]; exact hl

/-- A base: what it holds. Its blocks are of O; since w0 only such have turned; whatever is new since then is of O. -/
structure FB (O : Nat → Prop) (w0 w : World) (b : Nat) (room life : Int) (es : List Ent) : Prop where
  rep : ∃ mb gs, gs.map (·.2) = es ∧ BaseRep w b mb room life gs ∧ ∀ k, baseFp b mb gs k → O k
  since : Frm O w0 w
  cof : ∀ k, w0.heap.size ≤ k → O k
  r1 : 1 ≤ room
  r64 : room ≤ 64
  len : (es.length : Int) ≤ room

section
variable {O : Nat → Prop} {w0 w w' : World} {b : Nat} {room life : Int} {es es' : List Ent}
theorem FB.apart (F : FB O w0 w b room life es) : Apart es := by
  obtain ⟨mb, gs, rfl, B, _⟩ := F.rep
  exact apart_of B.macs
theorem FB.oks (F : FB O w0 w b room life es) : ∀ e ∈ es, e.ok := by
  obtain ⟨mb, gs, rfl, B, _⟩ := F.rep
  intro e he
  obtain ⟨g, hg, rfl⟩ := List.mem_map.1 he
  exact B.oks g hg
theorem FB.frm (F : FB O w0 w b room life es) (f : Frm (fun _ => False) w w') : FB O w0 w' b room life es := by
  obtain ⟨mb, gs, h1, B, h2⟩ := F.rep
  exact ⟨⟨mb, gs, h1, B.frm f (fun _ _ h => h), h2⟩, F.since.trans f (fun _ h _ => h.elim), F.cof, F.r1, F.r64, F.len⟩
theorem FB.alloc (F : FB O w0 w b room life es) (o : Obj) : FB O w0 (w.alloc o) b room life es := F.frm ((Frm.refl _ _).alloc o)
theorem FB.drewN (F : FB O w0 w b room life es) (n : Nat) : FB O w0 (w.drewN n) b room life es := F.frm ((Frm.refl _ _).drewN n)
theorem FB.drew (F : FB O w0 w b room life es) : FB O w0 w.drew b room life es := F.frm (Frm.refl _ _).drew
theorem FB.below' (F : FB O w0 w b room life es) (h : Below w.heap.size w w') : FB O w0 w' b room life es := F.frm (Frm.of_below' h _)

theorem FB.below (F : FB (fun k => w0.heap.size ≤ k) w0 w b room life es) : Below w0.heap.size w0 w := F.since.to_below (Nat.le_refl _) (fun i hi h => by omega)
/-- Told anew from here on, its own blocks alone its own. -/
theorem FB.anew (F : FB O w0 w b room life es) : ∃ O', (∀ k, O' k → (O k ∧ k < w.heap.size) ∨ w.heap.size ≤ k) ∧ FB O' w w b room life es := by
  obtain ⟨mb, gs, h1, B, h2⟩ := F.rep
  exact ⟨fun k => baseFp b mb gs k ∨ w.heap.size ≤ k, fun k hk => hk.elim (fun h => .inl ⟨h2 k h, B.fp_lt k h⟩) .inr, ⟨mb, gs, h1, B, fun k hk => .inl hk⟩, Frm.refl _ _, fun k hk => .inr hk, F.r1, F.r64, F.len⟩
theorem FB.anew2 (F : FB O w0 w b room life es) (f : Frm (fun _ => False) w w') : ∃ O', (∀ k, O' k → (O k ∧ k < w.heap.size) ∨ w'.heap.size ≤ k) ∧ FB O' w' w' b room life es := by
  obtain ⟨mb, gs, h1, B, h2⟩ := F.rep
  exact ⟨fun k => baseFp b mb gs k ∨ w'.heap.size ≤ k, fun k hk => hk.elim (fun h => .inl ⟨h2 k h, B.fp_lt k h⟩) .inr, ⟨mb, gs, h1, B.frm f (fun _ _ h => h), fun k hk => .inl hk⟩, Frm.refl _ _, fun k hk => .inr hk, F.r1, F.r64, F.len⟩
theorem FB.wide {O' : Nat → Prop} {wA : World} (F : FB O' wA w b room life es) (h : Frm O w0 wA) (hc : ∀ k, w0.heap.size ≤ k → O k) (hO : ∀ k, O' k → O k) : FB O w0 w b room life es := by
  obtain ⟨mb, gs, h1, B, h2⟩ := F.rep
  exact ⟨⟨mb, gs, h1, B, fun k hk => hO k (h2 k hk)⟩, h.trans F.since (fun k hk _ => hO k hk), hc, F.r1, F.r64, F.len⟩
end

theorem new_V (O : Nat → Prop) (w0 w : World) (room0 life : Int) (hb : Frm O w0 w) (hc : ∀ k, w0.heap.size ≤ k → O k) :
    Calls Try.prog 34 #[.int .i64 room0, .int .u64 life] w fun e w' => ∃ b, e = .returned (ptr b) ∧ FB O w0 w' b (roomOf room0) life [] := by
  refine (fnew_any w room0 life).mono ?_
  rintro e w' ⟨rfl, rfl⟩
  have hs := hb.size
  refine ⟨_, rfl, ⟨w.heap.size, [], rfl, base_new w (roomOf room0) life, fun k hk => hc k ?_⟩, (hb.alloc _).alloc _, hc, ?_, ?_, ?_⟩
  · rcases hk with rfl | rfl | ⟨g, hg, _⟩
    · omega
    · exact hs
    · cases hg
  · unfold roomOf; omega
  · unfold roomOf; omega
  · unfold roomOf; simp; omega

section
variable {O : Nat → Prop} {w0 w : World} {b : Nat} {room life : Int} {es : List Ent} (F : FB O w0 w b room life es)
include F
theorem find_V (m : Mac) (hm : m.ok) (now : Int) (hn : u64ok now) : Calls Try.prog 14 #[ptr b, macV m, .int .u64 now] w fun e w' =>
    e = .returned (.tuple #[placeV ((seenV life now (findE es m)).getD ⟨false, 0⟩), .bool (seenV life now (findE es m)).isSome]) ∧ FB O w0 w' b room life es := by
  obtain ⟨mb, gs, rfl, B, _⟩ := F.rep
  refine (find_any w b mb room life now gs m hm hn B).mono ?_
  rintro e w' ⟨rfl, hf⟩
  rw [seenV_eq]
  exact ⟨rfl, F.frm hf⟩

theorem learn_V (m : Mac) (hm : m.ok) (p : Place) (now : Int) (hn : u64ok now) : Calls Try.prog 53 #[ptr b, macV m, placeV p, .int .u64 now] w fun e w' =>
    ∃ moved code es', e = .returned (.tuple #[.bool moved, .int .i64 code]) ∧ LearnV room es m p now moved code es' ∧ FB O w0 w' b room life es' := by
  obtain ⟨mb, gs, rfl, B, hfp⟩ := F.rep
  have hN : gs.length ≤ 1048576 := by have := F.len; have := F.r64; simp at *; omega
  refine (learn_any w b mb room life gs m hm p now hn F.r1 hN B).mono ?_
  rintro e w' ⟨nb, moved, code, gs', rfl, hnb, hres, B', hF⟩
  have hV := learnV_of hres B.macs B.blks
  refine ⟨moved, code, _, rfl, hV, ⟨mb, gs', rfl, B', fun k hk => ?_⟩, F.since.trans hF (fun i h _ => hfp i h), F.cof, F.r1, F.r64, learnV_len hV F.len⟩
  rcases hk with rfl | rfl | ⟨g, hg, rfl⟩
  · exact hfp _ (.inl rfl)
  · exact hfp _ (.inr (.inl rfl))
  · rcases Nat.lt_or_ge g.1 w.heap.size with h | h
    · have hin : ∃ g' ∈ gs, g.1 = g'.1 := by
        unfold LearnRes at hres
        have hnl : g.1 ≠ nb := by omega
        have hadd : ∀ {e gs'}, AddRes room gs e nb code gs' → g ∈ gs' → ∃ g' ∈ gs, g.1 = g'.1 := fun hA hg => by
          rcases hA with ⟨_, _, rfl⟩ | ⟨_, ⟨_, _, rfl⟩ | ⟨v, _, _, rfl⟩⟩
          · rcases List.mem_append.1 hg with h | h
            · exact ⟨g, h, rfl⟩
            · simp at h; exact absurd (congrArg Prod.fst h) hnl
          · exact ⟨g, hg, rfl⟩
          · rcases List.mem_append.1 hg with h | h
            · exact ⟨g, (List.mem_filter.1 h).1, rfl⟩
            · simp at h; exact absurd (congrArg Prod.fst h) hnl
        split at hres
        · rw [hres.2.2] at hg; exact ⟨g, hg, rfl⟩
        · split at hres
          · exact hadd hres.2 hg
          · rename_i g2 hf2
            rw [hres.2.2] at hg
            split at hg
            · exact ⟨g, hg, rfl⟩
            · rcases setG_mem hg with h | h
              · exact ⟨g2, (findG_some hf2).1, by rw [h]⟩
              · exact ⟨g, h.1, rfl⟩
      obtain ⟨g', hg', e⟩ := hin
      rw [e]
      exact hfp _ (.inr (.inr ⟨g', hg', rfl⟩))
    · have := F.since.size; exact F.cof _ (by omega)

theorem rest_V (p : Ent → Bool) {mb : Nat} {gs : List GEnt} (he : gs.map (·.2) = es) (B : BaseRep w b mb room life gs) (hfp : ∀ k, baseFp b mb gs k → O k) {w' : World} (B' : BaseRep w' b mb room life (rest p gs)) (hF : Frm (fun k => k = mb) w w') :
    FB O w0 w' b room life (restV p es) ∧ (gs.length : Int) - (rest p gs).length = (es.length : Int) - (restV p es).length := by
  have hm : (rest p gs).map (·.2) = restV p es := by
    subst he
    unfold rest restV
    rw [List.filter_map]
    rfl
  have hl : (restV p es).length = (rest p gs).length := by rw [← hm]; simp
  have hl2 : es.length = gs.length := by rw [← he]; simp
  refine ⟨⟨⟨mb, rest p gs, hm, B', fun k hk => ?_⟩, F.since.trans hF (fun i h _ => h ▸ hfp mb (.inr (.inl rfl))), F.cof, F.r1, F.r64, ?_⟩, by rw [hl, hl2]⟩
  · rcases hk with rfl | rfl | ⟨g, hg, rfl⟩
    · exact hfp _ (.inl rfl)
    · exact hfp _ (.inr (.inl rfl))
    · exact hfp _ (.inr (.inr ⟨g, (List.mem_filter.1 hg).1, rfl⟩))
  · have := rest_le p gs
    have := F.len
    omega

theorem tick_V (now : Int) (hn : u64ok now) : Calls Try.prog 30 #[ptr b, .int .u64 now] w fun e w' =>
    e = .returned (.int .i64 ((es.length : Int) - (restV (oldB life now) es).length)) ∧ FB O w0 w' b room life (restV (oldB life now) es) := by
  obtain ⟨mb, gs, he, B, hfp⟩ := F.rep
  have hN : gs.length ≤ 1048576 := by
    have h3 : gs.length = es.length := by rw [← he, List.length_map]
    have := F.len
    have := F.r64
    omega
  refine (tick_any w b mb room life now hn gs hN B).mono ?_
  rintro e w' ⟨rfl, B', hF⟩
  obtain ⟨h1, h2⟩ := rest_V F _ he B hfp B' hF
  exact ⟨by rw [h2], h1⟩

theorem forget_V (p : Place) : Calls Try.prog 43 #[ptr b, placeV p] w fun e w' =>
    e = .returned (.int .i64 ((es.length : Int) - (restV (fun e => decide (e.place = p)) es).length)) ∧ FB O w0 w' b room life (restV (fun e => decide (e.place = p)) es) := by
  obtain ⟨mb, gs, he, B, hfp⟩ := F.rep
  have hN : gs.length ≤ 1048576 := by
    have h3 : gs.length = es.length := by rw [← he, List.length_map]
    have := F.len
    have := F.r64
    omega
  refine (forget_any w b mb room life gs p hN B).mono ?_
  rintro e w' ⟨rfl, B', hF⟩
  obtain ⟨h1, h2⟩ := rest_V F _ he B hfp B' hF
  exact ⟨by rw [h2], h1⟩
end
end V
end Go.Proofs.Ytmddhglhfgomiaa
