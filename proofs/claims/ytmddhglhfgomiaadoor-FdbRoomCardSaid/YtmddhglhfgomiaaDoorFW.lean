/- fdb: Static, Drop, List, with no blocks in sight. Conditions: none. -/
import Derived.Test.YtmddhglhfgomiaaDoorFV
import Derived.Test.YtmddhglhfgomiaaDoorStat
import Derived.Test.YtmddhglhfgomiaaDoorSrt
namespace Go.Proofs.YtmddhglhfgomiaaDoor
open Go Go.RowKit Go.Maps
namespace V

theorem staticV_of {room : Int} {gs gs' : List GEnt} {m : Mac} {p : Place} {nb : Nat} {code : Int} (h : StaticRes room gs m p nb code gs') (macs : gs.Pairwise (fun g g' => g.2.mac ≠ g'.2.mac)) (blks : gs.Pairwise (fun g g' => g.1 ≠ g'.1)) :
    StaticV room (gs.map (·.2)) m p code (gs'.map (·.2)) := by
  unfold StaticRes at h
  unfold StaticV
  split at h
  · rename_i hg
    rw [if_pos hg]
    obtain ⟨h2, rfl⟩ := h
    exact ⟨h2, rfl⟩
  · rename_i hg
    rw [if_neg hg, findE_eq]
    cases hf : findG gs m with
    | none =>
      rw [hf] at h
      exact addV_of h macs blks
    | some g =>
      rw [hf] at h
      obtain ⟨hin, hgm⟩ := findG_some hf
      obtain ⟨h2, rfl⟩ := h
      exact ⟨h2, setE_of hin hgm.symm macs blks⟩
theorem staticV_len {room : Int} {es es' : List Ent} {m : Mac} {p : Place} {code : Int} (h : StaticV room es m p code es') (hl : (es.length : Int) ≤ room) : (es'.length : Int) ≤ room := by
  unfold StaticV at h
  split at h
  · rw [h.2]; exact hl
  · split at h
    · exact addV_len h hl
    · rw [h.2, setE_len]; exact hl

/-- By rising MACs. -/
def Rising (es : List Ent) : Prop := es.Pairwise (fun x y => macLt x.mac y.mac)

theorem mac_total {x y : Mac} (h : ¬ macLt y x) (hne : x ≠ y) : macLt x y := by
  have hm : ¬ (x.a = y.a ∧ x.b = y.b ∧ x.c = y.c ∧ x.d = y.d ∧ x.e = y.e ∧ x.f = y.f) := fun e => by
    apply hne
    cases x; cases y
    simp at e
    simp [e]
  unfold macLt at *
  omega

theorem rising_of {es es' : List Ent} (hp : es'.Perm es) (h : es'.Pairwise (fun a b => ¬ macLt b.mac a.mac)) (ha : Apart es) : Rising es' := by
  have ha' : Apart es' := (hp.pairwise_iff (R := fun x y : Ent => x.mac ≠ y.mac) (fun {_ _} hne => Ne.symm hne)).2 ha
  unfold Rising
  unfold Apart at ha'
  exact (h.and ha').imp (fun ⟨h1, h2⟩ => mac_total h1 h2)

section
variable {O : Nat → Prop} {w0 w : World} {b : Nat} {room life : Int} {es : List Ent} (F : FB O w0 w b room life es)
include F
theorem static_V (m : Mac) (hm : m.ok) (p : Place) : Calls Tryd.prog 27 #[ptr b, macV m, placeV p] w fun e w' =>
    ∃ code es', e = .returned (.int .i64 code) ∧ StaticV room es m p code es' ∧ FB O w0 w' b room life es' := by
  obtain ⟨mb, gs, rfl, B, hfp⟩ := F.rep
  have hN : gs.length ≤ 1048576 := by have := F.len; have := F.r64; simp at *; omega
  refine (static_any w b mb room life gs m hm p F.r1 hN B).mono ?_
  rintro e w' ⟨nb, code, gs', rfl, hnb, hres, B', hF⟩
  have hV := staticV_of hres B.macs B.blks
  refine ⟨code, _, rfl, hV, ⟨mb, gs', rfl, B', fun k hk => ?_⟩, F.since.trans hF (fun i h _ => h ▸ hfp mb (.inr (.inl rfl))), F.cof, F.r1, F.r64, staticV_len hV F.len⟩
  rcases hk with rfl | rfl | ⟨g, hg, rfl⟩
  · exact hfp _ (.inl rfl)
  · exact hfp _ (.inr (.inl rfl))
  · rcases Nat.lt_or_ge g.1 w.heap.size with h | h
    · have hin : ∃ g' ∈ gs, g.1 = g'.1 := by
        unfold StaticRes at hres
        have hnl : g.1 ≠ nb := by omega
        have hadd : ∀ {e gs'}, AddRes room gs e nb code gs' → g ∈ gs' → ∃ g' ∈ gs, g.1 = g'.1 := fun hA hg => by
          rcases hA with ⟨_, _, rfl⟩ | ⟨_, ⟨_, _, rfl⟩ | ⟨v, _, _, rfl⟩⟩
          · rcases List.mem_append.1 hg with h | h
            · exact ⟨g, h, rfl⟩
            · simp at h; exact absurd (congrArg Prod.fst h) hnl
          · exact ⟨g, hg, rfl⟩
          · rcases List.mem_append.1 hg with h | h
            · exact ⟨g, (List.mem_filter.1 h).1, rfl⟩
            · simp at h; exact absurd (congrArg Prod.fst h) hnl
        split at hres
        · rw [hres.2] at hg; exact ⟨g, hg, rfl⟩
        · split at hres
          · exact hadd hres hg
          · rw [hres.2] at hg
            obtain ⟨x, hx, hxe⟩ := List.mem_map.1 hg
            split at hxe
            · exact absurd (congrArg Prod.fst hxe.symm) hnl
            · exact ⟨x, hx, by rw [hxe]⟩
      obtain ⟨g', hg', e⟩ := hin
      rw [e]
      exact hfp _ (.inr (.inr ⟨g', hg', rfl⟩))
    · have := F.since.size; exact F.cof _ (by omega)

theorem dropM_V (m : Mac) (hm : m.ok) : Calls Tryd.prog 31 #[ptr b, macV m] w fun e w' =>
    e = .returned (.bool (decide (0 < (es.length : Int) - (restV (fun e => decide (e.mac = m)) es).length))) ∧ FB O w0 w' b room life (restV (fun e => decide (e.mac = m)) es) := by
  obtain ⟨mb, gs, he, B, hfp⟩ := F.rep
  have hN : gs.length ≤ 1048576 := by
    have h3 : gs.length = es.length := by rw [← he, List.length_map]
    have := F.len
    have := F.r64
    omega
  refine (dropM_any w b mb room life gs m hm hN B).mono ?_
  rintro e w' ⟨rfl, B', hF⟩
  obtain ⟨h1, h2⟩ := rest_V F _ he B hfp B' hF
  exact ⟨by rw [h2], h1⟩

theorem list_V : Calls Tryd.prog 21 #[ptr b] w fun e w' =>
    ∃ v es', e = .returned v ∧ es'.Perm es ∧ Rising es' ∧ ESl (w.heap.size + 1) w' v es' ∧ FB O w0 w' b room life es := by
  obtain ⟨mb, gs, he, B, hfp⟩ := F.rep
  have hN : gs.length ≤ 1048576 := by
    have h3 : gs.length = es.length := by rw [← he, List.length_map]
    have := F.len
    have := F.r64
    omega
  refine (list_any w b mb room life gs hN B (LstS w gs) (fun W v hL => sort_any w W gs v B.oks hN hL)).mono ?_
  rintro e w' ⟨v, rfl, es', hp, hs, hE, hB⟩
  rw [he] at hp
  exact ⟨v, es', rfl, hp, rising_of hp hs F.apart, hE, F.below' hB⟩
end
end V
end Go.Proofs.YtmddhglhfgomiaaDoor
