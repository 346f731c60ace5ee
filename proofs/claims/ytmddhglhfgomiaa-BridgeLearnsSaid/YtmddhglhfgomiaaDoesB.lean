/- law 16: a step. Conditions: none. -/
import Derived.Test.YtmddhglhfgomiaaBV
namespace Go.Proofs.Ytmddhglhfgomiaa
open Go Go.RowKit Go.Maps
namespace V

section
variable {O O' : Nat → Prop} {w0 wA w w' : World} {bb : Nat} {room life t : Int} {bound : Bd} {Vs : List VSeg}
/-- What is none of the bridge's has turned behind it. -/
theorem BB.past (F : BB O' wA w bb room life t bound Vs) (h : Frm O w0 wA) (hc : ∀ k, w0.heap.size ≤ k → O k) (hO : ∀ k, O' k → O k) {G : Nat → Prop} (f : Frm G w w') (hG : ∀ k, G k → ¬ O' k ∧ O k) : BB O w0 w' bb room life t bound Vs := by
  obtain ⟨bm, segs, h1, B, h2⟩ := F.rep
  exact ⟨⟨bm, segs, h1, B.frm f (fun k hk hg => (hG k hg).1 (h2 k hk)), fun k hk => hO k (h2 k hk)⟩, (h.trans F.since (fun k hk _ => hO k hk)).trans f (fun k hk _ => (hG k hk).2), hc, F.inv⟩
end

structure St16 where
  (kind n s : Int)
  a : Option Addr
  (ln c : Nat)
  by_ : Int
  (mt mo : Mac)
structure St16.ok (w : World) (x : St16) : Prop where
  kind : i64ok x.kind
  n : i64ok x.n
  s : i64ok x.s
  by_ : u8ok x.by_
  fr : FrAt w x.a x.ln x.c x.mt x.mo
abbrev st16Cells (x : St16) : List Value := [.int .i64 x.kind, .int .i64 x.n, .int .i64 x.s, .slice x.a x.ln x.c, .int .u8 x.by_]
abbrev st16V (x : St16) : Value := .agg #[.int .i64 x.kind, .int .i64 x.n, .int .i64 x.s, .slice x.a x.ln x.c, .int .u8 x.by_]
theorem St16.ok.frm {w w' : World} {x : St16} (h : x.ok w) (f : Frm (fun _ => False) w w') : x.ok w' := ⟨h.kind, h.n, h.s, h.by_, h.fr.frm f (fun _ _ h => h)⟩

abbrev doneV (pa ta : Option Addr) (pl pc tl tc : Nat) (fl : Bool) (s : Int) : Ending := .returned (.tuple #[.agg #[.slice pa pl pc, .slice ta tl tc, .bool fl], .int .i64 s])

/-- A frame went. -/
def Went (O : Nat → Prop) (w0 : World) (bb : Nat) (room life : Int) (bound : Bd) (Vs : List VSeg) (x : St16) (now : Int) (en : Ending) (w' : World) : Prop :=
  ∃ (i : Nat) (es : List Ent) (ps qs : List Int) (moved : Bool) (code : Int) (es' : List Ent) (pa ta : Option Addr) (pl pc tl tc : Nat) (o : OutM), i < 8 ∧ 4 ≤ x.kind ∧ x.kind ≤ 9 ∧ 14 ≤ x.ln ∧ o = outE life now ⟨decide (8 ≤ x.kind), x.n⟩ x.mt es' ps qs ∧ en = doneV pa ta pl pc tl tc o.flood i ∧ Vs[i]? = some ⟨es, ps, qs⟩ ∧
    (x.kind ≤ 7 → x.n ∈ ps) ∧ (8 ≤ x.kind → x.n ∈ qs) ∧ LearnV room es x.mo ⟨decide (8 ≤ x.kind), x.n⟩ now moved code es' ∧ BB O w0 w' bb room life now bound (Vs.set i ⟨es', ps, qs⟩) ∧ IntSl w' (.slice pa pl pc) o.ports ∧ IntSl w' (.slice ta tl tc) o.tunnels
def DoesB (O : Nat → Prop) (w0 : World) (bb : Nat) (room life : Int) (bound : Bd) (Vs : List VSeg) (x : St16) (now : Int) (en : Ending) (w' : World) : Prop :=
  (∃ bound' Vs', en = doneV none none 0 0 0 0 false (-1) ∧ BB O w0 w' bb room life now bound' Vs') ∨ Went O w0 bb room life bound Vs x now en w'

set_option maxRecDepth 100000 in
set_option maxHeartbeats 8000000 in
theorem does16_any {O : Nat → Prop} {w0 w : World} {bb : Nat} {room life t : Int} {bound : Bd} {Vs : List VSeg} (F : BB O w0 w bb room life t bound Vs) (x : St16) (hx : x.ok w) (now : Int) (hn : u64ok now) (ht : t ≤ now) :
    Calls Try.prog 9 #[ptr bb, st16V x, .int .u64 now] w (DoesB O w0 bb room life bound Vs x now) := by
  obtain ⟨wA, hwA⟩ : ∃ wA, wA = (w.alloc (.cells (st16Cells x).toArray 31)).alloc outO := ⟨_, rfl⟩
  have fA : Frm (fun _ => False) w wA := by rw [hwA]; exact ((Frm.refl _ w).alloc _).alloc _
  have rX : Row wA w.heap.size 31 (st16Cells x) := by rw [hwA]; exact (Row.new w 31 (st16Cells x)).alloc _
  have rO : Row wA (w.heap.size + 1) 34 [.slice none 0 0, .slice none 0 0, .bool false] := by
    have h := Row.new (w.alloc (.cells (st16Cells x).toArray 31)) 34 [.slice none 0 0, .slice none 0 0, .bool false]
    rw [World.size_alloc] at h
    rw [hwA]
    exact h
  have hzA : wA.heap.size = w.heap.size + 2 := by rw [hwA]; simp
  obtain ⟨O', hO', FA⟩ := F.anew2 fA
  have hfr := hx.fr.frm fA (fun _ _ h => h)
  have hun := unbind_V FA x.n hx.n
  have hbi := bind_V FA x.n x.s hx.n
  have hpe := peer_V FA x.s x.n
  have hup := unpeer_V FA x.s x.n
  have hSg := Seg_V FA x.n hx.n
  have hfp := fromport_V FA x.n now hx.n hn ht x.a x.ln x.c x.mt x.mo hfr
  have hft := fromtunnel_V FA x.s x.n now hn ht x.a x.ln x.c x.mt x.mo hfr
  have hnO : ∀ k, O' k → k ≠ w.heap.size + 1 ∧ k ≠ w.heap.size := fun k hk => by rcases hO' k hk with h | h <;> omega
  have hOO : ∀ k, O' k → O k := fun k hk => by
    rcases hO' k hk with h | h
    · exact h.1
    · exact F.cof k (by have := F.since.size; omega)
  have hOt : O (w.heap.size + 1) := F.cof _ (by have := F.since.size; omega)
  have hFw : Frm O w0 wA := F.since.trans fA (fun _ h _ => h.elim)
  have hcof := F.cof
  -- behind a call that answers with no frame
  have hdone : ∀ (w3 w4 : World) (t' : Int) (bound' : Bd) (Vs' : List VSeg), BB O' wA w3 bb room life t' bound' Vs' → t' ≤ now → Frm (fun k => k = w.heap.size + 1) w3 w4 → BB O w0 w4 bb room life now bound' Vs' :=
    fun _ _ _ _ _ h h2 f => (h.past hFw hcof hOO f (fun k hk => by subst hk; exact ⟨fun h => (hnO _ h).1 rfl, hOt⟩)).mono h2
  have hrow : ∀ (w3 : World) (t' : Int) (bound' : Bd) (Vs' : List VSeg), BB O' wA w3 bb room life t' bound' Vs' → Row w3 (w.heap.size + 1) 34 [.slice none 0 0, .slice none 0 0, .bool false] ∧ Row w3 w.heap.size 31 (st16Cells x) :=
    fun _ _ _ _ h => ⟨rO.frm h.since (fun h => (hnO _ h).1 rfl), rX.frm h.since (fun h => (hnO _ h).2 rfl)⟩
  have HD := Lib.hid hdone
  have HR := Lib.hid hrow
  have HA := Lib.hid FA
  have c0 := rX.cell 0
  have c1 := rX.cell 1
  have c2 := rX.cell 2
  have c3 := rX.cell 3
  have c4 := rX.cell 4
  simp at c0 c1 c2 c3 c4
  have HT := Lib.hid ht
  clear hdone hrow hnO hOO hOt hFw hcof FA hO' hfr F fA rX rO hzA ht c4
  obtain ⟨k, n, s, a, ln, c, y, mt, mo⟩ := x
  simp only at hun hbi hpe hup hSg hfp hft c0 c1 c2 c3
  clear hx
  subst hwA
  by_cases h0 : k = 0
  · clear hun hpe hup hSg hfp hft
    subst h0
    go_enter Try.func9, Try.ntmps9
    go_wp2_with fail
    refine hbi.mono ?_
    rintro e w3 ⟨rfl, F3⟩
    obtain ⟨r3, _⟩ := HR.out _ _ _ _ F3
    have d0 := r3.cell 0
    have d1 := r3.cell 1
    have d2 := r3.cell 2
    have df := r3.free
    have dl := r3.lt
    simp at d0 d1 d2
    have H3 := Lib.hid F3
    clear F3 r3
    go_wp2_with fail
    refine bodyPost_ret (v := .tuple #[.agg #[.slice none 0 0, .slice none 0 0, .bool false], .int .i64 (-1)]) (by simp [results, Try.results9, go_sem, *]) rfl ?_
    exact .inl ⟨_, _, rfl, HD.out _ _ _ _ _ H3.out HT.out (by repeat (first | with_reducible exact Frm.refl _ _ | with_reducible refine Frm.setCell ?_ _ (fun _ => rfl)))⟩
  · skip
    by_cases h1 : k = 1
    · clear hbi hpe hup hSg hfp hft h0
      subst h1
      go_enter Try.func9, Try.ntmps9
      go_wp2_with fail
      refine hun.mono ?_
      rintro e w3 ⟨rfl, F3⟩
      obtain ⟨r3, _⟩ := HR.out _ _ _ _ F3
      have d0 := r3.cell 0
      have d1 := r3.cell 1
      have d2 := r3.cell 2
      have df := r3.free
      have dl := r3.lt
      simp at d0 d1 d2
      have H3 := Lib.hid F3
      clear F3 r3
      go_wp2_with fail
      refine bodyPost_ret (v := .tuple #[.agg #[.slice none 0 0, .slice none 0 0, .bool false], .int .i64 (-1)]) (by simp [results, Try.results9, go_sem, *]) rfl ?_
      exact .inl ⟨_, _, rfl, HD.out _ _ _ _ _ H3.out HT.out (by repeat (first | with_reducible exact Frm.refl _ _ | with_reducible refine Frm.setCell ?_ _ (fun _ => rfl)))⟩
    · skip
      by_cases h2 : k = 2
      · clear hbi hun hup hSg hfp hft h0 h1
        subst h2
        go_enter Try.func9, Try.ntmps9
        go_wp2_with fail
        refine hpe.mono ?_
        rintro e w3 ⟨rfl, F3⟩
        obtain ⟨r3, _⟩ := HR.out _ _ _ _ F3
        have d0 := r3.cell 0
        have d1 := r3.cell 1
        have d2 := r3.cell 2
        have df := r3.free
        have dl := r3.lt
        simp at d0 d1 d2
        have H3 := Lib.hid F3
        clear F3 r3
        go_wp2_with fail
        refine bodyPost_ret (v := .tuple #[.agg #[.slice none 0 0, .slice none 0 0, .bool false], .int .i64 (-1)]) (by simp [results, Try.results9, go_sem, *]) rfl ?_
        exact .inl ⟨_, _, rfl, HD.out _ _ _ _ _ H3.out HT.out (by repeat (first | with_reducible exact Frm.refl _ _ | with_reducible refine Frm.setCell ?_ _ (fun _ => rfl)))⟩
      · skip
        by_cases h3 : k = 3
        · clear hbi hun hpe hSg hfp hft h0 h1 h2
          subst h3
          go_enter Try.func9, Try.ntmps9
          go_wp2_with fail
          refine hup.mono ?_
          rintro e w3 ⟨rfl, F3⟩
          obtain ⟨r3, _⟩ := HR.out _ _ _ _ F3
          have d0 := r3.cell 0
          have d1 := r3.cell 1
          have d2 := r3.cell 2
          have df := r3.free
          have dl := r3.lt
          simp at d0 d1 d2
          have H3 := Lib.hid F3
          clear F3 r3
          go_wp2_with fail
          refine bodyPost_ret (v := .tuple #[.agg #[.slice none 0 0, .slice none 0 0, .bool false], .int .i64 (-1)]) (by simp [results, Try.results9, go_sem, *]) rfl ?_
          exact .inl ⟨_, _, rfl, HD.out _ _ _ _ _ H3.out HT.out (by repeat (first | with_reducible exact Frm.refl _ _ | with_reducible refine Frm.setCell ?_ _ (fun _ => rfl)))⟩
        · skip
          by_cases h4 : k = 4 ∨ k = 5 ∨ k = 6 ∨ k = 7
          · clear hbi hun hpe hup hft h0 h1 h2 h3
            obtain ⟨K, hK⟩ : ∃ K : Int, K = k := ⟨_, rfl⟩
            have HK := Lib.hid hK
            clear hK
            rcases h4 with rfl | rfl | rfl | rfl
            all_goals
              go_enter Try.func9, Try.ntmps9
              go_wp2_with fail
              refine hSg.mono ?_
              rintro e w2 ⟨rfl, rfl⟩
              go_wp2_with fail
              refine hfp.mono ?_
              clear hSg hfp
              rintro e w3 (⟨hb, hN⟩ | ⟨i, hb, h8, hN | ⟨h14, _, hG⟩⟩)
              · rw [hb]
                obtain ⟨hc0, rfl, F3⟩ := hN
                obtain ⟨r3, r4⟩ := HR.out _ _ _ _ F3
                have d0 := r3.cell 0
                have d1 := r3.cell 1
                have d2 := r3.cell 2
                have df := r3.free
                have dl := r3.lt
                have g2 := r4.cell 2
                have gl := r4.lt
                simp at d0 d1 d2 g2
                have H3 := Lib.hid F3
                clear F3 r3 r4
                go_wp2_with fail
                refine bodyPost_ret (v := .tuple #[.agg #[.slice none 0 0, .slice none 0 0, .bool false], .int .i64 (-1)]) (by simp [results, Try.results9, go_sem, *]) rfl ?_
                exact .inl ⟨_, _, rfl, HD.out _ _ _ _ _ H3.out HT.out (by repeat (first | with_reducible exact Frm.refl _ _ | with_reducible refine Frm.drew ?_ | with_reducible refine Frm.alloc ?_ _ | with_reducible refine Frm.setCell ?_ _ (fun _ => rfl)))⟩
              · rw [hb]
                obtain ⟨hc0, rfl, F3⟩ := hN
                obtain ⟨r3, r4⟩ := HR.out _ _ _ _ F3
                have d0 := r3.cell 0
                have d1 := r3.cell 1
                have d2 := r3.cell 2
                have df := r3.free
                have dl := r3.lt
                have g2 := r4.cell 2
                have gl := r4.lt
                simp at d0 d1 d2 g2
                have H3 := Lib.hid F3
                clear F3 r3 r4
                go_wp2_with fail
                refine bodyPost_ret (v := .tuple #[.agg #[.slice none 0 0, .slice none 0 0, .bool false], .int .i64 (-1)]) (by simp [results, Try.results9, go_sem, *]) rfl ?_
                exact .inl ⟨_, _, rfl, HD.out _ _ _ _ _ H3.out HT.out (by repeat (first | with_reducible exact Frm.refl _ _ | with_reducible refine Frm.drew ?_ | with_reducible refine Frm.alloc ?_ _ | with_reducible refine Frm.setCell ?_ _ (fun _ => rfl)))⟩
              · rw [hb]
                obtain ⟨es, ps, qs, moved, cd, es', pa, ta, pl, pc, tl, tc, o, ho, rfl, hU, hp1, hp2, _, hL, F3, hP, hT⟩ := hG
                obtain ⟨r3, r4⟩ := HR.out _ _ _ _ F3
                have d0 := r3.cell 0
                have d1 := r3.cell 1
                have d2 := r3.cell 2
                have df := r3.free
                have dl := r3.lt
                have g2 := r4.cell 2
                have gl := r4.lt
                simp at d0 d1 d2 g2
                have hno : ∀ (v : Value) (zs : List Int), IntSl w3 v zs → ∀ g, v.ownBlock = some g → ¬ g = w.heap.size + 1 := fun v zs h g hg e => h.no_out hg (e ▸ r3)
                have hW : ∀ w4, Frm (fun k => k = w.heap.size + 1) w3 w4 → Went O w0 bb room life bound Vs ⟨K, n, s, a, ln, c, y, mt, mo⟩ now (doneV pa ta pl pc tl tc o.flood i) w4 := fun w4 hf4 => ⟨i, es, ps, qs, moved, cd, es', pa, ta, pl, pc, tl, tc, o, h8, by have := HK.out; show 4 ≤ K; omega, by have := HK.out; show K ≤ 9; omega, h14, by simp only [decide_eq_false (show ¬ (8:Int) ≤ K by have := HK.out; omega)]; exact ho, rfl, hU, fun _ => hp1 (by trivial), fun h => absurd h (by have := HK.out; show ¬ (8 ≤ K); omega), by simp only [decide_eq_false (show ¬ (8:Int) ≤ K by have := HK.out; omega)]; exact hL, HD.out _ _ _ _ _ F3 (Int.le_refl _) hf4, hP.frm hf4 (hno _ _ hP), hT.frm hf4 (hno _ _ hT)⟩
                have HW := Lib.hid hW
                clear F3 r3 r4 hP hT hU hL ho hno hW
                go_wp2_with fail
                refine bodyPost_ret (v := .tuple #[.agg #[.slice pa pl pc, .slice ta tl tc, .bool o.flood], .int .i64 (i : Int)]) (by simp [results, Try.results9, go_sem, *]) rfl ?_
                have hK := HK.out
                subst hK
                exact .inr (HW.out _ (by repeat (first | with_reducible exact Frm.refl _ _ | with_reducible refine Frm.drew ?_ | with_reducible refine Frm.alloc ?_ _ | with_reducible refine Frm.setCell ?_ _ (fun _ => rfl))))
          · by_cases h8 : k = 8 ∨ k = 9
            · clear hbi hun hpe hup hSg hfp h0 h1 h2 h3 h4
              obtain ⟨K, hK⟩ : ∃ K : Int, K = k := ⟨_, rfl⟩
              have HK := Lib.hid hK
              clear hK
              rcases h8 with rfl | rfl
              all_goals
                go_enter Try.func9, Try.ntmps9
                go_wp2_with fail
                refine hft.mono ?_
                clear hft
                rintro e w3 (⟨_, hN⟩ | ⟨i, U, rfl, h8, _, _, hN | ⟨h14, _, hG⟩⟩)
                · obtain ⟨hc0, rfl, F3⟩ := hN
                  obtain ⟨r3, r4⟩ := HR.out _ _ _ _ F3
                  have d0 := r3.cell 0
                  have d1 := r3.cell 1
                  have d2 := r3.cell 2
                  have df := r3.free
                  have dl := r3.lt
                  have g2 := r4.cell 2
                  have gl := r4.lt
                  simp at d0 d1 d2 g2
                  have H3 := Lib.hid F3
                  clear F3 r3 r4
                  go_wp2_with fail
                  refine bodyPost_ret (v := .tuple #[.agg #[.slice none 0 0, .slice none 0 0, .bool false], .int .i64 (-1)]) (by simp [results, Try.results9, go_sem, *]) rfl ?_
                  exact .inl ⟨_, _, rfl, HD.out _ _ _ _ _ H3.out HT.out (by repeat (first | with_reducible exact Frm.refl _ _ | with_reducible refine Frm.drew ?_ | with_reducible refine Frm.alloc ?_ _ | with_reducible refine Frm.setCell ?_ _ (fun _ => rfl)))⟩
                · obtain ⟨hc0, rfl, F3⟩ := hN
                  obtain ⟨r3, r4⟩ := HR.out _ _ _ _ F3
                  have d0 := r3.cell 0
                  have d1 := r3.cell 1
                  have d2 := r3.cell 2
                  have df := r3.free
                  have dl := r3.lt
                  have g2 := r4.cell 2
                  have gl := r4.lt
                  simp at d0 d1 d2 g2
                  have H3 := Lib.hid F3
                  clear F3 r3 r4
                  go_wp2_with fail
                  refine bodyPost_ret (v := .tuple #[.agg #[.slice none 0 0, .slice none 0 0, .bool false], .int .i64 (-1)]) (by simp [results, Try.results9, go_sem, *]) rfl ?_
                  exact .inl ⟨_, _, rfl, HD.out _ _ _ _ _ H3.out HT.out (by repeat (first | with_reducible exact Frm.refl _ _ | with_reducible refine Frm.drew ?_ | with_reducible refine Frm.alloc ?_ _ | with_reducible refine Frm.setCell ?_ _ (fun _ => rfl)))⟩
                · obtain ⟨es, ps, qs, moved, cd, es', pa, ta, pl, pc, tl, tc, o, ho, rfl, hU, hp1, hp2, _, hL, F3, hP, hT⟩ := hG
                  obtain ⟨r3, r4⟩ := HR.out _ _ _ _ F3
                  have d0 := r3.cell 0
                  have d1 := r3.cell 1
                  have d2 := r3.cell 2
                  have df := r3.free
                  have dl := r3.lt
                  have g2 := r4.cell 2
                  have gl := r4.lt
                  simp at d0 d1 d2 g2
                  have hno : ∀ (v : Value) (zs : List Int), IntSl w3 v zs → ∀ g, v.ownBlock = some g → ¬ g = w.heap.size + 1 := fun v zs h g hg e => h.no_out hg (e ▸ r3)
                  have hW : ∀ w4, Frm (fun k => k = w.heap.size + 1) w3 w4 → Went O w0 bb room life bound Vs ⟨K, n, (i : Int), a, ln, c, y, mt, mo⟩ now (doneV pa ta pl pc tl tc o.flood i) w4 := fun w4 hf4 => ⟨i, es, ps, qs, moved, cd, es', pa, ta, pl, pc, tl, tc, o, h8, by have := HK.out; show 4 ≤ K; omega, by have := HK.out; show K ≤ 9; omega, h14, by simp only [decide_eq_true (show (8:Int) ≤ K by have := HK.out; omega)]; exact ho, rfl, hU, fun h => absurd h (by have := HK.out; show ¬ (K ≤ 7); omega), fun _ => hp2 (by trivial), by simp only [decide_eq_true (show (8:Int) ≤ K by have := HK.out; omega)]; exact hL, HD.out _ _ _ _ _ F3 (Int.le_refl _) hf4, hP.frm hf4 (hno _ _ hP), hT.frm hf4 (hno _ _ hT)⟩
                  have HW := Lib.hid hW
                  clear F3 r3 r4 hP hT hU hL ho hno hW
                  go_wp2_with fail
                  go_region
                  all_goals
                    go_wp2_with fail
                    refine bodyPost_ret (v := .tuple #[.agg #[.slice pa pl pc, .slice ta tl tc, .bool o.flood], .int .i64 (i : Int)]) (by simp [results, Try.results9, go_sem, *]) rfl ?_
                    have hK := HK.out
                    subst hK
                    exact .inr (HW.out _ (by repeat (first | with_reducible exact Frm.refl _ _ | with_reducible refine Frm.drew ?_ | with_reducible refine Frm.alloc ?_ _ | with_reducible refine Frm.setCell ?_ _ (fun _ => rfl))))
            · have q0 : ((k : Int) == 0) = false := beq_eq_false_iff_ne.2 h0
              have q1 : ((k : Int) == 1) = false := beq_eq_false_iff_ne.2 h1
              have q2 : ((k : Int) == 2) = false := beq_eq_false_iff_ne.2 h2
              have q3 : ((k : Int) == 3) = false := beq_eq_false_iff_ne.2 h3
              have q4 : ((k : Int) == 4) = false := beq_eq_false_iff_ne.2 (fun h => h4 (.inl h))
              have q5 : ((k : Int) == 5) = false := beq_eq_false_iff_ne.2 (fun h => h4 (.inr (.inl h)))
              have q6 : ((k : Int) == 6) = false := beq_eq_false_iff_ne.2 (fun h => h4 (.inr (.inr (.inl h))))
              have q7 : ((k : Int) == 7) = false := beq_eq_false_iff_ne.2 (fun h => h4 (.inr (.inr (.inr h))))
              have q8 : ((k : Int) == 8) = false := beq_eq_false_iff_ne.2 (fun h => h8 (.inl h))
              have q9 : ((k : Int) == 9) = false := beq_eq_false_iff_ne.2 (fun h => h8 (.inr h))
              clear hbi hun hpe hup hSg hfp hft h0 h1 h2 h3 h4 h8
              go_enter Try.func9, Try.ntmps9
              go_wp2_with fail
              refine bodyPost_ret (v := .tuple #[.agg #[.slice none 0 0, .slice none 0 0, .bool false], .int .i64 (-1)]) (by simp [results, Try.results9, go_sem, *]) rfl ?_
              exact .inl ⟨_, _, rfl, HD.out _ _ _ _ _ HA.out HT.out (by repeat (first | with_reducible exact Frm.refl _ _ | with_reducible refine Frm.drew ?_ | with_reducible refine Frm.alloc ?_ _ | with_reducible refine Frm.setCell ?_ _ (fun _ => rfl)))⟩
end V
end Go.Proofs.Ytmddhglhfgomiaa
