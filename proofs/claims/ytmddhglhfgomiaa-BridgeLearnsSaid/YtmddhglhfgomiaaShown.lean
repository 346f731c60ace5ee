/- law 16: shown. Conditions: none. -/
import Derived.Test.YtmddhglhfgomiaaView
namespace Go.Proofs.Ytmddhglhfgomiaa
open Go Go.RowKit Go.Maps

/-- A bridge that is all new since w0. -/
structure BS (w0 w : World) (bb bm : Nat) (room life : Int) (bound : List (Int × Int)) (segs : List SegG) (V : List VSeg) : Prop where
  rep : BridgeRep w bb bm room life bound segs
  view : vw segs = V
  own : ∀ k, bridgeFp bb bm segs k → w0.heap.size ≤ k
  below : Below w0.heap.size w0 w

section
variable {w0 w w' : World} {bb bm : Nat} {room life : Int} {bound bound' : List (Int × Int)} {segs segs' : List SegG} {V V' : List VSeg}
theorem BS.turn (S : BS w0 w bb bm room life bound segs V) (B : BridgeRep w' bb bm room life bound' segs') (hv : vw segs' = V') (T : BrTurn bb bm segs w w' segs') : BS w0 w' bb bm room life bound' segs' V' :=
  ⟨B, hv, fun k hk => (T.2 k hk).elim (S.own k) (fun h => Nat.le_trans S.below.size h), S.below.trans (T.1.to_below S.below.size (fun i hi h => by have := S.own i h; omega))⟩
theorem BS.frm0 (S : BS w0 w bb bm room life bound segs V) (f : Frm (fun _ => False) w w') : BS w0 w' bb bm room life bound segs V :=
  ⟨S.rep.frm f (fun _ _ h => h), S.view, S.own, S.below.trans (f.to_below S.below.size (fun _ _ h => h))⟩
theorem BS.alloc (S : BS w0 w bb bm room life bound segs V) (o : Obj) : BS w0 (w.alloc o) bb bm room life bound segs V := S.frm0 ((Frm.refl _ _).alloc o)

/-- A row of the law's own. -/
def Kp (bb bm : Nat) (segs : List SegG) (w : World) (b T : Nat) (cs : List Value) : Prop := Row w b T cs ∧ ¬ bridgeFp bb bm segs b
theorem Kp.turn {b T : Nat} {cs : List Value} (K : Kp bb bm segs w b T cs) (h : BrTurn bb bm segs w w' segs') : Kp bb bm segs' w' b T cs :=
  ⟨K.1.frm h.1 K.2, fun h' => (h.2 b h').elim K.2 (fun h2 => by have := K.1.lt; omega)⟩
theorem Kp.frm0 {b T : Nat} {cs : List Value} (K : Kp bb bm segs w b T cs) (f : Frm (fun _ => False) w w') : Kp bb bm segs w' b T cs := ⟨K.1.frm0 f, K.2⟩
theorem Kp.alloc {b T : Nat} {cs : List Value} (K : Kp bb bm segs w b T cs) (o : Obj) : Kp bb bm segs (w.alloc o) b T cs := K.frm0 ((Frm.refl _ _).alloc o)
theorem BS.box (S : BS w0 w bb bm room life bound segs V) (T : Nat) (cs : List Value) : Kp bb bm segs (w.alloc (.cells cs.toArray T)) w.heap.size T cs :=
  ⟨Row.new w T cs, fun h => Nat.lt_irrefl _ (S.rep.fp_lt _ h)⟩

/-- A row of ints with one int. -/
theorem one_at {a : Option Addr} {n c : Nat} {x : Int} (h : IntSl w (.slice a n c) [x]) (hb : ∀ y, a = some y → ¬ bridgeFp bb bm segs y.block) : ∃ g cs, a = some ⟨g, 0, none⟩ ∧ n = 1 ∧ cs[0]? = some (.int .i64 x) ∧ Kp bb bm segs w g 3 cs := by
  rcases h.cases with ⟨_, h1⟩ | ⟨g, cap, cs, h1, hr, h2, h3, h4, h5⟩
  · cases h1
  · cases h1
    refine ⟨g, cs, rfl, rfl, ?_, hr, hb _ rfl⟩
    have := congrArg (fun l => l[0]?) h5
    simpa using this
theorem nil_at {a : Option Addr} {n c : Nat} (h : IntSl w (.slice a n c) []) : n = 0 := by
  rcases h.cases with ⟨h1, _⟩ | ⟨g, cap, cs, h1, _⟩ <;> cases h1 <;> rfl
end

theorem lframe_ex (w : World) (mt mo : Mac) : Calls Try.prog 13 #[macV mt, macV mo] w fun e w' => ∃ fb, e = .returned (.slice (some ⟨fb, 0, none⟩) 60 60) ∧ fb < w'.heap.size ∧ MacAt w' fb 0 mt ∧ MacAt w' fb 6 mo ∧ Frm (fun _ => False) w w' :=
  (lframe_any w mt mo).mono fun _ _ h => ⟨_, h⟩

abbrev m2 : Mac := ⟨2, 0, 0, 0, 0, 0⟩
abbrev m4 : Mac := ⟨4, 0, 0, 0, 0, 0⟩
theorem m2ok : m2.ok := by constructor <;> exact ⟨by decide, by decide⟩
theorem m4ok : m4.ok := by constructor <;> exact ⟨by decide, by decide⟩

set_option maxRecDepth 100000 in
set_option maxHeartbeats 2000000 in
theorem shown_any (w : World) : Calls Try.prog 7 #[] w fun e w' => e = .returned (.bool true) ∧ Below w.heap.size w w' := by
  go_enter Try.func7, Try.ntmps7
  go_wp2_with fail
  refine (new_v w 100 8).mono ?_
  rintro e w1 ⟨bb, bm, segs1, rfl, B1, V1, hN1, hb1⟩
  have S1 : BS w w1 bb bm 8 100 [] segs1 _ := ⟨B1, V1, hN1, hb1⟩
  clear B1 V1 hN1 hb1
  go_wp2_with fail
  have h8 : 0 < segs1.length := by rw [S1.rep.len]; decide
  refine (bbase_in w1 bb bm 8 100 [] segs1 0 0 rfl h8 S1.rep).mono ?_
  rintro e w' ⟨rfl, rfl⟩
  go_wp2_with fail
  refine (bind_v (es := []) (ps := []) (qs := []) w1 bb bm 8 100 [] segs1 1 0 0 rfl (by decide) (by unfold i64ok; decide) S1.rep (by rw [S1.view]; rfl) (by decide) (by simp) rfl (by decide)).mono ?_
  rintro e w2 ⟨segs2, rfl, B, hv, T⟩
  have S2 := S1.turn B hv T
  rw [S1.view] at S2
  clear B hv T S1
  go_wp2_with fail
  refine (bind_v (es := []) (ps := [1]) (qs := []) w2 bb bm 8 100 _ segs2 2 0 0 rfl (by decide) (by unfold i64ok; decide) S2.rep (by rw [S2.view]; rfl) (by decide) (by decide) (by decide) (by decide)).mono ?_
  rintro e w3 ⟨segs3, rfl, B, hv, T⟩
  have S3 := S2.turn B hv T
  rw [S2.view] at S3
  clear B hv T S2
  go_wp2_with fail
  refine (bind_v (es := []) (ps := []) (qs := []) w3 bb bm 8 100 _ segs3 3 1 1 rfl (by decide) (by unfold i64ok; decide) S3.rep (by rw [S3.view]; rfl) (by decide) (by simp) (by decide) (by decide)).mono ?_
  rintro e w4 ⟨segs4, rfl, B, hv, T⟩
  have S4 := S3.turn B hv T
  rw [S3.view] at S4
  clear B hv T S3
  go_wp2_with fail
  refine (peer_v (es := []) (ps := [1, 2]) (qs := []) w4 bb bm 8 100 _ segs4 5 0 0 rfl (by decide) S4.rep (by rw [S4.view]; rfl) (by decide) (by simp) (by decide)).mono ?_
  rintro e w5 ⟨segs5, rfl, B, hv, T⟩
  have S5 := S4.turn B hv T
  rw [S4.view] at S5
  clear B hv T S4
  go_wp2_with fail
  refine (lframe_ex _ m4 m2).mono ?_
  rintro e w6 ⟨fb, rfl, hlt, M1, M2, F⟩
  have S6 := S5.frm0 F
  clear F S5
  go_wp2_with fail
  refine (fromport_v (es := []) (ps := [1, 2]) (qs := [5]) w6 bb bm 8 100 _ segs5 1 1 0 0 rfl (by unfold i64ok; decide) (by decide) S6.rep (by rw [S6.view]; rfl) fb 0 60 60 m4 m2 (by decide) (by decide) (by decide) hlt M1 M2 m4ok m2ok rfl (by unfold u64ok; decide) (by decide) (by decide) (by simp) (by simp)).mono ?_
  rintro e w7 ⟨segs7, pa, ta, pl, pc, tl, tc, rfl, B, hv, T, hP, hT, hpf, htf⟩
  have ho : outE 100 1 ⟨false, 1⟩ m4 (learnE [] m2 ⟨false, 1⟩ 1) [1, 2] [5] = ⟨[2], [5], true⟩ := by rfl
  rw [ho] at hP hT ⊢
  obtain ⟨ga, ca, rfl, rfl, hca, KA⟩ := one_at hP (fun y hy => (hpf y hy).2)
  obtain ⟨gb, cb, rfl, rfl, hcb, KB⟩ := one_at hT (fun y hy => (htf y hy).2)
  have S7 := S6.turn B hv T
  rw [S6.view] at S7
  clear B hv T S6 hP hT hpf htf ho M1 M2 hlt KB hcb
  go_wp2_with fail
  refine (lframe_ex _ m2 m4).mono ?_
  rintro e w8 ⟨fb, rfl, hlt, M1, M2, F⟩
  have S8 := (S7.alloc _).frm0 F
  have X6 := (S7.box 34 [.slice (some ⟨ga, 0, none⟩) 1 pc, .slice (some ⟨gb, 0, none⟩) 1 tc, .bool true]).frm0 F
  replace KA := (KA.alloc _).frm0 F
  clear F S7
  go_wp2_with fail
  refine (fromtunnel_v (es := learnE [] m2 ⟨false, 1⟩ 1) (ps := [1, 2]) (qs := [5]) w8 bb bm 8 100 _ segs7 5 2 0 0 rfl S8.rep (by rw [S8.view]; rfl) (by decide) fb 0 60 60 m2 m4 (by decide) (by decide) (by decide) hlt M1 M2 m2ok m4ok rfl (by unfold u64ok; decide) (by decide) (by decide) (by decide) (by decide)).mono ?_
  rintro e w9 ⟨segs9, pa2, ta2, pl2, pc2, tl2, tc2, rfl, B, hv, T, hP, hT, hpf, htf⟩
  have ho : outE 100 2 ⟨true, 5⟩ m2 (learnE (learnE [] m2 ⟨false, 1⟩ 1) m4 ⟨true, 5⟩ 2) [1, 2] [5] = ⟨[1], [], false⟩ := by rfl
  rw [ho] at hP hT ⊢
  obtain ⟨gc, cc, rfl, rfl, hcc, KC⟩ := one_at hP (fun y hy => (hpf y hy).2)
  obtain rfl := nil_at hT
  have S9 := S8.turn B hv T
  rw [S8.view] at S9
  replace KA := KA.turn T
  replace X6 := X6.turn T
  clear B hv T S8 hP hT hpf htf ho M1 M2 hlt
  go_wp2_with fail
  refine (lframe_ex _ m4 m2).mono ?_
  rintro e w10 ⟨fb, rfl, hlt, M1, M2, F⟩
  have S10 := (S9.alloc _).frm0 F
  have X8 := (S9.box 34 [.slice (some ⟨gc, 0, none⟩) 1 pc2, .slice ta2 0 tc2, .bool false]).frm0 F
  replace KA := (KA.alloc _).frm0 F
  replace KC := (KC.alloc _).frm0 F
  replace X6 := (X6.alloc _).frm0 F
  clear F S9
  go_wp2_with fail
  refine (fromport_v (es := learnE (learnE [] m2 ⟨false, 1⟩ 1) m4 ⟨true, 5⟩ 2) (ps := [1, 2]) (qs := [5]) w10 bb bm 8 100 _ segs9 1 3 0 0 rfl (by unfold i64ok; decide) (by decide) S10.rep (by rw [S10.view]; rfl) fb 0 60 60 m4 m2 (by decide) (by decide) (by decide) hlt M1 M2 m4ok m2ok rfl (by unfold u64ok; decide) (by decide) (by decide) (by decide) (by decide)).mono ?_
  rintro e w11 ⟨segs11, pa3, ta3, pl3, pc3, tl3, tc3, rfl, B, hv, T, hP, hT, hpf, htf⟩
  have ho : outE 100 3 ⟨false, 1⟩ m4 (learnE (learnE (learnE [] m2 ⟨false, 1⟩ 1) m4 ⟨true, 5⟩ 2) m2 ⟨false, 1⟩ 3) [1, 2] [5] = ⟨[], [5], false⟩ := by rfl
  rw [ho] at hP hT ⊢
  obtain ⟨gd, cd, rfl, rfl, hcd, KD⟩ := one_at hT (fun y hy => (htf y hy).2)
  obtain rfl := nil_at hP
  have S11 := S10.turn B hv T
  rw [S10.view] at S11
  replace KA := KA.turn T
  replace KC := KC.turn T
  replace X6 := X6.turn T
  replace X8 := X8.turn T
  clear B hv T S10 hP hT hpf htf ho M1 M2 hlt
  go_wp2_with fail
  refine (lframe_ex _ m4 m2).mono ?_
  rintro e w12 ⟨fb, rfl, hlt, M1, M2, F⟩
  have S12 := (S11.alloc _).frm0 F
  have X10 := (S11.box 34 [.slice pa3 0 pc3, .slice (some ⟨gd, 0, none⟩) 1 tc3, .bool false]).frm0 F
  replace KA := (KA.alloc _).frm0 F
  replace KC := (KC.alloc _).frm0 F
  replace KD := (KD.alloc _).frm0 F
  replace X6 := (X6.alloc _).frm0 F
  replace X8 := (X8.alloc _).frm0 F
  clear F S11
  go_wp2_with fail
  refine (fromport_none w12 bb bm 8 100 _ segs11 9 3 _ (by unfold i64ok; decide) (by decide) S12.rep).mono ?_
  rintro e w13 ⟨rfl, F⟩
  have S13 := S12.frm0 F
  have rA := (KA.frm0 F).1
  have rC := (KC.frm0 F).1
  have rD := (KD.frm0 F).1
  have r6 := (X6.frm0 F).1
  have r8 := (X8.frm0 F).1
  have r10 := (X10.frm0 F).1
  clear F S12 KA KC KD X6 X8 X10 M1 M2 hlt
  have a0 := rA.cell 0
  have a1 := rC.cell 0
  have a2 := rD.cell 0
  rw [hca] at a0
  rw [hcc] at a1
  rw [hcd] at a2
  have x0 := r6.cell 0
  have x1 := r6.cell 1
  have x2 := r6.cell 2
  have y0 := r8.cell 0
  have y1 := r8.cell 1
  have y2 := r8.cell 2
  have z0 := r10.cell 0
  have z1 := r10.cell 1
  have z2 := r10.cell 2
  simp at x0 x1 x2 y0 y1 y2 z0 z1 z2
  have lA := rA.lt
  have lC := rC.lt
  have lD := rD.lt
  have l6 := r6.lt
  have l8 := r8.lt
  have l10 := r10.lt
  clear hca hcc hcd rA rC rD r6 r8 r10
  go_wp2_with fail
  go_ret
  exact ⟨rfl, S13.below.alloc S13.below.size _⟩
end Go.Proofs.Ytmddhglhfgomiaa
