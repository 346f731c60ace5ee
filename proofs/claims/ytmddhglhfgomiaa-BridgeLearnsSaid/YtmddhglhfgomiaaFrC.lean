/- bridge: FromPort, FromTunnel. Conditions: none. -/
import Derived.Test.YtmddhglhfgomiaaFrB
namespace Go.Proofs.Ytmddhglhfgomiaa
open Go Go.RowKit Go.Maps

abbrev outO : Obj := .cells #[.slice none 0 0, .slice none 0 0, .bool false] 34
abbrev tuple2 (pa ta : Option Addr) (pl pc tl tc : Nat) (fl : Bool) (code : Int) : Ending := .returned (.tuple #[.agg #[.slice pa pl pc, .slice ta tl tc, .bool fl], .int .i64 code])
abbrev put3w (w1 : World) (b : Nat) (x y z : Value) : World := ((w1.setCell ⟨b, 0, none⟩ x).setCell ⟨b, 1, none⟩ y).setCell ⟨b, 2, none⟩ z

section
variable (w : World) (bb bm : Nat) (room life : Int) (bound : List (Int × Int)) (segs : List SegG)

set_option maxRecDepth 100000 in
set_option maxHeartbeats 1000000 in
theorem fromport_via (port now : Int) (fr : Value) (hp : i64ok port) (n : Int) (i : Nat) (hn : n = i) (hi : i < segs.length) (hb : boundTo bound port = some n) (B : BridgeRep w bb bm room life bound segs) (post : Ending → World → Prop)
    (hcall : Calls Try.prog 36 #[ptr segs[i].blk, placeV ⟨false, port⟩, fr, .int .u64 now] (w.alloc outO) fun e w1 => ∃ pa ta pl pc tl tc fl code, e = tuple2 pa ta pl pc tl tc fl code ∧
      Row w1 w.heap.size 34 [.slice none 0 0, .slice none 0 0, .bool false] ∧ post e (put3w w1 w.heap.size (.slice pa pl pc) (.slice ta tl tc) (.bool fl))) :
    Calls Try.prog 12 #[ptr bb, .int .i64 port, fr, .int .u64 now] w post := by
  have B' : BridgeRep (w.alloc outO) bb bm room life bound segs := B.frm ((Frm.refl (fun _ => False) w).alloc _) (fun _ _ h => h)
  have hl := B'.look hp
  rw [hb] at hl
  have c8 := B.cell8
  have hbl := B.row.lt
  have hc := B.cell hi
  have hlen := B.len
  obtain ⟨sb, hsb⟩ : ∃ sb, sb = segs[i].blk := ⟨_, rfl⟩
  rw [← hsb] at hc hcall
  have h0 : 0 ≤ n := by omega
  have h8 : n < 8 := by omega
  have hc' : w.cell? ⟨bb, n.toNat, none⟩ = some (ptr sb) := by rw [hn]; exact hc
  simp only [Option.getD_some, Option.isSome_some] at hl
  clear B B' hb hc hlen hsb hn
  go_enter Try.func12, Try.ntmps12
  go_wp2_with (go_at_call 36; refine hcall.mono ?_; rintro e w1 ⟨pa, ta, pl, pc, tl, tc, fl, code, rfl, hR, hpost⟩; have r0 := hR.cell 0; have r1 := hR.cell 1; have r2 := hR.cell 2; simp at r0 r1 r2; have rf := hR.free)
  refine bodyPost_ret (v := .tuple #[.agg #[.slice pa pl pc, .slice ta tl tc, .bool fl], .int .i64 code]) (by simp [results, Try.results12, go_sem, *]) rfl ?_
  exact hpost

set_option maxRecDepth 100000 in
set_option maxHeartbeats 1000000 in
theorem fromport_none (port now : Int) (fr : Value) (hp : i64ok port) (hb : boundTo bound port = none) (B : BridgeRep w bb bm room life bound segs) :
    Calls Try.prog 12 #[ptr bb, .int .i64 port, fr, .int .u64 now] w fun e w' => e = tuple2 none none 0 0 0 0 false 6 ∧ Frm (fun _ => False) w w' := by
  have B' : BridgeRep (w.alloc outO) bb bm room life bound segs := B.frm ((Frm.refl (fun _ => False) w).alloc _) (fun _ _ h => h)
  have hl := B'.look hp
  rw [hb] at hl
  have c8 := B.cell8
  have hbl := B.row.lt
  simp only [Option.getD_none, Option.isSome_none] at hl
  clear B B' hb
  go_enter Try.func12, Try.ntmps12
  go_wp2_with fail
  refine bodyPost_ret (v := .tuple #[.agg #[.slice none 0 0, .slice none 0 0, .bool false], .int .i64 6]) (by simp [results, Try.results12, go_sem, *]) rfl ⟨rfl, (by repeat (first | exact Frm.refl _ _ | assumption | refine Frm.drewN ?_ _ | refine Frm.drew ?_ | refine Frm.alloc ?_ _ | refine Frm.setCell ?_ _ (by simp)))⟩

set_option maxRecDepth 100000 in
set_option maxHeartbeats 1000000 in
theorem fromtunnel_via (port now n : Int) (fr : Value) (i : Nat) (hn : n = i) (hi : i < segs.length) (hq : segs[i].peers.length ≤ 1073741824) (hb : segs[i].peers.contains port = true) (B : BridgeRep w bb bm room life bound segs) (post : Ending → World → Prop)
    (hcall : Calls Try.prog 36 #[ptr segs[i].blk, placeV ⟨true, port⟩, fr, .int .u64 now] (w.alloc outO) fun e w1 => ∃ pa ta pl pc tl tc fl code, e = tuple2 pa ta pl pc tl tc fl code ∧
      Row w1 w.heap.size 34 [.slice none 0 0, .slice none 0 0, .bool false] ∧ post e (put3w w1 w.heap.size (.slice pa pl pc) (.slice ta tl tc) (.bool fl))) :
    Calls Try.prog 28 #[ptr bb, .int .i64 n, .int .i64 port, fr, .int .u64 now] w post := by
  have B' : BridgeRep (w.alloc outO) bb bm room life bound segs := B.frm ((Frm.refl (fun _ => False) w).alloc _) (fun _ _ h => h)
  have hs := seg_in _ bb bm room life bound segs n i hn hi B'
  have hr := (B'.srep _ (List.getElem_mem hi)).row
  have hI := (B'.srep _ (List.getElem_mem hi)).peers
  have hcn := contains_any _ _ _ port hI hq
  rw [hb] at hcn
  have hbl := B.row.lt
  clear hb hq B' B hn
  generalize segs[i] = s at *
  have c2 := hr.cell 2
  simp at c2
  obtain ⟨qa, qc, hqv⟩ := hI.len
  rw [hqv] at hcn c2
  clear hI hqv hr
  go_enter Try.func28, Try.ntmps28
  go_wp2_with (first | (go_at_call 35; refine hs.mono ?_; rintro e w1 ⟨rfl, rfl⟩) | (go_at_call 45; refine hcn.mono ?_; rintro e w1 ⟨rfl, rfl⟩) | (go_at_call 36; refine hcall.mono ?_; rintro e w1 ⟨pa, ta, pl, pc, tl, tc, fl, code, rfl, hR, hpost⟩; have r0 := hR.cell 0; have r1 := hR.cell 1; have r2 := hR.cell 2; simp at r0 r1 r2; have rf := hR.free))
  refine bodyPost_ret (v := .tuple #[.agg #[.slice pa pl pc, .slice ta tl tc, .bool fl], .int .i64 code]) (by simp [results, Try.results28, go_sem, *]) rfl ?_
  exact hpost
end

end Go.Proofs.Ytmddhglhfgomiaa
