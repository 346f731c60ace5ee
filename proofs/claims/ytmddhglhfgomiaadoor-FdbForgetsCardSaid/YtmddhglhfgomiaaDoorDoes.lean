/- law 15: a step. Conditions: none. -/
import Derived.Test.YtmddhglhfgomiaaDoorFW
namespace Go.Proofs.YtmddhglhfgomiaaDoor
open Go Go.RowKit Go.Maps
namespace V

structure Stp where
  (kind : Int)
  (mac : Mac)
  (p : Place)
  (by_ : Int)
structure Stp.ok (s : Stp) : Prop where
  kind : i64ok s.kind
  mac : s.mac.ok
  by_ : u8ok s.by_
abbrev stpCells (s : Stp) : List Value := [.int .i64 s.kind, .int .u8 s.mac.a, .int .u8 s.mac.b, .int .u8 s.mac.c, .int .u8 s.mac.d, .int .u8 s.mac.e, .int .u8 s.mac.f, .bool s.p.tunnel, .int .i64 s.p.n, .int .u8 s.by_]
abbrev stpV (s : Stp) : Value := .agg #[.int .i64 s.kind, .int .u8 s.mac.a, .int .u8 s.mac.b, .int .u8 s.mac.c, .int .u8 s.mac.d, .int .u8 s.mac.e, .int .u8 s.mac.f, .bool s.p.tunnel, .int .i64 s.p.n, .int .u8 s.by_]

/-- What a step does. -/
def DoesV (room life : Int) (es : List Ent) (s : Stp) (now : Int) (es' : List Ent) : Prop :=
  ((s.kind = 0 ∨ s.kind = 1 ∨ s.kind = 2) ∧ ∃ moved code, LearnV room es s.mac s.p now moved code es') ∨
  (s.kind = 3 ∧ ∃ code, StaticV room es s.mac s.p code es') ∨
  (s.kind = 4 ∧ es' = restV (fun e => decide (e.place = s.p)) es) ∨
  (s.kind = 5 ∧ es' = restV (fun e => decide (e.mac = s.mac)) es) ∨
  (s.kind = 6 ∧ es' = restV (oldB life now) es) ∨
  (s.kind ≠ 0 ∧ s.kind ≠ 1 ∧ s.kind ≠ 2 ∧ s.kind ≠ 3 ∧ s.kind ≠ 4 ∧ s.kind ≠ 5 ∧ s.kind ≠ 6 ∧ es' = es)

set_option maxRecDepth 100000 in
set_option maxHeartbeats 4000000 in
theorem does15_any {O : Nat → Prop} {w0 w : World} {b : Nat} {room life : Int} {es : List Ent} (F : FB O w0 w b room life es) (s : Stp) (hs : s.ok) (now : Int) (hn : u64ok now) :
    Calls Tryd.prog 36 #[ptr b, stpV s, .int .u64 now] w fun e w' => e = .returned (.tuple #[]) ∧ ∃ es', DoesV room life es s now es' ∧ FB O w0 w' b room life es' := by
  obtain ⟨k, m, p, y⟩ := s
  obtain ⟨hk, hm, hy⟩ := hs
  simp only at hk hm hy
  have F1 := F.alloc (.cells (stpCells ⟨k, m, p, y⟩).toArray 60)
  by_cases h0 : k = 0 ∨ k = 1 ∨ k = 2
  · have hL := learn_V F1 m hm p now hn
    have HD : Hid (∀ es' moved code, LearnV room es m p now moved code es' → DoesV room life es ⟨k, m, p, y⟩ now es') := Lib.hid (fun es' moved code h => .inl ⟨h0, moved, code, h⟩)
    clear F F1
    rcases h0 with rfl | rfl | rfl
    all_goals
      go_enter Tryd.func36, Tryd.ntmps36
      go_wp2_with fail
      refine hL.mono ?_
      rintro e w' ⟨moved, code, es', rfl, h1, F'⟩
      go_wp2_with fail
      go_end0
      exact ⟨rfl, es', HD.out _ _ _ h1, F'⟩
  · by_cases h3 : k = 3
    · have hL := static_V F1 m hm p
      have HD : Hid (∀ es' code, StaticV room es m p code es' → DoesV room life es ⟨k, m, p, y⟩ now es') := Lib.hid (fun es' code h => .inr (.inl ⟨h3, code, h⟩))
      clear F F1 h0
      subst h3
      go_enter Tryd.func36, Tryd.ntmps36
      go_wp2_with fail
      refine hL.mono ?_
      rintro e w' ⟨code, es', rfl, h1, F'⟩
      go_wp2_with fail
      go_end0
      exact ⟨rfl, es', HD.out _ _ h1, F'⟩
    · by_cases h4 : k = 4
      · have hL := forget_V F1 p
        have HD : Hid (DoesV room life es ⟨k, m, p, y⟩ now (restV (fun e => decide (e.place = p)) es)) := Lib.hid (.inr (.inr (.inl ⟨h4, rfl⟩)))
        clear F F1 h0 h3
        subst h4
        go_enter Tryd.func36, Tryd.ntmps36
        go_wp2_with fail
        refine hL.mono ?_
        rintro e w' ⟨rfl, F'⟩
        go_wp2_with fail
        go_end0
        exact ⟨rfl, _, HD.out, F'⟩
      · by_cases h5 : k = 5
        · have hL := dropM_V F1 m hm
          have HD : Hid (DoesV room life es ⟨k, m, p, y⟩ now (restV (fun e => decide (e.mac = m)) es)) := Lib.hid (.inr (.inr (.inr (.inl ⟨h5, rfl⟩))))
          clear F F1 h0 h3 h4
          subst h5
          go_enter Tryd.func36, Tryd.ntmps36
          go_wp2_with fail
          refine hL.mono ?_
          rintro e w' ⟨rfl, F'⟩
          go_wp2_with fail
          go_end0
          exact ⟨rfl, _, HD.out, F'⟩
        · by_cases h6 : k = 6
          · have hL := tick_V F1 now hn
            have HD : Hid (DoesV room life es ⟨k, m, p, y⟩ now (restV (oldB life now) es)) := Lib.hid (.inr (.inr (.inr (.inr (.inl ⟨h6, rfl⟩)))))
            clear F F1 h0 h3 h4 h5
            subst h6
            go_enter Tryd.func36, Tryd.ntmps36
            go_wp2_with fail
            refine hL.mono ?_
            rintro e w' ⟨rfl, F'⟩
            go_wp2_with fail
            go_end0
            exact ⟨rfl, _, HD.out, F'⟩
          · have k0 : ¬ k = 0 := fun h => h0 (.inl h)
            have k1 : ¬ k = 1 := fun h => h0 (.inr (.inl h))
            have k2 : ¬ k = 2 := fun h => h0 (.inr (.inr h))
            have HD : Hid (DoesV room life es ⟨k, m, p, y⟩ now es) := Lib.hid (.inr (.inr (.inr (.inr (.inr ⟨k0, k1, k2, h3, h4, h5, h6, rfl⟩)))))
            have HF := Lib.hid F1
            have b0 : ((k : Int) == 0) = false := beq_eq_false_iff_ne.2 k0
            have b1 : ((k : Int) == 1) = false := beq_eq_false_iff_ne.2 k1
            have b2 : ((k : Int) == 2) = false := beq_eq_false_iff_ne.2 k2
            have b3 : ((k : Int) == 3) = false := beq_eq_false_iff_ne.2 h3
            have b4 : ((k : Int) == 4) = false := beq_eq_false_iff_ne.2 h4
            have b5 : ((k : Int) == 5) = false := beq_eq_false_iff_ne.2 h5
            have b6 : ((k : Int) == 6) = false := beq_eq_false_iff_ne.2 h6
            clear F F1 h0 h3 h4 h5 h6 k0 k1 k2
            go_enter Tryd.func36, Tryd.ntmps36
            go_wp2_with fail
            go_end0
            exact ⟨rfl, _, HD.out, HF.out⟩
end V
end Go.Proofs.YtmddhglhfgomiaaDoor
