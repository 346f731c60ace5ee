/- law 15: FdbRoom. Conditions: none. -/
import Derived.Test.YtmddhglhfgomiaaDoorAges
namespace Go.Proofs.YtmddhglhfgomiaaDoor
open Go Go.RowKit Go.Maps
namespace V

theorem and63 (x : Int) : 0 ≤ bits .and .i64 x 63 ∧ bits .and .i64 x 63 < 64 := by
  have h : (BitVec.ofInt 64 x &&& BitVec.ofInt 64 63).toNat ≤ 63 := by
    rw [BitVec.toNat_and]
    exact Nat.le_trans Nat.and_le_right (by decide)
  show 0 ≤ IntKind.i64.wrap (((BitVec.ofInt 64 x &&& BitVec.ofInt 64 63).toNat : Nat) : Int) ∧ IntKind.i64.wrap (((BitVec.ofInt 64 x &&& BitVec.ofInt 64 63).toNat : Nat) : Int) < 64
  generalize (BitVec.ofInt 64 x &&& BitVec.ofInt 64 63).toNat = n at h ⊢
  rw [IntKind.wrap_i64]
  omega

abbrev macI (i : Nat) : Mac := ⟨2, 0, 0, 0, 0, i⟩
abbrev entI (i : Nat) : Ent := ⟨macI i, ⟨false, i⟩, i, false⟩
/-- The last ones of i, as many as there is room. -/
def lastE (r i : Nat) : List Ent := (List.range' (i - min i r) (min i r)).map entI
theorem two_ok : u8ok 2 := ⟨by decide, by decide⟩
theorem macI_ok {i : Nat} (h : i < 256) : (macI i).ok := ⟨two_ok, zero_ok, zero_ok, zero_ok, zero_ok, ⟨by simp, by simp; omega⟩⟩
theorem mem_lastE {r i : Nat} {x : Ent} : x ∈ lastE r i ↔ ∃ j, i - min i r ≤ j ∧ j < i ∧ x = entI j := by
  unfold lastE
  rw [List.mem_map]
  constructor
  · rintro ⟨j, hj, rfl⟩
    rw [List.mem_range'_1] at hj
    exact ⟨j, hj.1, by omega, rfl⟩
  · rintro ⟨j, h1, h2, rfl⟩
    exact ⟨j, by rw [List.mem_range'_1]; omega, rfl⟩
theorem lastE_len (r i : Nat) : (lastE r i).length = min i r := by simp [lastE]
theorem macI_inj {i j : Nat} (h : macI i = macI j) : i = j := by
  simp at h
  omega
theorem find_last {r n i : Nat} (hi : i < n) : findE (lastE r n) (macI i) = if n - min n r ≤ i then some (entI i) else none := by
  split
  · rename_i h
    have hin : entI i ∈ lastE r n := mem_lastE.2 ⟨i, h, hi, rfl⟩
    cases hf : findE (lastE r n) (macI i) with
    | none =>
      unfold findE at hf
      have := List.find?_eq_none.1 hf _ hin
      simp at this
    | some x =>
      unfold findE at hf
      have h1 := List.mem_of_find?_eq_some hf
      have h2 := List.find?_some hf
      obtain ⟨j, _, _, rfl⟩ := mem_lastE.1 h1
      have h3 : macI j = macI i := by simpa using h2
      rw [macI_inj h3]
  · rename_i h
    unfold findE
    rw [List.find?_eq_none]
    intro x hx
    obtain ⟨j, h1, _, rfl⟩ := mem_lastE.1 hx
    intro e
    have h3 : macI j = macI i := by simpa using e
    have := macI_inj h3
    omega
theorem find_next (r i : Nat) : findE (lastE r i) (macI i) = none := by
  unfold findE
  rw [List.find?_eq_none]
  intro x hx
  obtain ⟨j, _, h1, rfl⟩ := mem_lastE.1 hx
  intro e
  have h3 : macI j = macI i := by simpa using e
  have := macI_inj h3
  omega

theorem add_last {r i : Nat} (hr : 1 ≤ r) {code : Int} {es' : List Ent} (h : AddV (r : Int) (lastE r i) (entI i) code es') : code = 0 ∧ es' = lastE r (i + 1) := by
  rcases h with ⟨h1, h2, rfl⟩ | ⟨h1, h2⟩
  · rw [lastE_len] at h1
    have h3 : i < r := by omega
    refine ⟨h2, ?_⟩
    unfold lastE
    rw [Nat.min_eq_left (by omega), Nat.min_eq_left (by omega), Nat.sub_self, Nat.sub_self, List.range'_concat, List.map_append]
    simp
  · rw [lastE_len] at h1
    have h3 : r ≤ i := by omega
    have hl : lastE r i = entI (i - r) :: (List.range' (i - r + 1) (r - 1)).map entI := by
      unfold lastE
      rw [Nat.min_eq_right h3]
      obtain ⟨q, rfl⟩ : ∃ q, r = q + 1 := ⟨r - 1, by omega⟩
      rw [List.range'_succ]
      rfl
    rcases h2 with ⟨h4, _⟩ | ⟨v, ⟨hv1, _, hv3⟩, h4, rfl⟩
    · have := h4 (entI (i - r)) (by rw [hl]; simp)
      cases this
    · refine ⟨h4, ?_⟩
      obtain ⟨j, hj1, hj2, rfl⟩ := mem_lastE.1 hv1
      have hj : j = i - r := by
        by_cases hne : j = i - r
        · exact hne
        · exfalso
          have h5 := hv3 (entI (i - r)) (by rw [hl]; simp) rfl (fun e => by
            have := macI_inj (congrArg Ent.mac e)
            omega)
          rw [Nat.min_eq_right h3] at hj1
          unfold entLt at h5
          rw [show (entI j).at_ = (j : Int) from rfl, show (entI (i - r)).at_ = ((i - r : Nat) : Int) from rfl] at h5
          rcases h5 with h5 | ⟨h5, _⟩ <;> omega
      subst hj
      rw [hl, List.filter_cons]
      simp only [bne_self_eq_false, Bool.false_eq_true, if_false]
      have h6 : ((List.range' (i - r + 1) (r - 1)).map entI).filter (fun x => x.mac != (entI (i - r)).mac) = (List.range' (i - r + 1) (r - 1)).map entI := by
        refine List.filter_eq_self.2 (fun x hx => ?_)
        obtain ⟨k, hk, rfl⟩ := List.mem_map.1 hx
        rw [List.mem_range'_1] at hk
        simp only [bne_iff_ne, ne_eq]
        intro e
        have := macI_inj e
        omega
      rw [h6]
      unfold lastE
      rw [Nat.min_eq_right (by omega)]
      obtain ⟨q, rfl⟩ : ∃ q, r = q + 1 := ⟨r - 1, by omega⟩
      rw [show i + 1 - (q + 1) = i - (q + 1) + 1 by omega, List.range'_concat, List.map_append]
      simp
      omega

theorem learn_last {r i : Nat} (hr : 1 ≤ r) {moved : Bool} {code : Int} {es' : List Ent} (h : LearnV (r : Int) (lastE r i) (macI i) ⟨false, i⟩ i moved code es') : moved = false ∧ code = 0 ∧ es' = lastE r (i + 1) := by
  unfold LearnV at h
  rw [if_neg (by simp [groupB]), find_next] at h
  exact ⟨h.1, add_last hr h.2⟩

set_option maxRecDepth 100000 in
set_option maxHeartbeats 8000000 in
theorem room_any (w : World) (room more : Int) (hall : AllAt w) :
    Calls Tryd.prog 4 #[.int .i64 room, .int .i64 more] w fun e w' => e = .returned (.bool true) ∧ Below w.heap.size w w' := by
  have hsh := shown15_all _ hall
  obtain ⟨hr0, hr1⟩ := and63 room
  obtain ⟨hm0, hm1⟩ := and63 more
  clear hall
  go_enter Tryd.func4, Tryd.ntmps4
  go_wp2_with fail
  refine hsh.mono ?_
  clear hsh
  rintro e w1 ⟨rfl, hB1⟩
  go_wp2_with fail
  obtain ⟨rn, hrn⟩ : ∃ rn : Nat, 1 + bits BinOp.and IntKind.i64 room 63 = (rn : Int) := ⟨(1 + bits BinOp.and IntKind.i64 room 63).toNat, by omega⟩
  obtain ⟨mo, hmo⟩ : ∃ mo : Nat, bits BinOp.and IntKind.i64 more 63 = (mo : Int) := ⟨(bits BinOp.and IntKind.i64 more 63).toNat, by omega⟩
  rw [hrn, hmo]
  have h1 : 1 ≤ rn := by omega
  have h2 : rn ≤ 64 := by omega
  have h3 : mo < 64 := by omega
  clear hr0 hr1 hm0 hm1 hrn hmo
  refine (new_V (fun k => w1.heap.size ≤ k) w1 w1 (rn : Int) 4611686018427387904 (Frm.refl _ _) (fun _ h => h)).mono ?_
  rintro e w2 ⟨b, rfl, F⟩
  rw [show roomOf (rn : Int) = (rn : Int) by unfold roomOf; omega] at F
  have hB : ∀ {W es}, FB (fun k => w1.heap.size ≤ k) w1 W b (rn : Int) 4611686018427387904 es → Below w.heap.size w W := fun F => hB1.trans (F.below.mono hB1.size)
  go_wp2_with fail
  go_loopw [8] (fun ti wr => ∃ i : Nat, i ≤ rn + mo ∧ ti = .int .i64 (i : Int) ∧ FB (fun k => w1.heap.size ≤ k) w1 wr b (rn : Int) 4611686018427387904 (lastE rn i)) (fun ti _ => rn + mo - (intOf ti).toNat)
  case atStart => exact ⟨0, Nat.zero_le _, rfl, F⟩
  case round =>
    clear F
    obtain ⟨i, hi, rfl, F⟩ := hrel
    by_cases hlt : i < rn + mo
    · have hlt' : (i : Int) < (rn : Int) + (mo : Int) := by omega
      have hu : u64ok (i : Int) := by unfold u64ok; omega
      have hL := learn_V F (macI i) (macI_ok (by omega)) ⟨false, i⟩ i hu
      clear F
      go_wp2_with fail
      rw [show (i : Int) / 256 = 0 by omega]
      refine hL.mono ?_
      clear hL
      rintro e w3 ⟨moved, code, es', rfl, hV, F⟩
      obtain ⟨rfl, rfl, rfl⟩ := learn_last h1 hV
      clear hV
      go_wp2_with fail
      go_roundw
      case rel => exact ⟨i + 1, by omega, by go_num, F⟩
      case measure => simp [intOf]; omega
    · obtain rfl : i = rn + mo := by omega
      rw [show ((rn + mo : Nat) : Int) = (rn : Int) + (mo : Int) from by omega]
      go_wp2_with fail
      go_loopw [11] (fun ti wr => ∃ i : Nat, i ≤ rn + mo ∧ ti = .int .i64 (i : Int) ∧ FB (fun k => w1.heap.size ≤ k) w1 wr b (rn : Int) 4611686018427387904 (lastE rn (rn + mo))) (fun ti _ => rn + mo - (intOf ti).toNat)
      case atStart => exact ⟨0, Nat.zero_le _, rfl, F⟩
      case round =>
        clear F
        obtain ⟨i, hi, rfl, F⟩ := hrel
        by_cases hlt : i < rn + mo
        · have hlt' : (i : Int) < (rn : Int) + (mo : Int) := by omega
          have hu : u64ok ((rn : Int) + (mo : Int)) := by unfold u64ok; omega
          have hf := find_V F (macI i) (macI_ok (by omega)) ((rn : Int) + (mo : Int)) hu
          rw [find_last hlt, Nat.min_eq_right (by omega), Nat.add_sub_cancel_left] at hf
          have hold : oldB 4611686018427387904 ((rn : Int) + (mo : Int)) (entI i) = false := by
            unfold oldB
            rw [show (entI i).at_ = (i : Int) from rfl]
            simp
            omega
          by_cases hge : mo ≤ i
          · rw [if_pos hge, show seenV 4611686018427387904 ((rn : Int) + (mo : Int)) (some (entI i)) = some ⟨false, i⟩ by unfold seenV; simp [hold]] at hf
            have hge' : decide ((mo : Int) ≤ (i : Int)) = true := decide_eq_true (by omega)
            have hge2 : decide (mo ≤ i) = true := decide_eq_true hge
            have hpe := fun W => place_neq ⟨false, i⟩ ⟨false, i⟩ W
            rw [show decide ((⟨false, (i : Int)⟩ : Place) ≠ ⟨false, i⟩) = false by simp] at hpe
            have hpg := placeGuard
            clear hold F
            go_wp2_with fail
            rw [show (i : Int) / 256 = 0 by omega]
            refine hf.mono ?_
            clear hf
            rintro e w3 ⟨rfl, F⟩
            have F' := F.alloc (.cells #[.bool false, .int .i64 i] 34)
            clear F
            go_wp2_with fail
            go_roundw
            case rel => exact ⟨i + 1, by omega, by go_num, F'⟩
            case measure => simp [intOf]; omega
          · rw [if_neg hge, show seenV 4611686018427387904 ((rn : Int) + (mo : Int)) none = none from rfl] at hf
            have hge' : decide ((mo : Int) ≤ (i : Int)) = false := decide_eq_false (by omega)
            have hge2 : decide (mo ≤ i) = false := decide_eq_false hge
            clear hold F
            go_wp2_with fail
            rw [show (i : Int) / 256 = 0 by omega]
            refine hf.mono ?_
            clear hf
            rintro e w3 ⟨rfl, F⟩
            have F' := F.alloc (.cells #[.bool false, .int .i64 0] 34)
            clear F
            go_wp2_with fail
            go_roundw
            case rel => exact ⟨i + 1, by omega, by go_num, F'⟩
            case measure => simp [intOf]; omega
        · go_wp2_with fail
          refine (list_V F).mono ?_
          rintro e w3 ⟨v, es', rfl, hp, -, hE, F3⟩
          have hlen : es'.length = rn := by rw [hp.length_eq, lastE_len]; omega
          obtain ⟨a, c, rfl⟩ : ∃ a c, v = .slice a rn c := by
            rcases hE.2 with ⟨rfl, h0⟩ | ⟨g, cap, cur, rfl, _⟩
            · exact ⟨_, _, by rw [← hlen, h0]⟩
            · exact ⟨_, _, by rw [hlen]⟩
          have HB := Lib.hid (hB F3)
          clear hp hE F3 F hB hlen
          go_wp2_with fail
          go_ret
          exact ⟨rfl, HB.out⟩
end V
end Go.Proofs.YtmddhglhfgomiaaDoor
