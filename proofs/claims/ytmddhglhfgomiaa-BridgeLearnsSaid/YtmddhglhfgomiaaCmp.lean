/- fdb: bytes.Compare of two MACs, cmp.Compare, cmp.Or, compare. Conditions: none. -/
import Derived.Test.YtmddhglhfgomiaaDel
import Derived.Lib.BytesEntry
import Derived.Laws.Externs
namespace Go.Proofs.Ytmddhglhfgomiaa
open Go Go.RowKit Go.Maps

def cmpI (x y : Int) : Int := if x < y then -1 else if y < x then 1 else 0
/-- -1, 0 or 1: which of two MACs is less, by bytes. -/
def macCmp (x y : Mac) : Int :=
  if x.a ≠ y.a then (if x.a < y.a then -1 else 1) else if x.b ≠ y.b then (if x.b < y.b then -1 else 1) else if x.c ≠ y.c then (if x.c < y.c then -1 else 1) else
  if x.d ≠ y.d then (if x.d < y.d then -1 else 1) else if x.e ≠ y.e then (if x.e < y.e then -1 else 1) else if x.f ≠ y.f then (if x.f < y.f then -1 else 1) else 0
def entCmp (x y : Ent) : Int := if cmpI x.at_ y.at_ ≠ 0 then cmpI x.at_ y.at_ else macCmp x.mac y.mac

theorem macCmp_lt (x y : Mac) : macCmp x y < 0 ↔ macLt x y := by
  unfold macCmp macLt
  repeat (split; · split <;> omega)
  omega
theorem macCmp_zero {x y : Mac} (h : macCmp x y = 0) : x = y := by
  unfold macCmp at h
  have e : x.a = y.a ∧ x.b = y.b ∧ x.c = y.c ∧ x.d = y.d ∧ x.e = y.e ∧ x.f = y.f := by
    revert h
    repeat (split; · split <;> omega)
    intro _
    omega
  cases x; cases y
  simp at e
  simp [e]
theorem cmpI_eq (x y : Int) : (cmpI x y < 0 ↔ x < y) ∧ (cmpI x y = 0 ↔ x = y) := by
  unfold cmpI
  split
  · constructor <;> omega
  · split <;> constructor <;> omega
theorem entCmp_lt (x y : Ent) : entCmp x y < 0 ↔ entLt x y := by
  unfold entCmp entLt
  have h1 := (cmpI_eq x.at_ y.at_).1
  have h2 := (cmpI_eq x.at_ y.at_).2
  have h3 := macCmp_lt x.mac y.mac
  split
  · rename_i h
    rw [h1]
    have h4 : x.at_ ≠ y.at_ := fun e => h (h2.2 e)
    constructor
    · exact .inl
    · rintro (h | ⟨h, _⟩)
      · exact h
      · exact absurd h h4
  · rename_i h
    have h4 : x.at_ = y.at_ := h2.1 (by omega)
    rw [h3]
    constructor
    · intro h; exact .inr ⟨h4, h⟩
    · rintro (h | ⟨_, h⟩)
      · omega
      · exact h

theorem entLt_trans {x y z : Ent} (h : entLt x y) (k : entLt y z) : entLt x z := by
  unfold entLt macLt at *
  omega
theorem entLt_total {x y : Ent} (h : ¬ entLt x y) (hne : x.mac ≠ y.mac) : entLt y x := by
  have hm : ¬ (x.mac.a = y.mac.a ∧ x.mac.b = y.mac.b ∧ x.mac.c = y.mac.c ∧ x.mac.d = y.mac.d ∧ x.mac.e = y.mac.e ∧ x.mac.f = y.mac.f) := fun e => by
    apply hne
    cases hx : x.mac; cases hy : y.mac
    rw [hx, hy] at e
    simp at e
    simp [e]
  unfold entLt macLt at *
  omega

/-! ### The entry internal/bytealg.Compare -/

abbrev macL (m : Mac) : List Int := [m.a, m.b, m.c, m.d, m.e, m.f]

theorem u8_lt {x y : Int} (hx : u8ok x) (hy : u8ok y) : (x.toNat.toUInt8 < y.toNat.toUInt8 ↔ x < y) ∧ (x.toNat.toUInt8 = y.toNat.toUInt8 ↔ x = y) := by
  obtain ⟨h1, h2⟩ := hx
  obtain ⟨h3, h4⟩ := hy
  obtain ⟨n, rfl⟩ := Int.eq_ofNat_of_zero_le h1
  obtain ⟨m, rfl⟩ := Int.eq_ofNat_of_zero_le h3
  have e1 : n.toUInt8.toNat = n := by rw [Nat.toUInt8, UInt8.toNat_ofNat']; omega
  have e2 : m.toUInt8.toNat = m := by rw [Nat.toUInt8, UInt8.toNat_ofNat']; omega
  constructor
  · rw [UInt8.lt_iff_toNat_lt, Int.toNat_natCast, Int.toNat_natCast, e1, e2]
    omega
  · rw [← UInt8.toNat_inj, Int.toNat_natCast, Int.toNat_natCast, e1, e2]
    omega

theorem cmp6 {m k : Mac} (hm : m.ok) (hk : k.ok) : Extern.BytealgCompare.cmp ⟨(Lib.bytesOf (macL m)).toArray⟩ ⟨(Lib.bytesOf (macL k)).toArray⟩ = macCmp m k := by
  have ha := u8_lt hm.a hk.a
  have hb := u8_lt hm.b hk.b
  have hc := u8_lt hm.c hk.c
  have hd := u8_lt hm.d hk.d
  have he := u8_lt hm.e hk.e
  have hf := u8_lt hm.f hk.f
  show Extern.BytealgCompare.cmp ⟨#[m.a.toNat.toUInt8, m.b.toNat.toUInt8, m.c.toNat.toUInt8, m.d.toNat.toUInt8, m.e.toNat.toUInt8, m.f.toNat.toUInt8]⟩ ⟨#[k.a.toNat.toUInt8, k.b.toNat.toUInt8, k.c.toNat.toUInt8, k.d.toNat.toUInt8, k.e.toNat.toUInt8, k.f.toNat.toUInt8]⟩ = _
  unfold macCmp
  generalize m.a.toNat.toUInt8 = xa at *
  generalize m.b.toNat.toUInt8 = xb at *
  generalize m.c.toNat.toUInt8 = xc at *
  generalize m.d.toNat.toUInt8 = xd at *
  generalize m.e.toNat.toUInt8 = xe at *
  generalize m.f.toNat.toUInt8 = xf at *
  generalize k.a.toNat.toUInt8 = ya at *
  generalize k.b.toNat.toUInt8 = yb at *
  generalize k.c.toNat.toUInt8 = yc at *
  generalize k.d.toNat.toUInt8 = yd at *
  generalize k.e.toNat.toUInt8 = ye at *
  generalize k.f.toNat.toUInt8 = yf at *
  have hr : (List.range (min (⟨#[xa, xb, xc, xd, xe, xf]⟩ : ByteArray).size (⟨#[ya, yb, yc, yd, ye, yf]⟩ : ByteArray).size)) = [0, 1, 2, 3, 4, 5] := rfl
  unfold Extern.BytealgCompare.cmp
  rw [hr]
  have g0 : (⟨#[xa, xb, xc, xd, xe, xf]⟩ : ByteArray)[0]! = xa := rfl
  have g1 : (⟨#[xa, xb, xc, xd, xe, xf]⟩ : ByteArray)[1]! = xb := rfl
  have g2 : (⟨#[xa, xb, xc, xd, xe, xf]⟩ : ByteArray)[2]! = xc := rfl
  have g3 : (⟨#[xa, xb, xc, xd, xe, xf]⟩ : ByteArray)[3]! = xd := rfl
  have g4 : (⟨#[xa, xb, xc, xd, xe, xf]⟩ : ByteArray)[4]! = xe := rfl
  have g5 : (⟨#[xa, xb, xc, xd, xe, xf]⟩ : ByteArray)[5]! = xf := rfl
  have k0 : (⟨#[ya, yb, yc, yd, ye, yf]⟩ : ByteArray)[0]! = ya := rfl
  have k1 : (⟨#[ya, yb, yc, yd, ye, yf]⟩ : ByteArray)[1]! = yb := rfl
  have k2 : (⟨#[ya, yb, yc, yd, ye, yf]⟩ : ByteArray)[2]! = yc := rfl
  have k3 : (⟨#[ya, yb, yc, yd, ye, yf]⟩ : ByteArray)[3]! = yd := rfl
  have k4 : (⟨#[ya, yb, yc, yd, ye, yf]⟩ : ByteArray)[4]! = ye := rfl
  have k5 : (⟨#[ya, yb, yc, yd, ye, yf]⟩ : ByteArray)[5]! = yf := rfl
  have key : ∀ (x y : UInt8) (a b : Int), (x < y ↔ a < b) ∧ (x = y ↔ a = b) → (x != y) = decide (a ≠ b) ∧ (decide (x < y)) = decide (a < b) := fun x y a b h => by
    constructor
    · rw [Bool.eq_iff_iff, bne_iff_ne, decide_eq_true_iff]
      exact not_congr h.2
    · rw [Bool.eq_iff_iff, decide_eq_true_iff, decide_eq_true_iff]
      exact h.1
  have pa := key _ _ _ _ ha
  have pb := key _ _ _ _ hb
  have pc := key _ _ _ _ hc
  have pd := key _ _ _ _ hd
  have pe := key _ _ _ _ he
  have pf := key _ _ _ _ hf
  simp only [List.find?_cons, List.find?_nil, g0, g1, g2, g3, g4, g5, k0, k1, k2, k3, k4, k5, pa.1, pb.1, pc.1, pd.1, pe.1, pf.1]
  have qa := ha.1
  have qb := hb.1
  have qc := hc.1
  have qd := hd.1
  have qe := he.1
  have qf := hf.1
  clear hr key pa pb pc pd pe pf ha hb hc hd he hf hm hk
  by_cases c1 : m.a = k.a <;> by_cases c2 : m.b = k.b <;> by_cases c3 : m.c = k.c <;> by_cases c4 : m.d = k.d <;> by_cases c5 : m.e = k.e <;> by_cases c6 : m.f = k.f <;> simp only [c1, c2, c3, c4, c5, c6, ne_eq, not_true_eq_false, not_false_eq_true, decide_true, decide_false, if_true, if_false, g0, g1, g2, g3, g4, g5, k0, k1, k2, k3, k4, k5, qa, qb, qc, qd, qe, qf] <;> rfl

theorem mac_lits {w : World} {b : Nat} {e : Ent} (hr : Row w b 85 (entCells e)) (i : Nat) (h : i < 6) : w.cell? ⟨b, 0 + i, none⟩ = some (.int .u8 ((macL e.mac).getD i 0)) := by
  rw [Nat.zero_add, hr.cell]
  match i, h with
  | 0, _ => rfl
  | 1, _ => rfl
  | 2, _ => rfl
  | 3, _ => rfl
  | 4, _ => rfl
  | 5, _ => rfl

theorem run_bcmp {P : Program} (w : World) (b off c b' off' c' : Nat) (xs ys : List Int) (n n' : Nat) (hx : xs.length = n) (hy : ys.length = n')
    (h1 : ∀ i, i < n → w.cell? ⟨b, off + i, none⟩ = some (.int .u8 (xs.getD i 0))) (h2 : ∀ i, i < n' → w.cell? ⟨b', off' + i, none⟩ = some (.int .u8 (ys.getD i 0))) :
    (Extern.BytealgCompare.compare #[.slice (some ⟨b, off, none⟩) n c, .slice (some ⟨b', off', none⟩) n' c']).run P w = .ok (.int .i64 (Extern.BytealgCompare.cmp ⟨(Lib.bytesOf xs).toArray⟩ ⟨(Lib.bytesOf ys).toArray⟩)) w := by
  have key : ∀ (b off : Nat) (xs : List Int), (∀ i, i < xs.length → w.cell? ⟨b, off + i, none⟩ = some (.int .u8 (xs.getD i 0))) → (Extern.Bytes.loadBytes ⟨b, off, none⟩ xs.length .empty).run P w = .ok ⟨(Lib.bytesOf xs).toArray⟩ w := fun b off xs hc => by
    have hl := Lib.run_loadBytesX (P := P) w xs ⟨b, off, none⟩ .empty (fun j x hj => by
      have hjl : j < xs.length := (List.getElem?_eq_some_iff.1 hj).1
      have e : (⟨b, off, none⟩ : Addr).add j = ⟨b, off + j, none⟩ := by unfold Addr.add; split <;> simp_all
      rw [e, hc j (by omega), List.getD_eq_getElem?_getD, hj]
      rfl)
    have he : (⟨ByteArray.empty.data ++ (Lib.bytesOf xs).toArray⟩ : ByteArray) = ⟨(Lib.bytesOf xs).toArray⟩ := by
      apply ByteArray.ext
      show (#[] : Array UInt8) ++ (Lib.bytesOf xs).toArray = (Lib.bytesOf xs).toArray
      simp
    rw [he] at hl
    exact hl
  subst hx hy
  have k1 := key b off xs h1
  have k2 := key b' off' ys h2
  change Sem.run P (do
    let x ← Extern.Bytes.loadBytes ⟨b, off, none⟩ xs.length .empty
    let y ← Extern.Bytes.loadBytes ⟨b', off', none⟩ ys.length .empty
    pure (goInt (Extern.BytealgCompare.cmp x y))) w = _
  simp only [Sem.run_bind, k1, k2, Result.andThen, Sem.run_pure]
  rfl

theorem bcmp0_run (w : World) (b b' c c' : Nat) (e e' : Ent) (he : e.mac.ok) (he' : e'.mac.ok) (h : Row w b 85 (entCells e)) (h' : Row w b' 85 (entCells e')) :
    (callFunc 91 #[.slice (some ⟨b, 0, none⟩) 6 c, .slice (some ⟨b', 0, none⟩) 6 c']).run Try.prog w = .ok (.value (.int .i64 (macCmp e.mac e'.mac))) w := by
  rw [run_callFunc_extern Try.func91 (by kernel_rfl) (by kernel_rfl) (by kernel_rfl) (e := Extern.BytealgCompare.compare) (by kernel_rfl),
    run_bcmp w b 0 c b' 0 c' (macL e.mac) (macL e'.mac) 6 6 rfl rfl (mac_lits h) (mac_lits h'), cmp6 he he']
  rfl

set_option maxRecDepth 100000 in
set_option maxHeartbeats 400000 in
theorem bcmp_any (w : World) (b b' c c' : Nat) (e e' : Ent) (he : e.mac.ok) (he' : e'.mac.ok) (h : Row w b 85 (entCells e)) (h' : Row w b' 85 (entCells e')) :
    Calls Try.prog 88 #[.slice (some ⟨b, 0, none⟩) 6 c, .slice (some ⟨b', 0, none⟩) 6 c'] w fun en w' => en = .returned (.int .i64 (macCmp e.mac e'.mac)) ∧ w = w' := by
  have hd := bcmp0_run w b b' c c' e e' he he' h h'
  go_enter Try.func88, Try.ntmps88
  go_wp2_with fail
  go_ret
  exact ⟨rfl, rfl⟩

set_option maxRecDepth 100000 in
set_option maxHeartbeats 400000 in
theorem nan64_any (w : World) (x : Int) : Calls Try.prog 90 #[.int .u64 x] w fun e w' => e = .returned (.bool false) ∧ w = w' := by
  go_enter Try.func90, Try.ntmps90
  go_wp2_with fail
  go_ret
  exact ⟨rfl, rfl⟩

set_option maxRecDepth 100000 in
set_option maxHeartbeats 400000 in
theorem cmp64_any (w : World) (x y : Int) : Calls Try.prog 87 #[.int .u64 x, .int .u64 y] w fun e w' => e = .returned (.int .i64 (cmpI x y)) ∧ w = w' := by
  have hx := nan64_any w x
  have hy := nan64_any w y
  obtain ⟨r, hr⟩ : ∃ r, r = cmpI x y := ⟨_, rfl⟩
  rw [← hr]
  by_cases h1 : x < y
  · have HF := Lib.hid (show r = -1 by rw [hr, cmpI, if_pos h1])
    clear hr
    go_enter Try.func87, Try.ntmps87
    go_wp2_with fail
    refine hx.mono ?_
    rintro e w' ⟨rfl, rfl⟩
    go_wp2_with fail
    refine hy.mono ?_
    rintro e w' ⟨rfl, rfl⟩
    go_wp2_with fail
    go_ret
    rw [HF.out]
    exact ⟨rfl, rfl⟩
  · by_cases h2 : y < x
    · have HF := Lib.hid (show r = 1 by rw [hr, cmpI, if_neg h1, if_pos h2])
      clear hr
      go_enter Try.func87, Try.ntmps87
      go_wp2_with fail
      refine hx.mono ?_
      rintro e w' ⟨rfl, rfl⟩
      go_wp2_with fail
      refine hy.mono ?_
      rintro e w' ⟨rfl, rfl⟩
      go_wp2_with fail
      go_ret
      rw [HF.out]
      exact ⟨rfl, rfl⟩
    · have HF := Lib.hid (show r = 0 by rw [hr, cmpI, if_neg h1, if_neg h2])
      clear hr
      go_enter Try.func87, Try.ntmps87
      go_wp2_with fail
      refine hx.mono ?_
      rintro e w' ⟨rfl, rfl⟩
      go_wp2_with fail
      refine hy.mono ?_
      rintro e w' ⟨rfl, rfl⟩
      go_wp2_with fail
      go_ret
      rw [HF.out]
      exact ⟨rfl, rfl⟩

set_option maxRecDepth 100000 in
set_option maxHeartbeats 400000 in
theorem cmpOr_any (w : World) (b : Nat) (x y : Int) (h : Row w b 3 [.int .i64 x, .int .i64 y]) : Calls Try.prog 86 #[.slice (some ⟨b, 0, none⟩) 2 2] w fun e w' => e = .returned (.int .i64 (if x ≠ 0 then x else y)) ∧ w = w' := by
  have c0 := h.cell 0
  have c1 := h.cell 1
  simp at c0 c1
  clear h
  obtain ⟨r, hr⟩ : ∃ r, r = if x ≠ 0 then x else y := ⟨_, rfl⟩
  rw [← hr]
  by_cases h1 : x = 0
  · by_cases h2 : y = 0
    · have HF := Lib.hid (show r = 0 by rw [hr, if_neg (by simp [h1]), h2])
      clear hr
      subst h1 h2
      go_enter Try.func86, Try.ntmps86
      go_wp2_with fail
      refine wp_loop_rounds 3 ?_
      rw [rounds_succ]
      go_wp2_with fail
      rw [rounds_succ]
      go_wp2_with fail
      rw [rounds_succ]
      go_wp2_with fail
      go_ret
      rw [HF.out]
      exact ⟨rfl, rfl⟩
    · have HF := Lib.hid (show r = y by rw [hr, if_neg (by simp [h1])])
      clear hr
      subst h1
      go_enter Try.func86, Try.ntmps86
      go_wp2_with fail
      refine wp_loop_rounds 3 ?_
      rw [rounds_succ]
      go_wp2_with fail
      rw [rounds_succ]
      go_wp2_with fail
      go_ret
      rw [HF.out]
      exact ⟨rfl, rfl⟩
  · have HF := Lib.hid (show r = x by rw [hr, if_pos h1])
    clear hr
    go_enter Try.func86, Try.ntmps86
    go_wp2_with fail
    refine wp_loop_rounds 3 ?_
    simp only [rounds_succ]
    go_wp2_with fail
    go_ret
    rw [HF.out]
    exact ⟨rfl, rfl⟩
end Go.Proofs.Ytmddhglhfgomiaa
