/- law 16, BridgeMoves: the plain part. Conditions: none. -/
import Derived.Test.YtmddhglhfgomiaaDoorShown
import Derived.Laws.BitsLemmas
namespace Go.Proofs.YtmddhglhfgomiaaDoor
open Go Go.RowKit Go.Maps

theorem and16 (x : Int) : 0 ≤ bits .and .i64 x 65535 ∧ bits .and .i64 x 65535 < 65536 := by
  have h : (BitVec.ofInt 64 x &&& BitVec.ofInt 64 65535).toNat ≤ 65535 := by
    rw [BitVec.toNat_and]
    exact Nat.le_trans Nat.and_le_right (by decide)
  show 0 ≤ IntKind.i64.wrap (((BitVec.ofInt 64 x &&& BitVec.ofInt 64 65535).toNat : Nat) : Int) ∧ IntKind.i64.wrap (((BitVec.ofInt 64 x &&& BitVec.ofInt 64 65535).toNat : Nat) : Int) < 65536
  generalize (BitVec.ofInt 64 x &&& BitVec.ofInt 64 65535).toNat = n at h ⊢
  rw [IntKind.wrap_i64]
  omega
theorem andNot1 (x : Int) (h : u8ok x) : bits .andNot .u8 x 1 = x - x % 2 := by
  obtain ⟨h0, h1⟩ := h
  have key : ∀ n : Fin 256, bits .andNot .u8 (n.val : Int) 1 = (n.val : Int) - (n.val : Int) % 2 := by decide +kernel
  have := key ⟨x.toNat, by omega⟩
  simpa [Int.toNat_of_nonneg h0] using this
theorem xor1 (x : Int) (h : u8ok x) : bits .xor .u8 x 1 = x + 1 - 2 * (x % 2) := by
  obtain ⟨h0, h1⟩ := h
  have key : ∀ n : Fin 256, bits .xor .u8 (n.val : Int) 1 = (n.val : Int) + 1 - 2 * ((n.val : Int) % 2) := by decide +kernel
  have := key ⟨x.toNat, by omega⟩
  simpa [Int.toNat_of_nonneg h0] using this

def ofM (m : Mac) : Mac := { m with a := bits .andNot .u8 m.a 1 }
def otM (m : Mac) : Mac := { m with a := bits .andNot .u8 m.a 1, f := bits .xor .u8 m.f 1 }

section
variable {m : Mac} (hm : m.ok)
include hm
theorem ofM_ok : (ofM m).ok := ⟨by show u8ok (bits .andNot .u8 m.a 1); rw [andNot1 _ hm.a]; have := hm.a; unfold u8ok at *; omega, hm.b, hm.c, hm.d, hm.e, hm.f⟩
theorem otM_ok : (otM m).ok := ⟨(ofM_ok hm).a, hm.b, hm.c, hm.d, hm.e, by show u8ok (bits .xor .u8 m.f 1); rw [xor1 _ hm.f]; have := hm.f; unfold u8ok at *; omega⟩
theorem ofM_g : groupB (ofM m) = false := by
  show ((bits .andNot .u8 m.a 1) % 2 == 1) = false
  rw [andNot1 _ hm.a, beq_eq_false_iff_ne]
  omega
theorem otM_g : groupB (otM m) = false := ofM_g hm
theorem ofM_ne : otM m ≠ ofM m := by
  intro h
  have h1 : bits .xor .u8 m.f 1 = m.f := congrArg Mac.f h
  rw [xor1 _ hm.f] at h1
  omega
end

def up : Nat → List Int
  | 0 => []
  | k + 1 => up k ++ [(k : Int) + 1]
def bd (k : Nat) : List (Int × Int) := (up k).map fun x => (x, 0)

theorem up_facts {k : Nat} (h : k < 5) : insI (up k) ((k : Int) + 1) = up (k + 1) ∧ boundTo (bd k) ((k : Int) + 1) = none ∧ (up k).contains ((k : Int) + 1) = false ∧ (up k).length = k ∧ (up k).Pairwise (· ≤ ·) ∧ bd k ++ [((k : Int) + 1, 0)] = bd (k + 1) ∧ (bd k).length = k := by
  match k, h with
  | 0, _ => decide
  | 1, _ => decide
  | 2, _ => decide
  | 3, _ => decide
  | 4, _ => decide

theorem up5 {n : Int} (h1 : 1 ≤ n) (h2 : n ≤ 5) : boundTo (bd 5) n = some 0 ∧ (up 5).contains n = true := by
  obtain rfl | rfl | rfl | rfl | rfl : n = 1 ∨ n = 2 ∨ n = 3 ∨ n = 4 ∨ n = 5 := by omega
  all_goals decide

/-- What the law's base holds ahead of a round, and within it. -/
def EsOk (m : Mac) (es : List Ent) : Prop := es = [] ∨ ∃ p t t', es = [⟨ofM m, p, t, false⟩, ⟨otM m, ⟨false, 5⟩, t', false⟩]
def Es1 (m : Mac) (p : Place) (j : Int) (es : List Ent) : Prop := es = [⟨ofM m, p, j, false⟩] ∨ ∃ t', es = [⟨ofM m, p, j, false⟩, ⟨otM m, ⟨false, 5⟩, t', false⟩]

section
variable {m : Mac} (hm : m.ok) {es : List Ent} {p : Place} {j life room : Int}
include hm
theorem EsOk.step (h : EsOk m es) (hr : 2 ≤ room) : Es1 m p j (learnE es (ofM m) p j) ∧ (∀ e ∈ es, e.static = false) ∧ (findE es (ofM m) = none → (es.length : Int) < room) := by
  have hne := ofM_ne hm
  rcases h with rfl | ⟨p0, t, t', rfl⟩
  · exact ⟨.inl rfl, by simp, fun _ => by simp; omega⟩
  · refine ⟨.inr ⟨t', ?_⟩, by simp, fun h => ?_⟩
    · unfold learnE findE
      simp [hne]
    · unfold findE at h
      simp at h
theorem Es1.step (h : Es1 m p j es) (hr : 2 ≤ room) : learnE es (otM m) ⟨false, 5⟩ j = [⟨ofM m, p, j, false⟩, ⟨otM m, ⟨false, 5⟩, j, false⟩] ∧ (∀ e ∈ es, e.static = false) ∧ (findE es (otM m) = none → (es.length : Int) < room) := by
  have hne := ofM_ne hm
  have hne' : ofM m ≠ otM m := fun e => hne e.symm
  rcases h with rfl | ⟨t', rfl⟩
  · refine ⟨?_, by simp, fun _ => by simp; omega⟩
    unfold learnE findE
    simp [hne']
  · refine ⟨?_, by simp, fun h => ?_⟩
    · unfold learnE findE
      simp [hne']
    · unfold findE at h
      simp [hne'] at h
omit hm in
theorem Es1.seen (h : Es1 m p j es) (hl : 1 ≤ life) : seenV life j (findE es (ofM m)) = some p := by
  have ho : oldB life j ⟨ofM m, p, j, false⟩ = false := by
    unfold oldB
    simp
    omega
  rcases h with rfl | ⟨t', rfl⟩
  · unfold findE
    simp [seenV, ho]
  · unfold findE
    simp [seenV, ho]
theorem out_moves (hp : p.n ≤ 4) (hl : 1 ≤ life) (ps qs : List Int) : outE life j ⟨false, 5⟩ (ofM m) [⟨ofM m, p, j, false⟩, ⟨otM m, ⟨false, 5⟩, j, false⟩] ps qs = if p.tunnel then ⟨[], [p.n], false⟩ else ⟨[p.n], [], false⟩ := by
  unfold outE
  rw [Es1.seen (.inr ⟨j, rfl⟩) hl, ofM_g hm]
  have h : ¬ (p = ⟨false, 5⟩ ∨ (p.tunnel = true ∧ (⟨false, 5⟩ : Place).tunnel = true)) := by
    rintro (rfl | ⟨_, h⟩)
    · simp at hp
    · cases h
  simp only [if_neg h]
end

section
variable (w : World) (bb bm : Nat) (room life : Int) (bound : List (Int × Int)) (segs : List SegG)
/-- The base of the first segment, and who is found in it. -/
theorem find_v (now : Int) (mm : Mac) (hm : mm.ok) (hn : u64ok now) (B : BridgeRep w bb bm room life bound segs) {es : List Ent} {ps qs : List Int} (hV : (vw segs)[0]? = some ⟨es, ps, qs⟩) {q : Place} (hq : seenV life now (findE es mm) = some q) :
    ∃ b, ∀ W, Frm (fun _ => False) w W → (Calls Tryd.prog 11 #[ptr bb, .int .i64 0] W fun e w' => e = .returned (ptr b) ∧ W = w') ∧
      Calls Tryd.prog 17 #[ptr b, macV mm, .int .u64 now] W fun e w' => e = .returned (.tuple #[placeV q, .bool true]) ∧ Frm (fun _ => False) W w' := by
  obtain ⟨hi, hV⟩ := vseg_at segs hV
  have e1 : segs[0].gs.map (·.2) = es := congrArg VSeg.es hV
  refine ⟨segs[0].base, fun W f => ?_⟩
  have B' : BridgeRep W bb bm room life bound segs := B.frm f (fun _ _ h => h)
  refine ⟨bbase_in W bb bm room life bound segs 0 0 rfl hi B', ?_⟩
  refine (find_any W segs[0].base segs[0].mb room life now segs[0].gs mm hm hn (B'.srep _ (List.getElem_mem hi)).base).mono fun e w' h => ?_
  rw [seenV_eq, e1, hq] at h
  exact h
end
end Go.Proofs.YtmddhglhfgomiaaDoor
