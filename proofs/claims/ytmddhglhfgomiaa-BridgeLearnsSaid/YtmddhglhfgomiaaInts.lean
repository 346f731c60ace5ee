/- Rows of numbers: what one is in memory; Clone, Contains, Insert at a place. Conditions: none. -/
import Derived.Test.YtmddhglhfgomiaaHeap
import Derived.Test.YtmddhglhfgomiaaShelf
namespace Go.Proofs.Ytmddhglhfgomiaa
open Go Go.RowKit

/-- Value v is a slice of these numbers, whose row it owns from the row's head on. -/
def IntSl (w : World) (v : Value) (zs : List Int) : Prop := w.ownsRow 0 3 1 v zs.length (zs.map (.int .i64))

section
variable {w w' : World} {v : Value} {zs : List Int}
theorem IntSl.nil (w : World) : IntSl w (.slice none 0 0) [] := ⟨rfl, .inl ⟨rfl, rfl⟩⟩
theorem IntSl.cases (h : IntSl w v zs) : (v = .slice none 0 0 ∧ zs = []) ∨
    ∃ g cap cs, v = .slice (some ⟨g, 0, none⟩) zs.length cap ∧ Row w g 3 cs ∧ zs.length ≤ cap ∧ cap ≤ maxLen ∧ cs.length = cap ∧ cs.take zs.length = zs.map (.int .i64) := by
  obtain ⟨_, h⟩ := h
  rcases h with ⟨h1, h2⟩ | ⟨g, cap, cur, h1, _, h3, h4, h5, h6, h7⟩
  · exact .inl ⟨h1, List.eq_nil_of_length_eq_zero h2⟩
  · exact .inr ⟨g, cap, cur.toList, h1, by unfold Row; simpa using h3, h4, h5, by simpa using h6, by simpa using h7⟩
theorem IntSl.mk {g cap : Nat} {cs : List Value} (hr : Row w g 3 cs) (h1 : zs.length ≤ cap) (h2 : cap ≤ maxLen) (h3 : cs.length = cap) (h4 : cs.take zs.length = zs.map (.int .i64)) :
    IntSl w (.slice (some ⟨g, 0, none⟩) zs.length cap) zs :=
  ⟨by simp, .inr ⟨g, cap, cs.toArray, rfl, Nat.zero_le _, hr, h1, h2, by simpa using h3, by simpa using h4⟩⟩
theorem IntSl.frm {F : Nat → Prop} (h : IntSl w v zs) (f : Frm F w w') (hF : ∀ g, v.ownBlock = some g → ¬ F g) : IntSl w' v zs := by
  rcases h.cases with ⟨rfl, rfl⟩ | ⟨g, cap, cs, rfl, hr, h1, h2, h3, h4⟩
  · exact IntSl.nil _
  · exact IntSl.mk (hr.frm f (hF g rfl)) h1 h2 h3 h4
theorem IntSl.blk_lt (h : IntSl w v zs) {g : Nat} (hg : v.ownBlock = some g) : g < w.heap.size := by
  rcases h.cases with ⟨rfl, rfl⟩ | ⟨g', cap, cs, rfl, hr, _⟩
  · cases hg
  · cases hg
    exact hr.lt
theorem IntSl.of_owns {B : Nat} (h : w.ownsRow B 3 1 v zs.length (zs.map (.int .i64))) : IntSl w v zs ∧ ∀ g, v.ownBlock = some g → B ≤ g := by
  obtain ⟨h0, h⟩ := h
  rcases h with ⟨h1, h2⟩ | ⟨g, cap, cur, h1, hB, h3, h4, h5, h6, h7⟩
  · refine ⟨⟨h0, .inl ⟨h1, h2⟩⟩, fun g hg => ?_⟩
    subst h1
    cases hg
  · refine ⟨⟨h0, .inr ⟨g, cap, cur, h1, Nat.zero_le _, h3, h4, h5, h6, h7⟩⟩, fun g' hg => ?_⟩
    subst h1
    cases hg
    exact hB
theorem IntSl.len (h : IntSl w v zs) : ∃ a c, v = .slice a zs.length c := by
  rcases h.cases with ⟨rfl, rfl⟩ | ⟨g, cap, cs, rfl, _⟩
  · exact ⟨_, _, rfl⟩
  · exact ⟨_, _, rfl⟩

theorem cells_take {g : Nat} {cs : List Value} (hr : Row w g 3 cs) (h : cs.take zs.length = zs.map (.int .i64)) :
    ∀ j, j < zs.length → w.cell? ⟨g, 0 + j, none⟩ = some (.int .i64 (zs.getD j 0)) := by
  intro j hj
  rw [Nat.zero_add, hr.cell]
  have h1 : (cs.take zs.length)[j]? = cs[j]? := by rw [List.getElem?_take, if_pos hj]
  rw [← h1, h]
  simp [List.getElem?_eq_getElem hj]
end

theorem clone_any (w : World) (v : Value) (zs : List Int) (h : IntSl w v zs) (hl : zs.length ≤ 1073741824) :
    Calls Try.prog 38 #[v] w fun e w' => ∃ v', e = .returned v' ∧ IntSl w' v' zs ∧ (∀ g, v'.ownBlock = some g → w.heap.size ≤ g) ∧ Below w.heap.size w w' := by
  rcases h.cases with ⟨rfl, rfl⟩ | ⟨g, cap, cs, rfl, hr, h1, h2, h3, h4⟩
  · refine (Any.slices_Clone_int_nil Try.laysNm215 0 0 w).mono ?_
    rintro e w' ⟨rfl, rfl⟩
    exact ⟨_, rfl, IntSl.nil _, (fun g hg => by cases hg), Below.refl _ _⟩
  · refine (Any.slices_Clone_int Try.laysNm215 g 0 zs.length cap zs w (Nat.le_refl _) (by omega) (cells_take hr h4)).mono ?_
    rintro e w' ⟨v', rfl, ho, _, hb⟩
    rw [List.take_length] at ho
    have := IntSl.of_owns ho
    exact ⟨v', rfl, this.1, this.2, hb⟩

theorem contains_any (w : World) (v : Value) (zs : List Int) (x : Int) (h : IntSl w v zs) (hl : zs.length ≤ 1073741824) :
    Calls Try.prog 45 #[v, .int .i64 x] w fun e w' => e = .returned (.bool (zs.contains x)) ∧ w = w' := by
  rcases h.cases with ⟨rfl, rfl⟩ | ⟨g, cap, cs, rfl, hr, h1, h2, h3, h4⟩
  · refine (Any.slices_Contains_int_empty Try.lays107 none 0 x w).mono ?_
    rintro e w' ⟨rfl, rfl⟩
    exact ⟨by simp, rfl⟩
  · refine (Any.slices_Contains_int Try.lays107 g 0 zs.length cap zs x w (Nat.le_refl _) (by omega) (cells_take hr h4)).mono ?_
    rintro e w' ⟨rfl, rfl⟩
    exact ⟨by rw [List.take_length], rfl⟩

/-- How many are less. -/
def rank (zs : List Int) (n : Int) : Nat := zs.countP (· < n)
def insI (zs : List Int) (n : Int) : List Int := zs.take (rank zs n) ++ n :: zs.drop (rank zs n)
theorem rank_le (zs : List Int) (n : Int) : rank zs n ≤ zs.length := List.countP_le_length
theorem insI_length (zs : List Int) (n : Int) : (insI zs n).length = zs.length + 1 := by
  have := rank_le zs n
  simp [insI]
  omega

theorem bsearch_any (w : World) (v : Value) (zs : List Int) (x : Int) (h : IntSl w v zs) (hl : zs.length ≤ 1073741824) (hs : zs.Pairwise (· ≤ ·)) :
    Calls Try.prog 54 #[v, .int .i64 x] w fun e w' => e = .returned (.tuple #[.int .i64 (rank zs x), .bool (zs.contains x)]) ∧ ∃ q, w' = w.drewN q := by
  rcases h.cases with ⟨rfl, rfl⟩ | ⟨g, cap, cs, rfl, hr, h1, h2, h3, h4⟩
  · refine (Any.slices_BinarySearch_int_empty Try.laysNm225 none 0 x w).mono ?_
    rintro e w' ⟨rfl, rfl⟩
    exact ⟨by simp [rank], 0, rfl⟩
  · refine (Any.slices_BinarySearch_int Try.laysNm225 g 0 zs.length cap zs x w (Nat.le_refl _) (by omega) (cells_take hr h4) (by rwa [List.take_length])).mono ?_
    rintro e w' ⟨rfl, q, rfl⟩
    exact ⟨by rw [List.take_length]; rfl, q, rfl⟩

theorem set_take_drop (cs : List Value) (o : Nat) (v : Value) (r : List Value) (hl : o + (r.length + 1) ≤ cs.length) :
    (cs.set o v).take (o + 1) ++ r ++ (cs.set o v).drop (o + 1 + r.length) = cs.take o ++ v :: r ++ cs.drop (o + (r.length + 1)) := by
  have h1 : (cs.set o v).take (o + 1) = cs.take o ++ [v] := by
    rw [List.take_set, List.take_succ_eq_append_getElem (by omega), List.set_append_right _ _ (by simp; omega)]
    simp [Nat.min_eq_left (show o ≤ cs.length by omega)]
  have h2 : (cs.set o v).drop (o + 1 + r.length) = cs.drop (o + (r.length + 1)) := by
    rw [List.drop_set_of_lt (by omega), show o + 1 + r.length = o + (r.length + 1) by omega]
  rw [h1, h2]
  simp

theorem Row.setCells {b T : Nat} : ∀ (vs : List Value) (o : Nat) (cs : List Value) (w : World), Row w b T cs → o + vs.length ≤ cs.length → Row (w.setCells b o vs) b T (cs.take o ++ vs ++ cs.drop (o + vs.length))
  | [], o, cs, w, h, _ => by simpa [World.setCells] using h
  | v :: r, o, cs, w, h, hl => by
    simp only [List.length_cons] at hl
    have := Row.setCells r (o + 1) (cs.set o v) (w.setCell ⟨b, o, none⟩ v) (h.set o v) (by simp; omega)
    rw [set_take_drop cs o v r hl] at this
    rw [World.setCells]
    exact this

theorem Frm.setCells {F : Nat → Prop} {a : World} {b : Nat} (hF : b < a.heap.size → F b) : ∀ (vs : List Value) (o : Nat) (w : World), Frm F a w → Frm F a (w.setCells b o vs)
  | [], _, _, h => h
  | v :: r, o, _, h => Frm.setCells hF r (o + 1) _ (h.setCell v hF)

theorem grownCap_ge {w : World} {need old : Nat} {e : TypeId} (h : need < 9223372036854775808) : need ≤ grownCap w need old e ∧ grownCap w need old e ≤ maxLen := by
  have := Nat.mod_lt (w.tape w.drawn (.appendCap need old e)) (show 0 < 2 ^ 63 - need by omega)
  show need ≤ need + w.tape w.drawn (.appendCap need old e) % (2 ^ 63 - need) ∧ need + w.tape w.drawn (.appendCap need old e) % (2 ^ 63 - need) ≤ maxLen
  unfold maxLen
  omega

theorem Row.shape {w : World} {b T : Nat} {cs : List Value} (h : Row w b T cs) : w.shape? b = some (T, cs.length) := by
  unfold Row at h
  simp [World.shape?, h]

theorem shift_list (cs D R : List Value) (v : Value) (i n : Nat) (hi : i + 1 ≤ cs.length) (hin : i ≤ n) (hD : D.length = n - i) :
    ((cs.take (i + 1) ++ D ++ R).take i ++ [v] ++ (cs.take (i + 1) ++ D ++ R).drop (i + 1)).take (n + 1) = cs.take i ++ v :: D := by
  have h0 : (cs.take (i + 1)).length = i + 1 := by simp; omega
  have h1 : (cs.take (i + 1) ++ D ++ R).take i = cs.take i := by
    rw [List.append_assoc, List.take_append_of_le_length (by omega), List.take_take, Nat.min_eq_left (by omega)]
  have h2 : (cs.take (i + 1) ++ D ++ R).drop (i + 1) = D ++ R := by
    rw [List.append_assoc, List.drop_append_of_le_length (by omega), List.drop_of_length_le (by omega), List.nil_append]
  rw [h1, h2]
  have h3 : cs.take i ++ [v] ++ (D ++ R) = (cs.take i ++ v :: D) ++ R := by simp
  rw [h3, List.take_append_of_le_length (by simp; omega), List.take_of_length_le (by simp; omega)]

theorem Row.newA (w : World) (T : Nat) (A : Array Value) : Row (w.alloc (.cells A T)) w.heap.size T A.toList := by
  have := Row.new w T A.toList
  simpa using this

theorem ins_end_grow (base : Option Addr) (n c vb : Nat) (cs : List Value) (x : Value) (w : World) (hnc : n ≤ c) (hroom : c < n + 1) (hbig : (n + 1) * 8 ≤ 140737488355328)
    (hcl : cs.length = n) (hnil : base = none → n = 0) (hcs : ∀ a, base = some a → ∀ j v, cs[j]? = some v → w.cell? (a.add j) = some v)
    (hvs : ∀ (j : Nat) (v : Value), [x][j]? = some v → w.cell? ⟨vb, 0 + j, none⟩ = some v) (h1v : x.oneCell' = true) :
    Calls Try.prog 55 #[.slice base n c, .int .i64 n, .slice (some ⟨vb, 0, none⟩) 1 1] w fun e w' =>
      ∃ G, n + 1 ≤ G ∧ G ≤ maxLen ∧ e = .returned (.slice (some ⟨w.heap.size, 0, none⟩) (n + 1) G) ∧
      w' = w.drew.alloc (.cells ((cs ++ [x]).toArray ++ Builtin.zeroCells (Value.int .i64 0).cells (G - (n + 1))) 3) :=
  (Any2.slices_Insert_int_end_grow Try.laysNm221 base n c vb 0 1 1 cs [x] w (by omega) hnc hroom hbig hcl rfl hnil hcs hvs (by simpa using h1v)).mono
    fun _ _ h => ⟨_, (grownCap_ge (by omega)).1, (grownCap_ge (by omega)).2, h⟩

theorem ins_grow (b n c i vb : Nat) (cs : List Value) (x : Value) (w : World) (hi : i < n) (hnc : n ≤ c) (hroom : c < n + 1) (hbig : (n + 1) * 8 ≤ 140737488355328)
    (hcl : cs.length = n) (hcs : ∀ (j : Nat) (v : Value), cs[j]? = some v → w.cell? ⟨b, 0 + j, none⟩ = some v)
    (hvs : ∀ (j : Nat) (v : Value), [x][j]? = some v → w.cell? ⟨vb, 0 + j, none⟩ = some v) (h1c : ∀ v ∈ cs, v.oneCell' = true) (h1v : x.oneCell' = true) :
    Calls Try.prog 55 #[.slice (some ⟨b, 0, none⟩) n c, .int .i64 i, .slice (some ⟨vb, 0, none⟩) 1 1] w fun e w' =>
      ∃ G, n + 1 ≤ G ∧ G ≤ maxLen ∧ e = .returned (.slice (some ⟨w.heap.size, 0, none⟩) (n + 1) G) ∧
      w' = (((w.alloc (.cells ((cs.take i).toArray ++ Builtin.zeroCells (Value.int .i64 0).cells (n + 1 - i) ++ Builtin.zeroCells (Value.int .i64 0).cells (G - (n + 1))) 3)).drew.setCells w.heap.size i [x]).drew).setCells w.heap.size (i + 1) (cs.drop i) :=
  (Any2.slices_Insert_int_grow Try.laysNm221 b 0 n c i vb 0 1 1 cs [x] w hi (by omega) hnc hroom hbig hcl rfl hcs hvs h1c (by simpa using h1v)).mono
    fun _ _ h => ⟨_, (grownCap_ge (by omega)).1, (grownCap_ge (by omega)).2, h⟩

theorem zeroCells_len (n : Nat) : (Builtin.zeroCells (Value.int .i64 0).cells n).size = n := by simp [Builtin.zeroCells, Value.cells]

theorem oneCells (zs : List Int) : ∀ v ∈ zs.map (Value.int .i64), v.oneCell' = true := ints_oneCell _ _

/-- One number put into a row of the call's own (or nil), the number lying in a new row of its own. -/
theorem insert_any (w : World) (v : Value) (zs : List Int) (n : Int) (nb : Nat) (h : IntSl w v zs) (hl : zs.length ≤ 1073741824) (i : Nat) (hi : i ≤ zs.length)
    (hn : Row w nb 3 [.int .i64 n]) (hne : v.ownBlock ≠ some nb) :
    Calls Try.prog 55 #[v, .int .i64 i, .slice (some ⟨nb, 0, none⟩) 1 1] w fun e w' =>
      ∃ v', e = .returned v' ∧ IntSl w' v' (zs.take i ++ n :: zs.drop i) ∧ (∀ g, v'.ownBlock = some g → v.ownBlock = some g ∨ w.heap.size ≤ g) ∧ Frm (fun k => v.ownBlock = some k) w w' := by
  have hnc : ∀ (j : Nat) (u : Value), [Value.int .i64 n][j]? = some u → w.cell? ⟨nb, 0 + j, none⟩ = some u := fun j u hj => by rw [Nat.zero_add, hn.cell]; exact hj
  have hlen : (zs.take i ++ n :: zs.drop i).length = zs.length + 1 := by simp; omega
  rcases h.cases with ⟨rfl, rfl⟩ | ⟨g, cap, cs, rfl, hr, h1, h2, h3, h4⟩
  · obtain rfl : i = 0 := by simpa using hi
    refine (ins_end_grow none 0 0 nb [] (.int .i64 n) w (by omega) (by omega) (by omega) rfl (fun _ => rfl) (fun _ h => by cases h) hnc (by simp [Value.oneCell'])).mono ?_
    rintro e w' ⟨G, hG1, hG2, rfl, rfl⟩
    refine ⟨_, rfl, ?_, (fun g' hg' => by cases hg'; exact .inr (Nat.le_refl _)), (by repeat (first | exact Frm.refl _ _ | assumption | refine Frm.drewN ?_ _ | refine Frm.drew ?_ | refine Frm.alloc ?_ _ | refine Frm.setCell ?_ _ (by simp)))⟩
    refine IntSl.mk (zs := [n]) (Row.newA w.drew 3 _) hG1 hG2 ?_ ?_
    · simp [zeroCells_len]
      omega
    · simp
  · have hcl : (zs.map (Value.int .i64)).length = zs.length := by simp
    have hce : ∀ (j : Nat) (u : Value), (zs.map (Value.int .i64))[j]? = some u → w.cell? ⟨g, 0 + j, none⟩ = some u := fun j u hj => by
      have hjl : j < zs.length := by
        have := (List.getElem?_eq_some_iff.1 hj).1
        simpa using this
      rw [Nat.zero_add, hr.cell, ← hj, ← h4, List.getElem?_take, if_pos hjl]
    have hgn : nb ≠ g := fun e => hne (by rw [e]; rfl)
    have hsome : ∀ j, j < cap → (w.cell? ⟨g, j, none⟩).isSome = true := fun j hj => by
      rw [hr.cell, List.getElem?_eq_getElem (by omega)]
      rfl
    have ht : zs.take i ++ n :: zs.drop i = zs.take i ++ [n] ++ zs.drop i := by simp
    have hm : (zs.take i ++ n :: zs.drop i).map (Value.int .i64) = (zs.map (Value.int .i64)).take i ++ .int .i64 n :: (zs.map (Value.int .i64)).drop i := by simp
    have hci : cs.take i = (zs.map (Value.int .i64)).take i := by rw [← h4, List.take_take, Nat.min_eq_left hi]
    by_cases hroom : zs.length + 1 ≤ cap
    · by_cases hlt : i < zs.length
      · refine (Any2.slices_Insert_int_shift Try.laysNm221 g 0 zs.length cap i nb 0 1 1 (zs.map (.int .i64)) [.int .i64 n] w hlt (by omega) hroom (by unfold maxLen at h2; omega) hgn hcl rfl hce (fun j hj => by rw [Nat.zero_add]; exact hsome j (by omega))
          (fun j _ => hr.free _) hnc (oneCells zs) (by simp [Value.oneCell']) _ _ _ _ hn.shape hr.shape (by rw [h3]; omega) (hn.free _) (hn.free _)).mono ?_
        rintro e w' ⟨rfl, rfl⟩
        refine ⟨_, rfl, ?_, fun g' hg' => .inl hg', Frm.setCells (F := fun k => (Value.slice (some ⟨g, 0, none⟩) zs.length cap).ownBlock = some k) (fun _ => rfl) _ _ _ (Frm.setCells (F := fun k => (Value.slice (some ⟨g, 0, none⟩) zs.length cap).ownBlock = some k) (fun _ => rfl) _ _ _ (Frm.refl _ _).drew)⟩
        have hr1 := Row.setCells ((zs.map (Value.int .i64)).drop i) (0 + (i + 1)) cs w.drew hr.drew (by simp; omega)
        have hr2 := Row.setCells [.int .i64 n] (0 + i) _ _ hr1 (by simp; omega)
        simp only [Nat.zero_add] at hr2 ⊢
        rw [← hlen]
        refine IntSl.mk hr2 (by rw [hlen]; exact hroom) h2 ?_ ?_
        · simp
          omega
        · rw [hlen, hm, ← hci]
          exact shift_list cs _ _ _ i zs.length (by omega) hi (by simp)
      · obtain rfl : i = zs.length := by omega
        refine (Any2.slices_Insert_int_end_room Try.laysNm221 g 0 zs.length cap nb 0 1 1 [.int .i64 n] w (by omega) hroom (by unfold maxLen at h2; omega) rfl (fun j hj => by rw [Nat.zero_add]; exact hsome _ (by omega))
          (fun j _ => hr.free _) hnc (by simp [Value.oneCell'])).mono ?_
        rintro e w' ⟨rfl, rfl⟩
        refine ⟨_, rfl, ?_, fun g' hg' => .inl hg', Frm.setCells (F := fun k => (Value.slice (some ⟨g, 0, none⟩) zs.length cap).ownBlock = some k) (fun _ => rfl) _ _ _ (Frm.refl _ _)⟩
        have hr1 := Row.setCells [.int .i64 n] (0 + zs.length) cs w hr (by simp; omega)
        simp only [Nat.zero_add] at hr1 ⊢
        rw [← hlen]
        refine IntSl.mk hr1 (by rw [hlen]; exact hroom) h2 ?_ ?_
        · simp
          omega
        · rw [hlen, hm, ← hci, List.append_assoc, List.take_append, List.take_of_length_le (by simp; omega)]
          simp [Nat.min_eq_left (show zs.length ≤ cs.length by omega)]
    · by_cases hlt : i < zs.length
      · refine (ins_grow g zs.length cap i nb (zs.map (.int .i64)) (.int .i64 n) w hlt h1 (by omega) (by omega) hcl hce hnc (oneCells zs) (by simp [Value.oneCell'])).mono ?_
        rintro e w' ⟨G, hG1, hG2, rfl, rfl⟩
        refine ⟨_, rfl, ?_, (fun g' hg' => by cases hg'; exact .inr (Nat.le_refl _)), Frm.setCells (fun h => absurd h (Nat.lt_irrefl _)) _ _ _ (Frm.setCells (fun h => absurd h (Nat.lt_irrefl _)) _ _ _ (by repeat (first | exact Frm.refl _ _ | assumption | refine Frm.drewN ?_ _ | refine Frm.drew ?_ | refine Frm.alloc ?_ _ | refine Frm.setCell ?_ _ (by simp)))).drew⟩
        obtain ⟨A, hA⟩ : ∃ A, A = ((zs.map (Value.int .i64)).take i).toArray ++ Builtin.zeroCells (Value.int .i64 0).cells (zs.length + 1 - i) ++ Builtin.zeroCells (Value.int .i64 0).cells (G - (zs.length + 1)) := ⟨_, rfl⟩
        rw [← hA]
        have hAl : A.toList.length = G := by
          rw [hA]
          simp [zeroCells_len]
          omega
        have hAi : A.toList.take i = (zs.map (Value.int .i64)).take i := by
          rw [hA]
          simp only [Array.toList_append, List.append_assoc]
          rw [List.take_append_of_le_length (by simp; omega), List.take_of_length_le (by simp; omega)]
        have hdl : ((zs.map (Value.int .i64)).drop i).length = zs.length - i := by simp
        have hr0 := (Row.newA w 3 A).drew
        have hr1 := (Row.setCells [.int .i64 n] i _ _ hr0 (by rw [hAl]; simp; omega)).drew
        have hl1 : (A.toList.take i ++ [Value.int .i64 n] ++ A.toList.drop (i + [Value.int .i64 n].length)).length = G := by
          simp only [List.length_append, List.length_take, List.length_drop, hAl, List.length_singleton]
          omega
        have hr2 := Row.setCells ((zs.map (Value.int .i64)).drop i) (i + 1) _ _ hr1 (by rw [hl1, hdl]; omega)
        rw [← hlen] at hG1 ⊢
        refine IntSl.mk hr2 hG1 hG2 ?_ ?_
        · simp only [List.length_append, List.length_take, List.length_drop, hl1, hdl]
          omega
        · rw [hm, hlen, ← hAi]
          have h5 : (A.toList.take i ++ [Value.int .i64 n] ++ A.toList.drop (i + [Value.int .i64 n].length)).take (i + 1) = A.toList.take i ++ [Value.int .i64 n] := by
            rw [List.take_append_of_le_length (by simp at hAl ⊢; omega), List.take_of_length_le (by simp; omega)]
          rw [h5, List.take_append_of_le_length (by simp at hAl ⊢; omega), List.take_of_length_le (by simp at hAl ⊢; omega)]
          simp
      · obtain rfl : i = zs.length := by omega
        refine (ins_end_grow (some ⟨g, 0, none⟩) zs.length cap nb (zs.map (.int .i64)) (.int .i64 n) w h1 (by omega) (by omega) hcl (fun h => by cases h)
          (fun a ha j u hj => by cases ha; rw [Addr.add_lit]; exact hce j u hj) hnc (by simp [Value.oneCell'])).mono ?_
        rintro e w' ⟨G, hG1, hG2, rfl, rfl⟩
        refine ⟨_, rfl, ?_, (fun g' hg' => by cases hg'; exact .inr (Nat.le_refl _)), (by repeat (first | exact Frm.refl _ _ | assumption | refine Frm.drewN ?_ _ | refine Frm.drew ?_ | refine Frm.alloc ?_ _ | refine Frm.setCell ?_ _ (by simp)))⟩
        rw [← hlen] at hG1 ⊢
        refine IntSl.mk (Row.newA w.drew 3 _) hG1 hG2 ?_ ?_
        · simp [zeroCells_len] at hG1 ⊢
          omega
        · rw [hm, hlen]
          generalize Builtin.zeroCells (Value.int .i64 0).cells (G - (zs.length + 1)) = Z
          have h5 : ((zs.map (Value.int .i64)) ++ [Value.int .i64 n]).length = zs.length + 1 := by simp
          have h6 : (((zs.map (Value.int .i64)) ++ [Value.int .i64 n]).toArray ++ Z).toList = ((zs.map (Value.int .i64)) ++ [Value.int .i64 n]) ++ Z.toList := by simp
          rw [h6, List.take_append_of_le_length (by omega), List.take_of_length_le (by omega), List.take_of_length_le (by simp), List.drop_of_length_le (by simp)]

end Go.Proofs.Ytmddhglhfgomiaa
