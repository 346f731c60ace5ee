/- MACs compared (for a seat that has no Static). Conditions: none. -/
import Derived.Test.YtmddhglhfgomiaaDrop
import Derived.Stop.BytesEq
namespace Go.Proofs.Ytmddhglhfgomiaa
open Go Go.RowKit Go.Maps

abbrev macBs (m : Mac) : List UInt8 := [m.a.toNat.toUInt8, m.b.toNat.toUInt8, m.c.toNat.toUInt8, m.d.toNat.toUInt8, m.e.toNat.toUInt8, m.f.toNat.toUInt8]
theorem u8_cell {x : Int} (h : u8ok x) : Value.int .u8 x = Extern.Stop.cell x.toNat.toUInt8 := by
  obtain ⟨h1, h2⟩ := h
  obtain ⟨n, rfl⟩ := Int.eq_ofNat_of_zero_le h1
  unfold Extern.Stop.cell
  rw [Int.toNat_natCast, Nat.toUInt8, UInt8.toNat_ofNat', Nat.mod_eq_of_lt (by omega)]
  rfl
theorem macV_bs {m : Mac} (h : m.ok) : macV m = .agg ((macBs m).map Extern.Stop.cell).toArray := by
  unfold macV
  rw [u8_cell h.a, u8_cell h.b, u8_cell h.c, u8_cell h.d, u8_cell h.e, u8_cell h.f]
  rfl
theorem macBs_eq {p q : Mac} (hp : p.ok) (hq : q.ok) : (macBs p == macBs q) = decide (p = q) := by
  rw [Bool.eq_iff_iff, beq_iff_eq, decide_eq_true_iff]
  constructor
  · intro h
    simp only [List.cons.injEq, and_true] at h
    obtain ⟨h1, h2, h3, h4, h5, h6⟩ := h
    have e1 := (u8_lt hp.a hq.a).2.1 h1
    have e2 := (u8_lt hp.b hq.b).2.1 h2
    have e3 := (u8_lt hp.c hq.c).2.1 h3
    have e4 := (u8_lt hp.d hq.d).2.1 h4
    have e5 := (u8_lt hp.e hq.e).2.1 h5
    have e6 := (u8_lt hp.f hq.f).2.1 h6
    cases p; cases q
    simp only at e1 e2 e3 e4 e5 e6
    subst e1 e2 e3 e4 e5 e6
    rfl
  · intro h
    rw [h]
theorem macGuard : Try.prog.eqGuardType Try.prog.depth 25 = false := by kernel_rfl
theorem mac_eql {p q : Mac} (hp : p.ok) (hq : q.ok) (w : World) : (binOp .eql 25 (macV p) (macV q)).run Try.prog w = .ok (.bool (decide (p = q))) w := by
  rw [macV_bs hp, macV_bs hq, run_eql_bytes w 25 5 6 macArr.hu u8Int (fun w => by kernel_rfl) (macBs p) (macBs q) rfl rfl, macBs_eq hp hq]
end Go.Proofs.Ytmddhglhfgomiaa
