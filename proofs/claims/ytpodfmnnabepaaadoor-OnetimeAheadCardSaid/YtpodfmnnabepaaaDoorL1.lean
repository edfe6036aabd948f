/- What the rows' proofs share: the listed table, a digest as an argument. -/
import Derived.Test.YtpodfmnnabepaaaDoorTie
import Derived.Test.YtpodfmnnabepaaaDoorW13
import Derived.OpenShut
import Derived.Handed
import Derived.Handy
import Derived.Lay
import Derived.LaidMore
import Derived.ProofKit
namespace Go.Proofs.YtpodfmnnabepaaaDoor
open Go Go.ChangeShapes Go.WideShapes Go.ChangeAt Go.RowKit
open Ot (Dg)
theorem own : ownKnob Tryd.prog.godebug = none := by kernel_rfl
theorem gTurns : Tryd.prog.globalNamed "seedcorn/digest.turns" = some 0 := by kernel_rfl
theorem tTurns : (Tryd.prog.globals[0]?).map (·.type) = some 106 := by kernel_rfl
theorem uTurns : Tryd.prog.underlying 106 = some (.array 4 3) := Tryd.underlying106
/-- The row's condition, as every row of this seat lists it. -/
def laidT : List (String × DataW Unit) := [("seedcorn/digest.turns", Rows.laid_seedcorn_digest_turns)]
set_option maxRecDepth 100000 in
theorem tn_of_laid {W : World} (h : laidMetH Tryd.prog laidT W) : Tn W := by
  rw [MakeChecks.laidMetH_plain _ _ _ (by kernel_rfl)] at h
  obtain ⟨ps, ⟨g0, t0, cs0, f0, p0, q0, hg0, ht0, hv0, hd0, _⟩, _, _⟩ := h
  obtain rfl := Option.some.inj (gTurns.symm.trans hg0)
  obtain rfl := Option.some.inj (tTurns.symm.trans ht0)
  obtain ⟨xs, m1, rfl, hx1, hlen, hn4, hel⟩ := DataW.trod_array uTurns hd0
  have c2 : Tryd.prog.cellsOf 3 = 1 := by kernel_rfl
  have c106 : Tryd.prog.cellsOf 106 = 4 := by kernel_rfl
  rw [c106] at hlen
  obtain ⟨l⟩ := cs0
  match l, hlen with
  | [v0, v1, v2, v3], _ =>
    match xs, hn4, hx1, hel with
    | [x0, x1, x2, x3], _, hx1, hel =>
      have e0 := hel 0 (by decide)
      have e1 := hel 1 (by decide)
      have e2 := hel 2 (by decide)
      have e3 := hel 3 (by decide)
      rw [c2] at e0 e1 e2 e3
      obtain ⟨n0, f0, g0, _⟩ := DataW.trod_int Tryd.underlying3 (show DataW.trod _ Tryd.prog W 0 _ false m1 3 _ = some x0 from e0)
      obtain ⟨n1, f1, g1, _⟩ := DataW.trod_int Tryd.underlying3 (show DataW.trod _ Tryd.prog W 0 _ false m1 3 _ = some x1 from e1)
      obtain ⟨n2, f2, g2, _⟩ := DataW.trod_int Tryd.underlying3 (show DataW.trod _ Tryd.prog W 0 _ false m1 3 _ = some x2 from e2)
      obtain ⟨n3, f3, g3, _⟩ := DataW.trod_int Tryd.underlying3 (show DataW.trod _ Tryd.prog W 0 _ false m1 3 _ = some x3 from e3)
      simp only [Prod.mk.injEq, Rows.laid_seedcorn_digest_turns, DataW.agg.injEq, g0, g1, g2, g3, List.map_cons, List.map_nil, List.cons.injEq, DataW.lit.injEq, Lit.int.injEq, true_and, and_true] at hx1
      obtain ⟨⟨h0, h1, h2, h3⟩, _⟩ := hx1
      simp at f0 f1 f2 f3
      have k := World.var?_cell hg0 hv0
      refine ⟨⟨?_, ?_⟩, ?_, ?_⟩
      · rw [k 0]; simp [f0, ← h0]
      · rw [k 1]; simp [f1, ← h1]
      · rw [k 2]; simp [f2, ← h2]
      · rw [k 3]; simp [f3, ← h3]
def dgData {H : Type} (x : Dg) : DataW H := .agg [.lit (.int .u32 x.a.toNat), .lit (.int .u32 x.b.toNat), .lit (.int .u32 x.c.toNat), .lit (.int .u32 x.d.toNat)]
theorem u32_of_wf {n : Int} (h : (Lit.int .u32 n).wf = true) : ∃ u : UInt32, n = (u.toNat : Int) := by
  have hx : 0 ≤ n ∧ n ≤ 4294967295 := by simpa [Lit.wf, IntKind.min, IntKind.max, IntKind.signed, IntKind.bits] using h
  refine ⟨UInt32.ofNat n.toNat, ?_⟩
  rw [UInt32.toNat_ofNat']
  omega
theorem wf_u32 (u : UInt32) : (Lit.int .u32 (u.toNat : Int)).wf = true := by
  have := u.toNat_lt
  simp [Lit.wf, IntKind.min, IntKind.max, IntKind.signed, IntKind.bits]
  omega
set_option maxRecDepth 100000 in
theorem open_dg {H : Type} {enc : TypeId × Value → H} {W : World} {base : Nat} {v : Value} {d : DataW H} {p : List MemPlace} (hv : Value.okWide Tryd.prog W .any base 24 v)
    (h : DataW.Trod enc Tryd.prog W 0 (fun _ => true) true 24 v d p) : ∃ x : Dg, v = dgv x ∧ d = dgData x ∧ p = [] := by
  simp only [Value.okWide, Tryd.underlying24] at hv
  obtain ⟨cs, rfl, hsz, _⟩ := hv
  obtain ⟨fuel, h⟩ := h
  obtain ⟨xs, m1, rfl, hx1, hlen, hn4, hel⟩ := DataW.trod_array Tryd.underlying24 h
  have c22 : Tryd.prog.cellsOf 22 = 1 := by kernel_rfl
  have c24 : Tryd.prog.cellsOf 24 = 4 := by kernel_rfl
  rw [c24] at hsz
  obtain ⟨l⟩ := cs
  match l, hsz with
  | [v0, v1, v2, v3], _ =>
    match xs, hn4, hx1, hel with
    | [x0, x1, x2, x3], _, hx1, hel =>
      have e0 := hel 0 (by decide)
      have e1 := hel 1 (by decide)
      have e2 := hel 2 (by decide)
      have e3 := hel 3 (by decide)
      rw [c22] at e0 e1 e2 e3
      obtain ⟨n0, f0, g0, w0⟩ := DataW.trod_int Tryd.underlying22 (show DataW.trod _ Tryd.prog W 0 _ true m1 22 _ = some x0 from e0)
      obtain ⟨n1, f1, g1, w1⟩ := DataW.trod_int Tryd.underlying22 (show DataW.trod _ Tryd.prog W 0 _ true m1 22 _ = some x1 from e1)
      obtain ⟨n2, f2, g2, w2⟩ := DataW.trod_int Tryd.underlying22 (show DataW.trod _ Tryd.prog W 0 _ true m1 22 _ = some x2 from e2)
      obtain ⟨n3, f3, g3, w3⟩ := DataW.trod_int Tryd.underlying22 (show DataW.trod _ Tryd.prog W 0 _ true m1 22 _ = some x3 from e3)
      obtain ⟨u0, rfl⟩ := u32_of_wf w0
      obtain ⟨u1, rfl⟩ := u32_of_wf w1
      obtain ⟨u2, rfl⟩ := u32_of_wf w2
      obtain ⟨u3, rfl⟩ := u32_of_wf w3
      simp [Value.cells] at f0 f1 f2 f3
      subst g0 g1 g2 g3 f0 f1 f2 f3
      simp only [Prod.mk.injEq, List.map_cons, List.map_nil, List.flatMap_cons, List.flatMap_nil, List.append_nil] at hx1
      exact ⟨⟨u0, u1, u2, u3⟩, rfl, hx1.1, hx1.2⟩
theorem shut_dg {H : Type} {enc : TypeId × Value → H} {W : World} {base : Nat} {spare : Nat → Bool} {held : Bool} (x : Dg) : DataW.Trod enc Tryd.prog W base spare held 24 (dgv x) (dgData x) [] := by
  refine ⟨2, ?_⟩
  have c22 : Tryd.prog.cellsOf 22 = 1 := by kernel_rfl
  have c24 : Tryd.prog.cellsOf 24 = 4 := by kernel_rfl
  have hi : ∀ u : UInt32, DataW.trod enc Tryd.prog W base spare held 1 22 [.int .u32 u.toNat] = some (.lit (.int .u32 u.toNat), []) := fun u => by
    unfold DataW.trod
    rw [Tryd.underlying22]
    simp [wf_u32 u]
  unfold DataW.trod
  rw [Tryd.underlying24]
  simp only [Value.cells, c24, c22]
  simp [List.range_succ, hi, dgData]
end Go.Proofs.YtpodfmnnabepaaaDoor
