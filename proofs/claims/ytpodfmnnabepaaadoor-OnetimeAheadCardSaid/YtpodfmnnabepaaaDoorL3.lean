/- Two messages and two signatures as an argument: opened. Conditions: those written in each. -/
import Derived.Test.YtpodfmnnabepaaaDoorL2
import Derived.Test.YtpodfmnnabepaaaDoorW28
import Derived.Lib.SmallJoins
namespace Go.Proofs.YtpodfmnnabepaaaDoor
open Go Go.ChangeShapes Go.WideShapes Go.ChangeAt Go.RowKit Go.Deep Go.Joins
open Ot (Dg)
set_option maxRecDepth 100000 in
theorem open_ask {H : Type} {enc : TypeId × Value → H} {W : World} {base : Nat} {v : Value} {d : DataW H} {p : List MemPlace} (hv : Value.okWide Tryd.prog W .any base 44 v)
    (h : DataW.Trod enc Tryd.prog W 0 (fun _ => true) true 44 v d p) : ∃ (m o : Dg) (x y : Value) (s t : List Dg), v = askV m o x y ∧ SigAt W x s ∧ SigAt W y t := by
  obtain ⟨cs, rfl, hsz⟩ := okWide_struct Tryd.underlying44 hv
  obtain ⟨fuel, h⟩ := h
  obtain ⟨y0, y1, y2, y3, n, _, hl, h0, h1, h2, h3⟩ := trod_struct4 Tryd.underlying44 h
  have c44 : Tryd.prog.cellsOf 44 = 10 := by kernel_rfl
  have c24 : Tryd.prog.cellsOf 24 = 4 := by kernel_rfl
  have c33 : Tryd.prog.cellsOf 33 = 1 := by kernel_rfl
  rw [c44] at hsz
  simp only [c24, c33, Value.cells] at h0 h1 h2 h3
  obtain ⟨l⟩ := cs
  match l, hsz with
  | [v0, v1, v2, v3, v4, v5, v6, v7, v8, v9], _ =>
    obtain ⟨m, e0⟩ := trod_dg h0
    obtain ⟨o, e1⟩ := trod_dg h1
    obtain ⟨s, k2⟩ := sig_of_trod (v := v8) Tryd.underlying33 h2
    obtain ⟨t, k3⟩ := sig_of_trod (v := v9) Tryd.underlying33 h3
    simp at e0 e1
    obtain ⟨rfl, rfl, rfl, rfl⟩ := e0
    obtain ⟨rfl, rfl, rfl, rfl⟩ := e1
    exact ⟨m, o, v8, v9, s, t, rfl, k2, k3⟩
end Go.Proofs.YtpodfmnnabepaaaDoor
