/- What the rows' proofs share: the listed tables, a string, a bool, a number as an argument. -/
import Derived.Test.YtakbpbifgemcdaaDoorTie
import Derived.Test.YtakbpbifgemcdaaDoorT6
import Derived.OpenShut
import Derived.Handed
import Derived.Handy
import Derived.Lay
import Derived.LaidMore
import Derived.ProofKit
import Derived.ChangeArms
namespace Go.Proofs.YtakbpbifgemcdaaDoor
open Go Go.ChangeShapes Go.WideShapes Go.ChangeAt Go.RowKit
theorem own : ownKnob Tryd.prog.godebug = none := by kernel_rfl
theorem gWords : Tryd.prog.globalNamed "seedcorn/token.words" = some 0 := by kernel_rfl
theorem tWords : (Tryd.prog.globals[0]?).map (·.type) = some 82 := by kernel_rfl
theorem gSigns : Tryd.prog.globalNamed "seedcorn/token.signs" = some 1 := by kernel_rfl
theorem tSigns : (Tryd.prog.globals[1]?).map (·.type) = some 99 := by kernel_rfl
/-- The row's condition, as every row of this seat lists it. -/
def laidT : List (String × DataW Unit) := [("seedcorn/token.words", Rows.laid_seedcorn_token_words), ("seedcorn/token.signs", Rows.laid_seedcorn_token_signs)]
theorem strs_of {W : World} {m n t base : Nat} {sp : Nat → Bool} {hd : Bool} {cs : List Value} {ls : List Tk.By} {p : List MemPlace} (hu : Tryd.prog.underlying t = some (.array n 9))
    (h : DataW.trod (fun _ => ()) Tryd.prog W base sp hd m t cs = some (.agg (ls.map fun l => .lit (.string l)), p)) : ∀ j, j < ls.length → cs[j]? = some (.string (bstr (ls.getD j []))) := by
  obtain ⟨xs, m1, rfl, hx1, hlen, hn4, hel⟩ := DataW.trod_array hu h
  intro j hj
  have c9 : Tryd.prog.cellsOf 9 = 1 := by kernel_rfl
  simp only [Prod.mk.injEq, DataW.agg.injEq] at hx1
  obtain ⟨hx1, _⟩ := hx1
  have hlx : xs.length = ls.length := by have := congrArg List.length hx1; simpa using this.symm
  have hjx : j < xs.length := by omega
  have he := hel j (by omega)
  rw [c9, Nat.mul_one, List.getElem?_eq_getElem hjx] at he
  obtain ⟨s, h1, h2, _⟩ := DataW.trod_string Tryd.underlying9 he
  have h3 : (ls.map fun l => (DataW.lit (Lit.string l) : DataW Unit))[j]? = (xs.map (·.1))[j]? := by rw [hx1]
  rw [List.getElem?_map, List.getElem?_map, List.getElem?_eq_getElem hjx, List.getElem?_eq_getElem hj, h2] at h3
  simp only [Option.map_some, Option.some.injEq, DataW.lit.injEq, Lit.string.injEq] at h3
  have h4 : (cs.drop j)[0]? = some (.string s) := by
    have := congrArg (·[0]?) h1
    simpa using this
  rw [List.getElem?_drop, Nat.add_zero] at h4
  rw [h4, List.getD_eq_getElem?_getD, List.getElem?_eq_getElem hj]
  simp only [Option.getD_some, h3]
  rfl
set_option maxRecDepth 100000 in
theorem tb_of_laid {W : World} (h : laidMetH Tryd.prog laidT W) : Tb W := by
  rw [MakeChecks.laidMetH_plain _ _ _ (by kernel_rfl)] at h
  obtain ⟨ps, hl, _, _⟩ := h
  obtain ⟨g0, t0, cs0, f0, p0, q0, hg0, ht0, hv0, hd0, hrest⟩ := hl
  obtain ⟨⟨g1, t1, cs1, f1, p1, q1, hg1, ht1, hv1, hd1, _⟩, _⟩ := hrest
  obtain rfl := Option.some.inj (gWords.symm.trans hg0)
  obtain rfl := Option.some.inj (tWords.symm.trans ht0)
  obtain rfl := Option.some.inj (gSigns.symm.trans hg1)
  obtain rfl := Option.some.inj (tSigns.symm.trans ht1)
  have a0 := strs_of (ls := Tk.words) Tryd.underlying82 hd0
  have a1 := strs_of (ls := Tk.signs) Tryd.underlying99 hd1
  have k0 := World.var?_cell hg0 hv0
  have k1 := World.var?_cell hg1 hv1
  exact ⟨fun j hj => by rw [k0 j, ← Array.getElem?_toList]; exact a0 j hj, fun j hj => by rw [k1 j, ← Array.getElem?_toList]; exact a1 j hj⟩
set_option maxRecDepth 100000 in
theorem open_str {H : Type} {enc : TypeId × Value → H} {W : World} {base : Nat} {v : Value} {d : DataW H} {p : List MemPlace} (hv : Value.okWide Tryd.prog W .any base 9 v)
    (h : DataW.Trod enc Tryd.prog W 0 (fun _ => true) true 9 v d p) : ∃ s : ByteArray, v = .string s ∧ d = .lit (.string s.data.toList) ∧ p = [] ∧ s.size ≤ maxLen := by
  obtain ⟨s, rfl⟩ := okWide_string Tryd.underlying9 hv
  obtain ⟨fuel, h⟩ := h
  obtain ⟨s', h1, h2, h3⟩ := DataW.trod_string Tryd.underlying9 h
  simp [Value.cells] at h1
  subst h1
  simp only [Prod.mk.injEq] at h2
  exact ⟨s, rfl, h2.1, h2.2, h3⟩
set_option maxRecDepth 100000 in
theorem shut_str {H : Type} {enc : TypeId × Value → H} {W : World} {base : Nat} {sp : Nat → Bool} {held : Bool} {s : ByteArray} (hs : s.size ≤ maxLen) : DataW.Trod enc Tryd.prog W base sp held 9 (.string s) (.lit (.string s.data.toList)) [] :=
  ⟨1, by simp [DataW.trod, Value.cells, Tryd.underlying9, hs]⟩
set_option maxRecDepth 100000 in
theorem open_bl {H : Type} {enc : TypeId × Value → H} {W : World} {base : Nat} {v : Value} {d : DataW H} {p : List MemPlace} (hv : Value.okWide Tryd.prog W .any base 4 v)
    (h : DataW.Trod enc Tryd.prog W 0 (fun _ => true) true 4 v d p) : ∃ b : Bool, v = .bool b ∧ d = .lit (.bool b) ∧ p = [] := by
  obtain ⟨b, rfl⟩ := okWide_bool Tryd.underlying4 hv
  obtain ⟨fuel, h⟩ := h
  cases fuel with
  | zero => simp [DataW.trod] at h
  | succ m =>
    simp [DataW.trod, Value.cells, Tryd.underlying4] at h
    exact ⟨b, rfl, h.1.symm, h.2⟩
set_option maxRecDepth 100000 in
theorem open_u16 {H : Type} {enc : TypeId × Value → H} {W : World} {base : Nat} {v : Value} {d : DataW H} {p : List MemPlace} (hv : Value.okWide Tryd.prog W .any base 45 v)
    (h : DataW.Trod enc Tryd.prog W 0 (fun _ => true) true 45 v d p) : ∃ n : Nat, n ≤ 65535 ∧ v = .int .u16 n ∧ d = .lit (.int .u16 n) ∧ p = [] := by
  obtain ⟨n, rfl⟩ := okWide_int Tryd.underlying45 hv
  obtain ⟨fuel, h⟩ := h
  obtain ⟨n', h1, h2, h3⟩ := DataW.trod_int Tryd.underlying45 h
  simp [Value.cells] at h1
  subst h1
  simp only [Prod.mk.injEq] at h2
  have hb := bounds_u16 h3
  obtain ⟨k, rfl⟩ : ∃ k : Nat, n = (k : Int) := ⟨n.toNat, by omega⟩
  exact ⟨k, by omega, rfl, h2.1, h2.2⟩
set_option maxRecDepth 100000 in
theorem shut_u16 {H : Type} {enc : TypeId × Value → H} {W : World} {base : Nat} {sp : Nat → Bool} {held : Bool} {n : Nat} (hn : n ≤ 65535) : DataW.Trod enc Tryd.prog W base sp held 45 (.int .u16 (n : Nat)) (.lit (.int .u16 (n : Nat))) [] :=
  shut_int Tryd.underlying45 (by simp [Lit.wf, IntKind.min, IntKind.max, IntKind.signed, IntKind.bits]; omega)
end Go.Proofs.YtakbpbifgemcdaaDoor
