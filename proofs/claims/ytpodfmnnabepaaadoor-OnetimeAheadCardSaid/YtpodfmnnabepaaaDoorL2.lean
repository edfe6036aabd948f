/- A signature as an argument: opened. -/
import Derived.Test.YtpodfmnnabepaaaDoorL1
import Derived.Deep.Slices
import Derived.Carry
namespace Go.Proofs.YtpodfmnnabepaaaDoor
open Go Go.ChangeShapes Go.WideShapes Go.ChangeAt Go.RowKit Go.Deep
open Ot (Dg)
theorem laidOut : laidOutB Tryd.prog = true := by kernel_rfl
set_option maxRecDepth 100000 in
theorem trod_dg {H : Type} {enc : TypeId × Value → H} {W : World} {base n : Nat} {sp : Nat → Bool} {hd : Bool} {cs : List Value} {x : DataW H × List MemPlace} (h : DataW.trod enc Tryd.prog W base sp hd n 24 cs = some x) :
    ∃ d : Dg, cs = [.int .u32 d.a.toNat, .int .u32 d.b.toNat, .int .u32 d.c.toNat, .int .u32 d.d.toNat] := by
  obtain ⟨xs, m1, rfl, hx1, hlen, hn4, hel⟩ := DataW.trod_array Tryd.underlying24 h
  have c22 : Tryd.prog.cellsOf 22 = 1 := by kernel_rfl
  have c24 : Tryd.prog.cellsOf 24 = 4 := by kernel_rfl
  rw [c24] at hlen
  match cs, hlen with
  | [v0, v1, v2, v3], _ =>
    match xs, hn4, hx1, hel with
    | [x0, x1, x2, x3], _, hx1, hel =>
      have e0 := hel 0 (by decide)
      have e1 := hel 1 (by decide)
      have e2 := hel 2 (by decide)
      have e3 := hel 3 (by decide)
      rw [c22] at e0 e1 e2 e3
      obtain ⟨n0, f0, g0, w0⟩ := DataW.trod_int Tryd.underlying22 (show DataW.trod _ Tryd.prog W _ _ _ m1 22 _ = some x0 from e0)
      obtain ⟨n1, f1, g1, w1⟩ := DataW.trod_int Tryd.underlying22 (show DataW.trod _ Tryd.prog W _ _ _ m1 22 _ = some x1 from e1)
      obtain ⟨n2, f2, g2, w2⟩ := DataW.trod_int Tryd.underlying22 (show DataW.trod _ Tryd.prog W _ _ _ m1 22 _ = some x2 from e2)
      obtain ⟨n3, f3, g3, w3⟩ := DataW.trod_int Tryd.underlying22 (show DataW.trod _ Tryd.prog W _ _ _ m1 22 _ = some x3 from e3)
      obtain ⟨u0, rfl⟩ := u32_of_wf w0
      obtain ⟨u1, rfl⟩ := u32_of_wf w1
      obtain ⟨u2, rfl⟩ := u32_of_wf w2
      obtain ⟨u3, rfl⟩ := u32_of_wf w3
      simp at f0 f1 f2 f3
      subst f0 f1 f2 f3
      exact ⟨⟨u0, u1, u2, u3⟩, rfl⟩
theorem sig_of_trod {H : Type} {enc : TypeId × Value → H} {W : World} {n : Nat} {sp : Nat → Bool} {hd : Bool} {t : TypeId} {v : Value} {x : DataW H × List MemPlace} (ht : Tryd.prog.underlying t = some (.slice 24)) (h : DataW.trod enc Tryd.prog W 0 sp hd n t [v] = some x) : ∃ l : List Dg, SigAt W v l := by
  rcases open_slice ht h with ⟨hcs, _⟩ | ⟨a, len, cap, m, n, D, Pl, hcs, _, hl, hm, hmm, _, hx⟩
  · simp at hcs
    subst hcs
    exact ⟨[], SigAt_nil W⟩
  · simp at hcs
    subst hcs
    have c24 : Tryd.prog.cellsOf 24 = 4 := by kernel_rfl
    have hlm : len ≤ m := by rw [hmm]; split <;> omega
    have each : ∀ i, i < len → ∃ d : Dg, ∀ j, j < 4 → W.cell? ((a.add (i * 4)).add j) = [Value.int .u32 d.a.toNat, .int .u32 d.b.toNat, .int .u32 d.c.toNat, .int .u32 d.d.toNat][j]? := fun i hi => by
      obtain ⟨cs', h1, h2⟩ := hx i (by omega)
      rw [c24] at h1
      obtain ⟨_, _, hcell⟩ := World.cells?_some h1
      obtain ⟨d, rfl⟩ := trod_dg h2
      exact ⟨d, hcell⟩
    have each' : ∀ i, ∃ d : Dg, i < len → ∀ j, j < 4 → W.cell? ((a.add (i * 4)).add j) = [Value.int .u32 d.a.toNat, .int .u32 d.b.toNat, .int .u32 d.c.toNat, .int .u32 d.d.toNat][j]? := fun i => by
      by_cases hi : i < len
      · obtain ⟨d, hd⟩ := each i hi; exact ⟨d, fun _ => hd⟩
      · exact ⟨Ot.zeroD, fun h => absurd h hi⟩
    let f : Nat → Dg := fun i => Classical.choose (each' i)
    have hf : ∀ i, i < len → ∀ j, j < 4 → W.cell? ((a.add (i * 4)).add j) = [Value.int .u32 (f i).a.toNat, .int .u32 (f i).b.toNat, .int .u32 (f i).c.toNat, .int .u32 (f i).d.toNat][j]? := fun i => Classical.choose_spec (each' i)
    generalize f = g at hf
    have hlen : ((List.range len).map g).length = len := by simp
    have hmax : cap ≤ 9223372036854775807 := by simpa [maxLen] using hm
    refine ⟨(List.range len).map g, some a, cap, by rw [hlen], by rw [hlen]; omega, fun hp => ?_⟩
    rw [hlen] at hp ⊢
    obtain ⟨b, off, sp⟩ := a
    have h00 := hf 0 hp 0 (by decide)
    have hspot : sp = none := by
      have := World.cell?_spot (h00.trans rfl)
      simpa [Addr.add] using this
    subst hspot
    have hadd : ∀ i j, ((⟨b, off, none⟩ : Addr).add (i * 4)).add j = ⟨b, off + i * 4 + j, none⟩ := fun i j => by
      unfold Addr.add
      split <;> split <;> simp_all
    refine ⟨b, off, rfl, ?_, fun i hi => ?_⟩
    · have := World.block_lt_of_cell? W _ (h00.trans rfl)
      rw [hadd] at this
      exact this
    · have e : ((List.range len).map g).getD i Ot.zeroD = g i := by
        rw [List.getD_eq_getElem?_getD, List.getElem?_map, List.getElem?_range hi]; rfl
      rw [e]
      have k := hf i hi
      simp only [hadd] at k
      exact ⟨k 0 (by decide), k 1 (by decide), k 2 (by decide), k 3 (by decide)⟩
set_option maxRecDepth 100000 in
theorem open_sig {H : Type} {enc : TypeId × Value → H} {W : World} {base : Nat} {v : Value} {d : DataW H} {p : List MemPlace} (hv : Value.okWide Tryd.prog W .any base 33 v)
    (h : DataW.Trod enc Tryd.prog W 0 (fun _ => true) true 33 v d p) : ∃ l : List Dg, SigAt W v l := by
  obtain ⟨a, len, cap, rfl⟩ := okWide_slice Tryd.underlying33 hv
  obtain ⟨fuel, h⟩ := h
  exact sig_of_trod Tryd.underlying33 (by simpa [Value.cells] using h)
end Go.Proofs.YtpodfmnnabepaaaDoor
