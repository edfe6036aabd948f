/- Walk: the one-time law's fixed fact. -/
import Derived.Test.YtpodfmnnabepaaaDoorW11
namespace Go.Proofs.YtpodfmnnabepaaaDoor
open Go.RowKit
open Ot (Dg)
theorem dcs_at : ∀ (l : List Dg) (i : Nat), i < l.length → (dcs l)[i * 4]? = some (.int .u32 (l.getD i Ot.zeroD).a.toNat) ∧ (dcs l)[i * 4 + 1]? = some (.int .u32 (l.getD i Ot.zeroD).b.toNat) ∧ (dcs l)[i * 4 + 2]? = some (.int .u32 (l.getD i Ot.zeroD).c.toNat) ∧ (dcs l)[i * 4 + 3]? = some (.int .u32 (l.getD i Ot.zeroD).d.toNat)
  | [], i, h => by simp at h
  | d :: l, 0, _ => ⟨rfl, rfl, rfl, rfl⟩
  | d :: l, i + 1, h => by
    obtain ⟨h0, h1, h2, h3⟩ := dcs_at l i (by simpa using h)
    have e : dcs (d :: l) = [.int .u32 d.a.toNat, .int .u32 d.b.toNat, .int .u32 d.c.toNat, .int .u32 d.d.toNat] ++ dcs l := rfl
    have eq : ∀ j, (dcs (d :: l))[(i + 1) * 4 + j]? = (dcs l)[i * 4 + j]? := fun j => by
      rw [e, List.getElem?_append_right (by simp; omega)]; congr 1; simp; omega
    have g : (d :: l).getD (i + 1) Ot.zeroD = l.getD i Ot.zeroD := rfl
    rw [g]
    exact ⟨(eq 0).trans h0, (eq 1).trans h1, (eq 2).trans h2, (eq 3).trans h3⟩
/-- What the call has made reads as a slice of digests. -/
theorem own_sig {w : World} {base n : Nat} {v : Value} {l : List Dg} (h : w.ownsRow base 24 4 v n (dcs l)) : SigAt w v l := by
  have hl : l.length = n := by have := h.1; rw [dcs_length] at this; omega
  have hc := h
  rcases h.2 with ⟨rfl, h0⟩ | ⟨g, cap, cur, rfl, hb, hh, h1, h2, _⟩
  · exact ⟨none, 0, by rw [hl, h0], by omega, fun hp => by omega⟩
  · refine ⟨some ⟨g, 0, none⟩, cap, by rw [hl], by simp only [maxLen] at h2; omega, fun _ => ⟨g, 0, rfl, (Array.getElem?_eq_some_iff.1 hh).1, fun i hi => ?_⟩⟩
    obtain ⟨k0, k1, k2, k3⟩ := dcs_at l i hi
    have ad : ∀ j, (⟨g, 0, none⟩ : Addr).add j = ⟨g, j, none⟩ := fun j => by unfold Addr.add; split <;> simp_all
    have c := fun j u hu => (ad j) ▸ hc.cells (g := g) rfl j u hu
    rw [Nat.zero_add]
    exact ⟨c _ _ k0, c _ _ k1, c _ _ k2, c _ _ k3⟩
theorem SigAt_nil (w : World) : SigAt w (.slice none 0 0) [] := ⟨none, 0, rfl, by simp, fun h => by simp at h⟩
theorem cell_keep {w w' : World} {a : Addr} {v : Value} (h : w.cell? a = some v) (hb : Below w.heap.size w w') : w'.cell? a = some v := (hb.cell (World.block_lt_of_cell? w _ h)).trans h
/-- What 'awake' reads. -/
def AwS (g B : Nat) (w' : World) : Prop := (w'.cell? ⟨g, 0, none⟩ = some (.int .i64 0) ∧ w'.cell? ⟨g, 32, none⟩ = some (.int .i64 1) ∧ w'.cell? ⟨g, 33, none⟩ = some (.int .i64 14) ∧ w'.cell? ⟨g, 34, none⟩ = some (.int .i64 0)) ∧ (w'.cell? ⟨B, 0, none⟩ = some (.int .u32 1) ∧ w'.cell? ⟨B, 1, none⟩ = some (.int .u32 0) ∧ w'.cell? ⟨B, 2, none⟩ = some (.int .u32 0) ∧ w'.cell? ⟨B, 3, none⟩ = some (.int .u32 0)) ∧ w'.cell? ⟨B + 1, 0, none⟩ = some (.int .u32 2) ∧ w'.cell? ⟨B + 1, 1, none⟩ = some (.int .u32 0) ∧ w'.cell? ⟨B + 1, 2, none⟩ = some (.int .u32 0) ∧ w'.cell? ⟨B + 1, 3, none⟩ = some (.int .u32 0)
theorem AwS.keep {g B : Nat} {w w' : World} (h : AwS g B w) (hb : Below w.heap.size w w') : AwS g B w' := by
  obtain ⟨⟨a0, a1, a2, a3⟩, ⟨b0, b1, b2, b3⟩, c0, c1, c2, c3⟩ := h
  exact ⟨⟨cell_keep a0 hb, cell_keep a1 hb, cell_keep a2 hb, cell_keep a3 hb⟩, ⟨cell_keep b0 hb, cell_keep b1 hb, cell_keep b2 hb, cell_keep b3 hb⟩, cell_keep c0 hb, cell_keep c1 hb, cell_keep c2 hb, cell_keep c3 hb⟩
set_option maxRecDepth 100000 in
set_option maxHeartbeats 2000000 in
theorem awake_any (w : World) (ht : Tn w) : Calls Tryd.prog 17 #[] w fun e w' => e = .returned (.bool true) ∧ Below w.heap.size w w' := by
  go_enter Tryd.func17, Tryd.ntmps17
  go_wp2_with fail
  refine (steps_any Ot.zeroD _).mono ?_
  rintro e w1 ⟨v, rfl, hb1, hown1⟩
  obtain ⟨g, cap, rfl, _, _, hgb, hgl, _, hgc⟩ := own_ints hown1 (by rw [Ot.steps_length]; decide)
  rw [Ot.steps_length] at *
  have n0 := hgc 0 (by decide)
  have n1 := hgc 32 (by decide)
  have n2 := hgc 33 (by decide)
  have n3 := hgc 34 (by decide)
  replace n0 : w1.cell? ⟨g, 0, none⟩ = some (.int .i64 0) := n0
  replace n1 : w1.cell? ⟨g, 32, none⟩ = some (.int .i64 1) := n1
  replace n2 : w1.cell? ⟨g, 33, none⟩ = some (.int .i64 14) := n2
  replace n3 : w1.cell? ⟨g, 34, none⟩ = some (.int .i64 0) := n3
  have ht1 := ht.below hb1
  have hs1 := hb1.size
  clear hgc hown1 hgb
  go_wp2_with fail
  generalize hW : (w1.alloc (.cells #[.int .u32 1, .int .u32 0, .int .u32 0, .int .u32 0] 24)).alloc (.cells #[.int .u32 2, .int .u32 0, .int .u32 0, .int .u32 0] 24) = W
  have hbW : Below w1.heap.size w1 W := by subst hW; exact ((Below.refl _ _).alloc (Nat.le_refl _) _).alloc (by simp) _
  have hx0 : Arr W w1.heap.size 4 (fnOf ⟨1, 0, 0, 0⟩) := by subst hW; exact (Arr.new w1 4 (fnOf ⟨1, 0, 0, 0⟩) 24 _ rfl).alloc (by simp) _
  have hm0 : Arr W (w1.heap.size + 1) 4 (fnOf ⟨2, 0, 0, 0⟩) := by subst hW; exact Arr.new' _ _ 4 (fnOf ⟨2, 0, 0, 0⟩) 24 _ (by simp) rfl
  have hsW : w1.heap.size + 2 ≤ W.heap.size := by subst hW; simp
  clear hW
  refine (sign_any ⟨1, 0, 0, 0⟩ ⟨2, 0, 0, 0⟩ _ (ht1.below hbW)).mono ?_
  rintro e w2 ⟨vs, rfl, hb2, hown2⟩
  have hsig := own_sig hown2
  have hl35 := Ot.sign_length pair ⟨1, 0, 0, 0⟩ ⟨2, 0, 0, 0⟩
  have hrs := Ot.reach_sign pair ⟨1, 0, 0, 0⟩ ⟨2, 0, 0, 0⟩
  generalize Ot.sign pair ⟨1, 0, 0, 0⟩ ⟨2, 0, 0, 0⟩ = sg at *
  generalize hpb : Ot.pub pair ⟨1, 0, 0, 0⟩ = pb at *
  have Hpb := Lib.hid hpb; clear hpb
  have Hrs := Lib.hid hrs; clear hrs
  have hb12 : Below w1.heap.size w1 w2 := hbW.trans (hb2.mono hbW.size)
  have hx2 := hx0.below hb2 (by omega)
  have hm2 := hm0.below hb2 (by omega)
  replace n0 := (hb12.cell (p := ⟨g, 0, none⟩) hgl).trans n0
  replace n1 := (hb12.cell (p := ⟨g, 32, none⟩) hgl).trans n1
  replace n2 := (hb12.cell (p := ⟨g, 33, none⟩) hgl).trans n2
  replace n3 := (hb12.cell (p := ⟨g, 34, none⟩) hgl).trans n3
  have hbt := hb1.trans (hb12.mono hs1)
  have ht2 := ht.below hbt
  have hst := hbt.size
  obtain ⟨x0, x1, x2, x3⟩ := hx2.dg
  obtain ⟨m0, m1, m2, m3⟩ := hm2.dg
  replace x0 : w2.cell? ⟨w1.heap.size, 0, none⟩ = some (.int .u32 1) := x0
  replace x1 : w2.cell? ⟨w1.heap.size, 1, none⟩ = some (.int .u32 0) := x1
  replace x2 : w2.cell? ⟨w1.heap.size, 2, none⟩ = some (.int .u32 0) := x2
  replace x3 : w2.cell? ⟨w1.heap.size, 3, none⟩ = some (.int .u32 0) := x3
  replace m0 : w2.cell? ⟨w1.heap.size + 1, 0, none⟩ = some (.int .u32 2) := m0
  replace m1 : w2.cell? ⟨w1.heap.size + 1, 1, none⟩ = some (.int .u32 0) := m1
  replace m2 : w2.cell? ⟨w1.heap.size + 1, 2, none⟩ = some (.int .u32 0) := m2
  replace m3 : w2.cell? ⟨w1.heap.size + 1, 3, none⟩ = some (.int .u32 0) := m3
  clear hb1 hb2 hown2 hbW hx0 hm0 hx2 hm2 hb12
  have hdec : decide (Ot.reachK pair ⟨2, 0, 0, 0⟩ sg = pb) = true := decide_eq_true Hrs.out
  have Hdec := Lib.hid hdec; clear hdec
  have hbd : Below w2.heap.size w2 w2.drew := (Below.refl _ _).drew
  replace hsig := hsig.below hbd
  replace ht2 := ht2.below hbd
  replace hbt := hbt.drew
  have hk : AwS g w1.heap.size w2.drew := ⟨⟨n0, n1, n2, n3⟩, ⟨x0, x1, x2, x3⟩, m0, m1, m2, m3⟩
  go_wp2_with fail
  clear n0 n1 n2 n3 x0 x1 x2 x3 m0 m1 m2 m3 hbd hsW hs1 hgl
  go_region_held3 (fun w' => (w'.cell? ⟨g, 0, none⟩ = some (.int .i64 0) ∧ w'.cell? ⟨g, 32, none⟩ = some (.int .i64 1) ∧ w'.cell? ⟨g, 33, none⟩ = some (.int .i64 14) ∧ w'.cell? ⟨g, 34, none⟩ = some (.int .i64 0)) ∧ (w'.cell? ⟨w1.heap.size, 0, none⟩ = some (.int .u32 1) ∧ w'.cell? ⟨w1.heap.size, 1, none⟩ = some (.int .u32 0) ∧ w'.cell? ⟨w1.heap.size, 2, none⟩ = some (.int .u32 0) ∧ w'.cell? ⟨w1.heap.size, 3, none⟩ = some (.int .u32 0)) ∧ w'.cell? ⟨w1.heap.size + 1, 0, none⟩ = some (.int .u32 2) ∧ w'.cell? ⟨w1.heap.size + 1, 1, none⟩ = some (.int .u32 0) ∧ w'.cell? ⟨w1.heap.size + 1, 2, none⟩ = some (.int .u32 0) ∧ w'.cell? ⟨w1.heap.size + 1, 3, none⟩ = some (.int .u32 0))
    (exact hk)
    (first
      | (go_at_call 21; refine (public_any ⟨1, 0, 0, 0⟩ _ ht2).mono ?_; rw [Hpb.out]; rintro e w3 ⟨rfl, hb3⟩; replace hk := hk.keep hb3; replace hbt := hbt.trans (hb3.mono hst); replace hst := hbt.size; replace ht2 := ht2.below hb3; replace hsig := hsig.below hb3)
      | (go_at_call_of 27 (Value.slice none 0 0); refine (check_short pb ⟨2, 0, 0, 0⟩ _ [] (by decide) _ (SigAt_nil _)).mono ?_; rintro e w3 ⟨rfl, hb3⟩; replace hk := hk.keep hb3; replace hbt := hbt.trans (hb3.mono hst); replace hst := hbt.size; replace ht2 := ht2.below hb3; replace hsig := hsig.below hb3)
      | (go_at_call 27; refine (check_full pb ⟨2, 0, 0, 0⟩ vs sg hl35 _ ht2 hsig).mono ?_; rw [Hdec.out]; rintro e w3 ⟨rfl, hb3⟩; replace hk := hk.keep hb3; replace hbt := hbt.trans (hb3.mono hst); replace hst := hbt.size; replace ht2 := ht2.below hb3; replace hsig := hsig.below hb3))
  go_wp2
  go_ret
  exact ⟨rfl, hbt⟩
end Go.Proofs.YtpodfmnnabepaaaDoor
