/- Texts of this claim, merged: Q30 Q31 Q32. Conditions: those written in each. -/
import Derived.Maps.AppendAt
import Derived.Test.YtpodfmnnabepaaaDoorM4
namespace Go.Proofs.YtpodfmnnabepaaaDoor
open Go.RowKit
open Ot (Dg)
/-- A slice that lies in new memory. -/
def Fresh (B : Nat) (v : Value) : Prop := ∀ b off n c, v = .slice (some ⟨b, off, none⟩) n c → B ≤ b
theorem own_fresh {w : World} {base n size B : Nat} {e : TypeId} {v : Value} {xs : List Value} (h : w.ownsRow base e size v n xs) (hB : B ≤ base) : Fresh B v := by
  intro b off n' c e'
  rcases h.2 with ⟨rfl, h0⟩ | ⟨g, cap, cur, rfl, hb, _⟩
  · cases e'
  · cases e'; omega
set_option maxRecDepth 100000 in
set_option maxHeartbeats 4000000 in
theorem rksign_fresh (x m : Dg) (w : World) : Calls Tryd.prog 61 #[dgv x, .int .i64 0, .int .i64 0, dgv m] w fun e w' => ∃ v, e = .returned (.tuple #[.agg #[.int .i64 0, v, .slice none 0 0], .int .i64 0]) ∧ Below w.heap.size w w' ∧ SigAt w' v (oneD x m) ∧ Fresh w.heap.size v := by
  go_enter Tryd.func61, Tryd.ntmps61
  go_wp2_with fail
  generalize hW : ((w.alloc (.cells #[.int .u32 x.a.toNat, .int .u32 x.b.toNat, .int .u32 x.c.toNat, .int .u32 x.d.toNat] 24)).alloc (.cells #[.int .u32 m.a.toNat, .int .u32 m.b.toNat, .int .u32 m.c.toNat, .int .u32 m.d.toNat] 24)).alloc (.cells #[.int .i64 0, .slice none 0 0, .slice none 0 0] 57) = W
  have hb0 : Below w.heap.size w W := by subst hW; exact (((Below.refl _ _).alloc (Nat.le_refl _) _).alloc (by simp) _).alloc (by simp; omega) _
  have hx0 : Arr W w.heap.size 4 (fnOf x) := by subst hW; exact ((Arr.new w 4 (fnOf x) 24 _ rfl).alloc (by simp) _).alloc (by simp; omega) _
  have hm0 : Arr W (w.heap.size + 1) 4 (fnOf m) := by subst hW; exact (Arr.new' (w.alloc _) (w.heap.size + 1) 4 (fnOf m) 24 _ (by simp) rfl).alloc (by simp) _
  have ht0 : Thin7 W (w.heap.size + 1 + 1) := by subst hW; exact Thin7.new _ _ _ _ (by simp) (by simp)
  have hr0 : Res3 W (w.heap.size + 1 + 1) := by
    subst hW
    exact Res3.new _ _ 57 (by simp)
  clear hW
  refine (rkeys_any x _).mono ?_
  rintro e w1 ⟨v, rfl, hb1, hv⟩
  have hx1 := hx0.keep hb1 (by decide)
  have hm1 := hm0.keep hb1 (by decide)
  have hr1 := hr0.keep hb1
  have ht1 := ht0.keep hb1
  have hb2 := hb0.trans (hb1.mono hb0.size)
  obtain ⟨b, off, c, rfl, hbl, hD⟩ := hv.one
  clear hb0 hb1 hx0 hm0 hr0
  have Hx1 := Lib.hid hx1; have Hm1 := Lib.hid hm1; have Hr1 := Lib.hid hr1; have Ht1 := Lib.hid ht1; clear hx1 hm1 hr1 ht1 ht0
  go_wp2_with fail
  refine (rprove_one _ (pubD x) _ hv).mono ?_
  rintro e w2 ⟨rfl, hb3⟩
  have hx2 := Hx1.out.keep hb3 (by decide)
  have hm2 := Hm1.out.keep hb3 (by decide)
  have hr2 := Hr1.out.keep hb3
  have ht2 := Ht1.out.keep hb3
  have hb4 := hb2.trans (hb3.mono hb2.size)
  clear hb2 hb3 hD hv
  generalize hod : oneD x m = l
  generalize hsd : sdD x = y at *
  have hol : Ot.sign pair y m = l := by rw [← hod, oneD, hsd]
  have Hsd := Lib.hid hsd; have Hol := Lib.hid hol; clear hod hsd hol
  go_upto_region 7 with fail
  refine wp_region_inv (fun wx => Arr wx w.heap.size 4 (fnOf x) ∧ Arr wx (w.heap.size + 1) 4 (fnOf m) ∧ Res3 wx (w.heap.size + 1 + 1) ∧ Below w.heap.size w wx ∧ Thin7 wx (w.heap.size + 1 + 1)) (fun j v w' => match j with | 0 => v = .int .i64 0 | 1 => v = dgv x | 2 => v = .int .i64 0 | 3 => v = dgv y | 4 => v = dgv m | 5 => SigAt w' v l ∧ Fresh w.heap.size v | 6 => v = .slice none 0 0 | _ => True) 7 (by kernel_rfl) (by kernel_rfl) ⟨hx2, hm2, hr2, hb4.drew, ht2⟩ (fun _ _ h hb => ⟨h.1.keep hb (by decide), h.2.1.keep hb (by decide), h.2.2.1.keep hb, h.2.2.2.1.trans (hb.mono h.2.2.2.1.size), h.2.2.2.2.keep hb⟩) ?_ ?_ ?_
  · rintro (_|_|_|_|_|_|_|j) v w1 w2 hb h
    all_goals first | exact h | exact ⟨SigAt.below h.1 hb, h.2⟩
  · refine ⟨fun us wx hx hd => ?_, fun us wx hx hd => ?_, fun us wx hx hd => ?_, fun us wx hx hd => ?_, fun us wx hx hd => ?_, fun us wx hx hd => ?_, fun us wx hx hd => ?_, trivial⟩
    all_goals simp only [putAll, dstOf, List.getElem?_toArray, List.getElem?_cons_succ, List.getElem?_cons_zero, Option.bind_some]
    all_goals go_frame
    · go_simp; exact Below.refl _ _
    · obtain ⟨c0, c1, c2, c3⟩ := hx.1.dg
      have H := Lib.hid hx; clear hx
      go_simp
      first | exact Below.refl _ _ | exact ⟨by and_intros <;> rfl, Below.refl _ _⟩
    · go_simp; exact Below.refl _ _
    · rw [show us 1 = dgv x from hd 1 rfl, show us 2 = .int .i64 0 from hd 2 rfl]
      go_simp
      refine (rseed_any x _).mono ?_
      rw [Hsd.out]
      rintro e w1 ⟨rfl, hb1⟩
      exact ⟨_, rfl, rfl, hb1⟩
    · obtain ⟨c0, c1, c2, c3⟩ := hx.2.1.dg
      have H := Lib.hid hx; clear hx
      go_simp
      first | exact Below.refl _ _ | exact ⟨by and_intros <;> rfl, Below.refl _ _⟩
    · rw [show us 3 = dgv y from hd 3 rfl, show us 4 = dgv m from hd 4 rfl]
      go_simp
      refine (rsign_any y m _).mono ?_
      rw [Hol.out]
      rintro e w1 ⟨v, rfl, hb1, hown⟩
      exact ⟨_, rfl, ⟨own_sig hown, own_fresh hown hx.2.2.2.1.size⟩, hb1⟩
    · go_simp; exact Below.refl _ _
  rintro us W1 ⟨hx3, hm3, hr3, hb5, ht3⟩ hF
  have e0 : us 0 = .int .i64 0 := hF 0 (by decide)
  have e6 : us 6 = .slice none 0 0 := hF 6 (by decide)
  obtain ⟨hv5, hf5⟩ : SigAt W1 (us 5) l ∧ Fresh w.heap.size (us 5) := hF 5 (by decide)
  have Hf5 := Lib.hid hf5; clear hf5
  obtain ⟨A, cv, e5⟩ : ∃ A cv, us 5 = .slice A l.length cv := by obtain ⟨A, cv, h, _⟩ := hv5; exact ⟨A, cv, h⟩
  rw [e5] at hv5
  have hf6 := Hf5.out
  rw [e5] at hf6
  have Hf6 := Lib.hid hf6; clear hf6 Hf5
  have hll : l.length = 35 := by rw [← Hol.out]; exact Ot.sign_length pair y m
  have hoff := hv5.off ht3 (by omega)
  have hv6 := ((hv5.set hoff 0 (.int .i64 0)).set hoff 1 (.slice A l.length cv)).set hoff 2 (.slice none 0 0)
  have hod2 : oneD x m = l := by rw [oneD, Hsd.out, Hol.out]
  have Hv6 := Lib.hid hv6; have Hod2 := Lib.hid hod2; clear hv6 hod2 hll hoff hv5
  clear hF hx3 hm3 hx2 hm2
  simp only [putAll, dstOf, List.getElem?_toArray, List.getElem?_cons_succ, List.getElem?_cons_zero, Option.bind_some, List.drop_succ_cons, List.drop_zero]
  rw [e0, e5, e6]
  obtain ⟨⟨⟨q0, r0⟩, ⟨q1, r1⟩, ⟨q2, r2⟩⟩, hfz⟩ := hr3
  have f0 := hfz 0 (by decide)
  have f1 := hfz 1 (by decide)
  have f2 := hfz 2 (by decide)
  clear hfz e0 e5 e6
  go_frame
  go_wp2_with fail
  exact bodyPost_ret (v := .tuple #[.agg #[.int .i64 0, .slice A l.length cv, .slice none 0 0], .int .i64 0]) (by simp [results, Tryd.results61, go_sem, r0, r1, r2]) rfl ⟨_, rfl, ((hb5.setCell (by simp; omega) _).setCell (by simp; omega) _).setCell (by simp; omega) _, by rw [Hod2.out]; exact Hv6.out, Hf6.out⟩
set_option maxRecDepth 100000 in
set_option maxHeartbeats 4000000 in
theorem lsign_fresh (x m : Dg) (w : World) : Calls Tryd.prog 44 #[dgv x, dgv m] w fun e w' => ∃ v, e = .returned (sgdV (pubD x) 0 v (.slice none 0 0)) ∧ Below w.heap.size w w' ∧ SigAt w' v (oneD x m) ∧ Fresh w.heap.size v := by
  go_enter Tryd.func44, Tryd.ntmps44
  go_wp2_with fail
  generalize hW : ((w.alloc (.cells #[.int .u32 x.a.toNat, .int .u32 x.b.toNat, .int .u32 x.c.toNat, .int .u32 x.d.toNat] 24)).alloc (.cells #[.int .u32 m.a.toNat, .int .u32 m.b.toNat, .int .u32 m.c.toNat, .int .u32 m.d.toNat] 24)).alloc (.cells #[.int .u32 0, .int .u32 0, .int .u32 0, .int .u32 0, .int .i64 0, .slice none 0 0, .slice none 0 0] 59) = W
  have hb0 : Below w.heap.size w W := by subst hW; exact (((Below.refl _ _).alloc (Nat.le_refl _) _).alloc (by simp) _).alloc (by simp; omega) _
  have hx0 : Arr W w.heap.size 4 (fnOf x) := by subst hW; exact ((Arr.new w 4 (fnOf x) 24 _ rfl).alloc (by simp) _).alloc (by simp; omega) _
  have hm0 : Arr W (w.heap.size + 1) 4 (fnOf m) := by subst hW; exact (Arr.new' (w.alloc _) (w.heap.size + 1) 4 (fnOf m) 24 _ (by simp) rfl).alloc (by simp) _
  have ht0 : Thin7 W (w.heap.size + 1 + 1) := by subst hW; exact Thin7.new _ _ _ _ (by simp) (by simp)
  have hr0 : Res7 W (w.heap.size + 1 + 1) := by subst hW; exact Res7.new _ _ _ _ (by simp) (by simp)
  have hs0 : W.heap.size = w.heap.size + 3 := by subst hW; simp
  clear hW
  refine (rpublic_any x _).mono ?_
  rintro e w1 ⟨rfl, hb1⟩
  have hx1 := hx0.keep hb1 (by decide)
  have hm1 := hm0.keep hb1 (by decide)
  have hr1 := hr0.keep hb1
  have ht1 := ht0.keep hb1
  have hb2 := hb0.trans (hb1.mono hb0.size)
  have hs1 : w.heap.size + 3 ≤ w1.heap.size := by have := hb1.size; omega
  clear hb0 hb1 hx0 hm0 hr0 ht0 hs0
  generalize hpd : pubD x = p
  have Hpd := Lib.hid hpd; clear hpd
  obtain ⟨c0, c1, c2, c3⟩ := hx1.dg
  obtain ⟨n0, n1, n2, n3⟩ := hm1.dg
  have Hx1 := Lib.hid hx1; have Hm1 := Lib.hid hm1; have Hr1 := Lib.hid hr1; have Ht1 := Lib.hid ht1; clear hx1 hm1 hr1 ht1
  have l0 : w.heap.size < w1.heap.size := by omega
  have l1 : w.heap.size + 1 < w1.heap.size := by omega
  have l2 : w.heap.size + 1 + 1 < w1.heap.size := by omega
  have m0 : w.heap.size ≠ w1.heap.size := by omega
  have m1 : w.heap.size + 1 ≠ w1.heap.size := by omega
  have Hs1 := Lib.hid hs1; clear hs1
  go_wp2_with fail
  have hp1 := Arr.new w1 4 (fnOf p) 24 #[.int .u32 p.a.toNat, .int .u32 p.b.toNat, .int .u32 p.c.toNat, .int .u32 p.d.toNat] rfl
  have hba : Below w1.heap.size w1 (w1.alloc (.cells #[.int .u32 p.a.toNat, .int .u32 p.b.toNat, .int .u32 p.c.toNat, .int .u32 p.d.toNat] 24)) := (Below.refl _ _).alloc (Nat.le_refl _) _
  have hr2 := Hr1.out.keep hba
  have ht2 := Ht1.out.keep hba
  have hb3 : Below w.heap.size w (w1.alloc (.cells #[.int .u32 p.a.toNat, .int .u32 p.b.toNat, .int .u32 p.c.toNat, .int .u32 p.d.toNat] 24)) := hb2.trans (hba.mono hb2.size)
  refine (rksign_fresh x m _).mono ?_
  rintro e w2 ⟨v, rfl, hb4, hv, hfr⟩
  have hfr2 : Fresh w.heap.size v := fun b off n c e => Nat.le_trans hb3.size (hfr b off n c e)
  have Hfr := Lib.hid hfr2; clear hfr hfr2
  have hp2 := hp1.keep hb4 (by decide)
  have hr3 := hr2.keep hb4
  have ht3 := ht2.keep hb4
  have hb5 := hb3.trans (hb4.mono hb3.size)
  have hl2 : w1.heap.size < w2.heap.size := hp2.lt (by decide)
  clear hb4 hba hb3 hp1 hr2 ht2 c0 c1 c2 c3 n0 n1 n2 n3 hb2 m0 m1
  generalize hpb : w1.heap.size = P at *
  have hll : (oneD x m).length = 35 := Ot.sign_length pair _ m
  generalize hod : oneD x m = l at *
  have hoff := hv.off ht3 (by omega)
  obtain ⟨d0, d1, d2, d3⟩ := hp2.dg
  obtain ⟨A, cv, hve⟩ : ∃ A cv, v = .slice A l.length cv := by obtain ⟨A, cv, h, _⟩ := hv; exact ⟨A, cv, h⟩
  subst hve
  have q0 : w.heap.size + 1 + 1 < w2.heap.size := hr3.lt
  have q1 : w.heap.size + 1 + 1 ≠ w2.heap.size := by omega
  have q2 : w.heap.size + 1 + 1 ≠ P := by omega
  obtain ⟨v0, r0⟩ := hr3.1 0 (by decide)
  obtain ⟨v1, r1⟩ := hr3.1 1 (by decide)
  obtain ⟨v2, r2⟩ := hr3.1 2 (by decide)
  obtain ⟨v3, r3⟩ := hr3.1 3 (by decide)
  obtain ⟨v4, r4⟩ := hr3.1 4 (by decide)
  obtain ⟨v5, r5⟩ := hr3.1 5 (by decide)
  obtain ⟨v6, r6⟩ := hr3.1 6 (by decide)
  have f0 := hr3.2 0 (by decide)
  have f1 := hr3.2 1 (by decide)
  have f2 := hr3.2 2 (by decide)
  have f3 := hr3.2 3 (by decide)
  have f4 := hr3.2 4 (by decide)
  have f5 := hr3.2 5 (by decide)
  have f6 := hr3.2 6 (by decide)
  have Hv := Lib.hid hv; have Hoff := Lib.hid hoff; have Hod := Lib.hid hod; have Hll := Lib.hid hll; clear hv hoff hod hll hr3 ht3 hp2
  go_wp2_with fail
  have hB : w.heap.size ≤ w.heap.size + 1 + 1 := by omega
  have hb6 := ((((((hb5.setCell (p := ⟨w.heap.size + 1 + 1, 0, none⟩) hB (.int .u32 p.a.toNat)).setCell (p := ⟨w.heap.size + 1 + 1, 1, none⟩) hB (.int .u32 p.b.toNat)).setCell (p := ⟨w.heap.size + 1 + 1, 2, none⟩) hB (.int .u32 p.c.toNat)).setCell (p := ⟨w.heap.size + 1 + 1, 3, none⟩) hB (.int .u32 p.d.toNat)).setCell (p := ⟨w.heap.size + 1 + 1, 4, none⟩) hB (.int .i64 0)).setCell (p := ⟨w.heap.size + 1 + 1, 5, none⟩) hB (.slice A l.length cv)).setCell (p := ⟨w.heap.size + 1 + 1, 6, none⟩) hB (.slice none 0 0)
  have hb7 := hb6.alloc (o := .cells #[.int .i64 0, .slice A l.length cv, .slice none 0 0] 57) hb6.size
  have hv1 := ((((((Hv.out.set Hoff.out 0 (.int .u32 p.a.toNat)).set Hoff.out 1 (.int .u32 p.b.toNat)).set Hoff.out 2 (.int .u32 p.c.toNat)).set Hoff.out 3 (.int .u32 p.d.toNat)).set Hoff.out 4 (.int .i64 0)).set Hoff.out 5 (.slice A l.length cv)).set Hoff.out 6 (.slice none 0 0)
  have hv2 := hv1.below ((Below.refl _ _).alloc (Nat.le_refl _) (.cells #[.int .i64 0, .slice A l.length cv, .slice none 0 0] 57))
  refine bodyPost_ret (v := sgdV p 0 (.slice A l.length cv) (.slice none 0 0)) ?_ rfl ⟨.slice A l.length cv, by rw [Hpd.out], hb7, by rw [Hod.out]; exact hv2, Hfr.out⟩
  simp [results, Tryd.results44, go_sem, r0, r1, r2, r3, r4, r5, r6, q0, sgdV]
end Go.Proofs.YtpodfmnnabepaaaDoor

namespace Go.Proofs.YtpodfmnnabepaaaDoor
open Go.RowKit
open Ot (Dg)
/-- The seeds, keys, signed messages of the statement. -/
def dxK (i : Nat) : Dg := ⟨UInt32.ofNat i, 7, 0, 0⟩
noncomputable def kxK (i : Nat) : Dg := pubD (dxK i)
noncomputable def bsK (n : Nat) : List Dg := (List.range n).map kxK
noncomputable def sgK (m : Dg) (i : Nat) : Sg := ⟨kxK i, 0, oneD (dxK i) m, []⟩
noncomputable def lK (m : Dg) (a n : Nat) : List Sg := (Qu.places (fun i => decide (a ≤ i)) n).map (sgK m)
theorem bsK_length (n : Nat) : (bsK n).length = n := by simp [bsK]
theorem bsK_succ (n : Nat) : bsK (n + 1) = bsK n ++ [kxK n] := by simp [bsK, List.range_succ]
theorem bsK_get (n i : Nat) (h : i < n) : (bsK n).getD i Ot.zeroD = kxK i := by
  simp [bsK, List.getD_eq_getElem?_getD, h]
theorem sgOk_sgK (m : Dg) (i : Nat) : sgOk (kxK i) m (sgK m i) = true := sgOk_own (dxK i) m
theorem kxK_inj {n i j : Nat} (hn : (bsK n).Nodup) (hi : i < n) (hj : j < n) (h : kxK i = kxK j) : i = j := by
  have hp := List.pairwise_iff_getElem.1 hn
  have h1 : (bsK n)[i]'(by rw [bsK_length]; exact hi) = (bsK n)[j]'(by rw [bsK_length]; exact hj) := by simp [bsK, h]
  rcases Nat.lt_trichotomy i j with hl | rfl | hl
  · exact absurd h1 (hp i j _ _ hl)
  · rfl
  · exact absurd h1.symm (hp j i _ _ hl)
theorem agN_lK {m : Dg} {a n i : Nat} (hn : (bsK n).Nodup) (hi : i < n) : agN (bsK n) m (lK m a n) i = decide (a ≤ i) := by
  unfold agN
  rw [bsK_get n i hi]
  cases hd : decide (a ≤ i) with
  | true =>
    rw [List.any_eq_true]
    refine ⟨sgK m i, ?_, sgOk_sgK m i⟩
    exact List.mem_map.2 ⟨i, Qu.places_mem.2 ⟨hi, hd⟩, rfl⟩
  | false =>
    rw [List.any_eq_false]
    intro s hs
    obtain ⟨j, hj, rfl⟩ := List.mem_map.1 hs
    obtain ⟨hj1, hj2⟩ := Qu.places_mem.1 hj
    have : kxK j ≠ kxK i := fun e => by
      have := kxK_inj hn hj1 hi e
      subst this; rw [hd] at hj2; cases hj2
    simp [sgOk, sgK, this]
theorem whoN_lK {m : Dg} {a n : Nat} (hn : (bsK n).Nodup) (ha : a ≤ n) : (whoN (bsK n) m (lK m a n)).length = n - a := by
  unfold whoN
  rw [bsK_length, Qu.places_congr (q := fun i => decide (a ≤ i)) fun i hi => agN_lK hn hi, Qu.places_from a n ha]
theorem places_tail (a : Nat) : ∀ n, a < n → Qu.places (fun i => decide (a ≤ i)) n = a :: Qu.places (fun i => decide (a + 1 ≤ i)) n
  | 0, h => by omega
  | n + 1, h => by
    rw [Qu.places_succ, Qu.places_succ]
    by_cases e : a = n
    · subst e
      have h1 : Qu.places (fun i => decide (a ≤ i)) a = [] := List.eq_nil_iff_forall_not_mem.2 fun i hi => by have := Qu.places_mem.1 hi; simp at this; omega
      have h2 : Qu.places (fun i => decide (a + 1 ≤ i)) a = [] := List.eq_nil_iff_forall_not_mem.2 fun i hi => by have := Qu.places_mem.1 hi; simp at this; omega
      rw [h1, h2]; simp
    · rw [if_pos (by simp; omega), if_pos (by simp; omega), places_tail a n (by omega)]; simp
theorem lK_tail (m : Dg) (a n : Nat) (h : a < n) : (lK m a n).tail = lK m (a + 1) n := by
  unfold lK; rw [places_tail a n h]; rfl
theorem lK_succ (m : Dg) (a n : Nat) : lK m a (n + 1) = if a ≤ n then lK m a n ++ [sgK m n] else lK m a n := by
  unfold lK
  rw [Qu.places_succ]
  by_cases h : a ≤ n
  · rw [if_pos (by simpa using h), if_pos h]; simp
  · rw [if_neg (by simpa using h), if_neg h]
theorem SigAt.grown {w w' : World} {row : Option Nat} {v : Value} {l : List Dg} (h : SigAt w v l) (hg : w.grownBy w' row) (hne : ∀ b off n c, v = .slice (some ⟨b, off, none⟩) n c → some b ≠ row) : SigAt w' v l := by
  obtain ⟨A, c, rfl, hl, hc⟩ := h
  refine ⟨A, c, rfl, hl, fun hp => ?_⟩
  obtain ⟨b, off, rfl, hbl, hcs⟩ := hc hp
  have hb := hg.block b hbl (hne b off _ _ rfl)
  have kc : ∀ j, w'.cell? ⟨b, j, none⟩ = w.cell? ⟨b, j, none⟩ := fun j => World.cell?_of_block hb
  refine ⟨b, off, rfl, Nat.lt_of_lt_of_le hbl hg.size, fun i hi => ?_⟩
  obtain ⟨h0, h1, h2, h3⟩ := hcs i hi
  exact ⟨(kc _).trans h0, (kc _).trans h1, (kc _).trans h2, (kc _).trans h3⟩
/-- A signed message's seven cells. -/
def sevC (p : Sg × Value) : List Value := [.int .u32 p.1.b.a.toNat, .int .u32 p.1.b.b.toNat, .int .u32 p.1.b.c.toNat, .int .u32 p.1.b.d.toNat, .int .i64 p.1.i, p.2, .slice none 0 0]
/-- The round's state. -/
structure DoI (w W wr : World) (P : Nat) (m : Dg) (a nd k kl : Nat) (bv lv : Value) (es ps : List (Sg × Value)) : Prop where
  hb : Below w.heap.size w wr
  hm : Arr wr w.heap.size 4 (fnOf m)
  c0 : wr.cell? ⟨P, 0, none⟩ = some bv
  c1 : wr.cell? ⟨P, 1, none⟩ = some (.int .i64 (nd : Int))
  f0 : wr.frozen? ⟨P, 0, none⟩ = false
  hP : P < W.heap.size
  hPw : w.heap.size < P
  hs : W.heap.size ≤ wr.heap.size
  own1 : wr.ownsRow W.heap.size 24 4 bv k (dcs (bsK k))
  own2 : wr.ownsRow W.heap.size 59 7 lv es.length (es.flatMap sevC)
  hsig : ∀ p ∈ es ++ ps, SigAt wr p.2 p.1.one ∧ p.1.path = [] ∧ Fresh W.heap.size p.2 ∧ 0 < p.1.one.length
  d1 : ∀ g, bv.ownBlock = some g → lv.ownBlock ≠ some g
  d2 : ∀ p ∈ es ++ ps, ∀ b off n c, p.2 = .slice (some ⟨b, off, none⟩) n c → bv.ownBlock ≠ some b ∧ lv.ownBlock ≠ some b
  hes : es.map (·.1) = lK m a kl
theorem DoI.keep {w W wr w' : World} {P : Nat} {m : Dg} {a nd k kl : Nat} {bv lv : Value} {es ps : List (Sg × Value)} (h : DoI w W wr P m a nd k kl bv lv es ps) (hb : Below wr.heap.size wr w') : DoI w W w' P m a nd k kl bv lv es ps :=
  ⟨h.hb.trans (hb.mono h.hb.size), h.hm.keep hb (by decide), cell_keep h.c0 hb, cell_keep h.c1 hb, (hb.frozen (p := ⟨P, 0, none⟩) (World.block_lt_of_cell? wr _ h.c0)).trans h.f0, h.hP, h.hPw, Nat.le_trans h.hs hb.size, own_keep h.own1 hb, own_keep h.own2 hb,
    fun p hp => ⟨(h.hsig p hp).1.below hb, (h.hsig p hp).2⟩, h.d1, h.d2, h.hes⟩
theorem own_lt {w : World} {base n size : Nat} {e : TypeId} {v : Value} {xs : List Value} (h : w.ownsRow base e size v n xs) : ∀ g, v.ownBlock = some g → base ≤ g ∧ g < w.heap.size := by
  intro g hg
  rcases h.2 with ⟨rfl, h0⟩ | ⟨g', cap, cur, rfl, hb, hh, _⟩
  · cases hg
  · cases hg; exact ⟨hb, (Array.getElem?_eq_some_iff.1 hh).1⟩
theorem grown_set (w : World) (P j : Nat) (v : Value) : w.grownBy (w.setCell ⟨P, j, none⟩ v) (some P) :=
  ⟨rfl, rfl, rfl, by simp [World.setCell], fun k hk hn => Below.heap_setCell _ _ _ _ (fun e => hn (by rw [e]))⟩
theorem grown_cell {w w' : World} {row : Option Nat} {p : Addr} {v : Value} (h : w.cell? p = some v) (hg : w.grownBy w' row) (hn : some p.block ≠ row) : w'.cell? p = some v :=
  (World.cell?_of_block (hg.block _ (World.block_lt_of_cell? w _ h) hn)).trans h
/-- One is waiting. -/
theorem DoI.wait {w W wr : World} {P : Nat} {m : Dg} {a nd k kl : Nat} {bv lv : Value} {es : List (Sg × Value)} (h : DoI w W wr P m a nd k kl bv lv es []) {w1 : World} (hb : Below wr.heap.size wr w1) (p : Sg × Value) (h1 : SigAt w1 p.2 p.1.one) (h2 : p.1.path = []) (h3 : Fresh wr.heap.size p.2) (h4 : 0 < p.1.one.length) : DoI w W w1 P m a nd k kl bv lv es [p] := by
  have k1 := h.keep hb
  refine { k1 with hsig := fun q hq => ?_, d2 := fun q hq b off n c e => ?_ }
  · rcases List.mem_append.1 hq with hq | hq
    · exact k1.hsig q (by simpa using hq)
    · obtain rfl := List.mem_singleton.1 hq
      exact ⟨h1, h2, fun b off n c e => Nat.le_trans h.hs (h3 b off n c e), h4⟩
  · rcases List.mem_append.1 hq with hq | hq
    · exact k1.d2 q (by simpa using hq) b off n c e
    · obtain rfl := List.mem_singleton.1 hq
      have hb := h3 b off n c e
      refine ⟨fun e2 => ?_, fun e2 => ?_⟩
      · have := (own_lt h.own1 _ e2).2; omega
      · have := (own_lt h.own2 _ e2).2; omega
theorem DoI.push1 {w W wr w' : World} {P : Nat} {m : Dg} {a nd k kl : Nat} {bv bv' lv : Value} {es ps : List (Sg × Value)} (h : DoI w W wr P m a nd k kl bv lv es ps) (hown : w'.ownsRow W.heap.size 24 4 bv' (k + 1) (dcs (bsK (k + 1)))) (hg : wr.grownBy w' bv.ownBlock)
    (ho : bv'.ownBlock = bv.ownBlock ∨ bv'.ownBlock = some wr.heap.size) : DoI w W (w'.setCell ⟨P, 0, none⟩ bv') P m a nd (k + 1) kl bv' lv es ps := by
  have hrow : ∀ q, bv.ownBlock = some q → W.heap.size ≤ q := fun q hq => (own_lt h.own1 q hq).1
  have hPr : some P ≠ bv.ownBlock := fun e => by have := hrow P e.symm; have := h.hP; omega
  have hwr : some w.heap.size ≠ bv.ownBlock := fun e => by have := hrow _ e.symm; have := h.hP; have := h.hPw; omega
  have hb1 := h.hb.grown hg h.hb.size (fun q hq => by have := hrow q hq; have := h.hP; have := h.hPw; omega)
  have hne : ∀ g, bv'.ownBlock = some g → g ≠ P := fun g hg2 e => by have := (own_lt hown g hg2).1; have := h.hP; omega
  have hln : ∀ g, lv.ownBlock = some g → g ≠ P := fun g hg2 e => by have := (own_lt h.own2 g hg2).1; have := h.hP; omega
  have hgs := grown_set w' P 0 bv'
  have c0' := grown_cell h.c0 hg hPr
  have c1' := grown_cell h.c1 hg hPr
  have hfz : w'.frozen? ⟨P, 0, none⟩ = false := (World.frozen?_of_block (hg.block _ (World.block_lt_of_cell? wr _ h.c0) hPr)).trans h.f0
  refine ⟨hb1.setCell (by have := h.hPw; simp; omega) _, ?_, World.cell?_setCell_same _ _ _ c0', ?_, ?_, h.hP, h.hPw, ?_, ?_, ?_, fun p hp => ⟨?_, (h.hsig p hp).2⟩, ?_, ?_, h.hes⟩
  · intro j hj
    obtain ⟨h1, h2⟩ := h.hm j hj
    have k1 := grown_cell h1 hg hwr
    have k2 : w'.frozen? ⟨w.heap.size, j, none⟩ = false := (World.frozen?_of_block (hg.block _ (World.block_lt_of_cell? wr _ h1) hwr)).trans h2
    refine ⟨grown_cell k1 hgs (by have := h.hPw; simp; omega), by rw [World.frozen?_setCell]; exact k2⟩
  · rw [World.cell?_setCell_other _ _ _ _ (by simp)]; exact c1'
  · rw [World.frozen?_setCell]; exact hfz
  · have := hg.size; have := h.hs; simpa [World.setCell] using Nat.le_trans h.hs hg.size
  · refine hown.kept hgs ?_
    cases hv : bv'.ownBlock with
    | none => exact .inl rfl
    | some g => exact .inr fun e => hne g hv (by simpa using e)
  · refine (h.own2.kept hg ?_).kept hgs ?_
    · cases hv : lv.ownBlock with
      | none => exact .inl rfl
      | some g => exact .inr fun e => h.d1 g e.symm hv
    · cases hv : lv.ownBlock with
      | none => exact .inl rfl
      | some g => exact .inr fun e => hln g hv (by simpa using e)
  · have hd := h.d2 p hp
    have hf := (h.hsig p hp).2.2.1
    refine ((h.hsig p hp).1.grown hg fun b off n c e e2 => (hd b off n c e).1 e2.symm).grown hgs fun b off n c e e2 => ?_
    have := hf b off n c e
    have hbP : b = P := by simpa using e2
    have := h.hP; omega
  · intro g hg2 e
    rcases ho with ho | ho
    · exact h.d1 g (ho ▸ hg2) e
    · rw [ho] at hg2; cases hg2
      have := (own_lt h.own2 _ e).2; omega
  · intro p hp b off n c e
    have hd := h.d2 p hp b off n c e
    refine ⟨fun e2 => ?_, hd.2⟩
    rcases ho with ho | ho
    · exact hd.1 (ho ▸ e2)
    · rw [ho] at e2; cases e2
      obtain ⟨A, cc, e3, _, hc⟩ := (h.hsig p hp).1
      rw [e3] at e
      cases e
      obtain ⟨b', off', e4, hbl, _⟩ := hc (h.hsig p hp).2.2.2
      cases e4; omega
theorem DoI.push2 {w W wr w' : World} {P : Nat} {m : Dg} {a nd k kl : Nat} {bv lv lv' : Value} {es : List (Sg × Value)} {p : Sg × Value} (h : DoI w W wr P m a nd k kl bv lv es [p]) (hown : w'.ownsRow W.heap.size 59 7 lv' (es.length + 1) (es.flatMap sevC ++ sevC p)) (hg : wr.grownBy w' lv.ownBlock)
    (ho : lv'.ownBlock = lv.ownBlock ∨ lv'.ownBlock = some wr.heap.size) (hkl : lK m a (kl + 1) = lK m a kl ++ [p.1]) : DoI w W w' P m a nd k (kl + 1) bv lv' (es ++ [p]) [] := by
  have hrow : ∀ q, lv.ownBlock = some q → W.heap.size ≤ q := fun q hq => (own_lt h.own2 q hq).1
  have hPr : some P ≠ lv.ownBlock := fun e => by have := hrow P e.symm; have := h.hP; omega
  have hwr : some w.heap.size ≠ lv.ownBlock := fun e => by have := hrow _ e.symm; have := h.hP; have := h.hPw; omega
  have hb1 := h.hb.grown hg h.hb.size (fun q hq => by have := hrow q hq; have := h.hP; have := h.hPw; omega)
  refine ⟨hb1, ?_, grown_cell h.c0 hg hPr, grown_cell h.c1 hg hPr, (World.frozen?_of_block (hg.block _ (World.block_lt_of_cell? wr _ h.c0) hPr)).trans h.f0, h.hP, h.hPw, Nat.le_trans h.hs hg.size, ?_, ?_, fun q hq => ⟨?_, (h.hsig q (by simpa using hq)).2⟩, ?_, ?_, ?_⟩
  · intro j hj
    obtain ⟨h1, h2⟩ := h.hm j hj
    exact ⟨grown_cell h1 hg hwr, (World.frozen?_of_block (hg.block _ (World.block_lt_of_cell? wr _ h1) hwr)).trans h2⟩
  · refine h.own1.kept hg ?_
    cases hv : bv.ownBlock with
    | none => exact .inl rfl
    | some g => exact .inr fun e => h.d1 g hv e.symm
  · simpa using hown
  · have hq' : q ∈ es ++ [p] := by simpa using hq
    have hd := h.d2 q hq'
    exact (h.hsig q hq').1.grown hg fun b off n c e e2 => (hd b off n c e).2 e2.symm
  · intro g hg2 e
    rcases ho with ho | ho
    · exact h.d1 g hg2 (ho ▸ e)
    · rw [ho] at e; cases e
      have := (own_lt h.own1 _ hg2).2; omega
  · intro q hq b off n c e
    have hq' : q ∈ es ++ [p] := by simpa using hq
    have hd := h.d2 q hq' b off n c e
    refine ⟨hd.1, fun e2 => ?_⟩
    rcases ho with ho | ho
    · exact hd.2 (ho ▸ e2)
    · rw [ho] at e2; cases e2
      obtain ⟨A, cc, e3, _, hc⟩ := (h.hsig q hq').1
      rw [e3] at e
      cases e
      obtain ⟨b', off', e4, hbl, _⟩ := hc (h.hsig q hq').2.2.2
      cases e4; omega
  · rw [List.map_append, h.hes, hkl]; rfl
theorem DoI.skip {w W wr : World} {P : Nat} {m : Dg} {a nd k kl : Nat} {bv lv : Value} {es ps : List (Sg × Value)} (h : DoI w W wr P m a nd k kl bv lv es ps) (hkl : lK m a (kl + 1) = lK m a kl) : DoI w W wr P m a nd k (kl + 1) bv lv es [] :=
  { h with hsig := fun p hp => h.hsig p (by simp at hp; simp [hp]), d2 := fun p hp => h.d2 p (by simp at hp; simp [hp]), hes := by rw [h.hes, hkl] }
theorem sevC_one (p : Sg × Value) (h : p.2.oneCell' = true) : ∀ u ∈ sevC p, u.oneCell' = true := by
  intro u hu
  simp only [sevC, List.mem_cons, List.not_mem_nil, or_false] at hu
  rcases hu with rfl | rfl | rfl | rfl | rfl | rfl | rfl <;> first | rfl | exact h
theorem Tryd.info59 : (Tryd.prog.info? 59).map (fun i => (i.zero, i.size, i.bytes)) = some (some (.agg #[.int .u32 0, .int .u32 0, .int .u32 0, .int .u32 0, .int .i64 0, .slice none 0 0, .slice none 0 0]), 7, 72) := by kernel_rfl
/-- The row of signed messages reads as they are. -/
theorem sev_row : ∀ (es : List (Sg × Value)) (w : World) (b : Nat) (o : Nat), (∀ j u, (es.flatMap sevC)[j]? = some u → w.cell? ⟨b, o + j, none⟩ = some u) → (∀ p ∈ es, SigAt w p.2 p.1.one ∧ p.1.path = []) → ∀ i, i < es.length → SgAt w b (o + i * 7) ((es.map (·.1)).getD i zeroSg)
  | [], _, _, _, _, _, i, hi => by simp at hi
  | p :: es, w, b, o, hc, hs, i, hi => by
    have hc0 : ∀ j u, (sevC p)[j]? = some u → w.cell? ⟨b, o + j, none⟩ = some u := fun j u hu => hc j u (by
      have hj : j < (sevC p).length := (List.getElem?_eq_some_iff.1 hu).1
      rw [List.flatMap_cons, List.getElem?_append_left hj]; exact hu)
    cases i with
    | zero =>
      obtain ⟨h1, h2⟩ := hs p (by simp)
      simp only [List.map_cons, List.getD_cons_zero, Nat.zero_mul, Nat.add_zero]
      refine ⟨⟨hc0 0 _ rfl, hc0 1 _ rfl, hc0 2 _ rfl, hc0 3 _ rfl⟩, hc0 4 _ rfl, _, _, hc0 5 _ rfl, hc0 6 _ rfl, h1, ?_⟩
      rw [h2]; exact PathAt_nil _
    | succ i =>
      have := sev_row es w b (o + 7) (fun j u hu => by
        have h7 : (sevC p).length = 7 := rfl
        have := hc (7 + j) u (by rw [List.flatMap_cons, List.getElem?_append_right (by rw [h7]; omega), h7]; simpa using hu)
        rwa [show o + 7 + j = o + (7 + j) by omega]) (fun q hq => hs q (by simp [hq])) i (by simpa using hi)
      rw [show o + (i + 1) * 7 = o + 7 + i * 7 by omega]
      simpa using this
theorem DoI.sgs {w W wr : World} {P : Nat} {m : Dg} {a nd k kl : Nat} {bv lv : Value} {es ps : List (Sg × Value)} (h : DoI w W wr P m a nd k kl bv lv es ps) (he : es ≠ []) : ∃ g c, lv = .slice (some ⟨g, 0, none⟩) es.length c ∧ es.length ≤ c ∧ c ≤ 9223372036854775807 ∧ SgsAt wr lv (lK m a kl) ∧ ∀ c', SgsAt wr (.slice (some ⟨g, 7, none⟩) (es.length - 1) c') (lK m a kl).tail := by
  have hown := h.own2
  have hlen : (lK m a kl).length = es.length := by rw [← h.hes, List.length_map]
  have h0 : 0 < es.length := List.length_pos_iff.2 he
  rcases hown.2 with ⟨rfl, h1⟩ | ⟨g, cap, cur, rfl, hb, hh, h1, h2, _⟩
  · omega
  · have ad : ∀ j, (⟨g, 0, none⟩ : Addr).add j = ⟨g, j, none⟩ := add_at g
    have c := fun j u hu => (ad j) ▸ hown.cells (g := g) rfl j u hu
    have hmax : cap ≤ 9223372036854775807 := by simpa [maxLen] using h2
    have hrow := sev_row es wr g 0 (fun j u hu => by rw [Nat.zero_add]; exact c j u hu) (fun p hp => by have := h.hsig p (by simp [hp]); exact ⟨this.1, this.2.1⟩)
    rw [h.hes] at hrow
    refine ⟨g, cap, rfl, h1, hmax, ⟨some ⟨g, 0, none⟩, cap, by rw [hlen], by rw [hlen]; omega, fun _ => ⟨g, 0, rfl, fun i hi => hrow i (by rw [← hlen]; exact hi)⟩⟩, fun c' => ⟨some ⟨g, 7, none⟩, c', by rw [List.length_tail, hlen], by rw [List.length_tail, hlen]; omega, fun hp => ⟨g, 7, rfl, fun i hi => ?_⟩⟩⟩
    rw [List.length_tail, hlen] at hi
    have := hrow (i + 1) (by omega)
    rw [show 0 + (i + 1) * 7 = 7 + i * 7 by omega] at this
    have e : (lK m a kl).getD (i + 1) zeroSg = (lK m a kl).tail.getD i zeroSg := by cases lK m a kl <;> simp
    rwa [e] at this
end Go.Proofs.YtpodfmnnabepaaaDoor

namespace Go.Proofs.YtpodfmnnabepaaaDoor
open Go.RowKit
open Ot (Dg)
set_option maxRecDepth 100000 in
set_option maxHeartbeats 8000000 in
theorem ldoes_any (m : Dg) (x y : UInt8) (w : World) (ht : Tn w) :
    Calls Tryd.prog 14 #[dgv m, .int .u8 (x.toNat : Nat), .int .u8 (y.toNat : Nat)] w fun e w' => e = .returned (.bool true) ∧ Below w.heap.size w w' := by
  obtain ⟨i0, hi, hz0, hz1, hz2⟩ := info_parts Tryd.info24
  obtain ⟨j0, hj, hy0, hy1, hy2⟩ := info_parts Tryd.info59
  have hx := x.toNat_lt
  have hy := y.toNat_lt
  generalize x.toNat = X at *
  generalize y.toNat = Y at *
  obtain ⟨N, hN, hN1, hN4⟩ : ∃ N : Nat, 1 + (X : Int) % 4 = (N : Int) ∧ 1 ≤ N ∧ N ≤ 4 := ⟨1 + X % 4, by omega, by omega, by omega⟩
  obtain ⟨D, hD0, hD1, hD2⟩ : ∃ D : Nat, 1 + (Y : Int) % (N : Int) = (D : Int) ∧ 1 ≤ D ∧ D ≤ N := by
    have h1 : 0 < N := hN1
    have h2 : Y % N < N := Nat.mod_lt _ h1
    exact ⟨1 + Y % N, by push_cast; rfl, by omega, by omega⟩
  have hD : wrap64 (1 + (Y : Int) % (N : Int)) = (D : Int) := by rw [hD0]; unfold wrap64; omega
  have hNz : ((N : Int) == 0) = false := by simp; omega
  clear hD0
  generalize hW : (w.alloc (.cells #[.int .u32 m.a.toNat, .int .u32 m.b.toNat, .int .u32 m.c.toNat, .int .u32 m.d.toNat] 24)).alloc (.cells #[.slice none 0 0, .int .i64 (D : Int)] 47) = W
  have hI : DoI w W W (w.heap.size + 1) m (N - D) D 0 0 (.slice none 0 0) (.slice none 0 0) [] [] := by
    have hb : Below w.heap.size w W := by subst hW; exact ((Below.refl _ _).alloc (Nat.le_refl _) _).alloc (by simp) _
    subst hW
    refine ⟨hb, (Arr.new w 4 (fnOf m) 24 _ rfl).alloc (by simp) _, World.cell?_alloc_at _ _ _ _ (by simp), World.cell?_alloc_at _ _ _ _ (by simp), ?_, (by simp), (by omega), Nat.le_refl _, World.ownsRow_nil _ _ _ _, World.ownsRow_nil _ _ _ _, (fun p hp => by simp at hp), (fun g e => by cases e), (fun p hp => by simp at hp), rfl⟩
    have hz : w.heap.size + 1 = (w.alloc (.cells #[.int .u32 m.a.toNat, .int .u32 m.b.toNat, .int .u32 m.c.toNat, .int .u32 m.d.toNat] 24)).heap.size := by simp
    rw [hz]
    have := World.frozen?_alloc_new (w.alloc (.cells #[.int .u32 m.a.toNat, .int .u32 m.b.toNat, .int .u32 m.c.toNat, .int .u32 m.d.toNat] 24)) #[.slice none 0 0, .int .i64 (D : Int)] 47 0
    exact this
  have HI := Lib.hid hI; clear hI
  go_enter Tryd.func14, Tryd.ntmps14
  go_wp2_with fail
  have HW := Lib.hid hW
  clear hW hN hD hNz hx hy
  go_loopw [9, 10] (fun l i wr => ∃ (k : Nat) (bv : Value) (es : List (Sg × Value)), k ≤ N ∧ i = .int .i64 k ∧ DoI w W wr (w.heap.size + 1) m (N - D) D k k bv l es []) (fun _ i _ => N - (intOf i).toNat)
  case atStart => exact ⟨0, _, [], by omega, rfl, HI.out⟩
  case round =>
    obtain ⟨k, bv, es, hk, rfl, hI⟩ := hrel
    by_cases hlt : k < N
    · have hd : decide ((k : Int) < (N : Int)) = true := decide_eq_true (by omega)
      have HI := Lib.hid hI
      obtain ⟨m0, m1, m2, m3⟩ := hI.hm.dg
      clear hI
      go_wp2_with fail
      have hds : dgv (dxK k) = .agg #[.int .u32 (k : Int), .int .u32 7, .int .u32 0, .int .u32 0] := by
        have : (UInt32.ofNat k).toNat = k := by rw [UInt32.toNat_ofNat']; omega
        simp only [dgv, dxK, this]; rfl
      have hcall := lsign_fresh (dxK k) m wr
      rw [hds] at hcall
      refine Calls.mono hcall ?_
      clear hcall hds m0 m1 m2 m3
      rintro e w1 ⟨v, rfl, hb1, hv, hfr⟩
      have hl35 : (oneD (dxK k) m).length = 35 := Ot.sign_length pair _ m
      have hw1s : wr.heap.size ≤ w1.heap.size := hb1.size
      have hwrs := HI.out.hs
      have hblt : ∀ q, bv.ownBlock = some q → q < wr.heap.size := fun q hq => (own_lt HI.out.own1 q hq).2
      have hI1 := HI.out.wait hb1 (sgK m k, v) hv rfl hfr (show 0 < (oneD (dxK k) m).length by omega)
      obtain ⟨A, cv, hve, _⟩ := hv
      generalize (oneD (dxK k) m).length = n35 at hve
      clear hl35
      have hone : v.oneCell' = true := by rw [hve]; rfl
      have hkx : pubD (dxK k) = kxK k := rfl
      rw [hkx]
      have hsev : sevC (sgK m k, v) = [.int .u32 (kxK k).a.toNat, .int .u32 (kxK k).b.toNat, .int .u32 (kxK k).c.toNat, .int .u32 (kxK k).d.toNat, .int .i64 0, v, .slice none 0 0] := rfl
      have hbsk := bsK_succ k
      have Hbsk := Lib.hid hbsk; have Hsev := Lib.hid hsev; have Hone := Lib.hid hone
      generalize kxK k = z at *
      clear hbsk hsev hone hkx hfr hb1 HI
      -- the new signed message in a block of its own
      have hI2 := hI1.keep ((Below.refl _ _).alloc (Nat.le_refl _) (.cells #[.int .u32 z.a.toNat, .int .u32 z.b.toNat, .int .u32 z.c.toNat, .int .u32 z.d.toNat, .int .i64 0, v, .slice none 0 0] 59))
      have hcs := fun j => World.cell?_alloc_new w1 #[.int .u32 z.a.toNat, .int .u32 z.b.toNat, .int .u32 z.c.toNat, .int .u32 z.d.toNat, .int .i64 0, v, .slice none 0 0] 59 j
      have hw2s : (w1.alloc (.cells #[.int .u32 z.a.toNat, .int .u32 z.b.toNat, .int .u32 z.c.toNat, .int .u32 z.d.toNat, .int .i64 0, v, .slice none 0 0] 59)).heap.size = w1.heap.size + 1 := by simp
      have s0 := hcs 0; have s1 := hcs 1; have s2 := hcs 2; have s3 := hcs 3; have s4 := hcs 4; have s5 := hcs 5; have s6 := hcs 6
      simp only [List.getElem?_toArray, List.getElem?_cons_succ, List.getElem?_cons_zero] at s0 s1 s2 s3 s4 s5 s6
      have p0 := hI2.c0
      have HI2 := Lib.hid hI2
      clear hcs hI1 hI2
      unfold sgdV
      subst hve
      have hI3 := HI2.out.keep ((Below.refl _ _).alloc (Nat.le_refl _) (.cells #[.int .u32 z.a.toNat, .int .u32 z.b.toNat, .int .u32 z.c.toNat, .int .u32 z.d.toNat] 24))
      have HI3 := Lib.hid hI3
      have hown3 := hI3.own1
      have hs3 := hI3.hs
      clear hI3
      go_wp2_with (at_builtin; refine wpList_append_own_at _ rfl _ _ 32 rfl W.heap.size 24 i0 (dgv Ot.zeroD) 4 16 Tryd.underlying32 hi hz0 hz1 hz2 rfl (by decide) _ _ _ rfl hown3 ⟨w1.heap.size + 1, 0, none⟩ 1 1 [.int .u32 z.a.toNat, .int .u32 z.b.toNat, .int .u32 z.c.toNat, .int .u32 z.d.toNat] rfl rfl ?c1 ?c2 ?c3 ?c4 ?c5 ?_)
      case c1 =>
        intro j u hu
        have hD := (Arr.new' (w1.alloc (.cells #[.int .u32 z.a.toNat, .int .u32 z.b.toNat, .int .u32 z.c.toNat, .int .u32 z.d.toNat, .int .i64 0, .slice A n35 cv, .slice none 0 0] 59)) (w1.heap.size + 1) 4 (fnOf z) 24 #[.int .u32 z.a.toNat, .int .u32 z.b.toNat, .int .u32 z.c.toNat, .int .u32 z.d.toNat] (by simp) rfl).dg
        rw [add_at]
        obtain ⟨d0, d1, d2, d3⟩ := hD
        match j, hu with
        | 0, hu => simpa using d0.trans hu
        | 1, hu => simpa using d1.trans hu
        | 2, hu => simpa using d2.trans hu
        | 3, hu => simpa using d3.trans hu
      case c2 => exact dg_one z
      case c3 => unfold maxLen; omega
      case c4 => omega
      case c5 => exact hs3
      intro bv' w4 hown4 hg4 _ hob
      have hown5 : w4.ownsRow W.heap.size 24 4 bv' (k + 1) (dcs (bsK (k + 1))) := by rw [Hbsk.out, dcs_snoc]; exact hown4
      have hI3 := HI3.out
      obtain ⟨A4, c4, rfl⟩ := own_slice hown5
      have hI4 := hI3.push1 hown5 hg4 (by simpa using hob)
      have hrow : ∀ q, bv.ownBlock = some q → W.heap.size ≤ q ∧ q < wr.heap.size := fun q hq => ⟨(own_lt hI3.own1 q hq).1, hblt q hq⟩
      have hPr : some (w.heap.size + 1) ≠ bv.ownBlock := fun e => by have := (hrow _ e.symm).1; have := hI3.hP; omega
      have hSr : some w1.heap.size ≠ bv.ownBlock := fun e => by have := (hrow _ e.symm).2; have := hw1s; omega
      have e0 := grown_cell hI3.c0 hg4 hPr
      have e1 := grown_cell hI3.c1 hg4 hPr
      have z0 : w4.frozen? ⟨w.heap.size + 1, 0, none⟩ = false := (World.frozen?_of_block (hg4.block _ (World.block_lt_of_cell? _ _ hI3.c0) hPr)).trans hI3.f0
      have hSP : w1.heap.size ≠ w.heap.size + 1 := by have := hw1s; have := hI3.hP; have := hwrs; omega
      have hSP' : w.heap.size + 1 ≠ w1.heap.size := Ne.symm hSP
      have hkp : ∀ (j : Nat) (u : Value), (w1.alloc (.cells #[.int .u32 z.a.toNat, .int .u32 z.b.toNat, .int .u32 z.c.toNat, .int .u32 z.d.toNat, .int .i64 0, .slice A n35 cv, .slice none 0 0] 59)).cell? ⟨w1.heap.size, j, none⟩ = some u → (w4.setCell ⟨w.heap.size + 1, 0, none⟩ (.slice A4 (k + 1) c4)).cell? ⟨w1.heap.size, j, none⟩ = some u := fun j u hu => by
        have h1 := cell_past (.cells #[.int .u32 z.a.toNat, .int .u32 z.b.toNat, .int .u32 z.c.toNat, .int .u32 z.d.toNat] 24) hu
        have h2 := grown_cell h1 hg4 hSr
        exact grown_cell h2 (grown_set w4 _ 0 (.slice A4 (k + 1) c4)) (by simpa using hSP)
      have S0 := Lib.hid (hkp 0 _ s0); have S1 := Lib.hid (hkp 1 _ s1); have S2 := Lib.hid (hkp 2 _ s2); have S3 := Lib.hid (hkp 3 _ s3); have S4 := Lib.hid (hkp 4 _ s4); have S5 := Lib.hid (hkp 5 _ s5); have S6 := Lib.hid (hkp 6 _ s6)
      have p1 := hI4.c1
      have HI4 := Lib.hid hI4
      clear hkp s0 s1 s2 s3 s4 s5 s6 hrow hPr hSr hI4 hI3 hown5 hown4 hown3 hg4 HI3 HI2 p0 hs3 hw2s hSP hSP'
      have t9 : IntKind.i64.wrap ((N : Int) - (D : Int)) = ((N - D : Nat) : Int) := by rw [show (N : Int) - D = ((N - D : Nat) : Int) by omega]; exact IntWalk.i64_in _ (by omega)
      have q1 : IntKind.i64.wrap ((k : Int) + 1) = (k : Int) + 1 := IntWalk.i64_in _ (by omega)
      have hlk := lK_succ m (N - D) k
      have Hlk := Lib.hid hlk; clear hlk
      by_cases ha : N - D ≤ k
      · have ta : decide (((N - D : Nat) : Int) ≤ (k : Int)) = true := decide_eq_true (by omega)
        have s0 := S0.out; have s1 := S1.out; have s2 := S2.out; have s3 := S3.out; have s4 := S4.out; have s5 := S5.out; have s6 := S6.out
        have hI5 := HI4.out.keep ((Below.refl _ _).alloc (Nat.le_refl _) (.cells #[.int .u32 z.a.toNat, .int .u32 z.b.toNat, .int .u32 z.c.toNat, .int .u32 z.d.toNat, .int .i64 0, .slice A n35 cv, .slice none 0 0] 59))
        have HI5 := Lib.hid hI5
        have hown5 := hI5.own2
        have hs5 := hI5.hs
        have hel : es.length ≤ 4 := by
          have h1 := congrArg List.length hI5.hes
          have h2 := Qu.places_le (fun i => decide (N - D ≤ i)) k
          simp only [lK, List.length_map] at h1
          omega
        clear hI5
        go_wp2_with (at_builtin; refine wpList_append_own_at _ rfl _ _ 50 rfl W.heap.size 59 j0 (.agg #[.int .u32 0, .int .u32 0, .int .u32 0, .int .u32 0, .int .i64 0, .slice none 0 0, .slice none 0 0]) 7 72 Tryd.underlying50 hj hy0 hy1 hy2 rfl (by decide) _ _ _ rfl hown5 ⟨w4.heap.size, 0, none⟩ 1 1 [.int .u32 z.a.toNat, .int .u32 z.b.toNat, .int .u32 z.c.toNat, .int .u32 z.d.toNat, .int .i64 0, .slice A n35 cv, .slice none 0 0] rfl rfl ?c1 ?c2 ?c3 ?c4 ?c5 ?_)
        case c1 =>
          intro j u hu
          rw [add_at]
          have hcz := World.cell?_alloc_new (w4.setCell ⟨w.heap.size + 1, 0, none⟩ (.slice A4 (k + 1) c4)) #[.int .u32 z.a.toNat, .int .u32 z.b.toNat, .int .u32 z.c.toNat, .int .u32 z.d.toNat, .int .i64 0, .slice A n35 cv, .slice none 0 0] 59 j
          have hz5 : (w4.setCell ⟨w.heap.size + 1, 0, none⟩ (.slice A4 (k + 1) c4)).heap.size = w4.heap.size := by simp
          rw [hz5] at hcz
          rw [hcz]
          simpa using hu
        case c2 => rw [← Hsev.out]; exact sevC_one _ Hone.out
        case c3 => unfold maxLen; omega
        case c4 => omega
        case c5 => exact hs5
        intro lv' w6 hown6 hg6 _ hob6
        have hI6 := HI5.out.push2 (p := (sgK m k, .slice A n35 cv)) (by rw [Hsev.out]; exact hown6) hg6 (by simpa using hob6) (by rw [Hlk.out, if_pos ha])
        have HI6 := Lib.hid hI6
        clear hI6 hown6 hg6 hob6 HI5 HI4 s0 s1 s2 s3 s4 s5 s6 S0 S1 S2 S3 S4 S5 S6 p1 e0 e1 z0
        go_wp2_with fail
        refine ⟨⟨k + 1, .slice A4 (k + 1) c4, es ++ [(sgK m k, .slice A n35 cv)], by omega, by simp, HI6.out⟩, ?_⟩
        simp [intOf]; omega
      · have ta : decide (((N - D : Nat) : Int) ≤ (k : Int)) = false := decide_eq_false (by omega)
        go_wp2_with fail
        refine ⟨⟨k + 1, .slice A4 (k + 1) c4, es, by omega, by simp, ?_⟩, ?_⟩
        · exact HI4.out.skip (by rw [Hlk.out, if_neg ha])
        · simp [intOf]; omega
    · obtain rfl : k = N := by omega
      have hd : decide ((k : Int) < (k : Int)) = false := by simp
      have hbs := own_sig hI.own1
      have hcap := own_capd hI.own1
      obtain ⟨A7, c7, rfl⟩ := own_slice hI.own1
      have hlkl : (lK m (k - D) k).length = D := by
        rw [lK, List.length_map, Qu.places_from _ _ (by omega)]; omega
      have hel : es.length = D := by rw [← hlkl, ← hI.hes, List.length_map]
      have hes0 : es ≠ [] := by
        intro e
        rw [e] at hel; simp at hel; omega
      obtain ⟨g, cl, hlv, hc1, hc2, hsg, hst⟩ := hI.sgs hes0
      rw [hel] at hlv hc1 hst
      subst hlv
      have hst : SgsAt wr (.slice (if cl = 1 then some ⟨g, 0, none⟩ else some ⟨g, 7, none⟩) (D - 1) (cl - 1)) (lK m (k - D) k).tail := by
        by_cases h1 : cl = 1
        · rw [if_pos h1]
          have hl0 : (lK m (k - D) k).tail.length = D - 1 := by rw [List.length_tail, hlkl]
          exact ⟨_, _, by rw [hl0], by omega, fun hp => by omega⟩
        · rw [if_neg h1]; exact hst (cl - 1)
      have c0 := hI.c0
      have c1 := hI.c1
      have hm := hI.hm
      have htr := ht.below hI.hb
      have hbr := hI.hb
      have Hbs := Lib.hid hbs; have Hcap := Lib.hid hcap; have Hsg := Lib.hid hsg; have Hst := Lib.hid hst; have Hm := Lib.hid hm; have Htr := Lib.hid htr; have Hbr := Lib.hid hbr; have HI9 := Lib.hid hI; have Hlkl := Lib.hid hlkl
      clear hbs hcap hsg hst hm htr hbr hI hes0 hel hlkl
      go_wp2_with fail
      refine (rright_any _ (bsK k) D _ Hbs.out).mono ?_
      rintro e w7 ⟨rfl, hb7⟩
      generalize hr : rightP (bsK k) D = r
      have Hr := Lib.hid hr; clear hr
      cases r with
      | false =>
        go_wp2_with fail
        refine (qawake_any _ (Htr.out.below hb7)).mono ?_
        rintro e w8 ⟨rfl, hb8⟩
        go_wp2_with fail
        exact bodyPost_ret (v := .bool true) (by simp [results, Tryd.results14, go_sem]) rfl ⟨rfl, (Hbr.out.trans (hb7.mono Hbr.out.size)).trans (hb8.mono (Hbr.out.trans (hb7.mono Hbr.out.size)).size)⟩
      | true =>
      have hnd : (bsK k).Nodup := by
        have := Hr.out
        simp only [rightP, Bool.and_eq_true, decide_eq_true_eq] at this
        exact this.2
      have hw1 : (whoN (bsK k) m (lK m (k - D) k)).length = D := by rw [whoN_lK hnd (by omega)]; omega
      have hH : holdsN (bsK k) D m (lK m (k - D) k) = true := by rw [holdsN, Hr.out, hw1]; simp
      have hT : holdsN (bsK k) D m (lK m (k - D) k).tail = false := by
        rw [lK_tail m _ _ (by omega), holdsN, whoN_lK hnd (by omega)]
        simp; omega
      have c07 := cell_keep c0 hb7; have c17 := cell_keep c1 hb7
      have Hbs7 := Lib.hid (Hbs.out.below hb7); have Hsg7 := Lib.hid (Hsg.out.keep hb7); have Hst7 := Lib.hid (Hst.out.keep hb7); have Htr7 := Lib.hid (Htr.out.below hb7); have Hbr7 := Lib.hid (Hbr.out.trans (hb7.mono Hbr.out.size))
      have hm7 := Hm.out.keep hb7 (by decide)
      obtain ⟨m0, m1, m2, m3⟩ := hm7.dg
      have Hm7 := Lib.hid hm7; have HH := Lib.hid hH; have HT := Lib.hid hT; have Hw1 := Lib.hid hw1
      clear hm7 hH hT hw1 hnd hb7 Hbs Hsg Hst Htr Hbr Hm c0 c1
      go_wp2_with fail
      refine (who_any (bsK k) D m (lK m (k - D) k) _ _ _ Htr7.out Hbs7.out Hsg7.out Hcap.out (by rw [bsK_length]; omega)).mono ?_
      rintro e w8 ⟨v8, rfl, hb8, hown8⟩
      rw [Hw1.out] at hown8
      obtain ⟨A8, c8, rfl⟩ := own_slice hown8
      have hS8 := And.intro (cell_keep c07 hb8) (And.intro (cell_keep c17 hb8) (And.intro (Hm7.out.keep hb8 (by decide)) (And.intro (Hbs7.out.below hb8) (And.intro (Hsg7.out.keep hb8) (And.intro (Hst7.out.keep hb8) (And.intro (Htr7.out.below hb8) (Hbr7.out.trans (hb8.mono Hbr7.out.size))))))))
      have Hb8d : Below w8.heap.size w8 w8.drew := (Below.refl _ _).drew
      have HS8 := Lib.hid (And.intro (cell_keep hS8.1 Hb8d) (And.intro (cell_keep hS8.2.1 Hb8d) (And.intro (hS8.2.2.1.keep Hb8d (by decide)) (And.intro (hS8.2.2.2.1.below Hb8d) (And.intro (hS8.2.2.2.2.1.keep Hb8d) (And.intro (hS8.2.2.2.2.2.1.keep Hb8d) (And.intro (hS8.2.2.2.2.2.2.1.below Hb8d) (hS8.2.2.2.2.2.2.2.trans (Hb8d.mono hS8.2.2.2.2.2.2.2.size)))))))))
      have Hc1 := Lib.hid hc1; have HD1 := Lib.hid hD1
      have hdc : IntKind.i64.wrap ((D : Int) - 1) = ((D - 1 : Nat) : Int) := by rw [show (D : Int) - 1 = ((D - 1 : Nat) : Int) by omega]; exact IntWalk.i64_in _ (by omega)
      have Hdc := Lib.hid hdc
      clear hdc hS8 Hb8d hb8 hown8 c07 c17 m0 m1 m2 m3 Hbs7 Hsg7 Hst7 Htr7 Hm7
      go_upto_region 14 with fail
      refine wp_region_invG (fun wx => wx.cell? ⟨w.heap.size + 1, 0, none⟩ = some (.slice A7 k c7) ∧ wx.cell? ⟨w.heap.size + 1, 1, none⟩ = some (.int .i64 (D : Int)) ∧ Arr wx w.heap.size 4 (fnOf m) ∧ SigAt wx (.slice A7 k c7) (bsK k) ∧ SgsAt wx (.slice (some ⟨g, 0, none⟩) D cl) (lK m (k - D) k) ∧ SgsAt wx (.slice (if cl = 1 then some ⟨g, 0, none⟩ else some ⟨g, 7, none⟩) (D - 1) (cl - 1)) (lK m (k - D) k).tail ∧ Tn wx ∧ Below w.heap.size w wx) (fun j v w' => match j with | 0 => v = .bool true | 1 => v = .bool true | 2 => v = polV (.slice A7 k c7) (D : Int) | 3 => v = dgv m | 4 => v = (.slice (some ⟨g, 0, none⟩) D cl) | 5 => v = .bool true | 6 => v = .bool true | 7 => v = .bool true | 8 => v = (.slice A8 D c8) | 9 => v = .int .i64 (D : Int) | 10 => v = .pointer (some ⟨w.heap.size + 1, 1, none⟩) | 11 => v = .int .i64 (D : Int) | 12 => v = .bool true | 13 => v = .bool true | 14 => v = .bool true | 15 => v = polV (.slice A7 k c7) (D : Int) | 16 => v = dgv m | 17 => v = (.slice (some ⟨g, 0, none⟩) D cl) | 18 => v = (.slice (if cl = 1 then some ⟨g, 0, none⟩ else some ⟨g, 7, none⟩) (D - 1) (cl - 1)) | 19 => v = .bool false | 20 => v = .bool true | _ => True) 21 (by kernel_rfl) (by kernel_rfl) HS8.out (fun _ _ h hb => ⟨cell_keep h.1 hb, cell_keep h.2.1 hb, h.2.2.1.keep hb (by decide), h.2.2.2.1.below hb, h.2.2.2.2.1.keep hb, h.2.2.2.2.2.1.keep hb, h.2.2.2.2.2.2.1.below hb, h.2.2.2.2.2.2.2.trans (hb.mono h.2.2.2.2.2.2.2.size)⟩) ?_ ?_ ?_
      · rintro (_|_|_|_|_|_|_|_|_|_|_|_|_|_|_|_|_|_|_|_|_|j) v w1 w2 hb h
        all_goals exact h
      · refine ⟨fun us wx hx hd => ?_, fun us wx hx hd => ?_, fun us wx hx hd => ?_, fun us wx hx hd => ?_, fun us wx hx hd => ?_, fun us wx hx hd => ?_, fun us wx hx hd => ?_, fun us wx hx hd => ?_, fun us wx hx hd => ?_, fun us wx hx hd => ?_, fun us wx hx hd => ?_, fun us wx hx hd => ?_, fun us wx hx hd => ?_, fun us wx hx hd => ?_, fun us wx hx hd => ?_, fun us wx hx hd => ?_, fun us wx hx hd => ?_, fun us wx hx hd => ?_, fun us wx hx hd => ?_, fun us wx hx hd => ?_, fun us wx hx hd => ?_, trivial⟩
        all_goals simp only [putAll, dstOf, List.getElem?_toArray, List.getElem?_cons_succ, List.getElem?_cons_zero, Option.bind_some]
        all_goals go_frame
        · refine .inl ⟨?_, ?_⟩
          · rfl
          go_simp
          refine (qawake_any _ hx.2.2.2.2.2.2.1).mono ?_
          rintro e w1 ⟨rfl, hb1⟩
          exact ⟨_, rfl, rfl, hb1⟩
        · refine .inl ⟨?_, ?_⟩
          · rfl
          rw [show us 0 = .bool true from hd 0 rfl]
          have HX := Lib.hid hx; clear hx
          go_simp
          first | exact Below.refl _ _ | exact ⟨rfl, Below.refl _ _⟩ | exact ⟨by and_intros <;> rfl, Below.refl _ _⟩ | exact ⟨by first | rfl | (congr 1; omega) | omega, Below.refl _ _⟩
        · refine .inl ⟨?_, ?_⟩
          · rw [show us 1 = .bool true from hd 1 rfl]; rfl
          have c0 := hx.1
          have c1 := hx.2.1
          unfold polV
          have HX := Lib.hid hx; clear hx
          go_simp
          first | exact Below.refl _ _ | exact ⟨rfl, Below.refl _ _⟩ | exact ⟨by and_intros <;> rfl, Below.refl _ _⟩ | exact ⟨by first | rfl | (congr 1; omega) | omega, Below.refl _ _⟩
        · refine .inl ⟨?_, ?_⟩
          · rw [show us 1 = .bool true from hd 1 rfl]; rfl
          obtain ⟨c0, c1, c2, c3⟩ := hx.2.2.1.dg
          have HX := Lib.hid hx; clear hx
          go_simp
          first | exact Below.refl _ _ | exact ⟨rfl, Below.refl _ _⟩ | exact ⟨by and_intros <;> rfl, Below.refl _ _⟩ | exact ⟨by first | rfl | (congr 1; omega) | omega, Below.refl _ _⟩
        · refine .inl ⟨?_, ?_⟩
          · rw [show us 1 = .bool true from hd 1 rfl]; rfl
          have HX := Lib.hid hx; clear hx
          go_simp
          first | exact Below.refl _ _ | exact ⟨rfl, Below.refl _ _⟩ | exact ⟨by and_intros <;> rfl, Below.refl _ _⟩ | exact ⟨by first | rfl | (congr 1; omega) | omega, Below.refl _ _⟩
        · refine .inl ⟨?_, ?_⟩
          · rw [show us 1 = .bool true from hd 1 rfl]; rfl
          rw [show us 2 = polV (.slice A7 k c7) (D : Int) from hd 2 rfl, show us 3 = dgv m from hd 3 rfl, show us 4 = (.slice (some ⟨g, 0, none⟩) D cl) from hd 4 rfl]
          go_simp
          refine (qholds_any (bsK k) D m (lK m (k - D) k) _ _ _ hx.2.2.2.2.2.2.1 hx.2.2.2.1 hx.2.2.2.2.1 Hcap.out (by rw [bsK_length]; omega)).mono ?_
          rintro e w1 ⟨rfl, hb1⟩
          exact ⟨_, rfl, by rw [HH.out], hb1⟩
        · refine .inl ⟨?_, ?_⟩
          · rfl
          rw [show us 1 = .bool true from hd 1 rfl, show us 5 = .bool true from hd 5 rfl]
          have HX := Lib.hid hx; clear hx
          go_simp
          first | exact Below.refl _ _ | exact ⟨rfl, Below.refl _ _⟩ | exact ⟨by and_intros <;> rfl, Below.refl _ _⟩ | exact ⟨by first | rfl | (congr 1; omega) | omega, Below.refl _ _⟩
        · refine .inl ⟨?_, ?_⟩
          · rfl
          rw [show us 6 = .bool true from hd 6 rfl]
          have HX := Lib.hid hx; clear hx
          go_simp
          first | exact Below.refl _ _ | exact ⟨rfl, Below.refl _ _⟩ | exact ⟨by and_intros <;> rfl, Below.refl _ _⟩ | exact ⟨by first | rfl | (congr 1; omega) | omega, Below.refl _ _⟩
        · refine .inl ⟨?_, ?_⟩
          · rw [show us 7 = .bool true from hd 7 rfl]; rfl
          have HX := Lib.hid hx; clear hx
          go_simp
          first | exact Below.refl _ _ | exact ⟨rfl, Below.refl _ _⟩ | exact ⟨by and_intros <;> rfl, Below.refl _ _⟩ | exact ⟨by first | rfl | (congr 1; omega) | omega, Below.refl _ _⟩
        · refine .inl ⟨?_, ?_⟩
          · rw [show us 7 = .bool true from hd 7 rfl]; rfl
          rw [show us 8 = (.slice A8 D c8) from hd 8 rfl]
          have HX := Lib.hid hx; clear hx
          go_simp
          first | exact Below.refl _ _ | exact ⟨rfl, Below.refl _ _⟩ | exact ⟨by and_intros <;> rfl, Below.refl _ _⟩ | exact ⟨by first | rfl | (congr 1; omega) | omega, Below.refl _ _⟩
        · refine .inl ⟨?_, ?_⟩
          · rw [show us 7 = .bool true from hd 7 rfl]; rfl
          have HX := Lib.hid hx; clear hx
          go_simp
          first | exact Below.refl _ _ | exact ⟨rfl, Below.refl _ _⟩ | exact ⟨by and_intros <;> rfl, Below.refl _ _⟩ | exact ⟨by first | rfl | (congr 1; omega) | omega, Below.refl _ _⟩
        · refine .inl ⟨?_, ?_⟩
          · rw [show us 7 = .bool true from hd 7 rfl]; rfl
          rw [show us 10 = .pointer (some ⟨w.heap.size + 1, 1, none⟩) from hd 10 rfl]
          have c1 := hx.2.1
          have HX := Lib.hid hx; clear hx
          go_simp
          first | exact Below.refl _ _ | exact ⟨rfl, Below.refl _ _⟩ | exact ⟨by and_intros <;> rfl, Below.refl _ _⟩ | exact ⟨by first | rfl | (congr 1; omega) | omega, Below.refl _ _⟩
        · refine .inl ⟨?_, ?_⟩
          · rw [show us 7 = .bool true from hd 7 rfl]; rfl
          rw [show us 9 = .int .i64 (D : Int) from hd 9 rfl, show us 11 = .int .i64 (D : Int) from hd 11 rfl]
          have HX := Lib.hid hx; clear hx
          go_simp
          first | exact Below.refl _ _ | exact ⟨rfl, Below.refl _ _⟩ | exact ⟨by and_intros <;> rfl, Below.refl _ _⟩ | exact ⟨by first | rfl | (congr 1; omega) | omega, Below.refl _ _⟩
        · refine .inl ⟨?_, ?_⟩
          · rfl
          rw [show us 7 = .bool true from hd 7 rfl, show us 12 = .bool true from hd 12 rfl]
          have HX := Lib.hid hx; clear hx
          go_simp
          first | exact Below.refl _ _ | exact ⟨rfl, Below.refl _ _⟩ | exact ⟨by and_intros <;> rfl, Below.refl _ _⟩ | exact ⟨by first | rfl | (congr 1; omega) | omega, Below.refl _ _⟩
        · refine .inl ⟨?_, ?_⟩
          · rfl
          rw [show us 13 = .bool true from hd 13 rfl]
          have HX := Lib.hid hx; clear hx
          go_simp
          first | exact Below.refl _ _ | exact ⟨rfl, Below.refl _ _⟩ | exact ⟨by and_intros <;> rfl, Below.refl _ _⟩ | exact ⟨by first | rfl | (congr 1; omega) | omega, Below.refl _ _⟩
        · refine .inl ⟨?_, ?_⟩
          · rw [show us 14 = .bool true from hd 14 rfl]; rfl
          have c0 := hx.1
          have c1 := hx.2.1
          unfold polV
          have HX := Lib.hid hx; clear hx
          go_simp
          first | exact Below.refl _ _ | exact ⟨rfl, Below.refl _ _⟩ | exact ⟨by and_intros <;> rfl, Below.refl _ _⟩ | exact ⟨by first | rfl | (congr 1; omega) | omega, Below.refl _ _⟩
        · refine .inl ⟨?_, ?_⟩
          · rw [show us 14 = .bool true from hd 14 rfl]; rfl
          obtain ⟨c0, c1, c2, c3⟩ := hx.2.2.1.dg
          have HX := Lib.hid hx; clear hx
          go_simp
          first | exact Below.refl _ _ | exact ⟨rfl, Below.refl _ _⟩ | exact ⟨by and_intros <;> rfl, Below.refl _ _⟩ | exact ⟨by first | rfl | (congr 1; omega) | omega, Below.refl _ _⟩
        · refine .inl ⟨?_, ?_⟩
          · rw [show us 14 = .bool true from hd 14 rfl]; rfl
          have HX := Lib.hid hx; clear hx
          go_simp
          first | exact Below.refl _ _ | exact ⟨rfl, Below.refl _ _⟩ | exact ⟨by and_intros <;> rfl, Below.refl _ _⟩ | exact ⟨by first | rfl | (congr 1; omega) | omega, Below.refl _ _⟩
        · refine .inl ⟨?_, ?_⟩
          · rw [show us 14 = .bool true from hd 14 rfl]; rfl
          rw [show us 17 = (.slice (some ⟨g, 0, none⟩) D cl) from hd 17 rfl]
          have t1 := Hc1.out
          have t2 := HD1.out
          have t4 : (1 : Int) ≤ (D : Int) := by omega
          have HX := Lib.hid hx; clear hx
          go_simp
          first | exact Below.refl _ _ | exact ⟨rfl, Below.refl _ _⟩ | exact ⟨by and_intros <;> rfl, Below.refl _ _⟩ | exact ⟨by first | rfl | (congr 1; omega) | omega, Below.refl _ _⟩
        · refine .inl ⟨?_, ?_⟩
          · rw [show us 14 = .bool true from hd 14 rfl]; rfl
          rw [show us 15 = polV (.slice A7 k c7) (D : Int) from hd 15 rfl, show us 16 = dgv m from hd 16 rfl, show us 18 = (.slice (if cl = 1 then some ⟨g, 0, none⟩ else some ⟨g, 7, none⟩) (D - 1) (cl - 1)) from hd 18 rfl]
          go_simp
          refine (qholds_any (bsK k) D m (lK m (k - D) k).tail _ _ _ hx.2.2.2.2.2.2.1 hx.2.2.2.1 hx.2.2.2.2.2.1 Hcap.out (by rw [bsK_length]; omega)).mono ?_
          rintro e w1 ⟨rfl, hb1⟩
          exact ⟨_, rfl, by rw [HT.out], hb1⟩
        · refine .inl ⟨?_, ?_⟩
          · rw [show us 14 = .bool true from hd 14 rfl]; rfl
          rw [show us 19 = .bool false from hd 19 rfl]
          have HX := Lib.hid hx; clear hx
          go_simp
          first | exact Below.refl _ _ | exact ⟨rfl, Below.refl _ _⟩ | exact ⟨by and_intros <;> rfl, Below.refl _ _⟩ | exact ⟨by first | rfl | (congr 1; omega) | omega, Below.refl _ _⟩
      rintro us W1 ⟨_, _, _, _, _, _, _, hb9⟩ hF
      have e14 : us 14 = .bool true := hF 14 (by decide)
      have e20 : us 20 = .bool true := hF 20 (by decide)
      simp only [putAll, dstOf, List.getElem?_toArray, List.getElem?_cons_succ, List.getElem?_cons_zero, Option.bind_some, List.drop_succ_cons, List.drop_zero]
      rw [e14, e20]
      clear hF e14 e20
      go_frame
      go_wp2_with fail
      exact bodyPost_ret (v := .bool true) (by simp [results, Tryd.results14, go_sem]) rfl ⟨rfl, hb9⟩
end Go.Proofs.YtpodfmnnabepaaaDoor
