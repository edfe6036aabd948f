import Derived.Test.YtpodfmnnabepaaaDoorW22
import Derived.Test.YtpodfmnnabepaaaDoorR4
namespace Go.Proofs.YtpodfmnnabepaaaDoor
open Go.RowKit
open Ot (Dg)
/-- A slice of 35 digests, its parts by name. -/
theorem SigAt.parts {w : World} {v : Value} {l : List Dg} (h : SigAt w v l) (hl : l.length = 35) : ∃ b off c, v = .slice (some ⟨b, off, none⟩) 35 c ∧ ∀ i, i < 35 → DgAt w b (off + i * 4) (l.getD i Ot.zeroD) := by
  obtain ⟨A, c, rfl, _, h⟩ := h
  obtain ⟨b, off, rfl, _, hc⟩ := h (by omega)
  rw [hl] at hc ⊢
  exact ⟨b, off, c, rfl, hc⟩
theorem SigAt.at35 {w : World} {b off c : Nat} {l : List Dg} (h : SigAt w (.slice (some ⟨b, off, none⟩) 35 c) l) (hl : l.length = 35) : ∀ i, i < 35 → DgAt w b (off + i * 4) (l.getD i Ot.zeroD) := by
  obtain ⟨A, c', he, _, h⟩ := h
  obtain ⟨b', off', rfl, _, hc⟩ := h (by omega)
  simp only [Value.slice.injEq, Option.some.injEq, Addr.mk.injEq] at he
  obtain ⟨⟨rfl, rfl, _⟩, _, _⟩ := he
  rw [hl] at hc
  exact hc
set_option maxRecDepth 100000 in
set_option maxHeartbeats 8000000 in
theorem lgives_any (q m o : Dg) (w : World) (ht : Tn w) : Calls Tryd.prog 8 #[dgv q, dgv m, dgv o] w fun e w' => e = .returned (.bool true) ∧ Below w.heap.size w w' := by
  by_cases hmo : m = o
  · subst hmo
    have hq := dg_eql m m
    rw [decide_eq_true rfl] at hq
    go_enter Tryd.func8, Tryd.ntmps8
    go_wp2_with fail
    have hbW : Below w.heap.size w (((w.alloc (.cells #[.int .u32 q.a.toNat, .int .u32 q.b.toNat, .int .u32 q.c.toNat, .int .u32 q.d.toNat] 24)).alloc (.cells #[.int .u32 m.a.toNat, .int .u32 m.b.toNat, .int .u32 m.c.toNat, .int .u32 m.d.toNat] 24)).alloc (.cells #[.int .u32 m.a.toNat, .int .u32 m.b.toNat, .int .u32 m.c.toNat, .int .u32 m.d.toNat] 24)) := (((Below.refl _ _).alloc (Nat.le_refl _) _).alloc (by simp) _).alloc (by simp; omega) _
    refine (awake_any _ (ht.below hbW)).mono ?_
    rintro e w1 ⟨rfl, hb⟩
    have hb2 := hbW.trans (hb.mono hbW.size)
    go_wp2
    go_ret
    exact ⟨rfl, hb2⟩
  obtain ⟨i, hai, hi, l1, w1e⟩ := Ot.gives pair q hmo
  obtain ⟨k, hak, hk, l2, w2e⟩ := Ot.gives pair q (Ne.symm hmo)
  have hR1 : aheadR m (Ot.sign pair q m) o (Ot.sign pair q o) = (i, (Ot.sign pair q o).getD i Ot.zeroD, true) := by unfold aheadR; rw [if_pos ⟨Ot.sign_length _ _ _, Ot.sign_length _ _ _⟩, hai]
  have hR2 : aheadR o (Ot.sign pair q o) m (Ot.sign pair q m) = (k, (Ot.sign pair q m).getD k Ot.zeroD, true) := by unfold aheadR; rw [if_pos ⟨Ot.sign_length _ _ _, Ot.sign_length _ _ _⟩, hak]
  clear hai hak
  have hq := dg_eql m o
  rw [decide_eq_false hmo] at hq
  have hls := Ot.sign_length pair q m
  have hlt := Ot.sign_length pair q o
  generalize hsg : Ot.sign pair q m = s at *
  generalize htg : Ot.sign pair q o = t at *
  have Hs := Lib.hid hsg; have Ht := Lib.hid htg; have HR1 := Lib.hid hR1; have HR2 := Lib.hid hR2; clear hsg htg hR1 hR2
  have a1 := Ot.steps_at_le m i
  have a2 := Ot.steps_at_le o i
  have a3 := Ot.steps_at_le m k
  have a4 := Ot.steps_at_le o k
  have Hls := Lib.hid hls; have Hlt := Lib.hid hlt; clear hls hlt
  go_enter Tryd.func8, Tryd.ntmps8
  go_wp2_with fail
  generalize hW : ((w.alloc (.cells #[.int .u32 q.a.toNat, .int .u32 q.b.toNat, .int .u32 q.c.toNat, .int .u32 q.d.toNat] 24)).alloc (.cells #[.int .u32 m.a.toNat, .int .u32 m.b.toNat, .int .u32 m.c.toNat, .int .u32 m.d.toNat] 24)).alloc (.cells #[.int .u32 o.a.toNat, .int .u32 o.b.toNat, .int .u32 o.c.toNat, .int .u32 o.d.toNat] 24) = W
  have hbW : Below w.heap.size w W := by subst hW; exact (((Below.refl _ _).alloc (Nat.le_refl _) _).alloc (by simp) _).alloc (by simp; omega) _
  have q0 : One w.heap.size q W := by subst hW; exact (((Arr.new w 4 (fnOf q) 24 #[.int .u32 q.a.toNat, .int .u32 q.b.toNat, .int .u32 q.c.toNat, .int .u32 q.d.toNat] rfl).alloc (by simp) _).alloc (by simp; omega) _).dg
  have m0 : One (w.heap.size + 1) m W := by subst hW; exact ((Arr.new' _ _ 4 (fnOf m) 24 #[.int .u32 m.a.toNat, .int .u32 m.b.toNat, .int .u32 m.c.toNat, .int .u32 m.d.toNat] (by simp) rfl).alloc (by simp) _).dg
  have o0 : One (w.heap.size + 1 + 1) o W := by subst hW; exact (Arr.new' _ _ 4 (fnOf o) 24 #[.int .u32 o.a.toNat, .int .u32 o.b.toNat, .int .u32 o.c.toNat, .int .u32 o.d.toNat] (by simp) rfl).dg
  have hsW : w.heap.size + 3 ≤ W.heap.size := by subst hW; simp
  clear hW
  go_upto_region 3 with fail
  refine wp_region_inv (fun wx => Tn wx ∧ Below w.heap.size w wx ∧ One w.heap.size q wx ∧ One (w.heap.size + 1) m wx ∧ One (w.heap.size + 1 + 1) o wx ∧ w.heap.size + 3 ≤ wx.heap.size) (fun j v w' => match j with | 0 => v = dgv q | 1 => v = dgv m | 2 => SigAt w' v s | 3 => v = dgv q | 4 => v = dgv o | 5 => SigAt w' v t | _ => True) 6 (by kernel_rfl) (by kernel_rfl) ⟨ht.below hbW.drew, hbW.drew, q0, m0, o0, hsW⟩ (fun _ _ h hb => ⟨h.1.below hb, h.2.1.trans (hb.mono h.2.1.size), h.2.2.1.keep hb, h.2.2.2.1.keep hb, h.2.2.2.2.1.keep hb, Nat.le_trans h.2.2.2.2.2 hb.size⟩) ?_ ?_ ?_
  · rintro (_|_|_|_|_|_|j) v w1 w2 hb h
    all_goals first | exact h | exact SigAt.below h hb
  · refine ⟨fun us wx hx hd => ?_, fun us wx hx hd => ?_, fun us wx hx hd => ?_, fun us wx hx hd => ?_, fun us wx hx hd => ?_, fun us wx hx hd => ?_, trivial⟩
    all_goals simp only [putAll, dstOf, List.getElem?_toArray, List.getElem?_cons_succ, List.getElem?_cons_zero, Option.bind_some]
    all_goals go_frame
    · obtain ⟨c0, c1, c2, c3⟩ := hx.2.2.1; have H := Lib.hid hx; clear hx; go_simp; first | exact Below.refl _ _ | exact ⟨by and_intros <;> rfl, Below.refl _ _⟩
    · obtain ⟨c0, c1, c2, c3⟩ := hx.2.2.2.1; have H := Lib.hid hx; clear hx; go_simp; first | exact Below.refl _ _ | exact ⟨by and_intros <;> rfl, Below.refl _ _⟩
    · rw [show us 0 = dgv q from hd 0 rfl, show us 1 = dgv m from hd 1 rfl]
      go_simp
      refine (sign_any q m _ hx.1).mono ?_
      rw [Hs.out]
      rintro e w1 ⟨vs, rfl, hb, hown⟩
      exact ⟨_, rfl, own_sig hown, hb⟩
    · obtain ⟨c0, c1, c2, c3⟩ := hx.2.2.1; have H := Lib.hid hx; clear hx; go_simp; first | exact Below.refl _ _ | exact ⟨by and_intros <;> rfl, Below.refl _ _⟩
    · obtain ⟨c0, c1, c2, c3⟩ := hx.2.2.2.2.1; have H := Lib.hid hx; clear hx; go_simp; first | exact Below.refl _ _ | exact ⟨by and_intros <;> rfl, Below.refl _ _⟩
    · rw [show us 3 = dgv q from hd 3 rfl, show us 4 = dgv o from hd 4 rfl]
      go_simp
      refine (sign_any q o _ hx.1).mono ?_
      rw [Ht.out]
      rintro e w1 ⟨vs, rfl, hb, hown⟩
      exact ⟨_, rfl, own_sig hown, hb⟩
  rintro us W1 ⟨tn, hbel, q1, m1, o1, hsz⟩ hF
  have vs : SigAt W1 (us 2) s := hF 2 (by decide)
  have vt : SigAt W1 (us 5) t := hF 5 (by decide)
  clear hF
  simp only [putAll, dstOf, List.getElem?_toArray, List.getElem?_cons_succ, List.getElem?_cons_zero, Option.bind_some, List.drop_succ_cons, List.drop_zero]
  generalize us 0 = u0
  generalize us 1 = u1
  generalize us 3 = u3
  generalize us 4 = u4
  generalize us 2 = vs2 at *
  generalize us 5 = vt5 at *
  clear us q0 m0 o0 q1
  obtain ⟨bs, os, cs, rfl, hcs⟩ := vs.parts Hls.out
  obtain ⟨bt, ot, ct, rfl, hct⟩ := vt.parts Hlt.out
  have Hcs := Lib.hid hcs; have Hct := Lib.hid hct; clear hcs hct
  go_frame
  obtain ⟨p0, p1, p2, p3⟩ := id m1
  obtain ⟨r0, r1, r2, r3⟩ := id o1
  go_wp2_with fail
  clear p0 p1 p2 p3 r0 r1 r2 r3
  refine (ahead_full m o _ _ s t Hls.out Hlt.out _ tn vs vt).mono ?_
  rw [HR1.out]
  rintro e W2 ⟨⟨i', x, b', rfl, heq⟩, hb2⟩
  simp only [Prod.mk.injEq] at heq
  obtain ⟨rfl, hxe, rfl⟩ := heq
  have Hxe := Lib.hid hxe; clear hxe
  have tn2 := tn.below hb2
  have hbel2 := hbel.trans (hb2.mono hbel.size)
  have m2 := m1.keep hb2
  have o2 := o1.keep hb2
  have vs2 := vs.below hb2
  have vt2 := vt.below hb2
  have hsz2 := Nat.le_trans hsz hb2.size
  clear tn hbel m1 o1 vs vt hsz
  obtain ⟨p0, p1, p2, p3⟩ := id m2
  obtain ⟨r0, r1, r2, r3⟩ := id o2
  have n1 : w.heap.size + 1 < W2.heap.size := by omega
  have n2 : w.heap.size + 1 + 1 < W2.heap.size := by omega
  have n3 : w.heap.size + 1 ≠ W2.heap.size := by omega
  have n4 : w.heap.size + 1 + 1 ≠ W2.heap.size := by omega
  go_wp2_with fail
  clear p0 p1 p2 p3 r0 r1 r2 r3 n1 n2 n3 n4
  have hbA : Below W2.heap.size W2 (W2.alloc (.cells #[.int .u32 x.a.toNat, .int .u32 x.b.toNat, .int .u32 x.c.toNat, .int .u32 x.d.toNat] 24)) := (Below.refl _ _).alloc (Nat.le_refl _) _
  have x3 : One W2.heap.size x (W2.alloc (.cells #[.int .u32 x.a.toNat, .int .u32 x.b.toNat, .int .u32 x.c.toNat, .int .u32 x.d.toNat] 24)) := (Arr.new W2 4 (fnOf x) 24 #[.int .u32 x.a.toNat, .int .u32 x.b.toNat, .int .u32 x.c.toNat, .int .u32 x.d.toNat] rfl).dg
  have tn3 := tn2.below hbA
  have hbel3 := hbel2.trans (hbA.mono hbel2.size)
  have m3 := m2.keep hbA
  have o3 := o2.keep hbA
  have vs3 := vs2.below hbA
  have vt3 := vt2.below hbA
  have hsz3 := Nat.le_trans hsz2 hbA.size
  clear tn2 hbel2 m2 o2 vs2 vt2 hsz2 hbA
  generalize (W2.alloc (.cells #[.int .u32 x.a.toNat, .int .u32 x.b.toNat, .int .u32 x.c.toNat, .int .u32 x.d.toNat] 24)) = W3 at *
  generalize W2.heap.size = X at *
  refine (ahead_full o m _ _ t s Hlt.out Hls.out _ tn3 vt3 vs3).mono ?_
  rw [HR2.out]
  rintro e W4 ⟨⟨k', y, b', rfl, heq⟩, hb4⟩
  simp only [Prod.mk.injEq] at heq
  obtain ⟨rfl, hye, rfl⟩ := heq
  have Hye := Lib.hid hye; clear hye
  have tn4 := tn3.below hb4
  have hbel4 := hbel3.trans (hb4.mono hbel3.size)
  have m4 := m3.keep hb4
  have o4 := o3.keep hb4
  have vs4 := vs3.below hb4
  have vt4 := vt3.below hb4
  have x4 := x3.keep hb4
  clear tn3 hbel3 m3 o3 vs3 vt3 x3 hsz3
  have e1 : decide ((i' : Int) < 0) = false := by simp
  have e2 : decide ((34 : Int) < (i' : Int)) = false := by simp; omega
  have e3 : decide ((k' : Int) < 0) = false := by simp
  have e4 : decide ((34 : Int) < (k' : Int)) = false := by simp; omega
  go_upto_region 8 with fail
  clear e1 e2 e3 e4
  have hbA : Below W4.heap.size W4 (W4.alloc (.cells #[.int .u32 y.a.toNat, .int .u32 y.b.toNat, .int .u32 y.c.toNat, .int .u32 y.d.toNat] 24)) := (Below.refl _ _).alloc (Nat.le_refl _) _
  have y5 : One W4.heap.size y (W4.alloc (.cells #[.int .u32 y.a.toNat, .int .u32 y.b.toNat, .int .u32 y.c.toNat, .int .u32 y.d.toNat] 24)) := (Arr.new W4 4 (fnOf y) 24 #[.int .u32 y.a.toNat, .int .u32 y.b.toNat, .int .u32 y.c.toNat, .int .u32 y.d.toNat] rfl).dg
  have tn5 := tn4.below hbA
  have hbel5 := hbel4.trans (hbA.mono hbel4.size)
  have m5 := m4.keep hbA
  have o5 := o4.keep hbA
  have vs5 := vs4.below hbA
  have vt5 := vt4.below hbA
  have x5 := x4.keep hbA
  clear tn4 hbel4 m4 o4 vs4 vt4 x4 hbA
  generalize (W4.alloc (.cells #[.int .u32 y.a.toNat, .int .u32 y.b.toNat, .int .u32 y.c.toNat, .int .u32 y.d.toNat] 24)) = W5 at *
  generalize W4.heap.size = Y at *
  refine wp_region_inv (fun wx => Tn wx ∧ Below w.heap.size w wx ∧ One (w.heap.size + 1) m wx ∧ One (w.heap.size + 1 + 1) o wx ∧ SigAt wx (.slice (some ⟨bs, os, none⟩) 35 cs) s ∧ SigAt wx (.slice (some ⟨bt, ot, none⟩) 35 ct) t ∧ One X x wx ∧ One Y y wx) (fun j v w' => match j with | 0 => v = dgv m | 1 => NumAt w' v (Ot.steps m) | 2 => v = dgv o | 3 => NumAt w' v (Ot.steps o) | _ => True) 4 (by kernel_rfl) (by kernel_rfl) ⟨tn5.below (Below.refl _ _).drew, hbel5.drew, m5, o5, vs5, vt5, x5, y5⟩ (fun _ _ h hb => ⟨h.1.below hb, h.2.1.trans (hb.mono h.2.1.size), h.2.2.1.keep hb, h.2.2.2.1.keep hb, h.2.2.2.2.1.below hb, h.2.2.2.2.2.1.below hb, h.2.2.2.2.2.2.1.keep hb, h.2.2.2.2.2.2.2.keep hb⟩) ?_ ?_ ?_
  · rintro (_|_|_|_|j) v w1 w2 hb h
    all_goals first | exact h | exact NumAt.below h hb
  · refine ⟨fun us wx hx hd => ?_, fun us wx hx hd => ?_, fun us wx hx hd => ?_, fun us wx hx hd => ?_, trivial⟩
    all_goals simp only [putAll, dstOf, List.getElem?_toArray, List.getElem?_cons_succ, List.getElem?_cons_zero, Option.bind_some]
    all_goals go_frame
    · obtain ⟨c0, c1, c2, c3⟩ := hx.2.2.1; have H := Lib.hid hx; clear hx; go_simp; first | exact Below.refl _ _ | exact ⟨by and_intros <;> rfl, Below.refl _ _⟩
    · rw [show us 0 = dgv m from hd 0 rfl]
      go_simp
      refine (rsteps_any m _).mono ?_
      rintro e w1 ⟨vs, rfl, hb, hown⟩
      exact ⟨_, rfl, own_num hown, hb⟩
    · obtain ⟨c0, c1, c2, c3⟩ := hx.2.2.2.1; have H := Lib.hid hx; clear hx; go_simp; first | exact Below.refl _ _ | exact ⟨by and_intros <;> rfl, Below.refl _ _⟩
    · rw [show us 2 = dgv o from hd 2 rfl]
      go_simp
      refine (rsteps_any o _).mono ?_
      rintro e w1 ⟨vs, rfl, hb, hown⟩
      exact ⟨_, rfl, own_num hown, hb⟩
  clear tn5 hbel5 m5 o5 vs5 vt5 x5 y5
  rintro us W6 ⟨tn6, hbel6, m6, o6, vs6, vt6, x6, y6⟩ hF
  have na : NumAt W6 (us 1) (Ot.steps m) := hF 1 (by decide)
  have nb : NumAt W6 (us 3) (Ot.steps o) := hF 3 (by decide)
  clear hF
  simp only [putAll, dstOf, List.getElem?_toArray, List.getElem?_cons_succ, List.getElem?_cons_zero, Option.bind_some, List.drop_succ_cons, List.drop_zero]
  generalize us 0 = u5
  generalize us 2 = u6
  generalize us 1 = va at *
  generalize us 3 = vb at *
  clear us
  obtain ⟨ga, ca, rfl, _, hga⟩ := na
  obtain ⟨gb, cb, rfl, _, hgb⟩ := nb
  have cai := hga i' hi
  have cbi := hgb i' hi
  have cak := hga k' hk
  have cbk := hgb k' hk
  clear hga hgb
  have dsA := vs6.at35 Hls.out
  have dtA := vt6.at35 Hlt.out
  have dtx := dtA i' hi
  have dsy := dsA k' hk
  have dsi := dsA i' hi
  have dtk := dtA k' hk
  clear dsA dtA vs6 vt6
  rw [← Hxe.out] at dtx w1e
  rw [← Hye.out] at dsy w2e
  generalize s.getD i' Ot.zeroD = si at *
  generalize t.getD k' Ot.zeroD = tk at *
  generalize (Ot.steps m).getD i' 0 = ai at *
  generalize (Ot.steps o).getD i' 0 = bi at *
  generalize (Ot.steps m).getD k' 0 = ak at *
  generalize (Ot.steps o).getD k' 0 = bk at *
  have lt1 : decide ((bi : Int) < (ai : Int)) = true := by simp; omega
  have lt2 : decide ((ak : Int) < (bk : Int)) = true := by simp; omega
  have sb1 : (ai : Int) - (bi : Int) = ((ai - bi : Nat) : Int) := by omega
  have sb2 : (bk : Int) - (ak : Int) = ((bk - ak : Nat) : Int) := by omega
  generalize hd1e : ai - bi = d1 at *
  generalize hd2e : bk - ak = d2 at *
  have hd1 : d1 ≤ 9223372036854775807 := by omega
  have hd2 : d2 ≤ 9223372036854775807 := by omega
  have sw1 : IntKind.i64.wrap (d1 : Int) = (d1 : Int) := IntWalk.i64_in _ (by omega)
  have sw2 : IntKind.i64.wrap (d2 : Int) = (d2 : Int) := IntWalk.i64_in _ (by omega)
  have Hw1 := Lib.hid w1e; have Hw2 := Lib.hid w2e; clear w1e w2e
  have i1 : (i' : Int) < 35 := by omega
  have i2 : (0 : Int) ≤ (i' : Int) := by omega
  have k1 : (k' : Int) < 35 := by omega
  have k2 : (0 : Int) ≤ (k' : Int) := by omega
  clear hd1e hd2e hq hmo
  go_frame
  go_upto_region 9 with fail
  clear HR1 HR2 Hcs Hct Hs Ht m6 o6 hb2 hb4 hbW hsW a1 a2 a3 a4
  simp only [List.append_eq, List.cons_append, List.nil_append]
  refine wp_region_invG (fun wx => Tn wx ∧ Below w.heap.size w wx ∧ One X x wx ∧ One Y y wx ∧ DgAt wx bt (ot + i' * 4) x ∧ DgAt wx bs (os + k' * 4) y ∧ DgAt wx bs (os + i' * 4) si ∧ DgAt wx bt (ot + k' * 4) tk ∧ wx.cell? ⟨ga, i', none⟩ = some (.int .i64 ai) ∧ wx.cell? ⟨gb, i', none⟩ = some (.int .i64 bi) ∧ wx.cell? ⟨ga, k', none⟩ = some (.int .i64 ak) ∧ wx.cell? ⟨gb, k', none⟩ = some (.int .i64 bk)) (fun j v w' => match j with | 0 => v = .bool true | 1 => v = .bool true | 2 => v = dgv x | 3 => v = (.slice (some ⟨bt, ot, none⟩) 35 ct) | 4 => v = (.int .i64 i') | 5 => v = (.pointer (some ⟨bt, ot + i' * 4, none⟩)) | 6 => v = dgv x | 7 => v = .bool true | 8 => v = .bool true | 9 => v = .bool true | 10 => v = dgv y | 11 => v = (.slice (some ⟨bs, os, none⟩) 35 cs) | 12 => v = (.int .i64 k') | 13 => v = (.pointer (some ⟨bs, os + k' * 4, none⟩)) | 14 => v = dgv y | 15 => v = .bool true | 16 => v = .bool true | 17 => v = .bool true | 18 => v = (.slice (some ⟨gb, 0, none⟩) 35 cb) | 19 => v = (.int .i64 i') | 20 => v = (.pointer (some ⟨gb, i', none⟩)) | 21 => v = (.int .i64 bi) | 22 => v = (.slice (some ⟨ga, 0, none⟩) 35 ca) | 23 => v = (.int .i64 i') | 24 => v = (.pointer (some ⟨ga, i', none⟩)) | 25 => v = (.int .i64 ai) | 26 => v = .bool true | 27 => v = .bool true | 28 => v = .bool true | 29 => v = (.slice (some ⟨ga, 0, none⟩) 35 ca) | 30 => v = (.int .i64 k') | 31 => v = (.pointer (some ⟨ga, k', none⟩)) | 32 => v = (.int .i64 ak) | 33 => v = (.slice (some ⟨gb, 0, none⟩) 35 cb) | 34 => v = (.int .i64 k') | 35 => v = (.pointer (some ⟨gb, k', none⟩)) | 36 => v = (.int .i64 bk) | 37 => v = .bool true | 38 => v = .bool true | 39 => v = .bool true | 40 => v = dgv x | 41 => v = (.slice (some ⟨ga, 0, none⟩) 35 ca) | 42 => v = (.int .i64 i') | 43 => v = (.pointer (some ⟨ga, i', none⟩)) | 44 => v = (.int .i64 ai) | 45 => v = (.slice (some ⟨gb, 0, none⟩) 35 cb) | 46 => v = (.int .i64 i') | 47 => v = (.pointer (some ⟨gb, i', none⟩)) | 48 => v = (.int .i64 bi) | 49 => v = (.int .i64 d1) | 50 => v = dgv si | 51 => v = (.slice (some ⟨bs, os, none⟩) 35 cs) | 52 => v = (.int .i64 i') | 53 => v = (.pointer (some ⟨bs, os + i' * 4, none⟩)) | 54 => v = dgv si | 55 => v = .bool true | 56 => v = .bool true | 57 => v = .bool true | 58 => v = dgv y | 59 => v = (.slice (some ⟨gb, 0, none⟩) 35 cb) | 60 => v = (.int .i64 k') | 61 => v = (.pointer (some ⟨gb, k', none⟩)) | 62 => v = (.int .i64 bk) | 63 => v = (.slice (some ⟨ga, 0, none⟩) 35 ca) | 64 => v = (.int .i64 k') | 65 => v = (.pointer (some ⟨ga, k', none⟩)) | 66 => v = (.int .i64 ak) | 67 => v = (.int .i64 d2) | 68 => v = dgv tk | 69 => v = (.slice (some ⟨bt, ot, none⟩) 35 ct) | 70 => v = (.int .i64 k') | 71 => v = (.pointer (some ⟨bt, ot + k' * 4, none⟩)) | 72 => v = dgv tk | 73 => v = .bool true | _ => True) 74 (by kernel_rfl) (by kernel_rfl) ⟨tn6.drew, hbel6.drew, x6, y6, dtx, dsy, dsi, dtk, cai, cbi, cak, cbk⟩ (fun _ _ h hb => ⟨h.1.below hb, h.2.1.trans (hb.mono h.2.1.size), h.2.2.1.keep hb, h.2.2.2.1.keep hb, h.2.2.2.2.1.below hb h.2.2.2.2.1.lt, h.2.2.2.2.2.1.below hb h.2.2.2.2.2.1.lt, h.2.2.2.2.2.2.1.below hb h.2.2.2.2.2.2.1.lt, h.2.2.2.2.2.2.2.1.below hb h.2.2.2.2.2.2.2.1.lt, cell_keep h.2.2.2.2.2.2.2.2.1 hb, cell_keep h.2.2.2.2.2.2.2.2.2.1 hb, cell_keep h.2.2.2.2.2.2.2.2.2.2.1 hb, cell_keep h.2.2.2.2.2.2.2.2.2.2.2 hb⟩) ?_ ?_ ?_
  · rintro (_|_|_|_|_|_|_|_|_|_|_|_|_|_|_|_|_|_|_|_|_|_|_|_|_|_|_|_|_|_|_|_|_|_|_|_|_|_|_|_|_|_|_|_|_|_|_|_|_|_|_|_|_|_|_|_|_|_|_|_|_|_|_|_|_|_|_|_|_|_|_|_|_|_|j) v w1 w2 hb h
    all_goals exact h
  · refine ⟨fun us wx hx hd => ?_, fun us wx hx hd => ?_, fun us wx hx hd => ?_, fun us wx hx hd => ?_, fun us wx hx hd => ?_, fun us wx hx hd => ?_, fun us wx hx hd => ?_, fun us wx hx hd => ?_, fun us wx hx hd => ?_, fun us wx hx hd => ?_, fun us wx hx hd => ?_, fun us wx hx hd => ?_, fun us wx hx hd => ?_, fun us wx hx hd => ?_, fun us wx hx hd => ?_, fun us wx hx hd => ?_, fun us wx hx hd => ?_, fun us wx hx hd => ?_, fun us wx hx hd => ?_, fun us wx hx hd => ?_, fun us wx hx hd => ?_, fun us wx hx hd => ?_, fun us wx hx hd => ?_, fun us wx hx hd => ?_, fun us wx hx hd => ?_, fun us wx hx hd => ?_, fun us wx hx hd => ?_, fun us wx hx hd => ?_, fun us wx hx hd => ?_, fun us wx hx hd => ?_, fun us wx hx hd => ?_, fun us wx hx hd => ?_, fun us wx hx hd => ?_, fun us wx hx hd => ?_, fun us wx hx hd => ?_, fun us wx hx hd => ?_, fun us wx hx hd => ?_, fun us wx hx hd => ?_, fun us wx hx hd => ?_, fun us wx hx hd => ?_, fun us wx hx hd => ?_, fun us wx hx hd => ?_, fun us wx hx hd => ?_, fun us wx hx hd => ?_, fun us wx hx hd => ?_, fun us wx hx hd => ?_, fun us wx hx hd => ?_, fun us wx hx hd => ?_, fun us wx hx hd => ?_, fun us wx hx hd => ?_, fun us wx hx hd => ?_, fun us wx hx hd => ?_, fun us wx hx hd => ?_, fun us wx hx hd => ?_, fun us wx hx hd => ?_, fun us wx hx hd => ?_, fun us wx hx hd => ?_, fun us wx hx hd => ?_, fun us wx hx hd => ?_, fun us wx hx hd => ?_, fun us wx hx hd => ?_, fun us wx hx hd => ?_, fun us wx hx hd => ?_, fun us wx hx hd => ?_, fun us wx hx hd => ?_, fun us wx hx hd => ?_, fun us wx hx hd => ?_, fun us wx hx hd => ?_, fun us wx hx hd => ?_, fun us wx hx hd => ?_, fun us wx hx hd => ?_, fun us wx hx hd => ?_, fun us wx hx hd => ?_, fun us wx hx hd => ?_, trivial⟩
    all_goals simp only [putAll, dstOf, List.getElem?_toArray, List.getElem?_cons_succ, List.getElem?_cons_zero, Option.bind_some]
    all_goals go_frame
    all_goals refine .inl ⟨?_, ?_⟩
    · rfl
    · go_simp
      refine (awake_any _ hx.1).mono ?_
      rintro e w1 ⟨rfl, hb⟩
      exact ⟨_, rfl, rfl, hb⟩
    · rfl
    · rw [show us 0 = .bool true from hd 0 rfl]; go_simp; first | exact Below.refl _ _ | exact ⟨rfl, Below.refl _ _⟩ | exact ⟨by omega, Below.refl _ _⟩
    · rw [show us 1 = .bool true from hd 1 rfl]; rfl
    · obtain ⟨c0, c1, c2, c3⟩ := hx.2.2.1
      have H := Lib.hid hx; clear hx
      go_simp
      first | exact Below.refl _ _ | exact ⟨by and_intros <;> rfl, Below.refl _ _⟩
    · rw [show us 1 = .bool true from hd 1 rfl]; rfl
    · go_simp; first | exact Below.refl _ _ | exact ⟨rfl, Below.refl _ _⟩ | exact ⟨by omega, Below.refl _ _⟩
    · rw [show us 1 = .bool true from hd 1 rfl]; rfl
    · go_simp; first | exact Below.refl _ _ | exact ⟨rfl, Below.refl _ _⟩ | exact ⟨by omega, Below.refl _ _⟩
    · rw [show us 1 = .bool true from hd 1 rfl]; rfl
    · rw [show us 3 = (.slice (some ⟨bt, ot, none⟩) 35 ct) from hd 3 rfl, show us 4 = (.int .i64 i') from hd 4 rfl]; go_simp; first | exact Below.refl _ _ | exact ⟨rfl, Below.refl _ _⟩ | exact ⟨by omega, Below.refl _ _⟩
    · rw [show us 1 = .bool true from hd 1 rfl]; rfl
    · rw [show us 5 = (.pointer (some ⟨bt, ot + i' * 4, none⟩)) from hd 5 rfl]
      obtain ⟨c0, c1, c2, c3⟩ := hx.2.2.2.2.1
      have H := Lib.hid hx; clear hx
      go_simp
      first | exact Below.refl _ _ | exact ⟨by and_intros <;> rfl, Below.refl _ _⟩
    · rw [show us 1 = .bool true from hd 1 rfl]; rfl
    · rw [show us 2 = dgv x from hd 2 rfl, show us 6 = dgv x from hd 6 rfl]; have hq := dg_eql x x; rw [decide_eq_true rfl] at hq; go_simp; first | exact Below.refl _ _ | exact ⟨rfl, Below.refl _ _⟩ | exact ⟨by omega, Below.refl _ _⟩
    · rfl
    · rw [show us 1 = .bool true from hd 1 rfl, show us 7 = .bool true from hd 7 rfl]; go_simp; first | exact Below.refl _ _ | exact ⟨rfl, Below.refl _ _⟩ | exact ⟨by omega, Below.refl _ _⟩
    · rfl
    · rw [show us 8 = .bool true from hd 8 rfl]; go_simp; first | exact Below.refl _ _ | exact ⟨rfl, Below.refl _ _⟩ | exact ⟨by omega, Below.refl _ _⟩
    · rw [show us 9 = .bool true from hd 9 rfl]; rfl
    · obtain ⟨c0, c1, c2, c3⟩ := hx.2.2.2.1
      have H := Lib.hid hx; clear hx
      go_simp
      first | exact Below.refl _ _ | exact ⟨by and_intros <;> rfl, Below.refl _ _⟩
    · rw [show us 9 = .bool true from hd 9 rfl]; rfl
    · go_simp; first | exact Below.refl _ _ | exact ⟨rfl, Below.refl _ _⟩ | exact ⟨by omega, Below.refl _ _⟩
    · rw [show us 9 = .bool true from hd 9 rfl]; rfl
    · go_simp; first | exact Below.refl _ _ | exact ⟨rfl, Below.refl _ _⟩ | exact ⟨by omega, Below.refl _ _⟩
    · rw [show us 9 = .bool true from hd 9 rfl]; rfl
    · rw [show us 11 = (.slice (some ⟨bs, os, none⟩) 35 cs) from hd 11 rfl, show us 12 = (.int .i64 k') from hd 12 rfl]; go_simp; first | exact Below.refl _ _ | exact ⟨rfl, Below.refl _ _⟩ | exact ⟨by omega, Below.refl _ _⟩
    · rw [show us 9 = .bool true from hd 9 rfl]; rfl
    · rw [show us 13 = (.pointer (some ⟨bs, os + k' * 4, none⟩)) from hd 13 rfl]
      obtain ⟨c0, c1, c2, c3⟩ := hx.2.2.2.2.2.1
      have H := Lib.hid hx; clear hx
      go_simp
      first | exact Below.refl _ _ | exact ⟨by and_intros <;> rfl, Below.refl _ _⟩
    · rw [show us 9 = .bool true from hd 9 rfl]; rfl
    · rw [show us 10 = dgv y from hd 10 rfl, show us 14 = dgv y from hd 14 rfl]; have hq := dg_eql y y; rw [decide_eq_true rfl] at hq; go_simp; first | exact Below.refl _ _ | exact ⟨rfl, Below.refl _ _⟩ | exact ⟨by omega, Below.refl _ _⟩
    · rfl
    · rw [show us 9 = .bool true from hd 9 rfl, show us 15 = .bool true from hd 15 rfl]; go_simp; first | exact Below.refl _ _ | exact ⟨rfl, Below.refl _ _⟩ | exact ⟨by omega, Below.refl _ _⟩
    · rfl
    · rw [show us 16 = .bool true from hd 16 rfl]; go_simp; first | exact Below.refl _ _ | exact ⟨rfl, Below.refl _ _⟩ | exact ⟨by omega, Below.refl _ _⟩
    · rw [show us 17 = .bool true from hd 17 rfl]; rfl
    · go_simp; first | exact Below.refl _ _ | exact ⟨rfl, Below.refl _ _⟩ | exact ⟨by omega, Below.refl _ _⟩
    · rw [show us 17 = .bool true from hd 17 rfl]; rfl
    · go_simp; first | exact Below.refl _ _ | exact ⟨rfl, Below.refl _ _⟩ | exact ⟨by omega, Below.refl _ _⟩
    · rw [show us 17 = .bool true from hd 17 rfl]; rfl
    · rw [show us 18 = (.slice (some ⟨gb, 0, none⟩) 35 cb) from hd 18 rfl, show us 19 = (.int .i64 i') from hd 19 rfl]; go_simp; first | exact Below.refl _ _ | exact ⟨rfl, Below.refl _ _⟩ | exact ⟨by omega, Below.refl _ _⟩
    · rw [show us 17 = .bool true from hd 17 rfl]; rfl
    · rw [show us 20 = (.pointer (some ⟨gb, i', none⟩)) from hd 20 rfl]; have c := hx.2.2.2.2.2.2.2.2.2.1; have H := Lib.hid hx; clear hx; go_simp; first | exact Below.refl _ _ | exact ⟨rfl, Below.refl _ _⟩ | exact ⟨by omega, Below.refl _ _⟩
    · rw [show us 17 = .bool true from hd 17 rfl]; rfl
    · go_simp; first | exact Below.refl _ _ | exact ⟨rfl, Below.refl _ _⟩ | exact ⟨by omega, Below.refl _ _⟩
    · rw [show us 17 = .bool true from hd 17 rfl]; rfl
    · go_simp; first | exact Below.refl _ _ | exact ⟨rfl, Below.refl _ _⟩ | exact ⟨by omega, Below.refl _ _⟩
    · rw [show us 17 = .bool true from hd 17 rfl]; rfl
    · rw [show us 22 = (.slice (some ⟨ga, 0, none⟩) 35 ca) from hd 22 rfl, show us 23 = (.int .i64 i') from hd 23 rfl]; go_simp; first | exact Below.refl _ _ | exact ⟨rfl, Below.refl _ _⟩ | exact ⟨by omega, Below.refl _ _⟩
    · rw [show us 17 = .bool true from hd 17 rfl]; rfl
    · rw [show us 24 = (.pointer (some ⟨ga, i', none⟩)) from hd 24 rfl]; have c := hx.2.2.2.2.2.2.2.2.1; have H := Lib.hid hx; clear hx; go_simp; first | exact Below.refl _ _ | exact ⟨rfl, Below.refl _ _⟩ | exact ⟨by omega, Below.refl _ _⟩
    · rw [show us 17 = .bool true from hd 17 rfl]; rfl
    · rw [show us 21 = (.int .i64 bi) from hd 21 rfl, show us 25 = (.int .i64 ai) from hd 25 rfl]; have q := lt1; go_simp; first | exact Below.refl _ _ | exact ⟨rfl, Below.refl _ _⟩ | exact ⟨by omega, Below.refl _ _⟩
    · rfl
    · rw [show us 17 = .bool true from hd 17 rfl, show us 26 = .bool true from hd 26 rfl]; go_simp; first | exact Below.refl _ _ | exact ⟨rfl, Below.refl _ _⟩ | exact ⟨by omega, Below.refl _ _⟩
    · rfl
    · rw [show us 27 = .bool true from hd 27 rfl]; go_simp; first | exact Below.refl _ _ | exact ⟨rfl, Below.refl _ _⟩ | exact ⟨by omega, Below.refl _ _⟩
    · rw [show us 28 = .bool true from hd 28 rfl]; rfl
    · go_simp; first | exact Below.refl _ _ | exact ⟨rfl, Below.refl _ _⟩ | exact ⟨by omega, Below.refl _ _⟩
    · rw [show us 28 = .bool true from hd 28 rfl]; rfl
    · go_simp; first | exact Below.refl _ _ | exact ⟨rfl, Below.refl _ _⟩ | exact ⟨by omega, Below.refl _ _⟩
    · rw [show us 28 = .bool true from hd 28 rfl]; rfl
    · rw [show us 29 = (.slice (some ⟨ga, 0, none⟩) 35 ca) from hd 29 rfl, show us 30 = (.int .i64 k') from hd 30 rfl]; go_simp; first | exact Below.refl _ _ | exact ⟨rfl, Below.refl _ _⟩ | exact ⟨by omega, Below.refl _ _⟩
    · rw [show us 28 = .bool true from hd 28 rfl]; rfl
    · rw [show us 31 = (.pointer (some ⟨ga, k', none⟩)) from hd 31 rfl]; have c := hx.2.2.2.2.2.2.2.2.2.2.1; have H := Lib.hid hx; clear hx; go_simp; first | exact Below.refl _ _ | exact ⟨rfl, Below.refl _ _⟩ | exact ⟨by omega, Below.refl _ _⟩
    · rw [show us 28 = .bool true from hd 28 rfl]; rfl
    · go_simp; first | exact Below.refl _ _ | exact ⟨rfl, Below.refl _ _⟩ | exact ⟨by omega, Below.refl _ _⟩
    · rw [show us 28 = .bool true from hd 28 rfl]; rfl
    · go_simp; first | exact Below.refl _ _ | exact ⟨rfl, Below.refl _ _⟩ | exact ⟨by omega, Below.refl _ _⟩
    · rw [show us 28 = .bool true from hd 28 rfl]; rfl
    · rw [show us 33 = (.slice (some ⟨gb, 0, none⟩) 35 cb) from hd 33 rfl, show us 34 = (.int .i64 k') from hd 34 rfl]; go_simp; first | exact Below.refl _ _ | exact ⟨rfl, Below.refl _ _⟩ | exact ⟨by omega, Below.refl _ _⟩
    · rw [show us 28 = .bool true from hd 28 rfl]; rfl
    · rw [show us 35 = (.pointer (some ⟨gb, k', none⟩)) from hd 35 rfl]; have c := hx.2.2.2.2.2.2.2.2.2.2.2; have H := Lib.hid hx; clear hx; go_simp; first | exact Below.refl _ _ | exact ⟨rfl, Below.refl _ _⟩ | exact ⟨by omega, Below.refl _ _⟩
    · rw [show us 28 = .bool true from hd 28 rfl]; rfl
    · rw [show us 32 = (.int .i64 ak) from hd 32 rfl, show us 36 = (.int .i64 bk) from hd 36 rfl]; have q := lt2; go_simp; first | exact Below.refl _ _ | exact ⟨rfl, Below.refl _ _⟩ | exact ⟨by omega, Below.refl _ _⟩
    · rfl
    · rw [show us 28 = .bool true from hd 28 rfl, show us 37 = .bool true from hd 37 rfl]; go_simp; first | exact Below.refl _ _ | exact ⟨rfl, Below.refl _ _⟩ | exact ⟨by omega, Below.refl _ _⟩
    · rfl
    · rw [show us 38 = .bool true from hd 38 rfl]; go_simp; first | exact Below.refl _ _ | exact ⟨rfl, Below.refl _ _⟩ | exact ⟨by omega, Below.refl _ _⟩
    · rw [show us 39 = .bool true from hd 39 rfl]; rfl
    · obtain ⟨c0, c1, c2, c3⟩ := hx.2.2.1
      have H := Lib.hid hx; clear hx
      go_simp
      first | exact Below.refl _ _ | exact ⟨by and_intros <;> rfl, Below.refl _ _⟩
    · rw [show us 39 = .bool true from hd 39 rfl]; rfl
    · go_simp; first | exact Below.refl _ _ | exact ⟨rfl, Below.refl _ _⟩ | exact ⟨by omega, Below.refl _ _⟩
    · rw [show us 39 = .bool true from hd 39 rfl]; rfl
    · go_simp; first | exact Below.refl _ _ | exact ⟨rfl, Below.refl _ _⟩ | exact ⟨by omega, Below.refl _ _⟩
    · rw [show us 39 = .bool true from hd 39 rfl]; rfl
    · rw [show us 41 = (.slice (some ⟨ga, 0, none⟩) 35 ca) from hd 41 rfl, show us 42 = (.int .i64 i') from hd 42 rfl]; go_simp; first | exact Below.refl _ _ | exact ⟨rfl, Below.refl _ _⟩ | exact ⟨by omega, Below.refl _ _⟩
    · rw [show us 39 = .bool true from hd 39 rfl]; rfl
    · rw [show us 43 = (.pointer (some ⟨ga, i', none⟩)) from hd 43 rfl]; have c := hx.2.2.2.2.2.2.2.2.1; have H := Lib.hid hx; clear hx; go_simp; first | exact Below.refl _ _ | exact ⟨rfl, Below.refl _ _⟩ | exact ⟨by omega, Below.refl _ _⟩
    · rw [show us 39 = .bool true from hd 39 rfl]; rfl
    · go_simp; first | exact Below.refl _ _ | exact ⟨rfl, Below.refl _ _⟩ | exact ⟨by omega, Below.refl _ _⟩
    · rw [show us 39 = .bool true from hd 39 rfl]; rfl
    · go_simp; first | exact Below.refl _ _ | exact ⟨rfl, Below.refl _ _⟩ | exact ⟨by omega, Below.refl _ _⟩
    · rw [show us 39 = .bool true from hd 39 rfl]; rfl
    · rw [show us 45 = (.slice (some ⟨gb, 0, none⟩) 35 cb) from hd 45 rfl, show us 46 = (.int .i64 i') from hd 46 rfl]; go_simp; first | exact Below.refl _ _ | exact ⟨rfl, Below.refl _ _⟩ | exact ⟨by omega, Below.refl _ _⟩
    · rw [show us 39 = .bool true from hd 39 rfl]; rfl
    · rw [show us 47 = (.pointer (some ⟨gb, i', none⟩)) from hd 47 rfl]; have c := hx.2.2.2.2.2.2.2.2.2.1; have H := Lib.hid hx; clear hx; go_simp; first | exact Below.refl _ _ | exact ⟨rfl, Below.refl _ _⟩ | exact ⟨by omega, Below.refl _ _⟩
    · rw [show us 39 = .bool true from hd 39 rfl]; rfl
    · rw [show us 44 = (.int .i64 ai) from hd 44 rfl, show us 48 = (.int .i64 bi) from hd 48 rfl]; have q := sb1; have q2 := sw1; go_simp; first | exact Below.refl _ _ | exact ⟨rfl, Below.refl _ _⟩ | exact ⟨by omega, Below.refl _ _⟩
    · rw [show us 39 = .bool true from hd 39 rfl]; rfl
    · rw [show us 40 = dgv x from hd 40 rfl, show us 49 = (.int .i64 d1) from hd 49 rfl]
      go_simp
      refine (rwalk_any x d1 hd1 _).mono ?_
      rw [Hw1.out]
      rintro e w1 ⟨rfl, hb⟩
      exact ⟨_, rfl, rfl, hb⟩
    · rw [show us 39 = .bool true from hd 39 rfl]; rfl
    · go_simp; first | exact Below.refl _ _ | exact ⟨rfl, Below.refl _ _⟩ | exact ⟨by omega, Below.refl _ _⟩
    · rw [show us 39 = .bool true from hd 39 rfl]; rfl
    · go_simp; first | exact Below.refl _ _ | exact ⟨rfl, Below.refl _ _⟩ | exact ⟨by omega, Below.refl _ _⟩
    · rw [show us 39 = .bool true from hd 39 rfl]; rfl
    · rw [show us 51 = (.slice (some ⟨bs, os, none⟩) 35 cs) from hd 51 rfl, show us 52 = (.int .i64 i') from hd 52 rfl]; go_simp; first | exact Below.refl _ _ | exact ⟨rfl, Below.refl _ _⟩ | exact ⟨by omega, Below.refl _ _⟩
    · rw [show us 39 = .bool true from hd 39 rfl]; rfl
    · rw [show us 53 = (.pointer (some ⟨bs, os + i' * 4, none⟩)) from hd 53 rfl]
      obtain ⟨c0, c1, c2, c3⟩ := hx.2.2.2.2.2.2.1
      have H := Lib.hid hx; clear hx
      go_simp
      first | exact Below.refl _ _ | exact ⟨by and_intros <;> rfl, Below.refl _ _⟩
    · rw [show us 39 = .bool true from hd 39 rfl]; rfl
    · rw [show us 50 = dgv si from hd 50 rfl, show us 54 = dgv si from hd 54 rfl]; have hq := dg_eql si si; rw [decide_eq_true rfl] at hq; go_simp; first | exact Below.refl _ _ | exact ⟨rfl, Below.refl _ _⟩ | exact ⟨by omega, Below.refl _ _⟩
    · rfl
    · rw [show us 39 = .bool true from hd 39 rfl, show us 55 = .bool true from hd 55 rfl]; go_simp; first | exact Below.refl _ _ | exact ⟨rfl, Below.refl _ _⟩ | exact ⟨by omega, Below.refl _ _⟩
    · rfl
    · rw [show us 56 = .bool true from hd 56 rfl]; go_simp; first | exact Below.refl _ _ | exact ⟨rfl, Below.refl _ _⟩ | exact ⟨by omega, Below.refl _ _⟩
    · rw [show us 57 = .bool true from hd 57 rfl]; rfl
    · obtain ⟨c0, c1, c2, c3⟩ := hx.2.2.2.1
      have H := Lib.hid hx; clear hx
      go_simp
      first | exact Below.refl _ _ | exact ⟨by and_intros <;> rfl, Below.refl _ _⟩
    · rw [show us 57 = .bool true from hd 57 rfl]; rfl
    · go_simp; first | exact Below.refl _ _ | exact ⟨rfl, Below.refl _ _⟩ | exact ⟨by omega, Below.refl _ _⟩
    · rw [show us 57 = .bool true from hd 57 rfl]; rfl
    · go_simp; first | exact Below.refl _ _ | exact ⟨rfl, Below.refl _ _⟩ | exact ⟨by omega, Below.refl _ _⟩
    · rw [show us 57 = .bool true from hd 57 rfl]; rfl
    · rw [show us 59 = (.slice (some ⟨gb, 0, none⟩) 35 cb) from hd 59 rfl, show us 60 = (.int .i64 k') from hd 60 rfl]; go_simp; first | exact Below.refl _ _ | exact ⟨rfl, Below.refl _ _⟩ | exact ⟨by omega, Below.refl _ _⟩
    · rw [show us 57 = .bool true from hd 57 rfl]; rfl
    · rw [show us 61 = (.pointer (some ⟨gb, k', none⟩)) from hd 61 rfl]; have c := hx.2.2.2.2.2.2.2.2.2.2.2; have H := Lib.hid hx; clear hx; go_simp; first | exact Below.refl _ _ | exact ⟨rfl, Below.refl _ _⟩ | exact ⟨by omega, Below.refl _ _⟩
    · rw [show us 57 = .bool true from hd 57 rfl]; rfl
    · go_simp; first | exact Below.refl _ _ | exact ⟨rfl, Below.refl _ _⟩ | exact ⟨by omega, Below.refl _ _⟩
    · rw [show us 57 = .bool true from hd 57 rfl]; rfl
    · go_simp; first | exact Below.refl _ _ | exact ⟨rfl, Below.refl _ _⟩ | exact ⟨by omega, Below.refl _ _⟩
    · rw [show us 57 = .bool true from hd 57 rfl]; rfl
    · rw [show us 63 = (.slice (some ⟨ga, 0, none⟩) 35 ca) from hd 63 rfl, show us 64 = (.int .i64 k') from hd 64 rfl]; go_simp; first | exact Below.refl _ _ | exact ⟨rfl, Below.refl _ _⟩ | exact ⟨by omega, Below.refl _ _⟩
    · rw [show us 57 = .bool true from hd 57 rfl]; rfl
    · rw [show us 65 = (.pointer (some ⟨ga, k', none⟩)) from hd 65 rfl]; have c := hx.2.2.2.2.2.2.2.2.2.2.1; have H := Lib.hid hx; clear hx; go_simp; first | exact Below.refl _ _ | exact ⟨rfl, Below.refl _ _⟩ | exact ⟨by omega, Below.refl _ _⟩
    · rw [show us 57 = .bool true from hd 57 rfl]; rfl
    · rw [show us 62 = (.int .i64 bk) from hd 62 rfl, show us 66 = (.int .i64 ak) from hd 66 rfl]; have q := sb2; have q2 := sw2; go_simp; first | exact Below.refl _ _ | exact ⟨rfl, Below.refl _ _⟩ | exact ⟨by omega, Below.refl _ _⟩
    · rw [show us 57 = .bool true from hd 57 rfl]; rfl
    · rw [show us 58 = dgv y from hd 58 rfl, show us 67 = (.int .i64 d2) from hd 67 rfl]
      go_simp
      refine (rwalk_any y d2 hd2 _).mono ?_
      rw [Hw2.out]
      rintro e w1 ⟨rfl, hb⟩
      exact ⟨_, rfl, rfl, hb⟩
    · rw [show us 57 = .bool true from hd 57 rfl]; rfl
    · go_simp; first | exact Below.refl _ _ | exact ⟨rfl, Below.refl _ _⟩ | exact ⟨by omega, Below.refl _ _⟩
    · rw [show us 57 = .bool true from hd 57 rfl]; rfl
    · go_simp; first | exact Below.refl _ _ | exact ⟨rfl, Below.refl _ _⟩ | exact ⟨by omega, Below.refl _ _⟩
    · rw [show us 57 = .bool true from hd 57 rfl]; rfl
    · rw [show us 69 = (.slice (some ⟨bt, ot, none⟩) 35 ct) from hd 69 rfl, show us 70 = (.int .i64 k') from hd 70 rfl]; go_simp; first | exact Below.refl _ _ | exact ⟨rfl, Below.refl _ _⟩ | exact ⟨by omega, Below.refl _ _⟩
    · rw [show us 57 = .bool true from hd 57 rfl]; rfl
    · rw [show us 71 = (.pointer (some ⟨bt, ot + k' * 4, none⟩)) from hd 71 rfl]
      obtain ⟨c0, c1, c2, c3⟩ := hx.2.2.2.2.2.2.2.1
      have H := Lib.hid hx; clear hx
      go_simp
      first | exact Below.refl _ _ | exact ⟨by and_intros <;> rfl, Below.refl _ _⟩
    · rw [show us 57 = .bool true from hd 57 rfl]; rfl
    · rw [show us 68 = dgv tk from hd 68 rfl, show us 72 = dgv tk from hd 72 rfl]; have hq := dg_eql tk tk; rw [decide_eq_true rfl] at hq; go_simp; first | exact Below.refl _ _ | exact ⟨rfl, Below.refl _ _⟩ | exact ⟨by omega, Below.refl _ _⟩
  rintro us W1 hx hF
  have h57 : us 57 = .bool true := hF 57 (by decide)
  have h73 : us 73 = .bool true := hF 73 (by decide)
  clear hF
  simp only [putAll, dstOf, List.getElem?_toArray, List.getElem?_cons_succ, List.getElem?_cons_zero, Option.bind_some, List.drop_succ_cons, List.drop_zero]
  rw [h57, h73]
  go_frame
  go_wp2
  go_ret
  exact ⟨rfl, hx.2.1⟩
end Go.Proofs.YtpodfmnnabepaaaDoor
