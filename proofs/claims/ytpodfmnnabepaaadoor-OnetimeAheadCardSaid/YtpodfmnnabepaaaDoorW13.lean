import Derived.Test.YtpodfmnnabepaaaDoorW12
import Derived.Test.YtpodfmnnabepaaaDoorR3
namespace Go.Proofs.YtpodfmnnabepaaaDoor
open Go.RowKit
open Ot (Dg)
theorem Arr.keep {w w' : World} {b n : Nat} {f : Nat → UInt32} (h : Arr w b n f) (hb : Below w.heap.size w w') (hn : 0 < n) : Arr w' b n f := h.below hb (h.lt hn)
/-- A block of four cells at most. -/
def Thin (w : World) (B : Nat) : Prop := B < w.heap.size ∧ ∀ j, 4 ≤ j → w.cell? ⟨B, j, none⟩ = none
theorem Thin.new (w : World) (c : Array Value) (t : TypeId) (hc : c.size = 4) : Thin (w.alloc (.cells c t)) w.heap.size :=
  ⟨by simp, fun j hj => by rw [World.cell?_alloc_new]; exact Array.getElem?_eq_none (by omega)⟩
theorem Thin.keep {w w' : World} {B : Nat} (h : Thin w B) (hb : Below w.heap.size w w') : Thin w' B :=
  ⟨Nat.lt_of_lt_of_le h.1 hb.size, fun j hj => (hb.cell (p := ⟨B, j, none⟩) h.1).trans (h.2 j hj)⟩
theorem DgAt.set_other {w : World} {b o : Nat} {d : Dg} (h : DgAt w b o d) (a : Addr) (v : Value) (hne : a.block ≠ b) : DgAt (w.setCell a v) b o d := by
  obtain ⟨h0, h1, h2, h3⟩ := h
  refine ⟨?_, ?_, ?_, ?_⟩ <;> (rw [World.cell?_setCell_other _ _ _ _ (by intro e; exact hne (by rw [e]))]; assumption)
theorem SigAt.fill {w : World} {v : Value} {l : List Dg} {B : Nat} (h : SigAt w v l) (hB : Thin w B) (hl : 2 ≤ l.length) (v0 v1 v2 v3 : Value) :
    SigAt ((((w.setCell ⟨B,0,none⟩ v0).setCell ⟨B,1,none⟩ v1).setCell ⟨B,2,none⟩ v2).setCell ⟨B,3,none⟩ v3) v l := by
  obtain ⟨A, c, rfl, hl1, h⟩ := h
  refine ⟨A, c, rfl, hl1, fun hp => ?_⟩
  obtain ⟨b, off, rfl, hbl, hc⟩ := h hp
  have hne : B ≠ b := by
    intro e
    subst e
    have h1 := (hc 1 (by omega)).1
    rw [hB.2 (off + 1 * 4) (by omega)] at h1
    cases h1
  exact ⟨b, off, rfl, by simpa using hbl, fun i hi => (((hc i hi).set_other _ _ hne).set_other _ _ hne |>.set_other _ _ hne).set_other _ _ hne⟩
/-- Two digests, each in a block of its own. -/
def Two (b1 : Nat) (x : Dg) (b2 : Nat) (y : Dg) (w' : World) : Prop := (w'.cell? ⟨b1, 0, none⟩ = some (.int .u32 x.a.toNat) ∧ w'.cell? ⟨b1, 1, none⟩ = some (.int .u32 x.b.toNat) ∧ w'.cell? ⟨b1, 2, none⟩ = some (.int .u32 x.c.toNat) ∧ w'.cell? ⟨b1, 3, none⟩ = some (.int .u32 x.d.toNat)) ∧ w'.cell? ⟨b2, 0, none⟩ = some (.int .u32 y.a.toNat) ∧ w'.cell? ⟨b2, 1, none⟩ = some (.int .u32 y.b.toNat) ∧ w'.cell? ⟨b2, 2, none⟩ = some (.int .u32 y.c.toNat) ∧ w'.cell? ⟨b2, 3, none⟩ = some (.int .u32 y.d.toNat)
theorem Two.keep {b1 b2 : Nat} {x y : Dg} {w w' : World} (h : Two b1 x b2 y w) (hb : Below w.heap.size w w') : Two b1 x b2 y w' := by
  obtain ⟨⟨b0, b1, b2, b3⟩, c0, c1, c2, c3⟩ := h
  exact ⟨⟨cell_keep b0 hb, cell_keep b1 hb, cell_keep b2 hb, cell_keep b3 hb⟩, cell_keep c0 hb, cell_keep c1 hb, cell_keep c2 hb, cell_keep c3 hb⟩
theorem Two.of {b1 b2 : Nat} {x y : Dg} {w : World} (h1 : Arr w b1 4 (fnOf x)) (h2 : Arr w b2 4 (fnOf y)) : Two b1 x b2 y w := ⟨h1.dg, h2.dg⟩
/-- What a law's walk carries from world to world: W the world at its start. -/
def St (W : World) (b1 : Nat) (x : Dg) (b2 : Nat) (y : Dg) (lo : Nat) (w : World) : Prop := Tn w ∧ Below W.heap.size W w ∧ Two b1 x b2 y w ∧ lo ≤ w.heap.size
theorem St.keep {W : World} {b1 b2 lo : Nat} {x y : Dg} {w w' : World} (h : St W b1 x b2 y lo w) (hb : Below w.heap.size w w') : St W b1 x b2 y lo w' :=
  ⟨h.1.below hb, h.2.1.trans (hb.mono h.2.1.size), h.2.2.1.keep hb, Nat.le_trans h.2.2.2 hb.size⟩
theorem St.alloc {W : World} {b1 b2 lo : Nat} {x y : Dg} {w : World} (h : St W b1 x b2 y lo w) (o : Obj) : St W b1 x b2 y lo (w.alloc o) := h.keep ((Below.refl _ _).alloc (Nat.le_refl _) _)
theorem St.fill {W : World} {b1 b2 lo : Nat} {x y : Dg} {w : World} (h : St W b1 x b2 y lo w) {b : Nat} (hb : lo ≤ b) (hW : W.heap.size ≤ lo) (h1 : b1 < lo) (h2 : b2 < lo) (v0 v1 v2 v3 : Value) : St W b1 x b2 y lo ((((w.setCell ⟨b,0,none⟩ v0).setCell ⟨b,1,none⟩ v1).setCell ⟨b,2,none⟩ v2).setCell ⟨b,3,none⟩ v3) := by
  have hB : Below lo w ((((w.setCell ⟨b,0,none⟩ v0).setCell ⟨b,1,none⟩ v1).setCell ⟨b,2,none⟩ v2).setCell ⟨b,3,none⟩ v3) := (Below.refl _ _).fill4 hb _ _ _ _
  obtain ⟨t, hb0, ⟨⟨a0, a1, a2, a3⟩, c0, c1, c2, c3⟩, hl⟩ := h
  have k1 : ∀ {j v}, w.cell? ⟨b1, j, none⟩ = some v → ((((w.setCell ⟨b,0,none⟩ v0).setCell ⟨b,1,none⟩ v1).setCell ⟨b,2,none⟩ v2).setCell ⟨b,3,none⟩ v3).cell? ⟨b1, j, none⟩ = some v := fun {j v} hv => (hB.cell (p := ⟨b1, j, none⟩) h1).trans hv
  have k2 : ∀ {j v}, w.cell? ⟨b2, j, none⟩ = some v → ((((w.setCell ⟨b,0,none⟩ v0).setCell ⟨b,1,none⟩ v1).setCell ⟨b,2,none⟩ v2).setCell ⟨b,3,none⟩ v3).cell? ⟨b2, j, none⟩ = some v := fun {j v} hv => (hB.cell (p := ⟨b2, j, none⟩) h2).trans hv
  have k0 : ∀ {j v}, w.cell? ⟨0, j, none⟩ = some v → ((((w.setCell ⟨b,0,none⟩ v0).setCell ⟨b,1,none⟩ v1).setCell ⟨b,2,none⟩ v2).setCell ⟨b,3,none⟩ v3).cell? ⟨0, j, none⟩ = some v := fun {j v} hv => (hB.cell (p := ⟨0, j, none⟩) (by simp; omega)).trans hv
  exact ⟨⟨⟨k0 t.1.1, k0 t.1.2⟩, k0 t.2.1, k0 t.2.2⟩, hb0.fill4 (by omega) _ _ _ _, ⟨⟨k1 a0, k1 a1, k1 a2, k1 a3⟩, k2 c0, k2 c1, k2 c2, k2 c3⟩, by simpa using hl⟩
set_option maxRecDepth 100000 in
set_option maxHeartbeats 2000000 in
theorem holds_any (x m : Dg) (w : World) (ht : Tn w) : Calls Tryd.prog 5 #[dgv x, dgv m] w fun e w' => e = .returned (.bool true) ∧ Below w.heap.size w w' := by
  go_enter Tryd.func5, Tryd.ntmps5
  go_wp2_with fail
  generalize hW : (w.alloc (.cells #[.int .u32 x.a.toNat, .int .u32 x.b.toNat, .int .u32 x.c.toNat, .int .u32 x.d.toNat] 24)).alloc (.cells #[.int .u32 m.a.toNat, .int .u32 m.b.toNat, .int .u32 m.c.toNat, .int .u32 m.d.toNat] 24) = W
  have hbW : Below w.heap.size w W := by subst hW; exact ((Below.refl _ _).alloc (Nat.le_refl _) _).alloc (by simp) _
  have hx0 : Arr W w.heap.size 4 (fnOf x) := by subst hW; exact (Arr.new w 4 (fnOf x) 24 _ rfl).alloc (by simp) _
  have hm0 : Arr W (w.heap.size + 1) 4 (fnOf m) := by subst hW; exact Arr.new' _ _ 4 (fnOf m) 24 _ (by simp) rfl
  have hsW : w.heap.size + 2 ≤ W.heap.size := by subst hW; simp
  clear hW
  have hk : St w w.heap.size x (w.heap.size + 1) m (w.heap.size + 2) W.drew := ⟨ht.below hbW.drew, hbW.drew, Two.of hx0.drew hm0.drew, hsW⟩
  have hl35 := Ot.sign_length pair x m
  have hrs := Ot.reach_sign pair x m
  generalize hsg : Ot.sign pair x m = sg at *
  generalize hpb : Ot.pub pair x = pb at *
  have Hsg := Lib.hid hsg; clear hsg
  have Hpb := Lib.hid hpb; clear hpb
  have Hrs := Lib.hid hrs; clear hrs
  go_upto_region 1 with fail
  refine wp_region_inv (St w w.heap.size x (w.heap.size + 1) m (w.heap.size + 2)) (fun j v w' => match j with | 0 => v = dgv x | 1 => v = dgv m | 2 => SigAt w' v sg | 3 => v = dgv x | 4 => v = dgv pb | 5 => ∃ B, v = .pointer (some ⟨B, 0, none⟩) ∧ Arr w' B 4 (fun _ => 0) ∧ w.heap.size + 2 ≤ B ∧ Thin w' B | _ => True) 6 (by kernel_rfl) (by kernel_rfl) hk (fun _ _ h hb => h.keep hb) ?_ ?_ ?_
  · rintro (_|_|_|_|_|_|j) v w1 w2 hb h
    all_goals first | exact h | exact SigAt.below h hb | (obtain ⟨B, rfl, hz, hl, ht⟩ := h; exact ⟨B, rfl, hz.keep hb (by decide), hl, ht.keep hb⟩)
  · refine ⟨fun us wx hx hd => ?_, fun us wx hx hd => ?_, fun us wx hx hd => ?_, fun us wx hx hd => ?_, fun us wx hx hd => ?_, fun us wx hx hd => ?_, trivial⟩
    all_goals simp only [putAll, dstOf, List.getElem?_toArray, List.getElem?_cons_succ, List.getElem?_cons_zero, Option.bind_some]
    all_goals go_frame
    · obtain ⟨c0, c1, c2, c3⟩ := hx.2.2.1.1; have H := Lib.hid hx; clear hx; go_simp; first | exact Below.refl _ _ | exact ⟨by and_intros <;> rfl, Below.refl _ _⟩
    · obtain ⟨c0, c1, c2, c3⟩ := hx.2.2.1.2; have H := Lib.hid hx; clear hx; go_simp; first | exact Below.refl _ _ | exact ⟨by and_intros <;> rfl, Below.refl _ _⟩
    · rw [show us 0 = dgv x from hd 0 rfl, show us 1 = dgv m from hd 1 rfl]
      go_simp
      refine (sign_any x m _ hx.1).mono ?_
      rw [Hsg.out]
      rintro e w1 ⟨vs, rfl, hb, hown⟩
      exact ⟨_, rfl, own_sig hown, hb⟩
    · obtain ⟨c0, c1, c2, c3⟩ := hx.2.2.1.1; have H := Lib.hid hx; clear hx; go_simp; first | exact Below.refl _ _ | exact ⟨by and_intros <;> rfl, Below.refl _ _⟩
    · rw [show us 3 = dgv x from hd 3 rfl]
      go_simp
      refine (public_any x _ hx.1).mono ?_
      rw [Hpb.out]
      rintro e w1 ⟨rfl, hb⟩
      exact ⟨_, rfl, rfl, hb⟩
    · go_simp
      exact ⟨⟨Arr.new _ 4 (fun _ => 0) 24 _ rfl, hx.2.2.2, Thin.new _ _ _ rfl⟩, (Below.refl _ _).alloc (Nat.le_refl _) _⟩
  rintro us W1 hx hF
  have hsig : SigAt W1 (us 2) sg := hF 2 (by decide)
  have hpbv : us 4 = dgv pb := hF 4 (by decide)
  obtain ⟨B, hBe, hz, hBl, hthin⟩ : ∃ B, us 5 = .pointer (some ⟨B, 0, none⟩) ∧ Arr W1 B 4 (fun _ => 0) ∧ w.heap.size + 2 ≤ B ∧ Thin W1 B := hF 5 (by decide)
  clear hF
  simp only [putAll, dstOf, List.getElem?_toArray, List.getElem?_cons_succ, List.getElem?_cons_zero, Option.bind_some, List.drop_succ_cons, List.drop_zero]
  rw [hpbv, hBe]
  generalize us 0 = u0
  generalize us 1 = u1
  generalize us 3 = u3
  generalize us 2 = s5 at *
  clear hpbv hBe us
  go_frame
  have hzc := fun j h => hz.cell j h
  have hzf := fun j h => hz.free j h
  obtain ⟨⟨x0, x1, x2, x3⟩, m0, m1, m2, m3⟩ := hx.2.2.1
  have hne1 : B ≠ w.heap.size := by omega
  have hne2 : B ≠ w.heap.size + 1 := by omega
  go_wp2_with fail
  have hk2 := hx.fill hBl (by omega) (by omega) (by omega) (.int .u32 pb.a.toNat) (.int .u32 pb.b.toNat) (.int .u32 pb.c.toNat) (.int .u32 pb.d.toNat)
  have hsig2 := hsig.fill hthin (by omega) (.int .u32 pb.a.toNat) (.int .u32 pb.b.toNat) (.int .u32 pb.c.toNat) (.int .u32 pb.d.toNat)
  have hz2 := hz.fill4 (fnOf pb)
  change Arr ((((W1.setCell ⟨B,0,none⟩ (.int .u32 pb.a.toNat)).setCell ⟨B,1,none⟩ (.int .u32 pb.b.toNat)).setCell ⟨B,2,none⟩ (.int .u32 pb.c.toNat)).setCell ⟨B,3,none⟩ (.int .u32 pb.d.toNat)) B 4 (fnOf pb) at hz2
  clear x0 x1 x2 x3 m0 m1 m2 m3 hzc hzf hx hsig hz hthin hk
  generalize ((((W1.setCell ⟨B,0,none⟩ (.int .u32 pb.a.toNat)).setCell ⟨B,1,none⟩ (.int .u32 pb.b.toNat)).setCell ⟨B,2,none⟩ (.int .u32 pb.c.toNat)).setCell ⟨B,3,none⟩ (.int .u32 pb.d.toNat)) = W2 at *
  refine (reach_full m s5 sg hl35 _ hk2.1 hsig2).mono ?_
  rw [Hrs.out]
  rintro e W3 ⟨rfl, hb3⟩
  replace hk2 := hk2.keep hb3
  replace hsig2 := hsig2.below hb3
  replace hz2 := hz2.keep hb3 (by decide)
  clear hb3
  go_wp2_with fail
  have hbA : Below W3.heap.size W3 (W3.alloc (.cells #[.int .u32 pb.a.toNat, .int .u32 pb.b.toNat, .int .u32 pb.c.toNat, .int .u32 pb.d.toNat] 24)) := (Below.refl _ _).alloc (Nat.le_refl _) _
  have hy : Arr (W3.alloc (.cells #[.int .u32 pb.a.toNat, .int .u32 pb.b.toNat, .int .u32 pb.c.toNat, .int .u32 pb.d.toNat] 24)) W3.heap.size 4 (fnOf pb) := Arr.new _ _ _ _ _ rfl
  replace hk2 := hk2.keep hbA
  replace hsig2 := hsig2.below hbA
  replace hz2 := hz2.keep hbA (by decide)
  clear hbA
  generalize W3.alloc (.cells #[.int .u32 pb.a.toNat, .int .u32 pb.b.toNat, .int .u32 pb.c.toNat, .int .u32 pb.d.toNat] 24) = W4 at *
  generalize W3.heap.size = Y at *
  refine (awake_any _ hk2.1).mono ?_
  rintro e W5 ⟨rfl, hb5⟩
  replace hk2 := hk2.keep hb5
  replace hsig2 := hsig2.below hb5
  replace hz2 := hz2.keep hb5 (by decide)
  replace hy := hy.keep hb5 (by decide)
  clear hb5
  obtain ⟨m0, m1, m2, m3⟩ := hk2.2.2.1.2
  obtain ⟨z0, z1, z2, z3⟩ := hz2.dg
  go_wp2_with fail
  refine (check_full pb m s5 sg hl35 _ hk2.1 hsig2).mono ?_
  rw [Hrs.out]
  rintro e W6 ⟨rfl, hb6⟩
  clear m0 m1 m2 m3 z0 z1 z2 z3
  replace hk2 := hk2.keep hb6
  replace hz2 := hz2.keep hb6 (by decide)
  replace hy := hy.keep hb6 (by decide)
  obtain ⟨y0, y1, y2, y3⟩ := hy.dg
  obtain ⟨z0, z1, z2, z3⟩ := hz2.dg
  have heq := dg_eql pb pb
  simp only [decide_true]
  go_wp2_with fail
  exact bodyPost_ret (v := .bool true) (by simp [results, Tryd.results5, go_sem]) rfl ⟨rfl, hk2.2.1⟩
end Go.Proofs.YtpodfmnnabepaaaDoor
