/- Walk: the law OnetimeAhead. Conditions: those written in each. -/
import Derived.Test.YtpodfmnnabepaaaDoorW27
namespace Go.Proofs.YtpodfmnnabepaaaDoor
open Go.RowKit
open Ot (Dg)
abbrev askV (m o : Dg) (v u : Value) : Value := .agg #[.int .u32 m.a.toNat, .int .u32 m.b.toNat, .int .u32 m.c.toNat, .int .u32 m.d.toNat, .int .u32 o.a.toNat, .int .u32 o.b.toNat, .int .u32 o.c.toNat, .int .u32 o.d.toNat, v, u]
theorem ahead_all (m o : Dg) (v u : Value) (s t : List Dg) (w : World) (ht : Tn w) (hv : SigAt w v s) (hu : SigAt w u t) :
    Calls Tryd.prog 30 #[dgv m, v, dgv o, u] w fun e w' => e = .returned (.tuple #[.int .i64 ((aheadR m s o t).1 : Nat), dgv (aheadR m s o t).2.1, .bool (aheadR m s o t).2.2]) ∧ Below w.heap.size w w' := by
  by_cases h : s.length = 35 ∧ t.length = 35
  · refine (ahead_full m o v u s t h.1 h.2 w ht hv hu).mono ?_
    rintro e w' ⟨⟨i, d, b, rfl, hR⟩, hb⟩
    rw [← hR]
    exact ⟨rfl, hb⟩
  · refine (ahead_short m o v u s t h w hv hu).mono ?_
    rintro e w' ⟨rfl, hb⟩
    have hR : aheadR m s o t = (0, Ot.zeroD, false) := by unfold aheadR; rw [if_neg h]
    rw [hR]
    exact ⟨rfl, hb⟩
theorem rahead_all (m o : Dg) (v u : Value) (s t : List Dg) (w : World) (ht : Tn w) (hv : SigAt w v s) (hu : SigAt w u t) :
    Calls Tryd.prog 32 #[dgv m, v, dgv o, u] w fun e w' => e = .returned (.tuple #[.int .i64 ((aheadR m s o t).1 : Nat), dgv (aheadR m s o t).2.1, .bool (aheadR m s o t).2.2]) ∧ Below w.heap.size w w' := by
  by_cases h : s.length = 35 ∧ t.length = 35
  · refine (rahead_full m o v u s t h.1 h.2 w ht hv hu).mono ?_
    rintro e w' ⟨⟨i, d, b, rfl, hR⟩, hb⟩
    rw [← hR]
    exact ⟨rfl, hb⟩
  · refine (rahead_short m o v u s t h w hv hu).mono ?_
    rintro e w' ⟨rfl, hb⟩
    have hR : aheadR m s o t = (0, Ot.zeroD, false) := by unfold aheadR; rw [if_neg h]
    rw [hR]
    exact ⟨rfl, hb⟩
set_option maxRecDepth 100000 in
set_option maxHeartbeats 4000000 in
theorem lahead_any (m o : Dg) (v u : Value) (s t : List Dg) (w : World) (ht : Tn w) (hv : SigAt w v s) (hu : SigAt w u t) : Calls Tryd.prog 9 #[askV m o v u] w fun e w' => e = .returned (.bool true) ∧ Below w.heap.size w w' := by
  have ha1 := fun w' h1 h2 h3 => ahead_all m o v u s t w' h1 h2 h3
  have ha2 := fun w' h1 h2 h3 => rahead_all m o v u s t w' h1 h2 h3
  generalize aheadR m s o t = R at *
  obtain ⟨i, d, b⟩ := R
  simp only at ha1 ha2
  have Ha1 := Lib.hid ha1; have Ha2 := Lib.hid ha2; clear ha1 ha2
  obtain ⟨A, c, e1, hl1, _⟩ := id hv
  obtain ⟨A', c', e2, hl2, _⟩ := id hu
  subst e1 e2
  have hbA : Below w.heap.size w (w.alloc (.cells #[.int .u32 m.a.toNat, .int .u32 m.b.toNat, .int .u32 m.c.toNat, .int .u32 m.d.toNat, .int .u32 o.a.toNat, .int .u32 o.b.toNat, .int .u32 o.c.toNat, .int .u32 o.d.toNat, .slice A s.length c, .slice A' t.length c'] 44)) := (Below.refl _ _).alloc (Nat.le_refl _) _
  by_cases h1 : 40 < s.length
  · have q : decide ((40 : Int) < (s.length : Int)) = true := by simp; omega
    go_enter Tryd.func9, Tryd.ntmps9
    go_wp2_with (go_at_call 17; refine (awake_any _ (ht.below hbA)).mono ?_; rintro e w1 ⟨rfl, b1⟩)
    go_ret
    exact ⟨rfl, hbA.trans (b1.mono hbA.size)⟩
  have q : decide ((40 : Int) < (s.length : Int)) = false := by simp; omega
  by_cases h2 : 40 < t.length
  · have q2 : decide ((40 : Int) < (t.length : Int)) = true := by simp; omega
    go_enter Tryd.func9, Tryd.ntmps9
    go_wp2_with (go_at_call 17; refine (awake_any _ (ht.below hbA)).mono ?_; rintro e w1 ⟨rfl, b1⟩)
    go_ret
    exact ⟨rfl, hbA.trans (b1.mono hbA.size)⟩
  have q2 : decide ((40 : Int) < (t.length : Int)) = false := by simp; omega
  go_enter Tryd.func9, Tryd.ntmps9
  have x0 : (w.alloc (.cells #[.int .u32 m.a.toNat, .int .u32 m.b.toNat, .int .u32 m.c.toNat, .int .u32 m.d.toNat, .int .u32 o.a.toNat, .int .u32 o.b.toNat, .int .u32 o.c.toNat, .int .u32 o.d.toNat, .slice A s.length c, .slice A' t.length c'] 44)).cell? ⟨w.heap.size, 0, none⟩ = some (.int .u32 m.a.toNat) := by rw [World.cell?_alloc_new]; rfl
  have x1 : (w.alloc (.cells #[.int .u32 m.a.toNat, .int .u32 m.b.toNat, .int .u32 m.c.toNat, .int .u32 m.d.toNat, .int .u32 o.a.toNat, .int .u32 o.b.toNat, .int .u32 o.c.toNat, .int .u32 o.d.toNat, .slice A s.length c, .slice A' t.length c'] 44)).cell? ⟨w.heap.size, 1, none⟩ = some (.int .u32 m.b.toNat) := by rw [World.cell?_alloc_new]; rfl
  have x2 : (w.alloc (.cells #[.int .u32 m.a.toNat, .int .u32 m.b.toNat, .int .u32 m.c.toNat, .int .u32 m.d.toNat, .int .u32 o.a.toNat, .int .u32 o.b.toNat, .int .u32 o.c.toNat, .int .u32 o.d.toNat, .slice A s.length c, .slice A' t.length c'] 44)).cell? ⟨w.heap.size, 2, none⟩ = some (.int .u32 m.c.toNat) := by rw [World.cell?_alloc_new]; rfl
  have x3 : (w.alloc (.cells #[.int .u32 m.a.toNat, .int .u32 m.b.toNat, .int .u32 m.c.toNat, .int .u32 m.d.toNat, .int .u32 o.a.toNat, .int .u32 o.b.toNat, .int .u32 o.c.toNat, .int .u32 o.d.toNat, .slice A s.length c, .slice A' t.length c'] 44)).cell? ⟨w.heap.size, 3, none⟩ = some (.int .u32 m.d.toNat) := by rw [World.cell?_alloc_new]; rfl
  have x4 : (w.alloc (.cells #[.int .u32 m.a.toNat, .int .u32 m.b.toNat, .int .u32 m.c.toNat, .int .u32 m.d.toNat, .int .u32 o.a.toNat, .int .u32 o.b.toNat, .int .u32 o.c.toNat, .int .u32 o.d.toNat, .slice A s.length c, .slice A' t.length c'] 44)).cell? ⟨w.heap.size, 4, none⟩ = some (.int .u32 o.a.toNat) := by rw [World.cell?_alloc_new]; rfl
  have x5 : (w.alloc (.cells #[.int .u32 m.a.toNat, .int .u32 m.b.toNat, .int .u32 m.c.toNat, .int .u32 m.d.toNat, .int .u32 o.a.toNat, .int .u32 o.b.toNat, .int .u32 o.c.toNat, .int .u32 o.d.toNat, .slice A s.length c, .slice A' t.length c'] 44)).cell? ⟨w.heap.size, 5, none⟩ = some (.int .u32 o.b.toNat) := by rw [World.cell?_alloc_new]; rfl
  have x6 : (w.alloc (.cells #[.int .u32 m.a.toNat, .int .u32 m.b.toNat, .int .u32 m.c.toNat, .int .u32 m.d.toNat, .int .u32 o.a.toNat, .int .u32 o.b.toNat, .int .u32 o.c.toNat, .int .u32 o.d.toNat, .slice A s.length c, .slice A' t.length c'] 44)).cell? ⟨w.heap.size, 6, none⟩ = some (.int .u32 o.c.toNat) := by rw [World.cell?_alloc_new]; rfl
  have x7 : (w.alloc (.cells #[.int .u32 m.a.toNat, .int .u32 m.b.toNat, .int .u32 m.c.toNat, .int .u32 m.d.toNat, .int .u32 o.a.toNat, .int .u32 o.b.toNat, .int .u32 o.c.toNat, .int .u32 o.d.toNat, .slice A s.length c, .slice A' t.length c'] 44)).cell? ⟨w.heap.size, 7, none⟩ = some (.int .u32 o.d.toNat) := by rw [World.cell?_alloc_new]; rfl
  have x8 : (w.alloc (.cells #[.int .u32 m.a.toNat, .int .u32 m.b.toNat, .int .u32 m.c.toNat, .int .u32 m.d.toNat, .int .u32 o.a.toNat, .int .u32 o.b.toNat, .int .u32 o.c.toNat, .int .u32 o.d.toNat, .slice A s.length c, .slice A' t.length c'] 44)).cell? ⟨w.heap.size, 8, none⟩ = some (.slice A s.length c) := by rw [World.cell?_alloc_new]; rfl
  have x9 : (w.alloc (.cells #[.int .u32 m.a.toNat, .int .u32 m.b.toNat, .int .u32 m.c.toNat, .int .u32 m.d.toNat, .int .u32 o.a.toNat, .int .u32 o.b.toNat, .int .u32 o.c.toNat, .int .u32 o.d.toNat, .slice A s.length c, .slice A' t.length c'] 44)).cell? ⟨w.heap.size, 9, none⟩ = some (.slice A' t.length c') := by rw [World.cell?_alloc_new]; rfl
  have tn0 := ht.below hbA
  have v0 := hv.below hbA
  have u0 := hu.below hbA
  go_wp2_with fail
  refine (Ha1.out _ tn0 v0 u0).mono ?_
  rintro e w1 ⟨rfl, b1⟩
  have tn1 := tn0.below b1
  have v1 := v0.below b1
  have u1 := u0.below b1
  have c1 := hbA.trans (b1.mono hbA.size)
  replace x0 := cell_keep x0 b1
  replace x1 := cell_keep x1 b1
  replace x2 := cell_keep x2 b1
  replace x3 := cell_keep x3 b1
  replace x4 := cell_keep x4 b1
  replace x5 := cell_keep x5 b1
  replace x6 := cell_keep x6 b1
  replace x7 := cell_keep x7 b1
  replace x8 := cell_keep x8 b1
  replace x9 := cell_keep x9 b1
  have hBs : w.heap.size < w1.heap.size := World.block_lt_of_cell? w1 _ x0
  have hBn : w.heap.size ≠ w1.heap.size := by omega
  have bD : Below w1.heap.size w1 (w1.alloc (.cells #[.int .u32 d.a.toNat, .int .u32 d.b.toNat, .int .u32 d.c.toNat, .int .u32 d.d.toNat] 24)) := (Below.refl _ _).alloc (Nat.le_refl _) _
  have y0 : (w1.alloc (.cells #[.int .u32 d.a.toNat, .int .u32 d.b.toNat, .int .u32 d.c.toNat, .int .u32 d.d.toNat] 24)).cell? ⟨w1.heap.size, 0, none⟩ = some (.int .u32 d.a.toNat) := by rw [World.cell?_alloc_new]; rfl
  have y1 : (w1.alloc (.cells #[.int .u32 d.a.toNat, .int .u32 d.b.toNat, .int .u32 d.c.toNat, .int .u32 d.d.toNat] 24)).cell? ⟨w1.heap.size, 1, none⟩ = some (.int .u32 d.b.toNat) := by rw [World.cell?_alloc_new]; rfl
  have y2 : (w1.alloc (.cells #[.int .u32 d.a.toNat, .int .u32 d.b.toNat, .int .u32 d.c.toNat, .int .u32 d.d.toNat] 24)).cell? ⟨w1.heap.size, 2, none⟩ = some (.int .u32 d.c.toNat) := by rw [World.cell?_alloc_new]; rfl
  have y3 : (w1.alloc (.cells #[.int .u32 d.a.toNat, .int .u32 d.b.toNat, .int .u32 d.c.toNat, .int .u32 d.d.toNat] 24)).cell? ⟨w1.heap.size, 3, none⟩ = some (.int .u32 d.d.toNat) := by rw [World.cell?_alloc_new]; rfl
  go_wp2_with fail
  refine (Ha2.out _ (tn1.below bD) (v1.below bD) (u1.below bD)).mono ?_
  rintro e w2 ⟨rfl, b2⟩
  have tn2 := (tn1.below bD).below b2
  have c2 := c1.trans (bD.mono c1.size)
  have c3 := c2.trans (b2.mono c2.size)
  replace y0 := cell_keep y0 b2
  replace y1 := cell_keep y1 b2
  replace y2 := cell_keep y2 b2
  replace y3 := cell_keep y3 b2
  have hDs : w1.heap.size < w2.heap.size := World.block_lt_of_cell? w2 _ y0
  have hDn : w1.heap.size ≠ w2.heap.size := by omega
  clear x0 x1 x2 x3 x4 x5 x6 x7 x8 x9 v0 u0 v1 u1 bD
  have bE : Below w2.heap.size w2 (w2.alloc (.cells #[.int .u32 d.a.toNat, .int .u32 d.b.toNat, .int .u32 d.c.toNat, .int .u32 d.d.toNat] 24)) := (Below.refl _ _).alloc (Nat.le_refl _) _
  have y4 := cell_keep y0 bE
  have y5 := cell_keep y1 bE
  have y6 := cell_keep y2 bE
  have y7 := cell_keep y3 bE
  have z0 : (w2.alloc (.cells #[.int .u32 d.a.toNat, .int .u32 d.b.toNat, .int .u32 d.c.toNat, .int .u32 d.d.toNat] 24)).cell? ⟨w2.heap.size, 0, none⟩ = some (.int .u32 d.a.toNat) := by rw [World.cell?_alloc_new]; rfl
  have z1 : (w2.alloc (.cells #[.int .u32 d.a.toNat, .int .u32 d.b.toNat, .int .u32 d.c.toNat, .int .u32 d.d.toNat] 24)).cell? ⟨w2.heap.size, 1, none⟩ = some (.int .u32 d.b.toNat) := by rw [World.cell?_alloc_new]; rfl
  have z2 : (w2.alloc (.cells #[.int .u32 d.a.toNat, .int .u32 d.b.toNat, .int .u32 d.c.toNat, .int .u32 d.d.toNat] 24)).cell? ⟨w2.heap.size, 2, none⟩ = some (.int .u32 d.c.toNat) := by rw [World.cell?_alloc_new]; rfl
  have z3 : (w2.alloc (.cells #[.int .u32 d.a.toNat, .int .u32 d.b.toNat, .int .u32 d.c.toNat, .int .u32 d.d.toNat] 24)).cell? ⟨w2.heap.size, 3, none⟩ = some (.int .u32 d.d.toNat) := by rw [World.cell?_alloc_new]; rfl
  have c4 := c3.trans (bE.mono c3.size)
  have hq := dg_eql d d
  rw [decide_eq_true rfl] at hq
  go_wp2_with (go_at_call 17; refine (awake_any _ (tn2.below bE)).mono ?_; rintro e w3 ⟨rfl, b3⟩; have p0 := cell_keep y4 b3; have p1 := cell_keep y5 b3; have p2 := cell_keep y6 b3; have p3 := cell_keep y7 b3; have r0 := cell_keep z0 b3; have r1 := cell_keep z1 b3; have r2 := cell_keep z2 b3; have r3 := cell_keep z3 b3)
  go_ret
  exact ⟨rfl, c4.trans (b3.mono c4.size)⟩
end Go.Proofs.YtpodfmnnabepaaaDoor
