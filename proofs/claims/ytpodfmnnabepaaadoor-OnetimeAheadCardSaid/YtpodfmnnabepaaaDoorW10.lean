/- Walks: equality of digests; onetime.Check. -/
import Derived.Test.YtpodfmnnabepaaaDoorW9
namespace Go.Proofs.YtpodfmnnabepaaaDoor
open Go.RowKit
open Ot (Dg)
theorem part_dg (x : Dg) (i : Nat) (hi : i < 4) (w : World) : (part 22 (dgv x).cells (i * 1)).run Tryd.prog w = .ok (.int .u32 (fnOf x i).toNat) w := by
  obtain rfl | rfl | rfl | rfl : i = 0 ∨ i = 1 ∨ i = 2 ∨ i = 3 := by omega
  all_goals kernel_rfl
theorem run_equalIn_dg (d : Nat) (x y : Dg) (w : World) : (Op.equalIn (d + 2) 24 (dgv x) (dgv y)).run Tryd.prog w = .ok (decide (x = y)) w := by
  have hp : ∀ (z : Dg) i w, i < 4 → (part 22 #[.int .u32 z.a.toNat, .int .u32 z.b.toNat, .int .u32 z.c.toNat, .int .u32 z.d.toNat] i).run Tryd.prog w = .ok (.int .u32 (fnOf z i).toNat) w := fun z i w hi => by
    have := part_dg z i hi w
    rwa [Nat.mul_one] at this
  have p0 := fun z w => hp z 0 w (by decide)
  have p1 := fun z w => hp z 1 w (by decide)
  have p2 := fun z w => hp z 2 w (by decide)
  have p3 := fun z w => hp z 3 w (by decide)
  have hs : ∀ w, (sizeOf 22).run Tryd.prog w = .ok 1 w := fun w => by kernel_rfl
  have he : ∀ (a b : Int) w, (Op.equalIn (d + 1) 22 (.int .u32 a) (.int .u32 b)).run Tryd.prog w = .ok (a == b) w := fun a b w => run_equalIn_int w d 22 .u32 .u32 a b Tryd.underlying22
  have k : ∀ a b : UInt32, ((a.toNat : Int) == (b.toNat : Int)) = decide (a = b) := fun a b => by
    by_cases h : a = b
    · subst h; simp
    · have : (a.toNat : Int) ≠ (b.toNat : Int) := fun e => h (UInt32.toNat_inj.1 (by omega))
      simp [h, this]
  have ex : decide (x = y) = (decide (x.a = y.a) && (decide (x.b = y.b) && (decide (x.c = y.c) && decide (x.d = y.d)))) := by
    cases x; cases y; simp only [Dg.mk.injEq, Bool.decide_and]
  rw [ex]
  have g0 : ∀ w, (Op.equalIn (d + 1) 22 (.int .u32 (fnOf x 0).toNat) (.int .u32 (fnOf y 0).toNat)).run Tryd.prog w = .ok (decide (x.a = y.a)) w := fun w => (he _ _ w).trans (by rw [k]; rfl)
  have g1 : ∀ w, (Op.equalIn (d + 1) 22 (.int .u32 (fnOf x 1).toNat) (.int .u32 (fnOf y 1).toNat)).run Tryd.prog w = .ok (decide (x.b = y.b)) w := fun w => (he _ _ w).trans (by rw [k]; rfl)
  have g2 : ∀ w, (Op.equalIn (d + 1) 22 (.int .u32 (fnOf x 2).toNat) (.int .u32 (fnOf y 2).toNat)).run Tryd.prog w = .ok (decide (x.c = y.c)) w := fun w => (he _ _ w).trans (by rw [k]; rfl)
  have g3 : ∀ w, (Op.equalIn (d + 1) 22 (.int .u32 (fnOf x 3).toNat) (.int .u32 (fnOf y 3).toNat)).run Tryd.prog w = .ok (decide (x.d = y.d)) w := fun w => (he _ _ w).trans (by rw [k]; rfl)
  generalize decide (x.a = y.a) = b0 at *
  generalize decide (x.b = y.b) = b1 at *
  generalize decide (x.c = y.c) = b2 at *
  generalize decide (x.d = y.d) = b3 at *
  rw [Op.equalIn]
  simp only [Sem.run_bind, run_underlying Tryd.underlying24, Result.andThen_ok, hs]
  simp only [Std.Legacy.Range.forIn_eq_forIn_range']
  rw [show List.range' (0 : Nat) (Std.Legacy.Range.size [:4]) 1 = [0, 1, 2, 3] from rfl]
  cases b0 <;> cases b1 <;> cases b2 <;> cases b3 <;> simp [p0, p1, p2, p3, g0, g1, g2, g3]
theorem dg_eql (x y : Dg) (w : World) : (binOp .eql 24 (dgv x) (dgv y)).run Tryd.prog w = .ok (.bool (decide (x = y))) w := by
  rw [run_eql_struct, run_equalIn_dg 9998]; rfl
theorem dg_neq (x y : Dg) (w : World) : (binOp .neq 24 (dgv x) (dgv y)).run Tryd.prog w = .ok (.bool (!decide (x = y))) w := by
  rw [run_neq_struct, run_equalIn_dg 9998]; rfl
theorem check_short (p m : Dg) (v : Value) (l : List Dg) (hl : l.length ≠ 35) (w : World) (hv : SigAt w v l) :
    Calls Tryd.prog 27 #[dgv p, dgv m, v] w fun e w' => e = .returned (.bool false) ∧ Below w.heap.size w w' := by
  go_enter Tryd.func27, Tryd.ntmps27
  go_wp2_with fail
  generalize hW : ((w.alloc (.cells #[.int .u32 p.a.toNat, .int .u32 p.b.toNat, .int .u32 p.c.toNat, .int .u32 p.d.toNat] 24)).alloc (.cells #[.int .u32 m.a.toNat, .int .u32 m.b.toNat, .int .u32 m.c.toNat, .int .u32 m.d.toNat] 24)) = W
  have hb0 : Below w.heap.size w W := by subst hW; exact (((Below.refl _ _).alloc (Nat.le_refl _) _).alloc (by simp) _)
  have hz0 : Arr W w.heap.size 4 (fnOf p) := by subst hW; exact (Arr.new w 4 (fnOf p) 24 _ rfl).alloc (by simp) _
  have hv0 := hv.below hb0
  have hs0 := hb0.size
  clear hW hv
  refine (reach_short m v l hl _ hv0).mono ?_
  rintro e w1 ⟨rfl, hb1⟩
  have hb2 := hb0.trans (hb1.mono hs0)
  clear hb0 hb1 hv0
  go_wp2
  go_ret
  exact ⟨rfl, hb2.alloc hb2.size _⟩
theorem check_full (p m : Dg) (v : Value) (l : List Dg) (hl : l.length = 35) (w : World) (ht : Tn w) (hv : SigAt w v l) :
    Calls Tryd.prog 27 #[dgv p, dgv m, v] w fun e w' => e = .returned (.bool (decide (Ot.reachK pair m l = p))) ∧ Below w.heap.size w w' := by
  generalize hk : Ot.reachK pair m l = k
  have Hk := Lib.hid hk; clear hk
  go_enter Tryd.func27, Tryd.ntmps27
  go_wp2_with fail
  generalize hW : ((w.alloc (.cells #[.int .u32 p.a.toNat, .int .u32 p.b.toNat, .int .u32 p.c.toNat, .int .u32 p.d.toNat] 24)).alloc (.cells #[.int .u32 m.a.toNat, .int .u32 m.b.toNat, .int .u32 m.c.toNat, .int .u32 m.d.toNat] 24)) = W
  have hb0 : Below w.heap.size w W := by subst hW; exact (((Below.refl _ _).alloc (Nat.le_refl _) _).alloc (by simp) _)
  have hz0 : Arr W w.heap.size 4 (fnOf p) := by subst hW; exact (Arr.new w 4 (fnOf p) 24 _ rfl).alloc (by simp) _
  have hv0 := hv.below hb0
  have hs0 := hb0.size
  have hsz0 : w.heap.size + 2 ≤ W.heap.size := by subst hW; simp
  clear hW hv
  refine (reach_full m v l hl _ (ht.below hb0) hv0).mono ?_
  rw [Hk.out]
  rintro e w1 ⟨rfl, hb1⟩
  have hb2 := hb0.trans (hb1.mono hs0)
  have hz1 := hz0.below hb1 (by omega)
  have hsz1 := hb1.size
  have hlt1 : w.heap.size < w1.heap.size := by omega
  obtain ⟨c0, c1, c2, c3⟩ := hz1.dg
  clear hb0 hb1 hv0 hl
  have hq := dg_eql k p
  go_wp2
  go_ret
  exact ⟨rfl, hb2.alloc hb2.size _⟩
end Go.Proofs.YtpodfmnnabepaaaDoor
