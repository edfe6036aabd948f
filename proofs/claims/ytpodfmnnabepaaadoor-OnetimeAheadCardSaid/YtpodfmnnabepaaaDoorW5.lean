/- Walks: the reference's take and Pair. -/
import Derived.Test.YtpodfmnnabepaaaDoorW4
import Derived.Test.YtpodfmnnabepaaaDoorR2
namespace Go.Proofs.YtpodfmnnabepaaaDoor
open Go.RowKit
open Ot (Dg)
set_option maxRecDepth 100000 in
set_option maxHeartbeats 1000000 in
theorem rtake_any (f : Nat → UInt32) (x : Dg) (w : World) :
    Calls Tryd.prog 64 #[st8 f, dgv x] w fun e w' => e = .returned (st8 (mix (xor4 f (fnOf x) 4))) ∧ Below w.heap.size w w' := by
  go_enter Tryd.func64, Tryd.ntmps64
  go_wp2
  go_loopw [5] (fun i wr => ∃ k : Nat, k ≤ 4 ∧ i = .int .i64 k ∧ Arr wr w.heap.size 8 (xor4 f (fnOf x) k) ∧ Arr wr (w.heap.size+1) 4 (fnOf x) ∧ Arr wr (w.heap.size+1+1) 8 (fun _ => 0) ∧ Below w.heap.size w wr ∧ w.heap.size + 3 ≤ wr.heap.size) (fun i wr => 4 - (intOf i).toNat)
  case atStart =>
    refine ⟨0, by omega, rfl, ?_, ?_, ?_, (((Below.refl _ _).alloc (Nat.le_refl _) _).alloc (by simp) _).alloc (by simp <;> omega) _, by simp⟩
    · exact ((((Arr.new w 8 f 85 _ rfl).alloc (by simp) _).alloc (by simp <;> omega) _)).congr (fun j _ => by simp [xor4])
    · exact (Arr.new' _ _ 4 (fnOf x) 24 _ (by simp) rfl).alloc (by simp) _
    · exact Arr.new' _ _ 8 (fun _ => 0) 85 _ (by simp) rfl
  case round =>
    obtain ⟨k, hk, rfl, ha, hx, hz, hb, hs⟩ := hrel
    by_cases hlt : k < 4
    · have c0 := ha.cell k (by omega)
      have f0 := ha.free k (by omega)
      have c1 := hx.cell k (by omega)
      have e0 : xor4 f (fnOf x) k k = f k := by simp [xor4]
      rw [e0] at c0; clear e0
      have e1 := xorW_eq (f k) (fnOf x k)
      have s5 : (k : Int) < 8 := by omega
      go_wp2
      go_region
      go_wp2
      go_roundw
      case rel =>
        refine ⟨k + 1, by omega, by go_num, ?_, ?_, ?_, ?_, ?_⟩
        · refine (ha.set k (by omega) (xorW (f k) (fnOf x k))).drew.congr (fun i _ => ?_)
          unfold upd xor4
          by_cases e : i = k
          · subst e; rw [if_pos rfl, if_pos (by omega)]
          · rw [if_neg e]
            by_cases e' : i < k
            · rw [if_pos e', if_pos (by omega)]
            · rw [if_neg e', if_neg (by omega)]
        · exact (hx.set_other _ _ (by simp)).drew
        · exact (hz.set_other _ _ (by simp; omega)).drew
        · exact (hb.setCell (by simp) _).drew
        · simpa using hs
      case measure => simp [intOf]; omega
    · obtain rfl : k = 4 := by omega
      generalize hg : xor4 f (fnOf x) 4 = g at *
      have Hg := Lib.hid hg; clear hg
      have hc := fun j h => ha.cell j h
      go_wp2_with (go_at_call 76; refine (rmix_any g _).mono ?_; rintro e w1 ⟨rfl, hb1⟩; have hz1 := hz.below hb1 (by omega); have hd := fun j h => hz1.cell j h; have hf := fun j h => hz1.free j h)
      generalize hm : mix g = m at *
      have Hm := Lib.hid hm; clear hm
      refine bodyPost_ret (v := st8 m) (by simp [results, Tryd.results64, go_sem, hd]) rfl ⟨by rw [Hg.out, Hm.out], ?_⟩
      exact (hb.trans (hb1.mono (by omega))).fill8 (by omega) _ _ _ _ _ _ _ _
/-- What stands in an array that a drawn region lays. -/
def LaidArr (T : Nat → Option Nat) (q lo n : Nat) (w : World) : Prop := ∀ B, T q = some B → lo ≤ B ∧ Arr w B n (fun _ => 0)
theorem LaidArr.none (q lo n : Nat) (w : World) : LaidArr (fun _ => none) q lo n w := fun _ h => by cases h
theorem LaidArr.below {T : Nat → Option Nat} {q lo n : Nat} {w w' : World} (h : LaidArr T q lo n w) (hn : 0 < n) (hb : Below w.heap.size w w') : LaidArr T q lo n w' := fun B e => ⟨(h B e).1, (h B e).2.below hb ((h B e).2.lt hn)⟩
theorem LaidArr.lay {T : Nat → Option Nat} {q lo n : Nat} {w : World} (hlo : lo ≤ w.heap.size) {t : TypeId} {c : Array Value} (hc : c.toList = ws (fun _ => 0) n) : LaidArr (laidAt T q w.heap.size) q lo n (w.alloc (.cells c t)) := fun B e => by
  simp only [laidAt, if_true, Option.some.injEq] at e
  subst e
  exact ⟨hlo, Arr.new w n _ t c hc⟩
set_option maxRecDepth 100000 in
set_option maxHeartbeats 1000000 in
theorem rpair_any (x y : Dg) (w : World) :
    Calls Tryd.prog 53 #[dgv x, dgv y] w fun e w' => e = .returned (dgv (pair x y)) ∧ Below w.heap.size w w' := by
  go_enter Tryd.func53, Tryd.ntmps53
  go_wp2
  refine wp_region_pick (fun T w' => Arr w' w.heap.size 4 (fnOf x) ∧ Arr w' (w.heap.size + 1) 4 (fnOf y) ∧ Arr w' (w.heap.size + 1 + 1) 4 (fun _ => 0) ∧ Below w.heap.size w w' ∧ w.heap.size + 3 ≤ w'.heap.size ∧ LaidArr T 5 (w.heap.size + 3) 8 w') 6 [0, 1, 2, 3, 4] [5] (by kernel_rfl) (by kernel_rfl) ?_ ?_ ?_
  · intro q hq
    obtain rfl : q = 5 := by simpa using hq
    refine lays_alloc 85 (.cells #[.int .u32 0, .int .u32 0, .int .u32 0, .int .u32 0, .int .u32 0, .int .u32 0, .int .u32 0, .int .u32 0] 85) rfl rfl rfl rfl (fun w => by kernel_rfl) ?_
    rintro T w' ⟨h1, h2, h3, h4, h5, h6⟩
    exact ⟨h1.alloc (h1.lt (by decide)) _, h2.alloc (h2.lt (by decide)) _, h3.alloc (h3.lt (by decide)) _, h4.alloc (by omega) _, by simp; omega, LaidArr.lay h5 rfl⟩
  · refine ⟨?_, ?_, ?_, ((((Below.refl _ _).alloc (Nat.le_refl _) _).alloc (by simp <;> omega) _).alloc (by simp <;> omega) _).drew, by simp, LaidArr.none _ _ _ _⟩
    · exact ((Arr.new w 4 (fnOf x) 24 _ rfl).alloc (by simp <;> omega) _).alloc (by simp <;> omega) _
    · exact (Arr.new' _ _ 4 (fnOf y) 24 _ (by simp) rfl).alloc (by simp <;> omega) _
    · exact Arr.new' _ _ 4 (fun _ => 0) 24 _ (by simp) rfl
  simp only [List.filterMap_cons, List.getElem?_cons_succ, List.getElem?_cons_zero, List.filterMap_nil, List.drop_succ_cons, List.drop_zero]
  refine wpHeadT_cons rfl (st8 (st0 2)) (fun T wx hx => ?_) ?_
  · have H := Lib.hid hx; clear hx
    go_simp; exact ⟨by and_intros <;> rfl, H.out⟩
  go_frame
  refine wpHeadT_cons rfl (dgv x) (fun T wx hx => ?_) ?_
  · have c1 := fun j h => hx.1.cell j h
    have H := Lib.hid hx; clear hx
    go_simp; exact ⟨by and_intros <;> rfl, H.out⟩
  go_frame
  refine wpHeadT_cons rfl (st8 (mix (xor4 (st0 2) (fnOf x) 4))) (fun T wx hx => ?_) ?_
  · have H := Lib.hid hx; clear hx
    go_simp
    refine (rtake_any (st0 2) x _).mono ?_
    rintro e w1 ⟨rfl, hb⟩
    obtain ⟨h1, h2, h3, h4, h5, h6⟩ := H.out
    exact ⟨rfl, h1.below hb (h1.lt (by decide)), h2.below hb (h2.lt (by decide)), h3.below hb (h3.lt (by decide)), h4.trans (hb.mono (by omega)), Nat.le_trans h5 hb.size, h6.below (by decide) hb⟩
  go_frame
  refine wpHeadT_cons rfl (dgv y) (fun T wx hx => ?_) ?_
  · have c1 := fun j h => hx.2.1.cell j h
    have H := Lib.hid hx; clear hx
    go_simp; exact ⟨by and_intros <;> rfl, H.out⟩
  go_frame
  refine wpHeadT_cons rfl (st8 (mix (xor4 (mix (xor4 (st0 2) (fnOf x) 4)) (fnOf y) 4))) (fun T wx hx => ?_) ?_
  · have H := Lib.hid hx; clear hx
    go_simp
    refine (rtake_any _ y _).mono ?_
    rintro e w1 ⟨rfl, hb⟩
    obtain ⟨h1, h2, h3, h4, h5, h6⟩ := H.out
    exact ⟨rfl, h1.below hb (h1.lt (by decide)), h2.below hb (h2.lt (by decide)), h3.below hb (h3.lt (by decide)), h4.trans (hb.mono (by omega)), Nat.le_trans h5 hb.size, h6.below (by decide) hb⟩
  go_frame
  refine wpHeadT_nil ?_
  rintro B w1 ⟨h1, h2, h3, h4, h5, h6⟩
  obtain ⟨hB, hz⟩ := h6 B rfl
  simp only [dstOf, ptrTo, List.getElem?_toArray, List.getElem?_cons_succ, List.getElem?_cons_zero, Option.bind_some]
  go_frame
  generalize hm : mix (xor4 (mix (xor4 (st0 2) (fnOf x) 4)) (fnOf y) 4) = m at *
  have Hm := Lib.hid hm; clear hm h6
  have f0 := fun j h => hz.cell j h
  have f1 := fun j h => hz.free j h
  have f2 := fun j h => h3.cell j h
  have f3 := fun j h => h3.free j h
  have hne : B ≠ w.heap.size + 1 + 1 := by omega
  go_wp2
  refine bodyPost_ret (v := st4 m) (by simp [results, Tryd.results53, go_sem, f2]) rfl ⟨?_, ?_⟩
  · have e : absorb (st0 2) (join2 x y) 2 = m := by
      rw [← Hm.out]
      show mix (xor4 (mix (xor4 (st0 2) (fun j => join2 x y (4 * 0 + j)) 4)) (fun j => join2 x y (4 * 1 + j)) 4) = _
      have ex : ∀ s : Nat → UInt32, xor4 s (fun j => join2 x y (4 * 0 + j)) 4 = xor4 s (fnOf x) 4 := fun s => by
        funext j; unfold xor4 join2
        by_cases h : j < 4
        · rw [if_pos h, if_pos h]; dsimp only; rw [if_pos (by omega)]; simp
        · rw [if_neg h, if_neg h]
      have ey : ∀ s : Nat → UInt32, xor4 s (fun j => join2 x y (4 * 1 + j)) 4 = xor4 s (fnOf y) 4 := fun s => by
        funext j; unfold xor4 join2
        by_cases h : j < 4
        · rw [if_pos h, if_pos h]; dsimp only; rw [if_neg (by omega)]; simp
        · rw [if_neg h, if_neg h]
      rw [ex, ey]
    rw [pair_eq]; unfold pair0; rw [e]; rfl
  · exact (h4.fill8 (by omega) _ _ _ _ _ _ _ _).fill4 (by omega) _ _ _ _
end Go.Proofs.YtpodfmnnabepaaaDoor
