/- Walk: onetime.Steps. -/
import Derived.Test.YtpodfmnnabepaaaDoorW6
namespace Go.Proofs.YtpodfmnnabepaaaDoor
open Go.RowKit
open Ot (Dg)
theorem dg_at (m : Dg) (j : Nat) (hj : j < 4) : ∀ w, (Instr.index 24 (dgv m) (.int .i64 j)).run Tryd.prog w = .ok (.int .u32 (fnOf m j).toNat) w := by
  intro w
  obtain rfl | rfl | rfl | rfl : j = 0 ∨ j = 1 ∨ j = 2 ∨ j = 3 := by omega
  all_goals kernel_rfl
theorem digs_at (m : Dg) (k j : Nat) (hk : k < 4) (hj : j < 8) : (Ot.digs m).getD (8 * k + j) 0 = (fnOf m k).toNat / 2 ^ (28 - 4 * j) % 16 := by
  obtain rfl | rfl | rfl | rfl : k = 0 ∨ k = 1 ∨ k = 2 ∨ k = 3 := by omega
  all_goals
    obtain rfl | rfl | rfl | rfl | rfl | rfl | rfl | rfl : j = 0 ∨ j = 1 ∨ j = 2 ∨ j = 3 ∨ j = 4 ∨ j = 5 ∨ j = 6 ∨ j = 7 := by omega
    all_goals first | rfl | (simp [Ot.digs, Ot.nib, fnOf])
theorem and15 (x : Nat) (hx : x < 4294967296) : bits BinOp.and IntKind.u32 (x : Int) 15 = ((x % 16 : Nat) : Int) := by
  have := bits_mask .u32 32 (Nat.le_refl _) wraps_u32 4 (by decide) (x : Int) (by omega) (by omega)
  rw [show ((2 : Int) ^ 4 - 1) = 15 from rfl] at this
  rw [this]; omega
theorem cell_three_new (w : World) (a b c : Value) (t : TypeId) : ∀ j u, [a, b, c][j]? = some u → (w.alloc (.cells #[a, b, c] t)).cell? ((⟨w.heap.size, 0, none⟩ : Addr).add j) = some u := by
  intro j u hu
  rw [show (⟨w.heap.size, 0, none⟩ : Addr).add j = ⟨w.heap.size, j, none⟩ from by unfold Addr.add; split <;> simp_all, World.cell?_alloc_new]
  simpa using hu
def ivs (l : List Nat) : List Value := l.map fun n => .int .i64 (n : Nat)
theorem Tryd.info3 : (Tryd.prog.info? 3).map (fun i => (i.zero, i.size, i.bytes)) = some (some (.int .i64 0), 1, 8) := by kernel_rfl
theorem own_base_le {w : World} {B B' : Nat} {e : TypeId} {size n : Nat} {v : Value} {xs : List Value} (h : w.ownsRow B e size v n xs) (hB : B' ≤ B) : w.ownsRow B' e size v n xs := by
  refine ⟨h.1, ?_⟩
  rcases h.2 with h2 | ⟨g, cap, cur, h1, h2, h3⟩
  · exact .inl h2
  · exact .inr ⟨g, cap, cur, h1, Nat.le_trans hB h2, h3⟩
theorem ivs_snoc (l : List Nat) (n : Nat) : ivs (l ++ [n]) = ivs l ++ [.int .i64 (n : Nat)] := by simp [ivs]
theorem rest_snoc (l : List Nat) (n : Nat) : Ot.rest (l ++ [n]) = Ot.rest l + (15 - n) := by simp [Ot.rest]
theorem take_snoc' (l : List Nat) (k : Nat) (h : k < l.length) : l.take (k + 1) = l.take k ++ [l.getD k 0] := by
  rw [List.take_succ_eq_append_getElem h, List.getD_eq_getElem?_getD, List.getElem?_eq_getElem h]; rfl
def StepsPost (w : World) (l : List Nat) (e : Ending) (w' : World) : Prop := ∃ v, e = .returned v ∧ Below w.heap.size w w' ∧ w'.ownsRow w.heap.size 3 1 v l.length (ivs l)
set_option maxRecDepth 100000 in
set_option maxHeartbeats 1000000 in
theorem steps_any (m : Dg) (w : World) : Calls Tryd.prog 19 #[dgv m] w (StepsPost w (Ot.steps m)) := by
  obtain ⟨i0, hi, hz0, hz1, hz2⟩ := info_parts Tryd.info3
  have hmk : ∀ w, (Instr.makeSlice 27 (.int .i64 0) (.int .i64 35)).run Tryd.prog w = .ok (.slice (some ⟨w.heap.size, 0, none⟩) 0 35) (w.alloc (.cells (madeCells #[.int .i64 0] 35) 3)) := fun w => by kernel_rfl
  go_enter Tryd.func19, Tryd.ntmps19
  go_wp2
  go_loopw [3, 4, 11] (fun v sm i wr => ∃ k : Nat, k ≤ 4 ∧ i = .int .i64 k ∧ sm = .int .i64 (Ot.rest ((Ot.digs m).take (8 * k)) : Nat) ∧ wr.ownsRow (w.heap.size + 1) 3 1 v (8 * k) (ivs ((Ot.digs m).take (8 * k))) ∧ Below w.heap.size w wr ∧ w.heap.size + 1 ≤ wr.heap.size) (fun _ _ i wr => 4 - (intOf i).toNat)
  case atStart =>
    refine ⟨0, by omega, rfl, rfl, ?_, ((Below.refl _ _).alloc (Nat.le_refl _) _).alloc (by simp) _, by simp⟩
    have h0 := World.ownsRow_made (base := w.heap.size + 1) (e := 3) (size := 1) (w.alloc (.cells #[.int .u32 m.a.toNat, .int .u32 m.b.toNat, .int .u32 m.c.toNat, .int .u32 m.d.toNat] 24)) (madeCells #[.int .i64 0] 35) 35 (by simp) (by unfold maxLen; decide) (by simp [madeCells])
    rw [World.size_alloc] at h0
    exact h0
  case round =>
    obtain ⟨k, hk, rfl, rfl, hown, hb, hs⟩ := hrel
    by_cases hlt : k < 4
    · have hix := dg_at m k hlt
      have hd : decide ((k : Int) < 4) = true := by simp; omega
      go_wp2
      clear hix
      obtain ⟨wo, rfl⟩ : ∃ wo : World, wo = wr := ⟨_, rfl⟩
      go_loopw [3, 4, 7] (fun v sm i wr => ∃ j : Nat, j ≤ 8 ∧ i = .int .i64 (28 - 4 * (j : Int)) ∧ sm = .int .i64 (Ot.rest ((Ot.digs m).take (8 * k + j)) : Nat) ∧ wr.ownsRow (w.heap.size + 1) 3 1 v (8 * k + j) (ivs ((Ot.digs m).take (8 * k + j))) ∧ Below w.heap.size w wr ∧ w.heap.size + 1 ≤ wr.heap.size) (fun _ _ i wr => (intOf i + 4).toNat)
      case atStart => exact ⟨0, by omega, rfl, rfl, hown, hb, hs⟩
      case round =>
        clear hown hb hs
        obtain ⟨j, hj, rfl, rfl, hown, hb, hs⟩ := hrel
        by_cases hj8 : j < 8
        · have hdg := digs_at m k j hlt hj8
          generalize hdd : (Ot.digs m).getD (8 * k + j) 0 = d at *
          have hd15 : d ≤ 15 := by rw [hdg]; omega
          have hbit : bits BinOp.and IntKind.u32 (((fnOf m k).toNat : Int) / 2 ^ (28 - 4 * j)) 15 = (d : Int) := by
            have h1 : (fnOf m k).toNat / 2 ^ (28 - 4 * j) < 4294967296 := Nat.lt_of_le_of_lt (Nat.div_le_self _ _) (fnOf m k).toNat_lt
            have h2 := and15 _ h1
            rw [← hdg] at h2
            rw [← h2]; simp
          have hln : 8 * k + j < (Ot.digs m).length := by rw [Ot.digs_length]; omega
          have hts := take_snoc' (Ot.digs m) (8 * k + j) hln
          rw [hdd] at hts
          have Hts := Lib.hid hts; clear hts hdg hdd
          have hr15 := Ot.rest_le ((Ot.digs m).take (8 * k + j))
          have hll : ((Ot.digs m).take (8 * k + j)).length ≤ 32 := by rw [List.length_take, Ot.digs_length]; omega
          generalize hxs : (Ot.digs m).take (8 * k + j) = xs at *
          have Hxs := Lib.hid hxs; clear hxs hmk
          go_wp2_with (at_builtin; refine wpList_append_own _ rfl _ _ 27 rfl (w.heap.size + 1) 3 i0 (.int .i64 0) 1 8 Tryd.underlying27 hi hz0 hz1 hz2 rfl (by decide) _ _ _ rfl (hown.alloc _) ⟨wr.heap.size, 0, none⟩ 1 1 [.int .i64 d] rfl rfl ?c1 ?c2 ?c3 ?c4 ?c5 ?_)
          case c1 => exact cell_one_new _ _ _
          case c2 => intro u hu; simp at hu; subst hu; rfl
          case c3 => unfold maxLen; omega
          case c4 => omega
          case c5 => simp; omega
          intro v' w1 hown1 hg1 _
          have hb1 : Below w.heap.size w w1 := (hb.alloc (by omega) _).grown hg1 (by simp; omega) (fun q hq => by have := (hown.alloc (.cells #[.int .i64 d] 3)).lt q hq; omega)
          have hs1 := hg1.size
          simp at hs1
          clear hg1 hown hb
          go_wp2
          go_roundw
          case rel =>
            refine ⟨j + 1, by omega, ?_, ?_, ?_, hb1, by omega⟩
            · have e : (28 : Int) - 4 * (j : Int) - 4 = 28 - 4 * ((j + 1 : Nat) : Int) := by omega
              first | rw [e] | (congr 1; omega)
            · rw [show 8 * k + (j + 1) = 8 * k + j + 1 from rfl, Hts.out, rest_snoc]
              first | (congr 1; omega) | trace_state
            · rw [show 8 * k + (j + 1) = 8 * k + j + 1 from rfl, Hts.out, ivs_snoc]
              exact hown1
          case measure => simp [intOf]; omega
        · obtain rfl : j = 8 := by omega
          clear hmk
          go_wp2
          go_roundw
          case rel =>
            refine ⟨k + 1, by omega, by go_num, ?_, ?_, hb, hs⟩
            · rw [show 8 * (k + 1) = 8 * k + 8 by omega]
            · rw [show 8 * (k + 1) = 8 * k + 8 by omega]; exact hown
          case measure => simp [intOf]; omega
    · obtain rfl : k = 4 := by omega
      clear hmk
      have e32 : (Ot.digs m).take (8 * 4) = Ot.digs m := rfl
      rw [e32] at *
      clear e32
      have hr15 := Ot.rest_le (Ot.digs m)
      rw [Ot.digs_length] at hr15
      have hown' : wr.ownsRow (w.heap.size + 1) 3 1 _ 32 (ivs (Ot.digs m)) := hown
      clear hown
      have hp : Ot.steps m = Ot.digs m ++ [Ot.rest (Ot.digs m) / 256 % 16, Ot.rest (Ot.digs m) / 16 % 16, Ot.rest (Ot.digs m) % 16] := rfl
      have Hp := Lib.hid hp; clear hp
      have hlen := Ot.digs_length m
      generalize Ot.rest (Ot.digs m) = r at *
      generalize Ot.digs m = ds at *
      have b1 : bits BinOp.and IntKind.i64 ((r : Int) / 256) 15 = ((r / 256 % 16 : Nat) : Int) := by
        have := bits_mask .i64 63 (by decide) (fun n h0 h1 => by rw [IntKind.wrap_i64]; omega) 4 (by decide) ((r : Int) / 256) (by omega) (by omega)
        rw [show ((2 : Int) ^ 4 - 1) = 15 from rfl] at this
        rw [this]; omega
      have b2 : bits BinOp.and IntKind.i64 ((r : Int) / 16) 15 = ((r / 16 % 16 : Nat) : Int) := by
        have := bits_mask .i64 63 (by decide) (fun n h0 h1 => by rw [IntKind.wrap_i64]; omega) 4 (by decide) ((r : Int) / 16) (by omega) (by omega)
        rw [show ((2 : Int) ^ 4 - 1) = 15 from rfl] at this
        rw [this]; omega
      have b3 : bits BinOp.and IntKind.i64 (r : Int) 15 = ((r % 16 : Nat) : Int) := by
        have := bits_mask .i64 63 (by decide) (fun n h0 h1 => by rw [IntKind.wrap_i64]; omega) 4 (by decide) (r : Int) (by omega) (by omega)
        rw [show ((2 : Int) ^ 4 - 1) = 15 from rfl] at this
        rw [this]; omega
      generalize h1 : r / 256 % 16 = x1 at *
      generalize h2 : r / 16 % 16 = x2 at *
      generalize h3 : r % 16 = x3 at *
      clear h1 h2 h3
      go_wp2_with (at_builtin; refine wpList_append_own _ rfl _ _ 27 rfl (w.heap.size + 1) 3 i0 (.int .i64 0) 1 8 Tryd.underlying27 hi hz0 hz1 hz2 rfl (by decide) _ _ _ rfl (hown'.alloc _) ⟨wr.heap.size, 0, none⟩ 3 3 [.int .i64 x1, .int .i64 x2, .int .i64 x3] rfl rfl ?c1 ?c2 ?c3 ?c4 ?c5 ?_)
      case c1 => exact cell_three_new _ _ _ _ _
      case c2 => intro u hu; simp at hu; rcases hu with rfl | rfl | rfl <;> rfl
      case c3 => unfold maxLen; omega
      case c4 => omega
      case c5 => simp; omega
      intro v' w1 hown1 hg1 _
      have hb1 : Below w.heap.size w w1 := (hb.alloc (by omega) _).grown hg1 (by simp; omega) (fun q hq => by have := (hown'.alloc (.cells #[.int .i64 x1, .int .i64 x2, .int .i64 x3] 3)).lt q hq; omega)
      clear hg1 hown' hb
      go_wp2
      go_ret
      refine ⟨v', rfl, hb1, ?_⟩
      rw [Hp.out]
      have := own_base_le hown1 (B' := w.heap.size) (by omega)
      simpa [ivs, hlen] using this
end Go.Proofs.YtpodfmnnabepaaaDoor
