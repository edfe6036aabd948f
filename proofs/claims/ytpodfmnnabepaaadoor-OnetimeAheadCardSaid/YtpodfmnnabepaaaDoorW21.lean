import Derived.Test.YtpodfmnnabepaaaDoorW20
namespace Go.Proofs.YtpodfmnnabepaaaDoor
open Go.RowKit
open Ot (Dg)
theorem ofK_range (f : Nat → Dg) (n : Nat) : ofK ((List.range n).map f) = Ot.endsTo pair f n := by
  induction n with
  | zero => rfl
  | succ n ih => rw [List.range_succ, List.map_append, ofK, List.foldl_append]; show pair (ofK ((List.range n).map f)) (f n) = _; rw [ih]; rfl
noncomputable def pubs (x : Dg) : List Dg := (List.range 35).map fun i => Ot.walk pair (Ot.beg pair x i) 15
theorem ofK_pubs (x : Dg) : ofK (pubs x) = Ot.pub pair x := ofK_range _ 35
theorem map_take_snoc (f : Nat → Dg) (k n : Nat) (hk : k < n) : ((List.range n).map f).take (k + 1) = ((List.range n).map f).take k ++ [f k] := by
  rw [List.take_add_one, List.getElem?_map, List.getElem?_range hk]; rfl
set_option maxRecDepth 100000 in
set_option maxHeartbeats 1000000 in
theorem rpub_any (x : Dg) (w : World) : Calls Tryd.prog 22 #[dgv x] w fun e w' => e = .returned (dgv (Ot.pub pair x)) ∧ Below w.heap.size w w' := by
  obtain ⟨i0, hi, hz0, hz1, hz2⟩ := info_parts Tryd.info24
  go_enter Tryd.func22, Tryd.ntmps22
  go_wp2_with fail
  generalize hW : ((w.alloc (.cells #[.int .u32 x.a.toNat, .int .u32 x.b.toNat, .int .u32 x.c.toNat, .int .u32 x.d.toNat] 24)).alloc (.cells #[.int .u32 0, .int .u32 0, .int .u32 0, .int .u32 0] 24)) = W
  have hb0 : Below w.heap.size w W := by subst hW; exact ((Below.refl _ _).alloc (Nat.le_refl _) _).alloc (by simp) _
  have hx0 : Arr W w.heap.size 4 (fnOf x) := by subst hW; exact (Arr.new w 4 (fnOf x) 24 _ rfl).alloc (by simp) _
  have hz0' : Arr W (w.heap.size + 1) 4 (fnOf Ot.zeroD) := by subst hW; exact Arr.new' _ _ 4 (fnOf Ot.zeroD) 24 _ (by simp) rfl
  have hs0 : w.heap.size + 2 ≤ W.heap.size := by subst hW; simp
  clear hW
  go_loopw [3, 4] (fun v i wr => ∃ k : Nat, k ≤ 35 ∧ i = .int .i64 k ∧ wr.ownsRow W.heap.size 24 4 v k (dcs ((pubs x).take k)) ∧ Below W.heap.size W wr) (fun _ i wr => 35 - (intOf i).toNat)
  case atStart => exact ⟨0, by omega, rfl, World.ownsRow_nil _ _ _ _, Below.refl _ _⟩
  case round =>
    obtain ⟨k, hk, rfl, hown, hb⟩ := hrel
    by_cases hlt : k < 35
    · have hd : decide ((k : Int) < 35) = true := by simp; omega
      have hts : (pubs x).take (k + 1) = (pubs x).take k ++ [Ot.walk pair (Ot.beg pair x k) 15] := map_take_snoc _ k 35 hlt
      generalize hy : Ot.beg pair x k = y at *
      generalize hzz : Ot.walk pair y 15 = z at *
      have Hts := Lib.hid hts; have Hy := Lib.hid hy; have Hz := Lib.hid hzz; clear hts hy hzz
      have hx2 := hx0.below hb (by omega)
      obtain ⟨c0, c1, c2, c3⟩ := hx2.dg
      have hown0 := Lib.hid hown; clear hown
      go_wp2_with fail
      refine (rbeg_any x k (by omega) _).mono ?_
      rw [Hy.out]
      rintro e w2 ⟨rfl, hb3⟩
      go_wp2_with fail
      refine (rwalk_any y 15 (by omega) _).mono ?_
      rw [Hz.out]
      rintro e w3 ⟨rfl, hb4⟩
      have hb5 : Below wr.heap.size wr w3 := hb3.trans (hb4.mono hb3.size)
      have hown := own_keep hown0.out hb5
      have hb6 := hb.trans (hb5.mono hb.size)
      clear c0 c1 c2 c3 hb3 hb4 hx2 hown0
      go_wp2_with (at_builtin; refine wpList_append_own _ rfl _ _ 32 rfl W.heap.size 24 i0 (dgv Ot.zeroD) 4 16 Tryd.underlying32 hi hz0 hz1 hz2 rfl (by decide) _ _ _ rfl (hown.alloc _) ⟨w3.heap.size, 0, none⟩ 1 1 [.int .u32 z.a.toNat, .int .u32 z.b.toNat, .int .u32 z.c.toNat, .int .u32 z.d.toNat] rfl rfl ?c1 ?c2 ?c3 ?c4 ?c5 ?_)
      case c1 => exact cell_dg_new _ _ _
      case c2 => exact dg_one z
      case c3 => unfold maxLen; omega
      case c4 => omega
      case c5 => have := hb6.size; simp; omega
      intro v' w4 hown1 hg1 _
      have hb7 : Below W.heap.size W w4 := (hb6.alloc hb6.size _).grown hg1 (by have := hb6.size; simp; omega) (fun q hq => (hown.lt q hq).1)
      clear hg1 hown hb5 hb6
      go_wp2
      go_roundw
      case rel =>
        refine ⟨k + 1, by omega, by go_num, ?_, hb7⟩
        rw [Hts.out, dcs_snoc]
        exact hown1
      case measure => simp [intOf]; omega
    · obtain rfl : k = 35 := by omega
      have hln : (pubs x).length = 35 := by simp [pubs]
      rw [List.take_of_length_le (by omega)] at hown
      have hsig := own_sig hown
      have hz2' := hz0'.below hb (by omega)
      have hb2 := hb0.trans (hb.mono hb0.size)
      have hrs : w.heap.size + 2 ≤ wr.heap.size := by have := hb.size; omega
      have ho := ofK_pubs x
      generalize pubs x = ps at *
      generalize hp : Ot.pub pair x = p at *
      have Hp := Lib.hid hp; have Ho := Lib.hid ho; have Hs := Lib.hid hsig; clear hp ho hown hx0 hz0' hsig
      go_wp2_with fail
      refine (of_any _ ps _ Hs.out).mono ?_
      rw [Ho.out]
      rintro e w5 ⟨rfl, hb5⟩
      have hz3 := hz2'.below hb5 (by omega)
      obtain ⟨d0, d1, d2, d3⟩ := hz3.dg
      have hf := fun j h => hz3.free j h
      go_wp2
      exact bodyPost_ret (v := dgv p) (by simp [results, Tryd.results22, go_sem, d0, d1, d2, d3]) rfl ⟨by rw [Hp.out], (hb2.trans (hb5.mono hb2.size)).fill4 (by omega) _ _ _ _⟩
end Go.Proofs.YtpodfmnnabepaaaDoor
