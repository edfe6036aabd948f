import Derived.Test.YtpodfmnnabepaaaDoorW21
import Derived.Test.YtpodfmnnabepaaaDoorW19
namespace Go.Proofs.YtpodfmnnabepaaaDoor
open Go.RowKit
open Ot (Dg)
set_option maxRecDepth 100000 in
set_option maxHeartbeats 2000000 in
theorem rsign_any (x m : Dg) (w : World) : Calls Tryd.prog 25 #[dgv x, dgv m] w (SignPost w (Ot.sign pair x m)) := by
  obtain ⟨i0, hi, hz0, hz1, hz2⟩ := info_parts Tryd.info24
  go_enter Tryd.func25, Tryd.ntmps25
  go_wp2_with fail
  generalize hW : ((w.alloc (.cells #[.int .u32 x.a.toNat, .int .u32 x.b.toNat, .int .u32 x.c.toNat, .int .u32 x.d.toNat] 24)).alloc (.cells #[.int .u32 m.a.toNat, .int .u32 m.b.toNat, .int .u32 m.c.toNat, .int .u32 m.d.toNat] 24)) = W
  have hb0 : Below w.heap.size w W := by subst hW; exact ((Below.refl _ _).alloc (Nat.le_refl _) _).alloc (by simp) _
  have hx0 : Arr W w.heap.size 4 (fnOf x) := by subst hW; exact (Arr.new w 4 (fnOf x) 24 _ rfl).alloc (by simp) _
  clear hW
  refine (rsteps_any m _).mono ?_
  rintro e w1 ⟨v, rfl, hb1, hown⟩
  have hn := own_num hown
  have hx1 := hx0.keep hb1 (by decide)
  have hb2 := hb0.trans (hb1.mono hb0.size)
  have hs1 : w.heap.size < w1.heap.size := hx1.lt (by decide)
  clear hb0 hb1 hown hx0
  obtain ⟨g, cap, rfl, hgl, hcell⟩ := hn
  go_wp2_with fail
  go_loopw [6, 7] (fun v i wr => ∃ k : Nat, k ≤ 35 ∧ i = .int .i64 k ∧ wr.ownsRow w1.heap.size 24 4 v k (dcs ((Ot.sign pair x m).take k)) ∧ Below w1.heap.size w1 wr) (fun _ i wr => 35 - (intOf i).toNat)
  case atStart => exact ⟨0, by omega, rfl, World.ownsRow_nil _ _ _ _, Below.refl _ _⟩
  case round =>
    obtain ⟨k, hk, rfl, hown, hb⟩ := hrel
    by_cases hlt : k < 35
    · have hd : decide ((k : Int) < 35) = true := by simp; omega
      have hk1 : (k : Int) < 35 := by omega
      have hk0 : (0 : Int) ≤ (k : Int) := by omega
      have hck := (hb.cell (p := ⟨g, k, none⟩) hgl).trans (hcell k hlt)
      have hsg := Ot.sign_at pair x m k hlt
      have hst := Ot.steps_at_le m k
      have hts := take_snoc_d (Ot.sign pair x m) k (by rw [Ot.sign_length]; exact hlt)
      rw [hsg] at hts
      generalize (Ot.steps m).getD k 0 = n at *
      generalize hy : Ot.beg pair x k = y at *
      generalize hzz : Ot.walk pair y n = z at *
      have Hts := Lib.hid hts; have Hy := Lib.hid hy; have Hz := Lib.hid hzz; clear hts hsg hy hzz
      have hx2 := hx1.keep hb (by decide)
      have Hcell := Lib.hid hcell; clear hcell
      go_upto_region 6 with fail
      refine wp_region_inv (fun wx => One w.heap.size x wx ∧ wx.ownsRow w1.heap.size 24 4 u6 k (dcs ((Ot.sign pair x m).take k)) ∧ Below w1.heap.size w1 wx ∧ wx.cell? ⟨g, k, none⟩ = some (.int .i64 n)) (fun j v w' => match j with | 0 => v = u6 | 1 => v = dgv x | 2 => v = .int .i64 k | 3 => v = dgv y | 4 => v = .slice (some ⟨g, 0, none⟩) 35 cap | 5 => v = .int .i64 k | 6 => v = .pointer (some ⟨g, k, none⟩) | 7 => v = .int .i64 n | 8 => v = dgv z | 9 => ∃ B, v = .slice (some ⟨B, 0, none⟩) 1 1 ∧ DgAt w' B 0 z | _ => True) 10 (by kernel_rfl) (by kernel_rfl) ⟨hx2.drew.dg, hown.drew, hb.drew, hck⟩
        (fun _ _ h hb => ⟨h.1.keep hb, own_keep h.2.1 hb, h.2.2.1.trans (hb.mono h.2.2.1.size), cell_keep h.2.2.2 hb⟩) ?_ ?_ ?_
      · rintro (_|_|_|_|_|_|_|_|_|_|j) v w1 w2 hb h
        all_goals first | exact h | (obtain ⟨B, rfl, hD⟩ := h; exact ⟨B, rfl, hD.below hb hD.lt⟩)
      · refine ⟨fun us wx hx hd => ?_, fun us wx hx hd => ?_, fun us wx hx hd => ?_, fun us wx hx hd => ?_, fun us wx hx hd => ?_, fun us wx hx hd => ?_, fun us wx hx hd => ?_, fun us wx hx hd => ?_, fun us wx hx hd => ?_, fun us wx hx hd => ?_, trivial⟩
        all_goals simp only [putAll, dstOf, List.getElem?_toArray, List.getElem?_cons_succ, List.getElem?_cons_zero, Option.bind_some]
        all_goals go_frame
        · go_simp; exact Below.refl _ _
        · obtain ⟨c0, c1, c2, c3⟩ := hx.1
          have H := Lib.hid hx; clear hx
          go_simp
          first | exact Below.refl _ _ | exact ⟨by and_intros <;> rfl, Below.refl _ _⟩
        · go_simp; exact Below.refl _ _
        · rw [show us 1 = dgv x from hd 1 rfl, show us 2 = .int .i64 k from hd 2 rfl]
          go_simp
          refine (rbeg_any x k (by omega) _).mono ?_
          rw [Hy.out]
          rintro e w1 ⟨rfl, hb1⟩
          exact ⟨_, rfl, rfl, hb1⟩
        · go_simp; exact Below.refl _ _
        · go_simp; exact Below.refl _ _
        · rw [show us 4 = .slice (some ⟨g, 0, none⟩) 35 cap from hd 4 rfl, show us 5 = .int .i64 k from hd 5 rfl]
          go_simp
          exact Below.refl _ _
        · rw [show us 6 = .pointer (some ⟨g, k, none⟩) from hd 6 rfl]
          have c := hx.2.2.2
          go_simp
          exact Below.refl _ _
        · rw [show us 3 = dgv y from hd 3 rfl, show us 7 = .int .i64 n from hd 7 rfl]
          go_simp
          refine (rwalk_any y n (by omega) _).mono ?_
          rw [Hz.out]
          rintro e w1 ⟨rfl, hb1⟩
          exact ⟨_, rfl, rfl, hb1⟩
        · rw [show us 8 = dgv z from hd 8 rfl]
          have Hx := Lib.hid hx; clear hx
          go_simp
          refine ⟨?_, (Below.refl _ _).alloc (Nat.le_refl _) _⟩
          have := Arr.new wx 4 (fnOf z) 24 #[.int .u32 z.a.toNat, .int .u32 z.b.toNat, .int .u32 z.c.toNat, .int .u32 z.d.toNat] rfl
          exact this.dg
      rintro us W1 ⟨hx3, hown3, hb3, _⟩ hF
      have h0 : us 0 = u6 := hF 0 (by decide)
      obtain ⟨B, hB, hD⟩ : ∃ B, us 9 = .slice (some ⟨B, 0, none⟩) 1 1 ∧ DgAt W1 B 0 z := hF 9 (by decide)
      clear hF
      simp only [putAll, dstOf, List.getElem?_toArray, List.getElem?_cons_succ, List.getElem?_cons_zero, Option.bind_some, List.drop_succ_cons, List.drop_zero]
      rw [h0, hB]
      go_frame
      clear h0 hB hown
      have hbs := hb3.size
      go_wp2_with (at_builtin; refine wpList_append_own _ rfl _ _ 33 rfl w1.heap.size 24 i0 (dgv Ot.zeroD) 4 16 Tryd.underlying33 hi hz0 hz1 hz2 rfl (by decide) _ _ _ rfl hown3 ⟨B, 0, none⟩ 1 1 [.int .u32 z.a.toNat, .int .u32 z.b.toNat, .int .u32 z.c.toNat, .int .u32 z.d.toNat] rfl rfl ?c1 ?c2 ?c3 ?c4 ?c5 ?_)
      case c1 =>
        intro j u hu
        rw [add_at]
        obtain ⟨d0, d1, d2, d3⟩ := hD
        match j, hu with
        | 0, hu => simpa using d0.trans hu
        | 1, hu => simpa using d1.trans hu
        | 2, hu => simpa using d2.trans hu
        | 3, hu => simpa using d3.trans hu
      case c2 => exact dg_one z
      case c3 => unfold maxLen; omega
      case c4 => omega
      case c5 => omega
      intro v' w4 hown1 hg1 _
      have hb7 : Below w1.heap.size w1 w4 := hb3.grown hg1 (by omega) (fun q hq => (hown3.lt q hq).1)
      clear hg1 hown3 hb3
      go_wp2
      go_roundw
      case rel =>
        refine ⟨k + 1, by omega, by go_num, ?_, hb7⟩
        rw [Hts.out, dcs_snoc]
        exact hown1
      case measure => simp [intOf]; omega
    · obtain rfl : k = 35 := by omega
      go_wp2
      go_ret
      have hl := Ot.sign_length pair x m
      rw [List.take_of_length_le (by omega)] at hown
      refine ⟨_, rfl, hb2.trans (hb.mono hb2.size), ?_⟩
      rw [hl]
      exact own_base_le hown hb2.size
set_option maxRecDepth 100000 in
theorem same_any (v u : Value) (l : List Dg) (hl : l.length = 35) (w : World) (hv : SigAt w v l) (hu : SigAt w u l) : Calls Tryd.prog 23 #[v, u] w fun e w' => e = .returned (.bool true) ∧ Below w.heap.size w w' := by
  obtain ⟨A, c, rfl, _, hcs⟩ := hv
  obtain ⟨b, off, rfl, hbl, hcs⟩ := hcs (by omega)
  obtain ⟨A', c', rfl, _, hct⟩ := hu
  obtain ⟨b', off', rfl, hbl', hct⟩ := hct (by omega)
  rw [hl] at *
  have Hs := Lib.hid hcs; have Ht := Lib.hid hct; clear hcs hct hl
  go_enter Tryd.func23, Tryd.ntmps23
  go_wp2_with fail
  go_loopw [5] (fun i wr => ∃ k : Nat, k ≤ 35 ∧ i = .int .i64 k ∧ Below w.heap.size w wr) (fun i wr => 35 - (intOf i).toNat)
  case atStart => exact ⟨0, by omega, rfl, Below.refl _ _⟩
  case round =>
    obtain ⟨k, hk, rfl, hb⟩ := hrel
    by_cases hlt : k < 35
    · obtain ⟨s0, s1, s2, s3⟩ := (Hs.out k hlt).below hb hbl
      obtain ⟨t0, t1, t2, t3⟩ := (Ht.out k hlt).below hb hbl'
      generalize l.getD k Ot.zeroD = d at *
      have hq := dg_neq d d
      have hk1 : (k : Int) < 35 := by omega
      have hk0 : (0 : Int) ≤ (k : Int) := by omega
      have hd : decide ((k : Int) < 35) = true := by simp; omega
      go_wp2_with fail
      go_quiet (fail)
      go_wp2
      go_roundw
      case rel => exact ⟨k + 1, by omega, by go_num, pw_drewN hb _⟩
      case measure => simp [intOf]; omega
    · obtain rfl : k = 35 := by omega
      go_wp2
      go_ret
      exact ⟨rfl, hb⟩
end Go.Proofs.YtpodfmnnabepaaaDoor
