import Derived.Test.YtpodfmnnabepaaaDoorW22
import Derived.Test.YtpodfmnnabepaaaDoorR4
namespace Go.Proofs.YtpodfmnnabepaaaDoor
open Go.RowKit
open Ot (Dg)
set_option maxRecDepth 100000 in
set_option maxHeartbeats 2000000 in
theorem keys_any (x m : Dg) (w : World) (ht : Tn w) : Calls Tryd.prog 4 #[dgv x, dgv m] w fun e w' => e = .returned (.bool true) ∧ Below w.heap.size w w' := by
  go_enter Tryd.func4, Tryd.ntmps4
  go_wp2_with fail
  generalize hW : (w.alloc (.cells #[.int .u32 x.a.toNat, .int .u32 x.b.toNat, .int .u32 x.c.toNat, .int .u32 x.d.toNat] 24)).alloc (.cells #[.int .u32 m.a.toNat, .int .u32 m.b.toNat, .int .u32 m.c.toNat, .int .u32 m.d.toNat] 24) = W
  have hbW : Below w.heap.size w W := by subst hW; exact ((Below.refl _ _).alloc (Nat.le_refl _) _).alloc (by simp) _
  have hx0 : Arr W w.heap.size 4 (fnOf x) := by subst hW; exact (Arr.new w 4 (fnOf x) 24 _ rfl).alloc (by simp) _
  have hm0 : Arr W (w.heap.size + 1) 4 (fnOf m) := by subst hW; exact Arr.new' _ _ 4 (fnOf m) 24 _ (by simp) rfl
  have hsW : w.heap.size + 2 ≤ W.heap.size := by subst hW; simp
  clear hW
  have hk : St w w.heap.size x (w.heap.size + 1) m (w.heap.size + 2) W.drew := ⟨ht.below hbW.drew, hbW.drew, Two.of hx0.drew hm0.drew, hsW⟩
  have hl35 := Ot.sign_length pair x m
  generalize hsg : Ot.sign pair x m = sg at *
  generalize hpb : Ot.pub pair x = pb at *
  have Hsg := Lib.hid hsg; clear hsg
  have Hpb := Lib.hid hpb; clear hpb
  go_upto_region 1 with fail
  refine wp_region_invG (St w w.heap.size x (w.heap.size + 1) m (w.heap.size + 2)) (fun j v w' => match j with | 0 => v = .bool true | 1 => v = .bool true | 2 => v = dgv x | 3 => v = dgv pb | 4 => v = dgv x | 5 => v = dgv pb | 6 => v = .bool true | 7 => v = .bool true | 8 => v = .bool true | 9 => v = dgv x | 10 => v = dgv m | 11 => SigAt w' v sg | 12 => v = dgv x | 13 => v = dgv m | 14 => SigAt w' v sg | 15 => v = .bool true | _ => True) 16 (by kernel_rfl) (by kernel_rfl) hk (fun _ _ h hb => h.keep hb) ?_ ?_ ?_
  · rintro (_|_|_|_|_|_|_|_|_|_|_|_|_|_|_|_|j) v w1 w2 hb h
    all_goals first | exact h | exact SigAt.below h hb
  · refine ⟨fun us wx hx hd => ?_, fun us wx hx hd => ?_, fun us wx hx hd => ?_, fun us wx hx hd => ?_, fun us wx hx hd => ?_, fun us wx hx hd => ?_, fun us wx hx hd => ?_, fun us wx hx hd => ?_, fun us wx hx hd => ?_, fun us wx hx hd => ?_, fun us wx hx hd => ?_, fun us wx hx hd => ?_, fun us wx hx hd => ?_, fun us wx hx hd => ?_, fun us wx hx hd => ?_, fun us wx hx hd => ?_, trivial⟩
    all_goals simp only [putAll, dstOf, List.getElem?_toArray, List.getElem?_cons_succ, List.getElem?_cons_zero, Option.bind_some]
    all_goals go_frame
    all_goals refine .inl ⟨?_, ?_⟩
    · rfl
    · go_simp
      refine (awake_any _ hx.1).mono ?_
      rintro e w1 ⟨rfl, hb⟩
      exact ⟨_, rfl, rfl, hb⟩
    · rfl
    · rw [show us 0 = .bool true from hd 0 rfl]; go_simp; exact Below.refl _ _
    · rw [show us 1 = .bool true from hd 1 rfl]; rfl
    · obtain ⟨c0, c1, c2, c3⟩ := hx.2.2.1.1
      have H := Lib.hid hx; clear hx
      go_simp
      first | exact Below.refl _ _ | exact ⟨by and_intros <;> rfl, Below.refl _ _⟩
    · rw [show us 1 = .bool true from hd 1 rfl]; rfl
    · rw [show us 2 = dgv x from hd 2 rfl]
      go_simp
      refine (public_any x _ hx.1).mono ?_
      rw [Hpb.out]
      rintro e w1 ⟨rfl, hb⟩
      exact ⟨_, rfl, rfl, hb⟩
    · rw [show us 1 = .bool true from hd 1 rfl]; rfl
    · obtain ⟨c0, c1, c2, c3⟩ := hx.2.2.1.1
      have H := Lib.hid hx; clear hx
      go_simp
      first | exact Below.refl _ _ | exact ⟨by and_intros <;> rfl, Below.refl _ _⟩
    · rw [show us 1 = .bool true from hd 1 rfl]; rfl
    · rw [show us 4 = dgv x from hd 4 rfl]
      go_simp
      refine (rpub_any x _).mono ?_
      rw [Hpb.out]
      rintro e w1 ⟨rfl, hb⟩
      exact ⟨_, rfl, rfl, hb⟩
    · rw [show us 1 = .bool true from hd 1 rfl]; rfl
    · rw [show us 3 = dgv pb from hd 3 rfl, show us 5 = dgv pb from hd 5 rfl]; have hq := dg_eql pb pb; rw [decide_eq_true rfl] at hq; go_simp; first | exact Below.refl _ _ | exact ⟨rfl, Below.refl _ _⟩
    · rfl
    · rw [show us 1 = .bool true from hd 1 rfl, show us 6 = .bool true from hd 6 rfl]; go_simp; exact Below.refl _ _
    · rfl
    · rw [show us 7 = .bool true from hd 7 rfl]; go_simp; exact Below.refl _ _
    · rw [show us 8 = .bool true from hd 8 rfl]; rfl
    · obtain ⟨c0, c1, c2, c3⟩ := hx.2.2.1.1
      have H := Lib.hid hx; clear hx
      go_simp
      first | exact Below.refl _ _ | exact ⟨by and_intros <;> rfl, Below.refl _ _⟩
    · rw [show us 8 = .bool true from hd 8 rfl]; rfl
    · obtain ⟨c0, c1, c2, c3⟩ := hx.2.2.1.2
      have H := Lib.hid hx; clear hx
      go_simp
      first | exact Below.refl _ _ | exact ⟨by and_intros <;> rfl, Below.refl _ _⟩
    · rw [show us 8 = .bool true from hd 8 rfl]; rfl
    · rw [show us 9 = dgv x from hd 9 rfl, show us 10 = dgv m from hd 10 rfl]
      go_simp
      refine (sign_any x m _ hx.1).mono ?_
      rw [Hsg.out]
      rintro e w1 ⟨vs, rfl, hb, hown⟩
      exact ⟨_, rfl, own_sig hown, hb⟩
    · rw [show us 8 = .bool true from hd 8 rfl]; rfl
    · obtain ⟨c0, c1, c2, c3⟩ := hx.2.2.1.1
      have H := Lib.hid hx; clear hx
      go_simp
      first | exact Below.refl _ _ | exact ⟨by and_intros <;> rfl, Below.refl _ _⟩
    · rw [show us 8 = .bool true from hd 8 rfl]; rfl
    · obtain ⟨c0, c1, c2, c3⟩ := hx.2.2.1.2
      have H := Lib.hid hx; clear hx
      go_simp
      first | exact Below.refl _ _ | exact ⟨by and_intros <;> rfl, Below.refl _ _⟩
    · rw [show us 8 = .bool true from hd 8 rfl]; rfl
    · rw [show us 12 = dgv x from hd 12 rfl, show us 13 = dgv m from hd 13 rfl]
      go_simp
      refine (rsign_any x m _).mono ?_
      rw [Hsg.out]
      rintro e w1 ⟨vs, rfl, hb, hown⟩
      exact ⟨_, rfl, own_sig hown, hb⟩
    · rw [show us 8 = .bool true from hd 8 rfl]; rfl
    · have n3 : SigAt wx (us 11) sg := hd 11 rfl
      have n5 : SigAt wx (us 14) sg := hd 14 rfl
      go_simp
      refine (same_any _ _ sg hl35 _ n3 n5).mono ?_
      rintro e w1 ⟨rfl, hb⟩
      exact ⟨_, rfl, rfl, hb⟩
  rintro us W1 hx hF
  have h8 : us 8 = .bool true := hF 8 (by decide)
  have h15 : us 15 = .bool true := hF 15 (by decide)
  clear hF
  simp only [putAll, dstOf, List.getElem?_toArray, List.getElem?_cons_succ, List.getElem?_cons_zero, Option.bind_some, List.drop_succ_cons, List.drop_zero]
  rw [h8, h15]
  go_frame
  go_wp2
  go_ret
  exact ⟨rfl, hx.2.1⟩
end Go.Proofs.YtpodfmnnabepaaaDoor
