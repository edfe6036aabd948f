import Derived.Test.YtpodfmnnabepaaaDoorW18
import Derived.Test.YtpodfmnnabepaaaDoorR4
namespace Go.Proofs.YtpodfmnnabepaaaDoor
open Go.RowKit
open Ot (Dg)
/-- One digest in a block of its own. -/
def One (b1 : Nat) (x : Dg) (w' : World) : Prop := w'.cell? ⟨b1, 0, none⟩ = some (.int .u32 x.a.toNat) ∧ w'.cell? ⟨b1, 1, none⟩ = some (.int .u32 x.b.toNat) ∧ w'.cell? ⟨b1, 2, none⟩ = some (.int .u32 x.c.toNat) ∧ w'.cell? ⟨b1, 3, none⟩ = some (.int .u32 x.d.toNat)
theorem One.keep {b1 : Nat} {x : Dg} {w w' : World} (h : One b1 x w) (hb : Below w.heap.size w w') : One b1 x w' := by
  obtain ⟨b0, b1, b2, b3⟩ := h
  exact ⟨cell_keep b0 hb, cell_keep b1 hb, cell_keep b2 hb, cell_keep b3 hb⟩
set_option maxRecDepth 100000 in
set_option maxHeartbeats 2000000 in
theorem lsteps_any (m : Dg) (w : World) (ht : Tn w) : Calls Tryd.prog 3 #[dgv m] w fun e w' => e = .returned (.bool true) ∧ Below w.heap.size w w' := by
  go_enter Tryd.func3, Tryd.ntmps3
  go_wp2_with fail
  generalize hW : w.alloc (.cells #[.int .u32 m.a.toNat, .int .u32 m.b.toNat, .int .u32 m.c.toNat, .int .u32 m.d.toNat] 24) = W
  have hbW : Below w.heap.size w W := by subst hW; exact (Below.refl _ _).alloc (Nat.le_refl _) _
  have hm0 : Arr W w.heap.size 4 (fnOf m) := by subst hW; exact Arr.new w 4 (fnOf m) 24 _ rfl
  clear hW
  go_upto_region 1 with fail
  refine wp_region_invG (fun wx => Tn wx ∧ One w.heap.size m wx ∧ Below w.heap.size w wx) (fun j v w' => match j with | 0 => v = .bool true | 1 => v = .bool true | 2 => v = dgv m | 3 => NumAt w' v (Ot.steps m) | 4 => v = dgv m | 5 => NumAt w' v (Ot.steps m) | 6 => v = .bool true | _ => True) 7 (by kernel_rfl) (by kernel_rfl) ⟨ht.below hbW.drew, hm0.drew.dg, hbW.drew⟩ (fun _ _ h hb => ⟨h.1.below hb, h.2.1.keep hb, h.2.2.trans (hb.mono h.2.2.size)⟩) ?_ ?_ ?_
  · rintro (_|_|_|_|_|_|_|j) v w1 w2 hb h
    all_goals first | exact h | exact NumAt.below h hb
  · refine ⟨fun us wx hx hd => ?_, fun us wx hx hd => ?_, fun us wx hx hd => ?_, fun us wx hx hd => ?_, fun us wx hx hd => ?_, fun us wx hx hd => ?_, fun us wx hx hd => ?_, trivial⟩
    all_goals simp only [putAll, dstOf, List.getElem?_toArray, List.getElem?_cons_succ, List.getElem?_cons_zero, Option.bind_some]
    all_goals go_frame
    all_goals refine .inl ⟨?_, ?_⟩
    · rfl
    · go_simp
      refine (awake_any _ hx.1).mono ?_
      rintro e w1 ⟨rfl, hb⟩
      exact ⟨_, rfl, rfl, hb⟩
    · rfl
    · rw [show us 0 = .bool true from hd 0 rfl]; go_simp; exact Below.refl _ _
    · rw [show us 1 = .bool true from hd 1 rfl]; rfl
    · obtain ⟨c0, c1, c2, c3⟩ := hx.2.1
      have H := Lib.hid hx; clear hx
      go_simp
      first | exact Below.refl _ _ | exact ⟨by and_intros <;> rfl, Below.refl _ _⟩
    · rw [show us 1 = .bool true from hd 1 rfl]; rfl
    · rw [show us 2 = dgv m from hd 2 rfl]
      go_simp
      refine (steps_any m _).mono ?_
      rintro e w1 ⟨vs, rfl, hb, hown⟩
      exact ⟨_, rfl, own_num hown, hb⟩
    · rw [show us 1 = .bool true from hd 1 rfl]; rfl
    · obtain ⟨c0, c1, c2, c3⟩ := hx.2.1
      have H := Lib.hid hx; clear hx
      go_simp
      first | exact Below.refl _ _ | exact ⟨by and_intros <;> rfl, Below.refl _ _⟩
    · rw [show us 1 = .bool true from hd 1 rfl]; rfl
    · rw [show us 4 = dgv m from hd 4 rfl]
      go_simp
      refine (rsteps_any m _).mono ?_
      rintro e w1 ⟨vs, rfl, hb, hown⟩
      exact ⟨_, rfl, own_num hown, hb⟩
    · rw [show us 1 = .bool true from hd 1 rfl]; rfl
    · have n3 : NumAt wx (us 3) (Ot.steps m) := hd 3 rfl
      have n5 : NumAt wx (us 5) (Ot.steps m) := hd 5 rfl
      go_simp
      refine (ints_any _ _ _ _ n3 n5).mono ?_
      rintro e w1 ⟨rfl, hb⟩
      exact ⟨_, rfl, rfl, hb⟩
  rintro us W1 hx hF
  have h1 : us 1 = .bool true := hF 1 (by decide)
  have h6 : us 6 = .bool true := hF 6 (by decide)
  clear hF
  simp only [putAll, dstOf, List.getElem?_toArray, List.getElem?_cons_succ, List.getElem?_cons_zero, Option.bind_some, List.drop_succ_cons, List.drop_zero]
  rw [h1, h6]
  go_frame
  go_wp2
  go_ret
  exact ⟨rfl, hx.2.2⟩
end Go.Proofs.YtpodfmnnabepaaaDoor
