/- Texts of this claim, merged: Q19 L1 L2 L4. Conditions: those written in each. -/
import Derived.Test.YtpodfmnnabepaaaDoorTie
import Derived.OpenShut
import Derived.Handed
import Derived.Handy
import Derived.Lay
import Derived.LaidMore
import Derived.ProofKit
import Derived.Deep.Slices
import Derived.Carry
import Derived.Lib.SmallJoins
import Derived.Test.YtpodfmnnabepaaaDoorM2
import Derived.Test.YtpodfmnnabepaaaDoorM4
namespace Go.Proofs.YtpodfmnnabepaaaDoor
open Go.RowKit
open Ot (Dg)
set_option maxRecDepth 100000 in
set_option maxHeartbeats 4000000 in
theorem lrights_any (bs : List Dg) (need : Int) (bv : Value) (w : World) (ht : Tn w) (hbs : SigAt w bv bs) (hcap : Capd bv) :
    Calls Tryd.prog 10 #[polV bv need] w fun e w' => e = .returned (.bool true) ∧ Below w.heap.size w w' := by
  obtain ⟨A, c, rfl, hlen, _⟩ := id hbs
  generalize hW : w.alloc (.cells #[.slice A bs.length c, .int .i64 need] 47) = W
  have hb0 : Below w.heap.size w W := by subst hW; exact (Below.refl _ _).alloc (Nat.le_refl _) _
  have hp0 : W.cell? ⟨w.heap.size, 0, none⟩ = some (.slice A bs.length c) := by subst hW; exact World.cell?_alloc_new _ _ _ 0
  have hp1 : W.cell? ⟨w.heap.size, 1, none⟩ = some (.int .i64 need) := by subst hW; exact World.cell?_alloc_new _ _ _ 1
  have hS1 : W.drew.cell? ⟨w.heap.size, 0, none⟩ = some (.slice A bs.length c) ∧ W.drew.cell? ⟨w.heap.size, 1, none⟩ = some (.int .i64 need) ∧ SigAt W.drew (.slice A bs.length c) bs ∧ Tn W.drew ∧ Below w.heap.size w W.drew :=
    ⟨hp0, hp1, hbs.below hb0.drew, ht.below hb0.drew, hb0.drew⟩
  have htW := ht.below hb0
  by_cases h30 : (30 : Int) < bs.length
  · have hd := decide_eq_true h30
    have Hb0 := Lib.hid hb0
    unfold polV
    clear hbs ht hS1 hp1 hb0
    have HhW := Lib.hid hW
    go_enter Tryd.func10, Tryd.ntmps10
    go_wp2_with fail
    clear hW
    refine (qawake_any _ htW).mono ?_
    rintro e w1 ⟨rfl, hb1⟩
    go_wp2_with fail
    exact bodyPost_ret (v := .bool true) (by simp [results, Tryd.results10, go_sem]) rfl ⟨rfl, Hb0.out.trans (hb1.mono Hb0.out.size)⟩
  have hd := decide_eq_false h30
  by_cases hrr : rightP bs need = true
  · have Hr := Lib.hid hrr
    have hwr : IntKind.i64.wrap (need - 1) = need - 1 := IntWalk.i64_in _ (by
      simp only [rightP, Bool.and_eq_true, decide_eq_true_eq] at hrr
      omega)
    have Hwr := Lib.hid hwr
    unfold polV
    clear hb0 hp1 hbs ht hrr htW hwr
    have HhW := Lib.hid hW
    go_enter Tryd.func10, Tryd.ntmps10
    go_upto_region 3 with fail
    clear hW
    refine wp_region_invG (fun wx => wx.cell? ⟨w.heap.size, 0, none⟩ = some (.slice A bs.length c) ∧ wx.cell? ⟨w.heap.size, 1, none⟩ = some (.int .i64 need) ∧ SigAt wx (.slice A bs.length c) bs ∧ Tn wx ∧ Below w.heap.size w wx) (fun j v w' => match j with | 0 => v = .bool true | 1 => v = .bool true | 2 => v = polV (.slice A bs.length c) need | 3 => v = .bool true | 4 => v = polV (.slice A bs.length c) need | 5 => v = .bool true | 6 => v = .bool true | 7 => v = .bool true | 8 => v = .bool true | 9 => v = polV (.slice A bs.length c) need | 10 => v = .bool true | 11 => v = .bool false | 12 => v = .bool false | 13 => v = polV (.slice A bs.length c) need | 14 => v = .int .i64 (need - 1) | 15 => v = polV (.slice A bs.length c) need | 16 => v = .int .i64 (need - 1) | 17 => v = .bool true | 18 => v = .bool true | _ => True) 19 (by kernel_rfl) (by kernel_rfl) hS1 (fun _ _ h hb => ⟨cell_keep h.1 hb, cell_keep h.2.1 hb, h.2.2.1.below hb, h.2.2.2.1.below hb, h.2.2.2.2.trans (hb.mono h.2.2.2.2.size)⟩) ?_ ?_ ?_
    · rintro (_|_|_|_|_|_|_|_|_|_|_|_|_|_|_|_|_|_|_|j) v w1 w2 hb h
      all_goals exact h
    · refine ⟨fun us wx hx hd => ?_, fun us wx hx hd => ?_, fun us wx hx hd => ?_, fun us wx hx hd => ?_, fun us wx hx hd => ?_, fun us wx hx hd => ?_, fun us wx hx hd => ?_, fun us wx hx hd => ?_, fun us wx hx hd => ?_, fun us wx hx hd => ?_, fun us wx hx hd => ?_, fun us wx hx hd => ?_, fun us wx hx hd => ?_, fun us wx hx hd => ?_, fun us wx hx hd => ?_, fun us wx hx hd => ?_, fun us wx hx hd => ?_, fun us wx hx hd => ?_, fun us wx hx hd => ?_, trivial⟩
      all_goals simp only [putAll, dstOf, List.getElem?_toArray, List.getElem?_cons_succ, List.getElem?_cons_zero, Option.bind_some]
      all_goals go_frame
      · refine .inl ⟨?_, ?_⟩
        · rfl
        go_simp
        refine (qawake_any _ hx.2.2.2.1).mono ?_
        rintro e w1 ⟨rfl, hb1⟩
        exact ⟨_, rfl, by first | rfl | rw [Hr.out], hb1⟩
      · refine .inl ⟨?_, ?_⟩
        · rfl
        rw [show us 0 = .bool true from hd 0 rfl]
        have HX := Lib.hid hx; clear hx
        go_simp
        first | exact Below.refl _ _ | exact ⟨rfl, Below.refl _ _⟩ | exact ⟨by and_intros <;> rfl, Below.refl _ _⟩ | exact ⟨by first | rfl | (congr 1; omega) | omega, Below.refl _ _⟩
      · refine .inl ⟨?_, ?_⟩
        · rw [show us 1 = .bool true from hd 1 rfl]; rfl
        obtain ⟨c0, c1⟩ := And.intro hx.1 hx.2.1
        unfold polV
        have HX := Lib.hid hx; clear hx
        go_simp
        first | exact Below.refl _ _ | exact ⟨rfl, Below.refl _ _⟩ | exact ⟨by and_intros <;> rfl, Below.refl _ _⟩ | exact ⟨by first | rfl | (congr 1; omega) | omega, Below.refl _ _⟩
      · refine .inl ⟨?_, ?_⟩
        · rw [show us 1 = .bool true from hd 1 rfl]; rfl
        rw [show us 2 = polV (.slice A bs.length c) need from hd 2 rfl]
        go_simp
        refine (right_any _ bs need _ hx.2.2.1 hcap).mono ?_
        rintro e w1 ⟨rfl, hb1⟩
        exact ⟨_, rfl, by first | rfl | rw [Hr.out], hb1⟩
      · refine .inl ⟨?_, ?_⟩
        · rw [show us 1 = .bool true from hd 1 rfl]; rfl
        obtain ⟨c0, c1⟩ := And.intro hx.1 hx.2.1
        unfold polV
        have HX := Lib.hid hx; clear hx
        go_simp
        first | exact Below.refl _ _ | exact ⟨rfl, Below.refl _ _⟩ | exact ⟨by and_intros <;> rfl, Below.refl _ _⟩ | exact ⟨by first | rfl | (congr 1; omega) | omega, Below.refl _ _⟩
      · refine .inl ⟨?_, ?_⟩
        · rw [show us 1 = .bool true from hd 1 rfl]; rfl
        rw [show us 4 = polV (.slice A bs.length c) need from hd 4 rfl]
        go_simp
        refine (rright_any _ bs need _ hx.2.2.1).mono ?_
        rintro e w1 ⟨rfl, hb1⟩
        exact ⟨_, rfl, by first | rfl | rw [Hr.out], hb1⟩
      · refine .inl ⟨?_, ?_⟩
        · rw [show us 1 = .bool true from hd 1 rfl]; rfl
        rw [show us 3 = .bool true from hd 3 rfl, show us 5 = .bool true from hd 5 rfl]
        have HX := Lib.hid hx; clear hx
        go_simp
        first | exact Below.refl _ _ | exact ⟨rfl, Below.refl _ _⟩ | exact ⟨by and_intros <;> rfl, Below.refl _ _⟩ | exact ⟨by first | rfl | (congr 1; omega) | omega, Below.refl _ _⟩
      · refine .inl ⟨?_, ?_⟩
        · rfl
        rw [show us 1 = .bool true from hd 1 rfl, show us 6 = .bool true from hd 6 rfl]
        have HX := Lib.hid hx; clear hx
        go_simp
        first | exact Below.refl _ _ | exact ⟨rfl, Below.refl _ _⟩ | exact ⟨by and_intros <;> rfl, Below.refl _ _⟩ | exact ⟨by first | rfl | (congr 1; omega) | omega, Below.refl _ _⟩
      · refine .inl ⟨?_, ?_⟩
        · rfl
        rw [show us 7 = .bool true from hd 7 rfl]
        have HX := Lib.hid hx; clear hx
        go_simp
        first | exact Below.refl _ _ | exact ⟨rfl, Below.refl _ _⟩ | exact ⟨by and_intros <;> rfl, Below.refl _ _⟩ | exact ⟨by first | rfl | (congr 1; omega) | omega, Below.refl _ _⟩
      · refine .inl ⟨?_, ?_⟩
        · rw [show us 8 = .bool true from hd 8 rfl]; rfl
        obtain ⟨c0, c1⟩ := And.intro hx.1 hx.2.1
        unfold polV
        have HX := Lib.hid hx; clear hx
        go_simp
        first | exact Below.refl _ _ | exact ⟨rfl, Below.refl _ _⟩ | exact ⟨by and_intros <;> rfl, Below.refl _ _⟩ | exact ⟨by first | rfl | (congr 1; omega) | omega, Below.refl _ _⟩
      · refine .inl ⟨?_, ?_⟩
        · rw [show us 8 = .bool true from hd 8 rfl]; rfl
        rw [show us 9 = polV (.slice A bs.length c) need from hd 9 rfl]
        go_simp
        refine (rright_any _ bs need _ hx.2.2.1).mono ?_
        rintro e w1 ⟨rfl, hb1⟩
        exact ⟨_, rfl, by first | rfl | rw [Hr.out], hb1⟩
      · refine .inl ⟨?_, ?_⟩
        · rw [show us 8 = .bool true from hd 8 rfl]; rfl
        rw [show us 10 = .bool true from hd 10 rfl]
        have HX := Lib.hid hx; clear hx
        go_simp
        first | exact Below.refl _ _ | exact ⟨rfl, Below.refl _ _⟩ | exact ⟨by and_intros <;> rfl, Below.refl _ _⟩ | exact ⟨by first | rfl | (congr 1; omega) | omega, Below.refl _ _⟩
      · refine .inl ⟨?_, ?_⟩
        · rw [show us 8 = .bool true from hd 8 rfl]; rfl
        rw [show us 11 = .bool false from hd 11 rfl]
        have HX := Lib.hid hx; clear hx
        go_simp
        first | exact Below.refl _ _ | exact ⟨rfl, Below.refl _ _⟩ | exact ⟨by and_intros <;> rfl, Below.refl _ _⟩ | exact ⟨by first | rfl | (congr 1; omega) | omega, Below.refl _ _⟩
      · refine .inl ⟨?_, ?_⟩
        · rw [show us 12 = .bool false from hd 12 rfl]; rfl
        obtain ⟨c0, c1⟩ := And.intro hx.1 hx.2.1
        unfold polV
        have HX := Lib.hid hx; clear hx
        go_simp
        first | exact Below.refl _ _ | exact ⟨rfl, Below.refl _ _⟩ | exact ⟨by and_intros <;> rfl, Below.refl _ _⟩ | exact ⟨by first | rfl | (congr 1; omega) | omega, Below.refl _ _⟩
      · refine .inl ⟨?_, ?_⟩
        · rw [show us 12 = .bool false from hd 12 rfl]; rfl
        rw [show us 13 = polV (.slice A bs.length c) need from hd 13 rfl]
        go_simp
        refine (bad_any _ need _ Hwr.out).mono ?_
        rintro e w1 ⟨rfl, hb1⟩
        exact ⟨_, rfl, by first | rfl | rw [Hr.out], hb1⟩
      · refine .inl ⟨?_, ?_⟩
        · rw [show us 12 = .bool false from hd 12 rfl]; rfl
        obtain ⟨c0, c1⟩ := And.intro hx.1 hx.2.1
        unfold polV
        have HX := Lib.hid hx; clear hx
        go_simp
        first | exact Below.refl _ _ | exact ⟨rfl, Below.refl _ _⟩ | exact ⟨by and_intros <;> rfl, Below.refl _ _⟩ | exact ⟨by first | rfl | (congr 1; omega) | omega, Below.refl _ _⟩
      · refine .inl ⟨?_, ?_⟩
        · rw [show us 12 = .bool false from hd 12 rfl]; rfl
        rw [show us 15 = polV (.slice A bs.length c) need from hd 15 rfl]
        go_simp
        refine (rbad_any _ need _ Hwr.out).mono ?_
        rintro e w1 ⟨rfl, hb1⟩
        exact ⟨_, rfl, by first | rfl | rw [Hr.out], hb1⟩
      · refine .inl ⟨?_, ?_⟩
        · rw [show us 12 = .bool false from hd 12 rfl]; rfl
        rw [show us 14 = .int .i64 (need - 1) from hd 14 rfl, show us 16 = .int .i64 (need - 1) from hd 16 rfl]
        have HX := Lib.hid hx; clear hx
        go_simp
        first | exact Below.refl _ _ | exact ⟨rfl, Below.refl _ _⟩ | exact ⟨by and_intros <;> rfl, Below.refl _ _⟩ | exact ⟨by first | rfl | (congr 1; omega) | omega, Below.refl _ _⟩
      · refine .inl ⟨?_, ?_⟩
        · rw [show us 8 = .bool true from hd 8 rfl]; rfl
        rw [show us 12 = .bool false from hd 12 rfl, show us 17 = .bool true from hd 17 rfl]
        have HX := Lib.hid hx; clear hx
        go_simp
        first | exact Below.refl _ _ | exact ⟨rfl, Below.refl _ _⟩ | exact ⟨by and_intros <;> rfl, Below.refl _ _⟩ | exact ⟨by first | rfl | (congr 1; omega) | omega, Below.refl _ _⟩
    rintro us W1 ⟨_, _, _, _, hb5⟩ hF
    have e8 : us 8 = .bool true := hF 8 (by decide)
    have e18 : us 18 = .bool true := hF 18 (by decide)
    simp only [putAll, dstOf, List.getElem?_toArray, List.getElem?_cons_succ, List.getElem?_cons_zero, Option.bind_some, List.drop_succ_cons, List.drop_zero]
    rw [e8, e18]
    clear hF e8 e18
    go_frame
    go_wp2_with fail
    exact bodyPost_ret (v := .bool true) (by simp [results, Tryd.results10, go_sem]) rfl ⟨rfl, hb5⟩
  · have hrr' : rightP bs need = false := by simpa using hrr
    have Hr := Lib.hid hrr'
    unfold polV
    clear hb0 hp1 hbs ht hrr hrr' htW
    have HhW := Lib.hid hW
    go_enter Tryd.func10, Tryd.ntmps10
    go_upto_region 3 with fail
    clear hW
    refine wp_region_invG (fun wx => wx.cell? ⟨w.heap.size, 0, none⟩ = some (.slice A bs.length c) ∧ wx.cell? ⟨w.heap.size, 1, none⟩ = some (.int .i64 need) ∧ SigAt wx (.slice A bs.length c) bs ∧ Tn wx ∧ Below w.heap.size w wx) (fun j v w' => match j with | 0 => v = .bool true | 1 => v = .bool true | 2 => v = polV (.slice A bs.length c) need | 3 => v = .bool false | 4 => v = polV (.slice A bs.length c) need | 5 => v = .bool false | 6 => v = .bool true | 7 => v = .bool true | 8 => v = .bool true | 9 => v = polV (.slice A bs.length c) need | 10 => v = .bool false | 11 => v = .bool true | 12 => v = .bool true | 13 => v = undef | 14 => v = undef | 15 => v = undef | 16 => v = undef | 17 => v = undef | 18 => v = .bool true | _ => True) 19 (by kernel_rfl) (by kernel_rfl) hS1 (fun _ _ h hb => ⟨cell_keep h.1 hb, cell_keep h.2.1 hb, h.2.2.1.below hb, h.2.2.2.1.below hb, h.2.2.2.2.trans (hb.mono h.2.2.2.2.size)⟩) ?_ ?_ ?_
    · rintro (_|_|_|_|_|_|_|_|_|_|_|_|_|_|_|_|_|_|_|j) v w1 w2 hb h
      all_goals exact h
    · refine ⟨fun us wx hx hd => ?_, fun us wx hx hd => ?_, fun us wx hx hd => ?_, fun us wx hx hd => ?_, fun us wx hx hd => ?_, fun us wx hx hd => ?_, fun us wx hx hd => ?_, fun us wx hx hd => ?_, fun us wx hx hd => ?_, fun us wx hx hd => ?_, fun us wx hx hd => ?_, fun us wx hx hd => ?_, fun us wx hx hd => ?_, fun us wx hx hd => ?_, fun us wx hx hd => ?_, fun us wx hx hd => ?_, fun us wx hx hd => ?_, fun us wx hx hd => ?_, fun us wx hx hd => ?_, trivial⟩
      all_goals simp only [putAll, dstOf, List.getElem?_toArray, List.getElem?_cons_succ, List.getElem?_cons_zero, Option.bind_some]
      all_goals go_frame
      · refine .inl ⟨?_, ?_⟩
        · rfl
        go_simp
        refine (qawake_any _ hx.2.2.2.1).mono ?_
        rintro e w1 ⟨rfl, hb1⟩
        exact ⟨_, rfl, by first | rfl | rw [Hr.out], hb1⟩
      · refine .inl ⟨?_, ?_⟩
        · rfl
        rw [show us 0 = .bool true from hd 0 rfl]
        have HX := Lib.hid hx; clear hx
        go_simp
        first | exact Below.refl _ _ | exact ⟨rfl, Below.refl _ _⟩ | exact ⟨by and_intros <;> rfl, Below.refl _ _⟩ | exact ⟨by first | rfl | (congr 1; omega) | omega, Below.refl _ _⟩
      · refine .inl ⟨?_, ?_⟩
        · rw [show us 1 = .bool true from hd 1 rfl]; rfl
        obtain ⟨c0, c1⟩ := And.intro hx.1 hx.2.1
        unfold polV
        have HX := Lib.hid hx; clear hx
        go_simp
        first | exact Below.refl _ _ | exact ⟨rfl, Below.refl _ _⟩ | exact ⟨by and_intros <;> rfl, Below.refl _ _⟩ | exact ⟨by first | rfl | (congr 1; omega) | omega, Below.refl _ _⟩
      · refine .inl ⟨?_, ?_⟩
        · rw [show us 1 = .bool true from hd 1 rfl]; rfl
        rw [show us 2 = polV (.slice A bs.length c) need from hd 2 rfl]
        go_simp
        refine (right_any _ bs need _ hx.2.2.1 hcap).mono ?_
        rintro e w1 ⟨rfl, hb1⟩
        exact ⟨_, rfl, by first | rfl | rw [Hr.out], hb1⟩
      · refine .inl ⟨?_, ?_⟩
        · rw [show us 1 = .bool true from hd 1 rfl]; rfl
        obtain ⟨c0, c1⟩ := And.intro hx.1 hx.2.1
        unfold polV
        have HX := Lib.hid hx; clear hx
        go_simp
        first | exact Below.refl _ _ | exact ⟨rfl, Below.refl _ _⟩ | exact ⟨by and_intros <;> rfl, Below.refl _ _⟩ | exact ⟨by first | rfl | (congr 1; omega) | omega, Below.refl _ _⟩
      · refine .inl ⟨?_, ?_⟩
        · rw [show us 1 = .bool true from hd 1 rfl]; rfl
        rw [show us 4 = polV (.slice A bs.length c) need from hd 4 rfl]
        go_simp
        refine (rright_any _ bs need _ hx.2.2.1).mono ?_
        rintro e w1 ⟨rfl, hb1⟩
        exact ⟨_, rfl, by first | rfl | rw [Hr.out], hb1⟩
      · refine .inl ⟨?_, ?_⟩
        · rw [show us 1 = .bool true from hd 1 rfl]; rfl
        rw [show us 3 = .bool false from hd 3 rfl, show us 5 = .bool false from hd 5 rfl]
        have HX := Lib.hid hx; clear hx
        go_simp
        first | exact Below.refl _ _ | exact ⟨rfl, Below.refl _ _⟩ | exact ⟨by and_intros <;> rfl, Below.refl _ _⟩ | exact ⟨by first | rfl | (congr 1; omega) | omega, Below.refl _ _⟩
      · refine .inl ⟨?_, ?_⟩
        · rfl
        rw [show us 1 = .bool true from hd 1 rfl, show us 6 = .bool true from hd 6 rfl]
        have HX := Lib.hid hx; clear hx
        go_simp
        first | exact Below.refl _ _ | exact ⟨rfl, Below.refl _ _⟩ | exact ⟨by and_intros <;> rfl, Below.refl _ _⟩ | exact ⟨by first | rfl | (congr 1; omega) | omega, Below.refl _ _⟩
      · refine .inl ⟨?_, ?_⟩
        · rfl
        rw [show us 7 = .bool true from hd 7 rfl]
        have HX := Lib.hid hx; clear hx
        go_simp
        first | exact Below.refl _ _ | exact ⟨rfl, Below.refl _ _⟩ | exact ⟨by and_intros <;> rfl, Below.refl _ _⟩ | exact ⟨by first | rfl | (congr 1; omega) | omega, Below.refl _ _⟩
      · refine .inl ⟨?_, ?_⟩
        · rw [show us 8 = .bool true from hd 8 rfl]; rfl
        obtain ⟨c0, c1⟩ := And.intro hx.1 hx.2.1
        unfold polV
        have HX := Lib.hid hx; clear hx
        go_simp
        first | exact Below.refl _ _ | exact ⟨rfl, Below.refl _ _⟩ | exact ⟨by and_intros <;> rfl, Below.refl _ _⟩ | exact ⟨by first | rfl | (congr 1; omega) | omega, Below.refl _ _⟩
      · refine .inl ⟨?_, ?_⟩
        · rw [show us 8 = .bool true from hd 8 rfl]; rfl
        rw [show us 9 = polV (.slice A bs.length c) need from hd 9 rfl]
        go_simp
        refine (rright_any _ bs need _ hx.2.2.1).mono ?_
        rintro e w1 ⟨rfl, hb1⟩
        exact ⟨_, rfl, by first | rfl | rw [Hr.out], hb1⟩
      · refine .inl ⟨?_, ?_⟩
        · rw [show us 8 = .bool true from hd 8 rfl]; rfl
        rw [show us 10 = .bool false from hd 10 rfl]
        have HX := Lib.hid hx; clear hx
        go_simp
        first | exact Below.refl _ _ | exact ⟨rfl, Below.refl _ _⟩ | exact ⟨by and_intros <;> rfl, Below.refl _ _⟩ | exact ⟨by first | rfl | (congr 1; omega) | omega, Below.refl _ _⟩
      · refine .inl ⟨?_, ?_⟩
        · rw [show us 8 = .bool true from hd 8 rfl]; rfl
        rw [show us 11 = .bool true from hd 11 rfl]
        have HX := Lib.hid hx; clear hx
        go_simp
        first | exact Below.refl _ _ | exact ⟨rfl, Below.refl _ _⟩ | exact ⟨by and_intros <;> rfl, Below.refl _ _⟩ | exact ⟨by first | rfl | (congr 1; omega) | omega, Below.refl _ _⟩
      · refine .inr ⟨?_, by first | rfl | trivial⟩
        rw [show us 12 = .bool true from hd 12 rfl]; rfl
      · refine .inr ⟨?_, by first | rfl | trivial⟩
        rw [show us 12 = .bool true from hd 12 rfl]; rfl
      · refine .inr ⟨?_, by first | rfl | trivial⟩
        rw [show us 12 = .bool true from hd 12 rfl]; rfl
      · refine .inr ⟨?_, by first | rfl | trivial⟩
        rw [show us 12 = .bool true from hd 12 rfl]; rfl
      · refine .inr ⟨?_, by first | rfl | trivial⟩
        rw [show us 12 = .bool true from hd 12 rfl]; rfl
      · refine .inl ⟨?_, ?_⟩
        · rw [show us 8 = .bool true from hd 8 rfl]; rfl
        rw [show us 12 = .bool true from hd 12 rfl, show us 17 = undef from hd 17 rfl]
        have HX := Lib.hid hx; clear hx
        go_simp
        first | exact Below.refl _ _ | exact ⟨rfl, Below.refl _ _⟩ | exact ⟨by and_intros <;> rfl, Below.refl _ _⟩ | exact ⟨by first | rfl | (congr 1; omega) | omega, Below.refl _ _⟩
    rintro us W1 ⟨_, _, _, _, hb5⟩ hF
    have e8 : us 8 = .bool true := hF 8 (by decide)
    have e18 : us 18 = .bool true := hF 18 (by decide)
    simp only [putAll, dstOf, List.getElem?_toArray, List.getElem?_cons_succ, List.getElem?_cons_zero, Option.bind_some, List.drop_succ_cons, List.drop_zero]
    rw [e8, e18]
    clear hF e8 e18
    go_frame
    go_wp2_with fail
    exact bodyPost_ret (v := .bool true) (by simp [results, Tryd.results10, go_sem]) rfl ⟨rfl, hb5⟩
end Go.Proofs.YtpodfmnnabepaaaDoor

namespace Go.Proofs.YtpodfmnnabepaaaDoor
open Go Go.ChangeShapes Go.WideShapes Go.ChangeAt Go.RowKit
open Ot (Dg)
theorem own : ownKnob Tryd.prog.godebug = none := by kernel_rfl
theorem gTurns : Tryd.prog.globalNamed "seedcorn/digest.turns" = some 0 := by kernel_rfl
theorem tTurns : (Tryd.prog.globals[0]?).map (·.type) = some 106 := by kernel_rfl
theorem uTurns : Tryd.prog.underlying 106 = some (.array 4 3) := Tryd.underlying106
/-- The row's condition, as every row of this seat lists it. -/
def laidT : List (String × DataW Unit) := [("seedcorn/digest.turns", Rows.laid_seedcorn_digest_turns)]
set_option maxRecDepth 100000 in
theorem tn_of_laid {W : World} (h : laidMetH Tryd.prog laidT W) : Tn W := by
  rw [MakeChecks.laidMetH_plain _ _ _ (by kernel_rfl)] at h
  obtain ⟨ps, ⟨g0, t0, cs0, f0, p0, q0, hg0, ht0, hv0, hd0, _⟩, _, _⟩ := h
  obtain rfl := Option.some.inj (gTurns.symm.trans hg0)
  obtain rfl := Option.some.inj (tTurns.symm.trans ht0)
  obtain ⟨xs, m1, rfl, hx1, hlen, hn4, hel⟩ := DataW.trod_array uTurns hd0
  have c2 : Tryd.prog.cellsOf 3 = 1 := by kernel_rfl
  have c106 : Tryd.prog.cellsOf 106 = 4 := by kernel_rfl
  rw [c106] at hlen
  obtain ⟨l⟩ := cs0
  match l, hlen with
  | [v0, v1, v2, v3], _ =>
    match xs, hn4, hx1, hel with
    | [x0, x1, x2, x3], _, hx1, hel =>
      have e0 := hel 0 (by decide)
      have e1 := hel 1 (by decide)
      have e2 := hel 2 (by decide)
      have e3 := hel 3 (by decide)
      rw [c2] at e0 e1 e2 e3
      obtain ⟨n0, f0, g0, _⟩ := DataW.trod_int Tryd.underlying3 (show DataW.trod _ Tryd.prog W 0 _ false m1 3 _ = some x0 from e0)
      obtain ⟨n1, f1, g1, _⟩ := DataW.trod_int Tryd.underlying3 (show DataW.trod _ Tryd.prog W 0 _ false m1 3 _ = some x1 from e1)
      obtain ⟨n2, f2, g2, _⟩ := DataW.trod_int Tryd.underlying3 (show DataW.trod _ Tryd.prog W 0 _ false m1 3 _ = some x2 from e2)
      obtain ⟨n3, f3, g3, _⟩ := DataW.trod_int Tryd.underlying3 (show DataW.trod _ Tryd.prog W 0 _ false m1 3 _ = some x3 from e3)
      simp only [Prod.mk.injEq, Rows.laid_seedcorn_digest_turns, DataW.agg.injEq, g0, g1, g2, g3, List.map_cons, List.map_nil, List.cons.injEq, DataW.lit.injEq, Lit.int.injEq, true_and, and_true] at hx1
      obtain ⟨⟨h0, h1, h2, h3⟩, _⟩ := hx1
      simp at f0 f1 f2 f3
      have k := World.var?_cell hg0 hv0
      refine ⟨⟨?_, ?_⟩, ?_, ?_⟩
      · rw [k 0]; simp [f0, ← h0]
      · rw [k 1]; simp [f1, ← h1]
      · rw [k 2]; simp [f2, ← h2]
      · rw [k 3]; simp [f3, ← h3]
def dgData {H : Type} (x : Dg) : DataW H := .agg [.lit (.int .u32 x.a.toNat), .lit (.int .u32 x.b.toNat), .lit (.int .u32 x.c.toNat), .lit (.int .u32 x.d.toNat)]
theorem u32_of_wf {n : Int} (h : (Lit.int .u32 n).wf = true) : ∃ u : UInt32, n = (u.toNat : Int) := by
  have hx : 0 ≤ n ∧ n ≤ 4294967295 := by simpa [Lit.wf, IntKind.min, IntKind.max, IntKind.signed, IntKind.bits] using h
  refine ⟨UInt32.ofNat n.toNat, ?_⟩
  rw [UInt32.toNat_ofNat']
  omega
theorem wf_u32 (u : UInt32) : (Lit.int .u32 (u.toNat : Int)).wf = true := by
  have := u.toNat_lt
  simp [Lit.wf, IntKind.min, IntKind.max, IntKind.signed, IntKind.bits]
  omega
set_option maxRecDepth 100000 in
theorem open_dg {H : Type} {enc : TypeId × Value → H} {W : World} {base : Nat} {v : Value} {d : DataW H} {p : List MemPlace} (hv : Value.okWide Tryd.prog W .any base 24 v)
    (h : DataW.Trod enc Tryd.prog W 0 (fun _ => true) true 24 v d p) : ∃ x : Dg, v = dgv x ∧ d = dgData x ∧ p = [] := by
  simp only [Value.okWide, Tryd.underlying24] at hv
  obtain ⟨cs, rfl, hsz, _⟩ := hv
  obtain ⟨fuel, h⟩ := h
  obtain ⟨xs, m1, rfl, hx1, hlen, hn4, hel⟩ := DataW.trod_array Tryd.underlying24 h
  have c22 : Tryd.prog.cellsOf 22 = 1 := by kernel_rfl
  have c24 : Tryd.prog.cellsOf 24 = 4 := by kernel_rfl
  rw [c24] at hsz
  obtain ⟨l⟩ := cs
  match l, hsz with
  | [v0, v1, v2, v3], _ =>
    match xs, hn4, hx1, hel with
    | [x0, x1, x2, x3], _, hx1, hel =>
      have e0 := hel 0 (by decide)
      have e1 := hel 1 (by decide)
      have e2 := hel 2 (by decide)
      have e3 := hel 3 (by decide)
      rw [c22] at e0 e1 e2 e3
      obtain ⟨n0, f0, g0, w0⟩ := DataW.trod_int Tryd.underlying22 (show DataW.trod _ Tryd.prog W 0 _ true m1 22 _ = some x0 from e0)
      obtain ⟨n1, f1, g1, w1⟩ := DataW.trod_int Tryd.underlying22 (show DataW.trod _ Tryd.prog W 0 _ true m1 22 _ = some x1 from e1)
      obtain ⟨n2, f2, g2, w2⟩ := DataW.trod_int Tryd.underlying22 (show DataW.trod _ Tryd.prog W 0 _ true m1 22 _ = some x2 from e2)
      obtain ⟨n3, f3, g3, w3⟩ := DataW.trod_int Tryd.underlying22 (show DataW.trod _ Tryd.prog W 0 _ true m1 22 _ = some x3 from e3)
      obtain ⟨u0, rfl⟩ := u32_of_wf w0
      obtain ⟨u1, rfl⟩ := u32_of_wf w1
      obtain ⟨u2, rfl⟩ := u32_of_wf w2
      obtain ⟨u3, rfl⟩ := u32_of_wf w3
      simp [Value.cells] at f0 f1 f2 f3
      subst g0 g1 g2 g3 f0 f1 f2 f3
      simp only [Prod.mk.injEq, List.map_cons, List.map_nil, List.flatMap_cons, List.flatMap_nil, List.append_nil] at hx1
      exact ⟨⟨u0, u1, u2, u3⟩, rfl, hx1.1, hx1.2⟩
theorem shut_dg {H : Type} {enc : TypeId × Value → H} {W : World} {base : Nat} {spare : Nat → Bool} {held : Bool} (x : Dg) : DataW.Trod enc Tryd.prog W base spare held 24 (dgv x) (dgData x) [] := by
  refine ⟨2, ?_⟩
  have c22 : Tryd.prog.cellsOf 22 = 1 := by kernel_rfl
  have c24 : Tryd.prog.cellsOf 24 = 4 := by kernel_rfl
  have hi : ∀ u : UInt32, DataW.trod enc Tryd.prog W base spare held 1 22 [.int .u32 u.toNat] = some (.lit (.int .u32 u.toNat), []) := fun u => by
    unfold DataW.trod
    rw [Tryd.underlying22]
    simp [wf_u32 u]
  unfold DataW.trod
  rw [Tryd.underlying24]
  simp only [Value.cells, c24, c22]
  simp [List.range_succ, hi, dgData]
end Go.Proofs.YtpodfmnnabepaaaDoor

namespace Go.Proofs.YtpodfmnnabepaaaDoor
open Go Go.ChangeShapes Go.WideShapes Go.ChangeAt Go.RowKit Go.Deep
open Ot (Dg)
theorem laidOut : laidOutB Tryd.prog = true := by kernel_rfl
set_option maxRecDepth 100000 in
theorem trod_dg {H : Type} {enc : TypeId × Value → H} {W : World} {base n : Nat} {sp : Nat → Bool} {hd : Bool} {cs : List Value} {x : DataW H × List MemPlace} (h : DataW.trod enc Tryd.prog W base sp hd n 24 cs = some x) :
    ∃ d : Dg, cs = [.int .u32 d.a.toNat, .int .u32 d.b.toNat, .int .u32 d.c.toNat, .int .u32 d.d.toNat] := by
  obtain ⟨xs, m1, rfl, hx1, hlen, hn4, hel⟩ := DataW.trod_array Tryd.underlying24 h
  have c22 : Tryd.prog.cellsOf 22 = 1 := by kernel_rfl
  have c24 : Tryd.prog.cellsOf 24 = 4 := by kernel_rfl
  rw [c24] at hlen
  match cs, hlen with
  | [v0, v1, v2, v3], _ =>
    match xs, hn4, hx1, hel with
    | [x0, x1, x2, x3], _, hx1, hel =>
      have e0 := hel 0 (by decide)
      have e1 := hel 1 (by decide)
      have e2 := hel 2 (by decide)
      have e3 := hel 3 (by decide)
      rw [c22] at e0 e1 e2 e3
      obtain ⟨n0, f0, g0, w0⟩ := DataW.trod_int Tryd.underlying22 (show DataW.trod _ Tryd.prog W _ _ _ m1 22 _ = some x0 from e0)
      obtain ⟨n1, f1, g1, w1⟩ := DataW.trod_int Tryd.underlying22 (show DataW.trod _ Tryd.prog W _ _ _ m1 22 _ = some x1 from e1)
      obtain ⟨n2, f2, g2, w2⟩ := DataW.trod_int Tryd.underlying22 (show DataW.trod _ Tryd.prog W _ _ _ m1 22 _ = some x2 from e2)
      obtain ⟨n3, f3, g3, w3⟩ := DataW.trod_int Tryd.underlying22 (show DataW.trod _ Tryd.prog W _ _ _ m1 22 _ = some x3 from e3)
      obtain ⟨u0, rfl⟩ := u32_of_wf w0
      obtain ⟨u1, rfl⟩ := u32_of_wf w1
      obtain ⟨u2, rfl⟩ := u32_of_wf w2
      obtain ⟨u3, rfl⟩ := u32_of_wf w3
      simp at f0 f1 f2 f3
      subst f0 f1 f2 f3
      exact ⟨⟨u0, u1, u2, u3⟩, rfl⟩
theorem sig_of_trod {H : Type} {enc : TypeId × Value → H} {W : World} {n : Nat} {sp : Nat → Bool} {hd : Bool} {t : TypeId} {v : Value} {x : DataW H × List MemPlace} (ht : Tryd.prog.underlying t = some (.slice 24)) (h : DataW.trod enc Tryd.prog W 0 sp hd n t [v] = some x) : ∃ l : List Dg, SigAt W v l := by
  rcases open_slice ht h with ⟨hcs, _⟩ | ⟨a, len, cap, m, n, D, Pl, hcs, _, hl, hm, hmm, _, hx⟩
  · simp at hcs
    subst hcs
    exact ⟨[], SigAt_nil W⟩
  · simp at hcs
    subst hcs
    have c24 : Tryd.prog.cellsOf 24 = 4 := by kernel_rfl
    have hlm : len ≤ m := by rw [hmm]; split <;> omega
    have each : ∀ i, i < len → ∃ d : Dg, ∀ j, j < 4 → W.cell? ((a.add (i * 4)).add j) = [Value.int .u32 d.a.toNat, .int .u32 d.b.toNat, .int .u32 d.c.toNat, .int .u32 d.d.toNat][j]? := fun i hi => by
      obtain ⟨cs', h1, h2⟩ := hx i (by omega)
      rw [c24] at h1
      obtain ⟨_, _, hcell⟩ := World.cells?_some h1
      obtain ⟨d, rfl⟩ := trod_dg h2
      exact ⟨d, hcell⟩
    have each' : ∀ i, ∃ d : Dg, i < len → ∀ j, j < 4 → W.cell? ((a.add (i * 4)).add j) = [Value.int .u32 d.a.toNat, .int .u32 d.b.toNat, .int .u32 d.c.toNat, .int .u32 d.d.toNat][j]? := fun i => by
      by_cases hi : i < len
      · obtain ⟨d, hd⟩ := each i hi; exact ⟨d, fun _ => hd⟩
      · exact ⟨Ot.zeroD, fun h => absurd h hi⟩
    let f : Nat → Dg := fun i => Classical.choose (each' i)
    have hf : ∀ i, i < len → ∀ j, j < 4 → W.cell? ((a.add (i * 4)).add j) = [Value.int .u32 (f i).a.toNat, .int .u32 (f i).b.toNat, .int .u32 (f i).c.toNat, .int .u32 (f i).d.toNat][j]? := fun i => Classical.choose_spec (each' i)
    generalize f = g at hf
    have hlen : ((List.range len).map g).length = len := by simp
    have hmax : cap ≤ 9223372036854775807 := by simpa [maxLen] using hm
    refine ⟨(List.range len).map g, some a, cap, by rw [hlen], by rw [hlen]; omega, fun hp => ?_⟩
    rw [hlen] at hp ⊢
    obtain ⟨b, off, sp⟩ := a
    have h00 := hf 0 hp 0 (by decide)
    have hspot : sp = none := by
      have := World.cell?_spot (h00.trans rfl)
      simpa [Addr.add] using this
    subst hspot
    have hadd : ∀ i j, ((⟨b, off, none⟩ : Addr).add (i * 4)).add j = ⟨b, off + i * 4 + j, none⟩ := fun i j => by
      unfold Addr.add
      split <;> split <;> simp_all
    refine ⟨b, off, rfl, ?_, fun i hi => ?_⟩
    · have := World.block_lt_of_cell? W _ (h00.trans rfl)
      rw [hadd] at this
      exact this
    · have e : ((List.range len).map g).getD i Ot.zeroD = g i := by
        rw [List.getD_eq_getElem?_getD, List.getElem?_map, List.getElem?_range hi]; rfl
      rw [e]
      have k := hf i hi
      simp only [hadd] at k
      exact ⟨k 0 (by decide), k 1 (by decide), k 2 (by decide), k 3 (by decide)⟩
set_option maxRecDepth 100000 in
theorem open_sig {H : Type} {enc : TypeId × Value → H} {W : World} {base : Nat} {v : Value} {d : DataW H} {p : List MemPlace} (hv : Value.okWide Tryd.prog W .any base 33 v)
    (h : DataW.Trod enc Tryd.prog W 0 (fun _ => true) true 33 v d p) : ∃ l : List Dg, SigAt W v l := by
  obtain ⟨a, len, cap, rfl⟩ := okWide_slice Tryd.underlying33 hv
  obtain ⟨fuel, h⟩ := h
  exact sig_of_trod Tryd.underlying33 (by simpa [Value.cells] using h)
end Go.Proofs.YtpodfmnnabepaaaDoor

namespace Go.Proofs.YtpodfmnnabepaaaDoor
open Go Go.ChangeShapes Go.WideShapes Go.ChangeAt Go.RowKit Go.Deep Go.Joins
open Ot (Dg)
theorem shape_of_trod {H : Type} {enc : TypeId × Value → H} {W : World} {n : Nat} {sp : Nat → Bool} {hd : Bool} {t e : TypeId} {v : Value} {x : DataW H × List MemPlace} (ht : Tryd.prog.underlying t = some (.slice e)) (h : DataW.trod enc Tryd.prog W 0 sp hd n t [v] = some x) :
    v = .slice none 0 0 ∨ ∃ a len cap, v = .slice (some a) len cap ∧ len ≤ cap ∧ cap ≤ 9223372036854775807 := by
  rcases open_slice ht h with ⟨hcs, _⟩ | ⟨a, len, cap, m, n, D, Pl, hcs, _, hl, hm, hmm, _, hx⟩
  · simp at hcs; exact .inl hcs
  · simp at hcs
    exact .inr ⟨a, len, cap, hcs, hl, by simpa [maxLen] using hm⟩
theorem digs_of_trod {H : Type} {enc : TypeId × Value → H} {W : World} {n : Nat} {sp : Nat → Bool} {hd : Bool} {t : TypeId} {v : Value} {x : DataW H × List MemPlace} (ht : Tryd.prog.underlying t = some (.slice 24)) (h : DataW.trod enc Tryd.prog W 0 sp hd n t [v] = some x) :
    ∃ l : List Dg, SigAt W v l ∧ PathAt W v l ∧ Capd v := by
  obtain ⟨l, hl⟩ := sig_of_trod ht h
  have hs := shape_of_trod ht h
  refine ⟨l, hl, ?_, ?_⟩
  · obtain ⟨A, c, rfl, h1, h2⟩ := hl
    rcases hs with e | ⟨a, len, cap, e, h3, h4⟩
    · simp only [Value.slice.injEq] at e
      obtain ⟨rfl, e, rfl⟩ := e
      refine ⟨none, 0, rfl, by omega, by omega, fun _ => ⟨List.eq_nil_of_length_eq_zero e, rfl⟩, fun hp => by omega⟩
    · simp only [Value.slice.injEq] at e
      obtain ⟨rfl, e, rfl⟩ := e
      refine ⟨_, _, rfl, by omega, h4, fun e => (by cases e), fun hp => ?_⟩
      obtain ⟨b, off, e, _, hc⟩ := h2 hp
      exact ⟨b, off, e, hc⟩
  · rcases hs with rfl | ⟨a, len, cap, rfl, h3, h4⟩
    · exact ⟨_, _, _, rfl, by simp, by simp⟩
    · exact ⟨_, _, _, rfl, h3, h4⟩
set_option maxRecDepth 100000 in
theorem pol_of_trod {H : Type} {enc : TypeId × Value → H} {W : World} {n : Nat} {sp : Nat → Bool} {hd : Bool} {v u : Value} {x : DataW H × List MemPlace} (h : DataW.trod enc Tryd.prog W 0 sp hd n 47 [v, u] = some x) :
    ∃ (bs : List Dg) (need : Int), u = .int .i64 need ∧ SigAt W v bs ∧ Capd v ∧ -9223372036854775808 ≤ need ∧ need ≤ 9223372036854775807 := by
  obtain ⟨y0, y1, n', _, _, h0, h1⟩ := trod_struct2 Tryd.underlying47 h
  have c32 : Tryd.prog.cellsOf 32 = 1 := by kernel_rfl
  have c3 : Tryd.prog.cellsOf 3 = 1 := by kernel_rfl
  simp only [c32, c3, List.drop_zero, List.drop_succ_cons, List.take_succ_cons, List.take_zero] at h0 h1
  obtain ⟨bs, k1, _, k3⟩ := digs_of_trod Tryd.underlying32 h0
  obtain ⟨need, e, _, hw⟩ := DataW.trod_int Tryd.underlying3 h1
  simp at e
  subst e
  have hr : -9223372036854775808 ≤ need ∧ need ≤ 9223372036854775807 := by simpa [Lit.wf, IntKind.min, IntKind.max, IntKind.signed, IntKind.bits] using hw
  exact ⟨bs, need, rfl, k1, k3, hr.1, hr.2⟩
set_option maxRecDepth 100000 in
theorem sgd_of_trod {H : Type} {enc : TypeId × Value → H} {W : World} {n : Nat} {sp : Nat → Bool} {hd : Bool} {cs : List Value} {x : DataW H × List MemPlace} (h : DataW.trod enc Tryd.prog W 0 sp hd n 59 cs = some x) :
    ∃ (s : Sg) (v u : Value), cs = [.int .u32 s.b.a.toNat, .int .u32 s.b.b.toNat, .int .u32 s.b.c.toNat, .int .u32 s.b.d.toNat, .int .i64 s.i, v, u] ∧ SigAt W v s.one ∧ PathAt W u s.path := by
  obtain ⟨y0, y1, n', _, hl, h0, h1⟩ := trod_struct2 Tryd.underlying59 h
  have c59 : Tryd.prog.cellsOf 59 = 7 := by kernel_rfl
  have c24 : Tryd.prog.cellsOf 24 = 4 := by kernel_rfl
  have c57 : Tryd.prog.cellsOf 57 = 3 := by kernel_rfl
  have c33 : Tryd.prog.cellsOf 33 = 1 := by kernel_rfl
  have c32 : Tryd.prog.cellsOf 32 = 1 := by kernel_rfl
  have c3 : Tryd.prog.cellsOf 3 = 1 := by kernel_rfl
  rw [c59] at hl
  match cs, hl with
  | [v0, v1, v2, v3, v4, v5, v6], _ =>
    simp only [c24, c57, List.drop_zero, List.drop_succ_cons, List.take_succ_cons, List.take_zero] at h0 h1
    obtain ⟨b, e0⟩ := trod_dg h0
    obtain ⟨z0, z1, z2, n2, _, _, g0, g1, g2⟩ := trod_struct3 Tryd.underlying57 h1
    simp only [c33, c32, c3, List.drop_zero, List.drop_succ_cons, List.take_succ_cons, List.take_zero] at g0 g1 g2
    obtain ⟨i, e, _, _⟩ := DataW.trod_int Tryd.underlying3 g0
    obtain ⟨one, k1, _, _⟩ := digs_of_trod Tryd.underlying33 g1
    obtain ⟨path, _, k2, _⟩ := digs_of_trod Tryd.underlying32 g2
    simp at e e0
    obtain ⟨rfl, rfl, rfl, rfl⟩ := e0
    subst e
    exact ⟨⟨b, i, one, path⟩, v5, v6, rfl, k1, k2⟩
theorem sgs_of_trod {H : Type} {enc : TypeId × Value → H} {W : World} {n : Nat} {sp : Nat → Bool} {hd : Bool} {v : Value} {x : DataW H × List MemPlace} (h : DataW.trod enc Tryd.prog W 0 sp hd n 50 [v] = some x) : ∃ L : List Sg, SgsAt W v L ∧ Capd v := by
  rcases open_slice Tryd.underlying50 h with ⟨hcs, _⟩ | ⟨a, len, cap, m, n, D, Pl, hcs, _, hl, hm, hmm, _, hx⟩
  · simp at hcs
    subst hcs
    exact ⟨[], ⟨none, 0, rfl, by simp, fun h => by simp at h⟩, _, _, _, rfl, by simp, by simp⟩
  · simp at hcs
    subst hcs
    have c59 : Tryd.prog.cellsOf 59 = 7 := by kernel_rfl
    have hlm : len ≤ m := by rw [hmm]; split <;> omega
    have hmax : cap ≤ 9223372036854775807 := by simpa [maxLen] using hm
    have each : ∀ i, ∃ s : Sg, i < len → ∃ (v u : Value), SigAt W v s.one ∧ PathAt W u s.path ∧ ∀ j, j < 7 → W.cell? ((a.add (i * 7)).add j) = [Value.int .u32 s.b.a.toNat, .int .u32 s.b.b.toNat, .int .u32 s.b.c.toNat, .int .u32 s.b.d.toNat, .int .i64 s.i, v, u][j]? := fun i => by
      by_cases hi : i < len
      · obtain ⟨cs', h1, h2⟩ := hx i (by omega)
        rw [c59] at h1
        obtain ⟨_, _, hcell⟩ := World.cells?_some h1
        obtain ⟨s, v, u, rfl, k1, k2⟩ := sgd_of_trod h2
        exact ⟨s, fun _ => ⟨v, u, k1, k2, hcell⟩⟩
      · exact ⟨zeroSg, fun h => absurd h hi⟩
    let f : Nat → Sg := fun i => Classical.choose (each i)
    have hf : ∀ i, i < len → ∃ (v u : Value), SigAt W v (f i).one ∧ PathAt W u (f i).path ∧ ∀ j, j < 7 → W.cell? ((a.add (i * 7)).add j) = [Value.int .u32 (f i).b.a.toNat, .int .u32 (f i).b.b.toNat, .int .u32 (f i).b.c.toNat, .int .u32 (f i).b.d.toNat, .int .i64 (f i).i, v, u][j]? := fun i => Classical.choose_spec (each i)
    generalize f = g at hf
    have hlen : ((List.range len).map g).length = len := by simp
    refine ⟨(List.range len).map g, ⟨some a, cap, by rw [hlen], by rw [hlen]; omega, fun hp => ?_⟩, _, _, _, rfl, hl, hmax⟩
    rw [hlen] at hp ⊢
    obtain ⟨b, off, sp⟩ := a
    obtain ⟨v0, u0, _, _, h00⟩ := hf 0 hp
    have hspot : sp = none := by
      have := World.cell?_spot ((h00 0 (by decide)).trans rfl)
      simpa [Addr.add] using this
    subst hspot
    have hadd : ∀ i j, ((⟨b, off, none⟩ : Addr).add (i * 7)).add j = ⟨b, off + i * 7 + j, none⟩ := fun i j => by
      unfold Addr.add
      split <;> split <;> simp_all
    refine ⟨b, off, rfl, fun i hi => ?_⟩
    have e : ((List.range len).map g).getD i zeroSg = g i := by
      rw [List.getD_eq_getElem?_getD, List.getElem?_map, List.getElem?_range hi]; rfl
    rw [e]
    obtain ⟨v, u, k1, k2, k⟩ := hf i hi
    simp only [hadd] at k
    exact ⟨⟨k 0 (by decide), k 1 (by decide), k 2 (by decide), k 3 (by decide)⟩, k 4 (by decide), v, u, k 5 (by decide), k 6 (by decide), k1, k2⟩
set_option maxRecDepth 100000 in
theorem open_pol {H : Type} {enc : TypeId × Value → H} {W : World} {base : Nat} {v : Value} {d : DataW H} {p : List MemPlace} (hv : Value.okWide Tryd.prog W .any base 47 v)
    (h : DataW.Trod enc Tryd.prog W 0 (fun _ => true) true 47 v d p) : ∃ (bs : List Dg) (need : Int) (bv : Value), v = polV bv need ∧ SigAt W bv bs ∧ Capd bv ∧ -9223372036854775808 ≤ need ∧ need ≤ 9223372036854775807 := by
  obtain ⟨cs, rfl, hsz⟩ := okWide_struct Tryd.underlying47 hv
  obtain ⟨fuel, h⟩ := h
  have c47 : Tryd.prog.cellsOf 47 = 2 := by kernel_rfl
  rw [c47] at hsz
  obtain ⟨l⟩ := cs
  match l, hsz with
  | [v0, v1], _ =>
    obtain ⟨bs, need, rfl, h1, h2, h3⟩ := pol_of_trod (u := v1) (by simpa [Value.cells] using h)
    exact ⟨bs, need, v0, rfl, h1, h2, h3⟩
/-- The quorum's Ask as a value. -/
def qaskV (bv : Value) (need : Int) (m : Dg) (lv : Value) : Value := .agg #[bv, .int .i64 need, .int .u32 m.a.toNat, .int .u32 m.b.toNat, .int .u32 m.c.toNat, .int .u32 m.d.toNat, lv]
set_option maxRecDepth 100000 in
theorem open_qask {H : Type} {enc : TypeId × Value → H} {W : World} {base : Nat} {v : Value} {d : DataW H} {p : List MemPlace} (hv : Value.okWide Tryd.prog W .any base 52 v)
    (h : DataW.Trod enc Tryd.prog W 0 (fun _ => true) true 52 v d p) : ∃ (bs : List Dg) (need : Int) (m : Dg) (L : List Sg) (bv lv : Value), v = qaskV bv need m lv ∧ SigAt W bv bs ∧ Capd bv ∧ SgsAt W lv L ∧ Capd lv ∧ -9223372036854775808 ≤ need ∧ need ≤ 9223372036854775807 := by
  obtain ⟨cs, rfl, hsz⟩ := okWide_struct Tryd.underlying52 hv
  obtain ⟨fuel, h⟩ := h
  have c52 : Tryd.prog.cellsOf 52 = 7 := by kernel_rfl
  have c47 : Tryd.prog.cellsOf 47 = 2 := by kernel_rfl
  have c24 : Tryd.prog.cellsOf 24 = 4 := by kernel_rfl
  have c50 : Tryd.prog.cellsOf 50 = 1 := by kernel_rfl
  rw [c52] at hsz
  obtain ⟨y0, y1, y2, n, _, hl, h0, h1, h2⟩ := trod_struct3 Tryd.underlying52 h
  obtain ⟨l⟩ := cs
  match l, hsz with
  | [v0, v1, v2, v3, v4, v5, v6], _ =>
    simp only [c47, c24, c50, Value.cells, List.drop_zero, List.drop_succ_cons, List.take_succ_cons, List.take_zero] at h0 h1 h2
    obtain ⟨bs, need, rfl, k1, k2, k3⟩ := pol_of_trod h0
    obtain ⟨m, e0⟩ := trod_dg h1
    obtain ⟨L, k4, k5⟩ := sgs_of_trod h2
    simp at e0
    obtain ⟨rfl, rfl, rfl, rfl⟩ := e0
    exact ⟨bs, need, m, L, v0, v6, rfl, k1, k2, k4, k5, k3⟩
end Go.Proofs.YtpodfmnnabepaaaDoor
