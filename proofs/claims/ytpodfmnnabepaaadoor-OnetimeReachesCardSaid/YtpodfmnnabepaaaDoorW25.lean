import Derived.Test.YtpodfmnnabepaaaDoorW24
import Derived.Test.YtpodfmnnabepaaaDoorR4
namespace Go.Proofs.YtpodfmnnabepaaaDoor
open Go.RowKit
open Ot (Dg)
/-- What the two Reaches and the two Checks answer over one message and one row. -/
theorem reach_both (m : Dg) (v : Value) (l : List Dg) : ∃ (r : Dg) (ok : Bool) (c : Dg → Bool), c r = ok ∧
    (∀ w, Tn w → SigAt w v l → Calls Tryd.prog 26 #[dgv m, v] w fun e w' => e = .returned (.tuple #[dgv r, .bool ok]) ∧ Below w.heap.size w w') ∧
    (∀ w, SigAt w v l → Calls Tryd.prog 28 #[dgv m, v] w fun e w' => e = .returned (.tuple #[dgv r, .bool ok]) ∧ Below w.heap.size w w') ∧
    (∀ p w, Tn w → SigAt w v l → Calls Tryd.prog 27 #[dgv p, dgv m, v] w fun e w' => e = .returned (.bool (c p)) ∧ Below w.heap.size w w') ∧
    (∀ p w, SigAt w v l → Calls Tryd.prog 29 #[dgv p, dgv m, v] w fun e w' => e = .returned (.bool (c p)) ∧ Below w.heap.size w w') := by
  by_cases hl : l.length = 35
  · exact ⟨Ot.reachK pair m l, true, fun p => decide (Ot.reachK pair m l = p), decide_eq_true rfl, fun w ht hv => reach_full m v l hl w ht hv, fun w hv => rreach_full m v l hl w hv, fun p w ht hv => check_full p m v l hl w ht hv, fun p w hv => rcheck_full p m v l hl w hv⟩
  · exact ⟨Ot.zeroD, false, fun _ => false, rfl, fun w _ hv => reach_short m v l hl w hv, fun w hv => rreach_short m v l hl w hv, fun p w _ hv => check_short p m v l hl w hv, fun p w hv => rcheck_short p m v l hl w hv⟩
set_option maxRecDepth 100000 in
set_option maxHeartbeats 4000000 in
theorem reaches_any (p m : Dg) (v : Value) (l : List Dg) (w : World) (ht : Tn w) (hv : SigAt w v l) : Calls Tryd.prog 6 #[dgv p, dgv m, v] w fun e w' => e = .returned (.bool true) ∧ Below w.heap.size w w' := by
  obtain ⟨r, ok, c, hcr, h26, h28, h27, h29⟩ := reach_both m v l
  obtain ⟨A, cc, rfl, hl1, _⟩ := id hv
  have H26 := Lib.hid h26; have H28 := Lib.hid h28; clear h26 h28
  by_cases h40 : 40 < l.length
  · have hd : decide ((40 : Int) < (l.length : Int)) = true := by simp; omega
    clear h27 h29 hcr
    go_enter Tryd.func6, Tryd.ntmps6
    go_wp2_with fail
    have hbW : Below w.heap.size w ((w.alloc (.cells #[.int .u32 p.a.toNat, .int .u32 p.b.toNat, .int .u32 p.c.toNat, .int .u32 p.d.toNat] 24)).alloc (.cells #[.int .u32 m.a.toNat, .int .u32 m.b.toNat, .int .u32 m.c.toNat, .int .u32 m.d.toNat] 24)) := ((Below.refl _ _).alloc (Nat.le_refl _) _).alloc (by simp) _
    refine (awake_any _ (ht.below hbW)).mono ?_
    rintro e w1 ⟨rfl, hb⟩
    have hb2 := hbW.trans (hb.mono hbW.size)
    go_wp2
    go_ret
    exact ⟨rfl, hb2⟩
  have hd : decide ((40 : Int) < (l.length : Int)) = false := by simp; omega
  have H27 := Lib.hid h27; have H29 := Lib.hid h29; have Hcr := Lib.hid hcr; clear h27 h29 hcr
  go_enter Tryd.func6, Tryd.ntmps6
  go_wp2_with fail
  generalize hW : (w.alloc (.cells #[.int .u32 p.a.toNat, .int .u32 p.b.toNat, .int .u32 p.c.toNat, .int .u32 p.d.toNat] 24)).alloc (.cells #[.int .u32 m.a.toNat, .int .u32 m.b.toNat, .int .u32 m.c.toNat, .int .u32 m.d.toNat] 24) = W
  have hbW : Below w.heap.size w W := by subst hW; exact ((Below.refl _ _).alloc (Nat.le_refl _) _).alloc (by simp) _
  have hx0 : Arr W w.heap.size 4 (fnOf p) := by subst hW; exact (Arr.new w 4 (fnOf p) 24 _ rfl).alloc (by simp) _
  have hm0 : Arr W (w.heap.size + 1) 4 (fnOf m) := by subst hW; exact Arr.new' _ _ 4 (fnOf m) 24 _ (by simp) rfl
  have hsW : w.heap.size + 2 ≤ W.heap.size := by subst hW; simp
  clear hW
  have hk : St w w.heap.size p (w.heap.size + 1) m (w.heap.size + 2) W := ⟨ht.below hbW, hbW, Two.of hx0 hm0, hsW⟩
  replace hv := hv.below hbW
  clear hx0 hm0 hsW hbW
  refine (H26.out _ hk.1 hv).mono ?_
  rintro e w1 ⟨rfl, hb1⟩
  replace hk := hk.keep hb1
  replace hv := hv.below hb1
  clear hb1
  obtain ⟨m0, m1, m2, m3⟩ := hk.2.2.1.2
  have hlo : w.heap.size + 1 < w1.heap.size := by have := hk.2.2.2; omega
  have hne : w.heap.size + 1 ≠ w1.heap.size := by omega
  go_wp2_with fail
  clear m0 m1 m2 m3
  have hbA : Below w1.heap.size w1 (w1.alloc (.cells #[.int .u32 r.a.toNat, .int .u32 r.b.toNat, .int .u32 r.c.toNat, .int .u32 r.d.toNat] 24)) := (Below.refl _ _).alloc (Nat.le_refl _) _
  have hr1 : One w1.heap.size r (w1.alloc (.cells #[.int .u32 r.a.toNat, .int .u32 r.b.toNat, .int .u32 r.c.toNat, .int .u32 r.d.toNat] 24)) := (Arr.new w1 4 (fnOf r) 24 #[.int .u32 r.a.toNat, .int .u32 r.b.toNat, .int .u32 r.c.toNat, .int .u32 r.d.toNat] rfl).dg
  replace hk := hk.keep hbA
  replace hv := hv.below hbA
  clear hbA
  generalize (w1.alloc (.cells #[.int .u32 r.a.toNat, .int .u32 r.b.toNat, .int .u32 r.c.toNat, .int .u32 r.d.toNat] 24)) = W2 at *
  generalize w1.heap.size = Y1 at *
  refine (H28.out _ hv).mono ?_
  rintro e w3 ⟨rfl, hb3⟩
  replace hk := hk.keep hb3
  replace hv := hv.below hb3
  replace hr1 := hr1.keep hb3
  clear hb3
  go_upto_region 5 with fail
  have hbA : Below w3.heap.size w3 (w3.alloc (.cells #[.int .u32 r.a.toNat, .int .u32 r.b.toNat, .int .u32 r.c.toNat, .int .u32 r.d.toNat] 24)) := (Below.refl _ _).alloc (Nat.le_refl _) _
  have hr2 : One w3.heap.size r (w3.alloc (.cells #[.int .u32 r.a.toNat, .int .u32 r.b.toNat, .int .u32 r.c.toNat, .int .u32 r.d.toNat] 24)) := (Arr.new w3 4 (fnOf r) 24 #[.int .u32 r.a.toNat, .int .u32 r.b.toNat, .int .u32 r.c.toNat, .int .u32 r.d.toNat] rfl).dg
  replace hk := hk.keep hbA
  replace hv := hv.below hbA
  replace hr1 := hr1.keep hbA
  clear hbA
  generalize (w3.alloc (.cells #[.int .u32 r.a.toNat, .int .u32 r.b.toNat, .int .u32 r.c.toNat, .int .u32 r.d.toNat] 24)) = W4 at *
  generalize w3.heap.size = Y2 at *
  have h27 := H27.out; have h29 := H29.out; have hcr := Hcr.out
  clear hd
  refine wp_region_invG (fun wx => Tn wx ∧ Below w.heap.size w wx ∧ Two w.heap.size p (w.heap.size + 1) m wx ∧ One Y1 r wx ∧ One Y2 r wx ∧ SigAt wx (.slice A l.length cc) l) (fun j v w' => match j with | 0 => v = .bool true | 1 => v = .bool true | 2 => v = dgv r | 3 => v = dgv r | 4 => v = .bool true | 5 => v = .bool true | 6 => v = .bool true | 7 => v = .bool ok | 8 => v = .bool ok | 9 => v = .bool true | 10 => v = .bool true | 11 => v = .bool true | 12 => v = dgv p | 13 => v = dgv m | 14 => v = (.slice A l.length cc) | 15 => v = .bool (c p) | 16 => v = dgv p | 17 => v = dgv m | 18 => v = (.slice A l.length cc) | 19 => v = .bool (c p) | 20 => v = .bool true | 21 => v = .bool true | 22 => v = .bool true | 23 => v = dgv r | 24 => v = dgv m | 25 => v = (.slice A l.length cc) | 26 => v = .bool ok | 27 => v = .bool ok | 28 => v = .bool true | _ => True) 29 (by kernel_rfl) (by kernel_rfl) ⟨hk.1.drew, hk.2.1.drew, hk.2.2.1, hr1, hr2, hv⟩ (fun _ _ h hb => ⟨h.1.below hb, h.2.1.trans (hb.mono h.2.1.size), h.2.2.1.keep hb, h.2.2.2.1.keep hb, h.2.2.2.2.1.keep hb, h.2.2.2.2.2.below hb⟩) ?_ ?_ ?_
  · rintro (_|_|_|_|_|_|_|_|_|_|_|_|_|_|_|_|_|_|_|_|_|_|_|_|_|_|_|_|_|j) v w1 w2 hb h
    all_goals exact h
  · refine ⟨fun us wx hx hd => ?_, fun us wx hx hd => ?_, fun us wx hx hd => ?_, fun us wx hx hd => ?_, fun us wx hx hd => ?_, fun us wx hx hd => ?_, fun us wx hx hd => ?_, fun us wx hx hd => ?_, fun us wx hx hd => ?_, fun us wx hx hd => ?_, fun us wx hx hd => ?_, fun us wx hx hd => ?_, fun us wx hx hd => ?_, fun us wx hx hd => ?_, fun us wx hx hd => ?_, fun us wx hx hd => ?_, fun us wx hx hd => ?_, fun us wx hx hd => ?_, fun us wx hx hd => ?_, fun us wx hx hd => ?_, fun us wx hx hd => ?_, fun us wx hx hd => ?_, fun us wx hx hd => ?_, fun us wx hx hd => ?_, fun us wx hx hd => ?_, fun us wx hx hd => ?_, fun us wx hx hd => ?_, fun us wx hx hd => ?_, fun us wx hx hd => ?_, trivial⟩
    all_goals simp only [putAll, dstOf, List.getElem?_toArray, List.getElem?_cons_succ, List.getElem?_cons_zero, Option.bind_some]
    all_goals go_frame
    all_goals refine .inl ⟨?_, ?_⟩
    · rfl
    · go_simp
      refine (awake_any _ hx.1).mono ?_
      rintro e w1 ⟨rfl, hb⟩
      exact ⟨_, rfl, rfl, hb⟩
    · rfl
    · rw [show us 0 = .bool true from hd 0 rfl]; go_simp; first | exact Below.refl _ _ | exact ⟨rfl, Below.refl _ _⟩
    · rw [show us 1 = .bool true from hd 1 rfl]; rfl
    · obtain ⟨c0, c1, c2, c3⟩ := hx.2.2.2.1
      have H := Lib.hid hx; clear hx
      go_simp
      first | exact Below.refl _ _ | exact ⟨by and_intros <;> rfl, Below.refl _ _⟩
    · rw [show us 1 = .bool true from hd 1 rfl]; rfl
    · obtain ⟨c0, c1, c2, c3⟩ := hx.2.2.2.2.1
      have H := Lib.hid hx; clear hx
      go_simp
      first | exact Below.refl _ _ | exact ⟨by and_intros <;> rfl, Below.refl _ _⟩
    · rw [show us 1 = .bool true from hd 1 rfl]; rfl
    · rw [show us 2 = dgv r from hd 2 rfl, show us 3 = dgv r from hd 3 rfl]; have hq := dg_eql r r; rw [decide_eq_true rfl] at hq; go_simp; first | exact Below.refl _ _ | exact ⟨rfl, Below.refl _ _⟩
    · rfl
    · rw [show us 1 = .bool true from hd 1 rfl, show us 4 = .bool true from hd 4 rfl]; go_simp; first | exact Below.refl _ _ | exact ⟨rfl, Below.refl _ _⟩
    · rfl
    · rw [show us 5 = .bool true from hd 5 rfl]; go_simp; first | exact Below.refl _ _ | exact ⟨rfl, Below.refl _ _⟩
    · rw [show us 6 = .bool true from hd 6 rfl]; rfl
    · go_simp; first | exact Below.refl _ _ | exact ⟨rfl, Below.refl _ _⟩
    · rw [show us 6 = .bool true from hd 6 rfl]; rfl
    · go_simp; first | exact Below.refl _ _ | exact ⟨rfl, Below.refl _ _⟩
    · rw [show us 6 = .bool true from hd 6 rfl]; rfl
    · rw [show us 7 = .bool ok from hd 7 rfl, show us 8 = .bool ok from hd 8 rfl]; go_simp; first | exact Below.refl _ _ | exact ⟨rfl, Below.refl _ _⟩
    · rfl
    · rw [show us 6 = .bool true from hd 6 rfl, show us 9 = .bool true from hd 9 rfl]; go_simp; first | exact Below.refl _ _ | exact ⟨rfl, Below.refl _ _⟩
    · rfl
    · rw [show us 10 = .bool true from hd 10 rfl]; go_simp; first | exact Below.refl _ _ | exact ⟨rfl, Below.refl _ _⟩
    · rw [show us 11 = .bool true from hd 11 rfl]; rfl
    · obtain ⟨c0, c1, c2, c3⟩ := hx.2.2.1.1
      have H := Lib.hid hx; clear hx
      go_simp
      first | exact Below.refl _ _ | exact ⟨by and_intros <;> rfl, Below.refl _ _⟩
    · rw [show us 11 = .bool true from hd 11 rfl]; rfl
    · obtain ⟨c0, c1, c2, c3⟩ := hx.2.2.1.2
      have H := Lib.hid hx; clear hx
      go_simp
      first | exact Below.refl _ _ | exact ⟨by and_intros <;> rfl, Below.refl _ _⟩
    · rw [show us 11 = .bool true from hd 11 rfl]; rfl
    · go_simp; first | exact Below.refl _ _ | exact ⟨rfl, Below.refl _ _⟩
    · rw [show us 11 = .bool true from hd 11 rfl]; rfl
    · rw [show us 12 = dgv p from hd 12 rfl, show us 13 = dgv m from hd 13 rfl, show us 14 = (.slice A l.length cc) from hd 14 rfl]
      go_simp
      refine (h27 p _ hx.1 hx.2.2.2.2.2).mono ?_
      rintro e w1 ⟨rfl, hb⟩
      exact ⟨_, rfl, rfl, hb⟩
    · rw [show us 11 = .bool true from hd 11 rfl]; rfl
    · obtain ⟨c0, c1, c2, c3⟩ := hx.2.2.1.1
      have H := Lib.hid hx; clear hx
      go_simp
      first | exact Below.refl _ _ | exact ⟨by and_intros <;> rfl, Below.refl _ _⟩
    · rw [show us 11 = .bool true from hd 11 rfl]; rfl
    · obtain ⟨c0, c1, c2, c3⟩ := hx.2.2.1.2
      have H := Lib.hid hx; clear hx
      go_simp
      first | exact Below.refl _ _ | exact ⟨by and_intros <;> rfl, Below.refl _ _⟩
    · rw [show us 11 = .bool true from hd 11 rfl]; rfl
    · go_simp; first | exact Below.refl _ _ | exact ⟨rfl, Below.refl _ _⟩
    · rw [show us 11 = .bool true from hd 11 rfl]; rfl
    · rw [show us 16 = dgv p from hd 16 rfl, show us 17 = dgv m from hd 17 rfl, show us 18 = (.slice A l.length cc) from hd 18 rfl]
      go_simp
      refine (h29 p _ hx.2.2.2.2.2).mono ?_
      rintro e w1 ⟨rfl, hb⟩
      exact ⟨_, rfl, rfl, hb⟩
    · rw [show us 11 = .bool true from hd 11 rfl]; rfl
    · rw [show us 15 = .bool (c p) from hd 15 rfl, show us 19 = .bool (c p) from hd 19 rfl]; go_simp; first | exact Below.refl _ _ | exact ⟨rfl, Below.refl _ _⟩
    · rfl
    · rw [show us 11 = .bool true from hd 11 rfl, show us 20 = .bool true from hd 20 rfl]; go_simp; first | exact Below.refl _ _ | exact ⟨rfl, Below.refl _ _⟩
    · rfl
    · rw [show us 21 = .bool true from hd 21 rfl]; go_simp; first | exact Below.refl _ _ | exact ⟨rfl, Below.refl _ _⟩
    · rw [show us 22 = .bool true from hd 22 rfl]; rfl
    · obtain ⟨c0, c1, c2, c3⟩ := hx.2.2.2.1
      have H := Lib.hid hx; clear hx
      go_simp
      first | exact Below.refl _ _ | exact ⟨by and_intros <;> rfl, Below.refl _ _⟩
    · rw [show us 22 = .bool true from hd 22 rfl]; rfl
    · obtain ⟨c0, c1, c2, c3⟩ := hx.2.2.1.2
      have H := Lib.hid hx; clear hx
      go_simp
      first | exact Below.refl _ _ | exact ⟨by and_intros <;> rfl, Below.refl _ _⟩
    · rw [show us 22 = .bool true from hd 22 rfl]; rfl
    · go_simp; first | exact Below.refl _ _ | exact ⟨rfl, Below.refl _ _⟩
    · rw [show us 22 = .bool true from hd 22 rfl]; rfl
    · rw [show us 23 = dgv r from hd 23 rfl, show us 24 = dgv m from hd 24 rfl, show us 25 = (.slice A l.length cc) from hd 25 rfl]
      go_simp
      refine (h27 r _ hx.1 hx.2.2.2.2.2).mono ?_
      rw [hcr]
      rintro e w1 ⟨rfl, hb⟩
      exact ⟨_, rfl, rfl, hb⟩
    · rw [show us 22 = .bool true from hd 22 rfl]; rfl
    · go_simp; first | exact Below.refl _ _ | exact ⟨rfl, Below.refl _ _⟩
    · rw [show us 22 = .bool true from hd 22 rfl]; rfl
    · rw [show us 26 = .bool ok from hd 26 rfl, show us 27 = .bool ok from hd 27 rfl]; go_simp; first | exact Below.refl _ _ | exact ⟨rfl, Below.refl _ _⟩
  rintro us W1 hx hF
  have h22 : us 22 = .bool true := hF 22 (by decide)
  have h28 : us 28 = .bool true := hF 28 (by decide)
  clear hF
  simp only [putAll, dstOf, List.getElem?_toArray, List.getElem?_cons_succ, List.getElem?_cons_zero, Option.bind_some, List.drop_succ_cons, List.drop_zero]
  rw [h22, h28]
  go_frame
  go_wp2
  go_ret
  exact ⟨rfl, hx.2.1⟩
end Go.Proofs.YtpodfmnnabepaaaDoor
