import Derived.Test.YtpodfmnnabepaaaDoorW13
namespace Go.Proofs.YtpodfmnnabepaaaDoor
open Go.RowKit
open Ot (Dg)
/-- A slice of 35 numbers, read. -/
def NumAt (w : World) (v : Value) (l : List Nat) : Prop := ∃ g cap, v = .slice (some ⟨g, 0, none⟩) 35 cap ∧ g < w.heap.size ∧ ∀ j, j < 35 → w.cell? ⟨g, j, none⟩ = some (.int .i64 (l.getD j 0 : Nat))
theorem NumAt.below {w w' : World} {v : Value} {l : List Nat} (h : NumAt w v l) (hb : Below w.heap.size w w') : NumAt w' v l := by
  obtain ⟨g, cap, rfl, hg, hc⟩ := h
  exact ⟨g, cap, rfl, Nat.lt_of_lt_of_le hg hb.size, fun j hj => (hb.cell (p := ⟨g, j, none⟩) hg).trans (hc j hj)⟩
theorem own_num {w : World} {base : Nat} {m : Dg} {v : Value} (h : w.ownsRow base 3 1 v (Ot.steps m).length (ivs (Ot.steps m))) : NumAt w v (Ot.steps m) := by
  obtain ⟨g, cap, rfl, _, _, _, hgl, _, hgc⟩ := own_ints h (by rw [Ot.steps_length]; decide)
  rw [Ot.steps_length] at hgc
  exact ⟨g, cap, by rw [Ot.steps_length], hgl, hgc⟩
/-- Whether one of the first k numbers of the one is less than the other's. -/
def lessU (a b : List Nat) : Nat → Bool
  | 0 => false
  | k + 1 => lessU a b k || decide (a.getD k 0 < b.getD k 0)
theorem lessU_true {a b : List Nat} : ∀ {n : Nat} (i : Nat), i < n → a.getD i 0 < b.getD i 0 → lessU a b n = true
  | 0, _, h, _ => absurd h (by omega)
  | n + 1, i, h, hi => by
    by_cases hin : i = n
    · subst hin; simp only [lessU, Bool.or_eq_true, decide_eq_true_eq]; exact .inr hi
    · simp only [lessU, Bool.or_eq_true]; exact .inl (lessU_true i (by omega) hi)
theorem lessU_self (a : List Nat) : ∀ n : Nat, lessU a a n = false
  | 0 => rfl
  | n + 1 => by simp [lessU, lessU_self a n]
theorem lessU_steps (m o : Dg) : lessU (Ot.steps m) (Ot.steps o) 35 = !decide (m = o) := by
  by_cases h : m = o
  · subst h; rw [lessU_self]; simp
  · obtain ⟨i, hi, hl⟩ := Ot.unlike h
    rw [lessU_true i hi hl]; simp [h]
set_option maxRecDepth 100000 in
set_option maxHeartbeats 2000000 in
theorem unlike_any (m o : Dg) (w : World) (ht : Tn w) : Calls Tryd.prog 7 #[dgv m, dgv o] w fun e w' => e = .returned (.bool true) ∧ Below w.heap.size w w' := by
  go_enter Tryd.func7, Tryd.ntmps7
  go_wp2_with fail
  generalize hW : (w.alloc (.cells #[.int .u32 m.a.toNat, .int .u32 m.b.toNat, .int .u32 m.c.toNat, .int .u32 m.d.toNat] 24)).alloc (.cells #[.int .u32 o.a.toNat, .int .u32 o.b.toNat, .int .u32 o.c.toNat, .int .u32 o.d.toNat] 24) = W
  have hbW : Below w.heap.size w W := by subst hW; exact ((Below.refl _ _).alloc (Nat.le_refl _) _).alloc (by simp) _
  have hx0 : Arr W w.heap.size 4 (fnOf m) := by subst hW; exact (Arr.new w 4 (fnOf m) 24 _ rfl).alloc (by simp) _
  have hm0 : Arr W (w.heap.size + 1) 4 (fnOf o) := by subst hW; exact Arr.new' _ _ 4 (fnOf o) 24 _ (by simp) rfl
  have hsW : w.heap.size + 2 ≤ W.heap.size := by subst hW; simp
  clear hW
  have hk : St w w.heap.size m (w.heap.size + 1) o (w.heap.size + 2) W.drew := ⟨ht.below hbW.drew, hbW.drew, Two.of hx0.drew hm0.drew, hsW⟩
  have hls := lessU_steps m o
  have hms := lessU_steps o m
  have ham := Ot.steps_at_le m
  have hao := Ot.steps_at_le o
  generalize hA : Ot.steps m = A at *
  generalize hO : Ot.steps o = O at *
  have HA := Lib.hid hA; clear hA
  have HO := Lib.hid hO; clear hO
  go_upto_region 1 with fail
  refine wp_region_inv (St w w.heap.size m (w.heap.size + 1) o (w.heap.size + 2)) (fun j v w' => match j with | 0 => v = dgv m | 1 => NumAt w' v A | 2 => v = dgv o | 3 => NumAt w' v O | _ => True) 4 (by kernel_rfl) (by kernel_rfl) hk (fun _ _ h hb => h.keep hb) ?_ ?_ ?_
  · rintro (_|_|_|_|j) v w1 w2 hb h
    all_goals first | exact h | exact NumAt.below h hb
  · refine ⟨fun us wx hx hd => ?_, fun us wx hx hd => ?_, fun us wx hx hd => ?_, fun us wx hx hd => ?_, trivial⟩
    all_goals simp only [putAll, dstOf, List.getElem?_toArray, List.getElem?_cons_succ, List.getElem?_cons_zero, Option.bind_some]
    all_goals go_frame
    · obtain ⟨c0, c1, c2, c3⟩ := hx.2.2.1.1; have H := Lib.hid hx; clear hx; go_simp; first | exact Below.refl _ _ | exact ⟨by and_intros <;> rfl, Below.refl _ _⟩
    · rw [show us 0 = dgv m from hd 0 rfl]
      go_simp
      refine (steps_any m _).mono ?_
      rintro e w1 ⟨vs, rfl, hb, hown⟩
      refine ⟨_, rfl, ?_, hb⟩
      rw [← HA.out]; exact own_num hown
    · obtain ⟨c0, c1, c2, c3⟩ := hx.2.2.1.2; have H := Lib.hid hx; clear hx; go_simp; first | exact Below.refl _ _ | exact ⟨by and_intros <;> rfl, Below.refl _ _⟩
    · rw [show us 2 = dgv o from hd 2 rfl]
      go_simp
      refine (steps_any o _).mono ?_
      rintro e w1 ⟨vs, rfl, hb, hown⟩
      refine ⟨_, rfl, ?_, hb⟩
      rw [← HO.out]; exact own_num hown
  rintro us W1 hx hF
  have hn1 : NumAt W1 (us 1) A := hF 1 (by decide)
  have hn3 : NumAt W1 (us 3) O := hF 3 (by decide)
  clear hF
  simp only [putAll, dstOf, List.getElem?_toArray, List.getElem?_cons_succ, List.getElem?_cons_zero, Option.bind_some, List.drop_succ_cons, List.drop_zero]
  generalize us 0 = u0
  generalize us 2 = u2
  generalize us 1 = s1 at *
  generalize us 3 = s3 at *
  clear us
  obtain ⟨g, cap, rfl, hgl, hg⟩ := hn1
  obtain ⟨g', cap', rfl, hgl', hg'⟩ := hn3
  have Hg := Lib.hid hg; clear hg
  have Hg' := Lib.hid hg'; clear hg'
  have Ham := Lib.hid ham; clear ham
  have Hao := Lib.hid hao; clear hao
  have Hls := Lib.hid hls; clear hls
  have Hms := Lib.hid hms; clear hms
  clear hk hx0 hm0
  go_frame
  obtain ⟨wo, rfl⟩ : ∃ wo : World, wo = W1 := ⟨_, rfl⟩
  go_wp2_with fail
  go_loopw [7, 8, 9] (fun l r i wr => ∃ k : Nat, k ≤ 35 ∧ l = .bool (lessU A O k) ∧ r = .bool (lessU O A k) ∧ i = .int .i64 k ∧ Below wo.heap.size wo wr) (fun _ _ i wr => 35 - (intOf i).toNat)
  case atStart => exact ⟨0, by omega, rfl, rfl, rfl, Below.refl _ _⟩
  case round =>
    obtain ⟨k, hk, rfl, rfl, rfl, hb⟩ := hrel
    by_cases hlt : k < 35
    · have ca := (hb.cell (p := ⟨g, k, none⟩) hgl).trans (Hg.out k hlt)
      have cb := (hb.cell (p := ⟨g', k, none⟩) hgl').trans (Hg'.out k hlt)
      have ha15 := Ham.out k
      have hb15 := Hao.out k
      have e1 : lessU A O (k + 1) = (lessU A O k || decide (A.getD k 0 < O.getD k 0)) := rfl
      have e2 : lessU O A (k + 1) = (lessU O A k || decide (O.getD k 0 < A.getD k 0)) := rfl
      generalize A.getD k 0 = a at *
      generalize O.getD k 0 = bb at *
      generalize lessU A O k = lk at *
      generalize lessU O A k = rk at *
      have E1 := Lib.hid e1; clear e1
      have E2 := Lib.hid e2; clear e2
      have hk1 : (k : Int) < 35 := by omega
      have hk0 : (0 : Int) ≤ (k : Int) := by omega
      have hd : decide ((k : Int) < 35) = true := by simp; omega
      have t0 : decide ((a : Int) < 0) = false := by simp
      have t1 : decide ((15 : Int) < (a : Int)) = false := by simp; omega
      cases lk <;> cases rk
      all_goals
        go_wp2_with fail
        go_quiet (fail)
        go_wp2_with fail
        go_quiet (fail)
        go_wp2
        go_roundw
        case rel => exact ⟨k + 1, by omega, by rw [E1.out]; simp, by rw [E2.out]; simp, by go_num, pw_drewN hb _⟩
        case measure => simp [intOf]; omega
    · obtain rfl : k = 35 := by omega
      have hkr := hx.keep hb
      obtain ⟨x0, x1, x2, x3⟩ := hkr.2.2.1.1
      obtain ⟨m0, m1, m2, m3⟩ := hkr.2.2.1.2
      have hq := dg_neq m o
      have hms2 : lessU O A 35 = !decide (m = o) := by rw [Hms.out]; congr 1; exact decide_eq_decide.2 eq_comm
      rw [Hls.out, hms2]
      clear hms2
      generalize (!decide (m = o)) = q at *
      have hbb : Below w.heap.size w wr := hkr.2.1
      go_wp2_with fail
      refine (awake_any _ hkr.1).mono ?_
      rintro e W5 ⟨rfl, hb5⟩
      replace hkr := hkr.keep hb5
      clear x0 x1 x2 x3 m0 m1 m2 m3
      obtain ⟨x0, x1, x2, x3⟩ := hkr.2.2.1.1
      obtain ⟨m0, m1, m2, m3⟩ := hkr.2.2.1.2
      cases q
      all_goals
        go_wp2_with fail
        exact bodyPost_ret (v := .bool true) (by simp [results, Tryd.results7, go_sem]) rfl ⟨rfl, hkr.2.1⟩
end Go.Proofs.YtpodfmnnabepaaaDoor
