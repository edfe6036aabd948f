/- Texts of this claim, merged: Q29. Conditions: those written in each. -/
import Derived.Test.YtpodfmnnabepaaaDoorM7
import Derived.Test.YtpodfmnnabepaaaDoorM8
namespace Go.Proofs.YtpodfmnnabepaaaDoor
open Go.RowKit
open Ot (Dg)
set_option maxRecDepth 100000 in
set_option maxHeartbeats 8000000 in
theorem lmeets_any (bs : List Dg) (need : Int) (m : Dg) (L : List Sg) (bv lv : Value) (o : Dg) (M : List Sg) (mv : Value) (w : World) (ht : Tn w) (hbs : SigAt w bv bs) (hcap : Capd bv) (hv : SgsAt w lv L) (_ : Capd lv) (hneed1 : -9223372036854775808 ≤ need) (hneed2 : need ≤ 9223372036854775807) (hmv : SgsAt w mv M) (_ : Capd mv) :
    Calls Tryd.prog 16 #[qaskV bv need m lv, dgv o, mv] w fun e w' => e = .returned (.bool true) ∧ Below w.heap.size w w' := by
  have hA0 := AskB.new (need := need) (m := m) ht hbs hv
  obtain ⟨A, c, rfl, hlen, _⟩ := id hbs
  obtain ⟨B, d, rfl, hlL, _⟩ := id hv
  obtain ⟨E, f, rfl, hlM, _⟩ := id hmv
  have hba : Below w.heap.size w (w.alloc (.cells #[.slice A bs.length c, .int .i64 need, .int .u32 m.a.toNat, .int .u32 m.b.toNat, .int .u32 m.c.toNat, .int .u32 m.d.toNat, .slice B L.length d] 52)) := (Below.refl _ _).alloc (Nat.le_refl _) _
  have hmv1 := hmv.keep hba
  generalize hW1 : w.alloc (.cells #[.slice A bs.length c, .int .i64 need, .int .u32 m.a.toNat, .int .u32 m.b.toNat, .int .u32 m.c.toNat, .int .u32 m.d.toNat, .slice B L.length d] 52) = W1 at *
  have hs1 : W1.heap.size = w.heap.size + 1 := by subst hW1; simp
  have hbb : Below W1.heap.size W1 (W1.alloc (.cells #[.int .u32 o.a.toNat, .int .u32 o.b.toNat, .int .u32 o.c.toNat, .int .u32 o.d.toNat] 24)) := (Below.refl _ _).alloc (Nat.le_refl _) _
  have hb0 := hba.trans (hbb.mono hba.size)
  have hA1 := hA0.keep hbb
  have hmv2 := hmv1.keep hbb
  have ho0 : Arr (W1.alloc (.cells #[.int .u32 o.a.toNat, .int .u32 o.b.toNat, .int .u32 o.c.toNat, .int .u32 o.d.toNat] 24)) (w.heap.size + 1) 4 (fnOf o) := Arr.new' W1 (w.heap.size + 1) 4 (fnOf o) 24 _ hs1.symm rfl
  generalize hW : W1.alloc (.cells #[.int .u32 o.a.toNat, .int .u32 o.b.toNat, .int .u32 o.c.toNat, .int .u32 o.d.toNat] 24) = W at *
  have Hb0 := Lib.hid hb0; have HA0 := Lib.hid hA1; have HM0 := Lib.hid hmv2; have Ho0 := Lib.hid ho0; have Hlen := Lib.hid hlen
  clear hb0 hA0 hlen hlL hlM hbs hv ht hmv hmv1 hba hbb hmv2 ho0
  unfold qaskV
  obtain ⟨c0, c1, c2, c3, c4, c5, c6, _, _, _⟩ := hA1
  have hsm := small_any bs need m L (.slice A bs.length c) (.slice B L.length d) W HA0.out.hbs HA0.out.hL
  unfold qaskV at hsm
  have Hsm := Lib.hid hsm; clear hsm
  go_enter Tryd.func16, Tryd.ntmps16
  go_wp2_with fail
  clear c0 c1 c2 c3 c4 c5 c6 hW hW1 hs1
  refine Hsm.out.mono ?_
  rintro e w1 ⟨r, rfl, hr, hb1⟩
  have HA1 := Lib.hid (HA0.out.keep hb1)
  have Hb1 := Lib.hid (Hb0.out.trans (hb1.mono Hb0.out.size))
  have HM1 := Lib.hid (HM0.out.keep hb1)
  have Ho1 := Lib.hid (Ho0.out.keep hb1 (by decide))
  clear HA0 Hb0 hb1 HM0 Ho0 Hsm
  cases r with
  | false =>
    go_wp2_with fail
    refine (qawake_any _ HA1.out.ht).mono ?_
    rintro e w2 ⟨rfl, hb2⟩
    go_wp2_with fail
    exact bodyPost_ret (v := .bool true) (by simp [results, Tryd.results16, go_sem]) rfl ⟨rfl, Hb1.out.trans (hb2.mono Hb1.out.size)⟩
  | true =>
    obtain ⟨hb8, hL8⟩ := hr rfl
    clear hr
    go_wp2_with fail
    have hsm2 := small_any [] 0 Ot.zeroD M (.slice none 0 0) (.slice E M.length f) w1 (SigAt_nil _) HM1.out
    refine Calls.mono hsm2 ?_
    rintro e w2 ⟨r, rfl, hr, hb2⟩
    have HA2 := Lib.hid (HA1.out.keep hb2)
    have Hb2 := Lib.hid (Hb1.out.trans (hb2.mono Hb1.out.size))
    have HM2 := Lib.hid (HM1.out.keep hb2)
    have Ho2 := Lib.hid (Ho1.out.keep hb2 (by decide))
    clear HA1 Hb1 hb2 HM1 Ho1 hsm2
    cases r with
    | false =>
      go_wp2_with fail
      refine (qawake_any _ HA2.out.ht).mono ?_
      rintro e w3 ⟨rfl, hb3⟩
      go_wp2_with fail
      exact bodyPost_ret (v := .bool true) (by simp [results, Tryd.results16, go_sem]) rfl ⟨rfl, Hb2.out.trans (hb3.mono Hb2.out.size)⟩
    | true =>
      obtain ⟨_, hM8⟩ := hr rfl
      clear hr
      obtain ⟨c0, c1, c2, c3, c4, c5, c6, _, _, _⟩ := HA2.out
      by_cases hneg : need < 0
      · go_wp2_with fail
        refine (qawake_any _ HA2.out.ht).mono ?_
        rintro e w3 ⟨rfl, hb3⟩
        go_wp2_with fail
        exact bodyPost_ret (v := .bool true) (by simp [results, Tryd.results16, go_sem]) rfl ⟨rfl, Hb2.out.trans (hb3.mono Hb2.out.size)⟩
      by_cases hle : 2 * need ≤ (bs.length : Int)
      · go_wp2_with fail
        refine (qawake_any _ HA2.out.ht).mono ?_
        rintro e w3 ⟨rfl, hb3⟩
        go_wp2_with fail
        exact bodyPost_ret (v := .bool true) (by simp [results, Tryd.results16, go_sem]) rfl ⟨rfl, Hb2.out.trans (hb3.mono Hb2.out.size)⟩
      go_wp2_with fail
      clear c0 c1 c2 c3 c4 c5 c6
      refine (qholds_any bs need m L _ _ _ HA2.out.ht HA2.out.hbs HA2.out.hL hcap (by omega)).mono ?_
      rintro e w3 ⟨rfl, hb3⟩
      have HA3 := Lib.hid (HA2.out.keep hb3)
      have Hb3 := Lib.hid (Hb2.out.trans (hb3.mono Hb2.out.size))
      have HM3 := Lib.hid (HM2.out.keep hb3)
      have Ho3 := Lib.hid (Ho2.out.keep hb3 (by decide))
      clear HA2 Hb2 hb3 HM2 Ho2
      have Hle := Lib.hid hle
      clear hle
      generalize hh1 : holdsN bs need m L = h1
      have Hh1 := Lib.hid hh1; clear hh1
      cases h1 with
      | false =>
        go_wp2_with fail
        refine (qawake_any _ HA3.out.ht).mono ?_
        rintro e w4 ⟨rfl, hb4⟩
        go_wp2_with fail
        exact bodyPost_ret (v := .bool true) (by simp [results, Tryd.results16, go_sem]) rfl ⟨rfl, Hb3.out.trans (hb4.mono Hb3.out.size)⟩
      | true =>
      obtain ⟨c0, c1, c2, c3, c4, c5, c6, _, _, _⟩ := HA3.out
      obtain ⟨o0, o1, o2, o3⟩ := Ho3.out.dg
      go_wp2_with fail
      clear c0 c1 c2 c3 c4 c5 c6 o0 o1 o2 o3
      refine (qholds_any bs need o M _ _ _ HA3.out.ht HA3.out.hbs HM3.out hcap (by omega)).mono ?_
      rintro e w4 ⟨rfl, hb4⟩
      have HA4 := Lib.hid (HA3.out.keep hb4)
      have Hb4 := Lib.hid (Hb3.out.trans (hb4.mono Hb3.out.size))
      have HM4 := Lib.hid (HM3.out.keep hb4)
      have Ho4 := Lib.hid (Ho3.out.keep hb4 (by decide))
      clear HA3 Hb3 hb4 HM3 Ho3
      generalize hh2 : holdsN bs need o M = h2
      have Hh2 := Lib.hid hh2; clear hh2
      cases h2 with
      | false =>
        go_wp2_with fail
        refine (qawake_any _ HA4.out.ht).mono ?_
        rintro e w5 ⟨rfl, hb5⟩
        go_wp2_with fail
        exact bodyPost_ret (v := .bool true) (by simp [results, Tryd.results16, go_sem]) rfl ⟨rfl, Hb4.out.trans (hb5.mono Hb4.out.size)⟩
      | true =>
      have hmeet : ∃ i, i ∈ whoN bs m L ∧ i ∈ whoN bs o M := by
        have k1 := Hh1.out
        have k2 := Hh2.out
        simp only [holdsN, Bool.and_eq_true, decide_eq_true_eq] at k1 k2
        have := Hle.out
        exact Qu.places_meet (by unfold whoN at k1 k2; omega)
      have Hmeet := Lib.hid hmeet
      clear hmeet Hh1 Hh2 Hle hneg
      go_upto_region 5 with fail
      refine wp_region_inv (fun wx => AskB wx w.heap.size bs need m L (.slice A bs.length c) (.slice B L.length d) ∧ Arr wx (w.heap.size + 1) 4 (fnOf o) ∧ SgsAt wx (.slice E M.length f) M ∧ Below w.heap.size w wx) (fun j v w' => match j with | 0 => v = .pointer (some ⟨w.heap.size, 0, none⟩) | 1 => v = polV (.slice A bs.length c) need | 2 => v = .pointer (some ⟨w.heap.size, 2, none⟩) | 3 => v = dgv m | 4 => v = .pointer (some ⟨w.heap.size, 6, none⟩) | 5 => v = (.slice B L.length d) | 6 => IntsAt w' v (whoN bs m L) | 7 => v = .pointer (some ⟨w.heap.size, 0, none⟩) | 8 => v = polV (.slice A bs.length c) need | 9 => v = dgv o | 10 => v = (.slice E M.length f) | 11 => IntsAt w' v (whoN bs o M) | _ => True) 12 (by kernel_rfl) (by kernel_rfl) ⟨HA4.out.drewn, Ho4.out.keep (Below.refl _ _).drew (by decide), HM4.out.keep (Below.refl _ _).drew, Hb4.out.drew⟩ (fun _ _ h hb => ⟨h.1.keep hb, h.2.1.keep hb (by decide), h.2.2.1.keep hb, h.2.2.2.trans (hb.mono h.2.2.2.size)⟩) ?_ ?_ ?_
      · rintro (_|_|_|_|_|_|_|_|_|_|_|_|j) v w1 w2 hb h
        all_goals first | exact h | exact IntsAt.keep h hb
      · refine ⟨fun us wx hx hd => ?_, fun us wx hx hd => ?_, fun us wx hx hd => ?_, fun us wx hx hd => ?_, fun us wx hx hd => ?_, fun us wx hx hd => ?_, fun us wx hx hd => ?_, fun us wx hx hd => ?_, fun us wx hx hd => ?_, fun us wx hx hd => ?_, fun us wx hx hd => ?_, fun us wx hx hd => ?_, trivial⟩
        all_goals simp only [putAll, dstOf, List.getElem?_toArray, List.getElem?_cons_succ, List.getElem?_cons_zero, Option.bind_some]
        all_goals go_frame
        · have HX := Lib.hid hx; clear hx
          go_simp
          first | exact Below.refl _ _ | exact ⟨rfl, Below.refl _ _⟩ | exact ⟨by and_intros <;> rfl, Below.refl _ _⟩ | exact ⟨by first | rfl | (congr 1; omega) | omega, Below.refl _ _⟩
        · rw [show us 0 = .pointer (some ⟨w.heap.size, 0, none⟩) from hd 0 rfl]
          have c0 := hx.1.c0
          have c1 := hx.1.c1
          unfold polV
          have HX := Lib.hid hx; clear hx
          go_simp
          first | exact Below.refl _ _ | exact ⟨rfl, Below.refl _ _⟩ | exact ⟨by and_intros <;> rfl, Below.refl _ _⟩ | exact ⟨by first | rfl | (congr 1; omega) | omega, Below.refl _ _⟩
        · have HX := Lib.hid hx; clear hx
          go_simp
          first | exact Below.refl _ _ | exact ⟨rfl, Below.refl _ _⟩ | exact ⟨by and_intros <;> rfl, Below.refl _ _⟩ | exact ⟨by first | rfl | (congr 1; omega) | omega, Below.refl _ _⟩
        · rw [show us 2 = .pointer (some ⟨w.heap.size, 2, none⟩) from hd 2 rfl]
          have c2 := hx.1.c2
          have c3 := hx.1.c3
          have c4 := hx.1.c4
          have c5 := hx.1.c5
          have HX := Lib.hid hx; clear hx
          go_simp
          first | exact Below.refl _ _ | exact ⟨rfl, Below.refl _ _⟩ | exact ⟨by and_intros <;> rfl, Below.refl _ _⟩ | exact ⟨by first | rfl | (congr 1; omega) | omega, Below.refl _ _⟩
        · have HX := Lib.hid hx; clear hx
          go_simp
          first | exact Below.refl _ _ | exact ⟨rfl, Below.refl _ _⟩ | exact ⟨by and_intros <;> rfl, Below.refl _ _⟩ | exact ⟨by first | rfl | (congr 1; omega) | omega, Below.refl _ _⟩
        · rw [show us 4 = .pointer (some ⟨w.heap.size, 6, none⟩) from hd 4 rfl]
          have c6 := hx.1.c6
          have HX := Lib.hid hx; clear hx
          go_simp
          first | exact Below.refl _ _ | exact ⟨rfl, Below.refl _ _⟩ | exact ⟨by and_intros <;> rfl, Below.refl _ _⟩ | exact ⟨by first | rfl | (congr 1; omega) | omega, Below.refl _ _⟩
        · rw [show us 1 = polV (.slice A bs.length c) need from hd 1 rfl, show us 3 = dgv m from hd 3 rfl, show us 5 = (.slice B L.length d) from hd 5 rfl]
          go_simp
          refine (who_any bs need m L _ _ _ hx.1.ht hx.1.hbs hx.1.hL hcap (by omega)).mono ?_
          rintro e w1 ⟨v1, rfl, hb1, hown⟩
          exact ⟨_, rfl, own_intsAt hown, hb1⟩
        · have HX := Lib.hid hx; clear hx
          go_simp
          first | exact Below.refl _ _ | exact ⟨rfl, Below.refl _ _⟩ | exact ⟨by and_intros <;> rfl, Below.refl _ _⟩ | exact ⟨by first | rfl | (congr 1; omega) | omega, Below.refl _ _⟩
        · rw [show us 7 = .pointer (some ⟨w.heap.size, 0, none⟩) from hd 7 rfl]
          have c0 := hx.1.c0
          have c1 := hx.1.c1
          unfold polV
          have HX := Lib.hid hx; clear hx
          go_simp
          first | exact Below.refl _ _ | exact ⟨rfl, Below.refl _ _⟩ | exact ⟨by and_intros <;> rfl, Below.refl _ _⟩ | exact ⟨by first | rfl | (congr 1; omega) | omega, Below.refl _ _⟩
        · obtain ⟨c0, c1, c2, c3⟩ := hx.2.1.dg
          have HX := Lib.hid hx; clear hx
          go_simp
          first | exact Below.refl _ _ | exact ⟨rfl, Below.refl _ _⟩ | exact ⟨by and_intros <;> rfl, Below.refl _ _⟩ | exact ⟨by first | rfl | (congr 1; omega) | omega, Below.refl _ _⟩
        · have HX := Lib.hid hx; clear hx
          go_simp
          first | exact Below.refl _ _ | exact ⟨rfl, Below.refl _ _⟩ | exact ⟨by and_intros <;> rfl, Below.refl _ _⟩ | exact ⟨by first | rfl | (congr 1; omega) | omega, Below.refl _ _⟩
        · rw [show us 8 = polV (.slice A bs.length c) need from hd 8 rfl, show us 9 = dgv o from hd 9 rfl, show us 10 = (.slice E M.length f) from hd 10 rfl]
          go_simp
          refine (who_any bs need o M _ _ _ hx.1.ht hx.1.hbs hx.2.2.1 hcap (by omega)).mono ?_
          rintro e w1 ⟨v1, rfl, hb1, hown⟩
          exact ⟨_, rfl, own_intsAt hown, hb1⟩
      rintro us W5 ⟨hA5, _, _, hb5⟩ hF
      have hi1 : IntsAt W5 (us 6) (whoN bs m L) := hF 6 (by decide)
      have hi2 : IntsAt W5 (us 11) (whoN bs o M) := hF 11 (by decide)
      simp only [putAll, dstOf, List.getElem?_toArray, List.getElem?_cons_succ, List.getElem?_cons_zero, Option.bind_some, List.drop_succ_cons, List.drop_zero]
      clear hF
      generalize us 6 = v1 at *
      generalize us 11 = v2 at *
      generalize whoN bs m L = la at *
      generalize whoN bs o M = lb at *
      obtain ⟨V1, d1, rfl, hl1, hg1⟩ := hi1
      obtain ⟨V2, d2, rfl, hl2, hg2⟩ := hi2
      have Hl1 := Lib.hid hl1; have Hl2 := Lib.hid hl2; have Hg1 := Lib.hid hg1; have Hg2 := Lib.hid hg2; have HA5 := Lib.hid hA5; have Hb5 := Lib.hid hb5
      clear hl1 hl2 hg1 hg2 hA5 hb5 HA4 Hb4 HM4 Ho4
      go_frame
      go_wp2_with fail
      go_loopw [9] (fun i wr => ∃ j : Nat, j ≤ la.length ∧ i = .int .i64 j ∧ (∀ x ∈ la.take j, x ∉ lb) ∧ Below W5.heap.size W5 wr) (fun i _ => la.length - (intOf i).toNat)
      case atStart => exact ⟨0, by omega, rfl, by simp, Below.refl _ _⟩
      case round =>
        obtain ⟨j, hj, rfl, hno, hbj⟩ := hrel
        by_cases hjl : j < la.length
        · have hj1 : (j : Int) < la.length := by omega
          have hj0 : (0 : Int) ≤ (j : Int) := by omega
          have hd : decide ((j : Int) < la.length) = true := decide_eq_true (by omega)
          obtain ⟨g, rfl, hc⟩ := Hg1.out (by omega)
          have hx := cell_keep (hc j hjl) hbj
          have hts := take_succ_n la j hjl
          clear hc
          generalize la.getD j 0 = x at *
          have Hno := Lib.hid hno; have Hts := Lib.hid hts; have Hx := Lib.hid hx; have Hbj := Lib.hid hbj
          clear hno hts hx hbj
          go_wp2_with fail
          go_loopw [10] (fun i wi => ∃ k : Nat, k ≤ lb.length ∧ i = .int .i64 k ∧ x ∉ lb.take k ∧ Below wr.heap.size wr wi) (fun i _ => lb.length - (intOf i).toNat)
          case atStart => exact ⟨0, by omega, rfl, by simp, Below.refl _ _⟩
          case round =>
            obtain ⟨k, hk, rfl, hnk, hbk⟩ := hrel
            by_cases hkl : k < lb.length
            · have hk1 : (k : Int) < lb.length := by omega
              have hk0 : (0 : Int) ≤ (k : Int) := by omega
              have hd2 : decide ((k : Int) < lb.length) = true := decide_eq_true (by omega)
              obtain ⟨g2, rfl, hc⟩ := Hg2.out (by omega)
              have hy := cell_keep (cell_keep (hc k hkl) Hbj.out) hbk
              have hx := cell_keep Hx.out hbk
              have hts := take_succ_n lb k hkl
              clear hc
              generalize lb.getD k 0 = y at *
              have q1 : IntKind.i64.wrap ((k : Int) + 1) = (k : Int) + 1 := IntWalk.i64_in _ (by have := Hl2.out; omega)
              have Hnk := Lib.hid hnk; have Hts2 := Lib.hid hts
              clear hnk hts
              by_cases he : x = y
              · subst he
                have hq : ((x : Int) == (x : Int)) = true := by simp
                have hb6 := Hbj.out.trans (hbk.mono Hbj.out.size)
                have HA6 := Lib.hid (HA5.out.keep hb6); have Hb6 := Lib.hid (Hb5.out.trans (hb6.mono Hb5.out.size))
                clear hb6
                go_wp2_with fail
                go_quiet (fail)
                go_wp2_with fail
                refine (qawake_any _ (HA6.out.keep (pw_drewN (Below.refl _ _) _)).ht).mono ?_
                rintro e w7 ⟨rfl, hb7⟩
                go_wp2_with fail
                exact bodyPost_ret (v := .bool true) (by simp [results, Tryd.results16, go_sem]) rfl ⟨rfl, (pw_drewN Hb6.out _).trans (hb7.mono (pw_drewN Hb6.out _).size)⟩
              · have hq : ((x : Int) == (y : Int)) = false := by simp; omega
                go_wp2_with fail
                go_quiet (fail)
                go_wp2_with fail
                refine ⟨⟨k + 1, by omega, by simp, ?_, pw_drewN hbk _⟩, ?_⟩
                · rw [Hts2.out]
                  have := Hnk.out
                  simp [*]
                · simp [intOf]; omega
            · obtain rfl : k = lb.length := by omega
              have hd2 : decide ((lb.length : Int) < lb.length) = false := by simp
              have q1 : IntKind.i64.wrap ((j : Int) + 1) = (j : Int) + 1 := IntWalk.i64_in _ (by have := Hl1.out; omega)
              rw [List.take_length] at hnk
              have hb6 := Hbj.out.trans (hbk.mono Hbj.out.size)
              have Hnk := Lib.hid hnk
              clear hnk
              go_wp2_with fail
              refine ⟨⟨j + 1, by omega, by simp, ?_, hb6⟩, ?_⟩
              · rw [Hts.out]
                intro z hz
                rcases List.mem_append.1 hz with hz | hz
                · exact Hno.out z hz
                · rw [List.mem_singleton.1 hz]; exact Hnk.out
              · simp [intOf]; omega
        · obtain rfl : j = la.length := by omega
          rw [List.take_length] at hno
          obtain ⟨i, h1, h2⟩ := Hmeet.out
          exact absurd h2 (hno i h1)
end Go.Proofs.YtpodfmnnabepaaaDoor
