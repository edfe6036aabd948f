/- Walk: the document's Ahead. Conditions: those written in each. -/
import Derived.Test.YtpodfmnnabepaaaDoorW22
namespace Go.Proofs.YtpodfmnnabepaaaDoor
open Go.RowKit
open Ot (Dg)
theorem rahead_short (m o : Dg) (v u : Value) (s t : List Dg) (hl : ¬ (s.length = 35 ∧ t.length = 35)) (w : World) (hv : SigAt w v s) (hu : SigAt w u t) :
    Calls Tryd.prog 32 #[dgv m, v, dgv o, u] w fun e w' => e = .returned (.tuple #[.int .i64 0, dgv Ot.zeroD, .bool false]) ∧ Below w.heap.size w w' := by
  obtain ⟨A, c, rfl, hl1, _⟩ := hv
  obtain ⟨A', c', rfl, hl2, _⟩ := hu
  by_cases h1 : s.length = 35
  · have h2 : t.length ≠ 35 := fun h => hl ⟨h1, h⟩
    have q1 : ((s.length : Int) != 35) = false := by rw [bne_eq_false_iff_eq]; omega
    have q2 : ((t.length : Int) != 35) = true := by rw [bne_iff_ne]; omega
    clear hl h1 h2
    generalize s.length = n at *
    generalize t.length = n' at *
    go_enter Tryd.func32, Tryd.ntmps32
    go_wp2
    exact bodyPost_ret (v := .tuple #[.int .i64 0, dgv Ot.zeroD, .bool false]) (by simp [results, Tryd.results32, go_sem]; and_intros <;> rfl) rfl ⟨rfl, (((Below.refl _ _).alloc (Nat.le_refl _) _).alloc (by simp) _).alloc (by simp; omega) _⟩
  · have q1 : ((s.length : Int) != 35) = true := by rw [bne_iff_ne]; omega
    clear hl h1
    generalize s.length = n at *
    generalize t.length = n' at *
    go_enter Tryd.func32, Tryd.ntmps32
    go_wp2
    exact bodyPost_ret (v := .tuple #[.int .i64 0, dgv Ot.zeroD, .bool false]) (by simp [results, Tryd.results32, go_sem]; and_intros <;> rfl) rfl ⟨rfl, (((Below.refl _ _).alloc (Nat.le_refl _) _).alloc (by simp) _).alloc (by simp; omega) _⟩
set_option maxRecDepth 100000 in
set_option maxHeartbeats 1000000 in
theorem rahead_full (m o : Dg) (v u : Value) (s t : List Dg) (hl : s.length = 35) (hl' : t.length = 35) (w : World) (ht : Tn w) (hv : SigAt w v s) (hu : SigAt w u t) :
    Calls Tryd.prog 32 #[dgv m, v, dgv o, u] w fun e w' => (∃ i d b, e = .returned (.tuple #[.int .i64 (i : Nat), dgv d, .bool b]) ∧ (i, d, b) = aheadR m s o t) ∧ Below w.heap.size w w' := by
  obtain ⟨A, c, rfl, _, hcs⟩ := hv
  obtain ⟨b, off, rfl, hbl, hcs⟩ := hcs (by omega)
  obtain ⟨A', c', rfl, _, hct⟩ := hu
  obtain ⟨b', off', rfl, hbl', hct⟩ := hct (by omega)
  have hR : aheadR m s o t = (match Ot.ahead pair m s o t with | some i => (i, t.getD i Ot.zeroD, true) | none => (0, Ot.zeroD, false)) := by unfold aheadR; rw [if_pos ⟨hl, hl'⟩]; rfl
  generalize aheadR m s o t = R at *
  have HR := Lib.hid hR; clear hR
  rw [hl, hl'] at *
  clear hl hl'
  have Hcs := Lib.hid hcs; clear hcs
  have Hct := Lib.hid hct; clear hct
  go_enter Tryd.func32, Tryd.ntmps32
  go_wp2_with fail
  generalize hW : (((w.alloc (.cells #[.int .u32 m.a.toNat, .int .u32 m.b.toNat, .int .u32 m.c.toNat, .int .u32 m.d.toNat] 24)).alloc (.cells #[.int .u32 o.a.toNat, .int .u32 o.b.toNat, .int .u32 o.c.toNat, .int .u32 o.d.toNat] 24)).alloc (.cells #[.int .u32 0, .int .u32 0, .int .u32 0, .int .u32 0] 24)) = W
  have hb0 : Below w.heap.size w W := by subst hW; exact (((Below.refl _ _).alloc (Nat.le_refl _) _).alloc (by simp) _).alloc (by simp; omega) _
  have hm0 : Arr W w.heap.size 4 (fnOf m) := by subst hW; exact ((Arr.new w 4 (fnOf m) 24 _ rfl).alloc (by simp) _).alloc (by simp; omega) _
  have ho0 : Arr W (w.heap.size + 1) 4 (fnOf o) := by subst hW; exact (Arr.new' _ _ 4 (fnOf o) 24 _ (by simp) rfl).alloc (by simp) _
  have hz0 : Arr W (w.heap.size + 1 + 1) 4 (fnOf Ot.zeroD) := by subst hW; exact Arr.new' _ _ 4 (fnOf Ot.zeroD) 24 _ (by simp) rfl
  have hs0 : w.heap.size + 3 ≤ W.heap.size := by subst hW; simp
  clear hW hcs hct
  obtain ⟨p0, p1, p2, p3⟩ := hm0.dg
  obtain ⟨r0, r1, r2, r3⟩ := ho0.dg
  go_upto_region 3 with fail
  go_cut [11, 12] (fun x y wx => ∃ g cap g' cap', x = .slice (some ⟨g, 0, none⟩) 35 cap ∧ y = .slice (some ⟨g', 0, none⟩) 35 cap' ∧ (∀ j, j < 35 → wx.cell? ⟨g, j, none⟩ = some (.int .i64 ((Ot.steps m).getD j 0 : Nat))) ∧ (∀ j, j < 35 → wx.cell? ⟨g', j, none⟩ = some (.int .i64 ((Ot.steps o).getD j 0 : Nat))) ∧ Below W.heap.size W wx ∧ g < wx.heap.size ∧ g' < wx.heap.size)
  case first =>
    go_region_held3 (fun w' => (w'.cell? ⟨w.heap.size, 0, none⟩ = some (.int .u32 m.a.toNat) ∧ w'.cell? ⟨w.heap.size, 1, none⟩ = some (.int .u32 m.b.toNat) ∧ w'.cell? ⟨w.heap.size, 2, none⟩ = some (.int .u32 m.c.toNat) ∧ w'.cell? ⟨w.heap.size, 3, none⟩ = some (.int .u32 m.d.toNat)) ∧ w'.cell? ⟨w.heap.size + 1, 0, none⟩ = some (.int .u32 o.a.toNat) ∧ w'.cell? ⟨w.heap.size + 1, 1, none⟩ = some (.int .u32 o.b.toNat) ∧ w'.cell? ⟨w.heap.size + 1, 2, none⟩ = some (.int .u32 o.c.toNat) ∧ w'.cell? ⟨w.heap.size + 1, 3, none⟩ = some (.int .u32 o.d.toNat))
      (first | exact ⟨⟨p0, p1, p2, p3⟩, r0, r1, r2, r3⟩ | exact ⟨(hm1 : Arr _ _ _ _).dg, (ho1 : Arr _ _ _ _).dg⟩ | exact ⟨(hm2 : Arr _ _ _ _).dg, (ho2 : Arr _ _ _ _).dg⟩)
      (first
        | (go_at_call_of 20 (Value.agg #[.int .u32 (m.a.toNat : Int), .int .u32 (m.b.toNat : Int), .int .u32 (m.c.toNat : Int), .int .u32 (m.d.toNat : Int)]); refine (rsteps_any m _).mono ?_; rintro e w1 ⟨v1, rfl, hb1, hown1⟩; have hm1 := Arr.below (Arr.drew hm0) hb1 (by simp only [World.drew]; omega); have ho1 := Arr.below (Arr.drew ho0) hb1 (by simp only [World.drew]; omega))
        | (go_at_call_of 20 (Value.agg #[.int .u32 (o.a.toNat : Int), .int .u32 (o.b.toNat : Int), .int .u32 (o.c.toNat : Int), .int .u32 (o.d.toNat : Int)]); refine (rsteps_any o _).mono ?_; rintro e w2 ⟨v2, rfl, hb2, hown2⟩; have hm2 := hm1.below hb2 (hm1.lt (by decide)); have ho2 := ho1.below hb2 (ho1.lt (by decide))))
    all_goals
      go_wp2_with fail
      go_meet
      obtain ⟨g, cap, rfl, _, _, hgb, hgl, _, hgc⟩ := own_ints hown1 (by rw [Ot.steps_length]; decide)
      obtain ⟨g', cap', rfl, _, _, hgb', hgl', _, hgc'⟩ := own_ints hown2 (by rw [Ot.steps_length]; decide)
      rw [Ot.steps_length] at *
      have hsz := hb1.size
      exact ⟨g, cap, g', cap', rfl, rfl, fun j hj => (hb2.cell (p := ⟨g, j, none⟩) hgl).trans (hgc j hj), hgc', (Below.refl _ _).drew.trans (hb1.trans (hb2.mono hsz)), Nat.lt_of_lt_of_le hgl hb2.size, hgl'⟩
  case rest =>
    obtain ⟨g, cap, g', cap', rfl, rfl, hg, hg', hbx, hgl, hgl'⟩ := hcut
    have hbX : Below w.heap.size w wc := hb0.trans (hbx.mono hb0.size)
    have hzX := hz0.below hbx (by omega)
    have hsX : w.heap.size + 3 ≤ wc.heap.size := by have := hbx.size; omega
    clear p0 p1 p2 p3 r0 r1 r2 r3 hm0 ho0 hz0 hbx hb0
    have Hg := Lib.hid hg; clear hg
    have Hg' := Lib.hid hg'; clear hg'
    have htX := ht.below hbX
    obtain ⟨wo, rfl⟩ : ∃ wo : World, wo = wc := ⟨_, rfl⟩
    go_wp2_with fail
    go_loopw [13] (fun i wr => ∃ k : Nat, k ≤ 35 ∧ i = .int .i64 k ∧ Ot.ahead pair m s o t = Ot.aheadFrom pair (Ot.steps m) (Ot.steps o) s t k (35 - k) ∧ Below wo.heap.size wo wr) (fun i wr => 35 - (intOf i).toNat)
    case atStart => exact ⟨0, by omega, rfl, rfl, Below.refl _ _⟩
    case round =>
      obtain ⟨k, hk, rfl, hah, hb⟩ := hrel
      have Hah := Lib.hid hah; clear hah
      have hszr := hb.size
      have hbr : Below w.heap.size w wr := hbX.trans (hb.mono (by omega))
      have hzr := hzX.below hb (by omega)
      by_cases hlt : k < 35
      · have ca := (hb.cell (p := ⟨g, k, none⟩) hgl).trans (Hg.out k hlt)
        have cb := (hb.cell (p := ⟨g', k, none⟩) hgl').trans (Hg'.out k hlt)
        have cs := (Hcs.out k hlt).below hbr hbl
        have ct := (Hct.out k hlt).below hbr hbl'
        have htr := htX.below hb
        have ha15 := Ot.steps_at_le m k
        have hb15 := Ot.steps_at_le o k
        have hstep : Ot.aheadFrom pair (Ot.steps m) (Ot.steps o) s t k (35 - k) = if (Ot.steps o).getD k 0 < (Ot.steps m).getD k 0 ∧ Ot.walk pair (t.getD k Ot.zeroD) ((Ot.steps m).getD k 0 - (Ot.steps o).getD k 0) = s.getD k Ot.zeroD then some k else Ot.aheadFrom pair (Ot.steps m) (Ot.steps o) s t (k + 1) (35 - (k + 1)) := by
          rw [show 35 - k = (35 - (k + 1)) + 1 by omega]; rfl
        generalize (Ot.steps m).getD k 0 = a at *
        generalize (Ot.steps o).getD k 0 = bb at *
        have Hst := Lib.hid hstep; clear hstep
        generalize hdt : t.getD k Ot.zeroD = dt at *
        generalize hds : s.getD k Ot.zeroD = ds at *
        have Hdt := Lib.hid hdt; clear hdt hds
        have hk1 : (k : Int) < 35 := by omega
        have hk0 : (0 : Int) ≤ (k : Int) := by omega
        have hd : decide ((k : Int) < 35) = true := by simp; omega
        by_cases hba : bb < a
        · have q1 : decide ((bb : Int) < (a : Int)) = true := by simp; omega
          have ew : IntKind.i64.wrap ((a : Int) - (bb : Int)) = ((a - bb : Nat) : Int) := by
            rw [show ((a : Int) - (bb : Int)) = ((a - bb : Nat) : Int) by omega]; exact IntWalk.i64_in _ (by omega)
          generalize hz : Ot.walk pair dt (a - bb) = z at *
          have Hz := Lib.hid hz; clear hz
          have hq := dg_eql z ds
          obtain ⟨t0, t1, t2, t3⟩ := ct
          obtain ⟨s0, s1, s2, s3⟩ := cs
          go_wp2_with fail
          go_region_held3 (fun w' => (w'.cell? ⟨g', k, none⟩ = some (.int .i64 (bb : Int)) ∧ w'.cell? ⟨g, k, none⟩ = some (.int .i64 (a : Int))) ∧ (w'.cell? ⟨b', off' + k * 4, none⟩ = some (.int .u32 dt.a.toNat) ∧ w'.cell? ⟨b', off' + k * 4 + 1, none⟩ = some (.int .u32 dt.b.toNat) ∧ w'.cell? ⟨b', off' + k * 4 + 2, none⟩ = some (.int .u32 dt.c.toNat) ∧ w'.cell? ⟨b', off' + k * 4 + 3, none⟩ = some (.int .u32 dt.d.toNat)) ∧ w'.cell? ⟨b, off + k * 4, none⟩ = some (.int .u32 ds.a.toNat) ∧ w'.cell? ⟨b, off + k * 4 + 1, none⟩ = some (.int .u32 ds.b.toNat) ∧ w'.cell? ⟨b, off + k * 4 + 2, none⟩ = some (.int .u32 ds.c.toNat) ∧ w'.cell? ⟨b, off + k * 4 + 3, none⟩ = some (.int .u32 ds.d.toNat))
            (first | exact ⟨⟨cb, ca⟩, ⟨t0, t1, t2, t3⟩, s0, s1, s2, s3⟩ | exact ⟨⟨cb1, ca1⟩, ct1, cs1⟩)
            (first
              | (go_at_call 31; refine (rwalk_any dt (a - bb) (by omega) _).mono ?_; rw [Hz.out]; rintro e w1 ⟨rfl, hb1⟩; have ct1 := (show DgAt wr.drew b' (off' + k * 4) dt from ⟨t0, t1, t2, t3⟩).keep hb1; have cs1 := (show DgAt wr.drew b (off + k * 4) ds from ⟨s0, s1, s2, s3⟩).keep hb1; have ca1 := (hb1.cell (World.block_lt_of_cell? wr.drew _ ca)).trans ca; have cb1 := (hb1.cell (World.block_lt_of_cell? wr.drew _ cb)).trans cb))
          have hb2 : Below w.heap.size w w1 := hbr.drew.trans (hb1.mono hbr.size)
          have hb3 : Below wo.heap.size wo w1 := hb.drew.trans (hb1.mono hszr)
          have hz1 := hzr.drew.below hb1 (hzr.drew.lt (by decide))
          by_cases hzd : z = ds
          · have q2 : decide (z = ds) = true := decide_eq_true hzd
            clear hq
            obtain ⟨v0, v1, v2, v3⟩ := ct1
            obtain ⟨d0, d1, d2, d3⟩ := hz1.dg
            have hf := fun j h => hz1.free j h
            have eR : R = (k, dt, true) := by rw [HR.out, Hah.out, Hst.out, if_pos ⟨hba, hzd⟩]; simp only [Hdt.out]
            have ER := Lib.hid eR; clear eR
            go_wp2
            go_region
            all_goals
              go_wp2
              refine bodyPost_ret (v := .tuple #[.int .i64 k, dgv dt, .bool true]) (by simp [results, Tryd.results32, go_sem, d0, d1, d2, d3]) rfl ⟨⟨k, dt, true, rfl, ER.out.symm⟩, ?_⟩
              exact hb2.drew.fill4 (by omega) _ _ _ _
          · have q2 : decide (z = ds) = false := decide_eq_false hzd
            clear hq
            go_wp2
            go_roundw
            case rel =>
              refine ⟨k + 1, by omega, by go_num, ?_, hb3⟩
              rw [Hah.out, Hst.out, if_neg (fun h => hzd h.2)]
            case measure => simp [intOf]; omega
        · have q1 : decide ((bb : Int) < (a : Int)) = false := by simp; omega
          go_wp2_with fail
          go_quiet (fail)
          go_wp2
          go_roundw
          case rel =>
            refine ⟨k + 1, by omega, by go_num, ?_, pw_drewN hb _⟩
            rw [Hah.out, Hst.out, if_neg (fun h => hba h.1)]
          case measure => simp [intOf]; omega
      · obtain rfl : k = 35 := by omega
        have eR : R = (0, Ot.zeroD, false) := by rw [HR.out, Hah.out]; rfl
        have ER := Lib.hid eR; clear eR
        obtain ⟨d0, d1, d2, d3⟩ := hzr.dg
        have hf := fun j h => hzr.free j h
        go_wp2
        refine bodyPost_ret (v := .tuple #[.int .i64 0, dgv Ot.zeroD, .bool false]) (by simp [results, Tryd.results32, go_sem, d0, d1, d2, d3]; and_intros <;> rfl) rfl ⟨⟨0, Ot.zeroD, false, rfl, ER.out.symm⟩, ?_⟩
        exact hbr.fill4 (by omega) _ _ _ _
end Go.Proofs.YtpodfmnnabepaaaDoor
