/- Texts of this claim, merged: W11 W12 R3 W13 W15 W16 W17 W14 W18 R4 W20 W21 W19 W22 Q1 Q2. Conditions: those written in each. -/
import Derived.Laws.IdiomStrings
import Derived.Test.YtpodfmnnabepaaaDoorM1
namespace Go.Proofs.YtpodfmnnabepaaaDoor
open Go.RowKit
open Ot (Dg)
theorem pw_drewN {B : Nat} {w W : World} (h : Below B w W) (n : Nat) : Below B w (W.drewN n) := ⟨h.os, h.tape, h.output, h.size, h.block⟩
theorem DgAt.keep {w w' : World} {b o : Nat} {d : Dg} (h : DgAt w b o d) (hb : Below w.heap.size w w') : DgAt w' b o d := h.below hb h.lt
noncomputable def aheadR (m : Dg) (s : List Dg) (o : Dg) (t : List Dg) : Nat × Dg × Bool :=
  if s.length = 35 ∧ t.length = 35 then (match Ot.ahead pair m s o t with | some i => (i, t.getD i Ot.zeroD, true) | none => (0, Ot.zeroD, false)) else (0, Ot.zeroD, false)
theorem ahead_short (m o : Dg) (v u : Value) (s t : List Dg) (hl : ¬ (s.length = 35 ∧ t.length = 35)) (w : World) (hv : SigAt w v s) (hu : SigAt w u t) :
    Calls Tryd.prog 30 #[dgv m, v, dgv o, u] w fun e w' => e = .returned (.tuple #[.int .i64 0, dgv Ot.zeroD, .bool false]) ∧ Below w.heap.size w w' := by
  obtain ⟨A, c, rfl, hl1, _⟩ := hv
  obtain ⟨A', c', rfl, hl2, _⟩ := hu
  by_cases h1 : s.length = 35
  · have h2 : t.length ≠ 35 := fun h => hl ⟨h1, h⟩
    have q1 : ((s.length : Int) != 35) = false := by rw [bne_eq_false_iff_eq]; omega
    have q2 : ((t.length : Int) != 35) = true := by rw [bne_iff_ne]; omega
    clear hl h1 h2
    generalize s.length = n at *
    generalize t.length = n' at *
    go_enter Tryd.func30, Tryd.ntmps30
    go_wp2
    exact bodyPost_ret (v := .tuple #[.int .i64 0, dgv Ot.zeroD, .bool false]) (by simp [results, Tryd.results30, go_sem]; and_intros <;> rfl) rfl ⟨rfl, (((Below.refl _ _).alloc (Nat.le_refl _) _).alloc (by simp) _).alloc (by simp; omega) _⟩
  · have q1 : ((s.length : Int) != 35) = true := by rw [bne_iff_ne]; omega
    clear hl h1
    generalize s.length = n at *
    generalize t.length = n' at *
    go_enter Tryd.func30, Tryd.ntmps30
    go_wp2
    exact bodyPost_ret (v := .tuple #[.int .i64 0, dgv Ot.zeroD, .bool false]) (by simp [results, Tryd.results30, go_sem]; and_intros <;> rfl) rfl ⟨rfl, (((Below.refl _ _).alloc (Nat.le_refl _) _).alloc (by simp) _).alloc (by simp; omega) _⟩
set_option maxRecDepth 100000 in
set_option maxHeartbeats 1000000 in
theorem ahead_full (m o : Dg) (v u : Value) (s t : List Dg) (hl : s.length = 35) (hl' : t.length = 35) (w : World) (ht : Tn w) (hv : SigAt w v s) (hu : SigAt w u t) :
    Calls Tryd.prog 30 #[dgv m, v, dgv o, u] w fun e w' => (∃ i d b, e = .returned (.tuple #[.int .i64 (i : Nat), dgv d, .bool b]) ∧ (i, d, b) = aheadR m s o t) ∧ Below w.heap.size w w' := by
  obtain ⟨A, c, rfl, _, hcs⟩ := hv
  obtain ⟨b, off, rfl, hbl, hcs⟩ := hcs (by omega)
  obtain ⟨A', c', rfl, _, hct⟩ := hu
  obtain ⟨b', off', rfl, hbl', hct⟩ := hct (by omega)
  have hR : aheadR m s o t = (match Ot.ahead pair m s o t with | some i => (i, t.getD i Ot.zeroD, true) | none => (0, Ot.zeroD, false)) := by unfold aheadR; rw [if_pos ⟨hl, hl'⟩]
  generalize aheadR m s o t = R at *
  have HR := Lib.hid hR; clear hR
  rw [hl, hl'] at *
  clear hl hl'
  have Hcs := Lib.hid hcs; clear hcs
  have Hct := Lib.hid hct; clear hct
  go_enter Tryd.func30, Tryd.ntmps30
  go_wp2_with fail
  generalize hW : (((w.alloc (.cells #[.int .u32 m.a.toNat, .int .u32 m.b.toNat, .int .u32 m.c.toNat, .int .u32 m.d.toNat] 24)).alloc (.cells #[.int .u32 o.a.toNat, .int .u32 o.b.toNat, .int .u32 o.c.toNat, .int .u32 o.d.toNat] 24)).alloc (.cells #[.int .u32 0, .int .u32 0, .int .u32 0, .int .u32 0] 24)) = W
  have hb0 : Below w.heap.size w W := by subst hW; exact (((Below.refl _ _).alloc (Nat.le_refl _) _).alloc (by simp) _).alloc (by simp; omega) _
  have hm0 : Arr W w.heap.size 4 (fnOf m) := by subst hW; exact ((Arr.new w 4 (fnOf m) 24 _ rfl).alloc (by simp) _).alloc (by simp; omega) _
  have ho0 : Arr W (w.heap.size + 1) 4 (fnOf o) := by subst hW; exact (Arr.new' _ _ 4 (fnOf o) 24 _ (by simp) rfl).alloc (by simp) _
  have hz0 : Arr W (w.heap.size + 1 + 1) 4 (fnOf Ot.zeroD) := by subst hW; exact Arr.new' _ _ 4 (fnOf Ot.zeroD) 24 _ (by simp) rfl
  have hs0 : w.heap.size + 3 ≤ W.heap.size := by subst hW; simp
  clear hW hcs hct
  obtain ⟨p0, p1, p2, p3⟩ := hm0.dg
  obtain ⟨r0, r1, r2, r3⟩ := ho0.dg
  go_upto_region 3 with fail
  go_cut [11, 12] (fun x y wx => ∃ g cap g' cap', x = .slice (some ⟨g, 0, none⟩) 35 cap ∧ y = .slice (some ⟨g', 0, none⟩) 35 cap' ∧ (∀ j, j < 35 → wx.cell? ⟨g, j, none⟩ = some (.int .i64 ((Ot.steps m).getD j 0 : Nat))) ∧ (∀ j, j < 35 → wx.cell? ⟨g', j, none⟩ = some (.int .i64 ((Ot.steps o).getD j 0 : Nat))) ∧ Below W.heap.size W wx ∧ g < wx.heap.size ∧ g' < wx.heap.size)
  case first =>
    go_region_held3 (fun w' => (w'.cell? ⟨w.heap.size, 0, none⟩ = some (.int .u32 m.a.toNat) ∧ w'.cell? ⟨w.heap.size, 1, none⟩ = some (.int .u32 m.b.toNat) ∧ w'.cell? ⟨w.heap.size, 2, none⟩ = some (.int .u32 m.c.toNat) ∧ w'.cell? ⟨w.heap.size, 3, none⟩ = some (.int .u32 m.d.toNat)) ∧ w'.cell? ⟨w.heap.size + 1, 0, none⟩ = some (.int .u32 o.a.toNat) ∧ w'.cell? ⟨w.heap.size + 1, 1, none⟩ = some (.int .u32 o.b.toNat) ∧ w'.cell? ⟨w.heap.size + 1, 2, none⟩ = some (.int .u32 o.c.toNat) ∧ w'.cell? ⟨w.heap.size + 1, 3, none⟩ = some (.int .u32 o.d.toNat))
      (first | exact ⟨⟨p0, p1, p2, p3⟩, r0, r1, r2, r3⟩ | exact ⟨(hm1 : Arr _ _ _ _).dg, (ho1 : Arr _ _ _ _).dg⟩ | exact ⟨(hm2 : Arr _ _ _ _).dg, (ho2 : Arr _ _ _ _).dg⟩)
      (first
        | (go_at_call_of 19 (Value.agg #[.int .u32 (m.a.toNat : Int), .int .u32 (m.b.toNat : Int), .int .u32 (m.c.toNat : Int), .int .u32 (m.d.toNat : Int)]); refine (steps_any m _).mono ?_; rintro e w1 ⟨v1, rfl, hb1, hown1⟩; have hm1 := Arr.below (Arr.drew hm0) hb1 (by simp only [World.drew]; omega); have ho1 := Arr.below (Arr.drew ho0) hb1 (by simp only [World.drew]; omega))
        | (go_at_call_of 19 (Value.agg #[.int .u32 (o.a.toNat : Int), .int .u32 (o.b.toNat : Int), .int .u32 (o.c.toNat : Int), .int .u32 (o.d.toNat : Int)]); refine (steps_any o _).mono ?_; rintro e w2 ⟨v2, rfl, hb2, hown2⟩; have hm2 := hm1.below hb2 (hm1.lt (by decide)); have ho2 := ho1.below hb2 (ho1.lt (by decide))))
    all_goals
      go_wp2_with fail
      go_meet
      obtain ⟨g, cap, rfl, _, _, hgb, hgl, _, hgc⟩ := own_ints hown1 (by rw [Ot.steps_length]; decide)
      obtain ⟨g', cap', rfl, _, _, hgb', hgl', _, hgc'⟩ := own_ints hown2 (by rw [Ot.steps_length]; decide)
      rw [Ot.steps_length] at *
      have hsz := hb1.size
      exact ⟨g, cap, g', cap', rfl, rfl, fun j hj => (hb2.cell (p := ⟨g, j, none⟩) hgl).trans (hgc j hj), hgc', (Below.refl _ _).drew.trans (hb1.trans (hb2.mono hsz)), Nat.lt_of_lt_of_le hgl hb2.size, hgl'⟩
  case rest =>
    obtain ⟨g, cap, g', cap', rfl, rfl, hg, hg', hbx, hgl, hgl'⟩ := hcut
    have hbX : Below w.heap.size w wc := hb0.trans (hbx.mono hb0.size)
    have hzX := hz0.below hbx (by omega)
    have hsX : w.heap.size + 3 ≤ wc.heap.size := by have := hbx.size; omega
    clear p0 p1 p2 p3 r0 r1 r2 r3 hm0 ho0 hz0 hbx hb0
    have Hg := Lib.hid hg; clear hg
    have Hg' := Lib.hid hg'; clear hg'
    have htX := ht.below hbX
    obtain ⟨wo, rfl⟩ : ∃ wo : World, wo = wc := ⟨_, rfl⟩
    go_wp2_with fail
    go_loopw [27] (fun i wr => ∃ k : Nat, k ≤ 35 ∧ i = .int .i64 k ∧ Ot.ahead pair m s o t = Ot.aheadFrom pair (Ot.steps m) (Ot.steps o) s t k (35 - k) ∧ Below wo.heap.size wo wr) (fun i wr => 35 - (intOf i).toNat)
    case atStart => exact ⟨0, by omega, rfl, rfl, Below.refl _ _⟩
    case round =>
      obtain ⟨k, hk, rfl, hah, hb⟩ := hrel
      have Hah := Lib.hid hah; clear hah
      have hszr := hb.size
      have hbr : Below w.heap.size w wr := hbX.trans (hb.mono (by omega))
      have hzr := hzX.below hb (by omega)
      by_cases hlt : k < 35
      · have ca := (hb.cell (p := ⟨g, k, none⟩) hgl).trans (Hg.out k hlt)
        have cb := (hb.cell (p := ⟨g', k, none⟩) hgl').trans (Hg'.out k hlt)
        have cs := (Hcs.out k hlt).below hbr hbl
        have ct := (Hct.out k hlt).below hbr hbl'
        have htr := htX.below hb
        have ha15 := Ot.steps_at_le m k
        have hb15 := Ot.steps_at_le o k
        have hstep : Ot.aheadFrom pair (Ot.steps m) (Ot.steps o) s t k (35 - k) = if (Ot.steps o).getD k 0 < (Ot.steps m).getD k 0 ∧ Ot.walk pair (t.getD k Ot.zeroD) ((Ot.steps m).getD k 0 - (Ot.steps o).getD k 0) = s.getD k Ot.zeroD then some k else Ot.aheadFrom pair (Ot.steps m) (Ot.steps o) s t (k + 1) (35 - (k + 1)) := by
          rw [show 35 - k = (35 - (k + 1)) + 1 by omega]; rfl
        generalize (Ot.steps m).getD k 0 = a at *
        generalize (Ot.steps o).getD k 0 = bb at *
        have Hst := Lib.hid hstep; clear hstep
        generalize hdt : t.getD k Ot.zeroD = dt at *
        generalize hds : s.getD k Ot.zeroD = ds at *
        have Hdt := Lib.hid hdt; clear hdt hds
        have hk1 : (k : Int) < 35 := by omega
        have hk0 : (0 : Int) ≤ (k : Int) := by omega
        have hd : decide ((k : Int) < 35) = true := by simp; omega
        by_cases hba : bb < a
        · have q1 : decide ((bb : Int) < (a : Int)) = true := by simp; omega
          have ew : IntKind.i64.wrap ((a : Int) - (bb : Int)) = ((a - bb : Nat) : Int) := by
            rw [show ((a : Int) - (bb : Int)) = ((a - bb : Nat) : Int) by omega]; exact IntWalk.i64_in _ (by omega)
          generalize hz : Ot.walk pair dt (a - bb) = z at *
          have Hz := Lib.hid hz; clear hz
          have hq := dg_eql z ds
          obtain ⟨t0, t1, t2, t3⟩ := ct
          obtain ⟨s0, s1, s2, s3⟩ := cs
          go_wp2_with fail
          go_region_held3 (fun w' => (w'.cell? ⟨g', k, none⟩ = some (.int .i64 (bb : Int)) ∧ w'.cell? ⟨g, k, none⟩ = some (.int .i64 (a : Int))) ∧ (w'.cell? ⟨b', off' + k * 4, none⟩ = some (.int .u32 dt.a.toNat) ∧ w'.cell? ⟨b', off' + k * 4 + 1, none⟩ = some (.int .u32 dt.b.toNat) ∧ w'.cell? ⟨b', off' + k * 4 + 2, none⟩ = some (.int .u32 dt.c.toNat) ∧ w'.cell? ⟨b', off' + k * 4 + 3, none⟩ = some (.int .u32 dt.d.toNat)) ∧ w'.cell? ⟨b, off + k * 4, none⟩ = some (.int .u32 ds.a.toNat) ∧ w'.cell? ⟨b, off + k * 4 + 1, none⟩ = some (.int .u32 ds.b.toNat) ∧ w'.cell? ⟨b, off + k * 4 + 2, none⟩ = some (.int .u32 ds.c.toNat) ∧ w'.cell? ⟨b, off + k * 4 + 3, none⟩ = some (.int .u32 ds.d.toNat))
            (first | exact ⟨⟨cb, ca⟩, ⟨t0, t1, t2, t3⟩, s0, s1, s2, s3⟩ | exact ⟨⟨cb1, ca1⟩, ct1, cs1⟩)
            (first
              | (go_at_call 48; refine (along_any dt (a - bb) (by omega) _ (by exact htr)).mono ?_; rw [Hz.out]; rintro e w1 ⟨rfl, hb1⟩; have ct1 := (show DgAt wr.drew b' (off' + k * 4) dt from ⟨t0, t1, t2, t3⟩).keep hb1; have cs1 := (show DgAt wr.drew b (off + k * 4) ds from ⟨s0, s1, s2, s3⟩).keep hb1; have ca1 := (hb1.cell (World.block_lt_of_cell? wr.drew _ ca)).trans ca; have cb1 := (hb1.cell (World.block_lt_of_cell? wr.drew _ cb)).trans cb))
          have hb2 : Below w.heap.size w w1 := hbr.drew.trans (hb1.mono hbr.size)
          have hb3 : Below wo.heap.size wo w1 := hb.drew.trans (hb1.mono hszr)
          have hz1 := hzr.drew.below hb1 (hzr.drew.lt (by decide))
          by_cases hzd : z = ds
          · have q2 : decide (z = ds) = true := decide_eq_true hzd
            clear hq
            obtain ⟨v0, v1, v2, v3⟩ := ct1
            obtain ⟨d0, d1, d2, d3⟩ := hz1.dg
            have hf := fun j h => hz1.free j h
            have eR : R = (k, dt, true) := by rw [HR.out, Hah.out, Hst.out, if_pos ⟨hba, hzd⟩]; simp only [Hdt.out]
            have ER := Lib.hid eR; clear eR
            go_wp2
            go_region
            all_goals
              go_wp2
              refine bodyPost_ret (v := .tuple #[.int .i64 k, dgv dt, .bool true]) (by simp [results, Tryd.results30, go_sem, d0, d1, d2, d3]) rfl ⟨⟨k, dt, true, rfl, ER.out.symm⟩, ?_⟩
              exact hb2.drew.fill4 (by omega) _ _ _ _
          · have q2 : decide (z = ds) = false := decide_eq_false hzd
            clear hq
            go_wp2
            go_roundw
            case rel =>
              refine ⟨k + 1, by omega, by go_num, ?_, hb3⟩
              rw [Hah.out, Hst.out, if_neg (fun h => hzd h.2)]
            case measure => simp [intOf]; omega
        · have q1 : decide ((bb : Int) < (a : Int)) = false := by simp; omega
          go_wp2_with fail
          go_quiet (fail)
          go_wp2
          go_roundw
          case rel =>
            refine ⟨k + 1, by omega, by go_num, ?_, pw_drewN hb _⟩
            rw [Hah.out, Hst.out, if_neg (fun h => hba h.1)]
          case measure => simp [intOf]; omega
      · obtain rfl : k = 35 := by omega
        have eR : R = (0, Ot.zeroD, false) := by rw [HR.out, Hah.out]; rfl
        have ER := Lib.hid eR; clear eR
        obtain ⟨d0, d1, d2, d3⟩ := hzr.dg
        have hf := fun j h => hzr.free j h
        go_wp2
        refine bodyPost_ret (v := .tuple #[.int .i64 0, dgv Ot.zeroD, .bool false]) (by simp [results, Tryd.results30, go_sem, d0, d1, d2, d3]; and_intros <;> rfl) rfl ⟨⟨0, Ot.zeroD, false, rfl, ER.out.symm⟩, ?_⟩
        exact hbr.fill4 (by omega) _ _ _ _
end Go.Proofs.YtpodfmnnabepaaaDoor

namespace Go.Proofs.YtpodfmnnabepaaaDoor
open Go.RowKit
open Ot (Dg)
theorem dcs_at : ∀ (l : List Dg) (i : Nat), i < l.length → (dcs l)[i * 4]? = some (.int .u32 (l.getD i Ot.zeroD).a.toNat) ∧ (dcs l)[i * 4 + 1]? = some (.int .u32 (l.getD i Ot.zeroD).b.toNat) ∧ (dcs l)[i * 4 + 2]? = some (.int .u32 (l.getD i Ot.zeroD).c.toNat) ∧ (dcs l)[i * 4 + 3]? = some (.int .u32 (l.getD i Ot.zeroD).d.toNat)
  | [], i, h => by simp at h
  | d :: l, 0, _ => ⟨rfl, rfl, rfl, rfl⟩
  | d :: l, i + 1, h => by
    obtain ⟨h0, h1, h2, h3⟩ := dcs_at l i (by simpa using h)
    have e : dcs (d :: l) = [.int .u32 d.a.toNat, .int .u32 d.b.toNat, .int .u32 d.c.toNat, .int .u32 d.d.toNat] ++ dcs l := rfl
    have eq : ∀ j, (dcs (d :: l))[(i + 1) * 4 + j]? = (dcs l)[i * 4 + j]? := fun j => by
      rw [e, List.getElem?_append_right (by simp; omega)]; congr 1; simp; omega
    have g : (d :: l).getD (i + 1) Ot.zeroD = l.getD i Ot.zeroD := rfl
    rw [g]
    exact ⟨(eq 0).trans h0, (eq 1).trans h1, (eq 2).trans h2, (eq 3).trans h3⟩
/-- What the call has made reads as a slice of digests. -/
theorem own_sig {w : World} {base n : Nat} {v : Value} {l : List Dg} (h : w.ownsRow base 24 4 v n (dcs l)) : SigAt w v l := by
  have hl : l.length = n := by have := h.1; rw [dcs_length] at this; omega
  have hc := h
  rcases h.2 with ⟨rfl, h0⟩ | ⟨g, cap, cur, rfl, hb, hh, h1, h2, _⟩
  · exact ⟨none, 0, by rw [hl, h0], by omega, fun hp => by omega⟩
  · refine ⟨some ⟨g, 0, none⟩, cap, by rw [hl], by simp only [maxLen] at h2; omega, fun _ => ⟨g, 0, rfl, (Array.getElem?_eq_some_iff.1 hh).1, fun i hi => ?_⟩⟩
    obtain ⟨k0, k1, k2, k3⟩ := dcs_at l i hi
    have ad : ∀ j, (⟨g, 0, none⟩ : Addr).add j = ⟨g, j, none⟩ := fun j => by unfold Addr.add; split <;> simp_all
    have c := fun j u hu => (ad j) ▸ hc.cells (g := g) rfl j u hu
    rw [Nat.zero_add]
    exact ⟨c _ _ k0, c _ _ k1, c _ _ k2, c _ _ k3⟩
theorem SigAt_nil (w : World) : SigAt w (.slice none 0 0) [] := ⟨none, 0, rfl, by simp, fun h => by simp at h⟩
theorem cell_keep {w w' : World} {a : Addr} {v : Value} (h : w.cell? a = some v) (hb : Below w.heap.size w w') : w'.cell? a = some v := (hb.cell (World.block_lt_of_cell? w _ h)).trans h
/-- What 'awake' reads. -/
def AwS (g B : Nat) (w' : World) : Prop := (w'.cell? ⟨g, 0, none⟩ = some (.int .i64 0) ∧ w'.cell? ⟨g, 32, none⟩ = some (.int .i64 1) ∧ w'.cell? ⟨g, 33, none⟩ = some (.int .i64 14) ∧ w'.cell? ⟨g, 34, none⟩ = some (.int .i64 0)) ∧ (w'.cell? ⟨B, 0, none⟩ = some (.int .u32 1) ∧ w'.cell? ⟨B, 1, none⟩ = some (.int .u32 0) ∧ w'.cell? ⟨B, 2, none⟩ = some (.int .u32 0) ∧ w'.cell? ⟨B, 3, none⟩ = some (.int .u32 0)) ∧ w'.cell? ⟨B + 1, 0, none⟩ = some (.int .u32 2) ∧ w'.cell? ⟨B + 1, 1, none⟩ = some (.int .u32 0) ∧ w'.cell? ⟨B + 1, 2, none⟩ = some (.int .u32 0) ∧ w'.cell? ⟨B + 1, 3, none⟩ = some (.int .u32 0)
theorem AwS.keep {g B : Nat} {w w' : World} (h : AwS g B w) (hb : Below w.heap.size w w') : AwS g B w' := by
  obtain ⟨⟨a0, a1, a2, a3⟩, ⟨b0, b1, b2, b3⟩, c0, c1, c2, c3⟩ := h
  exact ⟨⟨cell_keep a0 hb, cell_keep a1 hb, cell_keep a2 hb, cell_keep a3 hb⟩, ⟨cell_keep b0 hb, cell_keep b1 hb, cell_keep b2 hb, cell_keep b3 hb⟩, cell_keep c0 hb, cell_keep c1 hb, cell_keep c2 hb, cell_keep c3 hb⟩
set_option maxRecDepth 100000 in
set_option maxHeartbeats 2000000 in
theorem awake_any (w : World) (ht : Tn w) : Calls Tryd.prog 17 #[] w fun e w' => e = .returned (.bool true) ∧ Below w.heap.size w w' := by
  go_enter Tryd.func17, Tryd.ntmps17
  go_wp2_with fail
  refine (steps_any Ot.zeroD _).mono ?_
  rintro e w1 ⟨v, rfl, hb1, hown1⟩
  obtain ⟨g, cap, rfl, _, _, hgb, hgl, _, hgc⟩ := own_ints hown1 (by rw [Ot.steps_length]; decide)
  rw [Ot.steps_length] at *
  have n0 := hgc 0 (by decide)
  have n1 := hgc 32 (by decide)
  have n2 := hgc 33 (by decide)
  have n3 := hgc 34 (by decide)
  replace n0 : w1.cell? ⟨g, 0, none⟩ = some (.int .i64 0) := n0
  replace n1 : w1.cell? ⟨g, 32, none⟩ = some (.int .i64 1) := n1
  replace n2 : w1.cell? ⟨g, 33, none⟩ = some (.int .i64 14) := n2
  replace n3 : w1.cell? ⟨g, 34, none⟩ = some (.int .i64 0) := n3
  have ht1 := ht.below hb1
  have hs1 := hb1.size
  clear hgc hown1 hgb
  go_wp2_with fail
  generalize hW : (w1.alloc (.cells #[.int .u32 1, .int .u32 0, .int .u32 0, .int .u32 0] 24)).alloc (.cells #[.int .u32 2, .int .u32 0, .int .u32 0, .int .u32 0] 24) = W
  have hbW : Below w1.heap.size w1 W := by subst hW; exact ((Below.refl _ _).alloc (Nat.le_refl _) _).alloc (by simp) _
  have hx0 : Arr W w1.heap.size 4 (fnOf ⟨1, 0, 0, 0⟩) := by subst hW; exact (Arr.new w1 4 (fnOf ⟨1, 0, 0, 0⟩) 24 _ rfl).alloc (by simp) _
  have hm0 : Arr W (w1.heap.size + 1) 4 (fnOf ⟨2, 0, 0, 0⟩) := by subst hW; exact Arr.new' _ _ 4 (fnOf ⟨2, 0, 0, 0⟩) 24 _ (by simp) rfl
  have hsW : w1.heap.size + 2 ≤ W.heap.size := by subst hW; simp
  clear hW
  refine (sign_any ⟨1, 0, 0, 0⟩ ⟨2, 0, 0, 0⟩ _ (ht1.below hbW)).mono ?_
  rintro e w2 ⟨vs, rfl, hb2, hown2⟩
  have hsig := own_sig hown2
  have hl35 := Ot.sign_length pair ⟨1, 0, 0, 0⟩ ⟨2, 0, 0, 0⟩
  have hrs := Ot.reach_sign pair ⟨1, 0, 0, 0⟩ ⟨2, 0, 0, 0⟩
  generalize Ot.sign pair ⟨1, 0, 0, 0⟩ ⟨2, 0, 0, 0⟩ = sg at *
  generalize hpb : Ot.pub pair ⟨1, 0, 0, 0⟩ = pb at *
  have Hpb := Lib.hid hpb; clear hpb
  have Hrs := Lib.hid hrs; clear hrs
  have hb12 : Below w1.heap.size w1 w2 := hbW.trans (hb2.mono hbW.size)
  have hx2 := hx0.below hb2 (by omega)
  have hm2 := hm0.below hb2 (by omega)
  replace n0 := (hb12.cell (p := ⟨g, 0, none⟩) hgl).trans n0
  replace n1 := (hb12.cell (p := ⟨g, 32, none⟩) hgl).trans n1
  replace n2 := (hb12.cell (p := ⟨g, 33, none⟩) hgl).trans n2
  replace n3 := (hb12.cell (p := ⟨g, 34, none⟩) hgl).trans n3
  have hbt := hb1.trans (hb12.mono hs1)
  have ht2 := ht.below hbt
  have hst := hbt.size
  obtain ⟨x0, x1, x2, x3⟩ := hx2.dg
  obtain ⟨m0, m1, m2, m3⟩ := hm2.dg
  replace x0 : w2.cell? ⟨w1.heap.size, 0, none⟩ = some (.int .u32 1) := x0
  replace x1 : w2.cell? ⟨w1.heap.size, 1, none⟩ = some (.int .u32 0) := x1
  replace x2 : w2.cell? ⟨w1.heap.size, 2, none⟩ = some (.int .u32 0) := x2
  replace x3 : w2.cell? ⟨w1.heap.size, 3, none⟩ = some (.int .u32 0) := x3
  replace m0 : w2.cell? ⟨w1.heap.size + 1, 0, none⟩ = some (.int .u32 2) := m0
  replace m1 : w2.cell? ⟨w1.heap.size + 1, 1, none⟩ = some (.int .u32 0) := m1
  replace m2 : w2.cell? ⟨w1.heap.size + 1, 2, none⟩ = some (.int .u32 0) := m2
  replace m3 : w2.cell? ⟨w1.heap.size + 1, 3, none⟩ = some (.int .u32 0) := m3
  clear hb1 hb2 hown2 hbW hx0 hm0 hx2 hm2 hb12
  have hdec : decide (Ot.reachK pair ⟨2, 0, 0, 0⟩ sg = pb) = true := decide_eq_true Hrs.out
  have Hdec := Lib.hid hdec; clear hdec
  have hbd : Below w2.heap.size w2 w2.drew := (Below.refl _ _).drew
  replace hsig := hsig.below hbd
  replace ht2 := ht2.below hbd
  replace hbt := hbt.drew
  have hk : AwS g w1.heap.size w2.drew := ⟨⟨n0, n1, n2, n3⟩, ⟨x0, x1, x2, x3⟩, m0, m1, m2, m3⟩
  go_wp2_with fail
  clear n0 n1 n2 n3 x0 x1 x2 x3 m0 m1 m2 m3 hbd hsW hs1 hgl
  go_region_held3 (fun w' => (w'.cell? ⟨g, 0, none⟩ = some (.int .i64 0) ∧ w'.cell? ⟨g, 32, none⟩ = some (.int .i64 1) ∧ w'.cell? ⟨g, 33, none⟩ = some (.int .i64 14) ∧ w'.cell? ⟨g, 34, none⟩ = some (.int .i64 0)) ∧ (w'.cell? ⟨w1.heap.size, 0, none⟩ = some (.int .u32 1) ∧ w'.cell? ⟨w1.heap.size, 1, none⟩ = some (.int .u32 0) ∧ w'.cell? ⟨w1.heap.size, 2, none⟩ = some (.int .u32 0) ∧ w'.cell? ⟨w1.heap.size, 3, none⟩ = some (.int .u32 0)) ∧ w'.cell? ⟨w1.heap.size + 1, 0, none⟩ = some (.int .u32 2) ∧ w'.cell? ⟨w1.heap.size + 1, 1, none⟩ = some (.int .u32 0) ∧ w'.cell? ⟨w1.heap.size + 1, 2, none⟩ = some (.int .u32 0) ∧ w'.cell? ⟨w1.heap.size + 1, 3, none⟩ = some (.int .u32 0))
    (exact hk)
    (first
      | (go_at_call 21; refine (public_any ⟨1, 0, 0, 0⟩ _ ht2).mono ?_; rw [Hpb.out]; rintro e w3 ⟨rfl, hb3⟩; replace hk := hk.keep hb3; replace hbt := hbt.trans (hb3.mono hst); replace hst := hbt.size; replace ht2 := ht2.below hb3; replace hsig := hsig.below hb3)
      | (go_at_call_of 27 (Value.slice none 0 0); refine (check_short pb ⟨2, 0, 0, 0⟩ _ [] (by decide) _ (SigAt_nil _)).mono ?_; rintro e w3 ⟨rfl, hb3⟩; replace hk := hk.keep hb3; replace hbt := hbt.trans (hb3.mono hst); replace hst := hbt.size; replace ht2 := ht2.below hb3; replace hsig := hsig.below hb3)
      | (go_at_call 27; refine (check_full pb ⟨2, 0, 0, 0⟩ vs sg hl35 _ ht2 hsig).mono ?_; rw [Hdec.out]; rintro e w3 ⟨rfl, hb3⟩; replace hk := hk.keep hb3; replace hbt := hbt.trans (hb3.mono hst); replace hst := hbt.size; replace ht2 := ht2.below hb3; replace hsig := hsig.below hb3))
  go_wp2
  go_ret
  exact ⟨rfl, hbt⟩
end Go.Proofs.YtpodfmnnabepaaaDoor

namespace Go
open Go.RowKit
section
variable {P : Program} {ops : Array Oper} {md : Region.Mode}

def Region.headDone (m n : Nat) : Array Bool := ((List.range m).map fun j => decide (j < n)).toArray
def Region.invB (md : Region.Mode) (ops : Array Oper) (n : Nat) : Bool :=
  decide (n ≤ ops.size) && (decide (n = ops.size) || (Region.sinkB md ops n && Region.chainB md ops n)) &&
  ((List.range n).all fun i => match ops[i]? with | some o => o.guard.isNone && o.after.toList.all (fun e => decide (e.on < i)) | none => false) &&
  ((List.range n).all fun i => (List.range n).all fun j => decide (i = j) || decide (dstOf ops i = none) || decide (dstOf ops i ≠ dstOf ops j)) &&
  Region.seqB md ops (ops.size - n) n (Region.headDone ops.size n)

/-- What comes of an operation: some value, with K of it. -/
def GivesK (P : Program) (K : Value → World → Prop) : Result Next → Prop
  | .ok (.value u) w' => K u w'
  | .ok .skip w' => K undef w'
  | .ok (.enter f args) w' => Calls P f args w' (fun e w'' => ∃ v, e = .returned v ∧ K v w'')
  | _ => False
theorem GivesK_value (K : Value → World → Prop) (u : Value) (w : World) : GivesK P K (.ok (.value u) w) = K u w := rfl
theorem GivesK_enter (K : Value → World → Prop) (f : FuncId) (args : Array Value) (w : World) : GivesK P K (.ok (.enter f args) w) = Calls P f args w (fun e w'' => ∃ v, e = .returned v ∧ K v w'') := rfl
attribute [go_sem] GivesK_value GivesK_enter

/-- The head's values, put in the order of the text. -/
def putAll (ops : Array Oper) (us : Nat → Value) : Nat → Act → Act
  | 0, a => a
  | k + 1, a => (putAll ops us k a).put (dstOf ops k) (us k)

def updV (us : Nat → Value) (i : Nat) (v : Value) : Nat → Value := fun j => if j = i then v else us j

theorem putAll_congr {us vs : Nat → Value} : ∀ (n : Nat) (a : Act), (∀ j, j < n → us j = vs j) → putAll ops us n a = putAll ops vs n a
  | 0, _, _ => rfl
  | n + 1, a, h => by
    show (putAll ops us n a).put _ _ = (putAll ops vs n a).put _ _
    rw [putAll_congr n a fun j hj => h j (by omega), h n (by omega)]

theorem put_put (a : Act) (d : Option Tmp) (u v : Value) : (a.put d u).put d v = a.put d v := by
  cases d with
  | none => rfl
  | some d => simp [Act.put]

theorem putAll_put {us : Nat → Value} {i : Nat} {v : Value} : ∀ (n : Nat) (a : Act), (∀ j k, j < n → k < n → j ≠ k → dstOf ops j = none ∨ dstOf ops j ≠ dstOf ops k) → i < n →
    (putAll ops us n a).put (dstOf ops i) v = putAll ops (updV us i v) n a
  | 0, _, _, hi => absurd hi (by omega)
  | n + 1, a, hd, hi => by
    show ((putAll ops us n a).put (dstOf ops n) (us n)).put (dstOf ops i) v = (putAll ops (updV us i v) n a).put (dstOf ops n) (updV us i v n)
    by_cases hin : i = n
    · subst hin
      rw [put_put, putAll_congr (us := us) (vs := updV us i v) i a fun j hj => by simp [updV, Nat.ne_of_lt hj]]
      simp [updV]
    · have h1 : updV us i v n = us n := by simp [updV, Ne.symm hin]
      have ih := putAll_put (us := us) (v := v) n a (fun j k hj hk => hd j k (by omega) (by omega)) (show i < n by omega)
      rw [h1, ← ih]
      have hcase := hd i n (by omega) (by omega) hin
      cases hi1 : dstOf ops i with
      | none => rfl
      | some d =>
        cases hn1 : dstOf ops n with
        | none => rfl
        | some e =>
          have hne : d ≠ e := by
            rcases hcase with h | h
            · rw [hi1] at h; cases h
            · rw [hi1, hn1] at h; exact fun h' => h (by rw [h'])
          simp only [Act.put]
          rw [Array.setIfInBounds_comm _ _ (Ne.symm hne)]

theorem putAll_self (a : Act) : ∀ (n : Nat), putAll ops (fun j => match dstOf ops j with | some d => a.tmps.getD d undef | none => undef) n a = a
  | 0 => rfl
  | n + 1 => by
    show (putAll ops _ n a).put (dstOf ops n) _ = a
    rw [putAll_self a n]
    cases h : dstOf ops n with
    | none => rfl
    | some d =>
      simp only [Act.put, h]
      have : a.tmps.setIfInBounds d (a.tmps.getD d undef) = a.tmps := by
        apply Array.ext
        · simp
        · intro j h1 h2
          rw [Array.getElem_setIfInBounds (by simpa using h2)]
          split
          · rename_i he; subst he; simp [h2]
          · rfl
      rw [this]

/-- Operation i's part. -/
def OpYields (P : Program) (md : Region.Mode) (ops : Array Oper) (S : World → Prop) (F : Nat → Value → World → Prop) (n : Nat) (a0 : Act) (i : Nat) (o : Oper) : Prop :=
  ∀ (us : Nat → Value) (w : World), S w → (∀ j, (o.after.toList.any fun e => Region.binds md e && decide (e.on = j)) = true → F j (us j) w) →
    GivesK P (fun v w' => F i v w' ∧ Below w.heap.size w w') ((execOp (putAll ops us n a0).eval o).run P w)

theorem GivesK.wpOp {Q : Exit → Act → World → Prop} {i : Nat} {o : Oper} {a : Act} {w : World} {R : Value → World → Prop} (hi : ops[i]? = some o) (hg : o.guard = none) (h0 : GivesK P R ((execOp a.eval o).run P w))
    {K : Act → World → Prop} (h : ∀ v w', R v w' → K (a.put o.dst v) w') : wpOp P ops Q i K a w := by
  unfold Go.wpOp
  simp only [hi]
  rw [if_pos (by simp [Region.wanted, hg])]
  refine .inl ?_
  unfold Oper.wp
  generalize (execOp a.eval o).run P w = r at h0
  cases r with
  | ok n w' =>
    cases n <;> simp only [GivesK] at h0
    case value u => exact h _ _ h0
    case skip => exact h _ _ h0
    case enter f args =>
      rw [Oper.upon_enter]
      refine h0.mono fun e w'' he => ?_
      obtain ⟨v, rfl, h2⟩ := he
      exact h v w'' h2
  | halt x w' => exact h0.elim

def invHead (P : Program) (md : Region.Mode) (ops : Array Oper) (S : World → Prop) (F : Nat → Value → World → Prop) (n : Nat) (a0 : Act) : List Oper → Nat → Prop
  | [], _ => True
  | o :: l, k => OpYields P md ops S F n a0 k o ∧ invHead P md ops S F n a0 l (k + 1)

theorem invHead_get {S : World → Prop} {F : Nat → Value → World → Prop} {n : Nat} {a0 : Act} : ∀ (l : List Oper) (k : Nat), invHead P md ops S F n a0 l k → ∀ j o, l[j]? = some o → OpYields P md ops S F n a0 (k + j) o
  | [], _, _, _, _, h => by simp at h
  | x :: l, k, h, 0, o, ho => by obtain rfl : x = o := by simpa using ho
                                 exact h.1
  | x :: l, k, h, j + 1, o, ho => by
    have := invHead_get l (k + 1) h.2 j o (by simpa using ho)
    rwa [show k + 1 + j = k + (j + 1) by omega] at this

theorem invB_spec {n : Nat} (h : Region.invB md ops n = true) : n ≤ ops.size ∧ (n = ops.size ∨ (Region.sinkB md ops n = true ∧ Region.chainB md ops n = true)) ∧
    (∀ i, i < n → ∃ o, ops[i]? = some o ∧ o.guard = none ∧ ∀ e ∈ o.after, e.on < i) ∧ (∀ j k, j < n → k < n → j ≠ k → dstOf ops j = none ∨ dstOf ops j ≠ dstOf ops k) ∧ Region.seqB md ops (ops.size - n) n (Region.headDone ops.size n) = true := by
  simp only [Region.invB, Bool.and_eq_true, decide_eq_true_eq, Bool.or_eq_true] at h
  obtain ⟨⟨⟨⟨h1, h2⟩, h3⟩, h4⟩, h5⟩ := h
  refine ⟨h1, h2, fun i hi => ?_, fun j k hj hk hjk => ?_, h5⟩
  · have := List.all_eq_true.1 h3 i (List.mem_range.2 hi)
    revert this
    cases ho : ops[i]? with
    | none => simp
    | some o =>
      intro this
      simp only [Bool.and_eq_true, Option.isNone_iff_eq_none] at this
      exact ⟨o, rfl, this.1, fun e he => by simpa using (List.all_eq_true.1 this.2 e (by simpa using he))⟩
  · have := List.all_eq_true.1 (List.all_eq_true.1 h4 j (List.mem_range.2 hj)) k (List.mem_range.2 hk)
    simp only [Bool.or_eq_true, decide_eq_true_eq] at this
    rcases this with (h | h) | h
    · exact absurd h hjk
    · exact .inl h
    · exact .inr h

/-- How many of the head are not listed. -/
def unlistedN (listed : Array Bool) : Nat → Nat
  | 0 => 0
  | n + 1 => (if listed.getD n true = false then 1 else 0) + unlistedN listed n
theorem unlistedN_zero {listed : Array Bool} : ∀ {n : Nat}, unlistedN listed n = 0 → ∀ j, j < n → listed.getD j true = true
  | 0, _, _, hj => absurd hj (by omega)
  | n + 1, h, j, hj => by
    simp only [unlistedN] at h
    by_cases hjn : j = n
    · subst hjn
      cases hh : listed.getD j true with
      | true => rfl
      | false => rw [hh] at h; simp at h
    · exact unlistedN_zero (n := n) (by omega) j (by omega)
theorem unlistedN_pos {listed : Array Bool} : ∀ {n : Nat}, unlistedN listed n ≠ 0 → ∃ j, j < n ∧ listed.getD j true = false ∧ ∀ k, k < j → listed.getD k true = true
  | 0, h => absurd rfl h
  | n + 1, h => by
    by_cases h0 : unlistedN listed n = 0
    · refine ⟨n, by omega, ?_, fun k hk => unlistedN_zero h0 k hk⟩
      cases hh : listed.getD n true with
      | false => rfl
      | true => simp [unlistedN, hh, h0] at h
    · obtain ⟨j, hj, hr⟩ := unlistedN_pos h0
      exact ⟨j, by omega, hr⟩
theorem unlistedN_set {listed : Array Bool} {i : Nat} (hi : listed.getD i true = false) : ∀ {n : Nat}, i < n → unlistedN (listed.setIfInBounds i true) n + 1 = unlistedN listed n
  | 0, h => absurd h (by omega)
  | n + 1, h => by
    have hsz : i < listed.size := by
      rcases Nat.lt_or_ge i listed.size with h' | h'
      · exact h'
      · simp [Array.getElem?_eq_none h'] at hi
    have hself : (listed.setIfInBounds i true).getD i true = true := by simp [hsz]
    simp only [unlistedN]
    by_cases hin : i = n
    · subst hin
      rw [hself, hi]
      have : unlistedN (listed.setIfInBounds i true) i = unlistedN listed i := by
        have : ∀ m, m ≤ i → unlistedN (listed.setIfInBounds i true) m = unlistedN listed m := by
          intro m
          induction m with
          | zero => intro _; rfl
          | succ m ih => intro hm; simp only [unlistedN]; rw [ih (by omega), getD_set_ne true (by omega)]
        exact this i (Nat.le_refl _)
      rw [this]; simp; omega
    · rw [getD_set_ne true hin, ← unlistedN_set hi (show i < n by omega)]; omega

theorem wpAny_inv {S : World → Prop} {F : Nat → Value → World → Prop} {n : Nat} {a0 : Act} {Q : Exit → Act → World → Prop} (hB : Region.invB md ops n = true)
    (hSp : ∀ w w', S w → Below w.heap.size w w' → S w') (hFp : ∀ j v w w', Below w.heap.size w w' → F j v w → F j v w') (hop : ∀ i o, i < n → ops[i]? = some o → OpYields P md ops S F n a0 i o)
    (hend : ∀ us w, S w → (∀ j, j < n → F j (us j) w) → wpAny P md ops Q (ops.size - n) (Region.headDone ops.size n) (putAll ops us n a0) w) :
    ∀ (f : Nat) (listed : Array Bool) (us : Nat → Value) (w : World), unlistedN listed n = f → HeadInv md ops n listed → S w → (∀ j, j < n → listed.getD j true = true → F j (us j) w) →
      wpAny P md ops Q (f + (ops.size - n)) listed (putAll ops us n a0) w := by
  obtain ⟨hle, hsc, hops, hdst, _⟩ := invB_spec hB
  intro f
  induction f with
  | zero =>
    intro listed us w hl inv hS hF
    have hdone : listed = Region.headDone ops.size n := by
      apply Array.ext
      · simp [Region.headDone, inv.size]
      · intro j h1 h2
        have hv : listed.getD j true = listed[j] := by simp [h1]
        have : (Region.headDone ops.size n)[j] = decide (j < n) := by simp [Region.headDone]
        rw [this]
        by_cases hjn : j < n
        · rw [← hv, unlistedN_zero hl j hjn]; simp [hjn]
        · rw [← hv, inv.tail j (by omega) (by rw [← inv.size]; exact h1)]; simp [hjn]
    rw [Nat.zero_add, hdone]
    exact hend us w hS fun j hj => hF j hj (unlistedN_zero hl j hj)
  | succ f ih =>
    intro listed us w hl inv hS hF
    obtain ⟨k, hk, hku, hkl⟩ := unlistedN_pos (n := n) (listed := listed) (by omega)
    have hkr : k ∈ Region.ready md ops listed := by
      obtain ⟨o, ho, _, hlt⟩ := hops k hk
      refine mem_ready.2 ⟨hku, o, ho, fun e he _ => ?_⟩
      have h1 := hkl e.on (hlt e he)
      have h2 : e.on < listed.size := by rw [inv.size]; have := hlt e he; omega
      simp [h2] at h1 ⊢; exact h1
    rw [show f + 1 + (ops.size - n) = (f + (ops.size - n)) + 1 by omega]
    refine ⟨fun h0 => (by rw [h0] at hkr; cases hkr), fun i hi => ?_⟩
    obtain ⟨hiu, oi, hoi, hall⟩ := mem_ready.1 hi
    have hin : i < n := by
      rcases hsc with h | ⟨h1, h2⟩
      · rcases Nat.lt_or_ge i n with h' | h'
        · exact h'
        · rw [Array.getElem?_eq_none (by omega)] at hoi; cases hoi
      · rcases Nat.lt_or_ge n ops.size with h' | h'
        · exact Nat.lt_of_not_le fun h => tail_waits h1 h2 h' inv _ k rfl hk hku i h hi
        · rcases Nat.lt_or_ge i n with h'' | h''
          · exact h''
          · rw [Array.getElem?_eq_none (by omega)] at hoi; cases hoi
    obtain ⟨o', ho', hg, _⟩ := hops i hin
    obtain rfl : oi = o' := Option.some.inj (hoi.symm.trans ho')
    have hd : dstOf ops i = oi.dst := by simp [dstOf, hoi]
    refine GivesK.wpOp hoi hg (hop i oi hin hoi us w hS fun j hj => ?_) fun v w' hv => ?_
    · obtain ⟨e, he, hb⟩ : ∃ e ∈ oi.after, Region.binds md e = true ∧ e.on = j := by
        obtain ⟨e, he, hb⟩ := List.any_eq_true.1 hj
        exact ⟨e, by simpa using he, by simpa using hb⟩
      have h1 := hall e he hb.1
      rw [hb.2] at h1
      have hjn : j < n := by
        obtain ⟨o2, ho2, _, hlt⟩ := hops i hin
        obtain rfl : oi = o2 := Option.some.inj (hoi.symm.trans ho2)
        have := hlt e he; omega
      have h2 : j < listed.size := by rw [inv.size]; omega
      exact hF j hjn (by simp [h2] at h1 ⊢; exact h1)
    · rw [← hd, putAll_put n a0 hdst hin]
      refine ih _ (updV us i v) w' ?_ (inv.set hi hin) (hSp _ _ hS hv.2) fun j hj hjl => ?_
      · have := unlistedN_set hiu hin; omega
      · by_cases hji : j = i
        · subst hji; simpa [updV] using hv.1
        · rw [getD_set_ne true (Ne.symm hji)] at hjl
          simpa [updV, hji] using hFp j _ _ _ hv.2 (hF j hj hjl)

/-- THE LAW. -/
theorem wp_region_inv {id : Nat} {Q : Exit → Act → World → Prop} {a : Act} {w : World} {l : List Oper} (S : World → Prop) (F : Nat → Value → World → Prop) (n : Nat) (hm : P.follows .mixedOrders = true) (hB : Region.invB .any l.toArray n = true)
    (hS : S w.drew) (hSp : ∀ w w', S w → Below w.heap.size w w' → S w') (hFp : ∀ j v w w', Below w.heap.size w w' → F j v w → F j v w')
    (hop : invHead P .any l.toArray S F n a (l.take n) 0)
    (hend : ∀ us w', S w' → (∀ j, j < n → F j (us j) w') → wpList P l.toArray Q (l.drop n) (putAll l.toArray us n a) w') : (Code.region id l.toArray true).wp P Q a w := by
  obtain ⟨hle, _, _, _, hseq⟩ := invB_spec hB
  have hdl : (l.drop n).length = l.toArray.size - n := by simp
  have inv0 : HeadInv .any l.toArray n (Array.replicate l.toArray.size false) :=
    ⟨by simp, fun j oj _ hl => (by rw [getD_replicate_false] at hl; cases hl), fun t _ ht => getD_in (by simpa using ht) (getD_replicate_false _ _)⟩
  have hle' : n ≤ l.length := by simpa using hle
  refine wp_region_any hm ?_
  have hleft : ∀ m, m ≤ l.length → unlistedN (Array.replicate l.length false) m = m := by
    intro m
    induction m with
    | zero => intro _; rfl
    | succ m ih => intro hm; simp only [unlistedN]; rw [ih (by omega), getD_in (by simp; omega) (getD_replicate_false _ _)]; simp; omega
  have := wpAny_inv (P := P) (Q := Q) (a0 := a) hB hSp hFp (fun i o hi ho => by
      have := invHead_get (l.take n) 0 hop i o (by rw [List.getElem?_take_of_lt hi]; simpa using ho)
      rwa [Nat.zero_add] at this)
    (fun us w' hS' hF => by
      have := wpAny_of_seq (md := .any) (Q' := Q) (l.drop n) n (Region.headDone l.toArray.size n) (putAll l.toArray us n a) w' (fun j => by simp [List.getElem?_drop]) (by rw [hdl]; exact hseq) (hend us w' hS' hF)
      rwa [hdl] at this)
    n (Array.replicate l.toArray.size false) (fun j => match dstOf l.toArray j with | some d => a.tmps.getD d undef | none => undef) w.drew (by simpa using hleft n hle') inv0 hS (fun j hj hjl => by
      rw [getD_in (by simp; omega) (getD_replicate_false _ _)] at hjl; cases hjl)
  rw [putAll_self, show n + (l.toArray.size - n) = l.toArray.size by omega] at this
  exact this
end
end Go

namespace Go.Proofs.YtpodfmnnabepaaaDoor
open Go.RowKit
open Ot (Dg)
theorem Arr.keep {w w' : World} {b n : Nat} {f : Nat → UInt32} (h : Arr w b n f) (hb : Below w.heap.size w w') (hn : 0 < n) : Arr w' b n f := h.below hb (h.lt hn)
/-- A block of four cells at most. -/
def Thin (w : World) (B : Nat) : Prop := B < w.heap.size ∧ ∀ j, 4 ≤ j → w.cell? ⟨B, j, none⟩ = none
theorem Thin.new (w : World) (c : Array Value) (t : TypeId) (hc : c.size = 4) : Thin (w.alloc (.cells c t)) w.heap.size :=
  ⟨by simp, fun j hj => by rw [World.cell?_alloc_new]; exact Array.getElem?_eq_none (by omega)⟩
theorem Thin.keep {w w' : World} {B : Nat} (h : Thin w B) (hb : Below w.heap.size w w') : Thin w' B :=
  ⟨Nat.lt_of_lt_of_le h.1 hb.size, fun j hj => (hb.cell (p := ⟨B, j, none⟩) h.1).trans (h.2 j hj)⟩
theorem DgAt.set_other {w : World} {b o : Nat} {d : Dg} (h : DgAt w b o d) (a : Addr) (v : Value) (hne : a.block ≠ b) : DgAt (w.setCell a v) b o d := by
  obtain ⟨h0, h1, h2, h3⟩ := h
  refine ⟨?_, ?_, ?_, ?_⟩ <;> (rw [World.cell?_setCell_other _ _ _ _ (by intro e; exact hne (by rw [e]))]; assumption)
theorem SigAt.fill {w : World} {v : Value} {l : List Dg} {B : Nat} (h : SigAt w v l) (hB : Thin w B) (hl : 2 ≤ l.length) (v0 v1 v2 v3 : Value) :
    SigAt ((((w.setCell ⟨B,0,none⟩ v0).setCell ⟨B,1,none⟩ v1).setCell ⟨B,2,none⟩ v2).setCell ⟨B,3,none⟩ v3) v l := by
  obtain ⟨A, c, rfl, hl1, h⟩ := h
  refine ⟨A, c, rfl, hl1, fun hp => ?_⟩
  obtain ⟨b, off, rfl, hbl, hc⟩ := h hp
  have hne : B ≠ b := by
    intro e
    subst e
    have h1 := (hc 1 (by omega)).1
    rw [hB.2 (off + 1 * 4) (by omega)] at h1
    cases h1
  exact ⟨b, off, rfl, by simpa using hbl, fun i hi => (((hc i hi).set_other _ _ hne).set_other _ _ hne |>.set_other _ _ hne).set_other _ _ hne⟩
/-- Two digests, each in a block of its own. -/
def Two (b1 : Nat) (x : Dg) (b2 : Nat) (y : Dg) (w' : World) : Prop := (w'.cell? ⟨b1, 0, none⟩ = some (.int .u32 x.a.toNat) ∧ w'.cell? ⟨b1, 1, none⟩ = some (.int .u32 x.b.toNat) ∧ w'.cell? ⟨b1, 2, none⟩ = some (.int .u32 x.c.toNat) ∧ w'.cell? ⟨b1, 3, none⟩ = some (.int .u32 x.d.toNat)) ∧ w'.cell? ⟨b2, 0, none⟩ = some (.int .u32 y.a.toNat) ∧ w'.cell? ⟨b2, 1, none⟩ = some (.int .u32 y.b.toNat) ∧ w'.cell? ⟨b2, 2, none⟩ = some (.int .u32 y.c.toNat) ∧ w'.cell? ⟨b2, 3, none⟩ = some (.int .u32 y.d.toNat)
theorem Two.keep {b1 b2 : Nat} {x y : Dg} {w w' : World} (h : Two b1 x b2 y w) (hb : Below w.heap.size w w') : Two b1 x b2 y w' := by
  obtain ⟨⟨b0, b1, b2, b3⟩, c0, c1, c2, c3⟩ := h
  exact ⟨⟨cell_keep b0 hb, cell_keep b1 hb, cell_keep b2 hb, cell_keep b3 hb⟩, cell_keep c0 hb, cell_keep c1 hb, cell_keep c2 hb, cell_keep c3 hb⟩
theorem Two.of {b1 b2 : Nat} {x y : Dg} {w : World} (h1 : Arr w b1 4 (fnOf x)) (h2 : Arr w b2 4 (fnOf y)) : Two b1 x b2 y w := ⟨h1.dg, h2.dg⟩
/-- What a law's walk carries from world to world: W the world at its start. -/
def St (W : World) (b1 : Nat) (x : Dg) (b2 : Nat) (y : Dg) (lo : Nat) (w : World) : Prop := Tn w ∧ Below W.heap.size W w ∧ Two b1 x b2 y w ∧ lo ≤ w.heap.size
theorem St.keep {W : World} {b1 b2 lo : Nat} {x y : Dg} {w w' : World} (h : St W b1 x b2 y lo w) (hb : Below w.heap.size w w') : St W b1 x b2 y lo w' :=
  ⟨h.1.below hb, h.2.1.trans (hb.mono h.2.1.size), h.2.2.1.keep hb, Nat.le_trans h.2.2.2 hb.size⟩
theorem St.alloc {W : World} {b1 b2 lo : Nat} {x y : Dg} {w : World} (h : St W b1 x b2 y lo w) (o : Obj) : St W b1 x b2 y lo (w.alloc o) := h.keep ((Below.refl _ _).alloc (Nat.le_refl _) _)
theorem St.fill {W : World} {b1 b2 lo : Nat} {x y : Dg} {w : World} (h : St W b1 x b2 y lo w) {b : Nat} (hb : lo ≤ b) (hW : W.heap.size ≤ lo) (h1 : b1 < lo) (h2 : b2 < lo) (v0 v1 v2 v3 : Value) : St W b1 x b2 y lo ((((w.setCell ⟨b,0,none⟩ v0).setCell ⟨b,1,none⟩ v1).setCell ⟨b,2,none⟩ v2).setCell ⟨b,3,none⟩ v3) := by
  have hB : Below lo w ((((w.setCell ⟨b,0,none⟩ v0).setCell ⟨b,1,none⟩ v1).setCell ⟨b,2,none⟩ v2).setCell ⟨b,3,none⟩ v3) := (Below.refl _ _).fill4 hb _ _ _ _
  obtain ⟨t, hb0, ⟨⟨a0, a1, a2, a3⟩, c0, c1, c2, c3⟩, hl⟩ := h
  have k1 : ∀ {j v}, w.cell? ⟨b1, j, none⟩ = some v → ((((w.setCell ⟨b,0,none⟩ v0).setCell ⟨b,1,none⟩ v1).setCell ⟨b,2,none⟩ v2).setCell ⟨b,3,none⟩ v3).cell? ⟨b1, j, none⟩ = some v := fun {j v} hv => (hB.cell (p := ⟨b1, j, none⟩) h1).trans hv
  have k2 : ∀ {j v}, w.cell? ⟨b2, j, none⟩ = some v → ((((w.setCell ⟨b,0,none⟩ v0).setCell ⟨b,1,none⟩ v1).setCell ⟨b,2,none⟩ v2).setCell ⟨b,3,none⟩ v3).cell? ⟨b2, j, none⟩ = some v := fun {j v} hv => (hB.cell (p := ⟨b2, j, none⟩) h2).trans hv
  have k0 : ∀ {j v}, w.cell? ⟨0, j, none⟩ = some v → ((((w.setCell ⟨b,0,none⟩ v0).setCell ⟨b,1,none⟩ v1).setCell ⟨b,2,none⟩ v2).setCell ⟨b,3,none⟩ v3).cell? ⟨0, j, none⟩ = some v := fun {j v} hv => (hB.cell (p := ⟨0, j, none⟩) (by simp; omega)).trans hv
  exact ⟨⟨⟨k0 t.1.1, k0 t.1.2⟩, k0 t.2.1, k0 t.2.2⟩, hb0.fill4 (by omega) _ _ _ _, ⟨⟨k1 a0, k1 a1, k1 a2, k1 a3⟩, k2 c0, k2 c1, k2 c2, k2 c3⟩, by simpa using hl⟩
set_option maxRecDepth 100000 in
set_option maxHeartbeats 2000000 in
theorem holds_any (x m : Dg) (w : World) (ht : Tn w) : Calls Tryd.prog 5 #[dgv x, dgv m] w fun e w' => e = .returned (.bool true) ∧ Below w.heap.size w w' := by
  go_enter Tryd.func5, Tryd.ntmps5
  go_wp2_with fail
  generalize hW : (w.alloc (.cells #[.int .u32 x.a.toNat, .int .u32 x.b.toNat, .int .u32 x.c.toNat, .int .u32 x.d.toNat] 24)).alloc (.cells #[.int .u32 m.a.toNat, .int .u32 m.b.toNat, .int .u32 m.c.toNat, .int .u32 m.d.toNat] 24) = W
  have hbW : Below w.heap.size w W := by subst hW; exact ((Below.refl _ _).alloc (Nat.le_refl _) _).alloc (by simp) _
  have hx0 : Arr W w.heap.size 4 (fnOf x) := by subst hW; exact (Arr.new w 4 (fnOf x) 24 _ rfl).alloc (by simp) _
  have hm0 : Arr W (w.heap.size + 1) 4 (fnOf m) := by subst hW; exact Arr.new' _ _ 4 (fnOf m) 24 _ (by simp) rfl
  have hsW : w.heap.size + 2 ≤ W.heap.size := by subst hW; simp
  clear hW
  have hk : St w w.heap.size x (w.heap.size + 1) m (w.heap.size + 2) W.drew := ⟨ht.below hbW.drew, hbW.drew, Two.of hx0.drew hm0.drew, hsW⟩
  have hl35 := Ot.sign_length pair x m
  have hrs := Ot.reach_sign pair x m
  generalize hsg : Ot.sign pair x m = sg at *
  generalize hpb : Ot.pub pair x = pb at *
  have Hsg := Lib.hid hsg; clear hsg
  have Hpb := Lib.hid hpb; clear hpb
  have Hrs := Lib.hid hrs; clear hrs
  go_upto_region 1 with fail
  refine wp_region_inv (St w w.heap.size x (w.heap.size + 1) m (w.heap.size + 2)) (fun j v w' => match j with | 0 => v = dgv x | 1 => v = dgv m | 2 => SigAt w' v sg | 3 => v = dgv x | 4 => v = dgv pb | 5 => ∃ B, v = .pointer (some ⟨B, 0, none⟩) ∧ Arr w' B 4 (fun _ => 0) ∧ w.heap.size + 2 ≤ B ∧ Thin w' B | _ => True) 6 (by kernel_rfl) (by kernel_rfl) hk (fun _ _ h hb => h.keep hb) ?_ ?_ ?_
  · rintro (_|_|_|_|_|_|j) v w1 w2 hb h
    all_goals first | exact h | exact SigAt.below h hb | (obtain ⟨B, rfl, hz, hl, ht⟩ := h; exact ⟨B, rfl, hz.keep hb (by decide), hl, ht.keep hb⟩)
  · refine ⟨fun us wx hx hd => ?_, fun us wx hx hd => ?_, fun us wx hx hd => ?_, fun us wx hx hd => ?_, fun us wx hx hd => ?_, fun us wx hx hd => ?_, trivial⟩
    all_goals simp only [putAll, dstOf, List.getElem?_toArray, List.getElem?_cons_succ, List.getElem?_cons_zero, Option.bind_some]
    all_goals go_frame
    · obtain ⟨c0, c1, c2, c3⟩ := hx.2.2.1.1; have H := Lib.hid hx; clear hx; go_simp; first | exact Below.refl _ _ | exact ⟨by and_intros <;> rfl, Below.refl _ _⟩
    · obtain ⟨c0, c1, c2, c3⟩ := hx.2.2.1.2; have H := Lib.hid hx; clear hx; go_simp; first | exact Below.refl _ _ | exact ⟨by and_intros <;> rfl, Below.refl _ _⟩
    · rw [show us 0 = dgv x from hd 0 rfl, show us 1 = dgv m from hd 1 rfl]
      go_simp
      refine (sign_any x m _ hx.1).mono ?_
      rw [Hsg.out]
      rintro e w1 ⟨vs, rfl, hb, hown⟩
      exact ⟨_, rfl, own_sig hown, hb⟩
    · obtain ⟨c0, c1, c2, c3⟩ := hx.2.2.1.1; have H := Lib.hid hx; clear hx; go_simp; first | exact Below.refl _ _ | exact ⟨by and_intros <;> rfl, Below.refl _ _⟩
    · rw [show us 3 = dgv x from hd 3 rfl]
      go_simp
      refine (public_any x _ hx.1).mono ?_
      rw [Hpb.out]
      rintro e w1 ⟨rfl, hb⟩
      exact ⟨_, rfl, rfl, hb⟩
    · go_simp
      exact ⟨⟨Arr.new _ 4 (fun _ => 0) 24 _ rfl, hx.2.2.2, Thin.new _ _ _ rfl⟩, (Below.refl _ _).alloc (Nat.le_refl _) _⟩
  rintro us W1 hx hF
  have hsig : SigAt W1 (us 2) sg := hF 2 (by decide)
  have hpbv : us 4 = dgv pb := hF 4 (by decide)
  obtain ⟨B, hBe, hz, hBl, hthin⟩ : ∃ B, us 5 = .pointer (some ⟨B, 0, none⟩) ∧ Arr W1 B 4 (fun _ => 0) ∧ w.heap.size + 2 ≤ B ∧ Thin W1 B := hF 5 (by decide)
  clear hF
  simp only [putAll, dstOf, List.getElem?_toArray, List.getElem?_cons_succ, List.getElem?_cons_zero, Option.bind_some, List.drop_succ_cons, List.drop_zero]
  rw [hpbv, hBe]
  generalize us 0 = u0
  generalize us 1 = u1
  generalize us 3 = u3
  generalize us 2 = s5 at *
  clear hpbv hBe us
  go_frame
  have hzc := fun j h => hz.cell j h
  have hzf := fun j h => hz.free j h
  obtain ⟨⟨x0, x1, x2, x3⟩, m0, m1, m2, m3⟩ := hx.2.2.1
  have hne1 : B ≠ w.heap.size := by omega
  have hne2 : B ≠ w.heap.size + 1 := by omega
  go_wp2_with fail
  have hk2 := hx.fill hBl (by omega) (by omega) (by omega) (.int .u32 pb.a.toNat) (.int .u32 pb.b.toNat) (.int .u32 pb.c.toNat) (.int .u32 pb.d.toNat)
  have hsig2 := hsig.fill hthin (by omega) (.int .u32 pb.a.toNat) (.int .u32 pb.b.toNat) (.int .u32 pb.c.toNat) (.int .u32 pb.d.toNat)
  have hz2 := hz.fill4 (fnOf pb)
  change Arr ((((W1.setCell ⟨B,0,none⟩ (.int .u32 pb.a.toNat)).setCell ⟨B,1,none⟩ (.int .u32 pb.b.toNat)).setCell ⟨B,2,none⟩ (.int .u32 pb.c.toNat)).setCell ⟨B,3,none⟩ (.int .u32 pb.d.toNat)) B 4 (fnOf pb) at hz2
  clear x0 x1 x2 x3 m0 m1 m2 m3 hzc hzf hx hsig hz hthin hk
  generalize ((((W1.setCell ⟨B,0,none⟩ (.int .u32 pb.a.toNat)).setCell ⟨B,1,none⟩ (.int .u32 pb.b.toNat)).setCell ⟨B,2,none⟩ (.int .u32 pb.c.toNat)).setCell ⟨B,3,none⟩ (.int .u32 pb.d.toNat)) = W2 at *
  refine (reach_full m s5 sg hl35 _ hk2.1 hsig2).mono ?_
  rw [Hrs.out]
  rintro e W3 ⟨rfl, hb3⟩
  replace hk2 := hk2.keep hb3
  replace hsig2 := hsig2.below hb3
  replace hz2 := hz2.keep hb3 (by decide)
  clear hb3
  go_wp2_with fail
  have hbA : Below W3.heap.size W3 (W3.alloc (.cells #[.int .u32 pb.a.toNat, .int .u32 pb.b.toNat, .int .u32 pb.c.toNat, .int .u32 pb.d.toNat] 24)) := (Below.refl _ _).alloc (Nat.le_refl _) _
  have hy : Arr (W3.alloc (.cells #[.int .u32 pb.a.toNat, .int .u32 pb.b.toNat, .int .u32 pb.c.toNat, .int .u32 pb.d.toNat] 24)) W3.heap.size 4 (fnOf pb) := Arr.new _ _ _ _ _ rfl
  replace hk2 := hk2.keep hbA
  replace hsig2 := hsig2.below hbA
  replace hz2 := hz2.keep hbA (by decide)
  clear hbA
  generalize W3.alloc (.cells #[.int .u32 pb.a.toNat, .int .u32 pb.b.toNat, .int .u32 pb.c.toNat, .int .u32 pb.d.toNat] 24) = W4 at *
  generalize W3.heap.size = Y at *
  refine (awake_any _ hk2.1).mono ?_
  rintro e W5 ⟨rfl, hb5⟩
  replace hk2 := hk2.keep hb5
  replace hsig2 := hsig2.below hb5
  replace hz2 := hz2.keep hb5 (by decide)
  replace hy := hy.keep hb5 (by decide)
  clear hb5
  obtain ⟨m0, m1, m2, m3⟩ := hk2.2.2.1.2
  obtain ⟨z0, z1, z2, z3⟩ := hz2.dg
  go_wp2_with fail
  refine (check_full pb m s5 sg hl35 _ hk2.1 hsig2).mono ?_
  rw [Hrs.out]
  rintro e W6 ⟨rfl, hb6⟩
  clear m0 m1 m2 m3 z0 z1 z2 z3
  replace hk2 := hk2.keep hb6
  replace hz2 := hz2.keep hb6 (by decide)
  replace hy := hy.keep hb6 (by decide)
  obtain ⟨y0, y1, y2, y3⟩ := hy.dg
  obtain ⟨z0, z1, z2, z3⟩ := hz2.dg
  have heq := dg_eql pb pb
  simp only [decide_true]
  go_wp2_with fail
  exact bodyPost_ret (v := .bool true) (by simp [results, Tryd.results5, go_sem]) rfl ⟨rfl, hk2.2.1⟩
end Go.Proofs.YtpodfmnnabepaaaDoor

namespace Go.Proofs.YtpodfmnnabepaaaDoor
open Go.RowKit
open Ot (Dg)
theorem own_keep {w w' : World} {base n size : Nat} {e : TypeId} {v : Value} {xs : List Value} (h : w.ownsRow base e size v n xs) (hb : Below w.heap.size w w') : w'.ownsRow base e size v n xs :=
  h.kept (w' := w') (row := none) ⟨hb.os, hb.tape, hb.output, hb.size, fun q hq _ => hb.block q hq⟩ (by cases hv : Value.ownBlock _ <;> simp)
/-- The sign of a number below 16. -/
def sgn (d : Nat) : UInt8 := if d < 10 then UInt8.ofNat (48 + d) else UInt8.ofNat (87 + d)
def hexOf (l : List UInt8) : List UInt8 := l.flatMap fun b => [sgn (b.toNat / 16), sgn (b.toNat % 16)]
def bvs (l : List UInt8) : List Value := l.map fun b => .int .u8 (b.toNat : Nat)
theorem sgn_any (d : Nat) (hd : d ≤ 15) (w : World) : Calls Tryd.prog 74 #[.int .i64 d] w fun e w' => e = .returned (.int .u8 (sgn d).toNat) ∧ w' = w := by
  have e : ((sgn d).toNat : Int) = if (d : Int) < 10 then 48 + (d : Int) else 97 + (d : Int) - 10 := by
    unfold sgn
    by_cases h : d < 10
    · rw [if_pos h, if_pos (by omega), UInt8.toNat_ofNat']; omega
    · rw [if_neg h, if_neg (by omega), UInt8.toNat_ofNat']; omega
  rw [e]
  by_cases h : (d : Int) < 10
  · have hd1 : decide ((d : Int) < 10) = true := by simpa using h
    rw [if_pos h]
    go_enter Tryd.func74, Tryd.ntmps74
    go_wp2
    go_ret
    exact ⟨by first | rfl | (congr 2; go_num), rfl⟩
  · have hd1 : decide ((d : Int) < 10) = false := by simpa using h
    rw [if_neg h]
    go_enter Tryd.func74, Tryd.ntmps74
    go_wp2
    go_ret
    exact ⟨by first | rfl | (congr 2; go_num), rfl⟩
theorem Tryd.info5 : (Tryd.prog.info? 5).map (fun i => (i.zero, i.size, i.bytes)) = some (some (.int .u8 0), 1, 1) := by kernel_rfl
theorem hexOf_snoc (l : List UInt8) (b : UInt8) : hexOf (l ++ [b]) = hexOf l ++ [sgn (b.toNat / 16), sgn (b.toNat % 16)] := by simp [hexOf]
theorem hexOf_length (l : List UInt8) : (hexOf l).length = 2 * l.length := by
  induction l with
  | nil => rfl
  | cons b l ih => simp only [hexOf, List.flatMap_cons, List.length_append, List.length_cons, List.length_nil] at *; omega
theorem take_snoc_b (l : List UInt8) (k : Nat) (hk : k < l.length) : l.take (k + 1) = l.take k ++ [l[k]] := by
  rw [List.take_add_one, List.getElem?_eq_getElem hk]; rfl
theorem cell_two_new (w : World) (u v : Value) (t : TypeId) : ∀ j x, [u, v][j]? = some x → (w.alloc (.cells #[u, v] t)).cell? ((⟨w.heap.size, 0, none⟩ : Addr).add j) = some x := by
  intro j x hx
  rw [show (⟨w.heap.size, 0, none⟩ : Addr).add j = ⟨w.heap.size, j, none⟩ from by unfold Addr.add; split <;> simp_all, World.cell?_alloc_new, ← hx]
  simp
theorem add_at (g j : Nat) : (⟨g, 0, none⟩ : Addr).add j = ⟨g, j, none⟩ := by unfold Addr.add; split <;> simp_all
theorem cells_two {w : World} {B : Nat} {u v : Value} (h0 : w.cell? ⟨B, 0, none⟩ = some u) (h1 : w.cell? ⟨B, 1, none⟩ = some v) : ∀ j x, [u, v][j]? = some x → w.cell? ((⟨B, 0, none⟩ : Addr).add j) = some x := by
  intro j x hx
  rw [add_at]
  match j, hx with
  | 0, hx => simpa using h0.trans hx
  | 1, hx => simpa using h1.trans hx
theorem own_bytes {w : World} {base n : Nat} {v : Value} {l : List UInt8} (h : w.ownsRow base 5 1 v n (bvs l)) (hn : 0 < n) :
    ∃ g cap, v = .slice (some ⟨g, 0, none⟩) l.length cap ∧ l.length = n ∧ ∀ j (hj : j < l.length), w.cell? ((⟨g, 0, none⟩ : Addr).add j) = some (.int .u8 (l[j].toNat : Int)) := by
  have hc := h
  have hl : l.length = n := by have := h.1; simpa [bvs] using this
  rcases h.2 with ⟨rfl, h0⟩ | ⟨g, cap, cur, rfl, hb, hh, h1, h2, _⟩
  · omega
  · refine ⟨g, cap, by rw [hl], hl, fun j hj => ?_⟩
    exact hc.cells (g := g) rfl j (.int .u8 (l[j].toNat : Int)) (by simp [bvs, List.getElem?_eq_getElem hj])
set_option maxRecDepth 100000 in
set_option maxHeartbeats 2000000 in
theorem text_any (s : ByteArray) (hs : s.size ≤ 1000) (hs0 : 0 < s.size) (w : World) : Calls Tryd.prog 62 #[.string s] w fun e w' => e = .returned (.string ⟨(hexOf s.data.toList).toArray⟩) ∧ Below w.heap.size w w' := by
  obtain ⟨i0, hi, hz0, hz1, hz2⟩ := info_parts Tryd.info5
  go_enter Tryd.func62, Tryd.ntmps62
  go_wp2_with fail
  go_loopw [3, 4] (fun v i wr => ∃ k : Nat, k ≤ s.size ∧ i = .int .i64 k ∧ wr.ownsRow w.heap.size 5 1 v (2 * k) (bvs (hexOf (s.data.toList.take k))) ∧ Below w.heap.size w wr) (fun _ i wr => s.size - (intOf i).toNat)
  case atStart => exact ⟨0, by omega, rfl, World.ownsRow_nil _ _ _ _, Below.refl _ _⟩
  case round =>
    obtain ⟨k, hk, rfl, hown, hb⟩ := hrel
    by_cases hlt : k < s.size
    · have hlt' : (k : Int) < (s.size : Int) := by omega
      have hd : decide ((k : Int) < (s.size : Int)) = true := by simpa using hlt'
      have hki : 0 ≤ (k : Int) ∧ (k : Int) < (s.size : Int) := ⟨by omega, hlt'⟩
      have hb8 : (s[k]'hlt).toNat < 256 := (s[k]'hlt).toNat_lt
      have hts : s.data.toList.take (k + 1) = s.data.toList.take k ++ [s[k]'hlt] := take_snoc_b s.data.toList k (by simpa using hlt)
      have hxs : hexOf (s.data.toList.take (k + 1)) = hexOf (s.data.toList.take k) ++ [sgn ((s[k]'hlt).toNat / 16), sgn ((s[k]'hlt).toNat % 16)] := by rw [hts, hexOf_snoc]
      clear hts
      generalize hexOf (s.data.toList.take k) = xs at *
      have hix : ∀ w, (Instr.index 9 (.string s) (.int .i64 k)).run Tryd.prog w = .ok (.int .u8 ((s[k]'hlt).toNat : Nat)) w := fun w => by
        rw [run_index_string w 9 s .i64 k Tryd.underlying9, dif_pos hki]; simp
      generalize (s[k]'hlt).toNat = b at *
      have Hxs := Lib.hid hxs; clear hxs
      have q0 : IntKind.i64.wrap (b : Int) = (b : Int) := IntWalk.i64_in _ (by omega)
      have q1 : (IntKind.i64.wrap ((b : Int) / 16)) = ((b / 16 : Nat) : Int) := by rw [IntWalk.i64_in _ (by omega)]; omega
      go_upto_region 5 with fail
      refine wp_region_inv (fun wx => wx.ownsRow w.heap.size 5 1 u3 (2 * k) (bvs xs) ∧ Below w.heap.size w wx) (fun j v w' => match j with | 0 => v = u3 | 1 => v = .string s | 2 => v = .int .i64 k | 3 => v = .int .u8 b | 4 => v = .int .i64 b | 5 => v = .int .i64 (b / 16 : Nat) | 6 => v = .int .u8 (sgn (b / 16)).toNat | 7 => v = .string s | 8 => v = .int .i64 k | 9 => v = .int .u8 b | 10 => v = .int .i64 b | 11 => v = .int .i64 (b % 16 : Nat) | 12 => v = .int .u8 (sgn (b % 16)).toNat | 13 => ∃ B, v = .slice (some ⟨B, 0, none⟩) 2 2 ∧ B < w'.heap.size ∧ w'.cell? ⟨B, 0, none⟩ = some (.int .u8 (sgn (b / 16)).toNat) ∧ w'.cell? ⟨B, 1, none⟩ = some (.int .u8 (sgn (b % 16)).toNat) | _ => True) 14 (by kernel_rfl) (by kernel_rfl) ⟨hown.drew, hb.drew⟩ (fun _ _ h hb => ⟨own_keep h.1 hb, h.2.trans (hb.mono h.2.size)⟩) ?_ ?_ ?_
      · rintro (_|_|_|_|_|_|_|_|_|_|_|_|_|_|j) v w1 w2 hb h
        all_goals first | exact h | (obtain ⟨B, rfl, hB, h0, h1⟩ := h; exact ⟨B, rfl, Nat.lt_of_lt_of_le hB hb.size, cell_keep h0 hb, cell_keep h1 hb⟩)
      · refine ⟨fun us wx hx hd => ?_, fun us wx hx hd => ?_, fun us wx hx hd => ?_, fun us wx hx hd => ?_, fun us wx hx hd => ?_, fun us wx hx hd => ?_, fun us wx hx hd => ?_, fun us wx hx hd => ?_, fun us wx hx hd => ?_, fun us wx hx hd => ?_, fun us wx hx hd => ?_, fun us wx hx hd => ?_, fun us wx hx hd => ?_, fun us wx hx hd => ?_, trivial⟩
        all_goals simp only [putAll, dstOf, List.getElem?_toArray, List.getElem?_cons_succ, List.getElem?_cons_zero, Option.bind_some]
        all_goals go_frame
        · go_simp; exact Below.refl _ _
        · go_simp; exact Below.refl _ _
        · go_simp; exact Below.refl _ _
        · rw [show us 1 = .string s from hd 1 rfl, show us 2 = .int .i64 k from hd 2 rfl]
          go_simp; exact Below.refl _ _
        · rw [show us 3 = .int .u8 b from hd 3 rfl]
          go_simp
          first | exact Below.refl _ _ | exact ⟨rfl, Below.refl _ _⟩
        · rw [show us 4 = .int .i64 b from hd 4 rfl]
          go_simp
          first | exact Below.refl _ _ | exact ⟨by first | rfl | (go_num), Below.refl _ _⟩
        · rw [show us 5 = .int .i64 (b / 16 : Nat) from hd 5 rfl]
          have Hx := Lib.hid hx; clear hx
          go_simp
          refine (sgn_any (b / 16) (by omega) _).mono ?_
          rintro e w1 ⟨rfl, rfl⟩
          exact ⟨_, rfl, rfl, Below.refl _ _⟩
        · go_simp; exact Below.refl _ _
        · go_simp; exact Below.refl _ _
        · rw [show us 7 = .string s from hd 7 rfl, show us 8 = .int .i64 k from hd 8 rfl]
          go_simp; exact Below.refl _ _
        · rw [show us 9 = .int .u8 b from hd 9 rfl]
          go_simp
          first | exact Below.refl _ _ | exact ⟨rfl, Below.refl _ _⟩
        · rw [show us 10 = .int .i64 b from hd 10 rfl]
          go_simp
          first | exact Below.refl _ _ | exact ⟨by first | rfl | (go_num), Below.refl _ _⟩
        · rw [show us 11 = .int .i64 (b % 16 : Nat) from hd 11 rfl]
          have Hx := Lib.hid hx; clear hx
          go_simp
          refine (sgn_any (b % 16) (by omega) _).mono ?_
          rintro e w1 ⟨rfl, rfl⟩
          exact ⟨_, rfl, rfl, Below.refl _ _⟩
        · rw [show us 6 = .int .u8 (sgn (b / 16)).toNat from hd 6 rfl, show us 12 = .int .u8 (sgn (b % 16)).toNat from hd 12 rfl]
          have Hx := Lib.hid hx; clear hx
          go_simp
          exact (Below.refl _ _).alloc (Nat.le_refl _) _
      rintro us W1 hx hF
      have h0 : us 0 = u3 := hF 0 (by decide)
      obtain ⟨B, hB, hBl, hB0, hB1⟩ : ∃ B, us 13 = .slice (some ⟨B, 0, none⟩) 2 2 ∧ B < W1.heap.size ∧ W1.cell? ⟨B, 0, none⟩ = some (.int .u8 (sgn (b / 16)).toNat) ∧ W1.cell? ⟨B, 1, none⟩ = some (.int .u8 (sgn (b % 16)).toNat) := hF 13 (by decide)
      clear hF
      simp only [putAll, dstOf, List.getElem?_toArray, List.getElem?_cons_succ, List.getElem?_cons_zero, Option.bind_some, List.drop_succ_cons, List.drop_zero]
      rw [h0, hB]
      go_frame
      clear h0 hB
      obtain ⟨hown, hb1⟩ := hx
      have hbs := hb1.size
      go_wp2_with (at_builtin; refine wpList_append_own _ rfl _ _ 83 rfl w.heap.size 5 i0 (.int .u8 0) 1 1 Tryd.underlying83 hi hz0 hz1 hz2 rfl (by decide) _ _ _ rfl hown ⟨B, 0, none⟩ 2 2 [.int .u8 (sgn (b / 16)).toNat, .int .u8 (sgn (b % 16)).toNat] rfl rfl ?c1 ?c2 ?c3 ?c4 ?c5 ?_)
      case c1 => exact cells_two hB0 hB1
      case c2 => intro u hu; simp at hu; rcases hu with rfl | rfl <;> rfl
      case c3 => unfold maxLen; omega
      case c4 => omega
      case c5 => omega
      intro v' w4 hown1 hg1 _
      have hb7 : Below w.heap.size w w4 := hb1.grown hg1 (by omega) (fun q hq => (hown.lt q hq).1)
      clear hg1 hown hb1
      go_wp2
      go_roundw
      case rel =>
        refine ⟨k + 1, by omega, by go_num, ?_, hb7⟩
        rw [Hxs.out, show 2 * (k + 1) = 2 * k + 2 by omega]
        have : bvs (xs ++ [sgn (b / 16), sgn (b % 16)]) = bvs xs ++ [.int .u8 (sgn (b / 16)).toNat, .int .u8 (sgn (b % 16)).toNat] := by simp [bvs]
        rw [this]
        exact hown1
      case measure => simp [intOf]; omega
    · obtain rfl : k = s.size := by omega
      rw [List.take_of_length_le (by simp)] at hown
      generalize hxe : hexOf s.data.toList = xs at *
      have Hxe := Lib.hid hxe; clear hxe
      obtain ⟨g, cap, rfl, hln, hc⟩ := own_bytes hown (by omega)
      have hcv := run_convert_bytes_back (P := Tryd.prog) wr 83 9 5 ⟨g, 0, none⟩ cap xs Tryd.underlying83 Tryd.underlying5 Tryd.underlying9 hc
      rw [hln] at hcv ⊢
      have Hc := Lib.hid hc; clear hc hown
      have Hln := Lib.hid hln; clear hln
      go_wp2
      go_ret
      exact ⟨by rw [Hxe.out]; rfl, hb⟩
end Go.Proofs.YtpodfmnnabepaaaDoor

namespace Go.Proofs.YtpodfmnnabepaaaDoor
open Go.RowKit
open Ot (Dg)
/-- The four bytes of a word, the highest first. -/
def wb (u : UInt32) : List UInt8 := [UInt8.ofNat (u.toNat / 16777216), UInt8.ofNat (u.toNat / 65536), UInt8.ofNat (u.toNat / 256), UInt8.ofNat u.toNat]
def raw (m : Dg) (k : Nat) : List UInt8 := (List.range k).flatMap fun j => wb (fnOf m j)
theorem raw_succ (m : Dg) (k : Nat) : raw m (k + 1) = raw m k ++ wb (fnOf m k) := by simp [raw, List.range_succ]
theorem raw_length (m : Dg) (k : Nat) : (raw m k).length = 4 * k := by
  induction k with
  | zero => rfl
  | succ k ih => rw [raw_succ, List.length_append, ih]; simp [wb]; omega
theorem ba_append (xs ys : List UInt8) : (⟨xs.toArray⟩ : ByteArray) ++ ⟨ys.toArray⟩ = ⟨(xs ++ ys).toArray⟩ := by
  apply ByteArray.ext
  simp
def digText (m : Dg) : List UInt8 := hexOf (raw m 4)
set_option maxRecDepth 100000 in
set_option maxHeartbeats 2000000 in
theorem dtext_any (m : Dg) (w : World) : Calls Tryd.prog 45 #[dgv m] w fun e w' => e = .returned (.string ⟨(digText m).toArray⟩) ∧ Below w.heap.size w w' := by
  go_enter Tryd.func45, Tryd.ntmps45
  go_wp2_with fail
  generalize hW : w.alloc (.cells #[.int .u32 m.a.toNat, .int .u32 m.b.toNat, .int .u32 m.c.toNat, .int .u32 m.d.toNat] 24) = W
  have hbW : Below w.heap.size w W := by subst hW; exact (Below.refl _ _).alloc (Nat.le_refl _) _
  have hm0 : Arr W w.heap.size 4 (fnOf m) := by subst hW; exact Arr.new w 4 (fnOf m) 24 _ rfl
  have hsW : w.heap.size + 1 ≤ W.heap.size := by subst hW; simp
  clear hW
  go_loopw [3, 4] (fun v i wr => ∃ k : Nat, k ≤ 4 ∧ i = .int .i64 k ∧ v = .string ⟨(raw m k).toArray⟩ ∧ Below w.heap.size w wr ∧ Arr wr w.heap.size 4 (fnOf m)) (fun _ i wr => 4 - (intOf i).toNat)
  case atStart => exact ⟨0, by omega, rfl, rfl, hbW, hm0⟩
  case round =>
    obtain ⟨k, hk, rfl, rfl, hb, hm⟩ := hrel
    by_cases hlt : k < 4
    · have hk1 : (k : Int) < 4 := by omega
      have hk0 : (0 : Int) ≤ (k : Int) := by omega
      have hd : decide ((k : Int) < 4) = true := by simpa using hk1
      have hck := hm.cell k hlt
      have hsu := raw_succ m k
      have hrl := raw_length m k
      generalize fnOf m k = u at *
      generalize raw m k = xs at *
      have hu : u.toNat < 4294967296 := u.toNat_lt
      have hwb : wb u = [UInt8.ofNat (u.toNat / 16777216), UInt8.ofNat (u.toNat / 65536), UInt8.ofNat (u.toNat / 256), UInt8.ofNat u.toNat] := rfl
      generalize hb0 : UInt8.ofNat (u.toNat / 16777216) = b0 at *
      generalize hb1 : UInt8.ofNat (u.toNat / 65536) = b1 at *
      generalize hb2 : UInt8.ofNat (u.toNat / 256) = b2 at *
      generalize hb3 : UInt8.ofNat u.toNat = b3 at *
      have e0 : ((b0.toNat : Nat) : Int) = (u.toNat / 16777216 % 256 : Nat) := by rw [← hb0, UInt8.toNat_ofNat']
      have e1 : ((b1.toNat : Nat) : Int) = (u.toNat / 65536 % 256 : Nat) := by rw [← hb1, UInt8.toNat_ofNat']
      have e2 : ((b2.toNat : Nat) : Int) = (u.toNat / 256 % 256 : Nat) := by rw [← hb2, UInt8.toNat_ofNat']
      have e3 : ((b3.toNat : Nat) : Int) = (u.toNat % 256 : Nat) := by rw [← hb3, UInt8.toNat_ofNat']
      have Hsu := Lib.hid hsu; clear hsu
      have Hwb := Lib.hid hwb; clear hwb hb0 hb1 hb2 hb3
      go_upto_region 5 with fail
      refine wp_region_inv (fun wx => Below w.heap.size w wx ∧ wx.cell? ⟨w.heap.size, k, none⟩ = some (.int .u32 u.toNat) ∧ Arr wx w.heap.size 4 (fnOf m)) (fun j v w' => match j with | 0 => v = .string ⟨xs.toArray⟩ | 1 => v = .int .i64 k | 2 => v = .pointer (some ⟨w.heap.size, k, none⟩) | 3 => v = .int .u32 u.toNat | 4 => v = .int .u32 (u.toNat / 16777216 : Nat) | 5 => v = .int .u8 b0.toNat | 6 => v = .int .i64 k | 7 => v = .pointer (some ⟨w.heap.size, k, none⟩) | 8 => v = .int .u32 u.toNat | 9 => v = .int .u32 (u.toNat / 65536 : Nat) | 10 => v = .int .u8 b1.toNat | 11 => v = .int .i64 k | 12 => v = .pointer (some ⟨w.heap.size, k, none⟩) | 13 => v = .int .u32 u.toNat | 14 => v = .int .u32 (u.toNat / 256 : Nat) | 15 => v = .int .u8 b2.toNat | 16 => v = .int .i64 k | 17 => v = .pointer (some ⟨w.heap.size, k, none⟩) | 18 => v = .int .u32 u.toNat | 19 => v = .int .u8 b3.toNat | 20 => ∃ B, v = .slice (some ⟨B, 0, none⟩) 4 4 ∧ w'.cell? ⟨B, 0, none⟩ = some (.int .u8 b0.toNat) ∧ w'.cell? ⟨B, 1, none⟩ = some (.int .u8 b1.toNat) ∧ w'.cell? ⟨B, 2, none⟩ = some (.int .u8 b2.toNat) ∧ w'.cell? ⟨B, 3, none⟩ = some (.int .u8 b3.toNat) | 21 => v = .string ⟨[b0, b1, b2, b3].toArray⟩ | _ => True) 22 (by kernel_rfl) (by kernel_rfl) ⟨hb.drew, hck, hm.drew⟩ (fun _ _ h hb => ⟨h.1.trans (hb.mono h.1.size), cell_keep h.2.1 hb, h.2.2.keep hb (by decide)⟩) ?_ ?_ ?_
      · rintro (_|_|_|_|_|_|_|_|_|_|_|_|_|_|_|_|_|_|_|_|_|_|j) v w1 w2 hb h
        all_goals first | exact h | (obtain ⟨B, rfl, h0, h1, h2, h3⟩ := h; exact ⟨B, rfl, cell_keep h0 hb, cell_keep h1 hb, cell_keep h2 hb, cell_keep h3 hb⟩)
      · refine ⟨fun us wx hx hd => ?_, fun us wx hx hd => ?_, fun us wx hx hd => ?_, fun us wx hx hd => ?_, fun us wx hx hd => ?_, fun us wx hx hd => ?_, fun us wx hx hd => ?_, fun us wx hx hd => ?_, fun us wx hx hd => ?_, fun us wx hx hd => ?_, fun us wx hx hd => ?_, fun us wx hx hd => ?_, fun us wx hx hd => ?_, fun us wx hx hd => ?_, fun us wx hx hd => ?_, fun us wx hx hd => ?_, fun us wx hx hd => ?_, fun us wx hx hd => ?_, fun us wx hx hd => ?_, fun us wx hx hd => ?_, fun us wx hx hd => ?_, fun us wx hx hd => ?_, trivial⟩
        all_goals simp only [putAll, dstOf, List.getElem?_toArray, List.getElem?_cons_succ, List.getElem?_cons_zero, Option.bind_some]
        all_goals go_frame
        all_goals (obtain ⟨_, hc, _⟩ := hx)
        · go_simp; exact Below.refl _ _
        · go_simp; exact Below.refl _ _
        · rw [show us 1 = .int .i64 k from hd 1 rfl]; go_simp; exact Below.refl _ _
        · rw [show us 2 = .pointer (some ⟨w.heap.size, k, none⟩) from hd 2 rfl]; go_simp; exact Below.refl _ _
        · rw [show us 3 = .int .u32 u.toNat from hd 3 rfl]; go_simp; exact Below.refl _ _
        · rw [show us 4 = .int .u32 (u.toNat / 16777216 : Nat) from hd 4 rfl]; go_simp; first | exact Below.refl _ _ | exact ⟨by simp [IntKind.wrap, IntKind.bits, IntKind.signed], Below.refl _ _⟩ | exact ⟨by omega, Below.refl _ _⟩
        · go_simp; exact Below.refl _ _
        · rw [show us 6 = .int .i64 k from hd 6 rfl]; go_simp; exact Below.refl _ _
        · rw [show us 7 = .pointer (some ⟨w.heap.size, k, none⟩) from hd 7 rfl]; go_simp; exact Below.refl _ _
        · rw [show us 8 = .int .u32 u.toNat from hd 8 rfl]; go_simp; exact Below.refl _ _
        · rw [show us 9 = .int .u32 (u.toNat / 65536 : Nat) from hd 9 rfl]; go_simp; first | exact Below.refl _ _ | exact ⟨by simp [IntKind.wrap, IntKind.bits, IntKind.signed], Below.refl _ _⟩ | exact ⟨by omega, Below.refl _ _⟩
        · go_simp; exact Below.refl _ _
        · rw [show us 11 = .int .i64 k from hd 11 rfl]; go_simp; exact Below.refl _ _
        · rw [show us 12 = .pointer (some ⟨w.heap.size, k, none⟩) from hd 12 rfl]; go_simp; exact Below.refl _ _
        · rw [show us 13 = .int .u32 u.toNat from hd 13 rfl]; go_simp; exact Below.refl _ _
        · rw [show us 14 = .int .u32 (u.toNat / 256 : Nat) from hd 14 rfl]; go_simp; first | exact Below.refl _ _ | exact ⟨by simp [IntKind.wrap, IntKind.bits, IntKind.signed], Below.refl _ _⟩ | exact ⟨by omega, Below.refl _ _⟩
        · go_simp; exact Below.refl _ _
        · rw [show us 16 = .int .i64 k from hd 16 rfl]; go_simp; exact Below.refl _ _
        · rw [show us 17 = .pointer (some ⟨w.heap.size, k, none⟩) from hd 17 rfl]; go_simp; exact Below.refl _ _
        · rw [show us 18 = .int .u32 u.toNat from hd 18 rfl]; go_simp; first | exact Below.refl _ _ | exact ⟨by simp [IntKind.wrap, IntKind.bits, IntKind.signed], Below.refl _ _⟩ | exact ⟨by omega, Below.refl _ _⟩
        · rw [show us 5 = .int .u8 b0.toNat from hd 5 rfl, show us 10 = .int .u8 b1.toNat from hd 10 rfl, show us 15 = .int .u8 b2.toNat from hd 15 rfl, show us 19 = .int .u8 b3.toNat from hd 19 rfl]
          clear e0 e1 e2 e3
          go_simp
          exact (Below.refl _ _).alloc (Nat.le_refl _) _
        · obtain ⟨B, hB, h0, h1, h2, h3⟩ : ∃ B, us 20 = .slice (some ⟨B, 0, none⟩) 4 4 ∧ wx.cell? ⟨B, 0, none⟩ = some (.int .u8 b0.toNat) ∧ wx.cell? ⟨B, 1, none⟩ = some (.int .u8 b1.toNat) ∧ wx.cell? ⟨B, 2, none⟩ = some (.int .u8 b2.toNat) ∧ wx.cell? ⟨B, 3, none⟩ = some (.int .u8 b3.toNat) := hd 20 rfl
          rw [hB]
          have hcv := run_convert_bytes_back (P := Tryd.prog) wx 83 9 5 ⟨B, 0, none⟩ 4 [b0, b1, b2, b3] Tryd.underlying83 Tryd.underlying5 Tryd.underlying9 (by
            intro j hj
            rw [add_at]
            match j, hj with
            | 0, _ => exact h0
            | 1, _ => exact h1
            | 2, _ => exact h2
            | 3, _ => exact h3)
          simp only [List.length_cons, List.length_nil] at hcv
          clear h0 h1 h2 h3 e0 e1 e2 e3
          go_simp
          exact Below.refl _ _
      rintro us W1 hx hF
      have h0 : us 0 = .string ⟨xs.toArray⟩ := hF 0 (by decide)
      have h1 : us 21 = .string ⟨[b0, b1, b2, b3].toArray⟩ := hF 21 (by decide)
      clear hF
      simp only [putAll, dstOf, List.getElem?_toArray, List.getElem?_cons_succ, List.getElem?_cons_zero, Option.bind_some, List.drop_succ_cons, List.drop_zero]
      rw [h0, h1]
      go_frame
      clear h0 h1 e0 e1 e2 e3
      obtain ⟨hb', _, hm'⟩ := hx
      go_wp2
      go_roundw
      case rel =>
        refine ⟨k + 1, by omega, by go_num, ?_, hb', hm'⟩
        rw [Hsu.out, Hwb.out, ← ba_append]
      case measure => simp [intOf]; omega
    · obtain rfl : k = 4 := by omega
      have hsz : (⟨(raw m 4).toArray⟩ : ByteArray).size = 16 := by
        show (raw m 4).toArray.size = 16
        rw [List.size_toArray, raw_length]
      go_wp2_with fail
      refine (text_any _ (by rw [hsz]; decide) (by rw [hsz]; decide) _).mono ?_
      rintro e w2 ⟨rfl, hb2⟩
      have hr : hexOf (⟨(raw m 4).toArray⟩ : ByteArray).data.toList = digText m := rfl
      rw [hr]
      clear hr hsz
      generalize ht : digText m = t at *
      have Ht := Lib.hid ht; clear ht
      go_wp2
      go_ret
      exact ⟨by rw [Ht.out]; rfl, hb.trans (hb2.mono hb.size)⟩
theorem hexOf_wb (u : UInt32) : hexOf (wb u) = (Ot.nib u.toNat).map sgn := by
  have hu := u.toNat_lt
  simp only [hexOf, wb, List.flatMap_cons, List.flatMap_nil, List.append_nil, List.cons_append, List.nil_append, Ot.nib, List.map_cons, List.map_nil, UInt8.toNat_ofNat']
  congr 1
  · congr 1; omega
  congr 1
  · congr 1; omega
  congr 1
  · congr 1; omega
  congr 1
  · congr 1; omega
  congr 1
  · congr 1; omega
  congr 1
  · congr 1; omega
  congr 1
  · congr 1; omega
  congr 1
  · congr 1; omega
theorem digText_digs (m : Dg) : digText m = (Ot.digs m).map sgn := by
  have h : raw m 4 = wb m.a ++ wb m.b ++ wb m.c ++ wb m.d := by
    rw [show (4 : Nat) = 0 + 1 + 1 + 1 + 1 from rfl, raw_succ, raw_succ, raw_succ, raw_succ]; rfl
  have ha : ∀ x y : List UInt8, hexOf (x ++ y) = hexOf x ++ hexOf y := fun x y => by simp [hexOf]
  rw [digText, h, ha, ha, ha, hexOf_wb, hexOf_wb, hexOf_wb, hexOf_wb, Ot.digs, List.map_append, List.map_append, List.map_append]
end Go.Proofs.YtpodfmnnabepaaaDoor

namespace Go.Proofs.YtpodfmnnabepaaaDoor
open Go.RowKit
open Ot (Dg)
theorem sgn_low {d : Nat} (h : d < 10) : (sgn d).toNat = 48 + d := by unfold sgn; rw [if_pos h, UInt8.toNat_ofNat']; omega
theorem sgn_high {d : Nat} (h : ¬ d < 10) (h' : d ≤ 15) : (sgn d).toNat = 87 + d := by unfold sgn; rw [if_neg h, UInt8.toNat_ofNat']; omega
set_option maxRecDepth 100000 in
set_option maxHeartbeats 2000000 in
theorem rsteps_any (m : Dg) (w : World) : Calls Tryd.prog 20 #[dgv m] w (StepsPost w (Ot.steps m)) := by
  obtain ⟨i0, hi, hz0, hz1, hz2⟩ := info_parts Tryd.info3
  go_enter Tryd.func20, Tryd.ntmps20
  go_wp2_with fail
  have hb0 : Below w.heap.size w (w.alloc (.cells #[.int .u32 m.a.toNat, .int .u32 m.b.toNat, .int .u32 m.c.toNat, .int .u32 m.d.toNat] 24)) := (Below.refl _ _).alloc (Nat.le_refl _) _
  refine (dtext_any m _).mono ?_
  rintro e w1 ⟨rfl, hb1⟩
  have hb2 := hb0.trans (hb1.mono hb0.size)
  clear hb0 hb1
  have hsz : (⟨(digText m).toArray⟩ : ByteArray).size = 32 := by
    show (digText m).toArray.size = 32
    rw [digText_digs, List.size_toArray, List.length_map, Ot.digs_length]
  have hat : ∀ k : Nat, k < 32 → ∀ w, (Instr.index 9 (.string ⟨(digText m).toArray⟩) (.int .i64 k)).run Tryd.prog w = .ok (.int .u8 ((sgn ((Ot.digs m).getD k 0)).toNat : Nat)) w := fun k hk w => by
    rw [run_index_string w 9 _ .i64 k Tryd.underlying9, dif_pos (by rw [hsz]; omega)]
    have : ((⟨(digText m).toArray⟩ : ByteArray)[(k : Int).toNat]'(by rw [hsz]; omega)) = sgn ((Ot.digs m).getD k 0) := by
      show (digText m)[(k : Int).toNat]'_ = _
      simp only [digText_digs, List.getElem_map, Int.toNat_natCast]
      rw [List.getD_eq_getElem?_getD, List.getElem?_eq_getElem (by rw [Ot.digs_length]; exact hk)]; rfl
    rw [this]
  generalize (⟨(digText m).toArray⟩ : ByteArray) = T at *
  have Hat := Lib.hid hat; clear hat
  go_wp2_with fail
  go_loopw [4, 5, 6] (fun v sm i wr => ∃ k : Nat, k ≤ 32 ∧ i = .int .i64 k ∧ sm = .int .i64 (Ot.rest ((Ot.digs m).take k) : Nat) ∧ wr.ownsRow w1.heap.size 3 1 v k (ivs ((Ot.digs m).take k)) ∧ Below w1.heap.size w1 wr) (fun _ _ i wr => 32 - (intOf i).toNat)
  case atStart => exact ⟨0, by omega, rfl, rfl, World.ownsRow_nil _ _ _ _, Below.refl _ _⟩
  case round =>
    obtain ⟨k, hk, rfl, rfl, hown, hb⟩ := hrel
    have hbs := hb.size
    by_cases hlt : k < 32
    · have hd : decide ((k : Int) < 32) = true := by simp; omega
      have hix := Hat.out k hlt
      have hd15 : (Ot.digs m).getD k 0 ≤ 15 := by
        rw [List.getD_eq_getElem?_getD, List.getElem?_eq_getElem (by rw [Ot.digs_length]; exact hlt)]
        exact Ot.digs_le m _ (List.getElem_mem _)
      have hts := take_snoc' (Ot.digs m) k (by rw [Ot.digs_length]; exact hlt)
      have hr15 := Ot.rest_le ((Ot.digs m).take k)
      have hll : ((Ot.digs m).take k).length ≤ 32 := by rw [List.length_take, Ot.digs_length]; omega
      generalize (Ot.digs m).getD k 0 = d at *
      have Hts := Lib.hid hts; clear hts
      generalize hxs : (Ot.digs m).take k = xs at *
      have Hxs := Lib.hid hxs; clear hxs
      by_cases hd10 : d < 10
      · have hx := sgn_low hd10
        generalize (sgn d).toNat = x at *
        have qa : ((x : Int) - 48) % 256 = (d : Int) := by omega
        have qb : decide ((97 : Int) ≤ (x : Int)) = false := by simp; omega
        clear hx
        go_wp2_with (at_builtin; refine wpList_append_own _ rfl _ _ 27 rfl w1.heap.size 3 i0 (.int .i64 0) 1 8 Tryd.underlying27 hi hz0 hz1 hz2 rfl (by decide) _ _ _ rfl (hown.alloc _) ⟨wr.heap.size, 0, none⟩ 1 1 [.int .i64 d] rfl rfl ?c1 ?c2 ?c3 ?c4 ?c5 ?_)
        case c1 => exact cell_one_new _ _ _
        case c2 => intro u hu; simp at hu; subst hu; rfl
        case c3 => unfold maxLen; omega
        case c4 => omega
        case c5 => simp; omega
        intro v' w2 hown1 hg1 _
        have hb3 : Below w1.heap.size w1 w2 := (hb.alloc (by omega) _).grown hg1 (by simp; omega) (fun q hq => by have := (hown.alloc (.cells #[.int .i64 d] 3)).lt q hq; omega)
        clear hg1 hown hb
        go_wp2
        go_roundw
        case rel =>
          refine ⟨k + 1, by omega, by go_num, ?_, ?_, hb3⟩
          · rw [Hts.out, rest_snoc]
            first | (congr 1; omega) | trace_state
          · rw [Hts.out, ivs_snoc]
            exact hown1
        case measure => simp [intOf]; omega
      · have hx := sgn_high hd10 hd15
        generalize (sgn d).toNat = x at *
        have qb : decide ((97 : Int) ≤ (x : Int)) = true := by simp; omega
        have qc : ((x : Int) - 97) % 256 + 10 = (d : Int) := by omega
        clear hx
        go_wp2_with (at_builtin; refine wpList_append_own _ rfl _ _ 27 rfl w1.heap.size 3 i0 (.int .i64 0) 1 8 Tryd.underlying27 hi hz0 hz1 hz2 rfl (by decide) _ _ _ rfl (hown.alloc _) ⟨wr.heap.size, 0, none⟩ 1 1 [.int .i64 d] rfl rfl ?c1 ?c2 ?c3 ?c4 ?c5 ?_)
        case c1 => exact cell_one_new _ _ _
        case c2 => intro u hu; simp at hu; subst hu; rfl
        case c3 => unfold maxLen; omega
        case c4 => omega
        case c5 => simp; omega
        intro v' w2 hown1 hg1 _
        have hb3 : Below w1.heap.size w1 w2 := (hb.alloc (by omega) _).grown hg1 (by simp; omega) (fun q hq => by have := (hown.alloc (.cells #[.int .i64 d] 3)).lt q hq; omega)
        clear hg1 hown hb
        go_wp2
        go_roundw
        case rel =>
          refine ⟨k + 1, by omega, by go_num, ?_, ?_, hb3⟩
          · rw [Hts.out, rest_snoc]
            first | (congr 1; omega) | trace_state
          · rw [Hts.out, ivs_snoc]
            exact hown1
        case measure => simp [intOf]; omega
    · obtain rfl : k = 32 := by omega
      have e32 : (Ot.digs m).take 32 = Ot.digs m := rfl
      rw [e32] at *
      clear e32
      have hr15 := Ot.rest_le (Ot.digs m)
      rw [Ot.digs_length] at hr15
      have hp : Ot.steps m = Ot.digs m ++ [Ot.rest (Ot.digs m) / 256 % 16, Ot.rest (Ot.digs m) / 16 % 16, Ot.rest (Ot.digs m) % 16] := rfl
      have Hp := Lib.hid hp; clear hp
      have hlen := Ot.digs_length m
      generalize Ot.rest (Ot.digs m) = r at *
      generalize Ot.digs m = ds at *
      rw [List.take_of_length_le (show ds.length ≤ 32 by omega)] at hown
      have b1 : (r : Int) / 256 = ((r / 256 % 16 : Nat) : Int) := by omega
      have b2 : ((r : Int) / 16) % 16 = ((r / 16 % 16 : Nat) : Int) := by omega
      have b3 : (r : Int) % 16 = ((r % 16 : Nat) : Int) := by omega
      generalize h1 : r / 256 % 16 = x1 at *
      generalize h2 : r / 16 % 16 = x2 at *
      generalize h3 : r % 16 = x3 at *
      clear h1 h2 h3
      go_wp2_with (at_builtin; refine wpList_append_own _ rfl _ _ 27 rfl w1.heap.size 3 i0 (.int .i64 0) 1 8 Tryd.underlying27 hi hz0 hz1 hz2 rfl (by decide) _ _ _ rfl (hown.alloc _) ⟨wr.heap.size, 0, none⟩ 3 3 [.int .i64 x1, .int .i64 x2, .int .i64 x3] rfl rfl ?c1 ?c2 ?c3 ?c4 ?c5 ?_)
      case c1 => exact cell_three_new _ _ _ _ _
      case c2 => intro u hu; simp at hu; rcases hu with rfl | rfl | rfl <;> rfl
      case c3 => unfold maxLen; omega
      case c4 => omega
      case c5 => simp; omega
      intro v' w2 hown1 hg1 _
      have hb3 : Below w1.heap.size w1 w2 := (hb.alloc (by omega) _).grown hg1 (by simp; omega) (fun q hq => by have := (hown.alloc (.cells #[.int .i64 x1, .int .i64 x2, .int .i64 x3] 3)).lt q hq; omega)
      clear hg1 hown hb
      go_wp2
      go_ret
      refine ⟨v', rfl, hb2.trans (hb3.mono hb2.size), ?_⟩
      rw [Hp.out]
      have := own_base_le hown1 (B' := w.heap.size) hb2.size
      simpa [ivs, hlen] using this
end Go.Proofs.YtpodfmnnabepaaaDoor

namespace Go.Proofs.YtpodfmnnabepaaaDoor
open Go.RowKit
open Ot (Dg)
/-- A slice of 35 numbers, read. -/
def NumAt (w : World) (v : Value) (l : List Nat) : Prop := ∃ g cap, v = .slice (some ⟨g, 0, none⟩) 35 cap ∧ g < w.heap.size ∧ ∀ j, j < 35 → w.cell? ⟨g, j, none⟩ = some (.int .i64 (l.getD j 0 : Nat))
theorem NumAt.below {w w' : World} {v : Value} {l : List Nat} (h : NumAt w v l) (hb : Below w.heap.size w w') : NumAt w' v l := by
  obtain ⟨g, cap, rfl, hg, hc⟩ := h
  exact ⟨g, cap, rfl, Nat.lt_of_lt_of_le hg hb.size, fun j hj => (hb.cell (p := ⟨g, j, none⟩) hg).trans (hc j hj)⟩
theorem own_num {w : World} {base : Nat} {m : Dg} {v : Value} (h : w.ownsRow base 3 1 v (Ot.steps m).length (ivs (Ot.steps m))) : NumAt w v (Ot.steps m) := by
  obtain ⟨g, cap, rfl, _, _, _, hgl, _, hgc⟩ := own_ints h (by rw [Ot.steps_length]; decide)
  rw [Ot.steps_length] at hgc
  exact ⟨g, cap, by rw [Ot.steps_length], hgl, hgc⟩
/-- Whether one of the first k numbers of the one is less than the other's. -/
def lessU (a b : List Nat) : Nat → Bool
  | 0 => false
  | k + 1 => lessU a b k || decide (a.getD k 0 < b.getD k 0)
theorem lessU_true {a b : List Nat} : ∀ {n : Nat} (i : Nat), i < n → a.getD i 0 < b.getD i 0 → lessU a b n = true
  | 0, _, h, _ => absurd h (by omega)
  | n + 1, i, h, hi => by
    by_cases hin : i = n
    · subst hin; simp only [lessU, Bool.or_eq_true, decide_eq_true_eq]; exact .inr hi
    · simp only [lessU, Bool.or_eq_true]; exact .inl (lessU_true i (by omega) hi)
theorem lessU_self (a : List Nat) : ∀ n : Nat, lessU a a n = false
  | 0 => rfl
  | n + 1 => by simp [lessU, lessU_self a n]
theorem lessU_steps (m o : Dg) : lessU (Ot.steps m) (Ot.steps o) 35 = !decide (m = o) := by
  by_cases h : m = o
  · subst h; rw [lessU_self]; simp
  · obtain ⟨i, hi, hl⟩ := Ot.unlike h
    rw [lessU_true i hi hl]; simp [h]
set_option maxRecDepth 100000 in
set_option maxHeartbeats 2000000 in
theorem unlike_any (m o : Dg) (w : World) (ht : Tn w) : Calls Tryd.prog 7 #[dgv m, dgv o] w fun e w' => e = .returned (.bool true) ∧ Below w.heap.size w w' := by
  go_enter Tryd.func7, Tryd.ntmps7
  go_wp2_with fail
  generalize hW : (w.alloc (.cells #[.int .u32 m.a.toNat, .int .u32 m.b.toNat, .int .u32 m.c.toNat, .int .u32 m.d.toNat] 24)).alloc (.cells #[.int .u32 o.a.toNat, .int .u32 o.b.toNat, .int .u32 o.c.toNat, .int .u32 o.d.toNat] 24) = W
  have hbW : Below w.heap.size w W := by subst hW; exact ((Below.refl _ _).alloc (Nat.le_refl _) _).alloc (by simp) _
  have hx0 : Arr W w.heap.size 4 (fnOf m) := by subst hW; exact (Arr.new w 4 (fnOf m) 24 _ rfl).alloc (by simp) _
  have hm0 : Arr W (w.heap.size + 1) 4 (fnOf o) := by subst hW; exact Arr.new' _ _ 4 (fnOf o) 24 _ (by simp) rfl
  have hsW : w.heap.size + 2 ≤ W.heap.size := by subst hW; simp
  clear hW
  have hk : St w w.heap.size m (w.heap.size + 1) o (w.heap.size + 2) W.drew := ⟨ht.below hbW.drew, hbW.drew, Two.of hx0.drew hm0.drew, hsW⟩
  have hls := lessU_steps m o
  have hms := lessU_steps o m
  have ham := Ot.steps_at_le m
  have hao := Ot.steps_at_le o
  generalize hA : Ot.steps m = A at *
  generalize hO : Ot.steps o = O at *
  have HA := Lib.hid hA; clear hA
  have HO := Lib.hid hO; clear hO
  go_upto_region 1 with fail
  refine wp_region_inv (St w w.heap.size m (w.heap.size + 1) o (w.heap.size + 2)) (fun j v w' => match j with | 0 => v = dgv m | 1 => NumAt w' v A | 2 => v = dgv o | 3 => NumAt w' v O | _ => True) 4 (by kernel_rfl) (by kernel_rfl) hk (fun _ _ h hb => h.keep hb) ?_ ?_ ?_
  · rintro (_|_|_|_|j) v w1 w2 hb h
    all_goals first | exact h | exact NumAt.below h hb
  · refine ⟨fun us wx hx hd => ?_, fun us wx hx hd => ?_, fun us wx hx hd => ?_, fun us wx hx hd => ?_, trivial⟩
    all_goals simp only [putAll, dstOf, List.getElem?_toArray, List.getElem?_cons_succ, List.getElem?_cons_zero, Option.bind_some]
    all_goals go_frame
    · obtain ⟨c0, c1, c2, c3⟩ := hx.2.2.1.1; have H := Lib.hid hx; clear hx; go_simp; first | exact Below.refl _ _ | exact ⟨by and_intros <;> rfl, Below.refl _ _⟩
    · rw [show us 0 = dgv m from hd 0 rfl]
      go_simp
      refine (steps_any m _).mono ?_
      rintro e w1 ⟨vs, rfl, hb, hown⟩
      refine ⟨_, rfl, ?_, hb⟩
      rw [← HA.out]; exact own_num hown
    · obtain ⟨c0, c1, c2, c3⟩ := hx.2.2.1.2; have H := Lib.hid hx; clear hx; go_simp; first | exact Below.refl _ _ | exact ⟨by and_intros <;> rfl, Below.refl _ _⟩
    · rw [show us 2 = dgv o from hd 2 rfl]
      go_simp
      refine (steps_any o _).mono ?_
      rintro e w1 ⟨vs, rfl, hb, hown⟩
      refine ⟨_, rfl, ?_, hb⟩
      rw [← HO.out]; exact own_num hown
  rintro us W1 hx hF
  have hn1 : NumAt W1 (us 1) A := hF 1 (by decide)
  have hn3 : NumAt W1 (us 3) O := hF 3 (by decide)
  clear hF
  simp only [putAll, dstOf, List.getElem?_toArray, List.getElem?_cons_succ, List.getElem?_cons_zero, Option.bind_some, List.drop_succ_cons, List.drop_zero]
  generalize us 0 = u0
  generalize us 2 = u2
  generalize us 1 = s1 at *
  generalize us 3 = s3 at *
  clear us
  obtain ⟨g, cap, rfl, hgl, hg⟩ := hn1
  obtain ⟨g', cap', rfl, hgl', hg'⟩ := hn3
  have Hg := Lib.hid hg; clear hg
  have Hg' := Lib.hid hg'; clear hg'
  have Ham := Lib.hid ham; clear ham
  have Hao := Lib.hid hao; clear hao
  have Hls := Lib.hid hls; clear hls
  have Hms := Lib.hid hms; clear hms
  clear hk hx0 hm0
  go_frame
  obtain ⟨wo, rfl⟩ : ∃ wo : World, wo = W1 := ⟨_, rfl⟩
  go_wp2_with fail
  go_loopw [7, 8, 9] (fun l r i wr => ∃ k : Nat, k ≤ 35 ∧ l = .bool (lessU A O k) ∧ r = .bool (lessU O A k) ∧ i = .int .i64 k ∧ Below wo.heap.size wo wr) (fun _ _ i wr => 35 - (intOf i).toNat)
  case atStart => exact ⟨0, by omega, rfl, rfl, rfl, Below.refl _ _⟩
  case round =>
    obtain ⟨k, hk, rfl, rfl, rfl, hb⟩ := hrel
    by_cases hlt : k < 35
    · have ca := (hb.cell (p := ⟨g, k, none⟩) hgl).trans (Hg.out k hlt)
      have cb := (hb.cell (p := ⟨g', k, none⟩) hgl').trans (Hg'.out k hlt)
      have ha15 := Ham.out k
      have hb15 := Hao.out k
      have e1 : lessU A O (k + 1) = (lessU A O k || decide (A.getD k 0 < O.getD k 0)) := rfl
      have e2 : lessU O A (k + 1) = (lessU O A k || decide (O.getD k 0 < A.getD k 0)) := rfl
      generalize A.getD k 0 = a at *
      generalize O.getD k 0 = bb at *
      generalize lessU A O k = lk at *
      generalize lessU O A k = rk at *
      have E1 := Lib.hid e1; clear e1
      have E2 := Lib.hid e2; clear e2
      have hk1 : (k : Int) < 35 := by omega
      have hk0 : (0 : Int) ≤ (k : Int) := by omega
      have hd : decide ((k : Int) < 35) = true := by simp; omega
      have t0 : decide ((a : Int) < 0) = false := by simp
      have t1 : decide ((15 : Int) < (a : Int)) = false := by simp; omega
      cases lk <;> cases rk
      all_goals
        go_wp2_with fail
        go_quiet (fail)
        go_wp2_with fail
        go_quiet (fail)
        go_wp2
        go_roundw
        case rel => exact ⟨k + 1, by omega, by rw [E1.out]; simp, by rw [E2.out]; simp, by go_num, pw_drewN hb _⟩
        case measure => simp [intOf]; omega
    · obtain rfl : k = 35 := by omega
      have hkr := hx.keep hb
      obtain ⟨x0, x1, x2, x3⟩ := hkr.2.2.1.1
      obtain ⟨m0, m1, m2, m3⟩ := hkr.2.2.1.2
      have hq := dg_neq m o
      have hms2 : lessU O A 35 = !decide (m = o) := by rw [Hms.out]; congr 1; exact decide_eq_decide.2 eq_comm
      rw [Hls.out, hms2]
      clear hms2
      generalize (!decide (m = o)) = q at *
      have hbb : Below w.heap.size w wr := hkr.2.1
      go_wp2_with fail
      refine (awake_any _ hkr.1).mono ?_
      rintro e W5 ⟨rfl, hb5⟩
      replace hkr := hkr.keep hb5
      clear x0 x1 x2 x3 m0 m1 m2 m3
      obtain ⟨x0, x1, x2, x3⟩ := hkr.2.2.1.1
      obtain ⟨m0, m1, m2, m3⟩ := hkr.2.2.1.2
      cases q
      all_goals
        go_wp2_with fail
        exact bodyPost_ret (v := .bool true) (by simp [results, Tryd.results7, go_sem]) rfl ⟨rfl, hkr.2.1⟩
end Go.Proofs.YtpodfmnnabepaaaDoor

namespace Go.Proofs.YtpodfmnnabepaaaDoor
open Go.RowKit
open Ot (Dg)
set_option maxRecDepth 100000 in
theorem ints_any (v u : Value) (l : List Nat) (w : World) (hv : NumAt w v l) (hu : NumAt w u l) : Calls Tryd.prog 18 #[v, u] w fun e w' => e = .returned (.bool true) ∧ Below w.heap.size w w' := by
  obtain ⟨g, cap, rfl, hgl, hg⟩ := hv
  obtain ⟨g', cap', rfl, hgl', hg'⟩ := hu
  have Hg := Lib.hid hg; clear hg
  have Hg' := Lib.hid hg'; clear hg'
  go_enter Tryd.func18, Tryd.ntmps18
  go_wp2_with fail
  go_loopw [5] (fun i wr => ∃ k : Nat, k ≤ 35 ∧ i = .int .i64 k ∧ Below w.heap.size w wr) (fun i wr => 35 - (intOf i).toNat)
  case atStart => exact ⟨0, by omega, rfl, Below.refl _ _⟩
  case round =>
    obtain ⟨k, hk, rfl, hb⟩ := hrel
    by_cases hlt : k < 35
    · have ca := (hb.cell (p := ⟨g, k, none⟩) hgl).trans (Hg.out k hlt)
      have cb := (hb.cell (p := ⟨g', k, none⟩) hgl').trans (Hg'.out k hlt)
      generalize l.getD k 0 = a at *
      have hk1 : (k : Int) < 35 := by omega
      have hk0 : (0 : Int) ≤ (k : Int) := by omega
      have hd : decide ((k : Int) < 35) = true := by simp; omega
      go_wp2_with fail
      go_quiet (fail)
      go_wp2
      go_roundw
      case rel => exact ⟨k + 1, by omega, by go_num, pw_drewN hb _⟩
      case measure => simp [intOf]; omega
    · obtain rfl : k = 35 := by omega
      go_wp2
      go_ret
      exact ⟨rfl, hb⟩
end Go.Proofs.YtpodfmnnabepaaaDoor

namespace Go
open Go.RowKit
section
variable {P : Program} {ops : Array Oper} {md : Region.Mode}
def Region.invGB (md : Region.Mode) (ops : Array Oper) (n : Nat) : Bool :=
  decide (n ≤ ops.size) && (decide (n = ops.size) || (Region.sinkB md ops n && Region.chainB md ops n)) &&
  ((List.range n).all fun i => match ops[i]? with | some o => o.after.toList.all (fun e => decide (e.on < i)) | none => false) &&
  ((List.range n).all fun i => (List.range n).all fun j => decide (i = j) || decide (dstOf ops i = none) || decide (dstOf ops i ≠ dstOf ops j)) &&
  Region.seqB md ops (ops.size - n) n (Region.headDone ops.size n)

/-- Operation i's part: it is wanted and yields, or it is not wanted. -/
def OpYieldsG (P : Program) (md : Region.Mode) (ops : Array Oper) (S : World → Prop) (F : Nat → Value → World → Prop) (n : Nat) (a0 : Act) (i : Nat) (o : Oper) : Prop :=
  ∀ (us : Nat → Value) (w : World), S w → (∀ j, (o.after.toList.any fun e => Region.binds md e && decide (e.on = j)) = true → F j (us j) w) →
    (Region.wanted o (yielded ops (putAll ops us n a0).tmps) = true ∧ GivesK P (fun v w' => F i v w' ∧ Below w.heap.size w w') ((execOp (putAll ops us n a0).eval o).run P w)) ∨
    (Region.wanted o (yielded ops (putAll ops us n a0).tmps) = false ∧ F i undef w)

theorem OpYieldsG.wpOp {F : Nat → Value → World → Prop} {n : Nat} {a0 : Act} {Q : Exit → Act → World → Prop} {i : Nat} {o : Oper} {us : Nat → Value} {w : World} (hi : ops[i]? = some o)
    (h0 : (Region.wanted o (yielded ops (putAll ops us n a0).tmps) = true ∧ GivesK P (fun v w' => F i v w' ∧ Below w.heap.size w w') ((execOp (putAll ops us n a0).eval o).run P w)) ∨ (Region.wanted o (yielded ops (putAll ops us n a0).tmps) = false ∧ F i undef w))
    {K : Act → World → Prop} (h : ∀ v w', F i v w' ∧ Below w.heap.size w w' → K ((putAll ops us n a0).put o.dst v) w') : wpOp P ops Q i K (putAll ops us n a0) w := by
  generalize putAll ops us n a0 = a at *
  unfold Go.wpOp
  simp only [hi]
  rcases h0 with ⟨hw, h0⟩ | ⟨hw, h0⟩
  · rw [if_pos hw]
    refine .inl ?_
    unfold Oper.wp
    generalize (execOp a.eval o).run P w = r at h0
    cases r with
    | ok n w' =>
      cases n <;> simp only [GivesK] at h0
      case value u => exact h _ _ h0
      case skip => exact h _ _ h0
      case enter f args =>
        rw [Oper.upon_enter]
        refine h0.mono fun e w'' he => ?_
        obtain ⟨v, rfl, h2⟩ := he
        exact h v w'' h2
    | halt x w' => exact h0.elim
  · rw [if_neg (by rw [hw]; decide)]
    exact h _ _ ⟨h0, Below.refl _ _⟩

def invHeadG (P : Program) (md : Region.Mode) (ops : Array Oper) (S : World → Prop) (F : Nat → Value → World → Prop) (n : Nat) (a0 : Act) : List Oper → Nat → Prop
  | [], _ => True
  | o :: l, k => OpYieldsG P md ops S F n a0 k o ∧ invHeadG P md ops S F n a0 l (k + 1)

theorem invHeadG_get {S : World → Prop} {F : Nat → Value → World → Prop} {n : Nat} {a0 : Act} : ∀ (l : List Oper) (k : Nat), invHeadG P md ops S F n a0 l k → ∀ j o, l[j]? = some o → OpYieldsG P md ops S F n a0 (k + j) o
  | [], _, _, _, _, h => by simp at h
  | x :: l, k, h, 0, o, ho => by obtain rfl : x = o := by simpa using ho
                                 exact h.1
  | x :: l, k, h, j + 1, o, ho => by
    have := invHeadG_get l (k + 1) h.2 j o (by simpa using ho)
    rwa [show k + 1 + j = k + (j + 1) by omega] at this

theorem invGB_spec {n : Nat} (h : Region.invGB md ops n = true) : n ≤ ops.size ∧ (n = ops.size ∨ (Region.sinkB md ops n = true ∧ Region.chainB md ops n = true)) ∧
    (∀ i, i < n → ∃ o, ops[i]? = some o ∧ ∀ e ∈ o.after, e.on < i) ∧ (∀ j k, j < n → k < n → j ≠ k → dstOf ops j = none ∨ dstOf ops j ≠ dstOf ops k) ∧ Region.seqB md ops (ops.size - n) n (Region.headDone ops.size n) = true := by
  simp only [Region.invGB, Bool.and_eq_true, decide_eq_true_eq, Bool.or_eq_true] at h
  obtain ⟨⟨⟨⟨h1, h2⟩, h3⟩, h4⟩, h5⟩ := h
  refine ⟨h1, h2, fun i hi => ?_, fun j k hj hk hjk => ?_, h5⟩
  · have := List.all_eq_true.1 h3 i (List.mem_range.2 hi)
    revert this
    cases ho : ops[i]? with
    | none => simp
    | some o =>
      intro this
      exact ⟨o, rfl, fun e he => by simpa using (List.all_eq_true.1 this e (by simpa using he))⟩
  · have := List.all_eq_true.1 (List.all_eq_true.1 h4 j (List.mem_range.2 hj)) k (List.mem_range.2 hk)
    simp only [Bool.or_eq_true, decide_eq_true_eq] at this
    rcases this with (h | h) | h
    · exact absurd h hjk
    · exact .inl h
    · exact .inr h

theorem wpAny_invG {S : World → Prop} {F : Nat → Value → World → Prop} {n : Nat} {a0 : Act} {Q : Exit → Act → World → Prop} (hB : Region.invGB md ops n = true)
    (hSp : ∀ w w', S w → Below w.heap.size w w' → S w') (hFp : ∀ j v w w', Below w.heap.size w w' → F j v w → F j v w') (hop : ∀ i o, i < n → ops[i]? = some o → OpYieldsG P md ops S F n a0 i o)
    (hend : ∀ us w, S w → (∀ j, j < n → F j (us j) w) → wpAny P md ops Q (ops.size - n) (Region.headDone ops.size n) (putAll ops us n a0) w) :
    ∀ (f : Nat) (listed : Array Bool) (us : Nat → Value) (w : World), unlistedN listed n = f → HeadInv md ops n listed → S w → (∀ j, j < n → listed.getD j true = true → F j (us j) w) →
      wpAny P md ops Q (f + (ops.size - n)) listed (putAll ops us n a0) w := by
  obtain ⟨hle, hsc, hops, hdst, _⟩ := invGB_spec hB
  intro f
  induction f with
  | zero =>
    intro listed us w hl inv hS hF
    have hdone : listed = Region.headDone ops.size n := by
      apply Array.ext
      · simp [Region.headDone, inv.size]
      · intro j h1 h2
        have hv : listed.getD j true = listed[j] := by simp [h1]
        have : (Region.headDone ops.size n)[j] = decide (j < n) := by simp [Region.headDone]
        rw [this]
        by_cases hjn : j < n
        · rw [← hv, unlistedN_zero hl j hjn]; simp [hjn]
        · rw [← hv, inv.tail j (by omega) (by rw [← inv.size]; exact h1)]; simp [hjn]
    rw [Nat.zero_add, hdone]
    exact hend us w hS fun j hj => hF j hj (unlistedN_zero hl j hj)
  | succ f ih =>
    intro listed us w hl inv hS hF
    obtain ⟨k, hk, hku, hkl⟩ := unlistedN_pos (n := n) (listed := listed) (by omega)
    have hkr : k ∈ Region.ready md ops listed := by
      obtain ⟨o, ho, hlt⟩ := hops k hk
      refine mem_ready.2 ⟨hku, o, ho, fun e he _ => ?_⟩
      have h1 := hkl e.on (hlt e he)
      have h2 : e.on < listed.size := by rw [inv.size]; have := hlt e he; omega
      simp [h2] at h1 ⊢; exact h1
    rw [show f + 1 + (ops.size - n) = (f + (ops.size - n)) + 1 by omega]
    refine ⟨fun h0 => (by rw [h0] at hkr; cases hkr), fun i hi => ?_⟩
    obtain ⟨hiu, oi, hoi, hall⟩ := mem_ready.1 hi
    have hin : i < n := by
      rcases hsc with h | ⟨h1, h2⟩
      · rcases Nat.lt_or_ge i n with h' | h'
        · exact h'
        · rw [Array.getElem?_eq_none (by omega)] at hoi; cases hoi
      · rcases Nat.lt_or_ge n ops.size with h' | h'
        · exact Nat.lt_of_not_le fun h => tail_waits h1 h2 h' inv _ k rfl hk hku i h hi
        · rcases Nat.lt_or_ge i n with h'' | h''
          · exact h''
          · rw [Array.getElem?_eq_none (by omega)] at hoi; cases hoi
    obtain ⟨o', ho', _⟩ := hops i hin
    obtain rfl : oi = o' := Option.some.inj (hoi.symm.trans ho')
    have hd : dstOf ops i = oi.dst := by simp [dstOf, hoi]
    refine OpYieldsG.wpOp hoi (hop i oi hin hoi us w hS fun j hj => ?_) fun v w' hv => ?_
    · obtain ⟨e, he, hb⟩ : ∃ e ∈ oi.after, Region.binds md e = true ∧ e.on = j := by
        obtain ⟨e, he, hb⟩ := List.any_eq_true.1 hj
        exact ⟨e, by simpa using he, by simpa using hb⟩
      have h1 := hall e he hb.1
      rw [hb.2] at h1
      have hjn : j < n := by
        obtain ⟨o2, ho2, hlt⟩ := hops i hin
        obtain rfl : oi = o2 := Option.some.inj (hoi.symm.trans ho2)
        have := hlt e he; omega
      have h2 : j < listed.size := by rw [inv.size]; omega
      exact hF j hjn (by simp [h2] at h1 ⊢; exact h1)
    · rw [← hd, putAll_put n a0 hdst hin]
      refine ih _ (updV us i v) w' ?_ (inv.set hi hin) (hSp _ _ hS hv.2) fun j hj hjl => ?_
      · have := unlistedN_set hiu hin; omega
      · by_cases hji : j = i
        · subst hji; simpa [updV] using hv.1
        · rw [getD_set_ne true (Ne.symm hji)] at hjl
          simpa [updV, hji] using hFp j _ _ _ hv.2 (hF j hj hjl)

/-- THE LAW. -/
theorem wp_region_invG {id : Nat} {Q : Exit → Act → World → Prop} {a : Act} {w : World} {l : List Oper} (S : World → Prop) (F : Nat → Value → World → Prop) (n : Nat) (hm : P.follows .mixedOrders = true) (hB : Region.invGB .any l.toArray n = true)
    (hS : S w.drew) (hSp : ∀ w w', S w → Below w.heap.size w w' → S w') (hFp : ∀ j v w w', Below w.heap.size w w' → F j v w → F j v w')
    (hop : invHeadG P .any l.toArray S F n a (l.take n) 0)
    (hend : ∀ us w', S w' → (∀ j, j < n → F j (us j) w') → wpList P l.toArray Q (l.drop n) (putAll l.toArray us n a) w') : (Code.region id l.toArray true).wp P Q a w := by
  obtain ⟨hle, _, _, _, hseq⟩ := invGB_spec hB
  have hdl : (l.drop n).length = l.toArray.size - n := by simp
  have inv0 : HeadInv .any l.toArray n (Array.replicate l.toArray.size false) :=
    ⟨by simp, fun j oj _ hl => (by rw [getD_replicate_false] at hl; cases hl), fun t _ ht => getD_in (by simpa using ht) (getD_replicate_false _ _)⟩
  have hle' : n ≤ l.length := by simpa using hle
  refine wp_region_any hm ?_
  have hleft : ∀ m, m ≤ l.length → unlistedN (Array.replicate l.length false) m = m := by
    intro m
    induction m with
    | zero => intro _; rfl
    | succ m ih => intro hm; simp only [unlistedN]; rw [ih (by omega), getD_in (by simp; omega) (getD_replicate_false _ _)]; simp; omega
  have := wpAny_invG (P := P) (Q := Q) (a0 := a) hB hSp hFp (fun i o hi ho => by
      have := invHeadG_get (l.take n) 0 hop i o (by rw [List.getElem?_take_of_lt hi]; simpa using ho)
      rwa [Nat.zero_add] at this)
    (fun us w' hS' hF => by
      have := wpAny_of_seq (md := .any) (Q' := Q) (l.drop n) n (Region.headDone l.toArray.size n) (putAll l.toArray us n a) w' (fun j => by simp [List.getElem?_drop]) (by rw [hdl]; exact hseq) (hend us w' hS' hF)
      rwa [hdl] at this)
    n (Array.replicate l.toArray.size false) (fun j => match dstOf l.toArray j with | some d => a.tmps.getD d undef | none => undef) w.drew (by simpa using hleft n hle') inv0 hS (fun j hj hjl => by
      rw [getD_in (by simp; omega) (getD_replicate_false _ _)] at hjl; cases hjl)
  rw [show putAll l.toArray (fun j => match dstOf l.toArray j with | some d => a.tmps.getD d undef | none => undef) n a = a from putAll_self a n, show n + (l.toArray.size - n) = l.toArray.size by omega] at this
  exact this
end
end Go

namespace Go.Proofs.YtpodfmnnabepaaaDoor
open Go.RowKit
open Ot (Dg)
set_option maxRecDepth 100000 in
theorem rwalk_any (x : Dg) (n : Nat) (hn : n ≤ 9223372036854775807) (w : World) :
    Calls Tryd.prog 31 #[dgv x, .int .i64 n] w fun e w' => e = .returned (dgv (Ot.walk pair x n)) ∧ Below w.heap.size w w' := by
  go_enter Tryd.func31, Tryd.ntmps31
  go_wp2
  go_loopw [5] (fun i wr => ∃ k : Nat, k ≤ n ∧ i = .int .i64 k ∧ Arr wr w.heap.size 4 (fnOf (Ot.walk pair x k)) ∧ Arr wr (w.heap.size+1) 4 (fnOf Ot.zeroD) ∧ Below w.heap.size w wr ∧ w.heap.size + 2 ≤ wr.heap.size) (fun i wr => n - (intOf i).toNat)
  case atStart =>
    refine ⟨0, by omega, rfl, ?_, ?_, ((Below.refl _ _).alloc (Nat.le_refl _) _).alloc (by simp) _, by simp⟩
    · exact (Arr.new w 4 (fnOf x) 24 _ rfl).alloc (by simp) _
    · exact Arr.new' _ _ 4 _ 24 _ (by simp) rfl
  case round =>
    obtain ⟨k, hk, rfl, ha, hz, hb, hs⟩ := hrel
    generalize hy : Ot.walk pair x k = y at *
    have Hy := Lib.hid hy; clear hy
    obtain ⟨c0, c1, c2, c3⟩ := ha.dg
    by_cases hlt : k < n
    · go_wp2_with (go_at_call 53; refine (rpair_any y Ot.one _).mono ?_; rintro e w1 ⟨rfl, hb1⟩; have ha1 := ha.below hb1 (by omega); obtain ⟨d0, d1, d2, d3⟩ := ha1.dg; have hf := fun j h => ha1.free j h)
      go_roundw
      case rel =>
        refine ⟨k + 1, by omega, by go_num, ?_, ?_, ?_, ?_⟩
        · have e : Ot.walk pair x (k + 1) = pair y Ot.one := by rw [← Hy.out]; rfl
          rw [e]; exact ha1.fill4 (fnOf (pair y Ot.one))
        · exact ((((hz.below hb1 (by omega)).set_other _ _ (by simp)).set_other _ _ (by simp)).set_other _ _ (by simp)).set_other _ _ (by simp)
        · exact (hb.trans (hb1.mono (by omega))).fill4 (by omega) _ _ _ _
        · have := hb1.size; simp; omega
      case measure => simp [intOf]; omega
    · obtain rfl : k = n := by omega
      obtain ⟨d0, d1, d2, d3⟩ := hz.dg
      have hf := fun j h => hz.free j h
      go_wp2
      refine bodyPost_ret (v := dgv y) (by simp [results, Tryd.results31, go_sem, d0, d1, d2, d3]) rfl ⟨by rw [Hy.out], ?_⟩
      exact hb.fill4 (by omega) _ _ _ _
set_option maxRecDepth 100000 in
theorem rbeg_any (x : Dg) (i : Nat) (hi : i < 4294967296) (w : World) :
    Calls Tryd.prog 50 #[dgv x, .int .i64 i] w fun e w' => e = .returned (dgv (Ot.beg pair x i)) ∧ Below w.heap.size w w' := by
  obtain ⟨u, rfl⟩ : ∃ u : UInt32, u.toNat = i := ⟨UInt32.ofNat i, by rw [UInt32.toNat_ofNat']; omega⟩
  have hu := u.toNat_lt
  have e : Ot.beg pair x u.toNat = pair x ⟨u, 0, 0, 0⟩ := by simp only [Ot.beg, UInt32.ofNat_toNat]
  rw [e]
  clear e
  go_enter Tryd.func50, Tryd.ntmps50
  go_wp2_with fail
  have hb0 : Below w.heap.size w ((w.alloc (.cells #[.int .u32 x.a.toNat, .int .u32 x.b.toNat, .int .u32 x.c.toNat, .int .u32 x.d.toNat] 24)).alloc (.cells #[.int .u32 0, .int .u32 0, .int .u32 0, .int .u32 0] 24)) := ((Below.refl _ _).alloc (Nat.le_refl _) _).alloc (by simp) _
  refine (rpair_any x ⟨u, 0, 0, 0⟩ _).mono ?_
  rintro e w1 ⟨rfl, hb1⟩
  have hz := (Arr.new' (w.alloc (.cells #[.int .u32 x.a.toNat, .int .u32 x.b.toNat, .int .u32 x.c.toNat, .int .u32 x.d.toNat] 24)) (w.heap.size + 1) 4 (fnOf Ot.zeroD) 24 #[.int .u32 0, .int .u32 0, .int .u32 0, .int .u32 0] (by simp) rfl).below hb1 (by simp)
  have hb2 := hb0.trans (hb1.mono (by simp <;> omega))
  clear hb0 hb1
  generalize hy : pair x ⟨u, 0, 0, 0⟩ = y
  have Hy := Lib.hid hy; clear hy
  obtain ⟨d0, d1, d2, d3⟩ := hz.dg
  have hf := fun j h => hz.free j h
  go_wp2
  exact bodyPost_ret (v := dgv y) (by simp [results, Tryd.results50, go_sem, d0, d1, d2, d3]) rfl ⟨by rw [Hy.out], hb2.fill4 (by omega) _ _ _ _⟩
/-- The fold of a row of digests, as the reference has it. -/
noncomputable def ofK (l : List Dg) : Dg := l.foldl pair ⟨35, 0, 0, 0⟩
set_option maxRecDepth 100000 in
set_option maxHeartbeats 1000000 in
theorem of_any (v : Value) (l : List Dg) (w : World) (hv : SigAt w v l) :
    Calls Tryd.prog 51 #[v] w fun e w' => e = .returned (dgv (ofK l)) ∧ Below w.heap.size w w' := by
  obtain ⟨A, c, rfl, hl1, hc⟩ := hv
  go_enter Tryd.func51, Tryd.ntmps51
  go_wp2_with fail
  generalize hW : ((w.alloc (.cells #[.int .u32 0, .int .u32 0, .int .u32 0, .int .u32 0] 24)).alloc (.cells #[.int .u32 35, .int .u32 0, .int .u32 0, .int .u32 0] 24)) = W
  have hb0 : Below w.heap.size w W := by subst hW; exact ((Below.refl _ _).alloc (Nat.le_refl _) _).alloc (by simp) _
  have hz0 : Arr W w.heap.size 4 (fnOf Ot.zeroD) := by subst hW; exact (Arr.new w 4 (fnOf Ot.zeroD) 24 _ rfl).alloc (by simp) _
  have ha0 : Arr W (w.heap.size + 1) 4 (fnOf ⟨35, 0, 0, 0⟩) := by subst hW; exact Arr.new' _ _ 4 (fnOf ⟨35, 0, 0, 0⟩) 24 _ (by simp) rfl
  have hs0 : w.heap.size + 2 ≤ W.heap.size := by subst hW; simp
  clear hW
  go_loopw [4] (fun i wr => ∃ k : Nat, k ≤ l.length ∧ i = .int .i64 k ∧ Arr wr (w.heap.size + 1) 4 (fnOf (ofK (l.take k))) ∧ Arr wr w.heap.size 4 (fnOf Ot.zeroD) ∧ Below w.heap.size w wr ∧ w.heap.size + 2 ≤ wr.heap.size) (fun i wr => l.length - (intOf i).toNat)
  case atStart => exact ⟨0, by omega, rfl, ha0, hz0, hb0, hs0⟩
  case round =>
    obtain ⟨k, hk, rfl, ha, hz, hb, hs⟩ := hrel
    by_cases hlt : k < l.length
    · obtain ⟨b, off, rfl, hbl, hcell⟩ := hc (by omega)
      have hck := (hcell k hlt).below hb hbl
      have hts : ofK (l.take (k + 1)) = pair (ofK (l.take k)) (l.getD k Ot.zeroD) := by
        rw [take_snoc_d l k hlt, ofK, List.foldl_append]; rfl
      generalize hy : ofK (l.take k) = y at *
      generalize hd0 : l.getD k Ot.zeroD = d at *
      generalize hp : pair y d = z at *
      have Hp := Lib.hid hp; have Hts := Lib.hid hts; have Hy := Lib.hid hy; have Hd := Lib.hid hd0; clear hp hts hy hd0
      have hd : decide ((k : Int) < (l.length : Int)) = true := by simp; omega
      have hk1 : (k : Int) < (l.length : Int) := by omega
      have hk0 : (0 : Int) ≤ (k : Int) := by omega
      have Hc := Lib.hid hc; have Hcell := Lib.hid hcell; clear hc hcell
      go_upto_region 5 with fail
      refine wp_region_inv (fun wx => Arr wx (w.heap.size + 1) 4 (fnOf y) ∧ Arr wx w.heap.size 4 (fnOf Ot.zeroD) ∧ Below w.heap.size w wx ∧ w.heap.size + 2 ≤ wx.heap.size ∧ DgAt wx b (off + k * 4) d) (fun j v w' => match j with | 0 => v = dgv y | 1 => v = .slice (some ⟨b, off, none⟩) l.length c | 2 => v = .int .i64 k | 3 => v = .pointer (some ⟨b, off + k * 4, none⟩) | 4 => v = dgv d | 5 => v = dgv z | _ => True) 6 (by kernel_rfl) (by kernel_rfl) ⟨ha.drew, hz.drew, hb.drew, hs, hck⟩
        (fun _ _ h hb => ⟨h.1.keep hb (by decide), h.2.1.keep hb (by decide), h.2.2.1.trans (hb.mono h.2.2.1.size), Nat.le_trans h.2.2.2.1 hb.size, h.2.2.2.2.below hb h.2.2.2.2.lt⟩) ?_ ?_ ?_
      · rintro (_|_|_|_|_|_|j) v w1 w2 hb h
        all_goals exact h
      · refine ⟨fun us wx hx hd => ?_, fun us wx hx hd => ?_, fun us wx hx hd => ?_, fun us wx hx hd => ?_, fun us wx hx hd => ?_, fun us wx hx hd => ?_, trivial⟩
        all_goals simp only [putAll, dstOf, List.getElem?_toArray, List.getElem?_cons_succ, List.getElem?_cons_zero, Option.bind_some]
        all_goals go_frame
        · obtain ⟨c0, c1, c2, c3⟩ := hx.1.dg
          have H := Lib.hid hx; clear hx
          go_simp
          first | exact Below.refl _ _ | exact ⟨by and_intros <;> rfl, Below.refl _ _⟩
        · go_simp; exact Below.refl _ _
        · go_simp; exact Below.refl _ _
        · rw [show us 1 = .slice (some ⟨b, off, none⟩) l.length c from hd 1 rfl, show us 2 = .int .i64 k from hd 2 rfl]
          go_simp
          exact Below.refl _ _
        · rw [show us 3 = .pointer (some ⟨b, off + k * 4, none⟩) from hd 3 rfl]
          obtain ⟨c0, c1, c2, c3⟩ := hx.2.2.2.2
          have H := Lib.hid hx; clear hx
          go_simp
          first | exact Below.refl _ _ | exact ⟨by and_intros <;> rfl, Below.refl _ _⟩
        · rw [show us 0 = dgv y from hd 0 rfl, show us 4 = dgv d from hd 4 rfl]
          go_simp
          refine (rpair_any y d _).mono ?_
          rw [Hp.out]
          rintro e w1 ⟨rfl, hb1⟩
          exact ⟨_, rfl, rfl, hb1⟩
      rintro us W1 ⟨ha1, hz1, hb1, hs1, _⟩ hF
      have h5 : us 5 = dgv z := hF 5 (by decide)
      clear hF
      simp only [putAll, dstOf, List.getElem?_toArray, List.getElem?_cons_succ, List.getElem?_cons_zero, Option.bind_some, List.drop_succ_cons, List.drop_zero]
      rw [h5]
      go_frame
      clear h5
      have hfc := fun j h => ha1.cell j h
      have hff := fun j h => ha1.free j h
      go_wp2
      go_roundw
      case rel =>
        refine ⟨k + 1, by omega, by go_num, ?_, ?_, ?_, ?_⟩
        · rw [Hts.out]; exact ha1.fill4 (fnOf z)
        · exact (((hz1.set_other _ _ (by simp)).set_other _ _ (by simp)).set_other _ _ (by simp)).set_other _ _ (by simp)
        · exact hb1.fill4 (by omega) _ _ _ _
        · simpa using hs1
      case measure => simp [intOf]; omega
    · obtain rfl : k = l.length := by omega
      rw [List.take_length] at ha
      generalize hy : ofK l = y at *
      have Hy := Lib.hid hy; clear hy
      have Hc := Lib.hid hc; clear hc
      obtain ⟨c0, c1, c2, c3⟩ := ha.dg
      obtain ⟨d0, d1, d2, d3⟩ := hz.dg
      have hf := fun j h => hz.free j h
      go_wp2
      exact bodyPost_ret (v := dgv y) (by simp [results, Tryd.results51, go_sem, d0, d1, d2, d3]) rfl ⟨by rw [Hy.out], hb.fill4 (by omega) _ _ _ _⟩
end Go.Proofs.YtpodfmnnabepaaaDoor

namespace Go.Proofs.YtpodfmnnabepaaaDoor
open Go.RowKit
open Ot (Dg)
theorem ofK_range (f : Nat → Dg) (n : Nat) : ofK ((List.range n).map f) = Ot.endsTo pair f n := by
  induction n with
  | zero => rfl
  | succ n ih => rw [List.range_succ, List.map_append, ofK, List.foldl_append]; show pair (ofK ((List.range n).map f)) (f n) = _; rw [ih]; rfl
noncomputable def pubs (x : Dg) : List Dg := (List.range 35).map fun i => Ot.walk pair (Ot.beg pair x i) 15
theorem ofK_pubs (x : Dg) : ofK (pubs x) = Ot.pub pair x := ofK_range _ 35
theorem map_take_snoc (f : Nat → Dg) (k n : Nat) (hk : k < n) : ((List.range n).map f).take (k + 1) = ((List.range n).map f).take k ++ [f k] := by
  rw [List.take_add_one, List.getElem?_map, List.getElem?_range hk]; rfl
set_option maxRecDepth 100000 in
set_option maxHeartbeats 1000000 in
theorem rpub_any (x : Dg) (w : World) : Calls Tryd.prog 22 #[dgv x] w fun e w' => e = .returned (dgv (Ot.pub pair x)) ∧ Below w.heap.size w w' := by
  obtain ⟨i0, hi, hz0, hz1, hz2⟩ := info_parts Tryd.info24
  go_enter Tryd.func22, Tryd.ntmps22
  go_wp2_with fail
  generalize hW : ((w.alloc (.cells #[.int .u32 x.a.toNat, .int .u32 x.b.toNat, .int .u32 x.c.toNat, .int .u32 x.d.toNat] 24)).alloc (.cells #[.int .u32 0, .int .u32 0, .int .u32 0, .int .u32 0] 24)) = W
  have hb0 : Below w.heap.size w W := by subst hW; exact ((Below.refl _ _).alloc (Nat.le_refl _) _).alloc (by simp) _
  have hx0 : Arr W w.heap.size 4 (fnOf x) := by subst hW; exact (Arr.new w 4 (fnOf x) 24 _ rfl).alloc (by simp) _
  have hz0' : Arr W (w.heap.size + 1) 4 (fnOf Ot.zeroD) := by subst hW; exact Arr.new' _ _ 4 (fnOf Ot.zeroD) 24 _ (by simp) rfl
  have hs0 : w.heap.size + 2 ≤ W.heap.size := by subst hW; simp
  clear hW
  go_loopw [3, 4] (fun v i wr => ∃ k : Nat, k ≤ 35 ∧ i = .int .i64 k ∧ wr.ownsRow W.heap.size 24 4 v k (dcs ((pubs x).take k)) ∧ Below W.heap.size W wr) (fun _ i wr => 35 - (intOf i).toNat)
  case atStart => exact ⟨0, by omega, rfl, World.ownsRow_nil _ _ _ _, Below.refl _ _⟩
  case round =>
    obtain ⟨k, hk, rfl, hown, hb⟩ := hrel
    by_cases hlt : k < 35
    · have hd : decide ((k : Int) < 35) = true := by simp; omega
      have hts : (pubs x).take (k + 1) = (pubs x).take k ++ [Ot.walk pair (Ot.beg pair x k) 15] := map_take_snoc _ k 35 hlt
      generalize hy : Ot.beg pair x k = y at *
      generalize hzz : Ot.walk pair y 15 = z at *
      have Hts := Lib.hid hts; have Hy := Lib.hid hy; have Hz := Lib.hid hzz; clear hts hy hzz
      have hx2 := hx0.below hb (by omega)
      obtain ⟨c0, c1, c2, c3⟩ := hx2.dg
      have hown0 := Lib.hid hown; clear hown
      go_wp2_with fail
      refine (rbeg_any x k (by omega) _).mono ?_
      rw [Hy.out]
      rintro e w2 ⟨rfl, hb3⟩
      go_wp2_with fail
      refine (rwalk_any y 15 (by omega) _).mono ?_
      rw [Hz.out]
      rintro e w3 ⟨rfl, hb4⟩
      have hb5 : Below wr.heap.size wr w3 := hb3.trans (hb4.mono hb3.size)
      have hown := own_keep hown0.out hb5
      have hb6 := hb.trans (hb5.mono hb.size)
      clear c0 c1 c2 c3 hb3 hb4 hx2 hown0
      go_wp2_with (at_builtin; refine wpList_append_own _ rfl _ _ 32 rfl W.heap.size 24 i0 (dgv Ot.zeroD) 4 16 Tryd.underlying32 hi hz0 hz1 hz2 rfl (by decide) _ _ _ rfl (hown.alloc _) ⟨w3.heap.size, 0, none⟩ 1 1 [.int .u32 z.a.toNat, .int .u32 z.b.toNat, .int .u32 z.c.toNat, .int .u32 z.d.toNat] rfl rfl ?c1 ?c2 ?c3 ?c4 ?c5 ?_)
      case c1 => exact cell_dg_new _ _ _
      case c2 => exact dg_one z
      case c3 => unfold maxLen; omega
      case c4 => omega
      case c5 => have := hb6.size; simp; omega
      intro v' w4 hown1 hg1 _
      have hb7 : Below W.heap.size W w4 := (hb6.alloc hb6.size _).grown hg1 (by have := hb6.size; simp; omega) (fun q hq => (hown.lt q hq).1)
      clear hg1 hown hb5 hb6
      go_wp2
      go_roundw
      case rel =>
        refine ⟨k + 1, by omega, by go_num, ?_, hb7⟩
        rw [Hts.out, dcs_snoc]
        exact hown1
      case measure => simp [intOf]; omega
    · obtain rfl : k = 35 := by omega
      have hln : (pubs x).length = 35 := by simp [pubs]
      rw [List.take_of_length_le (by omega)] at hown
      have hsig := own_sig hown
      have hz2' := hz0'.below hb (by omega)
      have hb2 := hb0.trans (hb.mono hb0.size)
      have hrs : w.heap.size + 2 ≤ wr.heap.size := by have := hb.size; omega
      have ho := ofK_pubs x
      generalize pubs x = ps at *
      generalize hp : Ot.pub pair x = p at *
      have Hp := Lib.hid hp; have Ho := Lib.hid ho; have Hs := Lib.hid hsig; clear hp ho hown hx0 hz0' hsig
      go_wp2_with fail
      refine (of_any _ ps _ Hs.out).mono ?_
      rw [Ho.out]
      rintro e w5 ⟨rfl, hb5⟩
      have hz3 := hz2'.below hb5 (by omega)
      obtain ⟨d0, d1, d2, d3⟩ := hz3.dg
      have hf := fun j h => hz3.free j h
      go_wp2
      exact bodyPost_ret (v := dgv p) (by simp [results, Tryd.results22, go_sem, d0, d1, d2, d3]) rfl ⟨by rw [Hp.out], (hb2.trans (hb5.mono hb2.size)).fill4 (by omega) _ _ _ _⟩
end Go.Proofs.YtpodfmnnabepaaaDoor

namespace Go.Proofs.YtpodfmnnabepaaaDoor
open Go.RowKit
open Ot (Dg)
/-- One digest in a block of its own. -/
def One (b1 : Nat) (x : Dg) (w' : World) : Prop := w'.cell? ⟨b1, 0, none⟩ = some (.int .u32 x.a.toNat) ∧ w'.cell? ⟨b1, 1, none⟩ = some (.int .u32 x.b.toNat) ∧ w'.cell? ⟨b1, 2, none⟩ = some (.int .u32 x.c.toNat) ∧ w'.cell? ⟨b1, 3, none⟩ = some (.int .u32 x.d.toNat)
theorem One.keep {b1 : Nat} {x : Dg} {w w' : World} (h : One b1 x w) (hb : Below w.heap.size w w') : One b1 x w' := by
  obtain ⟨b0, b1, b2, b3⟩ := h
  exact ⟨cell_keep b0 hb, cell_keep b1 hb, cell_keep b2 hb, cell_keep b3 hb⟩
set_option maxRecDepth 100000 in
set_option maxHeartbeats 2000000 in
theorem lsteps_any (m : Dg) (w : World) (ht : Tn w) : Calls Tryd.prog 3 #[dgv m] w fun e w' => e = .returned (.bool true) ∧ Below w.heap.size w w' := by
  go_enter Tryd.func3, Tryd.ntmps3
  go_wp2_with fail
  generalize hW : w.alloc (.cells #[.int .u32 m.a.toNat, .int .u32 m.b.toNat, .int .u32 m.c.toNat, .int .u32 m.d.toNat] 24) = W
  have hbW : Below w.heap.size w W := by subst hW; exact (Below.refl _ _).alloc (Nat.le_refl _) _
  have hm0 : Arr W w.heap.size 4 (fnOf m) := by subst hW; exact Arr.new w 4 (fnOf m) 24 _ rfl
  clear hW
  go_upto_region 1 with fail
  refine wp_region_invG (fun wx => Tn wx ∧ One w.heap.size m wx ∧ Below w.heap.size w wx) (fun j v w' => match j with | 0 => v = .bool true | 1 => v = .bool true | 2 => v = dgv m | 3 => NumAt w' v (Ot.steps m) | 4 => v = dgv m | 5 => NumAt w' v (Ot.steps m) | 6 => v = .bool true | _ => True) 7 (by kernel_rfl) (by kernel_rfl) ⟨ht.below hbW.drew, hm0.drew.dg, hbW.drew⟩ (fun _ _ h hb => ⟨h.1.below hb, h.2.1.keep hb, h.2.2.trans (hb.mono h.2.2.size)⟩) ?_ ?_ ?_
  · rintro (_|_|_|_|_|_|_|j) v w1 w2 hb h
    all_goals first | exact h | exact NumAt.below h hb
  · refine ⟨fun us wx hx hd => ?_, fun us wx hx hd => ?_, fun us wx hx hd => ?_, fun us wx hx hd => ?_, fun us wx hx hd => ?_, fun us wx hx hd => ?_, fun us wx hx hd => ?_, trivial⟩
    all_goals simp only [putAll, dstOf, List.getElem?_toArray, List.getElem?_cons_succ, List.getElem?_cons_zero, Option.bind_some]
    all_goals go_frame
    all_goals refine .inl ⟨?_, ?_⟩
    · rfl
    · go_simp
      refine (awake_any _ hx.1).mono ?_
      rintro e w1 ⟨rfl, hb⟩
      exact ⟨_, rfl, rfl, hb⟩
    · rfl
    · rw [show us 0 = .bool true from hd 0 rfl]; go_simp; exact Below.refl _ _
    · rw [show us 1 = .bool true from hd 1 rfl]; rfl
    · obtain ⟨c0, c1, c2, c3⟩ := hx.2.1
      have H := Lib.hid hx; clear hx
      go_simp
      first | exact Below.refl _ _ | exact ⟨by and_intros <;> rfl, Below.refl _ _⟩
    · rw [show us 1 = .bool true from hd 1 rfl]; rfl
    · rw [show us 2 = dgv m from hd 2 rfl]
      go_simp
      refine (steps_any m _).mono ?_
      rintro e w1 ⟨vs, rfl, hb, hown⟩
      exact ⟨_, rfl, own_num hown, hb⟩
    · rw [show us 1 = .bool true from hd 1 rfl]; rfl
    · obtain ⟨c0, c1, c2, c3⟩ := hx.2.1
      have H := Lib.hid hx; clear hx
      go_simp
      first | exact Below.refl _ _ | exact ⟨by and_intros <;> rfl, Below.refl _ _⟩
    · rw [show us 1 = .bool true from hd 1 rfl]; rfl
    · rw [show us 4 = dgv m from hd 4 rfl]
      go_simp
      refine (rsteps_any m _).mono ?_
      rintro e w1 ⟨vs, rfl, hb, hown⟩
      exact ⟨_, rfl, own_num hown, hb⟩
    · rw [show us 1 = .bool true from hd 1 rfl]; rfl
    · have n3 : NumAt wx (us 3) (Ot.steps m) := hd 3 rfl
      have n5 : NumAt wx (us 5) (Ot.steps m) := hd 5 rfl
      go_simp
      refine (ints_any _ _ _ _ n3 n5).mono ?_
      rintro e w1 ⟨rfl, hb⟩
      exact ⟨_, rfl, rfl, hb⟩
  rintro us W1 hx hF
  have h1 : us 1 = .bool true := hF 1 (by decide)
  have h6 : us 6 = .bool true := hF 6 (by decide)
  clear hF
  simp only [putAll, dstOf, List.getElem?_toArray, List.getElem?_cons_succ, List.getElem?_cons_zero, Option.bind_some, List.drop_succ_cons, List.drop_zero]
  rw [h1, h6]
  go_frame
  go_wp2
  go_ret
  exact ⟨rfl, hx.2.2⟩
end Go.Proofs.YtpodfmnnabepaaaDoor

namespace Go.Proofs.YtpodfmnnabepaaaDoor
open Go.RowKit
open Ot (Dg)
set_option maxRecDepth 100000 in
set_option maxHeartbeats 2000000 in
theorem rsign_any (x m : Dg) (w : World) : Calls Tryd.prog 25 #[dgv x, dgv m] w (SignPost w (Ot.sign pair x m)) := by
  obtain ⟨i0, hi, hz0, hz1, hz2⟩ := info_parts Tryd.info24
  go_enter Tryd.func25, Tryd.ntmps25
  go_wp2_with fail
  generalize hW : ((w.alloc (.cells #[.int .u32 x.a.toNat, .int .u32 x.b.toNat, .int .u32 x.c.toNat, .int .u32 x.d.toNat] 24)).alloc (.cells #[.int .u32 m.a.toNat, .int .u32 m.b.toNat, .int .u32 m.c.toNat, .int .u32 m.d.toNat] 24)) = W
  have hb0 : Below w.heap.size w W := by subst hW; exact ((Below.refl _ _).alloc (Nat.le_refl _) _).alloc (by simp) _
  have hx0 : Arr W w.heap.size 4 (fnOf x) := by subst hW; exact (Arr.new w 4 (fnOf x) 24 _ rfl).alloc (by simp) _
  clear hW
  refine (rsteps_any m _).mono ?_
  rintro e w1 ⟨v, rfl, hb1, hown⟩
  have hn := own_num hown
  have hx1 := hx0.keep hb1 (by decide)
  have hb2 := hb0.trans (hb1.mono hb0.size)
  have hs1 : w.heap.size < w1.heap.size := hx1.lt (by decide)
  clear hb0 hb1 hown hx0
  obtain ⟨g, cap, rfl, hgl, hcell⟩ := hn
  go_wp2_with fail
  go_loopw [6, 7] (fun v i wr => ∃ k : Nat, k ≤ 35 ∧ i = .int .i64 k ∧ wr.ownsRow w1.heap.size 24 4 v k (dcs ((Ot.sign pair x m).take k)) ∧ Below w1.heap.size w1 wr) (fun _ i wr => 35 - (intOf i).toNat)
  case atStart => exact ⟨0, by omega, rfl, World.ownsRow_nil _ _ _ _, Below.refl _ _⟩
  case round =>
    obtain ⟨k, hk, rfl, hown, hb⟩ := hrel
    by_cases hlt : k < 35
    · have hd : decide ((k : Int) < 35) = true := by simp; omega
      have hk1 : (k : Int) < 35 := by omega
      have hk0 : (0 : Int) ≤ (k : Int) := by omega
      have hck := (hb.cell (p := ⟨g, k, none⟩) hgl).trans (hcell k hlt)
      have hsg := Ot.sign_at pair x m k hlt
      have hst := Ot.steps_at_le m k
      have hts := take_snoc_d (Ot.sign pair x m) k (by rw [Ot.sign_length]; exact hlt)
      rw [hsg] at hts
      generalize (Ot.steps m).getD k 0 = n at *
      generalize hy : Ot.beg pair x k = y at *
      generalize hzz : Ot.walk pair y n = z at *
      have Hts := Lib.hid hts; have Hy := Lib.hid hy; have Hz := Lib.hid hzz; clear hts hsg hy hzz
      have hx2 := hx1.keep hb (by decide)
      have Hcell := Lib.hid hcell; clear hcell
      go_upto_region 6 with fail
      refine wp_region_inv (fun wx => One w.heap.size x wx ∧ wx.ownsRow w1.heap.size 24 4 u6 k (dcs ((Ot.sign pair x m).take k)) ∧ Below w1.heap.size w1 wx ∧ wx.cell? ⟨g, k, none⟩ = some (.int .i64 n)) (fun j v w' => match j with | 0 => v = u6 | 1 => v = dgv x | 2 => v = .int .i64 k | 3 => v = dgv y | 4 => v = .slice (some ⟨g, 0, none⟩) 35 cap | 5 => v = .int .i64 k | 6 => v = .pointer (some ⟨g, k, none⟩) | 7 => v = .int .i64 n | 8 => v = dgv z | 9 => ∃ B, v = .slice (some ⟨B, 0, none⟩) 1 1 ∧ DgAt w' B 0 z | _ => True) 10 (by kernel_rfl) (by kernel_rfl) ⟨hx2.drew.dg, hown.drew, hb.drew, hck⟩
        (fun _ _ h hb => ⟨h.1.keep hb, own_keep h.2.1 hb, h.2.2.1.trans (hb.mono h.2.2.1.size), cell_keep h.2.2.2 hb⟩) ?_ ?_ ?_
      · rintro (_|_|_|_|_|_|_|_|_|_|j) v w1 w2 hb h
        all_goals first | exact h | (obtain ⟨B, rfl, hD⟩ := h; exact ⟨B, rfl, hD.below hb hD.lt⟩)
      · refine ⟨fun us wx hx hd => ?_, fun us wx hx hd => ?_, fun us wx hx hd => ?_, fun us wx hx hd => ?_, fun us wx hx hd => ?_, fun us wx hx hd => ?_, fun us wx hx hd => ?_, fun us wx hx hd => ?_, fun us wx hx hd => ?_, fun us wx hx hd => ?_, trivial⟩
        all_goals simp only [putAll, dstOf, List.getElem?_toArray, List.getElem?_cons_succ, List.getElem?_cons_zero, Option.bind_some]
        all_goals go_frame
        · go_simp; exact Below.refl _ _
        · obtain ⟨c0, c1, c2, c3⟩ := hx.1
          have H := Lib.hid hx; clear hx
          go_simp
          first | exact Below.refl _ _ | exact ⟨by and_intros <;> rfl, Below.refl _ _⟩
        · go_simp; exact Below.refl _ _
        · rw [show us 1 = dgv x from hd 1 rfl, show us 2 = .int .i64 k from hd 2 rfl]
          go_simp
          refine (rbeg_any x k (by omega) _).mono ?_
          rw [Hy.out]
          rintro e w1 ⟨rfl, hb1⟩
          exact ⟨_, rfl, rfl, hb1⟩
        · go_simp; exact Below.refl _ _
        · go_simp; exact Below.refl _ _
        · rw [show us 4 = .slice (some ⟨g, 0, none⟩) 35 cap from hd 4 rfl, show us 5 = .int .i64 k from hd 5 rfl]
          go_simp
          exact Below.refl _ _
        · rw [show us 6 = .pointer (some ⟨g, k, none⟩) from hd 6 rfl]
          have c := hx.2.2.2
          go_simp
          exact Below.refl _ _
        · rw [show us 3 = dgv y from hd 3 rfl, show us 7 = .int .i64 n from hd 7 rfl]
          go_simp
          refine (rwalk_any y n (by omega) _).mono ?_
          rw [Hz.out]
          rintro e w1 ⟨rfl, hb1⟩
          exact ⟨_, rfl, rfl, hb1⟩
        · rw [show us 8 = dgv z from hd 8 rfl]
          have Hx := Lib.hid hx; clear hx
          go_simp
          refine ⟨?_, (Below.refl _ _).alloc (Nat.le_refl _) _⟩
          have := Arr.new wx 4 (fnOf z) 24 #[.int .u32 z.a.toNat, .int .u32 z.b.toNat, .int .u32 z.c.toNat, .int .u32 z.d.toNat] rfl
          exact this.dg
      rintro us W1 ⟨hx3, hown3, hb3, _⟩ hF
      have h0 : us 0 = u6 := hF 0 (by decide)
      obtain ⟨B, hB, hD⟩ : ∃ B, us 9 = .slice (some ⟨B, 0, none⟩) 1 1 ∧ DgAt W1 B 0 z := hF 9 (by decide)
      clear hF
      simp only [putAll, dstOf, List.getElem?_toArray, List.getElem?_cons_succ, List.getElem?_cons_zero, Option.bind_some, List.drop_succ_cons, List.drop_zero]
      rw [h0, hB]
      go_frame
      clear h0 hB hown
      have hbs := hb3.size
      go_wp2_with (at_builtin; refine wpList_append_own _ rfl _ _ 33 rfl w1.heap.size 24 i0 (dgv Ot.zeroD) 4 16 Tryd.underlying33 hi hz0 hz1 hz2 rfl (by decide) _ _ _ rfl hown3 ⟨B, 0, none⟩ 1 1 [.int .u32 z.a.toNat, .int .u32 z.b.toNat, .int .u32 z.c.toNat, .int .u32 z.d.toNat] rfl rfl ?c1 ?c2 ?c3 ?c4 ?c5 ?_)
      case c1 =>
        intro j u hu
        rw [add_at]
        obtain ⟨d0, d1, d2, d3⟩ := hD
        match j, hu with
        | 0, hu => simpa using d0.trans hu
        | 1, hu => simpa using d1.trans hu
        | 2, hu => simpa using d2.trans hu
        | 3, hu => simpa using d3.trans hu
      case c2 => exact dg_one z
      case c3 => unfold maxLen; omega
      case c4 => omega
      case c5 => omega
      intro v' w4 hown1 hg1 _
      have hb7 : Below w1.heap.size w1 w4 := hb3.grown hg1 (by omega) (fun q hq => (hown3.lt q hq).1)
      clear hg1 hown3 hb3
      go_wp2
      go_roundw
      case rel =>
        refine ⟨k + 1, by omega, by go_num, ?_, hb7⟩
        rw [Hts.out, dcs_snoc]
        exact hown1
      case measure => simp [intOf]; omega
    · obtain rfl : k = 35 := by omega
      go_wp2
      go_ret
      have hl := Ot.sign_length pair x m
      rw [List.take_of_length_le (by omega)] at hown
      refine ⟨_, rfl, hb2.trans (hb.mono hb2.size), ?_⟩
      rw [hl]
      exact own_base_le hown hb2.size
set_option maxRecDepth 100000 in
theorem same_any (v u : Value) (l : List Dg) (hl : l.length = 35) (w : World) (hv : SigAt w v l) (hu : SigAt w u l) : Calls Tryd.prog 23 #[v, u] w fun e w' => e = .returned (.bool true) ∧ Below w.heap.size w w' := by
  obtain ⟨A, c, rfl, _, hcs⟩ := hv
  obtain ⟨b, off, rfl, hbl, hcs⟩ := hcs (by omega)
  obtain ⟨A', c', rfl, _, hct⟩ := hu
  obtain ⟨b', off', rfl, hbl', hct⟩ := hct (by omega)
  rw [hl] at *
  have Hs := Lib.hid hcs; have Ht := Lib.hid hct; clear hcs hct hl
  go_enter Tryd.func23, Tryd.ntmps23
  go_wp2_with fail
  go_loopw [5] (fun i wr => ∃ k : Nat, k ≤ 35 ∧ i = .int .i64 k ∧ Below w.heap.size w wr) (fun i wr => 35 - (intOf i).toNat)
  case atStart => exact ⟨0, by omega, rfl, Below.refl _ _⟩
  case round =>
    obtain ⟨k, hk, rfl, hb⟩ := hrel
    by_cases hlt : k < 35
    · obtain ⟨s0, s1, s2, s3⟩ := (Hs.out k hlt).below hb hbl
      obtain ⟨t0, t1, t2, t3⟩ := (Ht.out k hlt).below hb hbl'
      generalize l.getD k Ot.zeroD = d at *
      have hq := dg_neq d d
      have hk1 : (k : Int) < 35 := by omega
      have hk0 : (0 : Int) ≤ (k : Int) := by omega
      have hd : decide ((k : Int) < 35) = true := by simp; omega
      go_wp2_with fail
      go_quiet (fail)
      go_wp2
      go_roundw
      case rel => exact ⟨k + 1, by omega, by go_num, pw_drewN hb _⟩
      case measure => simp [intOf]; omega
    · obtain rfl : k = 35 := by omega
      go_wp2
      go_ret
      exact ⟨rfl, hb⟩
end Go.Proofs.YtpodfmnnabepaaaDoor

namespace Go.Proofs.YtpodfmnnabepaaaDoor
open Go.RowKit
open Ot (Dg)
/-- A word's bytes. -/
def lb (u : UInt32) : List UInt8 := [UInt8.ofNat (u.toNat % 256), UInt8.ofNat (u.toNat / 256 % 256), UInt8.ofNat (u.toNat / 65536 % 256), UInt8.ofNat (u.toNat / 16777216 % 256)]
def lbs (l : List UInt32) : List UInt8 := l.flatMap lb
theorem lb_length (u : UInt32) : (lb u).length = 4 := rfl
theorem lbs_length (l : List UInt32) : (lbs l).length = 4 * l.length := by
  induction l with
  | nil => rfl
  | cons u l ih => simp only [lbs, List.flatMap_cons, List.length_append, List.length_cons] at *; rw [ih, lb_length]; omega
theorem lb_at (u : UInt32) (j : Nat) (hj : j < 4) : (lb u)[j]? = some (UInt8.ofNat (u.toNat / 256 ^ j % 256)) := by
  obtain rfl | rfl | rfl | rfl : j = 0 ∨ j = 1 ∨ j = 2 ∨ j = 3 := by omega
  all_goals simp [lb]
theorem lb_snoc (u : UInt32) (j : Nat) (hj : j < 4) : (lb u).take (j + 1) = (lb u).take j ++ [UInt8.ofNat (u.toNat / 256 ^ j % 256)] := by
  rw [List.take_add_one, lb_at u j hj]; rfl
theorem lbs_snoc (l : List UInt32) (u : UInt32) : lbs (l ++ [u]) = lbs l ++ lb u := by simp [lbs]
theorem cell_one_new (w : World) (v : Value) (t : TypeId) : ∀ j x, [v][j]? = some x → (w.alloc (.cells #[v] t)).cell? ((⟨w.heap.size, 0, none⟩ : Addr).add j) = some x := by
  intro j x hx
  rw [add_at, World.cell?_alloc_new, ← hx]
  simp
theorem conv_u8 (n : Nat) (h : n < 256) (w : World) : (convert 22 5 (.int .u32 (n : Nat))).run Tryd.prog w = .ok (.int .u8 (n : Nat)) w := by
  go_simp
  rw [IntKind.wrap_u8]; omega
set_option maxRecDepth 100000 in
set_option maxHeartbeats 4000000 in
theorem rbytes_any (B : Nat) (l : List UInt32) (hl : l.length = 5) (w : World) (hc : ∀ j, j < 5 → w.cell? ⟨B, j, none⟩ = some (.int .u32 (l.getD j 0).toNat)) :
    Calls Tryd.prog 83 #[.slice (some ⟨B, 0, none⟩) 5 5] w fun e w' => e = .returned (.string ⟨(lbs l).toArray⟩) ∧ Below w.heap.size w w' := by
  obtain ⟨i0, hi, hz0, hz1, hz2⟩ := info_parts Tryd.info5
  have hmk : ∀ w, (Instr.makeSlice 83 (.int .i64 0) (.int .i64 20)).run Tryd.prog w = .ok (.slice (some ⟨w.heap.size, 0, none⟩) 0 20) (w.alloc (.cells (madeCells #[.int .u8 0] 20) 5)) := fun w => by kernel_rfl
  have hBl : B < w.heap.size := World.block_lt_of_cell? w _ (hc 0 (by decide))
  go_enter Tryd.func83, Tryd.ntmps83
  go_wp2_with fail
  have h0 := World.ownsRow_made (base := w.heap.size) (e := 5) (size := 1) w (madeCells #[.int .u8 0] 20) 20 (Nat.le_refl _) (by unfold maxLen; decide) (by simp [madeCells])
  go_loopw [3, 4] (fun v i wr => ∃ k : Nat, k ≤ 5 ∧ i = .int .i64 k ∧ wr.ownsRow w.heap.size 5 1 v (4 * k) (bvs (lbs (l.take k))) ∧ Below w.heap.size w wr) (fun _ i _ => 5 - (intOf i).toNat)
  case atStart => exact ⟨0, by omega, rfl, h0, (Below.refl _ _).alloc (Nat.le_refl _) _⟩
  case round =>
    obtain ⟨k, hk, rfl, hown, hb⟩ := hrel
    by_cases hlt : k < 5
    · have hd : decide ((k : Int) < 5) = true := by simp; omega
      have hck := (hb.cell (p := ⟨B, k, none⟩) hBl).trans (hc k hlt)
      have k0 : (0 : Int) ≤ (k : Int) := by omega
      have k1 : (k : Int) < 5 := by omega
      have hts : l.take (k + 1) = l.take k ++ [l.getD k 0] := by
        rw [List.take_add_one, List.getD_eq_getElem?_getD, List.getElem?_eq_getElem (by omega)]; rfl
      have hxs : lbs (l.take (k + 1)) = lbs (l.take k) ++ lb (l.getD k 0) := by rw [hts, lbs_snoc]
      generalize lbs (l.take k) = xs at *
      generalize l.getD k 0 = u at *
      have hu := u.toNat_lt
      have Hxs := Lib.hid hxs; clear hxs hts
      go_wp2_with fail
      clear hck
      go_loopw [3, 5, 6] (fun v n j wr' => ∃ m : Nat, m ≤ 4 ∧ j = .int .i64 m ∧ n = .int .u32 (u.toNat / 256 ^ m : Nat) ∧ wr'.ownsRow w.heap.size 5 1 v (4 * k + m) (bvs (xs ++ (lb u).take m)) ∧ Below w.heap.size w wr') (fun _ _ j _ => 4 - (intOf j).toNat)
      case atStart => exact ⟨0, by omega, rfl, by simp, by simpa using hown, hb⟩
      case round =>
        clear hown hb
        obtain ⟨m, hm, rfl, rfl, hown, hb⟩ := hrel
        by_cases hmt : m < 4
        · have hd2 : decide ((m : Int) < 4) = true := by simp; omega
          have hsn := lb_snoc u m hmt
          have hdiv : u.toNat / 256 ^ (m + 1) = u.toNat / 256 ^ m / 256 := by rw [Nat.pow_succ, Nat.div_div_eq_div_mul]
          have hle : u.toNat / 256 ^ m < 4294967296 := Nat.lt_of_le_of_lt (Nat.div_le_self _ _) hu
          have hb8 : ((UInt8.ofNat (u.toNat / 256 ^ m % 256)).toNat) = u.toNat / 256 ^ m % 256 := by rw [UInt8.toNat_ofNat']; omega
          generalize u.toNat / 256 ^ m = n at *
          have Hsn := Lib.hid hsn; have Hdiv := Lib.hid hdiv; clear hsn hdiv
          generalize UInt8.ofNat (n % 256) = y at *
          have hcv : ∀ w, (convert 22 5 (.int .u32 ((n : Int) % 256))).run Tryd.prog w = .ok (.int .u8 (y.toNat : Nat)) w := fun w => by
            rw [hb8]; have hn : ((n : Int) % 256) = ((n % 256 : Nat) : Int) := by omega
            rw [hn]; exact conv_u8 _ (by omega) w
          clear hb8
          have hy := y.toNat_lt
          have hbs := hb.size
          go_wp2_with (at_builtin; refine wpList_append_own _ rfl _ _ 83 rfl w.heap.size 5 i0 (.int .u8 0) 1 1 Tryd.underlying83 hi hz0 hz1 hz2 rfl (by decide) _ _ _ rfl (hown.alloc _) ⟨wr.heap.size, 0, none⟩ 1 1 [.int .u8 (y.toNat : Nat)] rfl rfl ?c1 ?c2 ?c3 ?c4 ?c5 ?_)
          case c1 => exact cell_one_new _ _ _
          case c2 => intro u hu; simp at hu; subst hu; rfl
          case c3 => unfold maxLen; omega
          case c4 => omega
          case c5 => simp; omega
          intro v' w4 hown1 hg1 _
          have hb5 : Below w.heap.size w (wr.alloc (.cells #[.int .u8 (y.toNat : Nat)] 5)) := hb.alloc hbs _
          have hb7 : Below w.heap.size w w4 := hb5.grown hg1 hb5.size (fun q hq => (hown.lt q hq).1)
          clear hg1 hb5 hown hcv
          have q3 : IntKind.u32.wrap ((n : Int) / 256) = ((n / 256 : Nat) : Int) := by rw [IntKind.wrap_u32]; omega
          go_wp2_with fail
          go_roundw
          case rel =>
            refine ⟨m + 1, by omega, by go_num, ?_, ?_, hb7⟩
            · rw [Hdiv.out]; congr 1
            · rw [Hsn.out, ← List.append_assoc]
              have : bvs (xs ++ (lb u).take m ++ [y]) = bvs (xs ++ (lb u).take m) ++ [.int .u8 (y.toNat : Nat)] := by simp [bvs]
              rw [this]
              exact hown1
          case measure => simp [intOf]; omega
        · obtain rfl : m = 4 := by omega
          go_wp2_with fail
          refine ⟨⟨k + 1, by omega, by go_num, ?_, hb⟩, ?_⟩
          · rw [Hxs.out]
            rw [List.take_of_length_le (by rw [lb_length]; exact Nat.le_refl _)] at hown
            exact hown
          · simp [intOf]; omega
    · obtain rfl : k = 5 := by omega
      rw [List.take_of_length_le (by omega)] at hown
      obtain ⟨g, cap, rfl, hln, hcc⟩ := own_bytes hown (by omega)
      generalize hxe : lbs l = xs at *
      have Hxe := Lib.hid hxe; clear hxe
      have hcv := run_convert_bytes_back (P := Tryd.prog) wr 83 9 5 ⟨g, 0, none⟩ cap xs Tryd.underlying83 Tryd.underlying5 Tryd.underlying9 hcc
      rw [show 4 * 5 = 20 from rfl] at hln
      rw [hln] at hcv ⊢
      have Hc := Lib.hid hcc; clear hcc hown
      have Hln := Lib.hid hln; clear hln
      go_wp2_with fail
      go_ret
      exact ⟨by rw [Hxe.out]; rfl, hb⟩
end Go.Proofs.YtpodfmnnabepaaaDoor

namespace Go.Proofs.YtpodfmnnabepaaaDoor
open Go.RowKit
open Ot (Dg)
def byt (s : ByteArray) (i : Nat) : Nat := (s.data.toList.getD i 0).toNat
theorem byt_lt (s : ByteArray) (i : Nat) : byt s i < 256 := (s.data.toList.getD i 0).toNat_lt
def acc (s : ByteArray) (k : Nat) : Nat → Nat
  | 0 => 0
  | j + 1 => acc s k j * 256 + byt s (4 * k + (3 - j))
theorem acc_lt (s : ByteArray) (k : Nat) : ∀ j, acc s k j < 256 ^ j
  | 0 => by show 0 < 1; decide
  | j + 1 => by
    have h := acc_lt s k j
    have hb := byt_lt s (4 * k + (3 - j))
    rw [acc, Nat.pow_succ]; omega
def uvs (l : List Nat) : List Value := l.map fun n => .int .u32 (n : Nat)
def wlist (s : ByteArray) (n : Nat) : List Nat := (List.range n).map fun k => acc s k 4
theorem wlist_succ (s : ByteArray) (n : Nat) : wlist s (n + 1) = wlist s n ++ [acc s n 4] := by simp [wlist, List.range_succ]
theorem str_byte {s : ByteArray} {i : Nat} (h : i < s.size) (w : World) : (Instr.index 9 (.string s) (.int .i64 (i : Nat))).run Tryd.prog w = .ok (.int .u8 (byt s i : Nat)) w := by
  have hki : (0 : Int) ≤ (i : Int) ∧ (i : Int) < (s.size : Int) := ⟨by omega, by omega⟩
  rw [run_index_string w 9 s .i64 i Tryd.underlying9, dif_pos hki]
  have hl : i < s.data.toList.length := by simpa using h
  have : byt s i = (s[i]'h).toNat := by
    unfold byt
    rw [List.getD_eq_getElem?_getD, List.getElem?_eq_getElem hl]; rfl
  rw [this]; simp
set_option maxRecDepth 100000 in
set_option maxHeartbeats 4000000 in
theorem rwords_any (s : ByteArray) (hs : s.size = 24) (w : World) :
    Calls Tryd.prog 90 #[.string s] w fun e w' => ∃ v, e = .returned (.tuple #[v, .int .i64 0]) ∧ Below w.heap.size w w' ∧ w'.ownsRow w.heap.size 22 1 v 6 (uvs (wlist s 6)) := by
  obtain ⟨i0, hi, hz0, hz1, hz2⟩ := info_parts Tryd.info22
  have hmk : ∀ w, (Instr.makeSlice 96 (.int .i64 0) (.int .i64 6)).run Tryd.prog w = .ok (.slice (some ⟨w.heap.size, 0, none⟩) 0 6) (w.alloc (.cells (madeCells #[.int .u32 0] 6) 22)) := fun w => by kernel_rfl
  have hsi : (s.size : Int) = 24 := by omega
  have h0 := World.ownsRow_made (base := w.heap.size) (e := 22) (size := 1) w (madeCells #[.int .u32 0] 6) 6 (Nat.le_refl _) (by unfold maxLen; decide) (by simp [madeCells])
  have hby : ∀ i, i < 24 → ∀ w, (Instr.index 9 (.string s) (.int .i64 (i : Nat))).run Tryd.prog w = .ok (.int .u8 (byt s i : Nat)) w := fun i h w => str_byte (by omega) w
  have Hby := Lib.hid hby; clear hby hs
  go_enter Tryd.func90, Tryd.ntmps90
  go_wp2_with fail
  go_loopw [4, 5] (fun v i wr => ∃ k : Nat, k ≤ 6 ∧ i = .int .i64 (4 * k : Nat) ∧ wr.ownsRow w.heap.size 22 1 v k (uvs (wlist s k)) ∧ Below w.heap.size w wr) (fun _ i _ => 24 - (intOf i).toNat)
  case atStart => exact ⟨0, by omega, rfl, h0, (Below.refl _ _).alloc (Nat.le_refl _) _⟩
  case round =>
    obtain ⟨k, hk, rfl, hown, hb⟩ := hrel
    by_cases hlt : k < 6
    · have hd : decide (((4 * k : Nat) : Int) < 24) = true := by simp; omega
      have hd' : decide (4 * (k : Int) < 24) = true := by simp; omega
      have hw1 := wlist_succ s k
      have Hown := Lib.hid hown; clear hown
      go_wp2_with fail
      go_loopw [6, 7] (fun n j wr' => wr' = wr ∧ ∃ m : Nat, m ≤ 4 ∧ j = .int .i64 (3 - (m : Int)) ∧ n = .int .u32 (acc s k m : Nat)) (fun _ j _ => (intOf j + 1).toNat)
      case atStart => exact ⟨rfl, 0, by omega, rfl, rfl⟩
      case round =>
        obtain ⟨rfl, m, hm, rfl, rfl⟩ := hrel
        by_cases hmt : m < 4
        · have hd2 : decide ((0 : Int) ≤ 3 - (m : Int)) = true := by simp; omega
          have hix := Hby.out (4 * k + (3 - m)) (by omega)
          have hac : acc s k (m + 1) = acc s k m * 256 + byt s (4 * k + (3 - m)) := rfl
          have hbl := byt_lt s (4 * k + (3 - m))
          have hal : acc s k m < 16777216 := Nat.lt_of_lt_of_le (acc_lt s k m) (Nat.le_trans (Nat.pow_le_pow_right (by decide) (show m ≤ 3 by omega)) (by decide))
          rw [show ((4 * k + (3 - m) : Nat) : Int) = 4 * (k : Int) + (3 - (m : Int)) by omega] at hix
          generalize byt s (4 * k + (3 - m)) = y at *
          generalize acc s k m = a at *
          have Hac := Lib.hid hac; clear hac
          have q1 : IntKind.i64.wrap (4 * (k : Int) + (3 - (m : Int))) = 4 * (k : Int) + (3 - (m : Int)) := IntWalk.i64_in _ (by omega)
          have q2 : IntKind.u32.wrap ((a : Int) * 256) = (a : Int) * 256 := by rw [IntKind.wrap_u32]; omega
          have q3 : IntKind.u32.wrap (y : Int) = (y : Int) := by rw [IntKind.wrap_u32]; omega
          have q4 : IntKind.u32.wrap ((a : Int) * 256 + (y : Int)) = (a : Int) * 256 + (y : Int) := by rw [IntKind.wrap_u32]; omega
          go_wp2_with fail
          refine ⟨⟨trivial, m + 1, by omega, by congr 1; omega, ?_⟩, ?_⟩
          · rw [Hac.out]; rfl
          · simp [intOf]; omega
        · obtain rfl : m = 4 := by omega
          have hown := Hown.out
          have hbs := hb.size
          have ha4 := acc_lt s k 4
          generalize acc s k 4 = a at *
          have Hw1 := Lib.hid hw1; clear hw1
          go_wp2_with (at_builtin; refine wpList_append_own _ rfl _ _ 96 rfl w.heap.size 22 i0 (.int .u32 0) 1 4 Tryd.underlying96 hi hz0 hz1 hz2 rfl (by decide) _ _ _ rfl (hown.alloc _) ⟨wr.heap.size, 0, none⟩ 1 1 [.int .u32 (a : Nat)] rfl rfl ?c1 ?c2 ?c3 ?c4 ?c5 ?_)
          case c1 => exact cell_one_new _ _ _
          case c2 => intro u hu; simp at hu; subst hu; rfl
          case c3 => unfold maxLen; omega
          case c4 => omega
          case c5 => simp; omega
          intro v' w4 hown1 hg1 _
          have hb5 := hb.alloc (o := .cells #[.int .u32 (a : Nat)] 22) hbs
          have hb7 : Below w.heap.size w w4 := hb5.grown hg1 hb5.size (fun q hq => (hown.lt q hq).1)
          clear hg1 hb5 hown
          go_wp2_with fail
          refine ⟨⟨k + 1, by omega, by first | rfl | (congr 1; omega), ?_, hb7⟩, ?_⟩
          · rw [Hw1.out]
            have : uvs (wlist s k ++ [a]) = uvs (wlist s k) ++ [.int .u32 (a : Nat)] := by simp [uvs]
            rw [this]
            exact hown1
          · simp [intOf]; omega
    · obtain rfl : k = 6 := by omega
      have Hown := Lib.hid hown; clear hown
      go_wp2_with fail
      exact bodyPost_ret (v := .tuple #[u4, .int .i64 0]) (by simp [results, Tryd.results90, go_sem]) rfl ⟨_, rfl, hb, Hown.out⟩
end Go.Proofs.YtpodfmnnabepaaaDoor
