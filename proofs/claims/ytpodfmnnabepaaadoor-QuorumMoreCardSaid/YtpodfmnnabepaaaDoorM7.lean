/- Texts of this claim, merged: Q22 W24 Q23 Q24 Q25 Q26 Q27. Conditions: those written in each. -/
import Derived.Test.YtpodfmnnabepaaaDoorM2
import Derived.Test.YtpodfmnnabepaaaDoorM6
namespace Go.Proofs.YtpodfmnnabepaaaDoor
open Go.RowKit
open Ot (Dg)
set_option maxHeartbeats 4000000 in
theorem rhalf_any (h : Nat) (hh : h < 4) (w : World) : Calls Tryd.prog 81 #[.int .i64 (2 ^ (h + 1) : Nat)] w fun e w' => e = .returned (.int .i64 (2 ^ h : Nat)) ∧ w' = w := by
  go_enter Tryd.func81, Tryd.ntmps81
  go_wp2_with fail
  go_loopw [3] (fun i wr => ∃ j : Nat, j ≤ h ∧ i = .int .i64 (2 ^ j : Nat) ∧ wr = w) (fun i wr => 16 - (intOf i).toNat)
  case atStart => exact ⟨0, by omega, rfl, rfl⟩
  case round =>
    obtain ⟨j, hj, rfl, rfl⟩ := hrel
    obtain rfl | rfl | rfl | rfl : h = 0 ∨ h = 1 ∨ h = 2 ∨ h = 3 := by omega
    all_goals obtain rfl | rfl | rfl | rfl : j = 0 ∨ j = 1 ∨ j = 2 ∨ j = 3 := by omega
    all_goals first | (exfalso; omega) | skip
    all_goals simp only [Nat.reducePow, Nat.reduceAdd, Int.cast_ofNat_Int]
    all_goals go_wp2_with fail
    all_goals first | exact ⟨⟨1, by omega, rfl, trivial⟩, by decide⟩ | exact ⟨⟨2, by omega, rfl, trivial⟩, by decide⟩ | exact ⟨⟨3, by omega, rfl, trivial⟩, by decide⟩ | exact bodyPost_ret (v := .int .i64 1) (by simp [results, Tryd.results81, go_sem]) rfl ⟨rfl, rfl⟩ | exact bodyPost_ret (v := .int .i64 2) (by simp [results, Tryd.results81, go_sem]) rfl ⟨rfl, rfl⟩ | exact bodyPost_ret (v := .int .i64 4) (by simp [results, Tryd.results81, go_sem]) rfl ⟨rfl, rfl⟩ | exact bodyPost_ret (v := .int .i64 8) (by simp [results, Tryd.results81, go_sem]) rfl ⟨rfl, rfl⟩
/-- What the document's way up finds. -/
def UpR (l : Nat → Dg) (h : Nat) (A : Option Addr) (w : World) : Prop := 0 < h → ∃ b off, A = some ⟨b, off, none⟩ ∧ ∀ j, j < h → DgAt w b (off + j * 4) (l j)
theorem UpR.keep {l : Nat → Dg} {h : Nat} {A : Option Addr} {w w' : World} (H : UpR l h A w) (hb : Below w.heap.size w w') : UpR l h A w' := by
  intro hh
  obtain ⟨b, off, rfl, hc⟩ := H hh
  exact ⟨b, off, rfl, fun j hj => (hc j hj).below hb (hc j hj).lt⟩
theorem UpR.less {l : Nat → Dg} {h : Nat} {A : Option Addr} {w : World} (H : UpR l (h + 1) A w) : UpR l h A w := by
  intro hh
  obtain ⟨b, off, rfl, hc⟩ := H (by omega)
  exact ⟨b, off, rfl, fun j hj => hc j (by omega)⟩
set_option maxRecDepth 100000 in
set_option maxHeartbeats 8000000 in
theorem rup_any (l : Nat → Dg) (A : Option Addr) (c : Nat) (hc2 : c ≤ 9223372036854775807) : ∀ (h : Nat), h ≤ 4 → h ≤ c → ∀ (i : Nat) (leaf : Dg) (w : World), i < 2 ^ h → UpR l h A w →
    Calls Tryd.prog 89 #[.int .i64 (2 ^ h : Nat), .int .i64 (i : Nat), dgv leaf, .slice A h c] w fun e w' => e = .returned (.tuple #[dgv (upT l h i leaf), .bool true]) ∧ Below w.heap.size w w'
  | 0, hh, hhc, i, leaf, w, hi, hl => by
    simp only [Nat.pow_zero, Int.cast_ofNat_Int]
    clear hl
    go_enter Tryd.func89, Tryd.ntmps89
    go_wp2_with fail
    exact bodyPost_ret (v := .tuple #[dgv leaf, .bool true]) (by simp [results, Tryd.results89, go_sem]) rfl ⟨rfl, ((Below.refl _ _).alloc (Nat.le_refl _) _).alloc (by simp) _⟩
  | h + 1, hh, hhc, i, leaf, w, hi, hl => by
    have hp := pow_lt_i h (by omega)
    have hpp : 2 ^ (h + 1) = 2 * 2 ^ h := by rw [Nat.pow_succ]; omega
    have hp0 : 0 < 2 ^ h := Nat.pow_pos (by decide)
    have hi2 : i < 2 * 2 ^ h := by omega
    obtain ⟨b, off, rfl, hcs⟩ := hl (by omega)
    have hd := hcs h (by omega)
    have hup : UpR l h (some ⟨b, off, none⟩) w := UpR.less hl
    have hhalf := fun w' => rhalf_any h (by omega) w'
    have hrec := fun i leaf w' => rup_any l (some ⟨b, off, none⟩) c hc2 h (by omega) (by omega) i leaf w'
    have hres : upT l (h + 1) i leaf = if i < 2 ^ h then pair (upT l h i leaf) (l h) else pair (l h) (upT l h (i - 2 ^ h) leaf) := by rw [upT]
    generalize upT l (h + 1) i leaf = r at *
    generalize hk : 2 ^ h = k at *
    generalize l h = x at *
    rw [hpp] at *
    have t0 : (((2 * k : Nat) : Int) == 1) = false := by simp; omega
    have t0' : ((2 * (k : Int)) == 1) = false := by simp; omega
    have t1 : ((h : Int) + 1 == 0) = false := by simp; omega
    have t2 : IntKind.i64.wrap ((h : Int) + 1 - 1) = (h : Int) := by rw [show (h : Int) + 1 - 1 = h by omega]; exact IntWalk.i64_in _ (by omega)
    have t2' : IntKind.i64.wrap (h : Int) = (h : Int) := IntWalk.i64_in _ (by omega)
    have t3 : (0 : Int) ≤ (h : Int) := by omega
    have t4 : (h : Int) < (h : Int) + 1 := by omega
    have t5 : (h : Int) ≤ (c : Int) := by omega
    have hz := Arr.new' (w.alloc (.cells #[.int .u32 leaf.a.toNat, .int .u32 leaf.b.toNat, .int .u32 leaf.c.toNat, .int .u32 leaf.d.toNat] 24)) (w.heap.size + 1) 4 (fnOf Ot.zeroD) 24 #[.int .u32 0, .int .u32 0, .int .u32 0, .int .u32 0] (by simp) rfl
    generalize hW : (w.alloc (.cells #[.int .u32 leaf.a.toNat, .int .u32 leaf.b.toNat, .int .u32 leaf.c.toNat, .int .u32 leaf.d.toNat] 24)).alloc (.cells #[.int .u32 0, .int .u32 0, .int .u32 0, .int .u32 0] 24) = W at *
    have hb0 : Below w.heap.size w W := by subst hW; exact ((Below.refl _ _).alloc (Nat.le_refl _) _).alloc (by simp) _
    have hl0 : Arr W w.heap.size 4 (fnOf leaf) := by subst hW; exact (Arr.new w 4 (fnOf leaf) 24 _ rfl).alloc (by simp) _
    have hup0 := hup.keep hb0
    have hd0 := hd.below hb0 hd.lt
    obtain ⟨e0, e1, e2, e3⟩ := hd0
    have Hhalf := Lib.hid hhalf; have Hrec := Lib.hid hrec; have Hup0 := Lib.hid hup0; have Hres := Lib.hid hres; have Hz := Lib.hid hz; have Hl0 := Lib.hid hl0; have Hb0 := Lib.hid hb0
    clear hres hhalf hrec hup hl hcs hd hpp hk hz hl0 hb0 hup0
    go_enter Tryd.func89, Tryd.ntmps89
    go_wp2_with fail
    clear hW
    have hbx : Below W.heap.size W (W.alloc (.cells #[.int .u32 x.a.toNat, .int .u32 x.b.toNat, .int .u32 x.c.toNat, .int .u32 x.d.toNat] 24)) := (Below.refl _ _).alloc (Nat.le_refl _) _
    have hx1 := Arr.new W 4 (fnOf x) 24 #[.int .u32 x.a.toNat, .int .u32 x.b.toNat, .int .u32 x.c.toNat, .int .u32 x.d.toNat] rfl
    have Hx1 := Lib.hid hx1; have Hz1 := Lib.hid (Hz.out.keep hbx (by decide)); have Hl1 := Lib.hid (Hl0.out.keep hbx (by decide)); have Hup1 := Lib.hid (Hup0.out.keep hbx); have Hb1 := Lib.hid (Hb0.out.trans (hbx.mono Hb0.out.size))
    clear hx1 hbx Hz Hl0 Hup0 Hb0 e0 e1 e2 e3
    refine (Hhalf.out _).mono ?_
    rintro e w0 ⟨rfl, rfl⟩
    generalize hw0 : W.alloc (.cells #[.int .u32 x.a.toNat, .int .u32 x.b.toNat, .int .u32 x.c.toNat, .int .u32 x.d.toNat] 24) = w0 at *
    clear hw0
    by_cases hik : i < k
    · have hdk : decide ((i : Int) < (k : Int)) = true := by simp; omega
      have hr2 := Hres.out
      rw [if_pos hik] at hr2
      generalize hy : upT l h i leaf = y at *
      have hr3 : pair y x = r := hr2.symm
      have Hy := Lib.hid hy; have Hr3 := Lib.hid hr3
      clear hr2 hy hr3
      obtain ⟨f0, f1, f2, f3⟩ := Hl1.out.dg
      go_wp2_with fail
      refine (Hrec.out i leaf _ (by omega) Hup1.out).mono ?_
      rw [Hy.out]
      rintro e w1 ⟨rfl, hb2⟩
      have Hl2 := Lib.hid (Hl1.out.keep hb2 (by decide)); have Hz2 := Lib.hid (Hz1.out.keep hb2 (by decide)); have Hx2 := Lib.hid (Hx1.out.keep hb2 (by decide)); have Hb2 := Lib.hid (Hb1.out.trans (hb2.mono Hb1.out.size))
      have hs2 : w0.heap.size ≤ w1.heap.size := hb2.size
      clear Hl1 Hz1 Hx1 Hb1 Hup1 hb2 f0 f1 f2 f3
      obtain ⟨x0, x1, x2, x3⟩ := Hx2.out.dg
      have n1 : W.heap.size < w1.heap.size := Hx2.out.lt (by decide)
      have n2 : W.heap.size ≠ w1.heap.size := by omega
      have hbn : Below w1.heap.size w1 (w1.alloc (.cells #[.int .u32 y.a.toNat, .int .u32 y.b.toNat, .int .u32 y.c.toNat, .int .u32 y.d.toNat] 24)) := (Below.refl _ _).alloc (Nat.le_refl _) _
      have hz3 := Hz2.out.keep hbn (by decide)
      have hb3 := Hb2.out.trans (hbn.mono Hb2.out.size)
      have Hz3 := Lib.hid hz3; have Hb3 := Lib.hid hb3
      clear hbn hz3 hb3
      go_wp2_with fail
      refine (rpair_any y x _).mono ?_
      rw [Hr3.out]
      rintro e w2 ⟨rfl, hb4⟩
      have hz4 := Hz3.out.keep hb4 (by decide)
      have hb5 := Hb3.out.trans (hb4.mono Hb3.out.size)
      obtain ⟨d0, d1, d2, d3⟩ := hz4.dg
      have hf := fun j h => hz4.free j h
      clear x0 x1 x2 x3 hb4 hz4
      go_wp2_with fail
      exact bodyPost_ret (v := .tuple #[dgv r, .bool true]) (by simp [results, Tryd.results89, go_sem, d0, d1, d2, d3]) rfl ⟨rfl, hb5.fill4 (by omega) _ _ _ _⟩
    · have hdk : decide ((i : Int) < (k : Int)) = false := by simp; omega
      have t6 : IntKind.i64.wrap (2 * (k : Int) - (k : Int)) = (k : Int) := by rw [show 2 * (k : Int) - k = k by omega]; exact IntWalk.i64_in _ (by omega)
      have t7 : IntKind.i64.wrap ((i : Int) - (k : Int)) = ((i - k : Nat) : Int) := by rw [show (i : Int) - k = ((i - k : Nat) : Int) by omega]; exact IntWalk.i64_in _ (by omega)
      have t8 : IntKind.i64.wrap ((2 * k : Nat) - (k : Int)) = (k : Int) := by rw [show ((2 * k : Nat) : Int) - k = k by omega]; exact IntWalk.i64_in _ (by omega)
      have hr2 := Hres.out
      rw [if_neg hik] at hr2
      generalize hy : upT l h (i - k) leaf = y at *
      have hr3 : pair x y = r := hr2.symm
      have Hy := Lib.hid hy; have Hr3 := Lib.hid hr3
      clear hr2 hy hr3
      obtain ⟨f0, f1, f2, f3⟩ := Hl1.out.dg
      go_wp2_with fail
      refine (Hrec.out (i - k) leaf _ (by omega) Hup1.out).mono ?_
      rw [Hy.out]
      rintro e w1 ⟨rfl, hb2⟩
      have Hl2 := Lib.hid (Hl1.out.keep hb2 (by decide)); have Hz2 := Lib.hid (Hz1.out.keep hb2 (by decide)); have Hx2 := Lib.hid (Hx1.out.keep hb2 (by decide)); have Hb2 := Lib.hid (Hb1.out.trans (hb2.mono Hb1.out.size))
      have hs2 : w0.heap.size ≤ w1.heap.size := hb2.size
      clear Hl1 Hz1 Hx1 Hb1 Hup1 hb2 f0 f1 f2 f3
      obtain ⟨x0, x1, x2, x3⟩ := Hx2.out.dg
      have n1 : W.heap.size < w1.heap.size := Hx2.out.lt (by decide)
      have n2 : W.heap.size ≠ w1.heap.size := by omega
      have hbn : Below w1.heap.size w1 (w1.alloc (.cells #[.int .u32 y.a.toNat, .int .u32 y.b.toNat, .int .u32 y.c.toNat, .int .u32 y.d.toNat] 24)) := (Below.refl _ _).alloc (Nat.le_refl _) _
      have hz3 := Hz2.out.keep hbn (by decide)
      have hb3 := Hb2.out.trans (hbn.mono Hb2.out.size)
      have Hz3 := Lib.hid hz3; have Hb3 := Lib.hid hb3
      clear hbn hz3 hb3
      go_wp2_with fail
      refine (rpair_any x y _).mono ?_
      rw [Hr3.out]
      rintro e w2 ⟨rfl, hb4⟩
      have hz4 := Hz3.out.keep hb4 (by decide)
      have hb5 := Hb3.out.trans (hb4.mono Hb3.out.size)
      obtain ⟨d0, d1, d2, d3⟩ := hz4.dg
      have hf := fun j h => hz4.free j h
      clear x0 x1 x2 x3 hb4 hz4
      go_wp2_with fail
      exact bodyPost_ret (v := .tuple #[dgv r, .bool true]) (by simp [results, Tryd.results89, go_sem, d0, d1, d2, d3]) rfl ⟨rfl, hb5.fill4 (by omega) _ _ _ _⟩
end Go.Proofs.YtpodfmnnabepaaaDoor

namespace Go.Proofs.YtpodfmnnabepaaaDoor
open Go.RowKit
open Ot (Dg)
set_option maxRecDepth 100000 in
theorem rreach_short (m : Dg) (v : Value) (l : List Dg) (hl : l.length ≠ 35) (w : World) (hv : SigAt w v l) :
    Calls Tryd.prog 28 #[dgv m, v] w fun e w' => e = .returned (.tuple #[dgv Ot.zeroD, .bool false]) ∧ Below w.heap.size w w' := by
  obtain ⟨A, c, rfl, hl1, _⟩ := hv
  have hne : ((l.length : Int) != 35) = true := by rw [bne_iff_ne]; omega
  generalize l.length = n at *
  go_enter Tryd.func28, Tryd.ntmps28
  go_wp2
  refine bodyPost_ret (v := .tuple #[dgv Ot.zeroD, .bool false]) (by simp [results, Tryd.results28, go_sem]; first | rfl | (and_intros <;> rfl)) rfl ⟨rfl, ?_⟩
  exact ((Below.refl _ _).alloc (Nat.le_refl _) _).alloc (by simp) _
/-- What the reference's Reach folds. -/
noncomputable def rks (m : Dg) (s : List Dg) : List Dg := (List.range 35).map fun i => Ot.walk pair (s.getD i Ot.zeroD) (15 - (Ot.steps m).getD i 0)
theorem ofK_rks (m : Dg) (s : List Dg) : ofK (rks m s) = Ot.reachK pair m s := ofK_range _ 35
set_option maxRecDepth 100000 in
set_option maxHeartbeats 2000000 in
theorem rreach_full (m : Dg) (v : Value) (l : List Dg) (hl : l.length = 35) (w : World) (hv : SigAt w v l) :
    Calls Tryd.prog 28 #[dgv m, v] w fun e w' => e = .returned (.tuple #[dgv (Ot.reachK pair m l), .bool true]) ∧ Below w.heap.size w w' := by
  obtain ⟨i0, hi, hz0, hz1, hz2⟩ := info_parts Tryd.info24
  obtain ⟨A, c, rfl, _, hcs⟩ := hv
  obtain ⟨b, off, rfl, hbl, hcs⟩ := hcs (by omega)
  rw [hl] at hcs ⊢
  go_enter Tryd.func28, Tryd.ntmps28
  go_wp2_with fail
  generalize hW : ((w.alloc (.cells #[.int .u32 m.a.toNat, .int .u32 m.b.toNat, .int .u32 m.c.toNat, .int .u32 m.d.toNat] 24)).alloc (.cells #[.int .u32 0, .int .u32 0, .int .u32 0, .int .u32 0] 24)) = W
  have hb0 : Below w.heap.size w W := by subst hW; exact ((Below.refl _ _).alloc (Nat.le_refl _) _).alloc (by simp) _
  have hz0' : Arr W (w.heap.size + 1) 4 (fnOf Ot.zeroD) := by subst hW; exact Arr.new' _ _ 4 (fnOf Ot.zeroD) 24 _ (by simp) rfl
  have hs0 : w.heap.size + 2 ≤ W.heap.size := by subst hW; simp
  clear hW
  refine (rsteps_any m _).mono ?_
  rintro e w1 ⟨v, rfl, hb1, hown⟩
  have hn := own_num hown
  have hz1' := hz0'.keep hb1 (by decide)
  have hb2 := hb0.trans (hb1.mono hb0.size)
  have hs1 : w.heap.size + 2 ≤ w1.heap.size := by have := hb1.size; omega
  clear hb0 hb1 hown hz0'
  obtain ⟨g, cap, rfl, hgl, hcell⟩ := hn
  go_wp2_with fail
  go_loopw [7, 8] (fun v i wr => ∃ k : Nat, k ≤ 35 ∧ i = .int .i64 k ∧ wr.ownsRow w1.heap.size 24 4 v k (dcs ((rks m l).take k)) ∧ Below w1.heap.size w1 wr) (fun _ i wr => 35 - (intOf i).toNat)
  case atStart => exact ⟨0, by omega, rfl, World.ownsRow_nil _ _ _ _, Below.refl _ _⟩
  case round =>
    obtain ⟨k, hk, rfl, hown, hb⟩ := hrel
    by_cases hlt : k < 35
    · have hd : decide ((k : Int) < 35) = true := by simp; omega
      have hk1 : (k : Int) < 35 := by omega
      have hk0 : (0 : Int) ≤ (k : Int) := by omega
      have hck := (hb.cell (p := ⟨g, k, none⟩) hgl).trans (hcell k hlt)
      have hdk := (hcs k hlt).below (hb2.trans (hb.mono hb2.size)) hbl
      have hst := Ot.steps_at_le m k
      have hts : (rks m l).take (k + 1) = (rks m l).take k ++ [Ot.walk pair (l.getD k Ot.zeroD) (15 - (Ot.steps m).getD k 0)] := map_take_snoc _ k 35 hlt
      generalize (Ot.steps m).getD k 0 = n at *
      generalize hy : l.getD k Ot.zeroD = d at *
      have q2 : (15 - (n : Int)) = ((15 - n : Nat) : Int) := by omega
      generalize hnn : 15 - n = n' at *
      have q3 : IntKind.i64.wrap (n' : Int) = (n' : Int) := IntWalk.i64_in _ (by omega)
      generalize hzz : Ot.walk pair d n' = z at *
      have Hts := Lib.hid hts; have Hy := Lib.hid hy; have Hz := Lib.hid hzz; clear hts hy hzz
      have Hcell := Lib.hid hcell; have Hcs := Lib.hid hcs; clear hcell hcs
      go_upto_region 8 with fail
      refine wp_region_inv (fun wx => DgAt wx b (off + k * 4) d ∧ wx.ownsRow w1.heap.size 24 4 u7 k (dcs ((rks m l).take k)) ∧ Below w1.heap.size w1 wx ∧ wx.cell? ⟨g, k, none⟩ = some (.int .i64 n)) (fun j v w' => match j with | 0 => v = u7 | 1 => v = .slice (some ⟨b, off, none⟩) 35 c | 2 => v = .int .i64 k | 3 => v = .pointer (some ⟨b, off + k * 4, none⟩) | 4 => v = dgv d | 5 => v = .slice (some ⟨g, 0, none⟩) 35 cap | 6 => v = .int .i64 k | 7 => v = .pointer (some ⟨g, k, none⟩) | 8 => v = .int .i64 n | 9 => v = .int .i64 n' | 10 => v = dgv z | 11 => ∃ B, v = .slice (some ⟨B, 0, none⟩) 1 1 ∧ DgAt w' B 0 z | _ => True) 12 (by kernel_rfl) (by kernel_rfl) ⟨hdk, hown.drew, hb.drew, hck⟩
        (fun _ _ h hb => ⟨h.1.below hb h.1.lt, own_keep h.2.1 hb, h.2.2.1.trans (hb.mono h.2.2.1.size), cell_keep h.2.2.2 hb⟩) ?_ ?_ ?_
      · rintro (_|_|_|_|_|_|_|_|_|_|_|_|j) v w1 w2 hb h
        all_goals first | exact h | (obtain ⟨B, rfl, hD⟩ := h; exact ⟨B, rfl, hD.below hb hD.lt⟩)
      · refine ⟨fun us wx hx hd => ?_, fun us wx hx hd => ?_, fun us wx hx hd => ?_, fun us wx hx hd => ?_, fun us wx hx hd => ?_, fun us wx hx hd => ?_, fun us wx hx hd => ?_, fun us wx hx hd => ?_, fun us wx hx hd => ?_, fun us wx hx hd => ?_, fun us wx hx hd => ?_, fun us wx hx hd => ?_, trivial⟩
        all_goals simp only [putAll, dstOf, List.getElem?_toArray, List.getElem?_cons_succ, List.getElem?_cons_zero, Option.bind_some]
        all_goals go_frame
        · go_simp; exact Below.refl _ _
        · go_simp; exact Below.refl _ _
        · go_simp; exact Below.refl _ _
        · rw [show us 1 = .slice (some ⟨b, off, none⟩) 35 c from hd 1 rfl, show us 2 = .int .i64 k from hd 2 rfl]
          go_simp
          exact Below.refl _ _
        · rw [show us 3 = .pointer (some ⟨b, off + k * 4, none⟩) from hd 3 rfl]
          obtain ⟨c0, c1, c2, c3⟩ := hx.1
          have H := Lib.hid hx; clear hx
          go_simp
          first | exact Below.refl _ _ | exact ⟨by and_intros <;> rfl, Below.refl _ _⟩
        · go_simp; exact Below.refl _ _
        · go_simp; exact Below.refl _ _
        · rw [show us 5 = .slice (some ⟨g, 0, none⟩) 35 cap from hd 5 rfl, show us 6 = .int .i64 k from hd 6 rfl]
          go_simp
          exact Below.refl _ _
        · rw [show us 7 = .pointer (some ⟨g, k, none⟩) from hd 7 rfl]
          have c := hx.2.2.2
          go_simp
          exact Below.refl _ _
        · rw [show us 8 = .int .i64 n from hd 8 rfl]
          go_simp
          first | exact Below.refl _ _ | exact ⟨by omega, Below.refl _ _⟩
        · rw [show us 4 = dgv d from hd 4 rfl, show us 9 = .int .i64 n' from hd 9 rfl]
          go_simp
          refine (rwalk_any d n' (by omega) _).mono ?_
          rw [Hz.out]
          rintro e w1 ⟨rfl, hb1⟩
          exact ⟨_, rfl, rfl, hb1⟩
        · rw [show us 10 = dgv z from hd 10 rfl]
          have Hx := Lib.hid hx; clear hx
          go_simp
          refine ⟨?_, (Below.refl _ _).alloc (Nat.le_refl _) _⟩
          have := Arr.new wx 4 (fnOf z) 24 #[.int .u32 z.a.toNat, .int .u32 z.b.toNat, .int .u32 z.c.toNat, .int .u32 z.d.toNat] rfl
          exact this.dg
      rintro us W1 ⟨_, hown3, hb3, _⟩ hF
      have h0 : us 0 = u7 := hF 0 (by decide)
      obtain ⟨B, hB, hD⟩ : ∃ B, us 11 = .slice (some ⟨B, 0, none⟩) 1 1 ∧ DgAt W1 B 0 z := hF 11 (by decide)
      clear hF
      simp only [putAll, dstOf, List.getElem?_toArray, List.getElem?_cons_succ, List.getElem?_cons_zero, Option.bind_some, List.drop_succ_cons, List.drop_zero]
      rw [h0, hB]
      go_frame
      clear h0 hB hown
      have hbs := hb3.size
      go_wp2_with (at_builtin; refine wpList_append_own _ rfl _ _ 32 rfl w1.heap.size 24 i0 (dgv Ot.zeroD) 4 16 Tryd.underlying32 hi hz0 hz1 hz2 rfl (by decide) _ _ _ rfl hown3 ⟨B, 0, none⟩ 1 1 [.int .u32 z.a.toNat, .int .u32 z.b.toNat, .int .u32 z.c.toNat, .int .u32 z.d.toNat] rfl rfl ?c1 ?c2 ?c3 ?c4 ?c5 ?_)
      case c1 =>
        intro j u hu
        rw [add_at]
        obtain ⟨d0, d1, d2, d3⟩ := hD
        match j, hu with
        | 0, hu => simpa using d0.trans hu
        | 1, hu => simpa using d1.trans hu
        | 2, hu => simpa using d2.trans hu
        | 3, hu => simpa using d3.trans hu
      case c2 => exact dg_one z
      case c3 => unfold maxLen; omega
      case c4 => omega
      case c5 => omega
      intro v' w4 hown1 hg1 _
      have hb7 : Below w1.heap.size w1 w4 := hb3.grown hg1 (by omega) (fun q hq => (hown3.lt q hq).1)
      clear hg1 hown3 hb3
      go_wp2
      go_roundw
      case rel =>
        refine ⟨k + 1, by omega, by go_num, ?_, hb7⟩
        rw [Hts.out, dcs_snoc]
        exact hown1
      case measure => simp [intOf]; omega
    · obtain rfl : k = 35 := by omega
      have hln : (rks m l).length = 35 := by simp [rks]
      rw [List.take_of_length_le (by omega)] at hown
      have hsig := own_sig hown
      have hz2' := hz1'.keep hb (by decide)
      have hb3 := hb2.trans (hb.mono hb2.size)
      have hrs : w.heap.size + 2 ≤ wr.heap.size := by have := hb.size; omega
      have ho := ofK_rks m l
      generalize rks m l = ps at *
      generalize hp : Ot.reachK pair m l = p at *
      have Hp := Lib.hid hp; have Ho := Lib.hid ho; have Hs := Lib.hid hsig; have Hcell := Lib.hid hcell; have Hcs := Lib.hid hcs; clear hp ho hown hz1' hsig hcell hcs
      go_wp2_with fail
      refine (of_any _ ps _ Hs.out).mono ?_
      rw [Ho.out]
      rintro e w5 ⟨rfl, hb5⟩
      have hz3 := hz2'.keep hb5 (by decide)
      obtain ⟨d0, d1, d2, d3⟩ := hz3.dg
      have hf := fun j h => hz3.free j h
      go_wp2
      exact bodyPost_ret (v := .tuple #[dgv p, .bool true]) (by simp [results, Tryd.results28, go_sem, d0, d1, d2, d3]) rfl ⟨by rw [Hp.out], (hb3.trans (hb5.mono hb3.size)).fill4 (by omega) _ _ _ _⟩
set_option maxRecDepth 100000 in
theorem rcheck_short (p m : Dg) (v : Value) (l : List Dg) (hl : l.length ≠ 35) (w : World) (hv : SigAt w v l) :
    Calls Tryd.prog 29 #[dgv p, dgv m, v] w fun e w' => e = .returned (.bool false) ∧ Below w.heap.size w w' := by
  go_enter Tryd.func29, Tryd.ntmps29
  go_wp2_with fail
  generalize hW : ((w.alloc (.cells #[.int .u32 p.a.toNat, .int .u32 p.b.toNat, .int .u32 p.c.toNat, .int .u32 p.d.toNat] 24)).alloc (.cells #[.int .u32 m.a.toNat, .int .u32 m.b.toNat, .int .u32 m.c.toNat, .int .u32 m.d.toNat] 24)) = W
  have hb0 : Below w.heap.size w W := by subst hW; exact (((Below.refl _ _).alloc (Nat.le_refl _) _).alloc (by simp) _)
  have hv0 := hv.below hb0
  have hs0 := hb0.size
  clear hW hv
  refine (rreach_short m v l hl _ hv0).mono ?_
  rintro e w1 ⟨rfl, hb1⟩
  have hb2 := hb0.trans (hb1.mono hs0)
  clear hb0 hb1 hv0
  go_wp2
  go_ret
  exact ⟨rfl, hb2.alloc hb2.size _⟩
set_option maxRecDepth 100000 in
theorem rcheck_full (p m : Dg) (v : Value) (l : List Dg) (hl : l.length = 35) (w : World) (hv : SigAt w v l) :
    Calls Tryd.prog 29 #[dgv p, dgv m, v] w fun e w' => e = .returned (.bool (decide (Ot.reachK pair m l = p))) ∧ Below w.heap.size w w' := by
  generalize hk : Ot.reachK pair m l = k
  have Hk := Lib.hid hk; clear hk
  go_enter Tryd.func29, Tryd.ntmps29
  go_wp2_with fail
  generalize hW : ((w.alloc (.cells #[.int .u32 p.a.toNat, .int .u32 p.b.toNat, .int .u32 p.c.toNat, .int .u32 p.d.toNat] 24)).alloc (.cells #[.int .u32 m.a.toNat, .int .u32 m.b.toNat, .int .u32 m.c.toNat, .int .u32 m.d.toNat] 24)) = W
  have hb0 : Below w.heap.size w W := by subst hW; exact (((Below.refl _ _).alloc (Nat.le_refl _) _).alloc (by simp) _)
  have hz0 : Arr W w.heap.size 4 (fnOf p) := by subst hW; exact (Arr.new w 4 (fnOf p) 24 _ rfl).alloc (by simp) _
  have hv0 := hv.below hb0
  have hs0 := hb0.size
  have hsz0 : w.heap.size + 2 ≤ W.heap.size := by subst hW; simp
  clear hW hv
  refine (rreach_full m v l hl _ hv0).mono ?_
  rw [Hk.out]
  rintro e w1 ⟨rfl, hb1⟩
  have hb2 := hb0.trans (hb1.mono hs0)
  have hz1 := hz0.below hb1 (by omega)
  have hsz1 := hb1.size
  have hlt1 : w.heap.size < w1.heap.size := by omega
  obtain ⟨c0, c1, c2, c3⟩ := hz1.dg
  clear hb0 hb1 hv0 hl
  have hq := dg_eql k p
  go_wp2
  go_ret
  exact ⟨rfl, hb2.alloc hb2.size _⟩
end Go.Proofs.YtpodfmnnabepaaaDoor

namespace Go.Proofs.YtpodfmnnabepaaaDoor
open Go.RowKit
open Ot (Dg)
set_option maxRecDepth 100000 in
set_option maxHeartbeats 4000000 in
theorem rmcheck_any (root leaf : Dg) (i : Int) (v : Value) (l : List Dg) (w : World) (hv : PathAt w v l) (hl : l.length ≤ 4) :
    Calls Tryd.prog 79 #[dgv root, .int .i64 (2 ^ l.length : Nat), .int .i64 i, dgv leaf, v] w fun e w' => e = .returned (.bool (mchk root i leaf l)) ∧ Below w.heap.size w w' := by
  obtain ⟨A, c, rfl, hlc, hc2, _, hcs⟩ := hv
  have hres : mchk root i leaf l = (decide (0 ≤ i ∧ i < (2 ^ l.length : Nat)) && decide (upT (fun j => l.getD j Ot.zeroD) l.length i.toNat leaf = root)) := rfl
  generalize mchk root i leaf l = r at *
  have hp := pow_lt_i l.length hl
  have hp0 : 0 < 2 ^ l.length := Nat.pow_pos (by decide)
  have hup : UpR (fun j => l.getD j Ot.zeroD) l.length A w := fun hh => hcs hh
  have hrec := fun (i : Nat) (w' : World) (hi : i < 2 ^ l.length) (hu : UpR (fun j => l.getD j Ot.zeroD) l.length A w') => rup_any (fun j => l.getD j Ot.zeroD) A c hc2 l.length hl hlc i leaf w' hi hu
  have g20 : decide ((20 : Int) < l.length) = false := by simp; omega
  generalize upT (fun j => l.getD j Ot.zeroD) l.length = up at *
  generalize hn : 2 ^ l.length = n at *
  have g1000 : decide ((1000 : Int) < (n : Int)) = false := by simp; omega
  generalize hW : (w.alloc (.cells #[.int .u32 root.a.toNat, .int .u32 root.b.toNat, .int .u32 root.c.toNat, .int .u32 root.d.toNat] 24)).alloc (.cells #[.int .u32 leaf.a.toNat, .int .u32 leaf.b.toNat, .int .u32 leaf.c.toNat, .int .u32 leaf.d.toNat] 24) = W
  have hb0 : Below w.heap.size w W := by subst hW; exact ((Below.refl _ _).alloc (Nat.le_refl _) _).alloc (by simp) _
  have hr0 : Arr W w.heap.size 4 (fnOf root) := by subst hW; exact (Arr.new w 4 (fnOf root) 24 _ rfl).alloc (by simp) _
  have hl0 : Arr W (w.heap.size + 1) 4 (fnOf leaf) := by subst hW; exact Arr.new' (w.alloc _) (w.heap.size + 1) 4 (fnOf leaf) 24 _ (by simp) rfl
  have hup0 := hup.keep hb0
  have Hr0 := Lib.hid hr0; have Hl0 := Lib.hid hl0; have Hb0 := Lib.hid hb0; have Hup0 := Lib.hid hup0; have Hrec := Lib.hid hrec; have Hres := Lib.hid hres
  clear hr0 hl0 hb0 hup0 hup hcs hrec hres hn
  by_cases g1 : i < 0
  · have t1 := decide_eq_true g1
    have hr : r = false := by rw [Hres.out]; simp; omega
    have Hr := Lib.hid hr; clear hr
    go_enter Tryd.func79, Tryd.ntmps79
    go_wp2_with fail
    exact bodyPost_ret (v := .bool false) (by simp [results, Tryd.results79, go_sem]) rfl ⟨by rw [Hr.out], Hb0.out⟩
  have t1 := decide_eq_false g1
  by_cases g2 : (n : Int) ≤ i
  · have t2 := decide_eq_true g2
    have hr : r = false := by rw [Hres.out]; simp; omega
    have Hr := Lib.hid hr; clear hr
    go_enter Tryd.func79, Tryd.ntmps79
    go_wp2_with fail
    exact bodyPost_ret (v := .bool false) (by simp [results, Tryd.results79, go_sem]) rfl ⟨by rw [Hr.out], Hb0.out⟩
  have t2 := decide_eq_false g2
  obtain ⟨I, rfl⟩ : ∃ I : Nat, i = I := ⟨i.toNat, by omega⟩
  have hr : r = decide (up I leaf = root) := by
    rw [Hres.out, decide_eq_true (show 0 ≤ (I : Int) ∧ (I : Int) < (n : Int) by omega)]; simp
  have Hr := Lib.hid hr; clear hr
  obtain ⟨f0, f1, f2, f3⟩ := Hl0.out.dg
  go_enter Tryd.func79, Tryd.ntmps79
  go_wp2_with fail
  clear hW f0 f1 f2 f3
  refine (Hrec.out I _ (by omega) Hup0.out).mono ?_
  rintro e w1 ⟨rfl, hb1⟩
  generalize hy : up I leaf = y at *
  have hr3 : decide (y = root) = r := by rw [Hr.out, ← hy]
  have hq := dg_eql y root
  rw [hr3] at hq
  have hb2 := Hb0.out.trans (hb1.mono Hb0.out.size)
  have hr1 := Hr0.out.keep hb1 (by decide)
  obtain ⟨q0, q1, q2, q3⟩ := hr1.dg
  have n1 : w.heap.size < w1.heap.size := hr1.lt (by decide)
  have n2 : w.heap.size ≠ w1.heap.size := by omega
  have Hb2 := Lib.hid hb2
  clear hy hr3 hr1 hb1 hb2
  go_wp2_with fail
  exact bodyPost_ret (v := .bool r) (by simp [results, Tryd.results79, go_sem]) rfl ⟨rfl, Hb2.out.alloc Hb2.out.size _⟩
set_option maxRecDepth 100000 in
set_option maxHeartbeats 8000000 in
theorem rkcheck_any (p m : Dg) (i : Int) (v u : Value) (one path : List Dg) (w : World) (hv : SigAt w v one) (hu : PathAt w u path) :
    Calls Tryd.prog 69 #[dgv p, dgv m, sgV i v u] w fun e w' => e = .returned (.bool (kchk p m i one path)) ∧ Below w.heap.size w w' := by
  obtain ⟨A, c, hue, hlc, hc2, _⟩ := id hu
  obtain ⟨A', c', hve, hlen, _⟩ := id hv
  have hres : kchk p m i one path = (decide (path.length ≤ 4) && (decide (one.length = 35) && mchk p i (Ot.reachK pair m one) path)) := rfl
  generalize kchk p m i one path = r at *
  unfold sgV
  generalize hW : ((w.alloc (.cells #[.int .u32 p.a.toNat, .int .u32 p.b.toNat, .int .u32 p.c.toNat, .int .u32 p.d.toNat] 24)).alloc (.cells #[.int .u32 m.a.toNat, .int .u32 m.b.toNat, .int .u32 m.c.toNat, .int .u32 m.d.toNat] 24)).alloc (.cells #[.int .i64 i, v, u] 57) = W
  have hb0 : Below w.heap.size w W := by subst hW; exact (((Below.refl _ _).alloc (Nat.le_refl _) _).alloc (by simp) _).alloc (by simp; omega) _
  have hp0 : Arr W w.heap.size 4 (fnOf p) := by subst hW; exact ((Arr.new w 4 (fnOf p) 24 _ rfl).alloc (by simp) _).alloc (by simp; omega) _
  have hm0 : Arr W (w.heap.size + 1) 4 (fnOf m) := by subst hW; exact (Arr.new' (w.alloc _) (w.heap.size + 1) 4 (fnOf m) 24 _ (by simp) rfl).alloc (by simp) _
  have hg0 : W.cell? ⟨w.heap.size + 1 + 1, 0, none⟩ = some (.int .i64 i) := by subst hW; exact World.cell?_alloc_at _ _ _ _ (by simp)
  have hg1 : W.cell? ⟨w.heap.size + 1 + 1, 1, none⟩ = some v := by subst hW; exact World.cell?_alloc_at _ _ _ _ (by simp)
  have hg2 : W.cell? ⟨w.heap.size + 1 + 1, 2, none⟩ = some u := by subst hW; exact World.cell?_alloc_at _ _ _ _ (by simp)
  have hu0 := hu.keep hb0
  have hv0 := hv.below hb0
  subst hue hve
  by_cases g1 : (4 : Int) < path.length
  · have t1 := decide_eq_true g1
    have hr : r = false := by rw [hres]; simp; omega
    subst hr
    have Hb0 := Lib.hid hb0
    clear hres hu hv hu0 hv0 hb0 hp0 hm0
    go_enter Tryd.func69, Tryd.ntmps69
    go_wp2_with fail
    exact bodyPost_ret (v := .bool false) (by simp [results, Tryd.results69, go_sem]) rfl ⟨rfl, Hb0.out⟩
  have t1 := decide_eq_false g1
  have hl4 : path.length ≤ 4 := by omega
  obtain ⟨m0, m1, m2, m3⟩ := hm0.dg
  have Hu := Lib.hid hu0; have Hv := Lib.hid hv0; have Hres := Lib.hid hres; have Hb0 := Lib.hid hb0; have Hp0 := Lib.hid hp0; have Hg0 := Lib.hid hg0; have Hg1 := Lib.hid hg1; have Hg2 := Lib.hid hg2
  clear hres hu hv hu0 hv0 hb0 hp0 hm0 hg0
  go_enter Tryd.func69, Tryd.ntmps69
  go_wp2_with fail
  clear hW m0 m1 m2 m3 hg1 hg2
  by_cases h35 : one.length = 35
  · refine (rreach_full m _ one h35 W Hv.out).mono ?_
    rintro e w1 ⟨rfl, hb1⟩
    have hr : r = mchk p i (Ot.reachK pair m one) path := by rw [Hres.out]; simp [h35, hl4]
    have Hr := Lib.hid hr; clear hr
    generalize Ot.reachK pair m one = k at *
    have hbx : Below w1.heap.size w1 (w1.alloc (.cells #[.int .u32 k.a.toNat, .int .u32 k.b.toNat, .int .u32 k.c.toNat, .int .u32 k.d.toNat] 24)) := (Below.refl _ _).alloc (Nat.le_refl _) _
    have hb2 := Hb0.out.trans ((hb1.trans (hbx.mono hb1.size)).mono Hb0.out.size)
    have hb3 := hb1.trans (hbx.mono hb1.size)
    have hp2 := Hp0.out.keep hb3 (by decide)
    have hg02 := cell_keep Hg0.out hb3
    have hg22 := cell_keep Hg2.out hb3
    have hu2 := Hu.out.keep hb3
    have hk2 := Arr.new w1 4 (fnOf k) 24 #[.int .u32 k.a.toNat, .int .u32 k.b.toNat, .int .u32 k.c.toNat, .int .u32 k.d.toNat] rfl
    have Hp2 := Lib.hid hp2; have Hg02 := Lib.hid hg02; have Hg22 := Lib.hid hg22; have Hu2 := Lib.hid hu2; have Hk2 := Lib.hid hk2; have Hb2 := Lib.hid hb2
    clear hp2 hg02 hg22 hu2 hk2 hb2 hb3 hbx hb1 Hp0 Hg0 Hg1 Hg2 Hu Hv Hb0
    go_wp2_with fail
    generalize hw2 : w1.alloc (.cells #[.int .u32 k.a.toNat, .int .u32 k.b.toNat, .int .u32 k.c.toNat, .int .u32 k.d.toNat] 24) = w2 at *
    have hg22 := Hg22.out
    go_loop [9, 10] (fun n j => ∃ h : Nat, h ≤ path.length ∧ j = .int .i64 h ∧ n = .int .i64 (2 ^ h : Nat)) (fun _ j => path.length - (intOf j).toNat)
    case atStart => exact ⟨0, by omega, rfl, rfl⟩
    case round =>
      obtain ⟨h, hh, rfl, rfl⟩ := hrel
      by_cases hlt : h < path.length
      · have hd : decide ((h : Int) < path.length) = true := by simp; omega
        have q1 : IntKind.i64.wrap ((h : Int) + 1) = (h : Int) + 1 := IntWalk.i64_in _ (by omega)
        have q2 : IntKind.i64.wrap (((2 ^ h : Nat) : Int) * 2) = ((2 ^ (h + 1) : Nat) : Int) := by
          obtain rfl | rfl | rfl | rfl : h = 0 ∨ h = 1 ∨ h = 2 ∨ h = 3 := by omega
          all_goals decide
        generalize hx : 2 ^ h = x at *
        generalize hx2 : 2 ^ (h + 1) = x2 at *
        have Hx2 := Lib.hid hx2; clear hx hx2
        have Hlt := Lib.hid hlt; clear hlt
        go_wp2_with fail
        refine ⟨⟨h + 1, Hlt.out, by simp, by rw [Hx2.out]⟩, ?_⟩
        have := Hlt.out
        simp [intOf]; omega
      · obtain rfl : h = path.length := by omega
        have hd : decide ((path.length : Int) < path.length) = false := by simp
        obtain ⟨p0, p1, p2, p3⟩ := Hp2.out.dg
        obtain ⟨k0, k1, k2, k3⟩ := Hk2.out.dg
        have hg02 := Hg02.out
        have hmc := rmcheck_any p k i (.slice A path.length c) path w2 Hu2.out hl4
        have Hmc := Lib.hid hmc; clear hmc
        generalize 2 ^ path.length = N at *
        clear hw2
        go_wp2_with fail
        refine Hmc.out.mono ?_
        rintro e w3 ⟨rfl, hb4⟩
        have hb5 := Hb2.out.trans (hb4.mono Hb2.out.size)
        rw [← Hr.out]
        go_wp2_with fail
        exact bodyPost_ret (v := .bool r) (by simp [results, Tryd.results69, go_sem]) rfl ⟨rfl, hb5⟩
  · refine (rreach_short m _ one h35 W Hv.out).mono ?_
    rintro e w1 ⟨rfl, hb1⟩
    have hr : r = false := by rw [Hres.out]; simp [h35]
    have Hr := Lib.hid hr; clear hr
    have hbx : Below w1.heap.size w1 (w1.alloc (.cells #[.int .u32 Ot.zeroD.a.toNat, .int .u32 Ot.zeroD.b.toNat, .int .u32 Ot.zeroD.c.toNat, .int .u32 Ot.zeroD.d.toNat] 24)) := (Below.refl _ _).alloc (Nat.le_refl _) _
    have hb3 := hb1.trans (hbx.mono hb1.size)
    have hb2 := Hb0.out.trans (hb3.mono Hb0.out.size)
    have hg22 := cell_keep Hg2.out hb3
    have Hb2 := Lib.hid hb2; have Hg22 := Lib.hid hg22
    clear hb2 hb3 hbx hb1 Hp0 Hg0 Hg1 Hg2 Hu Hv Hb0 hg22
    go_wp2_with fail
    have hg22 := Hg22.out
    generalize hw2 : w1.alloc (.cells #[.int .u32 Ot.zeroD.a.toNat, .int .u32 Ot.zeroD.b.toNat, .int .u32 Ot.zeroD.c.toNat, .int .u32 Ot.zeroD.d.toNat] 24) = w2 at *
    go_loop [9, 10] (fun n j => ∃ (h : Nat) (x : Int), h ≤ path.length ∧ j = .int .i64 h ∧ n = .int .i64 x) (fun _ j => path.length - (intOf j).toNat)
    case atStart => exact ⟨0, 1, by omega, rfl, rfl⟩
    case round =>
      obtain ⟨h, x, hh, rfl, rfl⟩ := hrel
      by_cases hlt : h < path.length
      · have hd : decide ((h : Int) < path.length) = true := by simp; omega
        have q1 : IntKind.i64.wrap ((h : Int) + 1) = (h : Int) + 1 := IntWalk.i64_in _ (by omega)
        have Hlt := Lib.hid hlt; clear hlt
        go_wp2_with fail
        refine ⟨⟨h + 1, _, Hlt.out, by simp, rfl⟩, ?_⟩
        have := Hlt.out
        simp [intOf]; omega
      · obtain rfl : h = path.length := by omega
        have hd : decide ((path.length : Int) < path.length) = false := by simp
        clear hw2
        go_wp2_with fail
        exact bodyPost_ret (v := .bool false) (by simp [results, Tryd.results69, go_sem]) rfl ⟨by rw [Hr.out], Hb2.out⟩
end Go.Proofs.YtpodfmnnabepaaaDoor

namespace Go.Proofs.YtpodfmnnabepaaaDoor
open Go.RowKit
open Ot (Dg)
/-- A signed message in memory, its two slices named. -/
def SgU (w : World) (b o : Nat) (s : Sg) (v u : Value) : Prop := DgAt w b o s.b ∧ w.cell? ⟨b, o + 4, none⟩ = some (.int .i64 s.i) ∧ w.cell? ⟨b, o + 4 + 1, none⟩ = some v ∧ w.cell? ⟨b, o + 4 + 2, none⟩ = some u ∧ SigAt w v s.one ∧ PathAt w u s.path
theorem SgU.keep {w w' : World} {b o : Nat} {s : Sg} {v u : Value} (h : SgU w b o s v u) (hb : Below w.heap.size w w') : SgU w' b o s v u := by
  obtain ⟨h1, h2, h3, h4, h5, h6⟩ := h
  exact ⟨h1.below hb h1.lt, cell_keep h2 hb, cell_keep h3 hb, cell_keep h4 hb, h5.below hb, h6.keep hb⟩
theorem SgAt.named {w : World} {b o : Nat} {s : Sg} (h : SgAt w b o s) : ∃ v u, SgU w b o s v u := by
  obtain ⟨h1, h2, v, u, h3, h4, h5, h6⟩ := h
  exact ⟨v, u, h1, h2, h3, h4, h5, h6⟩
set_option maxRecDepth 100000 in
set_option maxHeartbeats 8000000 in
theorem ragrees_any (b m : Dg) (L : List Sg) (lv : Value) (w : World) (hv : SgsAt w lv L) :
    Calls Tryd.prog 59 #[dgv b, dgv m, lv] w fun e w' => e = .returned (.bool (L.any (sgOk b m))) ∧ Below w.heap.size w w' := by
  obtain ⟨B, d, rfl, hlL, hcs⟩ := hv
  generalize hW : (w.alloc (.cells #[.int .u32 b.a.toNat, .int .u32 b.b.toNat, .int .u32 b.c.toNat, .int .u32 b.d.toNat] 24)).alloc (.cells #[.int .u32 m.a.toNat, .int .u32 m.b.toNat, .int .u32 m.c.toNat, .int .u32 m.d.toNat] 24) = W
  have hw0 : Below w.heap.size w W := by subst hW; exact ((Below.refl _ _).alloc (Nat.le_refl _) _).alloc (by simp) _
  have hb0 : Arr W w.heap.size 4 (fnOf b) := by subst hW; exact (Arr.new w 4 (fnOf b) 24 _ rfl).alloc (by simp) _
  have hm0 : Arr W (w.heap.size + 1) 4 (fnOf m) := by subst hW; exact Arr.new' (w.alloc _) (w.heap.size + 1) 4 (fnOf m) 24 _ (by simp) rfl
  have HlL := Lib.hid hlL; have Hcs := Lib.hid hcs; have HbW := Lib.hid hb0; have HmW := Lib.hid hm0; have Hw0 := Lib.hid hw0
  clear hlL hcs hb0 hm0 hw0
  go_enter Tryd.func59, Tryd.ntmps59
  go_wp2_with fail
  go_loopw [7] (fun i wr => ∃ k : Nat, k ≤ L.length ∧ i = .int .i64 k ∧ (L.take k).any (sgOk b m) = false ∧ Below w.heap.size w wr ∧ Arr wr w.heap.size 4 (fnOf b) ∧ Arr wr (w.heap.size + 1) 4 (fnOf m)) (fun i wr => L.length - (intOf i).toNat)
  case atStart => exact ⟨0, by omega, rfl, by simp, Hw0.out, HbW.out, HmW.out⟩
  case round =>
    obtain ⟨k, hk, rfl, hno, hbr, hb0, hm0⟩ := hrel
    clear hW
    by_cases hlt : k < L.length
    · obtain ⟨g, o, rfl, hc⟩ := Hcs.out (by omega)
      obtain ⟨v5, u6, hsg⟩ := ((hc k hlt).keep hbr).named
      have hts := take_succ_s L k hlt
      have hat := any_take L (sgOk b m) k hlt
      generalize L.getD k zeroSg = s at *
      have hk1 : (k : Int) < L.length := by omega
      have hk0 : (0 : Int) ≤ (k : Int) := by omega
      have hd : decide ((k : Int) < L.length) = true := by simp; omega
      have q1 : IntKind.i64.wrap ((k : Int) + 1) = (k : Int) + 1 := IntWalk.i64_in _ (by have := HlL.out; omega)
      have hq := dg_eql s.b b
      have Hts := Lib.hid hts; have Hno := Lib.hid hno; have Hat := Lib.hid hat; have Hlt := Lib.hid hlt; have Hk := Lib.hid hk; have Hu := Lib.hid hsg; have Hbr := Lib.hid hbr
      have Hb0 := Lib.hid hb0; have Hm0 := Lib.hid hm0
      clear hts hno hat hc hlt hk hsg hb0 hm0 hbr
      by_cases he : s.b = b
      · have hde := decide_eq_true he
        rw [hde] at hq
        have Hde := Lib.hid hde; have Hq := Lib.hid hq; clear he hde hq
        go_upto_region 4 with fail
        refine wp_region_invG (fun wx => Arr wx w.heap.size 4 (fnOf b) ∧ Arr wx (w.heap.size + 1) 4 (fnOf m) ∧ SgU wx g (o + k * 7) s v5 u6 ∧ Below w.heap.size w wx) (fun j v w' => match j with | 0 => v = (.slice (some ⟨g, o, none⟩) L.length d) | 1 => v = .int .i64 (k : Int) | 2 => v = .pointer (some ⟨g, o + k * 7, none⟩) | 3 => v = .pointer (some ⟨g, o + k * 7, none⟩) | 4 => v = dgv s.b | 5 => v = dgv b | 6 => v = .bool true | 7 => v = .bool true | 8 => v = dgv b | 9 => v = dgv m | 10 => v = (.slice (some ⟨g, o, none⟩) L.length d) | 11 => v = .int .i64 (k : Int) | 12 => v = .pointer (some ⟨g, o + k * 7, none⟩) | 13 => v = .pointer (some ⟨g, o + k * 7 + 4, none⟩) | 14 => v = sgV s.i v5 u6 | 15 => v = .bool (kchk b m s.i s.one s.path) | _ => True) 16 (by kernel_rfl) (by kernel_rfl) ⟨Hb0.out, Hm0.out, Hu.out, Hbr.out.drew⟩ (fun _ _ h hb => ⟨h.1.keep hb (by decide), h.2.1.keep hb (by decide), h.2.2.1.keep hb, h.2.2.2.trans (hb.mono h.2.2.2.size)⟩) ?_ ?_ ?_
        · rintro (_|_|_|_|_|_|_|_|_|_|_|_|_|_|_|_|j) v w1 w2 hb h
          all_goals exact h
        · refine ⟨fun us wx hx hd => ?_, fun us wx hx hd => ?_, fun us wx hx hd => ?_, fun us wx hx hd => ?_, fun us wx hx hd => ?_, fun us wx hx hd => ?_, fun us wx hx hd => ?_, fun us wx hx hd => ?_, fun us wx hx hd => ?_, fun us wx hx hd => ?_, fun us wx hx hd => ?_, fun us wx hx hd => ?_, fun us wx hx hd => ?_, fun us wx hx hd => ?_, fun us wx hx hd => ?_, fun us wx hx hd => ?_, trivial⟩
          all_goals simp only [putAll, dstOf, List.getElem?_toArray, List.getElem?_cons_succ, List.getElem?_cons_zero, Option.bind_some]
          all_goals go_frame
          · refine .inl ⟨?_, ?_⟩
            · rfl
            have HX := Lib.hid hx; clear hx
            go_simp
            first | exact Below.refl _ _ | exact ⟨rfl, Below.refl _ _⟩ | exact ⟨by and_intros <;> rfl, Below.refl _ _⟩ | exact ⟨by first | rfl | (congr 1; omega) | omega, Below.refl _ _⟩
          · refine .inl ⟨?_, ?_⟩
            · rfl
            have HX := Lib.hid hx; clear hx
            go_simp
            first | exact Below.refl _ _ | exact ⟨rfl, Below.refl _ _⟩ | exact ⟨by and_intros <;> rfl, Below.refl _ _⟩ | exact ⟨by first | rfl | (congr 1; omega) | omega, Below.refl _ _⟩
          · refine .inl ⟨?_, ?_⟩
            · rfl
            rw [show us 0 = (.slice (some ⟨g, o, none⟩) L.length d) from hd 0 rfl, show us 1 = .int .i64 (k : Int) from hd 1 rfl]
            have HX := Lib.hid hx; clear hx
            go_simp
            first | exact Below.refl _ _ | exact ⟨rfl, Below.refl _ _⟩ | exact ⟨by and_intros <;> rfl, Below.refl _ _⟩ | exact ⟨by first | rfl | (congr 1; omega) | omega, Below.refl _ _⟩
          · refine .inl ⟨?_, ?_⟩
            · rfl
            rw [show us 2 = .pointer (some ⟨g, o + k * 7, none⟩) from hd 2 rfl]
            have HX := Lib.hid hx; clear hx
            go_simp
            first | exact Below.refl _ _ | exact ⟨rfl, Below.refl _ _⟩ | exact ⟨by and_intros <;> rfl, Below.refl _ _⟩ | exact ⟨by first | rfl | (congr 1; omega) | omega, Below.refl _ _⟩
          · refine .inl ⟨?_, ?_⟩
            · rfl
            rw [show us 3 = .pointer (some ⟨g, o + k * 7, none⟩) from hd 3 rfl]
            obtain ⟨c0, c1, c2, c3⟩ := hx.2.2.1.1
            have HX := Lib.hid hx; clear hx
            go_simp
            first | exact Below.refl _ _ | exact ⟨rfl, Below.refl _ _⟩ | exact ⟨by and_intros <;> rfl, Below.refl _ _⟩ | exact ⟨by first | rfl | (congr 1; omega) | omega, Below.refl _ _⟩
          · refine .inl ⟨?_, ?_⟩
            · rfl
            obtain ⟨c0, c1, c2, c3⟩ := hx.1.dg
            have HX := Lib.hid hx; clear hx
            go_simp
            first | exact Below.refl _ _ | exact ⟨rfl, Below.refl _ _⟩ | exact ⟨by and_intros <;> rfl, Below.refl _ _⟩ | exact ⟨by first | rfl | (congr 1; omega) | omega, Below.refl _ _⟩
          · refine .inl ⟨?_, ?_⟩
            · rfl
            rw [show us 4 = dgv s.b from hd 4 rfl, show us 5 = dgv b from hd 5 rfl]
            have hq := Hq.out
            have HX := Lib.hid hx; clear hx
            go_simp
            first | exact Below.refl _ _ | exact ⟨rfl, Below.refl _ _⟩ | exact ⟨by and_intros <;> rfl, Below.refl _ _⟩ | exact ⟨by first | rfl | (congr 1; omega) | omega, Below.refl _ _⟩
          · refine .inl ⟨?_, ?_⟩
            · rfl
            rw [show us 6 = .bool true from hd 6 rfl]
            have HX := Lib.hid hx; clear hx
            go_simp
            first | exact Below.refl _ _ | exact ⟨rfl, Below.refl _ _⟩ | exact ⟨by and_intros <;> rfl, Below.refl _ _⟩ | exact ⟨by first | rfl | (congr 1; omega) | omega, Below.refl _ _⟩
          · refine .inl ⟨?_, ?_⟩
            · rw [show us 7 = .bool true from hd 7 rfl]; rfl
            obtain ⟨c0, c1, c2, c3⟩ := hx.1.dg
            have HX := Lib.hid hx; clear hx
            go_simp
            first | exact Below.refl _ _ | exact ⟨rfl, Below.refl _ _⟩ | exact ⟨by and_intros <;> rfl, Below.refl _ _⟩ | exact ⟨by first | rfl | (congr 1; omega) | omega, Below.refl _ _⟩
          · refine .inl ⟨?_, ?_⟩
            · rw [show us 7 = .bool true from hd 7 rfl]; rfl
            obtain ⟨c0, c1, c2, c3⟩ := hx.2.1.dg
            have HX := Lib.hid hx; clear hx
            go_simp
            first | exact Below.refl _ _ | exact ⟨rfl, Below.refl _ _⟩ | exact ⟨by and_intros <;> rfl, Below.refl _ _⟩ | exact ⟨by first | rfl | (congr 1; omega) | omega, Below.refl _ _⟩
          · refine .inl ⟨?_, ?_⟩
            · rw [show us 7 = .bool true from hd 7 rfl]; rfl
            have HX := Lib.hid hx; clear hx
            go_simp
            first | exact Below.refl _ _ | exact ⟨rfl, Below.refl _ _⟩ | exact ⟨by and_intros <;> rfl, Below.refl _ _⟩ | exact ⟨by first | rfl | (congr 1; omega) | omega, Below.refl _ _⟩
          · refine .inl ⟨?_, ?_⟩
            · rw [show us 7 = .bool true from hd 7 rfl]; rfl
            have HX := Lib.hid hx; clear hx
            go_simp
            first | exact Below.refl _ _ | exact ⟨rfl, Below.refl _ _⟩ | exact ⟨by and_intros <;> rfl, Below.refl _ _⟩ | exact ⟨by first | rfl | (congr 1; omega) | omega, Below.refl _ _⟩
          · refine .inl ⟨?_, ?_⟩
            · rw [show us 7 = .bool true from hd 7 rfl]; rfl
            rw [show us 10 = (.slice (some ⟨g, o, none⟩) L.length d) from hd 10 rfl, show us 11 = .int .i64 (k : Int) from hd 11 rfl]
            have HX := Lib.hid hx; clear hx
            go_simp
            first | exact Below.refl _ _ | exact ⟨rfl, Below.refl _ _⟩ | exact ⟨by and_intros <;> rfl, Below.refl _ _⟩ | exact ⟨by first | rfl | (congr 1; omega) | omega, Below.refl _ _⟩
          · refine .inl ⟨?_, ?_⟩
            · rw [show us 7 = .bool true from hd 7 rfl]; rfl
            rw [show us 12 = .pointer (some ⟨g, o + k * 7, none⟩) from hd 12 rfl]
            have HX := Lib.hid hx; clear hx
            go_simp
            first | exact Below.refl _ _ | exact ⟨rfl, Below.refl _ _⟩ | exact ⟨by and_intros <;> rfl, Below.refl _ _⟩ | exact ⟨by first | rfl | (congr 1; omega) | omega, Below.refl _ _⟩
          · refine .inl ⟨?_, ?_⟩
            · rw [show us 7 = .bool true from hd 7 rfl]; rfl
            rw [show us 13 = .pointer (some ⟨g, o + k * 7 + 4, none⟩) from hd 13 rfl]
            obtain ⟨c4, c5, c6, _, _⟩ := hx.2.2.1.2
            unfold sgV
            have HX := Lib.hid hx; clear hx
            go_simp
            first | exact Below.refl _ _ | exact ⟨rfl, Below.refl _ _⟩ | exact ⟨by and_intros <;> rfl, Below.refl _ _⟩ | exact ⟨by first | rfl | (congr 1; omega) | omega, Below.refl _ _⟩
          · refine .inl ⟨?_, ?_⟩
            · rw [show us 7 = .bool true from hd 7 rfl]; rfl
            rw [show us 8 = dgv b from hd 8 rfl, show us 9 = dgv m from hd 9 rfl, show us 14 = sgV s.i v5 u6 from hd 14 rfl]
            go_simp
            refine (rkcheck_any b m s.i v5 u6 s.one s.path _ hx.2.2.1.2.2.2.2.1 hx.2.2.1.2.2.2.2.2).mono ?_
            rintro e w1 ⟨rfl, hb1⟩
            exact ⟨_, rfl, by first | rfl | rw [Hr.out], hb1⟩
        rintro us W1 ⟨hbA, hmA, _, hb5⟩ hF
        have e7 : us 7 = .bool true := hF 7 (by decide)
        have e15 : us 15 = .bool (kchk b m s.i s.one s.path) := hF 15 (by decide)
        simp only [putAll, dstOf, List.getElem?_toArray, List.getElem?_cons_succ, List.getElem?_cons_zero, Option.bind_some, List.drop_succ_cons, List.drop_zero]
        rw [e7, e15]
        clear hF e7 e15
        have hsg : sgOk b m s = kchk b m s.i s.one s.path := by simp [sgOk, Hde.out]
        have Hsg := Lib.hid hsg; clear hsg
        generalize hkc : kchk b m s.i s.one s.path = kc
        have Hkc := Lib.hid hkc; clear hkc
        cases kc with
        | true =>
          go_frame
          go_wp2_with fail
          exact bodyPost_ret (v := .bool true) (by simp [results, Tryd.results59, go_sem]) rfl ⟨by rw [Hat.out (by rw [Hsg.out, Hkc.out])], hb5⟩
        | false =>
        have hp : sgOk b m s = false := by rw [Hsg.out, Hkc.out]
        have Hp := Lib.hid hp; clear hp
        go_frame
        go_wp2_with fail
        refine ⟨⟨k + 1, Hlt.out, by simp, ?_, hb5, hbA, hmA⟩, ?_⟩
        · rw [Hts.out, List.any_append, Hno.out]
          simp [Hp.out]
        · have := Hlt.out
          simp [intOf]; omega
      · have hde := decide_eq_false he
        rw [hde] at hq
        have Hde := Lib.hid hde; have Hq := Lib.hid hq; clear he hde hq
        go_upto_region 4 with fail
        refine wp_region_invG (fun wx => Arr wx w.heap.size 4 (fnOf b) ∧ Arr wx (w.heap.size + 1) 4 (fnOf m) ∧ SgU wx g (o + k * 7) s v5 u6 ∧ Below w.heap.size w wx) (fun j v w' => match j with | 0 => v = (.slice (some ⟨g, o, none⟩) L.length d) | 1 => v = .int .i64 (k : Int) | 2 => v = .pointer (some ⟨g, o + k * 7, none⟩) | 3 => v = .pointer (some ⟨g, o + k * 7, none⟩) | 4 => v = dgv s.b | 5 => v = dgv b | 6 => v = .bool false | 7 => v = .bool false | 8 => v = undef | 9 => v = undef | 10 => v = undef | 11 => v = undef | 12 => v = undef | 13 => v = undef | 14 => v = undef | 15 => v = undef | _ => True) 16 (by kernel_rfl) (by kernel_rfl) ⟨Hb0.out, Hm0.out, Hu.out, Hbr.out.drew⟩ (fun _ _ h hb => ⟨h.1.keep hb (by decide), h.2.1.keep hb (by decide), h.2.2.1.keep hb, h.2.2.2.trans (hb.mono h.2.2.2.size)⟩) ?_ ?_ ?_
        · rintro (_|_|_|_|_|_|_|_|_|_|_|_|_|_|_|_|j) v w1 w2 hb h
          all_goals exact h
        · refine ⟨fun us wx hx hd => ?_, fun us wx hx hd => ?_, fun us wx hx hd => ?_, fun us wx hx hd => ?_, fun us wx hx hd => ?_, fun us wx hx hd => ?_, fun us wx hx hd => ?_, fun us wx hx hd => ?_, fun us wx hx hd => ?_, fun us wx hx hd => ?_, fun us wx hx hd => ?_, fun us wx hx hd => ?_, fun us wx hx hd => ?_, fun us wx hx hd => ?_, fun us wx hx hd => ?_, fun us wx hx hd => ?_, trivial⟩
          all_goals simp only [putAll, dstOf, List.getElem?_toArray, List.getElem?_cons_succ, List.getElem?_cons_zero, Option.bind_some]
          all_goals go_frame
          · refine .inl ⟨?_, ?_⟩
            · rfl
            have HX := Lib.hid hx; clear hx
            go_simp
            first | exact Below.refl _ _ | exact ⟨rfl, Below.refl _ _⟩ | exact ⟨by and_intros <;> rfl, Below.refl _ _⟩ | exact ⟨by first | rfl | (congr 1; omega) | omega, Below.refl _ _⟩
          · refine .inl ⟨?_, ?_⟩
            · rfl
            have HX := Lib.hid hx; clear hx
            go_simp
            first | exact Below.refl _ _ | exact ⟨rfl, Below.refl _ _⟩ | exact ⟨by and_intros <;> rfl, Below.refl _ _⟩ | exact ⟨by first | rfl | (congr 1; omega) | omega, Below.refl _ _⟩
          · refine .inl ⟨?_, ?_⟩
            · rfl
            rw [show us 0 = (.slice (some ⟨g, o, none⟩) L.length d) from hd 0 rfl, show us 1 = .int .i64 (k : Int) from hd 1 rfl]
            have HX := Lib.hid hx; clear hx
            go_simp
            first | exact Below.refl _ _ | exact ⟨rfl, Below.refl _ _⟩ | exact ⟨by and_intros <;> rfl, Below.refl _ _⟩ | exact ⟨by first | rfl | (congr 1; omega) | omega, Below.refl _ _⟩
          · refine .inl ⟨?_, ?_⟩
            · rfl
            rw [show us 2 = .pointer (some ⟨g, o + k * 7, none⟩) from hd 2 rfl]
            have HX := Lib.hid hx; clear hx
            go_simp
            first | exact Below.refl _ _ | exact ⟨rfl, Below.refl _ _⟩ | exact ⟨by and_intros <;> rfl, Below.refl _ _⟩ | exact ⟨by first | rfl | (congr 1; omega) | omega, Below.refl _ _⟩
          · refine .inl ⟨?_, ?_⟩
            · rfl
            rw [show us 3 = .pointer (some ⟨g, o + k * 7, none⟩) from hd 3 rfl]
            obtain ⟨c0, c1, c2, c3⟩ := hx.2.2.1.1
            have HX := Lib.hid hx; clear hx
            go_simp
            first | exact Below.refl _ _ | exact ⟨rfl, Below.refl _ _⟩ | exact ⟨by and_intros <;> rfl, Below.refl _ _⟩ | exact ⟨by first | rfl | (congr 1; omega) | omega, Below.refl _ _⟩
          · refine .inl ⟨?_, ?_⟩
            · rfl
            obtain ⟨c0, c1, c2, c3⟩ := hx.1.dg
            have HX := Lib.hid hx; clear hx
            go_simp
            first | exact Below.refl _ _ | exact ⟨rfl, Below.refl _ _⟩ | exact ⟨by and_intros <;> rfl, Below.refl _ _⟩ | exact ⟨by first | rfl | (congr 1; omega) | omega, Below.refl _ _⟩
          · refine .inl ⟨?_, ?_⟩
            · rfl
            rw [show us 4 = dgv s.b from hd 4 rfl, show us 5 = dgv b from hd 5 rfl]
            have hq := Hq.out
            have HX := Lib.hid hx; clear hx
            go_simp
            first | exact Below.refl _ _ | exact ⟨rfl, Below.refl _ _⟩ | exact ⟨by and_intros <;> rfl, Below.refl _ _⟩ | exact ⟨by first | rfl | (congr 1; omega) | omega, Below.refl _ _⟩
          · refine .inl ⟨?_, ?_⟩
            · rfl
            rw [show us 6 = .bool false from hd 6 rfl]
            have HX := Lib.hid hx; clear hx
            go_simp
            first | exact Below.refl _ _ | exact ⟨rfl, Below.refl _ _⟩ | exact ⟨by and_intros <;> rfl, Below.refl _ _⟩ | exact ⟨by first | rfl | (congr 1; omega) | omega, Below.refl _ _⟩
          · refine .inr ⟨?_, by first | rfl | trivial⟩
            rw [show us 7 = .bool false from hd 7 rfl]; rfl
          · refine .inr ⟨?_, by first | rfl | trivial⟩
            rw [show us 7 = .bool false from hd 7 rfl]; rfl
          · refine .inr ⟨?_, by first | rfl | trivial⟩
            rw [show us 7 = .bool false from hd 7 rfl]; rfl
          · refine .inr ⟨?_, by first | rfl | trivial⟩
            rw [show us 7 = .bool false from hd 7 rfl]; rfl
          · refine .inr ⟨?_, by first | rfl | trivial⟩
            rw [show us 7 = .bool false from hd 7 rfl]; rfl
          · refine .inr ⟨?_, by first | rfl | trivial⟩
            rw [show us 7 = .bool false from hd 7 rfl]; rfl
          · refine .inr ⟨?_, by first | rfl | trivial⟩
            rw [show us 7 = .bool false from hd 7 rfl]; rfl
          · refine .inr ⟨?_, by first | rfl | trivial⟩
            rw [show us 7 = .bool false from hd 7 rfl]; rfl
        rintro us W1 ⟨hbA, hmA, _, hb5⟩ hF
        have e7 : us 7 = .bool false := hF 7 (by decide)
        have e15 : us 15 = undef := hF 15 (by decide)
        simp only [putAll, dstOf, List.getElem?_toArray, List.getElem?_cons_succ, List.getElem?_cons_zero, Option.bind_some, List.drop_succ_cons, List.drop_zero]
        rw [e7, e15]
        clear hF e7 e15
        have hp : sgOk b m s = false := by simp [sgOk, Hde.out]
        have Hp := Lib.hid hp; clear hp
        go_frame
        go_wp2_with fail
        refine ⟨⟨k + 1, Hlt.out, by simp, ?_, hb5, hbA, hmA⟩, ?_⟩
        · rw [Hts.out, List.any_append, Hno.out]
          simp [Hp.out]
        · have := Hlt.out
          simp [intOf]; omega
    · obtain rfl : k = L.length := by omega
      rw [List.take_length] at hno
      have hd : decide ((L.length : Int) < L.length) = false := by simp
      have Hno := Lib.hid hno; clear hno hb0 hm0
      go_wp2_with fail
      exact bodyPost_ret (v := .bool false) (by simp [results, Tryd.results59, go_sem]) rfl ⟨by rw [Hno.out], hbr⟩
end Go.Proofs.YtpodfmnnabepaaaDoor

namespace Go.Proofs.YtpodfmnnabepaaaDoor
open Go.RowKit
open Ot (Dg)
set_option maxRecDepth 100000 in
set_option maxHeartbeats 8000000 in
theorem rwho_any (bs : List Dg) (need : Int) (m : Dg) (L : List Sg) (bv lv : Value) (w : World) (hbs : SigAt w bv bs) (hv : SgsAt w lv L) (hn : bs.length ≤ 100000) :
    Calls Tryd.prog 41 #[polV bv need, dgv m, lv] w fun e w' => ∃ v, e = .returned v ∧ Below w.heap.size w w' ∧ w'.ownsRow w.heap.size 3 1 v (whoN bs m L).length (ivs (whoN bs m L)) := by
  obtain ⟨i0, hi, hz0, hz1, hz2⟩ := info_parts Tryd.info3
  obtain ⟨A, c, rfl, hlen, hcs⟩ := id hbs
  obtain ⟨B, d, rfl, hlL, _⟩ := id hv
  generalize hW : (w.alloc (.cells #[.slice A bs.length c, .int .i64 need] 47)).alloc (.cells #[.int .u32 m.a.toNat, .int .u32 m.b.toNat, .int .u32 m.c.toNat, .int .u32 m.d.toNat] 24) = W
  have hb0 : Below w.heap.size w W := by subst hW; exact ((Below.refl _ _).alloc (Nat.le_refl _) _).alloc (by simp) _
  have hm0 : Arr W (w.heap.size + 1) 4 (fnOf m) := by subst hW; exact Arr.new' (w.alloc _) (w.heap.size + 1) 4 (fnOf m) 24 _ (by simp) rfl
  have hp0 : W.cell? ⟨w.heap.size, 0, none⟩ = some (.slice A bs.length c) := by
    subst hW
    exact cell_keep (World.cell?_alloc_new _ _ _ 0) ((Below.refl _ _).alloc (Nat.le_refl _) _)
  have hvW := hv.keep hb0
  unfold polV
  have Hcs := Lib.hid hcs; have HvW := Lib.hid hvW; have Hm0 := Lib.hid hm0; have Hp0 := Lib.hid hp0; have Hb0 := Lib.hid hb0
  clear hcs hvW hm0 hp0 hbs hv hb0
  go_enter Tryd.func41, Tryd.ntmps41
  go_wp2_with fail
  go_loopw [7, 8] (fun v i wr => ∃ k : Nat, k ≤ bs.length ∧ i = .int .i64 k ∧ wr.ownsRow W.heap.size 3 1 v (Qu.places (agN bs m L) k).length (ivs (Qu.places (agN bs m L) k)) ∧ Below W.heap.size W wr) (fun _ i _ => bs.length - (intOf i).toNat)
  case atStart => exact ⟨0, by omega, rfl, World.ownsRow_nil _ _ _ _, Below.refl _ _⟩
  case round =>
    obtain ⟨k, hk, rfl, hown, hb⟩ := hrel
    have hp1 := cell_keep Hp0.out hb
    by_cases hlt : k < bs.length
    · obtain ⟨b, off, rfl, hbl, hc⟩ := Hcs.out (by omega)
      have hx1 := ((hc k hlt).below Hb0.out hbl).below hb (Nat.lt_of_lt_of_le hbl Hb0.out.size)
      have hps := Qu.places_succ (agN bs m L) k
      have hpl := Qu.places_le (agN bs m L) k
      have hag : agN bs m L k = L.any (sgOk (bs.getD k Ot.zeroD) m) := rfl
      generalize bs.getD k Ot.zeroD = x at *
      have hk1 : (k : Int) < bs.length := by omega
      have hk0 : (0 : Int) ≤ (k : Int) := by omega
      have hd : decide ((k : Int) < bs.length) = true := by simp; omega
      have q1 : IntKind.i64.wrap ((k : Int) + 1) = (k : Int) + 1 := IntWalk.i64_in _ (by omega)
      have Hm1 := Lib.hid (Hm0.out.keep hb (by decide)); have Hv1 := Lib.hid (HvW.out.keep hb); have Hx1 := Lib.hid hx1; have Hp1 := Lib.hid hp1; have Hown := Lib.hid hown; have Hbr := Lib.hid hb
      have Hps := Lib.hid hps; have Hag := Lib.hid hag; have Hpl := Lib.hid hpl; have Hlt := Lib.hid hlt
      clear hx1 hown hps hpl hag hlt hk hc hb
      go_upto_region 5 with fail
      clear hp1 hW
      refine wp_region_inv (fun wx => wx.cell? ⟨w.heap.size, 0, none⟩ = some (.slice (some ⟨b, off, none⟩) bs.length c) ∧ Arr wx (w.heap.size + 1) 4 (fnOf m) ∧ DgAt wx b (off + k * 4) x ∧ SgsAt wx (.slice B L.length d) L ∧ wx.ownsRow W.heap.size 3 1 u7 (Qu.places (agN bs m L) k).length (ivs (Qu.places (agN bs m L) k)) ∧ Below W.heap.size W wx) (fun j v w' => match j with | 0 => v = .pointer (some ⟨w.heap.size, 0, none⟩) | 1 => v = .slice (some ⟨b, off, none⟩) bs.length c | 2 => v = .int .i64 (k : Int) | 3 => v = .pointer (some ⟨b, off + k * 4, none⟩) | 4 => v = dgv x | 5 => v = dgv m | 6 => v = (.slice B L.length d) | 7 => v = .bool (agN bs m L k) | _ => True) 8 (by kernel_rfl) (by kernel_rfl) ⟨Hp1.out, Hm1.out, Hx1.out, Hv1.out, Hown.out, Hbr.out.drew⟩ (fun _ _ h hb => ⟨cell_keep h.1 hb, h.2.1.keep hb (by decide), h.2.2.1.below hb h.2.2.1.lt, h.2.2.2.1.keep hb, own_keep h.2.2.2.2.1 hb, h.2.2.2.2.2.trans (hb.mono h.2.2.2.2.2.size)⟩) ?_ ?_ ?_
      · rintro (_|_|_|_|_|_|_|_|j) v w1 w2 hb h
        all_goals exact h
      · refine ⟨fun us wx hx hd => ?_, fun us wx hx hd => ?_, fun us wx hx hd => ?_, fun us wx hx hd => ?_, fun us wx hx hd => ?_, fun us wx hx hd => ?_, fun us wx hx hd => ?_, fun us wx hx hd => ?_, trivial⟩
        all_goals simp only [putAll, dstOf, List.getElem?_toArray, List.getElem?_cons_succ, List.getElem?_cons_zero, Option.bind_some]
        all_goals go_frame
        · have HX := Lib.hid hx; clear hx
          go_simp
          first | exact Below.refl _ _ | exact ⟨rfl, Below.refl _ _⟩ | exact ⟨by and_intros <;> rfl, Below.refl _ _⟩ | exact ⟨by first | rfl | (congr 1; omega) | omega, Below.refl _ _⟩
        · rw [show us 0 = .pointer (some ⟨w.heap.size, 0, none⟩) from hd 0 rfl]
          have c0 := hx.1
          have HX := Lib.hid hx; clear hx
          go_simp
          first | exact Below.refl _ _ | exact ⟨rfl, Below.refl _ _⟩ | exact ⟨by and_intros <;> rfl, Below.refl _ _⟩ | exact ⟨by first | rfl | (congr 1; omega) | omega, Below.refl _ _⟩
        · have HX := Lib.hid hx; clear hx
          go_simp
          first | exact Below.refl _ _ | exact ⟨rfl, Below.refl _ _⟩ | exact ⟨by and_intros <;> rfl, Below.refl _ _⟩ | exact ⟨by first | rfl | (congr 1; omega) | omega, Below.refl _ _⟩
        · rw [show us 1 = .slice (some ⟨b, off, none⟩) bs.length c from hd 1 rfl, show us 2 = .int .i64 (k : Int) from hd 2 rfl]
          have HX := Lib.hid hx; clear hx
          go_simp
          first | exact Below.refl _ _ | exact ⟨rfl, Below.refl _ _⟩ | exact ⟨by and_intros <;> rfl, Below.refl _ _⟩ | exact ⟨by first | rfl | (congr 1; omega) | omega, Below.refl _ _⟩
        · rw [show us 3 = .pointer (some ⟨b, off + k * 4, none⟩) from hd 3 rfl]
          obtain ⟨c0, c1, c2, c3⟩ := hx.2.2.1
          have HX := Lib.hid hx; clear hx
          go_simp
          first | exact Below.refl _ _ | exact ⟨rfl, Below.refl _ _⟩ | exact ⟨by and_intros <;> rfl, Below.refl _ _⟩ | exact ⟨by first | rfl | (congr 1; omega) | omega, Below.refl _ _⟩
        · obtain ⟨c0, c1, c2, c3⟩ := hx.2.1.dg
          have HX := Lib.hid hx; clear hx
          go_simp
          first | exact Below.refl _ _ | exact ⟨rfl, Below.refl _ _⟩ | exact ⟨by and_intros <;> rfl, Below.refl _ _⟩ | exact ⟨by first | rfl | (congr 1; omega) | omega, Below.refl _ _⟩
        · have HX := Lib.hid hx; clear hx
          go_simp
          first | exact Below.refl _ _ | exact ⟨rfl, Below.refl _ _⟩ | exact ⟨by and_intros <;> rfl, Below.refl _ _⟩ | exact ⟨by first | rfl | (congr 1; omega) | omega, Below.refl _ _⟩
        · rw [show us 4 = dgv x from hd 4 rfl, show us 5 = dgv m from hd 5 rfl, show us 6 = (.slice B L.length d) from hd 6 rfl]
          go_simp
          refine (ragrees_any x m L _ _ hx.2.2.2.1).mono ?_
          rintro e w1 ⟨rfl, hb1⟩
          exact ⟨_, rfl, by rw [Hag.out], hb1⟩
      rintro us W1 ⟨_, _, _, _, hown2, hb5⟩ hF
      have e7 : us 7 = .bool (agN bs m L k) := hF 7 (by decide)
      simp only [putAll, dstOf, List.getElem?_toArray, List.getElem?_cons_succ, List.getElem?_cons_zero, Option.bind_some, List.drop_succ_cons, List.drop_zero]
      rw [e7]
      clear hF e7
      by_cases hp : agN bs m L k = true
      · have hps2 := Hps.out
        rw [if_pos hp] at hps2
        rw [hp]
        have Hps2 := Lib.hid hps2; have Hb3 := Lib.hid hb5
        have hpl := Hpl.out
        have hbs3 := hb5.size
        generalize hl : Qu.places (agN bs m L) k = l at *
        clear hps2 hp hb5
        go_frame
        go_wp2_with (at_builtin; refine wpList_append_own _ rfl _ _ 27 rfl W.heap.size 3 i0 (.int .i64 0) 1 8 Tryd.underlying27 hi hz0 hz1 hz2 rfl (by decide) _ _ _ rfl (hown2.alloc _) ⟨W1.heap.size, 0, none⟩ 1 1 [.int .i64 k] rfl rfl ?c1 ?c2 ?c3 ?c4 ?c5 ?_)
        case c1 => exact cell_one_new _ _ _
        case c2 => intro u hu; simp at hu; subst hu; rfl
        case c3 => have := Hlt.out; unfold maxLen; omega
        case c4 => omega
        case c5 => simp; omega
        intro v' w2 hown3 hg1 _
        have hb4 : Below W.heap.size W w2 := (Hb3.out.alloc (by omega) _).grown hg1 (by simp; omega) (fun q hq => by have := (hown2.alloc (.cells #[.int .i64 k] 3)).lt q hq; omega)
        clear hg1 hown2
        go_wp2_with fail
        refine ⟨⟨k + 1, Hlt.out, by simp, ?_, hb4⟩, ?_⟩
        · rw [Hps2.out, ivs_append, List.length_append]
          exact hown3
        · have := Hlt.out
          simp [intOf]; omega
      · have hp' : agN bs m L k = false := by simpa using hp
        have hps2 := Hps.out
        rw [if_neg hp] at hps2
        rw [hp']
        have Hps2 := Lib.hid hps2
        clear hps2 hp hp'
        go_frame
        go_wp2_with fail
        refine ⟨⟨k + 1, Hlt.out, by simp, ?_, hb5⟩, ?_⟩
        · rw [Hps2.out]; exact hown2
        · have := Hlt.out
          simp [intOf]; omega
    · obtain rfl : k = bs.length := by omega
      have hb1 := Hb0.out.trans (hb.mono Hb0.out.size)
      have hown1 := own_base_le hown (show w.heap.size ≤ W.heap.size from Hb0.out.size)
      have hd : decide ((bs.length : Int) < bs.length) = false := by simp
      have Hown1 := Lib.hid hown1; clear hown hown1 hW
      go_wp2_with fail
      exact bodyPost_ret (v := u7) (by simp [results, Tryd.results41, go_sem]) rfl ⟨_, rfl, hb1, Hown1.out⟩
end Go.Proofs.YtpodfmnnabepaaaDoor

namespace Go.Proofs.YtpodfmnnabepaaaDoor
open Go.RowKit
open Ot (Dg)
set_option maxRecDepth 100000 in
set_option maxHeartbeats 4000000 in
theorem rholds_any (bs : List Dg) (need : Int) (m : Dg) (L : List Sg) (bv lv : Value) (w : World) (ht : Tn w) (hbs : SigAt w bv bs) (hv : SgsAt w lv L) (hn : bs.length ≤ 100000) :
    Calls Tryd.prog 43 #[polV bv need, dgv m, lv] w fun e w' => e = .returned (.bool (holdsN bs need m L)) ∧ Below w.heap.size w w' := by
  obtain ⟨A, c, rfl, hlen, _⟩ := id hbs
  obtain ⟨B, d, rfl, hlL, _⟩ := id hv
  generalize hres : holdsN bs need m L = res
  have hres2 : res = (rightP bs need && decide (need ≤ ((whoN bs m L).length : Nat))) := hres.symm.trans rfl
  have Hres := Lib.hid hres2
  clear hres hres2
  generalize hW : (w.alloc (.cells #[.slice A bs.length c, .int .i64 need] 47)).alloc (.cells #[.int .u32 m.a.toNat, .int .u32 m.b.toNat, .int .u32 m.c.toNat, .int .u32 m.d.toNat] 24) = W
  have hb0 : Below w.heap.size w W := by subst hW; exact ((Below.refl _ _).alloc (Nat.le_refl _) _).alloc (by simp) _
  have hm0 : Arr W (w.heap.size + 1) 4 (fnOf m) := by subst hW; exact Arr.new' (w.alloc _) (w.heap.size + 1) 4 (fnOf m) 24 _ (by simp) rfl
  have hp0 : W.cell? ⟨w.heap.size, 0, none⟩ = some (.slice A bs.length c) := by
    subst hW; exact cell_keep (World.cell?_alloc_new _ _ _ 0) ((Below.refl _ _).alloc (Nat.le_refl _) _)
  have hp1 : W.cell? ⟨w.heap.size, 1, none⟩ = some (.int .i64 need) := by
    subst hW; exact cell_keep (World.cell?_alloc_new _ _ _ 1) ((Below.refl _ _).alloc (Nat.le_refl _) _)
  have hS1 : W.drew.cell? ⟨w.heap.size, 0, none⟩ = some (.slice A bs.length c) ∧ W.drew.cell? ⟨w.heap.size, 1, none⟩ = some (.int .i64 need) ∧ Arr W.drew (w.heap.size + 1) 4 (fnOf m) ∧ SigAt W.drew (.slice A bs.length c) bs ∧ SgsAt W.drew (.slice B L.length d) L ∧ Tn W.drew ∧ Below w.heap.size w W.drew :=
    ⟨hp0, hp1, hm0, hbs.below hb0.drew, hv.keep hb0.drew, ht.below hb0.drew, hb0.drew⟩
  by_cases hrr : rightP bs need = true
  · have Hr := Lib.hid hrr
    unfold polV
    clear hb0 hm0 hp0 hp1 hbs hv ht hrr
    have HhW := Lib.hid hW
    go_enter Tryd.func43, Tryd.ntmps43
    go_upto_region 1 with fail
    clear hW
    refine wp_region_invG (fun wx => wx.cell? ⟨w.heap.size, 0, none⟩ = some (.slice A bs.length c) ∧ wx.cell? ⟨w.heap.size, 1, none⟩ = some (.int .i64 need) ∧ Arr wx (w.heap.size + 1) 4 (fnOf m) ∧ SigAt wx (.slice A bs.length c) bs ∧ SgsAt wx (.slice B L.length d) L ∧ Tn wx ∧ Below w.heap.size w wx) (fun j v w' => match j with | 0 => v = polV (.slice A bs.length c) need | 1 => v = .bool true | 2 => v = .bool true | 3 => v = polV (.slice A bs.length c) need | 4 => v = dgv m | 5 => v = (.slice B L.length d) | 6 => ∃ A' c', v = .slice A' (whoN bs m L).length c' | 7 => v = .int .i64 ((whoN bs m L).length : Nat) | 8 => v = .pointer (some ⟨w.heap.size, 1, none⟩) | 9 => v = .int .i64 need | 10 => v = .bool (decide (need ≤ ((whoN bs m L).length : Nat))) | _ => True) 11 (by kernel_rfl) (by kernel_rfl) hS1 (fun _ _ h hb => ⟨cell_keep h.1 hb, cell_keep h.2.1 hb, h.2.2.1.keep hb (by decide), h.2.2.2.1.below hb, h.2.2.2.2.1.keep hb, h.2.2.2.2.2.1.below hb, h.2.2.2.2.2.2.trans (hb.mono h.2.2.2.2.2.2.size)⟩) ?_ ?_ ?_
    · rintro (_|_|_|_|_|_|_|_|_|_|_|j) v w1 w2 hb h
      all_goals exact h
    · refine ⟨fun us wx hx hd => ?_, fun us wx hx hd => ?_, fun us wx hx hd => ?_, fun us wx hx hd => ?_, fun us wx hx hd => ?_, fun us wx hx hd => ?_, fun us wx hx hd => ?_, fun us wx hx hd => ?_, fun us wx hx hd => ?_, fun us wx hx hd => ?_, fun us wx hx hd => ?_, trivial⟩
      all_goals simp only [putAll, dstOf, List.getElem?_toArray, List.getElem?_cons_succ, List.getElem?_cons_zero, Option.bind_some]
      all_goals go_frame
      · refine .inl ⟨?_, ?_⟩
        · rfl
        obtain ⟨c0, c1⟩ := And.intro hx.1 hx.2.1
        unfold polV
        have HX := Lib.hid hx; clear hx
        go_simp
        first | exact Below.refl _ _ | exact ⟨rfl, Below.refl _ _⟩ | exact ⟨by and_intros <;> rfl, Below.refl _ _⟩ | exact ⟨by first | rfl | (congr 1; omega) | omega, Below.refl _ _⟩
      · refine .inl ⟨?_, ?_⟩
        · rfl
        rw [show us 0 = polV (.slice A bs.length c) need from hd 0 rfl]
        go_simp
        refine (rright_any _ bs need _ hx.2.2.2.1).mono ?_
        rintro e w1 ⟨rfl, hb1⟩
        exact ⟨_, rfl, by rw [Hr.out], hb1⟩
      · refine .inl ⟨?_, ?_⟩
        · rfl
        rw [show us 1 = .bool true from hd 1 rfl]
        have HX := Lib.hid hx; clear hx
        go_simp
        first | exact Below.refl _ _ | exact ⟨rfl, Below.refl _ _⟩ | exact ⟨by and_intros <;> rfl, Below.refl _ _⟩ | exact ⟨by first | rfl | (congr 1; omega) | omega, Below.refl _ _⟩
      · refine .inl ⟨?_, ?_⟩
        · rw [show us 2 = .bool true from hd 2 rfl]; rfl
        obtain ⟨c0, c1⟩ := And.intro hx.1 hx.2.1
        unfold polV
        have HX := Lib.hid hx; clear hx
        go_simp
        first | exact Below.refl _ _ | exact ⟨rfl, Below.refl _ _⟩ | exact ⟨by and_intros <;> rfl, Below.refl _ _⟩ | exact ⟨by first | rfl | (congr 1; omega) | omega, Below.refl _ _⟩
      · refine .inl ⟨?_, ?_⟩
        · rw [show us 2 = .bool true from hd 2 rfl]; rfl
        obtain ⟨c0, c1, c2, c3⟩ := hx.2.2.1.dg
        have HX := Lib.hid hx; clear hx
        go_simp
        first | exact Below.refl _ _ | exact ⟨rfl, Below.refl _ _⟩ | exact ⟨by and_intros <;> rfl, Below.refl _ _⟩ | exact ⟨by first | rfl | (congr 1; omega) | omega, Below.refl _ _⟩
      · refine .inl ⟨?_, ?_⟩
        · rw [show us 2 = .bool true from hd 2 rfl]; rfl
        have HX := Lib.hid hx; clear hx
        go_simp
        first | exact Below.refl _ _ | exact ⟨rfl, Below.refl _ _⟩ | exact ⟨by and_intros <;> rfl, Below.refl _ _⟩ | exact ⟨by first | rfl | (congr 1; omega) | omega, Below.refl _ _⟩
      · refine .inl ⟨?_, ?_⟩
        · rw [show us 2 = .bool true from hd 2 rfl]; rfl
        rw [show us 3 = polV (.slice A bs.length c) need from hd 3 rfl, show us 4 = dgv m from hd 4 rfl, show us 5 = (.slice B L.length d) from hd 5 rfl]
        go_simp
        refine (rwho_any bs need m L _ _ _ hx.2.2.2.1 hx.2.2.2.2.1 hn).mono ?_
        rintro e w1 ⟨v1, rfl, hb1, hown⟩
        obtain ⟨A', c', rfl⟩ := own_slice hown
        exact ⟨_, rfl, ⟨A', c', rfl⟩, hb1⟩
      · refine .inl ⟨?_, ?_⟩
        · rw [show us 2 = .bool true from hd 2 rfl]; rfl
        obtain ⟨A', c', e6⟩ : ∃ A' c', us 6 = .slice A' (whoN bs m L).length c' := hd 6 rfl
        rw [e6]
        have HX := Lib.hid hx; clear hx
        go_simp
        first | exact Below.refl _ _ | exact ⟨rfl, Below.refl _ _⟩ | exact ⟨by and_intros <;> rfl, Below.refl _ _⟩ | exact ⟨by first | rfl | (congr 1; omega) | omega, Below.refl _ _⟩
      · refine .inl ⟨?_, ?_⟩
        · rw [show us 2 = .bool true from hd 2 rfl]; rfl
        have HX := Lib.hid hx; clear hx
        go_simp
        first | exact Below.refl _ _ | exact ⟨rfl, Below.refl _ _⟩ | exact ⟨by and_intros <;> rfl, Below.refl _ _⟩ | exact ⟨by first | rfl | (congr 1; omega) | omega, Below.refl _ _⟩
      · refine .inl ⟨?_, ?_⟩
        · rw [show us 2 = .bool true from hd 2 rfl]; rfl
        rw [show us 8 = .pointer (some ⟨w.heap.size, 1, none⟩) from hd 8 rfl]
        obtain ⟨c0, c1⟩ := And.intro hx.1 hx.2.1
        have HX := Lib.hid hx; clear hx
        go_simp
        first | exact Below.refl _ _ | exact ⟨rfl, Below.refl _ _⟩ | exact ⟨by and_intros <;> rfl, Below.refl _ _⟩ | exact ⟨by first | rfl | (congr 1; omega) | omega, Below.refl _ _⟩
      · refine .inl ⟨?_, ?_⟩
        · rw [show us 2 = .bool true from hd 2 rfl]; rfl
        rw [show us 7 = .int .i64 ((whoN bs m L).length : Nat) from hd 7 rfl, show us 9 = .int .i64 need from hd 9 rfl]
        have HX := Lib.hid hx; clear hx
        go_simp
        first | exact Below.refl _ _ | exact ⟨rfl, Below.refl _ _⟩ | exact ⟨by and_intros <;> rfl, Below.refl _ _⟩ | exact ⟨by first | rfl | (congr 1; omega) | omega, Below.refl _ _⟩
    rintro us W1 ⟨_, _, _, _, _, _, hb5⟩ hF
    have e2 : us 2 = .bool true := hF 2 (by decide)
    have e10 : us 10 = .bool (decide (need ≤ ((whoN bs m L).length : Nat))) := hF 10 (by decide)
    simp only [putAll, dstOf, List.getElem?_toArray, List.getElem?_cons_succ, List.getElem?_cons_zero, Option.bind_some, List.drop_succ_cons, List.drop_zero]
    rw [e2, e10]
    clear hF e2 e10
    generalize hq : decide (need ≤ ((whoN bs m L).length : Nat)) = q
    have Hq := Lib.hid hq; clear hq
    go_frame
    go_wp2_with fail
    exact bodyPost_ret (v := .bool q) (by simp [results, Tryd.results43, go_sem]) rfl ⟨by rw [Hres.out, Hr.out, ← Hq.out]; rfl, hb5⟩
  · have hrr' : rightP bs need = false := by simpa using hrr
    have Hr := Lib.hid hrr'
    unfold polV
    clear hb0 hm0 hp0 hp1 hbs hv ht hrr hrr'
    have HhW := Lib.hid hW
    go_enter Tryd.func43, Tryd.ntmps43
    go_upto_region 1 with fail
    clear hW
    refine wp_region_invG (fun wx => wx.cell? ⟨w.heap.size, 0, none⟩ = some (.slice A bs.length c) ∧ wx.cell? ⟨w.heap.size, 1, none⟩ = some (.int .i64 need) ∧ Arr wx (w.heap.size + 1) 4 (fnOf m) ∧ SigAt wx (.slice A bs.length c) bs ∧ SgsAt wx (.slice B L.length d) L ∧ Tn wx ∧ Below w.heap.size w wx) (fun j v w' => match j with | 0 => v = polV (.slice A bs.length c) need | 1 => v = .bool false | 2 => v = .bool false | 3 => v = undef | 4 => v = undef | 5 => v = undef | 6 => v = undef | 7 => v = undef | 8 => v = undef | 9 => v = undef | 10 => v = undef | _ => True) 11 (by kernel_rfl) (by kernel_rfl) hS1 (fun _ _ h hb => ⟨cell_keep h.1 hb, cell_keep h.2.1 hb, h.2.2.1.keep hb (by decide), h.2.2.2.1.below hb, h.2.2.2.2.1.keep hb, h.2.2.2.2.2.1.below hb, h.2.2.2.2.2.2.trans (hb.mono h.2.2.2.2.2.2.size)⟩) ?_ ?_ ?_
    · rintro (_|_|_|_|_|_|_|_|_|_|_|j) v w1 w2 hb h
      all_goals exact h
    · refine ⟨fun us wx hx hd => ?_, fun us wx hx hd => ?_, fun us wx hx hd => ?_, fun us wx hx hd => ?_, fun us wx hx hd => ?_, fun us wx hx hd => ?_, fun us wx hx hd => ?_, fun us wx hx hd => ?_, fun us wx hx hd => ?_, fun us wx hx hd => ?_, fun us wx hx hd => ?_, trivial⟩
      all_goals simp only [putAll, dstOf, List.getElem?_toArray, List.getElem?_cons_succ, List.getElem?_cons_zero, Option.bind_some]
      all_goals go_frame
      · refine .inl ⟨?_, ?_⟩
        · rfl
        obtain ⟨c0, c1⟩ := And.intro hx.1 hx.2.1
        unfold polV
        have HX := Lib.hid hx; clear hx
        go_simp
        first | exact Below.refl _ _ | exact ⟨rfl, Below.refl _ _⟩ | exact ⟨by and_intros <;> rfl, Below.refl _ _⟩ | exact ⟨by first | rfl | (congr 1; omega) | omega, Below.refl _ _⟩
      · refine .inl ⟨?_, ?_⟩
        · rfl
        rw [show us 0 = polV (.slice A bs.length c) need from hd 0 rfl]
        go_simp
        refine (rright_any _ bs need _ hx.2.2.2.1).mono ?_
        rintro e w1 ⟨rfl, hb1⟩
        exact ⟨_, rfl, by rw [Hr.out], hb1⟩
      · refine .inl ⟨?_, ?_⟩
        · rfl
        rw [show us 1 = .bool false from hd 1 rfl]
        have HX := Lib.hid hx; clear hx
        go_simp
        first | exact Below.refl _ _ | exact ⟨rfl, Below.refl _ _⟩ | exact ⟨by and_intros <;> rfl, Below.refl _ _⟩ | exact ⟨by first | rfl | (congr 1; omega) | omega, Below.refl _ _⟩
      · refine .inr ⟨?_, by first | rfl | trivial⟩
        rw [show us 2 = .bool false from hd 2 rfl]; rfl
      · refine .inr ⟨?_, by first | rfl | trivial⟩
        rw [show us 2 = .bool false from hd 2 rfl]; rfl
      · refine .inr ⟨?_, by first | rfl | trivial⟩
        rw [show us 2 = .bool false from hd 2 rfl]; rfl
      · refine .inr ⟨?_, by first | rfl | trivial⟩
        rw [show us 2 = .bool false from hd 2 rfl]; rfl
      · refine .inr ⟨?_, by first | rfl | trivial⟩
        rw [show us 2 = .bool false from hd 2 rfl]; rfl
      · refine .inr ⟨?_, by first | rfl | trivial⟩
        rw [show us 2 = .bool false from hd 2 rfl]; rfl
      · refine .inr ⟨?_, by first | rfl | trivial⟩
        rw [show us 2 = .bool false from hd 2 rfl]; rfl
      · refine .inr ⟨?_, by first | rfl | trivial⟩
        rw [show us 2 = .bool false from hd 2 rfl]; rfl
    rintro us W1 ⟨_, _, _, _, _, _, hb5⟩ hF
    have e2 : us 2 = .bool false := hF 2 (by decide)
    have e10 : us 10 = undef := hF 10 (by decide)
    simp only [putAll, dstOf, List.getElem?_toArray, List.getElem?_cons_succ, List.getElem?_cons_zero, Option.bind_some, List.drop_succ_cons, List.drop_zero]
    rw [e2, e10]
    clear hF e2 e10
    go_frame
    go_wp2_with fail
    exact bodyPost_ret (v := .bool false) (by simp [results, Tryd.results43, go_sem]) rfl ⟨by rw [Hres.out, Hr.out]; rfl, hb5⟩
end Go.Proofs.YtpodfmnnabepaaaDoor

namespace Go.Proofs.YtpodfmnnabepaaaDoor
open Go.RowKit
open Ot (Dg)
theorem AskB.drewn {W : World} {P : Nat} {bs : List Dg} {need : Int} {m : Dg} {L : List Sg} {bv lv : Value} (h : AskB W P bs need m L bv lv) : AskB W.drew P bs need m L bv lv :=
  h.keep (Below.refl _ _).drew
set_option maxRecDepth 100000 in
set_option maxHeartbeats 8000000 in
theorem ltells_any (bs : List Dg) (need : Int) (m : Dg) (L : List Sg) (bv lv : Value) (w : World) (ht : Tn w) (hbs : SigAt w bv bs) (hcap : Capd bv) (hv : SgsAt w lv L) (_ : Capd lv) (_ : -9223372036854775808 ≤ need) (_ : need ≤ 9223372036854775807) :
    Calls Tryd.prog 11 #[qaskV bv need m lv] w fun e w' => e = .returned (.bool true) ∧ Below w.heap.size w w' := by
  have hA0 := AskB.new (need := need) (m := m) ht hbs hv
  have hb0 : Below w.heap.size w (w.alloc (.cells #[bv, .int .i64 need, .int .u32 m.a.toNat, .int .u32 m.b.toNat, .int .u32 m.c.toNat, .int .u32 m.d.toNat, lv] 52)) := (Below.refl _ _).alloc (Nat.le_refl _) _
  obtain ⟨A, c, rfl, hlen, _⟩ := id hbs
  obtain ⟨B, d, rfl, hlL, _⟩ := id hv
  clear hlen hlL hbs hv ht
  unfold qaskV
  generalize hW : w.alloc (.cells #[.slice A bs.length c, .int .i64 need, .int .u32 m.a.toNat, .int .u32 m.b.toNat, .int .u32 m.c.toNat, .int .u32 m.d.toNat, .slice B L.length d] 52) = W at *
  have Hb0 := Lib.hid hb0; have HA0 := Lib.hid hA0
  clear hb0
  obtain ⟨c0, c1, c2, c3, c4, c5, c6, _, _, _⟩ := hA0
  go_enter Tryd.func11, Tryd.ntmps11
  go_wp2_with fail
  clear hW c0 c1 c2 c3 c4 c5 c6
  refine (small_any bs need m L _ _ W HA0.out.hbs HA0.out.hL).mono ?_
  rintro e w1 ⟨r, rfl, hr, hb1⟩
  have HA1 := Lib.hid (HA0.out.keep hb1)
  have Hb1 := Lib.hid (Hb0.out.trans (hb1.mono Hb0.out.size))
  clear HA0 Hb0 hb1
  cases r with
  | false =>
    go_wp2_with fail
    refine (qawake_any _ HA1.out.ht).mono ?_
    rintro e w2 ⟨rfl, hb2⟩
    go_wp2_with fail
    exact bodyPost_ret (v := .bool true) (by simp [results, Tryd.results11, go_sem]) rfl ⟨rfl, Hb1.out.trans (hb2.mono Hb1.out.size)⟩
  | true =>
    obtain ⟨hb8, hL8⟩ := hr rfl
    clear hr
    go_upto_region 3 with fail
    refine wp_region_invG (fun wx => AskB wx w.heap.size bs need m L (.slice A bs.length c) (.slice B L.length d) ∧ Below w.heap.size w wx) (fun j v w' => match j with | 0 => v = .bool true | 1 => v = .bool true | 2 => v = .pointer (some ⟨w.heap.size, 0, none⟩) | 3 => v = polV (.slice A bs.length c) need | 4 => v = .pointer (some ⟨w.heap.size, 2, none⟩) | 5 => v = dgv m | 6 => v = .pointer (some ⟨w.heap.size, 6, none⟩) | 7 => v = (.slice B L.length d) | 8 => IntsAt w' v (whoN bs m L) | 9 => v = .pointer (some ⟨w.heap.size, 0, none⟩) | 10 => v = polV (.slice A bs.length c) need | 11 => v = .pointer (some ⟨w.heap.size, 2, none⟩) | 12 => v = dgv m | 13 => v = .pointer (some ⟨w.heap.size, 6, none⟩) | 14 => v = (.slice B L.length d) | 15 => IntsAt w' v (whoN bs m L) | 16 => v = .bool true | 17 => v = .bool true | 18 => v = .bool true | 19 => v = .pointer (some ⟨w.heap.size, 0, none⟩) | 20 => v = polV (.slice A bs.length c) need | 21 => v = .pointer (some ⟨w.heap.size, 2, none⟩) | 22 => v = dgv m | 23 => v = .pointer (some ⟨w.heap.size, 6, none⟩) | 24 => v = (.slice B L.length d) | 25 => v = .bool (holdsN bs need m L) | 26 => v = .pointer (some ⟨w.heap.size, 0, none⟩) | 27 => v = polV (.slice A bs.length c) need | 28 => v = .pointer (some ⟨w.heap.size, 2, none⟩) | 29 => v = dgv m | 30 => v = .pointer (some ⟨w.heap.size, 6, none⟩) | 31 => v = (.slice B L.length d) | 32 => v = .bool (holdsN bs need m L) | 33 => v = .bool true | _ => True) 34 (by kernel_rfl) (by kernel_rfl) ⟨HA1.out.drewn, Hb1.out.drew⟩ (fun _ _ h hb => ⟨h.1.keep hb, h.2.trans (hb.mono h.2.size)⟩) ?_ ?_ ?_
    · rintro (_|_|_|_|_|_|_|_|_|_|_|_|_|_|_|_|_|_|_|_|_|_|_|_|_|_|_|_|_|_|_|_|_|_|j) v w1 w2 hb h
      all_goals first | exact h | exact IntsAt.keep h hb
    · refine ⟨fun us wx hx hd => ?_, fun us wx hx hd => ?_, fun us wx hx hd => ?_, fun us wx hx hd => ?_, fun us wx hx hd => ?_, fun us wx hx hd => ?_, fun us wx hx hd => ?_, fun us wx hx hd => ?_, fun us wx hx hd => ?_, fun us wx hx hd => ?_, fun us wx hx hd => ?_, fun us wx hx hd => ?_, fun us wx hx hd => ?_, fun us wx hx hd => ?_, fun us wx hx hd => ?_, fun us wx hx hd => ?_, fun us wx hx hd => ?_, fun us wx hx hd => ?_, fun us wx hx hd => ?_, fun us wx hx hd => ?_, fun us wx hx hd => ?_, fun us wx hx hd => ?_, fun us wx hx hd => ?_, fun us wx hx hd => ?_, fun us wx hx hd => ?_, fun us wx hx hd => ?_, fun us wx hx hd => ?_, fun us wx hx hd => ?_, fun us wx hx hd => ?_, fun us wx hx hd => ?_, fun us wx hx hd => ?_, fun us wx hx hd => ?_, fun us wx hx hd => ?_, fun us wx hx hd => ?_, trivial⟩
      all_goals simp only [putAll, dstOf, List.getElem?_toArray, List.getElem?_cons_succ, List.getElem?_cons_zero, Option.bind_some]
      all_goals go_frame
      · refine .inl ⟨?_, ?_⟩
        · rfl
        go_simp
        refine (qawake_any _ hx.1.ht).mono ?_
        rintro e w1 ⟨rfl, hb1⟩
        exact ⟨_, rfl, rfl, hb1⟩
      · refine .inl ⟨?_, ?_⟩
        · rfl
        rw [show us 0 = .bool true from hd 0 rfl]
        have HX := Lib.hid hx; clear hx
        go_simp
        first | exact Below.refl _ _ | exact ⟨rfl, Below.refl _ _⟩ | exact ⟨by and_intros <;> rfl, Below.refl _ _⟩ | exact ⟨by first | rfl | (congr 1; omega) | omega, Below.refl _ _⟩
      · refine .inl ⟨?_, ?_⟩
        · rw [show us 1 = .bool true from hd 1 rfl]; rfl
        have HX := Lib.hid hx; clear hx
        go_simp
        first | exact Below.refl _ _ | exact ⟨rfl, Below.refl _ _⟩ | exact ⟨by and_intros <;> rfl, Below.refl _ _⟩ | exact ⟨by first | rfl | (congr 1; omega) | omega, Below.refl _ _⟩
      · refine .inl ⟨?_, ?_⟩
        · rw [show us 1 = .bool true from hd 1 rfl]; rfl
        rw [show us 2 = .pointer (some ⟨w.heap.size, 0, none⟩) from hd 2 rfl]
        have c0 := hx.1.c0
        have c1 := hx.1.c1
        unfold polV
        have HX := Lib.hid hx; clear hx
        go_simp
        first | exact Below.refl _ _ | exact ⟨rfl, Below.refl _ _⟩ | exact ⟨by and_intros <;> rfl, Below.refl _ _⟩ | exact ⟨by first | rfl | (congr 1; omega) | omega, Below.refl _ _⟩
      · refine .inl ⟨?_, ?_⟩
        · rw [show us 1 = .bool true from hd 1 rfl]; rfl
        have HX := Lib.hid hx; clear hx
        go_simp
        first | exact Below.refl _ _ | exact ⟨rfl, Below.refl _ _⟩ | exact ⟨by and_intros <;> rfl, Below.refl _ _⟩ | exact ⟨by first | rfl | (congr 1; omega) | omega, Below.refl _ _⟩
      · refine .inl ⟨?_, ?_⟩
        · rw [show us 1 = .bool true from hd 1 rfl]; rfl
        rw [show us 4 = .pointer (some ⟨w.heap.size, 2, none⟩) from hd 4 rfl]
        have c2 := hx.1.c2
        have c3 := hx.1.c3
        have c4 := hx.1.c4
        have c5 := hx.1.c5
        have HX := Lib.hid hx; clear hx
        go_simp
        first | exact Below.refl _ _ | exact ⟨rfl, Below.refl _ _⟩ | exact ⟨by and_intros <;> rfl, Below.refl _ _⟩ | exact ⟨by first | rfl | (congr 1; omega) | omega, Below.refl _ _⟩
      · refine .inl ⟨?_, ?_⟩
        · rw [show us 1 = .bool true from hd 1 rfl]; rfl
        have HX := Lib.hid hx; clear hx
        go_simp
        first | exact Below.refl _ _ | exact ⟨rfl, Below.refl _ _⟩ | exact ⟨by and_intros <;> rfl, Below.refl _ _⟩ | exact ⟨by first | rfl | (congr 1; omega) | omega, Below.refl _ _⟩
      · refine .inl ⟨?_, ?_⟩
        · rw [show us 1 = .bool true from hd 1 rfl]; rfl
        rw [show us 6 = .pointer (some ⟨w.heap.size, 6, none⟩) from hd 6 rfl]
        have c6 := hx.1.c6
        have HX := Lib.hid hx; clear hx
        go_simp
        first | exact Below.refl _ _ | exact ⟨rfl, Below.refl _ _⟩ | exact ⟨by and_intros <;> rfl, Below.refl _ _⟩ | exact ⟨by first | rfl | (congr 1; omega) | omega, Below.refl _ _⟩
      · refine .inl ⟨?_, ?_⟩
        · rw [show us 1 = .bool true from hd 1 rfl]; rfl
        rw [show us 3 = polV (.slice A bs.length c) need from hd 3 rfl, show us 5 = dgv m from hd 5 rfl, show us 7 = (.slice B L.length d) from hd 7 rfl]
        go_simp
        refine (who_any bs need m L _ _ _ hx.1.ht hx.1.hbs hx.1.hL hcap (by omega)).mono ?_
        rintro e w1 ⟨v1, rfl, hb1, hown⟩
        exact ⟨_, rfl, own_intsAt hown, hb1⟩
      · refine .inl ⟨?_, ?_⟩
        · rw [show us 1 = .bool true from hd 1 rfl]; rfl
        have HX := Lib.hid hx; clear hx
        go_simp
        first | exact Below.refl _ _ | exact ⟨rfl, Below.refl _ _⟩ | exact ⟨by and_intros <;> rfl, Below.refl _ _⟩ | exact ⟨by first | rfl | (congr 1; omega) | omega, Below.refl _ _⟩
      · refine .inl ⟨?_, ?_⟩
        · rw [show us 1 = .bool true from hd 1 rfl]; rfl
        rw [show us 9 = .pointer (some ⟨w.heap.size, 0, none⟩) from hd 9 rfl]
        have c0 := hx.1.c0
        have c1 := hx.1.c1
        unfold polV
        have HX := Lib.hid hx; clear hx
        go_simp
        first | exact Below.refl _ _ | exact ⟨rfl, Below.refl _ _⟩ | exact ⟨by and_intros <;> rfl, Below.refl _ _⟩ | exact ⟨by first | rfl | (congr 1; omega) | omega, Below.refl _ _⟩
      · refine .inl ⟨?_, ?_⟩
        · rw [show us 1 = .bool true from hd 1 rfl]; rfl
        have HX := Lib.hid hx; clear hx
        go_simp
        first | exact Below.refl _ _ | exact ⟨rfl, Below.refl _ _⟩ | exact ⟨by and_intros <;> rfl, Below.refl _ _⟩ | exact ⟨by first | rfl | (congr 1; omega) | omega, Below.refl _ _⟩
      · refine .inl ⟨?_, ?_⟩
        · rw [show us 1 = .bool true from hd 1 rfl]; rfl
        rw [show us 11 = .pointer (some ⟨w.heap.size, 2, none⟩) from hd 11 rfl]
        have c2 := hx.1.c2
        have c3 := hx.1.c3
        have c4 := hx.1.c4
        have c5 := hx.1.c5
        have HX := Lib.hid hx; clear hx
        go_simp
        first | exact Below.refl _ _ | exact ⟨rfl, Below.refl _ _⟩ | exact ⟨by and_intros <;> rfl, Below.refl _ _⟩ | exact ⟨by first | rfl | (congr 1; omega) | omega, Below.refl _ _⟩
      · refine .inl ⟨?_, ?_⟩
        · rw [show us 1 = .bool true from hd 1 rfl]; rfl
        have HX := Lib.hid hx; clear hx
        go_simp
        first | exact Below.refl _ _ | exact ⟨rfl, Below.refl _ _⟩ | exact ⟨by and_intros <;> rfl, Below.refl _ _⟩ | exact ⟨by first | rfl | (congr 1; omega) | omega, Below.refl _ _⟩
      · refine .inl ⟨?_, ?_⟩
        · rw [show us 1 = .bool true from hd 1 rfl]; rfl
        rw [show us 13 = .pointer (some ⟨w.heap.size, 6, none⟩) from hd 13 rfl]
        have c6 := hx.1.c6
        have HX := Lib.hid hx; clear hx
        go_simp
        first | exact Below.refl _ _ | exact ⟨rfl, Below.refl _ _⟩ | exact ⟨by and_intros <;> rfl, Below.refl _ _⟩ | exact ⟨by first | rfl | (congr 1; omega) | omega, Below.refl _ _⟩
      · refine .inl ⟨?_, ?_⟩
        · rw [show us 1 = .bool true from hd 1 rfl]; rfl
        rw [show us 10 = polV (.slice A bs.length c) need from hd 10 rfl, show us 12 = dgv m from hd 12 rfl, show us 14 = (.slice B L.length d) from hd 14 rfl]
        go_simp
        refine (rwho_any bs need m L _ _ _ hx.1.hbs hx.1.hL (by omega)).mono ?_
        rintro e w1 ⟨v1, rfl, hb1, hown⟩
        exact ⟨_, rfl, own_intsAt hown, hb1⟩
      · refine .inl ⟨?_, ?_⟩
        · rw [show us 1 = .bool true from hd 1 rfl]; rfl
        have h8 : IntsAt wx (us 8) (whoN bs m L) := hd 8 rfl
        have h15 : IntsAt wx (us 15) (whoN bs m L) := hd 15 rfl
        go_simp
        refine (qints_any _ _ _ _ h8 h15).mono ?_
        rintro e w1 ⟨rfl, hb1⟩
        exact ⟨_, rfl, rfl, hb1⟩
      · refine .inl ⟨?_, ?_⟩
        · rfl
        rw [show us 1 = .bool true from hd 1 rfl, show us 16 = .bool true from hd 16 rfl]
        have HX := Lib.hid hx; clear hx
        go_simp
        first | exact Below.refl _ _ | exact ⟨rfl, Below.refl _ _⟩ | exact ⟨by and_intros <;> rfl, Below.refl _ _⟩ | exact ⟨by first | rfl | (congr 1; omega) | omega, Below.refl _ _⟩
      · refine .inl ⟨?_, ?_⟩
        · rfl
        rw [show us 17 = .bool true from hd 17 rfl]
        have HX := Lib.hid hx; clear hx
        go_simp
        first | exact Below.refl _ _ | exact ⟨rfl, Below.refl _ _⟩ | exact ⟨by and_intros <;> rfl, Below.refl _ _⟩ | exact ⟨by first | rfl | (congr 1; omega) | omega, Below.refl _ _⟩
      · refine .inl ⟨?_, ?_⟩
        · rw [show us 18 = .bool true from hd 18 rfl]; rfl
        have HX := Lib.hid hx; clear hx
        go_simp
        first | exact Below.refl _ _ | exact ⟨rfl, Below.refl _ _⟩ | exact ⟨by and_intros <;> rfl, Below.refl _ _⟩ | exact ⟨by first | rfl | (congr 1; omega) | omega, Below.refl _ _⟩
      · refine .inl ⟨?_, ?_⟩
        · rw [show us 18 = .bool true from hd 18 rfl]; rfl
        rw [show us 19 = .pointer (some ⟨w.heap.size, 0, none⟩) from hd 19 rfl]
        have c0 := hx.1.c0
        have c1 := hx.1.c1
        unfold polV
        have HX := Lib.hid hx; clear hx
        go_simp
        first | exact Below.refl _ _ | exact ⟨rfl, Below.refl _ _⟩ | exact ⟨by and_intros <;> rfl, Below.refl _ _⟩ | exact ⟨by first | rfl | (congr 1; omega) | omega, Below.refl _ _⟩
      · refine .inl ⟨?_, ?_⟩
        · rw [show us 18 = .bool true from hd 18 rfl]; rfl
        have HX := Lib.hid hx; clear hx
        go_simp
        first | exact Below.refl _ _ | exact ⟨rfl, Below.refl _ _⟩ | exact ⟨by and_intros <;> rfl, Below.refl _ _⟩ | exact ⟨by first | rfl | (congr 1; omega) | omega, Below.refl _ _⟩
      · refine .inl ⟨?_, ?_⟩
        · rw [show us 18 = .bool true from hd 18 rfl]; rfl
        rw [show us 21 = .pointer (some ⟨w.heap.size, 2, none⟩) from hd 21 rfl]
        have c2 := hx.1.c2
        have c3 := hx.1.c3
        have c4 := hx.1.c4
        have c5 := hx.1.c5
        have HX := Lib.hid hx; clear hx
        go_simp
        first | exact Below.refl _ _ | exact ⟨rfl, Below.refl _ _⟩ | exact ⟨by and_intros <;> rfl, Below.refl _ _⟩ | exact ⟨by first | rfl | (congr 1; omega) | omega, Below.refl _ _⟩
      · refine .inl ⟨?_, ?_⟩
        · rw [show us 18 = .bool true from hd 18 rfl]; rfl
        have HX := Lib.hid hx; clear hx
        go_simp
        first | exact Below.refl _ _ | exact ⟨rfl, Below.refl _ _⟩ | exact ⟨by and_intros <;> rfl, Below.refl _ _⟩ | exact ⟨by first | rfl | (congr 1; omega) | omega, Below.refl _ _⟩
      · refine .inl ⟨?_, ?_⟩
        · rw [show us 18 = .bool true from hd 18 rfl]; rfl
        rw [show us 23 = .pointer (some ⟨w.heap.size, 6, none⟩) from hd 23 rfl]
        have c6 := hx.1.c6
        have HX := Lib.hid hx; clear hx
        go_simp
        first | exact Below.refl _ _ | exact ⟨rfl, Below.refl _ _⟩ | exact ⟨by and_intros <;> rfl, Below.refl _ _⟩ | exact ⟨by first | rfl | (congr 1; omega) | omega, Below.refl _ _⟩
      · refine .inl ⟨?_, ?_⟩
        · rw [show us 18 = .bool true from hd 18 rfl]; rfl
        rw [show us 20 = polV (.slice A bs.length c) need from hd 20 rfl, show us 22 = dgv m from hd 22 rfl, show us 24 = (.slice B L.length d) from hd 24 rfl]
        go_simp
        refine (qholds_any bs need m L _ _ _ hx.1.ht hx.1.hbs hx.1.hL hcap (by omega)).mono ?_
        rintro e w1 ⟨rfl, hb1⟩
        exact ⟨_, rfl, rfl, hb1⟩
      · refine .inl ⟨?_, ?_⟩
        · rw [show us 18 = .bool true from hd 18 rfl]; rfl
        have HX := Lib.hid hx; clear hx
        go_simp
        first | exact Below.refl _ _ | exact ⟨rfl, Below.refl _ _⟩ | exact ⟨by and_intros <;> rfl, Below.refl _ _⟩ | exact ⟨by first | rfl | (congr 1; omega) | omega, Below.refl _ _⟩
      · refine .inl ⟨?_, ?_⟩
        · rw [show us 18 = .bool true from hd 18 rfl]; rfl
        rw [show us 26 = .pointer (some ⟨w.heap.size, 0, none⟩) from hd 26 rfl]
        have c0 := hx.1.c0
        have c1 := hx.1.c1
        unfold polV
        have HX := Lib.hid hx; clear hx
        go_simp
        first | exact Below.refl _ _ | exact ⟨rfl, Below.refl _ _⟩ | exact ⟨by and_intros <;> rfl, Below.refl _ _⟩ | exact ⟨by first | rfl | (congr 1; omega) | omega, Below.refl _ _⟩
      · refine .inl ⟨?_, ?_⟩
        · rw [show us 18 = .bool true from hd 18 rfl]; rfl
        have HX := Lib.hid hx; clear hx
        go_simp
        first | exact Below.refl _ _ | exact ⟨rfl, Below.refl _ _⟩ | exact ⟨by and_intros <;> rfl, Below.refl _ _⟩ | exact ⟨by first | rfl | (congr 1; omega) | omega, Below.refl _ _⟩
      · refine .inl ⟨?_, ?_⟩
        · rw [show us 18 = .bool true from hd 18 rfl]; rfl
        rw [show us 28 = .pointer (some ⟨w.heap.size, 2, none⟩) from hd 28 rfl]
        have c2 := hx.1.c2
        have c3 := hx.1.c3
        have c4 := hx.1.c4
        have c5 := hx.1.c5
        have HX := Lib.hid hx; clear hx
        go_simp
        first | exact Below.refl _ _ | exact ⟨rfl, Below.refl _ _⟩ | exact ⟨by and_intros <;> rfl, Below.refl _ _⟩ | exact ⟨by first | rfl | (congr 1; omega) | omega, Below.refl _ _⟩
      · refine .inl ⟨?_, ?_⟩
        · rw [show us 18 = .bool true from hd 18 rfl]; rfl
        have HX := Lib.hid hx; clear hx
        go_simp
        first | exact Below.refl _ _ | exact ⟨rfl, Below.refl _ _⟩ | exact ⟨by and_intros <;> rfl, Below.refl _ _⟩ | exact ⟨by first | rfl | (congr 1; omega) | omega, Below.refl _ _⟩
      · refine .inl ⟨?_, ?_⟩
        · rw [show us 18 = .bool true from hd 18 rfl]; rfl
        rw [show us 30 = .pointer (some ⟨w.heap.size, 6, none⟩) from hd 30 rfl]
        have c6 := hx.1.c6
        have HX := Lib.hid hx; clear hx
        go_simp
        first | exact Below.refl _ _ | exact ⟨rfl, Below.refl _ _⟩ | exact ⟨by and_intros <;> rfl, Below.refl _ _⟩ | exact ⟨by first | rfl | (congr 1; omega) | omega, Below.refl _ _⟩
      · refine .inl ⟨?_, ?_⟩
        · rw [show us 18 = .bool true from hd 18 rfl]; rfl
        rw [show us 27 = polV (.slice A bs.length c) need from hd 27 rfl, show us 29 = dgv m from hd 29 rfl, show us 31 = (.slice B L.length d) from hd 31 rfl]
        go_simp
        refine (rholds_any bs need m L _ _ _ hx.1.ht hx.1.hbs hx.1.hL (by omega)).mono ?_
        rintro e w1 ⟨rfl, hb1⟩
        exact ⟨_, rfl, rfl, hb1⟩
      · refine .inl ⟨?_, ?_⟩
        · rw [show us 18 = .bool true from hd 18 rfl]; rfl
        rw [show us 25 = .bool (holdsN bs need m L) from hd 25 rfl, show us 32 = .bool (holdsN bs need m L) from hd 32 rfl]
        have HX := Lib.hid hx; clear hx
        go_simp
        first | exact Below.refl _ _ | exact ⟨rfl, Below.refl _ _⟩ | exact ⟨by and_intros <;> rfl, Below.refl _ _⟩ | exact ⟨by first | rfl | (congr 1; omega) | omega, Below.refl _ _⟩
    rintro us W1 ⟨_, hb5⟩ hF
    have e18 : us 18 = .bool true := hF 18 (by decide)
    have e33 : us 33 = .bool true := hF 33 (by decide)
    simp only [putAll, dstOf, List.getElem?_toArray, List.getElem?_cons_succ, List.getElem?_cons_zero, Option.bind_some, List.drop_succ_cons, List.drop_zero]
    rw [e18, e33]
    clear hF e18 e33
    go_frame
    go_wp2_with fail
    exact bodyPost_ret (v := .bool true) (by simp [results, Tryd.results11, go_sem]) rfl ⟨rfl, hb5⟩
end Go.Proofs.YtpodfmnnabepaaaDoor
