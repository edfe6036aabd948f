/- Texts of this claim, merged: Q3 C1 C2 C3 Q4 W27 W28 Q5 Q6 Q7 Q8 R5. Conditions: those written in each. -/
import Derived.Test.YtpodfmnnabepaaaDoorM1
import Derived.Test.YtpodfmnnabepaaaDoorM2
namespace Go.Proofs.YtpodfmnnabepaaaDoor
open Go.RowKit
open Ot (Dg)
/-- The eight words that Of takes in, of 21 bytes. -/
def ow (s : ByteArray) (j : Nat) : UInt32 := if j < 6 then UInt32.ofNat (acc s j 4) else if j = 6 then 21 else 0
noncomputable def ofD (s : ByteArray) : Dg := dgOf (absorb (st0 1) (ow s) 2)
theorem acc4_lt (s : ByteArray) (k : Nat) : acc s k 4 < 4294967296 := acc_lt s k 4
theorem arr8 {w : World} {b : Nat} {f : Nat → UInt32} (h : Arr w b 8 f) : w.cell? ⟨b, 0, none⟩ = some (.int .u32 (f 0).toNat) ∧ w.cell? ⟨b, 1, none⟩ = some (.int .u32 (f 1).toNat) ∧ w.cell? ⟨b, 2, none⟩ = some (.int .u32 (f 2).toNat) ∧ w.cell? ⟨b, 3, none⟩ = some (.int .u32 (f 3).toNat) ∧ w.cell? ⟨b, 4, none⟩ = some (.int .u32 (f 4).toNat) ∧ w.cell? ⟨b, 5, none⟩ = some (.int .u32 (f 5).toNat) ∧ w.cell? ⟨b, 6, none⟩ = some (.int .u32 (f 6).toNat) ∧ w.cell? ⟨b, 7, none⟩ = some (.int .u32 (f 7).toNat) :=
  ⟨h.cell 0 (by decide), h.cell 1 (by decide), h.cell 2 (by decide), h.cell 3 (by decide), h.cell 4 (by decide), h.cell 5 (by decide), h.cell 6 (by decide), h.cell 7 (by decide)⟩
theorem xor4_of (f h : Nat → UInt32) : xor4 f (fnOf ⟨h 0, h 1, h 2, h 3⟩) 4 = xor4 f h 4 := by
  funext j
  unfold xor4
  by_cases hj : j < 4
  · rw [if_pos hj, if_pos hj]
    obtain rfl | rfl | rfl | rfl : j = 0 ∨ j = 1 ∨ j = 2 ∨ j = 3 := by omega
    all_goals rfl
  · rw [if_neg hj, if_neg hj]
theorem ow_list (t : ByteArray) : ∀ j, j < 8 → (wlist t 6 ++ [21, 0])[j]? = some (ow t j).toNat := by
  have h := fun k => acc4_lt t k
  intro j hj
  have e : ∀ k, (UInt32.ofNat (acc t k 4)).toNat = acc t k 4 := fun k => by rw [UInt32.toNat_ofNat']; have := h k; omega
  obtain rfl | rfl | rfl | rfl | rfl | rfl | rfl | rfl : j = 0 ∨ j = 1 ∨ j = 2 ∨ j = 3 ∨ j = 4 ∨ j = 5 ∨ j = 6 ∨ j = 7 := by omega
  all_goals simp only [ow, e, Nat.reduceLT, if_true, if_false]
  all_goals rfl
theorem own_ow {w : World} {base n : Nat} {v : Value} {t : ByteArray} (h : w.ownsRow base 22 1 v n (uvs (wlist t 6) ++ [.int .u32 21, .int .u32 0])) :
    ∃ g cap, v = .slice (some ⟨g, 0, none⟩) 8 cap ∧ 8 ≤ cap ∧ g < w.heap.size ∧ ∀ j, j < 8 → w.cell? ⟨g, j, none⟩ = some (.int .u32 (ow t j).toNat) := by
  have hl : n = 8 := by have := h.1; simp [uvs, wlist] at this; omega
  subst hl
  have hc := h
  rcases h.2 with ⟨rfl, h0⟩ | ⟨g, cap, cur, rfl, hb, hh, h1, h2, _⟩
  · omega
  · refine ⟨g, cap, rfl, h1, (Array.getElem?_eq_some_iff.1 hh).1, fun j hj => ?_⟩
    have e : (uvs (wlist t 6) ++ [.int .u32 21, .int .u32 0])[j]? = some (.int .u32 (ow t j).toNat) := by
      have : uvs (wlist t 6) ++ [.int .u32 21, .int .u32 0] = uvs (wlist t 6 ++ [21, 0]) := by simp [uvs]
      rw [this, uvs, List.getElem?_map, ow_list t j hj]; rfl
    have := hc.cells (g := g) rfl j _ e
    rwa [add_at] at this
set_option maxRecDepth 100000 in
set_option maxHeartbeats 4000000 in
theorem rof_any (s t : ByteArray) (hs : s.size = 21) (ht : t = s ++ ⟨#[128]⟩ ++ ⟨#[0]⟩ ++ ⟨#[0]⟩) (w : World) :
    Calls Tryd.prog 80 #[.string s] w fun e w' => e = .returned (dgv (ofD t)) ∧ Below w.heap.size w w' := by
  obtain ⟨X0, hX0⟩ : ∃ X0, X0 = s ++ ⟨#[128]⟩ := ⟨_, rfl⟩
  obtain ⟨X1, hX1⟩ : ∃ X1, X1 = X0 ++ ⟨#[0]⟩ := ⟨_, rfl⟩
  have hX2 : X1 ++ ⟨#[0]⟩ = t := by rw [ht, hX1, hX0]
  have z1 : X0.size = 22 := by rw [hX0, ByteArray.size_append, hs]; rfl
  have z2 : X1.size = 23 := by rw [hX1, ByteArray.size_append, z1]; rfl
  have z3 : t.size = 24 := by rw [← hX2, ByteArray.size_append, z2]; rfl
  have hsi : (s.size : Int) = 21 := by omega
  have y1 : (X0.size : Int) = 22 := by omega
  have y2 : (X1.size : Int) = 23 := by omega
  have y3 : (t.size : Int) = 24 := by omega
  replace hX0 := hX0.symm
  replace hX1 := hX1.symm
  clear ht
  obtain ⟨i0, hi, hz0, hz1, hz2⟩ := info_parts Tryd.info22
  have hrw := fun w' => rwords_any t z3 w'
  have Hrw := Lib.hid hrw; clear hrw z1 z2 z3 hs
  go_enter Tryd.func80, Tryd.ntmps80
  go_wp2_with fail
  have hb0 : Below w.heap.size w (w.alloc (.cells #[.int .u32 0, .int .u32 0, .int .u32 0, .int .u32 0] 24)) := (Below.refl _ _).alloc (Nat.le_refl _) _
  go_loopw [0] (fun v wr => wr = w.alloc (.cells #[.int .u32 0, .int .u32 0, .int .u32 0, .int .u32 0] 24) ∧ (v = .string X0 ∨ v = .string X1 ∨ v = .string t)) (fun v _ => 24 - (match v with | .string x => x.size | _ => 0))
  case atStart => exact ⟨rfl, .inl rfl⟩
  case round =>
    obtain ⟨rfl, rfl | rfl | rfl⟩ := hrel
    · go_wp2_with fail
      refine ⟨⟨trivial, .inr (.inl rfl)⟩, ?_⟩
      show 24 - X1.size < 24 - X0.size
      omega
    · go_wp2_with fail
      refine ⟨⟨trivial, .inr (.inr rfl)⟩, ?_⟩
      show 24 - t.size < 24 - X1.size
      omega
    · go_wp2_with (at_builtin; fail)
      refine (Hrw.out _).mono ?_
      rintro e w1 ⟨v, rfl, hb1, hown⟩
      have hz : Arr w1 w.heap.size 4 (fnOf Ot.zeroD) := (Arr.new w 4 (fnOf Ot.zeroD) 24 #[.int .u32 0, .int .u32 0, .int .u32 0, .int .u32 0] rfl).below hb1 (by simp)
      have hb2 := hb0.trans (hb1.mono (by simp))
      rw [World.size_alloc] at hown
      have hbs := hb2.size
      have hbs1 : w.heap.size + 1 ≤ w1.heap.size := by have := hb1.size; simp at this; omega
      go_wp2_with (at_builtin; refine wpList_append_own _ rfl _ _ 96 rfl (w.heap.size + 1) 22 i0 (.int .u32 0) 1 4 Tryd.underlying96 hi hz0 hz1 hz2 rfl (by decide) _ _ _ rfl (hown.alloc _) ⟨w1.heap.size, 0, none⟩ 2 2 [.int .u32 21, .int .u32 0] rfl rfl ?c1 ?c2 ?c3 ?c4 ?c5 ?_)
      case c1 => exact cell_two_new _ _ _ _
      case c2 => intro u hu; simp at hu; rcases hu with rfl | rfl <;> rfl
      case c3 => unfold maxLen; omega
      case c4 => omega
      case c5 => simp; omega
      intro v' w4 hown1 hg1 _
      have hb3 := hb2.alloc (o := .cells #[.int .u32 21, .int .u32 0] 22) hbs
      have hb4 : Below w.heap.size w w4 := hb3.grown hg1 hb3.size (fun q hq => by have := (hown.lt q hq).1; omega)
      have hb14 : Below (w.heap.size + 1) w1 w4 := ((Below.refl _ _).alloc hbs1 (.cells #[.int .u32 21, .int .u32 0] 22)).grown hg1 (by simp; omega) (fun q hq => (hown.lt q hq).1)
      obtain ⟨g, cap, rfl, hcap, hgl, hcell⟩ := own_ow (t := t) hown1
      have hz4 : Arr w4 w.heap.size 4 (fnOf Ot.zeroD) := hz.below hb14 (by omega)
      clear hg1 hb3 hown hown1 hb1 hb2 hbs Hrw
      have hs4 := hb4.size
      go_wp2_with fail
      go_loopw [7] (fun i wr => ∃ k : Nat, k ≤ 2 ∧ i = .int .i64 (4 * (k : Int)) ∧ Arr wr w4.heap.size 8 (absorb (st0 1) (ow t) k) ∧ Below w4.heap.size w4 wr) (fun i _ => 8 - (intOf i).toNat)
      case atStart => exact ⟨0, by omega, rfl, Arr.new w4 8 (st0 1) 85 _ rfl, (Below.refl _ _).alloc (Nat.le_refl _) _⟩
      case round =>
        obtain ⟨k, hk, rfl, ha, hb⟩ := hrel
        by_cases hk2 : k < 2
        · have hd : decide (4 * (k : Int) < 8) = true := by simp; omega
          have e0 := (hb.cell (p := ⟨g, 4 * k, none⟩) hgl).trans (hcell (4 * k) (by omega))
          have e1 := (hb.cell (p := ⟨g, 4 * k + 1, none⟩) hgl).trans (hcell (4 * k + 1) (by omega))
          have e2 := (hb.cell (p := ⟨g, 4 * k + 2, none⟩) hgl).trans (hcell (4 * k + 2) (by omega))
          have e3 := (hb.cell (p := ⟨g, 4 * k + 3, none⟩) hgl).trans (hcell (4 * k + 3) (by omega))
          have hab : absorb (st0 1) (ow t) (k + 1) = mix (xor4 (absorb (st0 1) (ow t) k) (fnOf ⟨ow t (4 * k), ow t (4 * k + 1), ow t (4 * k + 2), ow t (4 * k + 3)⟩) 4) := by
            rw [absorb]; congr 1; exact (xor4_of _ (fun j => ow t (4 * k + j))).symm
          generalize hf : absorb (st0 1) (ow t) k = f at *
          generalize ow t (4 * k) = x0 at *
          generalize ow t (4 * k + 1) = x1 at *
          generalize ow t (4 * k + 2) = x2 at *
          generalize ow t (4 * k + 3) = x3 at *
          have Hab := Lib.hid hab; clear hab
          clear hf
          have p0 : (0 : Int) ≤ 4 * (k : Int) := by omega
          have p1 : 4 * (k : Int) < 8 := by omega
          have p2 : (4 * (k : Int)).toNat = 4 * k := by omega
          have p01 : (0 : Int) ≤ 4 * (k : Int) + 1 := by omega
          have p11 : 4 * (k : Int) + 1 < 8 := by omega
          have p21 : (4 * (k : Int) + 1).toNat = 4 * k + 1 := by omega
          have p31 : IntKind.i64.wrap (4 * (k : Int) + 1) = 4 * (k : Int) + 1 := IntWalk.i64_in _ (by omega)
          have p02 : (0 : Int) ≤ 4 * (k : Int) + 2 := by omega
          have p12 : 4 * (k : Int) + 2 < 8 := by omega
          have p22 : (4 * (k : Int) + 2).toNat = 4 * k + 2 := by omega
          have p32 : IntKind.i64.wrap (4 * (k : Int) + 2) = 4 * (k : Int) + 2 := IntWalk.i64_in _ (by omega)
          have p03 : (0 : Int) ≤ 4 * (k : Int) + 3 := by omega
          have p13 : 4 * (k : Int) + 3 < 8 := by omega
          have p23 : (4 * (k : Int) + 3).toNat = 4 * k + 3 := by omega
          have p33 : IntKind.i64.wrap (4 * (k : Int) + 3) = 4 * (k : Int) + 3 := IntWalk.i64_in _ (by omega)
          have hsw := hb.size
          go_upto_region 11 with fail
          refine wp_region_inv (fun wx => Arr wx w4.heap.size 8 f ∧ Below w4.heap.size w4 wx ∧ wx.cell? ⟨g, 4 * k, none⟩ = some (.int .u32 x0.toNat) ∧ wx.cell? ⟨g, 4 * k + 1, none⟩ = some (.int .u32 x1.toNat) ∧ wx.cell? ⟨g, 4 * k + 2, none⟩ = some (.int .u32 x2.toNat) ∧ wx.cell? ⟨g, 4 * k + 3, none⟩ = some (.int .u32 x3.toNat)) (fun j v w' => match j with | 0 => v = st8 f | 1 => v = (.slice (some ⟨g, 0, none⟩) 8 cap) | 2 => v = (.int .i64 (4 * (k : Int))) | 3 => v = (.pointer (some ⟨g, 4 * k, none⟩)) | 4 => v = (.int .u32 x0.toNat) | 5 => v = (.slice (some ⟨g, 0, none⟩) 8 cap) | 6 => v = (.int .i64 (4 * (k : Int))) | 7 => v = (.int .i64 (4 * (k : Int) + 1)) | 8 => v = (.pointer (some ⟨g, 4 * k + 1, none⟩)) | 9 => v = (.int .u32 x1.toNat) | 10 => v = (.slice (some ⟨g, 0, none⟩) 8 cap) | 11 => v = (.int .i64 (4 * (k : Int))) | 12 => v = (.int .i64 (4 * (k : Int) + 2)) | 13 => v = (.pointer (some ⟨g, 4 * k + 2, none⟩)) | 14 => v = (.int .u32 x2.toNat) | 15 => v = (.slice (some ⟨g, 0, none⟩) 8 cap) | 16 => v = (.int .i64 (4 * (k : Int))) | 17 => v = (.int .i64 (4 * (k : Int) + 3)) | 18 => v = (.pointer (some ⟨g, 4 * k + 3, none⟩)) | 19 => v = (.int .u32 x3.toNat) | 20 => v = dgv ⟨x0, x1, x2, x3⟩ | 21 => v = st8 (mix (xor4 f (fnOf ⟨x0, x1, x2, x3⟩) 4)) | _ => True) 22 (by kernel_rfl) (by kernel_rfl) ⟨ha.drew, hb.drew, e0, e1, e2, e3⟩ (fun _ _ h hb => ⟨h.1.keep hb (by decide), h.2.1.trans (hb.mono h.2.1.size), cell_keep h.2.2.1 hb, cell_keep h.2.2.2.1 hb, cell_keep h.2.2.2.2.1 hb, cell_keep h.2.2.2.2.2 hb⟩) ?_ ?_ ?_
          · rintro (_|_|_|_|_|_|_|_|_|_|_|_|_|_|_|_|_|_|_|_|_|_|j) v w1 w2 hb h
            all_goals exact h
          · refine ⟨fun us wx hx hd => ?_, fun us wx hx hd => ?_, fun us wx hx hd => ?_, fun us wx hx hd => ?_, fun us wx hx hd => ?_, fun us wx hx hd => ?_, fun us wx hx hd => ?_, fun us wx hx hd => ?_, fun us wx hx hd => ?_, fun us wx hx hd => ?_, fun us wx hx hd => ?_, fun us wx hx hd => ?_, fun us wx hx hd => ?_, fun us wx hx hd => ?_, fun us wx hx hd => ?_, fun us wx hx hd => ?_, fun us wx hx hd => ?_, fun us wx hx hd => ?_, fun us wx hx hd => ?_, fun us wx hx hd => ?_, fun us wx hx hd => ?_, fun us wx hx hd => ?_, trivial⟩
            all_goals simp only [putAll, dstOf, List.getElem?_toArray, List.getElem?_cons_succ, List.getElem?_cons_zero, Option.bind_some]
            all_goals go_frame
            · obtain ⟨c0, c1, c2, c3, c4, c5, c6, c7⟩ := arr8 hx.1
              have H := Lib.hid hx; clear hx
              go_simp
              first | exact Below.refl _ _ | exact ⟨rfl, Below.refl _ _⟩ | exact ⟨by and_intros <;> rfl, Below.refl _ _⟩ | exact ⟨by first | rfl | (congr 1; omega), Below.refl _ _⟩
            · have H := Lib.hid hx; clear hx
              go_simp
              first | exact Below.refl _ _ | exact ⟨rfl, Below.refl _ _⟩ | exact ⟨by and_intros <;> rfl, Below.refl _ _⟩ | exact ⟨by first | rfl | (congr 1; omega), Below.refl _ _⟩
            · have H := Lib.hid hx; clear hx
              go_simp
              first | exact Below.refl _ _ | exact ⟨rfl, Below.refl _ _⟩ | exact ⟨by and_intros <;> rfl, Below.refl _ _⟩ | exact ⟨by first | rfl | (congr 1; omega), Below.refl _ _⟩
            · rw [show us 1 = (.slice (some ⟨g, 0, none⟩) 8 cap) from hd 1 rfl, show us 2 = (.int .i64 (4 * (k : Int))) from hd 2 rfl]; have H := Lib.hid hx; clear hx
              go_simp
              first | exact Below.refl _ _ | exact ⟨rfl, Below.refl _ _⟩ | exact ⟨by and_intros <;> rfl, Below.refl _ _⟩ | exact ⟨by first | rfl | (congr 1; omega), Below.refl _ _⟩
            · rw [show us 3 = (.pointer (some ⟨g, 4 * k, none⟩)) from hd 3 rfl]; have c := hx.2.2.1
              have H := Lib.hid hx; clear hx
              go_simp
              first | exact Below.refl _ _ | exact ⟨rfl, Below.refl _ _⟩ | exact ⟨by and_intros <;> rfl, Below.refl _ _⟩ | exact ⟨by first | rfl | (congr 1; omega), Below.refl _ _⟩
            · have H := Lib.hid hx; clear hx
              go_simp
              first | exact Below.refl _ _ | exact ⟨rfl, Below.refl _ _⟩ | exact ⟨by and_intros <;> rfl, Below.refl _ _⟩ | exact ⟨by first | rfl | (congr 1; omega), Below.refl _ _⟩
            · have H := Lib.hid hx; clear hx
              go_simp
              first | exact Below.refl _ _ | exact ⟨rfl, Below.refl _ _⟩ | exact ⟨by and_intros <;> rfl, Below.refl _ _⟩ | exact ⟨by first | rfl | (congr 1; omega), Below.refl _ _⟩
            · rw [show us 6 = (.int .i64 (4 * (k : Int))) from hd 6 rfl]; have H := Lib.hid hx; clear hx
              go_simp
              first | exact Below.refl _ _ | exact ⟨rfl, Below.refl _ _⟩ | exact ⟨by and_intros <;> rfl, Below.refl _ _⟩ | exact ⟨by first | rfl | (congr 1; omega), Below.refl _ _⟩
            · rw [show us 5 = (.slice (some ⟨g, 0, none⟩) 8 cap) from hd 5 rfl, show us 7 = (.int .i64 (4 * (k : Int) + 1)) from hd 7 rfl]; have H := Lib.hid hx; clear hx
              go_simp
              first | exact Below.refl _ _ | exact ⟨rfl, Below.refl _ _⟩ | exact ⟨by and_intros <;> rfl, Below.refl _ _⟩ | exact ⟨by first | rfl | (congr 1; omega), Below.refl _ _⟩
            · rw [show us 8 = (.pointer (some ⟨g, 4 * k + 1, none⟩)) from hd 8 rfl]; have c := hx.2.2.2.1
              have H := Lib.hid hx; clear hx
              go_simp
              first | exact Below.refl _ _ | exact ⟨rfl, Below.refl _ _⟩ | exact ⟨by and_intros <;> rfl, Below.refl _ _⟩ | exact ⟨by first | rfl | (congr 1; omega), Below.refl _ _⟩
            · have H := Lib.hid hx; clear hx
              go_simp
              first | exact Below.refl _ _ | exact ⟨rfl, Below.refl _ _⟩ | exact ⟨by and_intros <;> rfl, Below.refl _ _⟩ | exact ⟨by first | rfl | (congr 1; omega), Below.refl _ _⟩
            · have H := Lib.hid hx; clear hx
              go_simp
              first | exact Below.refl _ _ | exact ⟨rfl, Below.refl _ _⟩ | exact ⟨by and_intros <;> rfl, Below.refl _ _⟩ | exact ⟨by first | rfl | (congr 1; omega), Below.refl _ _⟩
            · rw [show us 11 = (.int .i64 (4 * (k : Int))) from hd 11 rfl]; have H := Lib.hid hx; clear hx
              go_simp
              first | exact Below.refl _ _ | exact ⟨rfl, Below.refl _ _⟩ | exact ⟨by and_intros <;> rfl, Below.refl _ _⟩ | exact ⟨by first | rfl | (congr 1; omega), Below.refl _ _⟩
            · rw [show us 10 = (.slice (some ⟨g, 0, none⟩) 8 cap) from hd 10 rfl, show us 12 = (.int .i64 (4 * (k : Int) + 2)) from hd 12 rfl]; have H := Lib.hid hx; clear hx
              go_simp
              first | exact Below.refl _ _ | exact ⟨rfl, Below.refl _ _⟩ | exact ⟨by and_intros <;> rfl, Below.refl _ _⟩ | exact ⟨by first | rfl | (congr 1; omega), Below.refl _ _⟩
            · rw [show us 13 = (.pointer (some ⟨g, 4 * k + 2, none⟩)) from hd 13 rfl]; have c := hx.2.2.2.2.1
              have H := Lib.hid hx; clear hx
              go_simp
              first | exact Below.refl _ _ | exact ⟨rfl, Below.refl _ _⟩ | exact ⟨by and_intros <;> rfl, Below.refl _ _⟩ | exact ⟨by first | rfl | (congr 1; omega), Below.refl _ _⟩
            · have H := Lib.hid hx; clear hx
              go_simp
              first | exact Below.refl _ _ | exact ⟨rfl, Below.refl _ _⟩ | exact ⟨by and_intros <;> rfl, Below.refl _ _⟩ | exact ⟨by first | rfl | (congr 1; omega), Below.refl _ _⟩
            · have H := Lib.hid hx; clear hx
              go_simp
              first | exact Below.refl _ _ | exact ⟨rfl, Below.refl _ _⟩ | exact ⟨by and_intros <;> rfl, Below.refl _ _⟩ | exact ⟨by first | rfl | (congr 1; omega), Below.refl _ _⟩
            · rw [show us 16 = (.int .i64 (4 * (k : Int))) from hd 16 rfl]; have H := Lib.hid hx; clear hx
              go_simp
              first | exact Below.refl _ _ | exact ⟨rfl, Below.refl _ _⟩ | exact ⟨by and_intros <;> rfl, Below.refl _ _⟩ | exact ⟨by first | rfl | (congr 1; omega), Below.refl _ _⟩
            · rw [show us 15 = (.slice (some ⟨g, 0, none⟩) 8 cap) from hd 15 rfl, show us 17 = (.int .i64 (4 * (k : Int) + 3)) from hd 17 rfl]; have H := Lib.hid hx; clear hx
              go_simp
              first | exact Below.refl _ _ | exact ⟨rfl, Below.refl _ _⟩ | exact ⟨by and_intros <;> rfl, Below.refl _ _⟩ | exact ⟨by first | rfl | (congr 1; omega), Below.refl _ _⟩
            · rw [show us 18 = (.pointer (some ⟨g, 4 * k + 3, none⟩)) from hd 18 rfl]; have c := hx.2.2.2.2.2
              have H := Lib.hid hx; clear hx
              go_simp
              first | exact Below.refl _ _ | exact ⟨rfl, Below.refl _ _⟩ | exact ⟨by and_intros <;> rfl, Below.refl _ _⟩ | exact ⟨by first | rfl | (congr 1; omega), Below.refl _ _⟩
            · rw [show us 4 = (.int .u32 x0.toNat) from hd 4 rfl, show us 9 = (.int .u32 x1.toNat) from hd 9 rfl, show us 14 = (.int .u32 x2.toNat) from hd 14 rfl, show us 19 = (.int .u32 x3.toNat) from hd 19 rfl]; have H := Lib.hid hx; clear hx
              go_simp
              first | exact Below.refl _ _ | exact ⟨rfl, Below.refl _ _⟩ | exact ⟨by and_intros <;> rfl, Below.refl _ _⟩ | exact ⟨by first | rfl | (congr 1; omega), Below.refl _ _⟩
            · rw [show us 0 = st8 f from hd 0 rfl, show us 20 = dgv ⟨x0, x1, x2, x3⟩ from hd 20 rfl]; have H := Lib.hid hx; clear hx
              go_simp
              refine (rtake_any f ⟨x0, x1, x2, x3⟩ _).mono ?_
              rintro e w1 ⟨rfl, hb⟩
              exact ⟨_, rfl, rfl, hb⟩
          rintro us W1 ⟨ha1, hb1, _⟩ hF
          have h21 : us 21 = st8 (mix (xor4 f (fnOf ⟨x0, x1, x2, x3⟩) 4)) := hF 21 (by decide)
          simp only [putAll, dstOf, List.getElem?_toArray, List.getElem?_cons_succ, List.getElem?_cons_zero, Option.bind_some, List.drop_succ_cons, List.drop_zero]
          rw [h21]
          go_frame
          have hc8 := fun j h => ha1.cell j h
          have hf := fun j h => ha1.free j h
          have hbs1 := hb1.size
          generalize mix (xor4 f (fnOf ⟨x0, x1, x2, x3⟩) 4) = m at *
          go_wp2_with fail
          refine ⟨⟨k + 1, by omega, by congr 1, ?_, ?_⟩, ?_⟩
          · rw [Hab.out]; exact ha1.fill8 m
          · exact hb1.fill8 (Nat.le_refl _) _ _ _ _ _ _ _ _
          · show 8 - (4 * (k : Int) + 4).toNat < 8 - (4 * (k : Int)).toNat
            omega
        · obtain rfl : k = 2 := by omega
          have hd : decide (4 * ((2 : Nat) : Int) < 8) = false := by decide
          have hz1 := hz4.keep hb (by decide)
          have hf := fun j h => hz1.free j h
          have hsw := hb.size
          have hlt : w.heap.size < w4.heap.size := hz4.lt (by decide)
          have hne : w.heap.size ≠ w4.heap.size := by omega
          have hod : ofD t = dgOf (absorb (st0 1) (ow t) 2) := rfl
          generalize absorb (st0 1) (ow t) 2 = F at ha hod
          have Hod := Lib.hid hod; clear hod
          obtain ⟨c0, c1, c2, c3, _⟩ := arr8 ha
          obtain ⟨b0, b1, b2, b3⟩ := (show Arr wr w.heap.size 4 (fnOf Ot.zeroD) from hz1).dg
          go_wp2_with fail
          have hz2 := hz1.fill4 F
          have d0 := hz2.cell 0 (by decide)
          have d1 := hz2.cell 1 (by decide)
          have d2 := hz2.cell 2 (by decide)
          have d3 := hz2.cell 3 (by decide)
          refine bodyPost_ret (v := dgv (dgOf F)) ?_ rfl ⟨by rw [Hod.out], ?_⟩
          · simp [results, Tryd.results80, go_sem, d0, d1, d2, d3, dgOf]
          · exact (hb4.trans (hb.mono hb4.size)).fill4 (by omega) _ _ _ _
end Go.Proofs.YtpodfmnnabepaaaDoor

namespace Go.Proofs.YtpodfmnnabepaaaDoor
open Ot (Dg)
namespace Qc
/-- The number first, then what goes on with it. -/
noncomputable def seq {α : Type} (n : Nat) (k : Nat → α) : α := Nat.rec (k 0) (fun m _ => k (m + 1)) n
theorem seq_eq {α : Type} (n : Nat) (k : Nat → α) : seq n k = k n := by cases n <;> rfl
def rotN (x p q : Nat) : Nat := (x * p % 4294967296 + x / q) % 4294967296
structure S8 where
  a : Nat
  b : Nat
  c : Nat
  d : Nat
  e : Nat
  f : Nat
  g : Nat
  h : Nat
def roundV (G : Nat) (s : S8) : S8 :=
  { a := (s.d + s.h) % 4294967296
    b := rotN (Nat.xor s.e ((((s.a + G) % 4294967296) + s.e) % 4294967296)) 128 33554432
    c := rotN (Nat.xor s.f ((s.b + s.f) % 4294967296)) 512 8388608
    d := rotN (Nat.xor s.g ((s.c + s.g) % 4294967296)) 8192 524288
    e := rotN (Nat.xor s.h ((s.d + s.h) % 4294967296)) 262144 16384
    f := (((s.a + G) % 4294967296) + s.e) % 4294967296
    g := (s.b + s.f) % 4294967296
    h := (s.c + s.g) % 4294967296 }
def sv (f : Nat → UInt32) : S8 := ⟨(f 0).toNat, (f 1).toNat, (f 2).toNat, (f 3).toNat, (f 4).toNat, (f 5).toNat, (f 6).toNat, (f 7).toNat⟩
theorem addW_nat (a b : UInt32) : (addW a b).toNat = (a.toNat + b.toNat) % 4294967296 := by unfold addW; rw [UInt32.toNat_add]
theorem xorW_nat (a b : UInt32) : (xorW a b).toNat = Nat.xor a.toNat b.toNat := by unfold xorW; rw [UInt32.toNat_xor]; rfl
theorem rot_nat (x : UInt32) (n : Nat) : (rot x n).toNat = rotN x.toNat (2 ^ n) (2 ^ (32 - n)) := by unfold rot rotN; rw [UInt32.toNat_ofNat']
theorem sv_round (f : Nat → UInt32) (k : Nat) : sv (mround f k) = roundV (gold k).toNat (sv f) := by
  simp [sv, mround, mturn, minner, mstep, upd, roundV, addW_nat, xorW_nat, rot_nat, tn]
theorem gold_nat (k : Nat) : (gold k).toNat = 2654435769 * (k + 1) % 4294967296 := by unfold gold; rw [UInt32.toNat_ofNat']
def mixV (s : S8) : S8 := (roundV 4055616968 (roundV 1401181199 (roundV 3041712726 (roundV 387276957 (roundV 2027808484 (roundV 3668340011 (roundV 1013904242 (roundV 2654435769 s))))))))
theorem sv_mix (f : Nat → UInt32) : sv (mix f) = mixV (sv f) := by
  show sv (mround (mround (mround (mround (mround (mround (mround (mround f 0) 1) 2) 3) 4) 5) 6) 7) = _
  simp only [sv_round, gold_nat, mixV]
noncomputable def round {α : Type} (G : Nat) (s : S8) (K : S8 → α) : α :=
  seq ((s.a + G) % 4294967296) fun a0 =>
  seq ((a0 + s.e) % 4294967296) fun b0 =>
  seq (rotN (Nat.xor s.e b0) 128 33554432) fun b4 =>
  seq ((s.b + s.f) % 4294967296) fun b1 =>
  seq (rotN (Nat.xor s.f b1) 512 8388608) fun b5 =>
  seq ((s.c + s.g) % 4294967296) fun b2 =>
  seq (rotN (Nat.xor s.g b2) 8192 524288) fun b6 =>
  seq ((s.d + s.h) % 4294967296) fun b3 =>
  seq (rotN (Nat.xor s.h b3) 262144 16384) fun b7 =>
  K ⟨b3, b4, b5, b6, b7, b0, b1, b2⟩
theorem round_eq {α : Type} (G : Nat) (s : S8) (K : S8 → α) : round G s K = K (roundV G s) := by
  simp only [round, seq_eq, roundV]
noncomputable def mixK {α : Type} (s : S8) (K : S8 → α) : α :=
  round 2654435769 s fun s =>
  round 1013904242 s fun s =>
  round 3668340011 s fun s =>
  round 2027808484 s fun s =>
  round 387276957 s fun s =>
  round 3041712726 s fun s =>
  round 1401181199 s fun s =>
  round 4055616968 s fun s =>
  K s
theorem mixK_eq {α : Type} (s : S8) (K : S8 → α) : mixK s K = K (mixV s) := by
  simp only [mixK, round_eq, mixV]
/-- Eight words taken in from a first one on. -/
noncomputable def takeK {α : Type} (v a0 a1 a2 a3 b0 b1 b2 b3 : Nat) (K : Nat → Nat → Nat → Nat → α) : α :=
  seq (Nat.xor v a0) fun s0 => mixK ⟨s0, a1, a2, a3, 0, 0, 0, 0⟩ fun s =>
  seq (Nat.xor s.a b0) fun s0 => seq (Nat.xor s.b b1) fun s1 => seq (Nat.xor s.c b2) fun s2 => seq (Nat.xor s.d b3) fun s3 =>
  mixK ⟨s0, s1, s2, s3, s.e, s.f, s.g, s.h⟩ fun s => K s.a s.b s.c s.d
theorem takeK_aux {α : Type} (v : UInt32) (g u w : Nat → UInt32) (hu : u = mix (xor4 (st0 v) g 4)) (hw : w = mix (xor4 u (fun j => g (4 + j)) 4)) (K : Nat → Nat → Nat → Nat → α) : takeK v.toNat (g 0).toNat (g 1).toNat (g 2).toNat (g 3).toNat (g 4).toNat (g 5).toNat (g 6).toNat (g 7).toNat K =
    K (w 0).toNat (w 1).toNat (w 2).toNat (w 3).toNat := by
  have h1 : sv u = mixV ⟨Nat.xor v.toNat (g 0).toNat, (g 1).toNat, (g 2).toNat, (g 3).toNat, 0, 0, 0, 0⟩ := by
    rw [hu, sv_mix]
    congr 1
    simp [sv, xor4, st0, xorW_nat]
  have h2 : sv w = mixV ⟨Nat.xor (sv u).a (g 4).toNat, Nat.xor (sv u).b (g 5).toNat, Nat.xor (sv u).c (g 6).toNat, Nat.xor (sv u).d (g 7).toNat, (sv u).e, (sv u).f, (sv u).g, (sv u).h⟩ := by
    rw [hw, sv_mix]
    congr 1
  clear hu hw
  simp only [takeK, seq_eq, mixK_eq]
  rw [← h1, ← h2]
  rfl
theorem takeK_eq {α : Type} (v : UInt32) (g : Nat → UInt32) (K : Nat → Nat → Nat → Nat → α) : takeK v.toNat (g 0).toNat (g 1).toNat (g 2).toNat (g 3).toNat (g 4).toNat (g 5).toNat (g 6).toNat (g 7).toNat K =
    K (absorb (st0 v) g 2 0).toNat (absorb (st0 v) g 2 1).toNat (absorb (st0 v) g 2 2).toNat (absorb (st0 v) g 2 3).toNat := by
  refine takeK_aux v g (absorb (st0 v) g 1) (absorb (st0 v) g 2) ?_ ?_ K
  · rw [absorb, absorb]; simp only [Nat.mul_zero, Nat.zero_add]
  · rw [absorb]
noncomputable def pairK {α : Type} (a0 a1 a2 a3 b0 b1 b2 b3 : Nat) (K : Nat → Nat → Nat → Nat → α) : α := takeK 2 a0 a1 a2 a3 b0 b1 b2 b3 K
theorem pairK_eq {α : Type} (x y : Dg) (K : Nat → Nat → Nat → Nat → α) : pairK x.a.toNat x.b.toNat x.c.toNat x.d.toNat y.a.toNat y.b.toNat y.c.toNat y.d.toNat K = K (pair x y).a.toNat (pair x y).b.toNat (pair x y).c.toNat (pair x y).d.toNat := by
  rw [pair_eq]
  exact takeK_eq 2 (join2 x y) K
noncomputable def walkK {α : Type} (K : Nat → Nat → Nat → Nat → α) : Nat → Nat → Nat → Nat → Nat → α
  | 0, a, b, c, d => K a b c d
  | n + 1, a, b, c, d => pairK a b c d 0 0 0 1 fun a b c d => walkK K n a b c d
theorem walkK_eq {α : Type} (K : Nat → Nat → Nat → Nat → α) : ∀ (n : Nat) (x : Dg), walkK K n x.a.toNat x.b.toNat x.c.toNat x.d.toNat = K (Ot.walk pair x n).a.toNat (Ot.walk pair x n).b.toNat (Ot.walk pair x n).c.toNat (Ot.walk pair x n).d.toNat
  | 0, x => rfl
  | n + 1, x => by
    have h := pairK_eq x Ot.one fun a b c d => walkK K n a b c d
    have e : Ot.walk pair x (n + 1) = Ot.walk pair (pair x Ot.one) n := by
      rw [show n + 1 = 1 + n by omega, ← Ot.walk_add]; rfl
    rw [e, ← walkK_eq K n (pair x Ot.one)]
    exact h
noncomputable def chainK {α : Type} (K : Nat → Nat → Nat → Nat → α) (a b c d i : Nat) : α := pairK a b c d i 0 0 0 fun a b c d => walkK K 15 a b c d
def dl (x : Dg) : List Nat := [x.a.toNat, x.b.toNat, x.c.toNat, x.d.toNat]
theorem chain_eq (x : Dg) (i : Nat) (hi : i < 4294967296) : chainK (fun a b c d => [a, b, c, d]) x.a.toNat x.b.toNat x.c.toNat x.d.toNat i = dl (Ot.walk pair (Ot.beg pair x i) 15) := by
  have hu : (UInt32.ofNat i).toNat = i := by rw [UInt32.toNat_ofNat']; omega
  have h := pairK_eq x ⟨UInt32.ofNat i, 0, 0, 0⟩ fun a b c d => walkK (fun a b c d => [a, b, c, d]) 15 a b c d
  rw [walkK_eq] at h
  simp only [hu] at h
  exact h
noncomputable def foldK {α : Type} (K : Nat → Nat → Nat → Nat → α) : List (List Nat) → Nat → Nat → Nat → Nat → α
  | [x0, x1, x2, x3] :: l, a, b, c, d => pairK a b c d x0 x1 x2 x3 fun a b c d => foldK K l a b c d
  | _, a, b, c, d => K a b c d
theorem foldK_eq {α : Type} (K : Nat → Nat → Nat → Nat → α) (f : Nat → Dg) : ∀ (l : List (List Nat)) (k : Nat), (∀ i, i < l.length → l[i]? = some (dl (f (k + i)))) →
    foldK K l (Ot.endsTo pair f k).a.toNat (Ot.endsTo pair f k).b.toNat (Ot.endsTo pair f k).c.toNat (Ot.endsTo pair f k).d.toNat = K (Ot.endsTo pair f (k + l.length)).a.toNat (Ot.endsTo pair f (k + l.length)).b.toNat (Ot.endsTo pair f (k + l.length)).c.toNat (Ot.endsTo pair f (k + l.length)).d.toNat
  | [], k, _ => by simp [foldK]
  | x :: l, k, h => by
    have h0 := h 0 (by simp)
    simp only [List.getElem?_cons_zero, Option.some.injEq, Nat.add_zero] at h0
    subst h0
    have hp := pairK_eq (Ot.endsTo pair f k) (f k) fun a b c d => foldK K l a b c d
    have ih := foldK_eq K f l (k + 1) fun i hi => by
      have := h (i + 1) (by simpa using hi)
      rw [List.getElem?_cons_succ] at this
      rw [this]; congr 3; omega
    have e : pair (Ot.endsTo pair f k) (f k) = Ot.endsTo pair f (k + 1) := rfl
    rw [e, ih] at hp
    rw [List.length_cons, show k + (l.length + 1) = k + 1 + l.length by omega]
    exact hp
end Qc
end Go.Proofs.YtpodfmnnabepaaaDoor

namespace Go.Proofs.YtpodfmnnabepaaaDoor
open Ot (Dg)
namespace Qc
def sd1 : Dg := ⟨2932823035, 3379581963, 260609817, 3905672543⟩
theorem ch1_0 : chainK (fun a b c d => [a, b, c, d]) 2932823035 3379581963 260609817 3905672543 0 = [2302635124, 526657288, 1096075028, 2854606790] := by kernel_rfl
theorem ch1_1 : chainK (fun a b c d => [a, b, c, d]) 2932823035 3379581963 260609817 3905672543 1 = [1569404797, 526657288, 1096075028, 2854606790] := by kernel_rfl
theorem ch1_2 : chainK (fun a b c d => [a, b, c, d]) 2932823035 3379581963 260609817 3905672543 2 = [648413898, 526657288, 1096075028, 2854606790] := by kernel_rfl
theorem ch1_3 : chainK (fun a b c d => [a, b, c, d]) 2932823035 3379581963 260609817 3905672543 3 = [118594494, 526657288, 1096075028, 2854606790] := by kernel_rfl
theorem ch1_4 : chainK (fun a b c d => [a, b, c, d]) 2932823035 3379581963 260609817 3905672543 4 = [3557763957, 526657288, 1096075028, 2854606790] := by kernel_rfl
theorem ch1_5 : chainK (fun a b c d => [a, b, c, d]) 2932823035 3379581963 260609817 3905672543 5 = [515455833, 526657288, 1096075028, 2854606790] := by kernel_rfl
theorem ch1_6 : chainK (fun a b c d => [a, b, c, d]) 2932823035 3379581963 260609817 3905672543 6 = [1373350337, 526657288, 1096075028, 2854606790] := by kernel_rfl
theorem ch1_7 : chainK (fun a b c d => [a, b, c, d]) 2932823035 3379581963 260609817 3905672543 7 = [3368501890, 526657288, 1096075028, 2854606790] := by kernel_rfl
theorem ch1_8 : chainK (fun a b c d => [a, b, c, d]) 2932823035 3379581963 260609817 3905672543 8 = [3916363558, 526657288, 1096075028, 2854606790] := by kernel_rfl
theorem ch1_9 : chainK (fun a b c d => [a, b, c, d]) 2932823035 3379581963 260609817 3905672543 9 = [3063416589, 526657288, 1096075028, 2854606790] := by kernel_rfl
theorem ch1_10 : chainK (fun a b c d => [a, b, c, d]) 2932823035 3379581963 260609817 3905672543 10 = [2634042482, 526657288, 1096075028, 2854606790] := by kernel_rfl
theorem ch1_11 : chainK (fun a b c d => [a, b, c, d]) 2932823035 3379581963 260609817 3905672543 11 = [3007522354, 526657288, 1096075028, 2854606790] := by kernel_rfl
theorem ch1_12 : chainK (fun a b c d => [a, b, c, d]) 2932823035 3379581963 260609817 3905672543 12 = [1622790939, 526657288, 1096075028, 2854606790] := by kernel_rfl
theorem ch1_13 : chainK (fun a b c d => [a, b, c, d]) 2932823035 3379581963 260609817 3905672543 13 = [2328235777, 526657288, 1096075028, 2854606790] := by kernel_rfl
theorem ch1_14 : chainK (fun a b c d => [a, b, c, d]) 2932823035 3379581963 260609817 3905672543 14 = [3467919087, 526657288, 1096075028, 2854606790] := by kernel_rfl
theorem ch1_15 : chainK (fun a b c d => [a, b, c, d]) 2932823035 3379581963 260609817 3905672543 15 = [1357800007, 526657288, 1096075028, 2854606790] := by kernel_rfl
theorem ch1_16 : chainK (fun a b c d => [a, b, c, d]) 2932823035 3379581963 260609817 3905672543 16 = [1594951287, 526657288, 1096075028, 2854606790] := by kernel_rfl
theorem ch1_17 : chainK (fun a b c d => [a, b, c, d]) 2932823035 3379581963 260609817 3905672543 17 = [740248707, 526657288, 1096075028, 2854606790] := by kernel_rfl
theorem ch1_18 : chainK (fun a b c d => [a, b, c, d]) 2932823035 3379581963 260609817 3905672543 18 = [3972400170, 526657288, 1096075028, 2854606790] := by kernel_rfl
theorem ch1_19 : chainK (fun a b c d => [a, b, c, d]) 2932823035 3379581963 260609817 3905672543 19 = [3904808960, 526657288, 1096075028, 2854606790] := by kernel_rfl
theorem ch1_20 : chainK (fun a b c d => [a, b, c, d]) 2932823035 3379581963 260609817 3905672543 20 = [2961071131, 526657288, 1096075028, 2854606790] := by kernel_rfl
theorem ch1_21 : chainK (fun a b c d => [a, b, c, d]) 2932823035 3379581963 260609817 3905672543 21 = [2632491407, 526657288, 1096075028, 2854606790] := by kernel_rfl
theorem ch1_22 : chainK (fun a b c d => [a, b, c, d]) 2932823035 3379581963 260609817 3905672543 22 = [2984723349, 526657288, 1096075028, 2854606790] := by kernel_rfl
theorem ch1_23 : chainK (fun a b c d => [a, b, c, d]) 2932823035 3379581963 260609817 3905672543 23 = [648919062, 526657288, 1096075028, 2854606790] := by kernel_rfl
theorem ch1_24 : chainK (fun a b c d => [a, b, c, d]) 2932823035 3379581963 260609817 3905672543 24 = [2095804361, 526657288, 1096075028, 2854606790] := by kernel_rfl
theorem ch1_25 : chainK (fun a b c d => [a, b, c, d]) 2932823035 3379581963 260609817 3905672543 25 = [3298157203, 526657288, 1096075028, 2854606790] := by kernel_rfl
theorem ch1_26 : chainK (fun a b c d => [a, b, c, d]) 2932823035 3379581963 260609817 3905672543 26 = [1409030028, 526657288, 1096075028, 2854606790] := by kernel_rfl
theorem ch1_27 : chainK (fun a b c d => [a, b, c, d]) 2932823035 3379581963 260609817 3905672543 27 = [2074788761, 526657288, 1096075028, 2854606790] := by kernel_rfl
theorem ch1_28 : chainK (fun a b c d => [a, b, c, d]) 2932823035 3379581963 260609817 3905672543 28 = [2453521862, 526657288, 1096075028, 2854606790] := by kernel_rfl
theorem ch1_29 : chainK (fun a b c d => [a, b, c, d]) 2932823035 3379581963 260609817 3905672543 29 = [403701952, 526657288, 1096075028, 2854606790] := by kernel_rfl
theorem ch1_30 : chainK (fun a b c d => [a, b, c, d]) 2932823035 3379581963 260609817 3905672543 30 = [4066704859, 526657288, 1096075028, 2854606790] := by kernel_rfl
theorem ch1_31 : chainK (fun a b c d => [a, b, c, d]) 2932823035 3379581963 260609817 3905672543 31 = [3140412206, 526657288, 1096075028, 2854606790] := by kernel_rfl
theorem ch1_32 : chainK (fun a b c d => [a, b, c, d]) 2932823035 3379581963 260609817 3905672543 32 = [3479560420, 526657288, 1096075028, 2854606790] := by kernel_rfl
theorem ch1_33 : chainK (fun a b c d => [a, b, c, d]) 2932823035 3379581963 260609817 3905672543 33 = [2889575030, 526657288, 1096075028, 2854606790] := by kernel_rfl
theorem ch1_34 : chainK (fun a b c d => [a, b, c, d]) 2932823035 3379581963 260609817 3905672543 34 = [2267348285, 526657288, 1096075028, 2854606790] := by kernel_rfl
def cl1 : List (List Nat) := [[2302635124, 526657288, 1096075028, 2854606790], [1569404797, 526657288, 1096075028, 2854606790], [648413898, 526657288, 1096075028, 2854606790], [118594494, 526657288, 1096075028, 2854606790], [3557763957, 526657288, 1096075028, 2854606790], [515455833, 526657288, 1096075028, 2854606790], [1373350337, 526657288, 1096075028, 2854606790], [3368501890, 526657288, 1096075028, 2854606790], [3916363558, 526657288, 1096075028, 2854606790], [3063416589, 526657288, 1096075028, 2854606790], [2634042482, 526657288, 1096075028, 2854606790], [3007522354, 526657288, 1096075028, 2854606790], [1622790939, 526657288, 1096075028, 2854606790], [2328235777, 526657288, 1096075028, 2854606790], [3467919087, 526657288, 1096075028, 2854606790], [1357800007, 526657288, 1096075028, 2854606790], [1594951287, 526657288, 1096075028, 2854606790], [740248707, 526657288, 1096075028, 2854606790], [3972400170, 526657288, 1096075028, 2854606790], [3904808960, 526657288, 1096075028, 2854606790], [2961071131, 526657288, 1096075028, 2854606790], [2632491407, 526657288, 1096075028, 2854606790], [2984723349, 526657288, 1096075028, 2854606790], [648919062, 526657288, 1096075028, 2854606790], [2095804361, 526657288, 1096075028, 2854606790], [3298157203, 526657288, 1096075028, 2854606790], [1409030028, 526657288, 1096075028, 2854606790], [2074788761, 526657288, 1096075028, 2854606790], [2453521862, 526657288, 1096075028, 2854606790], [403701952, 526657288, 1096075028, 2854606790], [4066704859, 526657288, 1096075028, 2854606790], [3140412206, 526657288, 1096075028, 2854606790], [3479560420, 526657288, 1096075028, 2854606790], [2889575030, 526657288, 1096075028, 2854606790], [2267348285, 526657288, 1096075028, 2854606790]]
theorem fold1 : foldK (fun a b c d => [a, b, c, d]) cl1 35 0 0 0 = [720850131, 1907289946, 2271014956, 1393973132] := by kernel_rfl
theorem ch1_all : ∀ i, i < 35 → cl1[i]? = some (dl (Ot.walk pair (Ot.beg pair sd1 i) 15)) := by
  intro i hi
  obtain rfl | rfl | rfl | rfl | rfl | rfl | rfl | rfl | rfl | rfl | rfl | rfl | rfl | rfl | rfl | rfl | rfl | rfl | rfl | rfl | rfl | rfl | rfl | rfl | rfl | rfl | rfl | rfl | rfl | rfl | rfl | rfl | rfl | rfl | rfl : i = 0 ∨ i = 1 ∨ i = 2 ∨ i = 3 ∨ i = 4 ∨ i = 5 ∨ i = 6 ∨ i = 7 ∨ i = 8 ∨ i = 9 ∨ i = 10 ∨ i = 11 ∨ i = 12 ∨ i = 13 ∨ i = 14 ∨ i = 15 ∨ i = 16 ∨ i = 17 ∨ i = 18 ∨ i = 19 ∨ i = 20 ∨ i = 21 ∨ i = 22 ∨ i = 23 ∨ i = 24 ∨ i = 25 ∨ i = 26 ∨ i = 27 ∨ i = 28 ∨ i = 29 ∨ i = 30 ∨ i = 31 ∨ i = 32 ∨ i = 33 ∨ i = 34 := by omega
  · rw [← chain_eq sd1 0 (by decide)]; exact congrArg some ch1_0.symm
  · rw [← chain_eq sd1 1 (by decide)]; exact congrArg some ch1_1.symm
  · rw [← chain_eq sd1 2 (by decide)]; exact congrArg some ch1_2.symm
  · rw [← chain_eq sd1 3 (by decide)]; exact congrArg some ch1_3.symm
  · rw [← chain_eq sd1 4 (by decide)]; exact congrArg some ch1_4.symm
  · rw [← chain_eq sd1 5 (by decide)]; exact congrArg some ch1_5.symm
  · rw [← chain_eq sd1 6 (by decide)]; exact congrArg some ch1_6.symm
  · rw [← chain_eq sd1 7 (by decide)]; exact congrArg some ch1_7.symm
  · rw [← chain_eq sd1 8 (by decide)]; exact congrArg some ch1_8.symm
  · rw [← chain_eq sd1 9 (by decide)]; exact congrArg some ch1_9.symm
  · rw [← chain_eq sd1 10 (by decide)]; exact congrArg some ch1_10.symm
  · rw [← chain_eq sd1 11 (by decide)]; exact congrArg some ch1_11.symm
  · rw [← chain_eq sd1 12 (by decide)]; exact congrArg some ch1_12.symm
  · rw [← chain_eq sd1 13 (by decide)]; exact congrArg some ch1_13.symm
  · rw [← chain_eq sd1 14 (by decide)]; exact congrArg some ch1_14.symm
  · rw [← chain_eq sd1 15 (by decide)]; exact congrArg some ch1_15.symm
  · rw [← chain_eq sd1 16 (by decide)]; exact congrArg some ch1_16.symm
  · rw [← chain_eq sd1 17 (by decide)]; exact congrArg some ch1_17.symm
  · rw [← chain_eq sd1 18 (by decide)]; exact congrArg some ch1_18.symm
  · rw [← chain_eq sd1 19 (by decide)]; exact congrArg some ch1_19.symm
  · rw [← chain_eq sd1 20 (by decide)]; exact congrArg some ch1_20.symm
  · rw [← chain_eq sd1 21 (by decide)]; exact congrArg some ch1_21.symm
  · rw [← chain_eq sd1 22 (by decide)]; exact congrArg some ch1_22.symm
  · rw [← chain_eq sd1 23 (by decide)]; exact congrArg some ch1_23.symm
  · rw [← chain_eq sd1 24 (by decide)]; exact congrArg some ch1_24.symm
  · rw [← chain_eq sd1 25 (by decide)]; exact congrArg some ch1_25.symm
  · rw [← chain_eq sd1 26 (by decide)]; exact congrArg some ch1_26.symm
  · rw [← chain_eq sd1 27 (by decide)]; exact congrArg some ch1_27.symm
  · rw [← chain_eq sd1 28 (by decide)]; exact congrArg some ch1_28.symm
  · rw [← chain_eq sd1 29 (by decide)]; exact congrArg some ch1_29.symm
  · rw [← chain_eq sd1 30 (by decide)]; exact congrArg some ch1_30.symm
  · rw [← chain_eq sd1 31 (by decide)]; exact congrArg some ch1_31.symm
  · rw [← chain_eq sd1 32 (by decide)]; exact congrArg some ch1_32.symm
  · rw [← chain_eq sd1 33 (by decide)]; exact congrArg some ch1_33.symm
  · rw [← chain_eq sd1 34 (by decide)]; exact congrArg some ch1_34.symm
theorem pub1 : dl (Ot.pub pair sd1) = [720850131, 1907289946, 2271014956, 1393973132] := by
  have h := foldK_eq (fun a b c d => [a, b, c, d]) (fun i => Ot.walk pair (Ot.beg pair sd1 i) 15) cl1 0 fun i hi => by rw [Nat.zero_add]; exact ch1_all i hi
  exact h.symm.trans fold1
end Qc
end Go.Proofs.YtpodfmnnabepaaaDoor

namespace Go.Proofs.YtpodfmnnabepaaaDoor
open Ot (Dg)
namespace Qc
def sd2 : Dg := ⟨2365490253, 3379581963, 260609817, 3905672543⟩
theorem ch2_0 : chainK (fun a b c d => [a, b, c, d]) 2365490253 3379581963 260609817 3905672543 0 = [1530397012, 526657288, 1096075028, 2854606790] := by kernel_rfl
theorem ch2_1 : chainK (fun a b c d => [a, b, c, d]) 2365490253 3379581963 260609817 3905672543 1 = [1000327264, 526657288, 1096075028, 2854606790] := by kernel_rfl
theorem ch2_2 : chainK (fun a b c d => [a, b, c, d]) 2365490253 3379581963 260609817 3905672543 2 = [2903807535, 526657288, 1096075028, 2854606790] := by kernel_rfl
theorem ch2_3 : chainK (fun a b c d => [a, b, c, d]) 2365490253 3379581963 260609817 3905672543 3 = [829442175, 526657288, 1096075028, 2854606790] := by kernel_rfl
theorem ch2_4 : chainK (fun a b c d => [a, b, c, d]) 2365490253 3379581963 260609817 3905672543 4 = [2673180102, 526657288, 1096075028, 2854606790] := by kernel_rfl
theorem ch2_5 : chainK (fun a b c d => [a, b, c, d]) 2365490253 3379581963 260609817 3905672543 5 = [2637298295, 526657288, 1096075028, 2854606790] := by kernel_rfl
theorem ch2_6 : chainK (fun a b c d => [a, b, c, d]) 2365490253 3379581963 260609817 3905672543 6 = [2102156118, 526657288, 1096075028, 2854606790] := by kernel_rfl
theorem ch2_7 : chainK (fun a b c d => [a, b, c, d]) 2365490253 3379581963 260609817 3905672543 7 = [2731182737, 526657288, 1096075028, 2854606790] := by kernel_rfl
theorem ch2_8 : chainK (fun a b c d => [a, b, c, d]) 2365490253 3379581963 260609817 3905672543 8 = [2129247716, 526657288, 1096075028, 2854606790] := by kernel_rfl
theorem ch2_9 : chainK (fun a b c d => [a, b, c, d]) 2365490253 3379581963 260609817 3905672543 9 = [2520880893, 526657288, 1096075028, 2854606790] := by kernel_rfl
theorem ch2_10 : chainK (fun a b c d => [a, b, c, d]) 2365490253 3379581963 260609817 3905672543 10 = [3057666978, 526657288, 1096075028, 2854606790] := by kernel_rfl
theorem ch2_11 : chainK (fun a b c d => [a, b, c, d]) 2365490253 3379581963 260609817 3905672543 11 = [2405724455, 526657288, 1096075028, 2854606790] := by kernel_rfl
theorem ch2_12 : chainK (fun a b c d => [a, b, c, d]) 2365490253 3379581963 260609817 3905672543 12 = [1431221779, 526657288, 1096075028, 2854606790] := by kernel_rfl
theorem ch2_13 : chainK (fun a b c d => [a, b, c, d]) 2365490253 3379581963 260609817 3905672543 13 = [3085216183, 526657288, 1096075028, 2854606790] := by kernel_rfl
theorem ch2_14 : chainK (fun a b c d => [a, b, c, d]) 2365490253 3379581963 260609817 3905672543 14 = [340602156, 526657288, 1096075028, 2854606790] := by kernel_rfl
theorem ch2_15 : chainK (fun a b c d => [a, b, c, d]) 2365490253 3379581963 260609817 3905672543 15 = [1030380654, 526657288, 1096075028, 2854606790] := by kernel_rfl
theorem ch2_16 : chainK (fun a b c d => [a, b, c, d]) 2365490253 3379581963 260609817 3905672543 16 = [1370190937, 526657288, 1096075028, 2854606790] := by kernel_rfl
theorem ch2_17 : chainK (fun a b c d => [a, b, c, d]) 2365490253 3379581963 260609817 3905672543 17 = [1941579708, 526657288, 1096075028, 2854606790] := by kernel_rfl
theorem ch2_18 : chainK (fun a b c d => [a, b, c, d]) 2365490253 3379581963 260609817 3905672543 18 = [757477724, 526657288, 1096075028, 2854606790] := by kernel_rfl
theorem ch2_19 : chainK (fun a b c d => [a, b, c, d]) 2365490253 3379581963 260609817 3905672543 19 = [1256195394, 526657288, 1096075028, 2854606790] := by kernel_rfl
theorem ch2_20 : chainK (fun a b c d => [a, b, c, d]) 2365490253 3379581963 260609817 3905672543 20 = [1626254194, 526657288, 1096075028, 2854606790] := by kernel_rfl
theorem ch2_21 : chainK (fun a b c d => [a, b, c, d]) 2365490253 3379581963 260609817 3905672543 21 = [240194669, 526657288, 1096075028, 2854606790] := by kernel_rfl
theorem ch2_22 : chainK (fun a b c d => [a, b, c, d]) 2365490253 3379581963 260609817 3905672543 22 = [26793347, 526657288, 1096075028, 2854606790] := by kernel_rfl
theorem ch2_23 : chainK (fun a b c d => [a, b, c, d]) 2365490253 3379581963 260609817 3905672543 23 = [3577460058, 526657288, 1096075028, 2854606790] := by kernel_rfl
theorem ch2_24 : chainK (fun a b c d => [a, b, c, d]) 2365490253 3379581963 260609817 3905672543 24 = [2401602879, 526657288, 1096075028, 2854606790] := by kernel_rfl
theorem ch2_25 : chainK (fun a b c d => [a, b, c, d]) 2365490253 3379581963 260609817 3905672543 25 = [1708813556, 526657288, 1096075028, 2854606790] := by kernel_rfl
theorem ch2_26 : chainK (fun a b c d => [a, b, c, d]) 2365490253 3379581963 260609817 3905672543 26 = [3121530053, 526657288, 1096075028, 2854606790] := by kernel_rfl
theorem ch2_27 : chainK (fun a b c d => [a, b, c, d]) 2365490253 3379581963 260609817 3905672543 27 = [995391929, 526657288, 1096075028, 2854606790] := by kernel_rfl
theorem ch2_28 : chainK (fun a b c d => [a, b, c, d]) 2365490253 3379581963 260609817 3905672543 28 = [2455279822, 526657288, 1096075028, 2854606790] := by kernel_rfl
theorem ch2_29 : chainK (fun a b c d => [a, b, c, d]) 2365490253 3379581963 260609817 3905672543 29 = [3386348478, 526657288, 1096075028, 2854606790] := by kernel_rfl
theorem ch2_30 : chainK (fun a b c d => [a, b, c, d]) 2365490253 3379581963 260609817 3905672543 30 = [2180810313, 526657288, 1096075028, 2854606790] := by kernel_rfl
theorem ch2_31 : chainK (fun a b c d => [a, b, c, d]) 2365490253 3379581963 260609817 3905672543 31 = [155061633, 526657288, 1096075028, 2854606790] := by kernel_rfl
theorem ch2_32 : chainK (fun a b c d => [a, b, c, d]) 2365490253 3379581963 260609817 3905672543 32 = [31604135, 526657288, 1096075028, 2854606790] := by kernel_rfl
theorem ch2_33 : chainK (fun a b c d => [a, b, c, d]) 2365490253 3379581963 260609817 3905672543 33 = [2656601090, 526657288, 1096075028, 2854606790] := by kernel_rfl
theorem ch2_34 : chainK (fun a b c d => [a, b, c, d]) 2365490253 3379581963 260609817 3905672543 34 = [3995657607, 526657288, 1096075028, 2854606790] := by kernel_rfl
def cl2 : List (List Nat) := [[1530397012, 526657288, 1096075028, 2854606790], [1000327264, 526657288, 1096075028, 2854606790], [2903807535, 526657288, 1096075028, 2854606790], [829442175, 526657288, 1096075028, 2854606790], [2673180102, 526657288, 1096075028, 2854606790], [2637298295, 526657288, 1096075028, 2854606790], [2102156118, 526657288, 1096075028, 2854606790], [2731182737, 526657288, 1096075028, 2854606790], [2129247716, 526657288, 1096075028, 2854606790], [2520880893, 526657288, 1096075028, 2854606790], [3057666978, 526657288, 1096075028, 2854606790], [2405724455, 526657288, 1096075028, 2854606790], [1431221779, 526657288, 1096075028, 2854606790], [3085216183, 526657288, 1096075028, 2854606790], [340602156, 526657288, 1096075028, 2854606790], [1030380654, 526657288, 1096075028, 2854606790], [1370190937, 526657288, 1096075028, 2854606790], [1941579708, 526657288, 1096075028, 2854606790], [757477724, 526657288, 1096075028, 2854606790], [1256195394, 526657288, 1096075028, 2854606790], [1626254194, 526657288, 1096075028, 2854606790], [240194669, 526657288, 1096075028, 2854606790], [26793347, 526657288, 1096075028, 2854606790], [3577460058, 526657288, 1096075028, 2854606790], [2401602879, 526657288, 1096075028, 2854606790], [1708813556, 526657288, 1096075028, 2854606790], [3121530053, 526657288, 1096075028, 2854606790], [995391929, 526657288, 1096075028, 2854606790], [2455279822, 526657288, 1096075028, 2854606790], [3386348478, 526657288, 1096075028, 2854606790], [2180810313, 526657288, 1096075028, 2854606790], [155061633, 526657288, 1096075028, 2854606790], [31604135, 526657288, 1096075028, 2854606790], [2656601090, 526657288, 1096075028, 2854606790], [3995657607, 526657288, 1096075028, 2854606790]]
theorem fold2 : foldK (fun a b c d => [a, b, c, d]) cl2 35 0 0 0 = [3939309387, 1907289946, 2271014956, 1393973132] := by kernel_rfl
theorem ch2_all : ∀ i, i < 35 → cl2[i]? = some (dl (Ot.walk pair (Ot.beg pair sd2 i) 15)) := by
  intro i hi
  obtain rfl | rfl | rfl | rfl | rfl | rfl | rfl | rfl | rfl | rfl | rfl | rfl | rfl | rfl | rfl | rfl | rfl | rfl | rfl | rfl | rfl | rfl | rfl | rfl | rfl | rfl | rfl | rfl | rfl | rfl | rfl | rfl | rfl | rfl | rfl : i = 0 ∨ i = 1 ∨ i = 2 ∨ i = 3 ∨ i = 4 ∨ i = 5 ∨ i = 6 ∨ i = 7 ∨ i = 8 ∨ i = 9 ∨ i = 10 ∨ i = 11 ∨ i = 12 ∨ i = 13 ∨ i = 14 ∨ i = 15 ∨ i = 16 ∨ i = 17 ∨ i = 18 ∨ i = 19 ∨ i = 20 ∨ i = 21 ∨ i = 22 ∨ i = 23 ∨ i = 24 ∨ i = 25 ∨ i = 26 ∨ i = 27 ∨ i = 28 ∨ i = 29 ∨ i = 30 ∨ i = 31 ∨ i = 32 ∨ i = 33 ∨ i = 34 := by omega
  · rw [← chain_eq sd2 0 (by decide)]; exact congrArg some ch2_0.symm
  · rw [← chain_eq sd2 1 (by decide)]; exact congrArg some ch2_1.symm
  · rw [← chain_eq sd2 2 (by decide)]; exact congrArg some ch2_2.symm
  · rw [← chain_eq sd2 3 (by decide)]; exact congrArg some ch2_3.symm
  · rw [← chain_eq sd2 4 (by decide)]; exact congrArg some ch2_4.symm
  · rw [← chain_eq sd2 5 (by decide)]; exact congrArg some ch2_5.symm
  · rw [← chain_eq sd2 6 (by decide)]; exact congrArg some ch2_6.symm
  · rw [← chain_eq sd2 7 (by decide)]; exact congrArg some ch2_7.symm
  · rw [← chain_eq sd2 8 (by decide)]; exact congrArg some ch2_8.symm
  · rw [← chain_eq sd2 9 (by decide)]; exact congrArg some ch2_9.symm
  · rw [← chain_eq sd2 10 (by decide)]; exact congrArg some ch2_10.symm
  · rw [← chain_eq sd2 11 (by decide)]; exact congrArg some ch2_11.symm
  · rw [← chain_eq sd2 12 (by decide)]; exact congrArg some ch2_12.symm
  · rw [← chain_eq sd2 13 (by decide)]; exact congrArg some ch2_13.symm
  · rw [← chain_eq sd2 14 (by decide)]; exact congrArg some ch2_14.symm
  · rw [← chain_eq sd2 15 (by decide)]; exact congrArg some ch2_15.symm
  · rw [← chain_eq sd2 16 (by decide)]; exact congrArg some ch2_16.symm
  · rw [← chain_eq sd2 17 (by decide)]; exact congrArg some ch2_17.symm
  · rw [← chain_eq sd2 18 (by decide)]; exact congrArg some ch2_18.symm
  · rw [← chain_eq sd2 19 (by decide)]; exact congrArg some ch2_19.symm
  · rw [← chain_eq sd2 20 (by decide)]; exact congrArg some ch2_20.symm
  · rw [← chain_eq sd2 21 (by decide)]; exact congrArg some ch2_21.symm
  · rw [← chain_eq sd2 22 (by decide)]; exact congrArg some ch2_22.symm
  · rw [← chain_eq sd2 23 (by decide)]; exact congrArg some ch2_23.symm
  · rw [← chain_eq sd2 24 (by decide)]; exact congrArg some ch2_24.symm
  · rw [← chain_eq sd2 25 (by decide)]; exact congrArg some ch2_25.symm
  · rw [← chain_eq sd2 26 (by decide)]; exact congrArg some ch2_26.symm
  · rw [← chain_eq sd2 27 (by decide)]; exact congrArg some ch2_27.symm
  · rw [← chain_eq sd2 28 (by decide)]; exact congrArg some ch2_28.symm
  · rw [← chain_eq sd2 29 (by decide)]; exact congrArg some ch2_29.symm
  · rw [← chain_eq sd2 30 (by decide)]; exact congrArg some ch2_30.symm
  · rw [← chain_eq sd2 31 (by decide)]; exact congrArg some ch2_31.symm
  · rw [← chain_eq sd2 32 (by decide)]; exact congrArg some ch2_32.symm
  · rw [← chain_eq sd2 33 (by decide)]; exact congrArg some ch2_33.symm
  · rw [← chain_eq sd2 34 (by decide)]; exact congrArg some ch2_34.symm
theorem pub2 : dl (Ot.pub pair sd2) = [3939309387, 1907289946, 2271014956, 1393973132] := by
  have h := foldK_eq (fun a b c d => [a, b, c, d]) (fun i => Ot.walk pair (Ot.beg pair sd2 i) 15) cl2 0 fun i hi => by rw [Nat.zero_add]; exact ch2_all i hi
  exact h.symm.trans fold2
end Qc
end Go.Proofs.YtpodfmnnabepaaaDoor

namespace Go.Proofs.YtpodfmnnabepaaaDoor
open Go.RowKit
open Ot (Dg)
/-- The text that Seed takes, of a seed and the place 0. -/
def sdS (x : Dg) : ByteArray := ⟨#[107]⟩ ++ ⟨(lbs [x.a, x.b, x.c, x.d, 0]).toArray⟩
def sdT (x : Dg) : ByteArray := sdS x ++ ⟨#[128]⟩ ++ ⟨#[0]⟩ ++ ⟨#[0]⟩
noncomputable def sdD (x : Dg) : Dg := ofD (sdT x)
theorem sdS_size (x : Dg) : (sdS x).size = 21 := rfl
theorem sdT_list (x : Dg) : (sdT x).data.toList = 107 :: lbs [x.a, x.b, x.c, x.d, 0] ++ [128, 0, 0] := by
  simp [sdT, sdS, ByteArray.data_append]
/-- The eight words of a text of which the bytes are known. -/
def byl (l : List UInt8) (i : Nat) : Nat := (l.getD i 0).toNat
def accl (l : List UInt8) (k : Nat) : Nat := ((byl l (4 * k + 3) * 256 + byl l (4 * k + 2)) * 256 + byl l (4 * k + 1)) * 256 + byl l (4 * k)
theorem acc4_eq (s : ByteArray) (k : Nat) : acc s k 4 = accl s.data.toList k := by simp [acc, accl, byl, byt]
theorem dl_ofD (t : ByteArray) (n0 n1 n2 n3 n4 n5 : Nat) (h0 : accl t.data.toList 0 = n0) (h1 : accl t.data.toList 1 = n1) (h2 : accl t.data.toList 2 = n2) (h3 : accl t.data.toList 3 = n3) (h4 : accl t.data.toList 4 = n4) (h5 : accl t.data.toList 5 = n5) :
    Qc.dl (ofD t) = Qc.takeK 1 n0 n1 n2 n3 n4 n5 21 0 (fun a b c d => [a, b, c, d]) := by
  have e : ∀ k, k < 6 → (ow t k).toNat = accl t.data.toList k := fun k hk => by
    have := acc4_lt t k
    rw [ow, if_pos hk, UInt32.toNat_ofNat', acc4_eq] at *
    omega
  have h := Qc.takeK_eq 1 (ow t) (fun a b c d => [a, b, c, d])
  rw [e 0 (by decide), e 1 (by decide), e 2 (by decide), e 3 (by decide), e 4 (by decide), e 5 (by decide), h0, h1, h2, h3, h4, h5] at h
  exact h.symm
theorem dl_inj {x y : Dg} (h : Qc.dl x = Qc.dl y) : x = y := by
  simp only [Qc.dl, List.cons.injEq, and_true] at h
  obtain ⟨h1, h2, h3, h4⟩ := h
  cases x; cases y
  simp only [UInt32.toNat_inj] at *
  subst h1 h2 h3 h4; rfl
theorem sdD1 : sdD ⟨1, 0, 0, 0⟩ = Qc.sd1 := by
  refine dl_inj ?_
  rw [sdD, dl_ofD (sdT ⟨1, 0, 0, 0⟩) 363 0 0 0 0 32768 (by rw [sdT_list]; decide) (by rw [sdT_list]; decide) (by rw [sdT_list]; decide) (by rw [sdT_list]; decide) (by rw [sdT_list]; decide) (by rw [sdT_list]; decide)]
  kernel_rfl
theorem sdD2 : sdD ⟨2, 0, 0, 0⟩ = Qc.sd2 := by
  refine dl_inj ?_
  rw [sdD, dl_ofD (sdT ⟨2, 0, 0, 0⟩) 619 0 0 0 0 32768 (by rw [sdT_list]; decide) (by rw [sdT_list]; decide) (by rw [sdT_list]; decide) (by rw [sdT_list]; decide) (by rw [sdT_list]; decide) (by rw [sdT_list]; decide)]
  kernel_rfl
/-- The two builders' keys are unlike. -/
theorem keys_unlike : Ot.pub pair (sdD ⟨1, 0, 0, 0⟩) ≠ Ot.pub pair (sdD ⟨2, 0, 0, 0⟩) := by
  intro h
  have h := congrArg Qc.dl h
  rw [sdD1, sdD2, Qc.pub1, Qc.pub2] at h
  exact absurd h (by decide)
set_option maxHeartbeats 4000000 in
theorem rseed_any (x : Dg) (w : World) :
    Calls Tryd.prog 73 #[dgv x, .int .i64 0] w fun e w' => e = .returned (dgv (sdD x)) ∧ Below w.heap.size w w' := by
  go_enter Tryd.func73, Tryd.ntmps73
  go_wp2_with fail
  refine (rbytes_any (w.heap.size + 1 + 1) [x.a, x.b, x.c, x.d, 0] rfl _ fun j hj => ?_).mono ?_
  · have := World.cell?_alloc_new ((w.alloc (.cells #[.int .u32 x.a.toNat, .int .u32 x.b.toNat, .int .u32 x.c.toNat, .int .u32 x.d.toNat] 24)).alloc (.cells #[.int .u32 0, .int .u32 0, .int .u32 0, .int .u32 0] 24)) #[.int .u32 x.a.toNat, .int .u32 x.b.toNat, .int .u32 x.c.toNat, .int .u32 x.d.toNat, .int .u32 0] 22 j
    simp only [World.size_alloc] at this
    rw [this]
    obtain rfl | rfl | rfl | rfl | rfl : j = 0 ∨ j = 1 ∨ j = 2 ∨ j = 3 ∨ j = 4 := by omega
    all_goals rfl
  rintro e w1 ⟨rfl, hb1⟩
  have hz := ((Arr.new' (w.alloc (.cells #[.int .u32 x.a.toNat, .int .u32 x.b.toNat, .int .u32 x.c.toNat, .int .u32 x.d.toNat] 24)) (w.heap.size + 1) 4 (fnOf Ot.zeroD) 24 #[.int .u32 0, .int .u32 0, .int .u32 0, .int .u32 0] (by simp) rfl).alloc (by simp) (.cells #[.int .u32 x.a.toNat, .int .u32 x.b.toNat, .int .u32 x.c.toNat, .int .u32 x.d.toNat, .int .u32 0] 22)).below hb1 (by simp)
  have hb2 : Below w.heap.size w w1 := ((((Below.refl _ _).alloc (Nat.le_refl _) _).alloc (by simp) _).alloc (by simp; omega) _).trans (hb1.mono (by simp; omega))
  have hl : w.heap.size + 1 < w1.heap.size := hz.lt (by decide)
  clear hb1
  obtain ⟨S, hS⟩ : ∃ S : ByteArray, S = ⟨(lbs [x.a, x.b, x.c, x.d, 0]).toArray⟩ := ⟨_, rfl⟩
  have hsi : (S.size : Int) = 20 := by rw [hS]; rfl
  rw [← hS]
  have HS := Lib.hid hS; clear hS
  go_wp2_with fail
  rw [HS.out]
  have hr : Calls Tryd.prog 80 #[.string (sdS x)] w1 fun e w' => e = .returned (dgv (sdD x)) ∧ Below w1.heap.size w1 w' := rof_any (sdS x) (sdT x) (sdS_size x) rfl w1
  unfold sdS at hr
  refine hr.mono ?_
  rintro e w2 ⟨rfl, hb3⟩
  have hz2 := hz.below hb3 hl
  have hb4 := hb2.trans (hb3.mono hb2.size)
  generalize hy : sdD x = y
  have Hy := Lib.hid hy; clear hy
  obtain ⟨d0, d1, d2, d3⟩ := hz2.dg
  have hf := fun j h => hz2.free j h
  clear hb2 hb3 hr
  go_wp2_with fail
  exact bodyPost_ret (v := dgv y) (by simp [results, Tryd.results73, go_sem, d0, d1, d2, d3]) rfl ⟨by rw [Hy.out], hb4.fill4 (by omega) _ _ _ _⟩
end Go.Proofs.YtpodfmnnabepaaaDoor

namespace Go.Proofs.YtpodfmnnabepaaaDoor
open Go.RowKit
open Ot (Dg)
theorem rahead_short (m o : Dg) (v u : Value) (s t : List Dg) (hl : ¬ (s.length = 35 ∧ t.length = 35)) (w : World) (hv : SigAt w v s) (hu : SigAt w u t) :
    Calls Tryd.prog 32 #[dgv m, v, dgv o, u] w fun e w' => e = .returned (.tuple #[.int .i64 0, dgv Ot.zeroD, .bool false]) ∧ Below w.heap.size w w' := by
  obtain ⟨A, c, rfl, hl1, _⟩ := hv
  obtain ⟨A', c', rfl, hl2, _⟩ := hu
  by_cases h1 : s.length = 35
  · have h2 : t.length ≠ 35 := fun h => hl ⟨h1, h⟩
    have q1 : ((s.length : Int) != 35) = false := by rw [bne_eq_false_iff_eq]; omega
    have q2 : ((t.length : Int) != 35) = true := by rw [bne_iff_ne]; omega
    clear hl h1 h2
    generalize s.length = n at *
    generalize t.length = n' at *
    go_enter Tryd.func32, Tryd.ntmps32
    go_wp2
    exact bodyPost_ret (v := .tuple #[.int .i64 0, dgv Ot.zeroD, .bool false]) (by simp [results, Tryd.results32, go_sem]; and_intros <;> rfl) rfl ⟨rfl, (((Below.refl _ _).alloc (Nat.le_refl _) _).alloc (by simp) _).alloc (by simp; omega) _⟩
  · have q1 : ((s.length : Int) != 35) = true := by rw [bne_iff_ne]; omega
    clear hl h1
    generalize s.length = n at *
    generalize t.length = n' at *
    go_enter Tryd.func32, Tryd.ntmps32
    go_wp2
    exact bodyPost_ret (v := .tuple #[.int .i64 0, dgv Ot.zeroD, .bool false]) (by simp [results, Tryd.results32, go_sem]; and_intros <;> rfl) rfl ⟨rfl, (((Below.refl _ _).alloc (Nat.le_refl _) _).alloc (by simp) _).alloc (by simp; omega) _⟩
set_option maxRecDepth 100000 in
set_option maxHeartbeats 1000000 in
theorem rahead_full (m o : Dg) (v u : Value) (s t : List Dg) (hl : s.length = 35) (hl' : t.length = 35) (w : World) (ht : Tn w) (hv : SigAt w v s) (hu : SigAt w u t) :
    Calls Tryd.prog 32 #[dgv m, v, dgv o, u] w fun e w' => (∃ i d b, e = .returned (.tuple #[.int .i64 (i : Nat), dgv d, .bool b]) ∧ (i, d, b) = aheadR m s o t) ∧ Below w.heap.size w w' := by
  obtain ⟨A, c, rfl, _, hcs⟩ := hv
  obtain ⟨b, off, rfl, hbl, hcs⟩ := hcs (by omega)
  obtain ⟨A', c', rfl, _, hct⟩ := hu
  obtain ⟨b', off', rfl, hbl', hct⟩ := hct (by omega)
  have hR : aheadR m s o t = (match Ot.ahead pair m s o t with | some i => (i, t.getD i Ot.zeroD, true) | none => (0, Ot.zeroD, false)) := by unfold aheadR; rw [if_pos ⟨hl, hl'⟩]; rfl
  generalize aheadR m s o t = R at *
  have HR := Lib.hid hR; clear hR
  rw [hl, hl'] at *
  clear hl hl'
  have Hcs := Lib.hid hcs; clear hcs
  have Hct := Lib.hid hct; clear hct
  go_enter Tryd.func32, Tryd.ntmps32
  go_wp2_with fail
  generalize hW : (((w.alloc (.cells #[.int .u32 m.a.toNat, .int .u32 m.b.toNat, .int .u32 m.c.toNat, .int .u32 m.d.toNat] 24)).alloc (.cells #[.int .u32 o.a.toNat, .int .u32 o.b.toNat, .int .u32 o.c.toNat, .int .u32 o.d.toNat] 24)).alloc (.cells #[.int .u32 0, .int .u32 0, .int .u32 0, .int .u32 0] 24)) = W
  have hb0 : Below w.heap.size w W := by subst hW; exact (((Below.refl _ _).alloc (Nat.le_refl _) _).alloc (by simp) _).alloc (by simp; omega) _
  have hm0 : Arr W w.heap.size 4 (fnOf m) := by subst hW; exact ((Arr.new w 4 (fnOf m) 24 _ rfl).alloc (by simp) _).alloc (by simp; omega) _
  have ho0 : Arr W (w.heap.size + 1) 4 (fnOf o) := by subst hW; exact (Arr.new' _ _ 4 (fnOf o) 24 _ (by simp) rfl).alloc (by simp) _
  have hz0 : Arr W (w.heap.size + 1 + 1) 4 (fnOf Ot.zeroD) := by subst hW; exact Arr.new' _ _ 4 (fnOf Ot.zeroD) 24 _ (by simp) rfl
  have hs0 : w.heap.size + 3 ≤ W.heap.size := by subst hW; simp
  clear hW hcs hct
  obtain ⟨p0, p1, p2, p3⟩ := hm0.dg
  obtain ⟨r0, r1, r2, r3⟩ := ho0.dg
  go_upto_region 3 with fail
  go_cut [11, 12] (fun x y wx => ∃ g cap g' cap', x = .slice (some ⟨g, 0, none⟩) 35 cap ∧ y = .slice (some ⟨g', 0, none⟩) 35 cap' ∧ (∀ j, j < 35 → wx.cell? ⟨g, j, none⟩ = some (.int .i64 ((Ot.steps m).getD j 0 : Nat))) ∧ (∀ j, j < 35 → wx.cell? ⟨g', j, none⟩ = some (.int .i64 ((Ot.steps o).getD j 0 : Nat))) ∧ Below W.heap.size W wx ∧ g < wx.heap.size ∧ g' < wx.heap.size)
  case first =>
    go_region_held3 (fun w' => (w'.cell? ⟨w.heap.size, 0, none⟩ = some (.int .u32 m.a.toNat) ∧ w'.cell? ⟨w.heap.size, 1, none⟩ = some (.int .u32 m.b.toNat) ∧ w'.cell? ⟨w.heap.size, 2, none⟩ = some (.int .u32 m.c.toNat) ∧ w'.cell? ⟨w.heap.size, 3, none⟩ = some (.int .u32 m.d.toNat)) ∧ w'.cell? ⟨w.heap.size + 1, 0, none⟩ = some (.int .u32 o.a.toNat) ∧ w'.cell? ⟨w.heap.size + 1, 1, none⟩ = some (.int .u32 o.b.toNat) ∧ w'.cell? ⟨w.heap.size + 1, 2, none⟩ = some (.int .u32 o.c.toNat) ∧ w'.cell? ⟨w.heap.size + 1, 3, none⟩ = some (.int .u32 o.d.toNat))
      (first | exact ⟨⟨p0, p1, p2, p3⟩, r0, r1, r2, r3⟩ | exact ⟨(hm1 : Arr _ _ _ _).dg, (ho1 : Arr _ _ _ _).dg⟩ | exact ⟨(hm2 : Arr _ _ _ _).dg, (ho2 : Arr _ _ _ _).dg⟩)
      (first
        | (go_at_call_of 20 (Value.agg #[.int .u32 (m.a.toNat : Int), .int .u32 (m.b.toNat : Int), .int .u32 (m.c.toNat : Int), .int .u32 (m.d.toNat : Int)]); refine (rsteps_any m _).mono ?_; rintro e w1 ⟨v1, rfl, hb1, hown1⟩; have hm1 := Arr.below (Arr.drew hm0) hb1 (by simp only [World.drew]; omega); have ho1 := Arr.below (Arr.drew ho0) hb1 (by simp only [World.drew]; omega))
        | (go_at_call_of 20 (Value.agg #[.int .u32 (o.a.toNat : Int), .int .u32 (o.b.toNat : Int), .int .u32 (o.c.toNat : Int), .int .u32 (o.d.toNat : Int)]); refine (rsteps_any o _).mono ?_; rintro e w2 ⟨v2, rfl, hb2, hown2⟩; have hm2 := hm1.below hb2 (hm1.lt (by decide)); have ho2 := ho1.below hb2 (ho1.lt (by decide))))
    all_goals
      go_wp2_with fail
      go_meet
      obtain ⟨g, cap, rfl, _, _, hgb, hgl, _, hgc⟩ := own_ints hown1 (by rw [Ot.steps_length]; decide)
      obtain ⟨g', cap', rfl, _, _, hgb', hgl', _, hgc'⟩ := own_ints hown2 (by rw [Ot.steps_length]; decide)
      rw [Ot.steps_length] at *
      have hsz := hb1.size
      exact ⟨g, cap, g', cap', rfl, rfl, fun j hj => (hb2.cell (p := ⟨g, j, none⟩) hgl).trans (hgc j hj), hgc', (Below.refl _ _).drew.trans (hb1.trans (hb2.mono hsz)), Nat.lt_of_lt_of_le hgl hb2.size, hgl'⟩
  case rest =>
    obtain ⟨g, cap, g', cap', rfl, rfl, hg, hg', hbx, hgl, hgl'⟩ := hcut
    have hbX : Below w.heap.size w wc := hb0.trans (hbx.mono hb0.size)
    have hzX := hz0.below hbx (by omega)
    have hsX : w.heap.size + 3 ≤ wc.heap.size := by have := hbx.size; omega
    clear p0 p1 p2 p3 r0 r1 r2 r3 hm0 ho0 hz0 hbx hb0
    have Hg := Lib.hid hg; clear hg
    have Hg' := Lib.hid hg'; clear hg'
    have htX := ht.below hbX
    obtain ⟨wo, rfl⟩ : ∃ wo : World, wo = wc := ⟨_, rfl⟩
    go_wp2_with fail
    go_loopw [13] (fun i wr => ∃ k : Nat, k ≤ 35 ∧ i = .int .i64 k ∧ Ot.ahead pair m s o t = Ot.aheadFrom pair (Ot.steps m) (Ot.steps o) s t k (35 - k) ∧ Below wo.heap.size wo wr) (fun i wr => 35 - (intOf i).toNat)
    case atStart => exact ⟨0, by omega, rfl, rfl, Below.refl _ _⟩
    case round =>
      obtain ⟨k, hk, rfl, hah, hb⟩ := hrel
      have Hah := Lib.hid hah; clear hah
      have hszr := hb.size
      have hbr : Below w.heap.size w wr := hbX.trans (hb.mono (by omega))
      have hzr := hzX.below hb (by omega)
      by_cases hlt : k < 35
      · have ca := (hb.cell (p := ⟨g, k, none⟩) hgl).trans (Hg.out k hlt)
        have cb := (hb.cell (p := ⟨g', k, none⟩) hgl').trans (Hg'.out k hlt)
        have cs := (Hcs.out k hlt).below hbr hbl
        have ct := (Hct.out k hlt).below hbr hbl'
        have htr := htX.below hb
        have ha15 := Ot.steps_at_le m k
        have hb15 := Ot.steps_at_le o k
        have hstep : Ot.aheadFrom pair (Ot.steps m) (Ot.steps o) s t k (35 - k) = if (Ot.steps o).getD k 0 < (Ot.steps m).getD k 0 ∧ Ot.walk pair (t.getD k Ot.zeroD) ((Ot.steps m).getD k 0 - (Ot.steps o).getD k 0) = s.getD k Ot.zeroD then some k else Ot.aheadFrom pair (Ot.steps m) (Ot.steps o) s t (k + 1) (35 - (k + 1)) := by
          rw [show 35 - k = (35 - (k + 1)) + 1 by omega]; rfl
        generalize (Ot.steps m).getD k 0 = a at *
        generalize (Ot.steps o).getD k 0 = bb at *
        have Hst := Lib.hid hstep; clear hstep
        generalize hdt : t.getD k Ot.zeroD = dt at *
        generalize hds : s.getD k Ot.zeroD = ds at *
        have Hdt := Lib.hid hdt; clear hdt hds
        have hk1 : (k : Int) < 35 := by omega
        have hk0 : (0 : Int) ≤ (k : Int) := by omega
        have hd : decide ((k : Int) < 35) = true := by simp; omega
        by_cases hba : bb < a
        · have q1 : decide ((bb : Int) < (a : Int)) = true := by simp; omega
          have ew : IntKind.i64.wrap ((a : Int) - (bb : Int)) = ((a - bb : Nat) : Int) := by
            rw [show ((a : Int) - (bb : Int)) = ((a - bb : Nat) : Int) by omega]; exact IntWalk.i64_in _ (by omega)
          generalize hz : Ot.walk pair dt (a - bb) = z at *
          have Hz := Lib.hid hz; clear hz
          have hq := dg_eql z ds
          obtain ⟨t0, t1, t2, t3⟩ := ct
          obtain ⟨s0, s1, s2, s3⟩ := cs
          go_wp2_with fail
          go_region_held3 (fun w' => (w'.cell? ⟨g', k, none⟩ = some (.int .i64 (bb : Int)) ∧ w'.cell? ⟨g, k, none⟩ = some (.int .i64 (a : Int))) ∧ (w'.cell? ⟨b', off' + k * 4, none⟩ = some (.int .u32 dt.a.toNat) ∧ w'.cell? ⟨b', off' + k * 4 + 1, none⟩ = some (.int .u32 dt.b.toNat) ∧ w'.cell? ⟨b', off' + k * 4 + 2, none⟩ = some (.int .u32 dt.c.toNat) ∧ w'.cell? ⟨b', off' + k * 4 + 3, none⟩ = some (.int .u32 dt.d.toNat)) ∧ w'.cell? ⟨b, off + k * 4, none⟩ = some (.int .u32 ds.a.toNat) ∧ w'.cell? ⟨b, off + k * 4 + 1, none⟩ = some (.int .u32 ds.b.toNat) ∧ w'.cell? ⟨b, off + k * 4 + 2, none⟩ = some (.int .u32 ds.c.toNat) ∧ w'.cell? ⟨b, off + k * 4 + 3, none⟩ = some (.int .u32 ds.d.toNat))
            (first | exact ⟨⟨cb, ca⟩, ⟨t0, t1, t2, t3⟩, s0, s1, s2, s3⟩ | exact ⟨⟨cb1, ca1⟩, ct1, cs1⟩)
            (first
              | (go_at_call 31; refine (rwalk_any dt (a - bb) (by omega) _).mono ?_; rw [Hz.out]; rintro e w1 ⟨rfl, hb1⟩; have ct1 := (show DgAt wr.drew b' (off' + k * 4) dt from ⟨t0, t1, t2, t3⟩).keep hb1; have cs1 := (show DgAt wr.drew b (off + k * 4) ds from ⟨s0, s1, s2, s3⟩).keep hb1; have ca1 := (hb1.cell (World.block_lt_of_cell? wr.drew _ ca)).trans ca; have cb1 := (hb1.cell (World.block_lt_of_cell? wr.drew _ cb)).trans cb))
          have hb2 : Below w.heap.size w w1 := hbr.drew.trans (hb1.mono hbr.size)
          have hb3 : Below wo.heap.size wo w1 := hb.drew.trans (hb1.mono hszr)
          have hz1 := hzr.drew.below hb1 (hzr.drew.lt (by decide))
          by_cases hzd : z = ds
          · have q2 : decide (z = ds) = true := decide_eq_true hzd
            clear hq
            obtain ⟨v0, v1, v2, v3⟩ := ct1
            obtain ⟨d0, d1, d2, d3⟩ := hz1.dg
            have hf := fun j h => hz1.free j h
            have eR : R = (k, dt, true) := by rw [HR.out, Hah.out, Hst.out, if_pos ⟨hba, hzd⟩]; simp only [Hdt.out]
            have ER := Lib.hid eR; clear eR
            go_wp2
            go_region
            all_goals
              go_wp2
              refine bodyPost_ret (v := .tuple #[.int .i64 k, dgv dt, .bool true]) (by simp [results, Tryd.results32, go_sem, d0, d1, d2, d3]) rfl ⟨⟨k, dt, true, rfl, ER.out.symm⟩, ?_⟩
              exact hb2.drew.fill4 (by omega) _ _ _ _
          · have q2 : decide (z = ds) = false := decide_eq_false hzd
            clear hq
            go_wp2
            go_roundw
            case rel =>
              refine ⟨k + 1, by omega, by go_num, ?_, hb3⟩
              rw [Hah.out, Hst.out, if_neg (fun h => hzd h.2)]
            case measure => simp [intOf]; omega
        · have q1 : decide ((bb : Int) < (a : Int)) = false := by simp; omega
          go_wp2_with fail
          go_quiet (fail)
          go_wp2
          go_roundw
          case rel =>
            refine ⟨k + 1, by omega, by go_num, ?_, pw_drewN hb _⟩
            rw [Hah.out, Hst.out, if_neg (fun h => hba h.1)]
          case measure => simp [intOf]; omega
      · obtain rfl : k = 35 := by omega
        have eR : R = (0, Ot.zeroD, false) := by rw [HR.out, Hah.out]; rfl
        have ER := Lib.hid eR; clear eR
        obtain ⟨d0, d1, d2, d3⟩ := hzr.dg
        have hf := fun j h => hzr.free j h
        go_wp2
        refine bodyPost_ret (v := .tuple #[.int .i64 0, dgv Ot.zeroD, .bool false]) (by simp [results, Tryd.results32, go_sem, d0, d1, d2, d3]; and_intros <;> rfl) rfl ⟨⟨0, Ot.zeroD, false, rfl, ER.out.symm⟩, ?_⟩
        exact hbr.fill4 (by omega) _ _ _ _
end Go.Proofs.YtpodfmnnabepaaaDoor

namespace Go.Proofs.YtpodfmnnabepaaaDoor
open Go.RowKit
open Ot (Dg)
abbrev askV (m o : Dg) (v u : Value) : Value := .agg #[.int .u32 m.a.toNat, .int .u32 m.b.toNat, .int .u32 m.c.toNat, .int .u32 m.d.toNat, .int .u32 o.a.toNat, .int .u32 o.b.toNat, .int .u32 o.c.toNat, .int .u32 o.d.toNat, v, u]
theorem ahead_all (m o : Dg) (v u : Value) (s t : List Dg) (w : World) (ht : Tn w) (hv : SigAt w v s) (hu : SigAt w u t) :
    Calls Tryd.prog 30 #[dgv m, v, dgv o, u] w fun e w' => e = .returned (.tuple #[.int .i64 ((aheadR m s o t).1 : Nat), dgv (aheadR m s o t).2.1, .bool (aheadR m s o t).2.2]) ∧ Below w.heap.size w w' := by
  by_cases h : s.length = 35 ∧ t.length = 35
  · refine (ahead_full m o v u s t h.1 h.2 w ht hv hu).mono ?_
    rintro e w' ⟨⟨i, d, b, rfl, hR⟩, hb⟩
    rw [← hR]
    exact ⟨rfl, hb⟩
  · refine (ahead_short m o v u s t h w hv hu).mono ?_
    rintro e w' ⟨rfl, hb⟩
    have hR : aheadR m s o t = (0, Ot.zeroD, false) := by unfold aheadR; rw [if_neg h]
    rw [hR]
    exact ⟨rfl, hb⟩
theorem rahead_all (m o : Dg) (v u : Value) (s t : List Dg) (w : World) (ht : Tn w) (hv : SigAt w v s) (hu : SigAt w u t) :
    Calls Tryd.prog 32 #[dgv m, v, dgv o, u] w fun e w' => e = .returned (.tuple #[.int .i64 ((aheadR m s o t).1 : Nat), dgv (aheadR m s o t).2.1, .bool (aheadR m s o t).2.2]) ∧ Below w.heap.size w w' := by
  by_cases h : s.length = 35 ∧ t.length = 35
  · refine (rahead_full m o v u s t h.1 h.2 w ht hv hu).mono ?_
    rintro e w' ⟨⟨i, d, b, rfl, hR⟩, hb⟩
    rw [← hR]
    exact ⟨rfl, hb⟩
  · refine (rahead_short m o v u s t h w hv hu).mono ?_
    rintro e w' ⟨rfl, hb⟩
    have hR : aheadR m s o t = (0, Ot.zeroD, false) := by unfold aheadR; rw [if_neg h]
    rw [hR]
    exact ⟨rfl, hb⟩
set_option maxRecDepth 100000 in
set_option maxHeartbeats 4000000 in
theorem lahead_any (m o : Dg) (v u : Value) (s t : List Dg) (w : World) (ht : Tn w) (hv : SigAt w v s) (hu : SigAt w u t) : Calls Tryd.prog 9 #[askV m o v u] w fun e w' => e = .returned (.bool true) ∧ Below w.heap.size w w' := by
  have ha1 := fun w' h1 h2 h3 => ahead_all m o v u s t w' h1 h2 h3
  have ha2 := fun w' h1 h2 h3 => rahead_all m o v u s t w' h1 h2 h3
  generalize aheadR m s o t = R at *
  obtain ⟨i, d, b⟩ := R
  simp only at ha1 ha2
  have Ha1 := Lib.hid ha1; have Ha2 := Lib.hid ha2; clear ha1 ha2
  obtain ⟨A, c, e1, hl1, _⟩ := id hv
  obtain ⟨A', c', e2, hl2, _⟩ := id hu
  subst e1 e2
  have hbA : Below w.heap.size w (w.alloc (.cells #[.int .u32 m.a.toNat, .int .u32 m.b.toNat, .int .u32 m.c.toNat, .int .u32 m.d.toNat, .int .u32 o.a.toNat, .int .u32 o.b.toNat, .int .u32 o.c.toNat, .int .u32 o.d.toNat, .slice A s.length c, .slice A' t.length c'] 44)) := (Below.refl _ _).alloc (Nat.le_refl _) _
  by_cases h1 : 40 < s.length
  · have q : decide ((40 : Int) < (s.length : Int)) = true := by simp; omega
    go_enter Tryd.func9, Tryd.ntmps9
    go_wp2_with (go_at_call 17; refine (awake_any _ (ht.below hbA)).mono ?_; rintro e w1 ⟨rfl, b1⟩)
    go_ret
    exact ⟨rfl, hbA.trans (b1.mono hbA.size)⟩
  have q : decide ((40 : Int) < (s.length : Int)) = false := by simp; omega
  by_cases h2 : 40 < t.length
  · have q2 : decide ((40 : Int) < (t.length : Int)) = true := by simp; omega
    go_enter Tryd.func9, Tryd.ntmps9
    go_wp2_with (go_at_call 17; refine (awake_any _ (ht.below hbA)).mono ?_; rintro e w1 ⟨rfl, b1⟩)
    go_ret
    exact ⟨rfl, hbA.trans (b1.mono hbA.size)⟩
  have q2 : decide ((40 : Int) < (t.length : Int)) = false := by simp; omega
  go_enter Tryd.func9, Tryd.ntmps9
  have x0 : (w.alloc (.cells #[.int .u32 m.a.toNat, .int .u32 m.b.toNat, .int .u32 m.c.toNat, .int .u32 m.d.toNat, .int .u32 o.a.toNat, .int .u32 o.b.toNat, .int .u32 o.c.toNat, .int .u32 o.d.toNat, .slice A s.length c, .slice A' t.length c'] 44)).cell? ⟨w.heap.size, 0, none⟩ = some (.int .u32 m.a.toNat) := by rw [World.cell?_alloc_new]; rfl
  have x1 : (w.alloc (.cells #[.int .u32 m.a.toNat, .int .u32 m.b.toNat, .int .u32 m.c.toNat, .int .u32 m.d.toNat, .int .u32 o.a.toNat, .int .u32 o.b.toNat, .int .u32 o.c.toNat, .int .u32 o.d.toNat, .slice A s.length c, .slice A' t.length c'] 44)).cell? ⟨w.heap.size, 1, none⟩ = some (.int .u32 m.b.toNat) := by rw [World.cell?_alloc_new]; rfl
  have x2 : (w.alloc (.cells #[.int .u32 m.a.toNat, .int .u32 m.b.toNat, .int .u32 m.c.toNat, .int .u32 m.d.toNat, .int .u32 o.a.toNat, .int .u32 o.b.toNat, .int .u32 o.c.toNat, .int .u32 o.d.toNat, .slice A s.length c, .slice A' t.length c'] 44)).cell? ⟨w.heap.size, 2, none⟩ = some (.int .u32 m.c.toNat) := by rw [World.cell?_alloc_new]; rfl
  have x3 : (w.alloc (.cells #[.int .u32 m.a.toNat, .int .u32 m.b.toNat, .int .u32 m.c.toNat, .int .u32 m.d.toNat, .int .u32 o.a.toNat, .int .u32 o.b.toNat, .int .u32 o.c.toNat, .int .u32 o.d.toNat, .slice A s.length c, .slice A' t.length c'] 44)).cell? ⟨w.heap.size, 3, none⟩ = some (.int .u32 m.d.toNat) := by rw [World.cell?_alloc_new]; rfl
  have x4 : (w.alloc (.cells #[.int .u32 m.a.toNat, .int .u32 m.b.toNat, .int .u32 m.c.toNat, .int .u32 m.d.toNat, .int .u32 o.a.toNat, .int .u32 o.b.toNat, .int .u32 o.c.toNat, .int .u32 o.d.toNat, .slice A s.length c, .slice A' t.length c'] 44)).cell? ⟨w.heap.size, 4, none⟩ = some (.int .u32 o.a.toNat) := by rw [World.cell?_alloc_new]; rfl
  have x5 : (w.alloc (.cells #[.int .u32 m.a.toNat, .int .u32 m.b.toNat, .int .u32 m.c.toNat, .int .u32 m.d.toNat, .int .u32 o.a.toNat, .int .u32 o.b.toNat, .int .u32 o.c.toNat, .int .u32 o.d.toNat, .slice A s.length c, .slice A' t.length c'] 44)).cell? ⟨w.heap.size, 5, none⟩ = some (.int .u32 o.b.toNat) := by rw [World.cell?_alloc_new]; rfl
  have x6 : (w.alloc (.cells #[.int .u32 m.a.toNat, .int .u32 m.b.toNat, .int .u32 m.c.toNat, .int .u32 m.d.toNat, .int .u32 o.a.toNat, .int .u32 o.b.toNat, .int .u32 o.c.toNat, .int .u32 o.d.toNat, .slice A s.length c, .slice A' t.length c'] 44)).cell? ⟨w.heap.size, 6, none⟩ = some (.int .u32 o.c.toNat) := by rw [World.cell?_alloc_new]; rfl
  have x7 : (w.alloc (.cells #[.int .u32 m.a.toNat, .int .u32 m.b.toNat, .int .u32 m.c.toNat, .int .u32 m.d.toNat, .int .u32 o.a.toNat, .int .u32 o.b.toNat, .int .u32 o.c.toNat, .int .u32 o.d.toNat, .slice A s.length c, .slice A' t.length c'] 44)).cell? ⟨w.heap.size, 7, none⟩ = some (.int .u32 o.d.toNat) := by rw [World.cell?_alloc_new]; rfl
  have x8 : (w.alloc (.cells #[.int .u32 m.a.toNat, .int .u32 m.b.toNat, .int .u32 m.c.toNat, .int .u32 m.d.toNat, .int .u32 o.a.toNat, .int .u32 o.b.toNat, .int .u32 o.c.toNat, .int .u32 o.d.toNat, .slice A s.length c, .slice A' t.length c'] 44)).cell? ⟨w.heap.size, 8, none⟩ = some (.slice A s.length c) := by rw [World.cell?_alloc_new]; rfl
  have x9 : (w.alloc (.cells #[.int .u32 m.a.toNat, .int .u32 m.b.toNat, .int .u32 m.c.toNat, .int .u32 m.d.toNat, .int .u32 o.a.toNat, .int .u32 o.b.toNat, .int .u32 o.c.toNat, .int .u32 o.d.toNat, .slice A s.length c, .slice A' t.length c'] 44)).cell? ⟨w.heap.size, 9, none⟩ = some (.slice A' t.length c') := by rw [World.cell?_alloc_new]; rfl
  have tn0 := ht.below hbA
  have v0 := hv.below hbA
  have u0 := hu.below hbA
  go_wp2_with fail
  refine (Ha1.out _ tn0 v0 u0).mono ?_
  rintro e w1 ⟨rfl, b1⟩
  have tn1 := tn0.below b1
  have v1 := v0.below b1
  have u1 := u0.below b1
  have c1 := hbA.trans (b1.mono hbA.size)
  replace x0 := cell_keep x0 b1
  replace x1 := cell_keep x1 b1
  replace x2 := cell_keep x2 b1
  replace x3 := cell_keep x3 b1
  replace x4 := cell_keep x4 b1
  replace x5 := cell_keep x5 b1
  replace x6 := cell_keep x6 b1
  replace x7 := cell_keep x7 b1
  replace x8 := cell_keep x8 b1
  replace x9 := cell_keep x9 b1
  have hBs : w.heap.size < w1.heap.size := World.block_lt_of_cell? w1 _ x0
  have hBn : w.heap.size ≠ w1.heap.size := by omega
  have bD : Below w1.heap.size w1 (w1.alloc (.cells #[.int .u32 d.a.toNat, .int .u32 d.b.toNat, .int .u32 d.c.toNat, .int .u32 d.d.toNat] 24)) := (Below.refl _ _).alloc (Nat.le_refl _) _
  have y0 : (w1.alloc (.cells #[.int .u32 d.a.toNat, .int .u32 d.b.toNat, .int .u32 d.c.toNat, .int .u32 d.d.toNat] 24)).cell? ⟨w1.heap.size, 0, none⟩ = some (.int .u32 d.a.toNat) := by rw [World.cell?_alloc_new]; rfl
  have y1 : (w1.alloc (.cells #[.int .u32 d.a.toNat, .int .u32 d.b.toNat, .int .u32 d.c.toNat, .int .u32 d.d.toNat] 24)).cell? ⟨w1.heap.size, 1, none⟩ = some (.int .u32 d.b.toNat) := by rw [World.cell?_alloc_new]; rfl
  have y2 : (w1.alloc (.cells #[.int .u32 d.a.toNat, .int .u32 d.b.toNat, .int .u32 d.c.toNat, .int .u32 d.d.toNat] 24)).cell? ⟨w1.heap.size, 2, none⟩ = some (.int .u32 d.c.toNat) := by rw [World.cell?_alloc_new]; rfl
  have y3 : (w1.alloc (.cells #[.int .u32 d.a.toNat, .int .u32 d.b.toNat, .int .u32 d.c.toNat, .int .u32 d.d.toNat] 24)).cell? ⟨w1.heap.size, 3, none⟩ = some (.int .u32 d.d.toNat) := by rw [World.cell?_alloc_new]; rfl
  go_wp2_with fail
  refine (Ha2.out _ (tn1.below bD) (v1.below bD) (u1.below bD)).mono ?_
  rintro e w2 ⟨rfl, b2⟩
  have tn2 := (tn1.below bD).below b2
  have c2 := c1.trans (bD.mono c1.size)
  have c3 := c2.trans (b2.mono c2.size)
  replace y0 := cell_keep y0 b2
  replace y1 := cell_keep y1 b2
  replace y2 := cell_keep y2 b2
  replace y3 := cell_keep y3 b2
  have hDs : w1.heap.size < w2.heap.size := World.block_lt_of_cell? w2 _ y0
  have hDn : w1.heap.size ≠ w2.heap.size := by omega
  clear x0 x1 x2 x3 x4 x5 x6 x7 x8 x9 v0 u0 v1 u1 bD
  have bE : Below w2.heap.size w2 (w2.alloc (.cells #[.int .u32 d.a.toNat, .int .u32 d.b.toNat, .int .u32 d.c.toNat, .int .u32 d.d.toNat] 24)) := (Below.refl _ _).alloc (Nat.le_refl _) _
  have y4 := cell_keep y0 bE
  have y5 := cell_keep y1 bE
  have y6 := cell_keep y2 bE
  have y7 := cell_keep y3 bE
  have z0 : (w2.alloc (.cells #[.int .u32 d.a.toNat, .int .u32 d.b.toNat, .int .u32 d.c.toNat, .int .u32 d.d.toNat] 24)).cell? ⟨w2.heap.size, 0, none⟩ = some (.int .u32 d.a.toNat) := by rw [World.cell?_alloc_new]; rfl
  have z1 : (w2.alloc (.cells #[.int .u32 d.a.toNat, .int .u32 d.b.toNat, .int .u32 d.c.toNat, .int .u32 d.d.toNat] 24)).cell? ⟨w2.heap.size, 1, none⟩ = some (.int .u32 d.b.toNat) := by rw [World.cell?_alloc_new]; rfl
  have z2 : (w2.alloc (.cells #[.int .u32 d.a.toNat, .int .u32 d.b.toNat, .int .u32 d.c.toNat, .int .u32 d.d.toNat] 24)).cell? ⟨w2.heap.size, 2, none⟩ = some (.int .u32 d.c.toNat) := by rw [World.cell?_alloc_new]; rfl
  have z3 : (w2.alloc (.cells #[.int .u32 d.a.toNat, .int .u32 d.b.toNat, .int .u32 d.c.toNat, .int .u32 d.d.toNat] 24)).cell? ⟨w2.heap.size, 3, none⟩ = some (.int .u32 d.d.toNat) := by rw [World.cell?_alloc_new]; rfl
  have c4 := c3.trans (bE.mono c3.size)
  have hq := dg_eql d d
  rw [decide_eq_true rfl] at hq
  go_wp2_with (go_at_call 17; refine (awake_any _ (tn2.below bE)).mono ?_; rintro e w3 ⟨rfl, b3⟩; have p0 := cell_keep y4 b3; have p1 := cell_keep y5 b3; have p2 := cell_keep y6 b3; have p3 := cell_keep y7 b3; have r0 := cell_keep z0 b3; have r1 := cell_keep z1 b3; have r2 := cell_keep z2 b3; have r3 := cell_keep z3 b3)
  go_ret
  exact ⟨rfl, c4.trans (b3.mono c4.size)⟩
end Go.Proofs.YtpodfmnnabepaaaDoor

namespace Go.Proofs.YtpodfmnnabepaaaDoor
open Go.RowKit
open Ot (Dg)
/-- The public key of the height 0 of a seed. -/
noncomputable def pubD (x : Dg) : Dg := Ot.pub pair (sdD x)
set_option maxRecDepth 100000 in
set_option maxHeartbeats 4000000 in
theorem rkeys_any (x : Dg) (w : World) :
    Calls Tryd.prog 71 #[dgv x, .int .i64 0] w fun e w' => ∃ v, e = .returned v ∧ Below w.heap.size w w' ∧ SigAt w' v [pubD x] := by
  obtain ⟨i0, hi, hz0, hz1, hz2⟩ := info_parts Tryd.info24
  go_enter Tryd.func71, Tryd.ntmps71
  go_wp2_with fail
  have hb0 : Below w.heap.size w (w.alloc (.cells #[.int .u32 x.a.toNat, .int .u32 x.b.toNat, .int .u32 x.c.toNat, .int .u32 x.d.toNat] 24)) := (Below.refl _ _).alloc (Nat.le_refl _) _
  have hx0 := Arr.new w 4 (fnOf x) 24 #[.int .u32 x.a.toNat, .int .u32 x.b.toNat, .int .u32 x.c.toNat, .int .u32 x.d.toNat] rfl
  go_loopw [5, 6] (fun n i wr => n = .int .i64 1 ∧ i = .int .i64 0 ∧ wr = w.alloc (.cells #[.int .u32 x.a.toNat, .int .u32 x.b.toNat, .int .u32 x.c.toNat, .int .u32 x.d.toNat] 24)) (fun _ _ _ => 0)
  case atStart => exact ⟨rfl, rfl, rfl⟩
  case round =>
    obtain ⟨rfl, rfl, rfl⟩ := hrel
    go_wp2_with fail
    go_loopw [7, 8] (fun v i wr => ∃ k : Nat, k ≤ 1 ∧ i = .int .i64 k ∧ wr.ownsRow (w.heap.size + 1) 24 4 v k (dcs ([pubD x].take k)) ∧ Below w.heap.size w wr ∧ Arr wr w.heap.size 4 (fnOf x)) (fun _ i _ => 1 - (intOf i).toNat)
    case atStart => exact ⟨0, by omega, rfl, World.ownsRow_nil _ _ _ _, hb0, hx0⟩
    case round =>
      obtain ⟨k, hk, rfl, hown, hb, hx⟩ := hrel
      by_cases hlt : k < 1
      · obtain rfl : k = 0 := by omega
        obtain ⟨c0, c1, c2, c3⟩ := hx.dg
        have Hx := Lib.hid hx; clear hx hx0
        have Hown := Lib.hid hown; clear hown
        go_wp2_with fail
        refine (rseed_any x _).mono ?_
        rintro e w1 ⟨rfl, hb1⟩
        have hpd : Ot.pub pair (sdD x) = pubD x := rfl
        generalize sdD x = y at *
        have Hpd := Lib.hid hpd; clear hpd
        go_wp2_with fail
        refine (rpub_any y _).mono ?_
        rw [Hpd.out]
        rintro e w2 ⟨rfl, hb2⟩
        generalize hz : pubD x = z at *
        have Hz := Lib.hid hz; clear hz
        have hb4 : Below w.heap.size w w2 := hb.trans ((hb1.trans (hb2.mono hb1.size)).mono hb.size)
        have hxl : w.heap.size < wr.heap.size := Hx.out.lt (by decide)
        have hx2 : Arr w2 w.heap.size 4 (fnOf x) := (Hx.out.below hb1 hxl).below hb2 (Nat.lt_of_lt_of_le hxl hb1.size)
        have Hx2 := Lib.hid hx2; clear hx2
        have hbs := hb4.size
        go_wp2_with (at_builtin; refine wpList_append_own _ rfl _ _ 32 rfl (w.heap.size + 1) 24 i0 (dgv Ot.zeroD) 4 16 Tryd.underlying32 hi hz0 hz1 hz2 rfl (by decide) _ _ _ rfl (own_keep (own_keep (own_keep Hown.out hb1) hb2) ((Below.refl _ _).alloc (Nat.le_refl _) _)) ⟨w2.heap.size, 0, none⟩ 1 1 [.int .u32 z.a.toNat, .int .u32 z.b.toNat, .int .u32 z.c.toNat, .int .u32 z.d.toNat] rfl rfl ?c1 ?c2 ?c3 ?c4 ?c5 ?_)
        case c1 =>
          intro j u hu
          have hD := (Arr.new w2 4 (fnOf z) 24 #[.int .u32 z.a.toNat, .int .u32 z.b.toNat, .int .u32 z.c.toNat, .int .u32 z.d.toNat] rfl).dg
          rw [add_at]
          obtain ⟨d0, d1, d2, d3⟩ := hD
          match j, hu with
          | 0, hu => simpa using d0.trans hu
          | 1, hu => simpa using d1.trans hu
          | 2, hu => simpa using d2.trans hu
          | 3, hu => simpa using d3.trans hu
        case c2 => exact dg_one z
        case c3 => unfold maxLen; omega
        case c4 => omega
        case c5 => simp; omega
        intro v' w4 hown1 hg1 _
        have hxl2 : w.heap.size < w2.heap.size := Hx2.out.lt (by decide)
        have hb5 : Below w.heap.size w (w2.alloc (.cells #[.int .u32 z.a.toNat, .int .u32 z.b.toNat, .int .u32 z.c.toNat, .int .u32 z.d.toNat] 24)) := hb4.alloc hbs _
        have hb6 : Below (w.heap.size + 1) w2 w4 := ((Below.refl _ _).alloc (by omega) (.cells #[.int .u32 z.a.toNat, .int .u32 z.b.toNat, .int .u32 z.c.toNat, .int .u32 z.d.toNat] 24)).grown hg1 (by simp; omega) (fun q hq => (own_keep (own_keep Hown.out hb1) hb2 |>.lt q hq).1)
        have hb7 : Below w.heap.size w w4 := hb4.trans (hb6.mono (by omega))
        have hx4 : Arr w4 w.heap.size 4 (fnOf x) := Hx2.out.below hb6 (by omega)
        have Hx4 := Lib.hid hx4; clear hx4
        clear hg1 hb5
        go_wp2_with fail
        refine ⟨⟨1, by omega, rfl, ?_, hb7, Hx4.out⟩, by decide⟩
        rw [Hz.out]; exact hown1
      · obtain rfl : k = 1 := by omega
        have Hown := Lib.hid hown; clear hown
        go_wp2_with fail
        exact bodyPost_ret (v := u7) (by simp [results, Tryd.results71, go_sem]) rfl ⟨_, rfl, hb, own_sig Hown.out⟩
theorem SigAt.one {w : World} {v : Value} {d : Dg} (h : SigAt w v [d]) : ∃ b off c, v = .slice (some ⟨b, off, none⟩) 1 c ∧ b < w.heap.size ∧ DgAt w b off d := by
  obtain ⟨A, c, rfl, _, h⟩ := h
  obtain ⟨b, off, rfl, hb, hc⟩ := h (by simp)
  exact ⟨b, off, c, rfl, hb, by have := hc 0 (by simp); simpa using this⟩
set_option maxHeartbeats 4000000 in
theorem rroot_one (v : Value) (d : Dg) (w : World) (hv : SigAt w v [d]) : Calls Tryd.prog 70 #[v] w fun e w' => e = .returned (dgv d) ∧ Below w.heap.size w w' := by
  obtain ⟨b, off, c, rfl, hbl, c0, c1, c2, c3⟩ := hv.one
  clear hv
  go_enter Tryd.func70, Tryd.ntmps70
  go_wp2_with fail
  exact bodyPost_ret (v := dgv d) (by simp [results, Tryd.results70, go_sem]) rfl ⟨rfl, (Below.refl _ _).alloc (Nat.le_refl _) _⟩
set_option maxHeartbeats 4000000 in
theorem rpublic_any (x : Dg) (w : World) : Calls Tryd.prog 60 #[dgv x, .int .i64 0] w fun e w' => e = .returned (.tuple #[dgv (pubD x), .int .i64 0]) ∧ Below w.heap.size w w' := by
  go_enter Tryd.func60, Tryd.ntmps60
  go_wp2_with fail
  have hb0 : Below w.heap.size w ((w.alloc (.cells #[.int .u32 x.a.toNat, .int .u32 x.b.toNat, .int .u32 x.c.toNat, .int .u32 x.d.toNat] 24)).alloc (.cells #[.int .u32 0, .int .u32 0, .int .u32 0, .int .u32 0] 24)) := ((Below.refl _ _).alloc (Nat.le_refl _) _).alloc (by simp) _
  refine (rkeys_any x _).mono ?_
  rintro e w1 ⟨v, rfl, hb1, hv⟩
  have hz := (Arr.new' (w.alloc (.cells #[.int .u32 x.a.toNat, .int .u32 x.b.toNat, .int .u32 x.c.toNat, .int .u32 x.d.toNat] 24)) (w.heap.size + 1) 4 (fnOf Ot.zeroD) 24 #[.int .u32 0, .int .u32 0, .int .u32 0, .int .u32 0] (by simp) rfl).below hb1 (by simp)
  have hb2 := hb0.trans (hb1.mono (by simp; omega))
  have hl : w.heap.size + 1 < w1.heap.size := hz.lt (by decide)
  clear hb0 hb1
  go_wp2_with fail
  refine (rroot_one v (pubD x) _ hv).mono ?_
  rintro e w2 ⟨rfl, hb3⟩
  have hz2 := hz.below hb3 hl
  have hb4 := hb2.trans (hb3.mono hb2.size)
  generalize hy : pubD x = y at *
  have Hy := Lib.hid hy; clear hy
  obtain ⟨d0, d1, d2, d3⟩ := hz2.dg
  have hf := fun j h => hz2.free j h
  clear hb2 hb3 hv
  go_wp2_with fail
  exact bodyPost_ret (v := .tuple #[dgv y, .int .i64 0]) (by simp [results, Tryd.results60, go_sem, d0, d1, d2, d3]) rfl ⟨by rw [Hy.out], hb4.fill4 (by omega) _ _ _ _⟩
end Go.Proofs.YtpodfmnnabepaaaDoor

namespace Go.Proofs.YtpodfmnnabepaaaDoor
open Go.RowKit
open Ot (Dg)
set_option maxHeartbeats 4000000 in
theorem rway_one (v : Value) (d : Dg) (w : World) (hv : SigAt w v [d]) : Calls Tryd.prog 82 #[v, .int .i64 0] w fun e w' => e = .returned (.slice none 0 0) ∧ Below w.heap.size w w' := by
  obtain ⟨b, off, c, rfl, hbl, c0, c1, c2, c3⟩ := hv.one
  clear hv
  go_enter Tryd.func82, Tryd.ntmps82
  go_wp2_with fail
  exact bodyPost_ret (v := .slice none 0 0) (by simp [results, Tryd.results82, go_sem]) rfl ⟨rfl, Below.refl _ _⟩
set_option maxHeartbeats 4000000 in
theorem rprove_one (v : Value) (d : Dg) (w : World) (hv : SigAt w v [d]) : Calls Tryd.prog 72 #[v, .int .i64 0] w fun e w' => e = .returned (.tuple #[.slice none 0 0, .int .i64 0]) ∧ Below w.heap.size w w' := by
  obtain ⟨b, off, c, rfl, hbl, hD⟩ := hv.one
  go_enter Tryd.func72, Tryd.ntmps72
  go_wp2_with fail
  refine (rway_one _ d _ hv).mono ?_
  rintro e w1 ⟨rfl, hb1⟩
  go_wp2_with fail
  exact bodyPost_ret (v := .tuple #[.slice none 0 0, .int .i64 0]) (by simp [results, Tryd.results72, go_sem]) rfl ⟨rfl, hb1⟩
/-- Three cells that may be written. -/
def Res3 (w : World) (b : Nat) : Prop := ((∃ v, w.cell? ⟨b, 0, none⟩ = some v) ∧ (∃ v, w.cell? ⟨b, 1, none⟩ = some v) ∧ ∃ v, w.cell? ⟨b, 2, none⟩ = some v) ∧ ∀ j, j < 3 → w.frozen? ⟨b, j, none⟩ = false
theorem Res3.new (w : World) (b : Nat) (t : TypeId) {v0 v1 v2 : Value} (hb : b = w.heap.size) : Res3 (w.alloc (.cells #[v0, v1, v2] t)) b := by
  subst hb
  exact ⟨⟨⟨v0, World.cell?_alloc_new _ _ _ 0⟩, ⟨v1, World.cell?_alloc_new _ _ _ 1⟩, ⟨v2, World.cell?_alloc_new _ _ _ 2⟩⟩, fun j _ => World.frozen?_alloc_new w _ t j⟩
theorem Res3.lt {w : World} {b : Nat} (h : Res3 w b) : b < w.heap.size := by
  obtain ⟨⟨⟨v, h⟩, _⟩, _⟩ := h; exact World.block_lt_of_cell? w _ h
theorem Res3.below {w w' : World} {b B : Nat} (h : Res3 w b) (hb : Below B w w') (hB : b < B) : Res3 w' b := by
  obtain ⟨⟨⟨v0, h0⟩, ⟨v1, h1⟩, ⟨v2, h2⟩⟩, hf⟩ := h
  exact ⟨⟨⟨v0, (hb.cell (p := ⟨b, 0, none⟩) hB).trans h0⟩, ⟨v1, (hb.cell (p := ⟨b, 1, none⟩) hB).trans h1⟩, ⟨v2, (hb.cell (p := ⟨b, 2, none⟩) hB).trans h2⟩⟩, fun j hj => (hb.frozen (p := ⟨b, j, none⟩) hB).trans (hf j hj)⟩
theorem Res3.keep {w w' : World} {b : Nat} (h : Res3 w b) (hb : Below w.heap.size w w') : Res3 w' b := h.below hb h.lt
theorem Res3.drew {w : World} {b : Nat} (h : Res3 w b) : Res3 w.drew b := h
/-- A block of seven cells at most. -/
def Thin7 (w : World) (B : Nat) : Prop := B < w.heap.size ∧ ∀ j, 7 ≤ j → w.cell? ⟨B, j, none⟩ = none
theorem Thin7.new (w : World) (B : Nat) (c : Array Value) (t : TypeId) (hB : B = w.heap.size) (hc : c.size ≤ 7) : Thin7 (w.alloc (.cells c t)) B := by
  subst hB
  exact ⟨by simp, fun j hj => by rw [World.cell?_alloc_new]; exact Array.getElem?_eq_none (by omega)⟩
theorem Thin7.keep {w w' : World} {B : Nat} (h : Thin7 w B) (hb : Below w.heap.size w w') : Thin7 w' B :=
  ⟨Nat.lt_of_lt_of_le h.1 hb.size, fun j hj => (hb.cell (p := ⟨B, j, none⟩) h.1).trans (h.2 j hj)⟩
/-- A slice that doesn't lie in the block B. -/
def Off (B : Nat) (v : Value) : Prop := ∀ b off n c, v = .slice (some ⟨b, off, none⟩) n c → B ≠ b
theorem SigAt.off {w : World} {v : Value} {l : List Dg} {B : Nat} (h : SigAt w v l) (hB : Thin7 w B) (hl : 2 ≤ l.length) : Off B v := by
  obtain ⟨A, c, rfl, hl1, h⟩ := h
  obtain ⟨b, off, rfl, hbl, hc⟩ := h (by omega)
  intro b' off' n' c' e
  cases e
  intro e
  subst e
  have h1 := (hc 1 (by omega)).2.2.2
  rw [hB.2 (off + 1 * 4 + 3) (by omega)] at h1
  cases h1
theorem SigAt.set {w : World} {v : Value} {l : List Dg} {B : Nat} (h : SigAt w v l) (hB : Off B v) (j : Nat) (x : Value) : SigAt (w.setCell ⟨B, j, none⟩ x) v l := by
  obtain ⟨A, c, rfl, hl1, h⟩ := h
  refine ⟨A, c, rfl, hl1, fun hp => ?_⟩
  obtain ⟨b, off, rfl, hbl, hc⟩ := h hp
  exact ⟨b, off, rfl, by simpa using hbl, fun i hi => (hc i hi).set_other _ _ (hB b off _ _ rfl)⟩
/-- The values of a signature of the height 0. -/
noncomputable def oneD (x m : Dg) : List Dg := Ot.sign pair (sdD x) m
set_option maxRecDepth 100000 in
set_option maxHeartbeats 4000000 in
theorem rksign_any (x m : Dg) (w : World) : Calls Tryd.prog 61 #[dgv x, .int .i64 0, .int .i64 0, dgv m] w fun e w' => ∃ v, e = .returned (.tuple #[.agg #[.int .i64 0, v, .slice none 0 0], .int .i64 0]) ∧ Below w.heap.size w w' ∧ SigAt w' v (oneD x m) := by
  go_enter Tryd.func61, Tryd.ntmps61
  go_wp2_with fail
  generalize hW : ((w.alloc (.cells #[.int .u32 x.a.toNat, .int .u32 x.b.toNat, .int .u32 x.c.toNat, .int .u32 x.d.toNat] 24)).alloc (.cells #[.int .u32 m.a.toNat, .int .u32 m.b.toNat, .int .u32 m.c.toNat, .int .u32 m.d.toNat] 24)).alloc (.cells #[.int .i64 0, .slice none 0 0, .slice none 0 0] 57) = W
  have hb0 : Below w.heap.size w W := by subst hW; exact (((Below.refl _ _).alloc (Nat.le_refl _) _).alloc (by simp) _).alloc (by simp; omega) _
  have hx0 : Arr W w.heap.size 4 (fnOf x) := by subst hW; exact ((Arr.new w 4 (fnOf x) 24 _ rfl).alloc (by simp) _).alloc (by simp; omega) _
  have hm0 : Arr W (w.heap.size + 1) 4 (fnOf m) := by subst hW; exact (Arr.new' (w.alloc _) (w.heap.size + 1) 4 (fnOf m) 24 _ (by simp) rfl).alloc (by simp) _
  have ht0 : Thin7 W (w.heap.size + 1 + 1) := by subst hW; exact Thin7.new _ _ _ _ (by simp) (by simp)
  have hr0 : Res3 W (w.heap.size + 1 + 1) := by
    subst hW
    exact Res3.new _ _ 57 (by simp)
  clear hW
  refine (rkeys_any x _).mono ?_
  rintro e w1 ⟨v, rfl, hb1, hv⟩
  have hx1 := hx0.keep hb1 (by decide)
  have hm1 := hm0.keep hb1 (by decide)
  have hr1 := hr0.keep hb1
  have ht1 := ht0.keep hb1
  have hb2 := hb0.trans (hb1.mono hb0.size)
  obtain ⟨b, off, c, rfl, hbl, hD⟩ := hv.one
  clear hb0 hb1 hx0 hm0 hr0
  have Hx1 := Lib.hid hx1; have Hm1 := Lib.hid hm1; have Hr1 := Lib.hid hr1; have Ht1 := Lib.hid ht1; clear hx1 hm1 hr1 ht1 ht0
  go_wp2_with fail
  refine (rprove_one _ (pubD x) _ hv).mono ?_
  rintro e w2 ⟨rfl, hb3⟩
  have hx2 := Hx1.out.keep hb3 (by decide)
  have hm2 := Hm1.out.keep hb3 (by decide)
  have hr2 := Hr1.out.keep hb3
  have ht2 := Ht1.out.keep hb3
  have hb4 := hb2.trans (hb3.mono hb2.size)
  clear hb2 hb3 hD hv
  generalize hod : oneD x m = l
  generalize hsd : sdD x = y at *
  have hol : Ot.sign pair y m = l := by rw [← hod, oneD, hsd]
  have Hsd := Lib.hid hsd; have Hol := Lib.hid hol; clear hod hsd hol
  go_upto_region 7 with fail
  refine wp_region_inv (fun wx => Arr wx w.heap.size 4 (fnOf x) ∧ Arr wx (w.heap.size + 1) 4 (fnOf m) ∧ Res3 wx (w.heap.size + 1 + 1) ∧ Below w.heap.size w wx ∧ Thin7 wx (w.heap.size + 1 + 1)) (fun j v w' => match j with | 0 => v = .int .i64 0 | 1 => v = dgv x | 2 => v = .int .i64 0 | 3 => v = dgv y | 4 => v = dgv m | 5 => SigAt w' v l | 6 => v = .slice none 0 0 | _ => True) 7 (by kernel_rfl) (by kernel_rfl) ⟨hx2, hm2, hr2, hb4.drew, ht2⟩ (fun _ _ h hb => ⟨h.1.keep hb (by decide), h.2.1.keep hb (by decide), h.2.2.1.keep hb, h.2.2.2.1.trans (hb.mono h.2.2.2.1.size), h.2.2.2.2.keep hb⟩) ?_ ?_ ?_
  · rintro (_|_|_|_|_|_|_|j) v w1 w2 hb h
    all_goals first | exact h | exact SigAt.below h hb
  · refine ⟨fun us wx hx hd => ?_, fun us wx hx hd => ?_, fun us wx hx hd => ?_, fun us wx hx hd => ?_, fun us wx hx hd => ?_, fun us wx hx hd => ?_, fun us wx hx hd => ?_, trivial⟩
    all_goals simp only [putAll, dstOf, List.getElem?_toArray, List.getElem?_cons_succ, List.getElem?_cons_zero, Option.bind_some]
    all_goals go_frame
    · go_simp; exact Below.refl _ _
    · obtain ⟨c0, c1, c2, c3⟩ := hx.1.dg
      have H := Lib.hid hx; clear hx
      go_simp
      first | exact Below.refl _ _ | exact ⟨by and_intros <;> rfl, Below.refl _ _⟩
    · go_simp; exact Below.refl _ _
    · rw [show us 1 = dgv x from hd 1 rfl, show us 2 = .int .i64 0 from hd 2 rfl]
      go_simp
      refine (rseed_any x _).mono ?_
      rw [Hsd.out]
      rintro e w1 ⟨rfl, hb1⟩
      exact ⟨_, rfl, rfl, hb1⟩
    · obtain ⟨c0, c1, c2, c3⟩ := hx.2.1.dg
      have H := Lib.hid hx; clear hx
      go_simp
      first | exact Below.refl _ _ | exact ⟨by and_intros <;> rfl, Below.refl _ _⟩
    · rw [show us 3 = dgv y from hd 3 rfl, show us 4 = dgv m from hd 4 rfl]
      go_simp
      refine (rsign_any y m _).mono ?_
      rw [Hol.out]
      rintro e w1 ⟨v, rfl, hb1, hown⟩
      exact ⟨_, rfl, own_sig hown, hb1⟩
    · go_simp; exact Below.refl _ _
  rintro us W1 ⟨hx3, hm3, hr3, hb5, ht3⟩ hF
  have e0 : us 0 = .int .i64 0 := hF 0 (by decide)
  have e6 : us 6 = .slice none 0 0 := hF 6 (by decide)
  have hv5 : SigAt W1 (us 5) l := hF 5 (by decide)
  obtain ⟨A, cv, e5⟩ : ∃ A cv, us 5 = .slice A l.length cv := by obtain ⟨A, cv, h, _⟩ := hv5; exact ⟨A, cv, h⟩
  rw [e5] at hv5
  have hll : l.length = 35 := by rw [← Hol.out]; exact Ot.sign_length pair y m
  have hoff := hv5.off ht3 (by omega)
  have hv6 := ((hv5.set hoff 0 (.int .i64 0)).set hoff 1 (.slice A l.length cv)).set hoff 2 (.slice none 0 0)
  have hod2 : oneD x m = l := by rw [oneD, Hsd.out, Hol.out]
  have Hv6 := Lib.hid hv6; have Hod2 := Lib.hid hod2; clear hv6 hod2 hll hoff hv5
  clear hF hx3 hm3 hx2 hm2
  simp only [putAll, dstOf, List.getElem?_toArray, List.getElem?_cons_succ, List.getElem?_cons_zero, Option.bind_some, List.drop_succ_cons, List.drop_zero]
  rw [e0, e5, e6]
  obtain ⟨⟨⟨q0, r0⟩, ⟨q1, r1⟩, ⟨q2, r2⟩⟩, hfz⟩ := hr3
  have f0 := hfz 0 (by decide)
  have f1 := hfz 1 (by decide)
  have f2 := hfz 2 (by decide)
  clear hfz e0 e5 e6
  go_frame
  go_wp2_with fail
  exact bodyPost_ret (v := .tuple #[.agg #[.int .i64 0, .slice A l.length cv, .slice none 0 0], .int .i64 0]) (by simp [results, Tryd.results61, go_sem, r0, r1, r2]) rfl ⟨_, rfl, ((hb5.setCell (by simp; omega) _).setCell (by simp; omega) _).setCell (by simp; omega) _, by rw [Hod2.out]; exact Hv6.out⟩
end Go.Proofs.YtpodfmnnabepaaaDoor

namespace Go.Proofs.YtpodfmnnabepaaaDoor
open Go.RowKit
open Ot (Dg)
/-- A signed message's value: builder, index, values, path. -/
def sgdV (b : Dg) (i : Int) (v p : Value) : Value := .agg #[.int .u32 b.a.toNat, .int .u32 b.b.toNat, .int .u32 b.c.toNat, .int .u32 b.d.toNat, .int .i64 i, v, p]
/-- Seven cells that may be written. -/
def Res7 (w : World) (b : Nat) : Prop := (∀ j, j < 7 → ∃ v, w.cell? ⟨b, j, none⟩ = some v) ∧ ∀ j, j < 7 → w.frozen? ⟨b, j, none⟩ = false
theorem Res7.below {w w' : World} {b B : Nat} (h : Res7 w b) (hb : Below B w w') (hB : b < B) : Res7 w' b :=
  ⟨fun j hj => by obtain ⟨v, hv⟩ := h.1 j hj; exact ⟨v, (hb.cell (p := ⟨b, j, none⟩) hB).trans hv⟩, fun j hj => (hb.frozen (p := ⟨b, j, none⟩) hB).trans (h.2 j hj)⟩
theorem Res7.lt {w : World} {b : Nat} (h : Res7 w b) : b < w.heap.size := by obtain ⟨v, hv⟩ := h.1 0 (by decide); exact World.block_lt_of_cell? w _ hv
theorem Res7.keep {w w' : World} {b : Nat} (h : Res7 w b) (hb : Below w.heap.size w w') : Res7 w' b := h.below hb h.lt
theorem Res7.new (w : World) (b : Nat) (c : Array Value) (t : TypeId) (hb : b = w.heap.size) (hc : c.size = 7) : Res7 (w.alloc (.cells c t)) b := by
  subst hb
  refine ⟨fun j hj => ⟨c[j]'(by omega), ?_⟩, fun j _ => World.frozen?_alloc_new w _ t j⟩
  rw [World.cell?_alloc_new]; exact Array.getElem?_eq_getElem (by omega)
set_option maxRecDepth 100000 in
set_option maxHeartbeats 4000000 in
theorem lsign_any (x m : Dg) (w : World) : Calls Tryd.prog 44 #[dgv x, dgv m] w fun e w' => ∃ v, e = .returned (sgdV (pubD x) 0 v (.slice none 0 0)) ∧ Below w.heap.size w w' ∧ SigAt w' v (oneD x m) := by
  go_enter Tryd.func44, Tryd.ntmps44
  go_wp2_with fail
  generalize hW : ((w.alloc (.cells #[.int .u32 x.a.toNat, .int .u32 x.b.toNat, .int .u32 x.c.toNat, .int .u32 x.d.toNat] 24)).alloc (.cells #[.int .u32 m.a.toNat, .int .u32 m.b.toNat, .int .u32 m.c.toNat, .int .u32 m.d.toNat] 24)).alloc (.cells #[.int .u32 0, .int .u32 0, .int .u32 0, .int .u32 0, .int .i64 0, .slice none 0 0, .slice none 0 0] 59) = W
  have hb0 : Below w.heap.size w W := by subst hW; exact (((Below.refl _ _).alloc (Nat.le_refl _) _).alloc (by simp) _).alloc (by simp; omega) _
  have hx0 : Arr W w.heap.size 4 (fnOf x) := by subst hW; exact ((Arr.new w 4 (fnOf x) 24 _ rfl).alloc (by simp) _).alloc (by simp; omega) _
  have hm0 : Arr W (w.heap.size + 1) 4 (fnOf m) := by subst hW; exact (Arr.new' (w.alloc _) (w.heap.size + 1) 4 (fnOf m) 24 _ (by simp) rfl).alloc (by simp) _
  have ht0 : Thin7 W (w.heap.size + 1 + 1) := by subst hW; exact Thin7.new _ _ _ _ (by simp) (by simp)
  have hr0 : Res7 W (w.heap.size + 1 + 1) := by subst hW; exact Res7.new _ _ _ _ (by simp) (by simp)
  have hs0 : W.heap.size = w.heap.size + 3 := by subst hW; simp
  clear hW
  refine (rpublic_any x _).mono ?_
  rintro e w1 ⟨rfl, hb1⟩
  have hx1 := hx0.keep hb1 (by decide)
  have hm1 := hm0.keep hb1 (by decide)
  have hr1 := hr0.keep hb1
  have ht1 := ht0.keep hb1
  have hb2 := hb0.trans (hb1.mono hb0.size)
  have hs1 : w.heap.size + 3 ≤ w1.heap.size := by have := hb1.size; omega
  clear hb0 hb1 hx0 hm0 hr0 ht0 hs0
  generalize hpd : pubD x = p
  have Hpd := Lib.hid hpd; clear hpd
  obtain ⟨c0, c1, c2, c3⟩ := hx1.dg
  obtain ⟨n0, n1, n2, n3⟩ := hm1.dg
  have Hx1 := Lib.hid hx1; have Hm1 := Lib.hid hm1; have Hr1 := Lib.hid hr1; have Ht1 := Lib.hid ht1; clear hx1 hm1 hr1 ht1
  have l0 : w.heap.size < w1.heap.size := by omega
  have l1 : w.heap.size + 1 < w1.heap.size := by omega
  have l2 : w.heap.size + 1 + 1 < w1.heap.size := by omega
  have m0 : w.heap.size ≠ w1.heap.size := by omega
  have m1 : w.heap.size + 1 ≠ w1.heap.size := by omega
  have Hs1 := Lib.hid hs1; clear hs1
  go_wp2_with fail
  have hp1 := Arr.new w1 4 (fnOf p) 24 #[.int .u32 p.a.toNat, .int .u32 p.b.toNat, .int .u32 p.c.toNat, .int .u32 p.d.toNat] rfl
  have hba : Below w1.heap.size w1 (w1.alloc (.cells #[.int .u32 p.a.toNat, .int .u32 p.b.toNat, .int .u32 p.c.toNat, .int .u32 p.d.toNat] 24)) := (Below.refl _ _).alloc (Nat.le_refl _) _
  have hr2 := Hr1.out.keep hba
  have ht2 := Ht1.out.keep hba
  have hb3 : Below w.heap.size w (w1.alloc (.cells #[.int .u32 p.a.toNat, .int .u32 p.b.toNat, .int .u32 p.c.toNat, .int .u32 p.d.toNat] 24)) := hb2.trans (hba.mono hb2.size)
  refine (rksign_any x m _).mono ?_
  rintro e w2 ⟨v, rfl, hb4, hv⟩
  have hp2 := hp1.keep hb4 (by decide)
  have hr3 := hr2.keep hb4
  have ht3 := ht2.keep hb4
  have hb5 := hb3.trans (hb4.mono hb3.size)
  have hl2 : w1.heap.size < w2.heap.size := hp2.lt (by decide)
  clear hb4 hba hb3 hp1 hr2 ht2 c0 c1 c2 c3 n0 n1 n2 n3 hb2 m0 m1
  generalize hpb : w1.heap.size = P at *
  have hll : (oneD x m).length = 35 := Ot.sign_length pair _ m
  generalize hod : oneD x m = l at *
  have hoff := hv.off ht3 (by omega)
  obtain ⟨d0, d1, d2, d3⟩ := hp2.dg
  obtain ⟨A, cv, hve⟩ : ∃ A cv, v = .slice A l.length cv := by obtain ⟨A, cv, h, _⟩ := hv; exact ⟨A, cv, h⟩
  subst hve
  have q0 : w.heap.size + 1 + 1 < w2.heap.size := hr3.lt
  have q1 : w.heap.size + 1 + 1 ≠ w2.heap.size := by omega
  have q2 : w.heap.size + 1 + 1 ≠ P := by omega
  obtain ⟨v0, r0⟩ := hr3.1 0 (by decide)
  obtain ⟨v1, r1⟩ := hr3.1 1 (by decide)
  obtain ⟨v2, r2⟩ := hr3.1 2 (by decide)
  obtain ⟨v3, r3⟩ := hr3.1 3 (by decide)
  obtain ⟨v4, r4⟩ := hr3.1 4 (by decide)
  obtain ⟨v5, r5⟩ := hr3.1 5 (by decide)
  obtain ⟨v6, r6⟩ := hr3.1 6 (by decide)
  have f0 := hr3.2 0 (by decide)
  have f1 := hr3.2 1 (by decide)
  have f2 := hr3.2 2 (by decide)
  have f3 := hr3.2 3 (by decide)
  have f4 := hr3.2 4 (by decide)
  have f5 := hr3.2 5 (by decide)
  have f6 := hr3.2 6 (by decide)
  have Hv := Lib.hid hv; have Hoff := Lib.hid hoff; have Hod := Lib.hid hod; have Hll := Lib.hid hll; clear hv hoff hod hll hr3 ht3 hp2
  go_wp2_with fail
  have hB : w.heap.size ≤ w.heap.size + 1 + 1 := by omega
  have hb6 := ((((((hb5.setCell (p := ⟨w.heap.size + 1 + 1, 0, none⟩) hB (.int .u32 p.a.toNat)).setCell (p := ⟨w.heap.size + 1 + 1, 1, none⟩) hB (.int .u32 p.b.toNat)).setCell (p := ⟨w.heap.size + 1 + 1, 2, none⟩) hB (.int .u32 p.c.toNat)).setCell (p := ⟨w.heap.size + 1 + 1, 3, none⟩) hB (.int .u32 p.d.toNat)).setCell (p := ⟨w.heap.size + 1 + 1, 4, none⟩) hB (.int .i64 0)).setCell (p := ⟨w.heap.size + 1 + 1, 5, none⟩) hB (.slice A l.length cv)).setCell (p := ⟨w.heap.size + 1 + 1, 6, none⟩) hB (.slice none 0 0)
  have hb7 := hb6.alloc (o := .cells #[.int .i64 0, .slice A l.length cv, .slice none 0 0] 57) hb6.size
  have hv1 := ((((((Hv.out.set Hoff.out 0 (.int .u32 p.a.toNat)).set Hoff.out 1 (.int .u32 p.b.toNat)).set Hoff.out 2 (.int .u32 p.c.toNat)).set Hoff.out 3 (.int .u32 p.d.toNat)).set Hoff.out 4 (.int .i64 0)).set Hoff.out 5 (.slice A l.length cv)).set Hoff.out 6 (.slice none 0 0)
  have hv2 := hv1.below ((Below.refl _ _).alloc (Nat.le_refl _) (.cells #[.int .i64 0, .slice A l.length cv, .slice none 0 0] 57))
  refine bodyPost_ret (v := sgdV p 0 (.slice A l.length cv) (.slice none 0 0)) ?_ rfl ⟨_, by rw [Hpd.out], hb7, by rw [Hod.out]; exact hv2⟩
  simp [results, Tryd.results44, go_sem, r0, r1, r2, r3, r4, r5, r6, q0, sgdV]
end Go.Proofs.YtpodfmnnabepaaaDoor

namespace Go.Proofs.YtpodfmnnabepaaaDoor
open Go.RowKit
open Ot (Dg)
theorem take_succ_d (l : List Dg) (k : Nat) (h : k < l.length) : l.take (k + 1) = l.take k ++ [l.getD k Ot.zeroD] := by
  rw [List.take_add_one, List.getElem?_eq_getElem h, List.getD_eq_getElem?_getD, List.getElem?_eq_getElem h]; rfl
theorem getD_mem (l : List Dg) (k : Nat) (h : k < l.length) : l.getD k Ot.zeroD ∈ l := by
  rw [List.getD_eq_getElem?_getD, List.getElem?_eq_getElem h]; exact List.getElem_mem h
set_option maxRecDepth 100000 in
set_option maxHeartbeats 4000000 in
theorem index_any (v : Value) (l : List Dg) (d : Dg) (w : World) (hv : SigAt w v l) :
    Calls Tryd.prog 65 #[v, dgv d] w fun e w' => ∃ n : Int, e = .returned (.int .i64 n) ∧ decide (0 ≤ n) = decide (d ∈ l) ∧ Below w.heap.size w w' := by
  obtain ⟨A, c, rfl, hlen, hcs⟩ := hv
  have Hcs := Lib.hid hcs; clear hcs
  go_enter Tryd.func65, Tryd.ntmps65
  go_wp2_with fail
  have hx0 := Arr.new w 4 (fnOf d) 24 #[.int .u32 d.a.toNat, .int .u32 d.b.toNat, .int .u32 d.c.toNat, .int .u32 d.d.toNat] rfl
  have hb0 : Below w.heap.size w (w.alloc (.cells #[.int .u32 d.a.toNat, .int .u32 d.b.toNat, .int .u32 d.c.toNat, .int .u32 d.d.toNat] 24)) := (Below.refl _ _).alloc (Nat.le_refl _) _
  go_loopw [8] (fun i wr => ∃ k : Nat, k ≤ l.length ∧ i = .int .i64 k ∧ d ∉ l.take k ∧ Below w.heap.size w wr ∧ Arr wr w.heap.size 4 (fnOf d)) (fun i wr => l.length - (intOf i).toNat)
  case atStart => exact ⟨0, by omega, rfl, by simp, hb0, hx0⟩
  case round =>
    obtain ⟨k, hk, rfl, hno, hb, hx⟩ := hrel
    clear hx0 hb0
    by_cases hlt : k < l.length
    · obtain ⟨b, off, rfl, hbl, hc⟩ := Hcs.out (by omega)
      obtain ⟨s0, s1, s2, s3⟩ := (hc k hlt).below hb hbl
      obtain ⟨t0, t1, t2, t3⟩ := hx.dg
      have hts := take_succ_d l k hlt
      have hmem := getD_mem l k hlt
      generalize l.getD k Ot.zeroD = x at *
      have hq := dg_eql d x
      have hk1 : (k : Int) < l.length := by omega
      have hk0 : (0 : Int) ≤ (k : Int) := by omega
      have hd : decide ((k : Int) < l.length) = true := by simp; omega
      have Hts := Lib.hid hts; have Hno := Lib.hid hno; have Hmem := Lib.hid hmem; have Hx := Lib.hid hx; have Hc := Lib.hid hc; have Hlen := Lib.hid hlen; have Hlt := Lib.hid hlt; have Hk := Lib.hid hk
      clear hts hno hmem hx hc hlen hlt hk
      have q1 : IntKind.i64.wrap ((k : Int) + 1) = (k : Int) + 1 := IntWalk.i64_in _ (by have := Hlt.out; have := Hlen.out; omega)
      by_cases he : d = x
      · have hde : decide (d = x) = true := by simp [he]
        rw [hde] at hq
        have He := Lib.hid he; clear he hde
        go_wp2_with fail
        go_quiet (fail)
        go_wp2_with fail
        refine bodyPost_ret (v := .int .i64 (k : Int)) (by simp [results, Tryd.results65, go_sem]) rfl ⟨k, rfl, ?_, pw_drewN hb _⟩
        have hm : d ∈ l := by rw [He.out]; exact Hmem.out
        simp [hm]
      · have hde : decide (d = x) = false := by simp [he]
        rw [hde] at hq
        have He := Lib.hid he; clear he hde
        go_wp2_with fail
        go_quiet (fail)
        go_wp2_with fail
        refine ⟨⟨k + 1, Hlt.out, by simp, ?_, pw_drewN hb _, Hx.out⟩, ?_⟩
        · rw [Hts.out]
          have := Hno.out
          have := He.out
          simp [*]
        · have := Hlt.out
          simp [intOf]; omega
    · obtain rfl : k = l.length := by omega
      rw [List.take_length] at hno
      have Hno := Lib.hid hno; clear hno
      go_wp2_with fail
      refine bodyPost_ret (v := .int .i64 (-1)) (by simp [results, Tryd.results65, go_sem]) rfl ⟨-1, rfl, ?_, hb⟩
      have := Hno.out
      simp [this]
set_option maxHeartbeats 4000000 in
theorem contains_any (v : Value) (l : List Dg) (d : Dg) (w : World) (hv : SigAt w v l) :
    Calls Tryd.prog 54 #[v, dgv d] w fun e w' => e = .returned (.bool (decide (d ∈ l))) ∧ Below w.heap.size w w' := by
  go_enter Tryd.func54, Tryd.ntmps54
  go_wp2_with fail
  have hb0 : Below w.heap.size w (w.alloc (.cells #[.int .u32 d.a.toNat, .int .u32 d.b.toNat, .int .u32 d.c.toNat, .int .u32 d.d.toNat] 24)) := (Below.refl _ _).alloc (Nat.le_refl _) _
  refine (index_any v l d _ (hv.below hb0)).mono ?_
  rintro e w1 ⟨n, rfl, hn, hb1⟩
  have hb2 := hb0.trans (hb1.mono hb0.size)
  clear hb0 hb1 hv
  generalize hq : decide (d ∈ l) = q at *
  have Hq := Lib.hid hq; clear hq
  go_wp2_with fail
  exact bodyPost_ret (v := .bool q) (by simp [results, Tryd.results54, go_sem]) rfl ⟨by rw [Hq.out], hb2⟩
/-- A policy's value. -/
def polV (v : Value) (need : Int) : Value := .agg #[v, .int .i64 need]
/-- May it be? -/
def rightP (bs : List Dg) (need : Int) : Bool := decide (1 ≤ bs.length ∧ bs.length ≤ 20 ∧ 1 ≤ need ∧ need ≤ bs.length) && decide bs.Nodup
theorem SigAt.take {w : World} {A : Option Addr} {c : Nat} {l : List Dg} (h : SigAt w (.slice A l.length c) l) (k : Nat) (hk : k ≤ l.length) : SigAt w (.slice A k c) (l.take k) := by
  obtain ⟨A', c', e, hlen, hc⟩ := h
  cases e
  have hlk : (l.take k).length = k := by simp [hk]
  refine ⟨A, c, by rw [hlk], by omega, fun hp => ?_⟩
  obtain ⟨b, off, rfl, hbl, hc⟩ := hc (by omega)
  refine ⟨b, off, rfl, hbl, fun i hi => ?_⟩
  rw [hlk] at hi
  have : (l.take k).getD i Ot.zeroD = l.getD i Ot.zeroD := by simp [List.getD_eq_getElem?_getD, hi]
  rw [this]
  exact hc i (by omega)
theorem nodup_step (l : List Dg) (k : Nat) (h : k < l.length) (hn : (l.take k).Nodup) : (l.take (k + 1)).Nodup ↔ l.getD k Ot.zeroD ∉ l.take k := by
  rw [take_succ_d l k h, List.nodup_append]
  constructor
  · rintro ⟨_, _, h3⟩ hm
    exact h3 _ hm _ (by simp) rfl
  · intro h3
    refine ⟨hn, by simp, ?_⟩
    intro a ha b hb e
    simp only [List.mem_singleton] at hb
    subst hb; subst e; exact h3 ha
/-- A slice whose room is enough for its length. -/
def Capd (v : Value) : Prop := ∃ A n c, v = .slice A n c ∧ n ≤ c ∧ c ≤ 9223372036854775807
set_option maxRecDepth 100000 in
set_option maxHeartbeats 4000000 in
theorem right_any (v : Value) (l : List Dg) (need : Int) (w : World) (hv : SigAt w v l) (hcap : Capd v) :
    Calls Tryd.prog 34 #[polV v need] w fun e w' => e = .returned (.bool (rightP l need)) ∧ Below w.heap.size w w' := by
  obtain ⟨A, c, rfl, hlen, _⟩ := id hv
  obtain ⟨A', n', c', e, hc1, hc2⟩ := hcap
  cases e
  unfold polV
  have hba : Below w.heap.size w (w.alloc (.cells #[.slice A l.length c, .int .i64 need] 47)) := (Below.refl _ _).alloc (Nat.le_refl _) _
  have Hlen := Lib.hid hlen
  by_cases g1 : (l.length : Int) < 1
  · have t1 : decide ((l.length : Int) < 1) = true := by simp; omega
    have hr : rightP l need = false := by simp [rightP]; omega
    rw [hr]
    clear hv
    go_enter Tryd.func34, Tryd.ntmps34
    go_wp2_with fail
    exact bodyPost_ret (v := .bool false) (by simp [results, Tryd.results34, go_sem]) rfl ⟨rfl, hba⟩
  have t1 : decide ((l.length : Int) < 1) = false := by simp; omega
  by_cases g2 : (20 : Int) < l.length
  · have t2 : decide ((20 : Int) < l.length) = true := by simp; omega
    have hr : rightP l need = false := by simp [rightP]; omega
    rw [hr]
    clear hv
    go_enter Tryd.func34, Tryd.ntmps34
    go_wp2_with fail
    exact bodyPost_ret (v := .bool false) (by simp [results, Tryd.results34, go_sem]) rfl ⟨rfl, hba⟩
  have t2 : decide ((20 : Int) < l.length) = false := by simp; omega
  by_cases g3 : need < 1
  · have t3 : decide (need < 1) = true := by simp; omega
    have hr : rightP l need = false := by simp [rightP]; omega
    rw [hr]
    clear hv
    go_enter Tryd.func34, Tryd.ntmps34
    go_wp2_with fail
    exact bodyPost_ret (v := .bool false) (by simp [results, Tryd.results34, go_sem]) rfl ⟨rfl, hba⟩
  have t3 : decide (need < 1) = false := by simp; omega
  by_cases g4 : (l.length : Int) < need
  · have t4 : decide ((l.length : Int) < need) = true := by simp; omega
    have hr : rightP l need = false := by simp [rightP]; omega
    rw [hr]
    clear hv
    go_enter Tryd.func34, Tryd.ntmps34
    go_wp2_with fail
    exact bodyPost_ret (v := .bool false) (by simp [results, Tryd.results34, go_sem]) rfl ⟨rfl, hba⟩
  have t4 : decide ((l.length : Int) < need) = false := by simp; omega
  have hr : rightP l need = decide l.Nodup := by
    have : (1 ≤ l.length ∧ l.length ≤ 20 ∧ 1 ≤ need ∧ need ≤ l.length) := by omega
    simp [rightP, this]
  have Hr := Lib.hid hr; clear hr
  have Hv := Lib.hid hv; clear hv
  have hpc : (w.alloc (.cells #[.slice A l.length c, .int .i64 need] 47)).cell? ⟨w.heap.size, 0, none⟩ = some (.slice A l.length c) := World.cell?_alloc_new _ _ _ 0
  go_enter Tryd.func34, Tryd.ntmps34
  go_wp2_with fail
  clear t1 t2 t3 t4
  have Hpc := Lib.hid hpc; clear hpc
  go_loopw [29] (fun i wr => ∃ k : Nat, k ≤ l.length ∧ i = .int .i64 k ∧ (l.take k).Nodup ∧ Below w.heap.size w wr ∧ wr.cell? ⟨w.heap.size, 0, none⟩ = some (.slice A l.length c)) (fun i wr => l.length - (intOf i).toNat)
  case atStart => exact ⟨0, by omega, rfl, by simp, hba, Hpc.out⟩
  case round =>
    obtain ⟨k, hk, rfl, hno, hb, hpc⟩ := hrel
    clear hba
    by_cases hlt : k < l.length
    · have hvr := Hv.out.below hb
      obtain ⟨A', c', e, _, hcs⟩ := Hv.out
      cases e
      obtain ⟨b, off, rfl, hbl, hc⟩ := hcs (by omega)
      clear hcs
      obtain ⟨s0, s1, s2, s3⟩ := (hc k hlt).below hb hbl
      have hns := nodup_step l k hlt hno
      generalize hx : l.getD k Ot.zeroD = x at *
      have hk1 : (k : Int) < l.length := by omega
      have hk0 : (0 : Int) ≤ (k : Int) := by omega
      have hkc : (k : Int) ≤ (c : Int) := by omega
      have hd : decide ((k : Int) < l.length) = true := by simp; omega
      have hwl : w.heap.size < wr.heap.size := World.block_lt_of_cell? wr _ hpc
      have hwn : w.heap.size ≠ wr.heap.size := by omega
      have hb1 : Below w.heap.size w (wr.alloc (.cells #[.int .u32 x.a.toNat, .int .u32 x.b.toNat, .int .u32 x.c.toNat, .int .u32 x.d.toNat] 24)) := hb.alloc (by omega) _
      have hx1 := Arr.new wr 4 (fnOf x) 24 #[.int .u32 x.a.toNat, .int .u32 x.b.toNat, .int .u32 x.c.toNat, .int .u32 x.d.toNat] rfl
      have hba : Below wr.heap.size wr (wr.alloc (.cells #[.int .u32 x.a.toNat, .int .u32 x.b.toNat, .int .u32 x.c.toNat, .int .u32 x.d.toNat] 24)) := (Below.refl _ _).alloc (Nat.le_refl _) _
      have hpc1 := cell_keep hpc hba
      have hv1 := hvr.below hba
      have Hns := Lib.hid hns; have Hno := Lib.hid hno; have Hx := Lib.hid hx; have Hc := Lib.hid hc; have Hlt := Lib.hid hlt; have Hk := Lib.hid hk; have Hvr := Lib.hid hvr; have Hx1 := Lib.hid hx1; have Hpc1 := Lib.hid hpc1; have Hv1 := Lib.hid hv1
      clear hns hno hx hc hlt hk hvr hba hx1 hpc1 hv1 hlen
      have q1 : IntKind.i64.wrap ((k : Int) + 1) = (k : Int) + 1 := IntWalk.i64_in _ (by have := Hlt.out; have := Hlen.out; omega)
      go_upto_region 7 with fail
      refine wp_region_inv (fun wx => wx.cell? ⟨w.heap.size, 0, none⟩ = some (.slice (some ⟨b, off, none⟩) l.length c) ∧ Arr wx wr.heap.size 4 (fnOf x) ∧ SigAt wx (.slice (some ⟨b, off, none⟩) l.length c) l ∧ Below w.heap.size w wx) (fun j v w' => match j with | 0 => v = .pointer (some ⟨w.heap.size, 0, none⟩) | 1 => v = .slice (some ⟨b, off, none⟩) l.length c | 2 => v = .int .i64 k | 3 => v = .slice (some ⟨b, off, none⟩) k c | 4 => v = dgv x | 5 => v = .bool (decide (x ∈ l.take k)) | _ => True) 6 (by kernel_rfl) (by kernel_rfl) ⟨Hpc1.out, Hx1.out, Hv1.out, hb1.drew⟩ (fun _ _ h hb => ⟨cell_keep h.1 hb, h.2.1.keep hb (by decide), h.2.2.1.below hb, h.2.2.2.trans (hb.mono h.2.2.2.size)⟩) ?_ ?_ ?_
      · rintro (_|_|_|_|_|_|j) v w1 w2 hb h
        all_goals exact h
      · refine ⟨fun us wx hx hd => ?_, fun us wx hx hd => ?_, fun us wx hx hd => ?_, fun us wx hx hd => ?_, fun us wx hx hd => ?_, fun us wx hx hd => ?_, trivial⟩
        all_goals simp only [putAll, dstOf, List.getElem?_toArray, List.getElem?_cons_succ, List.getElem?_cons_zero, Option.bind_some]
        all_goals go_frame
        · go_simp; exact Below.refl _ _
        · rw [show us 0 = .pointer (some ⟨w.heap.size, 0, none⟩) from hd 0 rfl]
          have c0 := hx.1
          have H := Lib.hid hx; clear hx
          go_simp
          first | exact Below.refl _ _ | exact ⟨by and_intros <;> rfl, Below.refl _ _⟩
        · go_simp; exact Below.refl _ _
        · rw [show us 1 = .slice (some ⟨b, off, none⟩) l.length c from hd 1 rfl, show us 2 = .int .i64 k from hd 2 rfl]
          go_simp
          first | exact Below.refl _ _ | exact ⟨by and_intros <;> rfl, Below.refl _ _⟩
        · obtain ⟨c0, c1, c2, c3⟩ := hx.2.1.dg
          have H := Lib.hid hx; clear hx
          go_simp
          first | exact Below.refl _ _ | exact ⟨by and_intros <;> rfl, Below.refl _ _⟩
        · rw [show us 3 = .slice (some ⟨b, off, none⟩) k c from hd 3 rfl, show us 4 = dgv x from hd 4 rfl]
          go_simp
          refine (contains_any _ (l.take k) x _ (hx.2.2.1.take k Hk.out)).mono ?_
          rintro e w1 ⟨rfl, hb1⟩
          exact ⟨_, rfl, rfl, hb1⟩
      rintro us W1 ⟨hpc2, _, _, hb2⟩ hF
      have e5 : us 5 = .bool (decide (x ∈ l.take k)) := hF 5 (by decide)
      clear hF
      simp only [putAll, dstOf, List.getElem?_toArray, List.getElem?_cons_succ, List.getElem?_cons_zero, Option.bind_some, List.drop_succ_cons, List.drop_zero]
      rw [e5]
      have Hpc2 := Lib.hid hpc2; clear hpc2 e5
      by_cases hm : x ∈ l.take k
      · have hmd : decide (x ∈ l.take k) = true := by simp [hm]
        rw [hmd]
        have Hm := Lib.hid hm; clear hm hmd
        go_frame
        go_wp2_with fail
        refine bodyPost_ret (v := .bool false) (by simp [results, Tryd.results34, go_sem]) rfl ⟨?_, hb2⟩
        have hnn : ¬ l.Nodup := fun h => (Hns.out.1 (h.sublist (List.take_sublist _ _))) Hm.out
        rw [Hr.out]; simp [hnn]
      · have hmd : decide (x ∈ l.take k) = false := by simp [hm]
        rw [hmd]
        have Hm := Lib.hid hm; clear hm hmd
        go_frame
        go_wp2_with fail
        refine ⟨⟨k + 1, Hlt.out, by simp, Hns.out.2 Hm.out, hb2, Hpc2.out⟩, ?_⟩
        have := Hlt.out
        simp [intOf]; omega
    · obtain rfl : k = l.length := by omega
      rw [List.take_length] at hno
      have hdn : decide l.Nodup = true := by simp [hno]
      have Hdn := Lib.hid hdn
      clear hdn hno
      go_wp2_with fail
      exact bodyPost_ret (v := .bool true) (by simp [results, Tryd.results34, go_sem]) rfl ⟨by rw [Hr.out, Hdn.out], hb⟩
set_option maxHeartbeats 4000000 in
theorem bad_any (v : Value) (need : Int) (w : World) (hn : IntKind.i64.wrap (need - 1) = need - 1) :
    Calls Tryd.prog 36 #[polV v need] w fun e w' => e = .returned (.int .i64 (need - 1)) ∧ Below w.heap.size w w' := by
  unfold polV
  have hba : Below w.heap.size w (w.alloc (.cells #[v, .int .i64 need] 47)) := (Below.refl _ _).alloc (Nat.le_refl _) _
  go_enter Tryd.func36, Tryd.ntmps36
  go_wp2_with fail
  exact bodyPost_ret (v := .int .i64 (need - 1)) (by simp [results, Tryd.results36, go_sem]) rfl ⟨rfl, hba⟩
end Go.Proofs.YtpodfmnnabepaaaDoor

namespace Go
open Go.RowKit
section
variable {P : Program} {ops : Array Oper} {md : Region.Mode}
/-- Operation i's part: c is the one that turns S false into S true. -/
def OpYieldsS (P : Program) (md : Region.Mode) (ops : Array Oper) (S : Bool → World → Prop) (R : World → World → Prop) (F : Nat → Value → World → Prop) (n c : Nat) (a0 : Act) (i : Nat) (o : Oper) : Prop :=
  ∀ (us : Nat → Value) (w : World) (b : Bool), (i = c → b = false) → S b w → (∀ j, (o.after.toList.any fun e => Region.binds md e && decide (e.on = j)) = true → F j (us j) w) →
    GivesK P (fun v w' => F i v w' ∧ R w w' ∧ S (b || decide (i = c)) w') ((execOp (putAll ops us n a0).eval o).run P w)
def invHeadS (P : Program) (md : Region.Mode) (ops : Array Oper) (S : Bool → World → Prop) (R : World → World → Prop) (F : Nat → Value → World → Prop) (n c : Nat) (a0 : Act) : List Oper → Nat → Prop
  | [], _ => True
  | o :: l, k => OpYieldsS P md ops S R F n c a0 k o ∧ invHeadS P md ops S R F n c a0 l (k + 1)
theorem invHeadS_get {S : Bool → World → Prop} {R : World → World → Prop} {F : Nat → Value → World → Prop} {n c : Nat} {a0 : Act} : ∀ (l : List Oper) (k : Nat), invHeadS P md ops S R F n c a0 l k → ∀ j o, l[j]? = some o → OpYieldsS P md ops S R F n c a0 (k + j) o
  | [], _, _, _, _, h => by simp at h
  | x :: l, k, h, 0, o, ho => by obtain rfl : x = o := by simpa using ho
                                 exact h.1
  | x :: l, k, h, j + 1, o, ho => by
    have := invHeadS_get l (k + 1) h.2 j o (by simpa using ho)
    rwa [show k + 1 + j = k + (j + 1) by omega] at this
theorem wpAny_invS {S : Bool → World → Prop} {R : World → World → Prop} {F : Nat → Value → World → Prop} {n c : Nat} {a0 : Act} {Q : Exit → Act → World → Prop} (hB : Region.invB md ops n = true) (hcn : c < n)
    (hFp : ∀ j v w w', R w w' → F j v w → F j v w') (hop : ∀ i o, i < n → ops[i]? = some o → OpYieldsS P md ops S R F n c a0 i o)
    (hend : ∀ us w, S true w → (∀ j, j < n → F j (us j) w) → wpAny P md ops Q (ops.size - n) (Region.headDone ops.size n) (putAll ops us n a0) w) :
    ∀ (f : Nat) (listed : Array Bool) (us : Nat → Value) (w : World), unlistedN listed n = f → HeadInv md ops n listed → S (listed.getD c true) w → (∀ j, j < n → listed.getD j true = true → F j (us j) w) →
      wpAny P md ops Q (f + (ops.size - n)) listed (putAll ops us n a0) w := by
  obtain ⟨hle, hsc, hops, hdst, _⟩ := invB_spec hB
  intro f
  induction f with
  | zero =>
    intro listed us w hl inv hS hF
    have hdone : listed = Region.headDone ops.size n := by
      apply Array.ext
      · simp [Region.headDone, inv.size]
      · intro j h1 h2
        have hv : listed.getD j true = listed[j] := by simp [h1]
        have : (Region.headDone ops.size n)[j] = decide (j < n) := by simp [Region.headDone]
        rw [this]
        by_cases hjn : j < n
        · rw [← hv, unlistedN_zero hl j hjn]; simp [hjn]
        · rw [← hv, inv.tail j (by omega) (by rw [← inv.size]; exact h1)]; simp [hjn]
    rw [unlistedN_zero hl c hcn] at hS
    rw [Nat.zero_add, hdone]
    exact hend us w hS fun j hj => hF j hj (unlistedN_zero hl j hj)
  | succ f ih =>
    intro listed us w hl inv hS hF
    obtain ⟨k, hk, hku, hkl⟩ := unlistedN_pos (n := n) (listed := listed) (by omega)
    have hkr : k ∈ Region.ready md ops listed := by
      obtain ⟨o, ho, _, hlt⟩ := hops k hk
      refine mem_ready.2 ⟨hku, o, ho, fun e he _ => ?_⟩
      have h1 := hkl e.on (hlt e he)
      have h2 : e.on < listed.size := by rw [inv.size]; have := hlt e he; omega
      simp [h2] at h1 ⊢; exact h1
    rw [show f + 1 + (ops.size - n) = (f + (ops.size - n)) + 1 by omega]
    refine ⟨fun h0 => (by rw [h0] at hkr; cases hkr), fun i hi => ?_⟩
    obtain ⟨hiu, oi, hoi, hall⟩ := mem_ready.1 hi
    have hin : i < n := by
      rcases hsc with h | ⟨h1, h2⟩
      · rcases Nat.lt_or_ge i n with h' | h'
        · exact h'
        · rw [Array.getElem?_eq_none (by omega)] at hoi; cases hoi
      · rcases Nat.lt_or_ge n ops.size with h' | h'
        · exact Nat.lt_of_not_le fun h => tail_waits h1 h2 h' inv _ k rfl hk hku i h hi
        · rcases Nat.lt_or_ge i n with h'' | h''
          · exact h''
          · rw [Array.getElem?_eq_none (by omega)] at hoi; cases hoi
    obtain ⟨o', ho', hg, _⟩ := hops i hin
    obtain rfl : oi = o' := Option.some.inj (hoi.symm.trans ho')
    have hd : dstOf ops i = oi.dst := by simp [dstOf, hoi]
    refine GivesK.wpOp hoi hg (hop i oi hin hoi us w (listed.getD c true) (fun e => by subst e; exact hiu) hS fun j hj => ?_) fun v w' hv => ?_
    · obtain ⟨e, he, hb⟩ : ∃ e ∈ oi.after, Region.binds md e = true ∧ e.on = j := by
        obtain ⟨e, he, hb⟩ := List.any_eq_true.1 hj
        exact ⟨e, by simpa using he, by simpa using hb⟩
      have h1 := hall e he hb.1
      rw [hb.2] at h1
      have hjn : j < n := by
        obtain ⟨o2, ho2, _, hlt⟩ := hops i hin
        obtain rfl : oi = o2 := Option.some.inj (hoi.symm.trans ho2)
        have := hlt e he; omega
      have h2 : j < listed.size := by rw [inv.size]; omega
      exact hF j hjn (by simp [h2] at h1 ⊢; exact h1)
    · rw [← hd, putAll_put n a0 hdst hin]
      have hS' : S ((listed.setIfInBounds i true).getD c true) w' := by
        have h2 := hv.2.2
        by_cases hic : i = c
        · subst hic
          have hsz : i < listed.size := by rw [inv.size]; omega
          have : (listed.setIfInBounds i true).getD i true = true := by simp [hsz]
          rw [this]; simpa using h2
        · rw [getD_set_ne true hic]; simpa [hic] using h2
      refine ih _ (updV us i v) w' ?_ (inv.set hi hin) hS' fun j hj hjl => ?_
      · have := unlistedN_set hiu hin; omega
      · by_cases hji : j = i
        · subst hji; simpa [updV] using hv.1
        · rw [getD_set_ne true (Ne.symm hji)] at hjl
          simpa [updV, hji] using hFp j _ _ _ hv.2.1 (hF j hj hjl)
/-- THE LAW. -/
theorem wp_region_invS {id : Nat} {Q : Exit → Act → World → Prop} {a : Act} {w : World} {l : List Oper} (S : Bool → World → Prop) (R : World → World → Prop) (F : Nat → Value → World → Prop) (n c : Nat) (hm : P.follows .mixedOrders = true) (hB : Region.invB .any l.toArray n = true) (hcn : c < n)
    (hS : S false w.drew) (hFp : ∀ j v w w', R w w' → F j v w → F j v w')
    (hop : invHeadS P .any l.toArray S R F n c a (l.take n) 0)
    (hend : ∀ us w', S true w' → (∀ j, j < n → F j (us j) w') → wpList P l.toArray Q (l.drop n) (putAll l.toArray us n a) w') : (Code.region id l.toArray true).wp P Q a w := by
  obtain ⟨hle, _, _, _, hseq⟩ := invB_spec hB
  have hdl : (l.drop n).length = l.toArray.size - n := by simp
  have inv0 : HeadInv .any l.toArray n (Array.replicate l.toArray.size false) :=
    ⟨by simp, fun j oj _ hl => (by rw [getD_replicate_false] at hl; cases hl), fun t _ ht => getD_in (by simpa using ht) (getD_replicate_false _ _)⟩
  have hle' : n ≤ l.length := by simpa using hle
  refine wp_region_any hm ?_
  have hleft : ∀ m, m ≤ l.length → unlistedN (Array.replicate l.length false) m = m := by
    intro m
    induction m with
    | zero => intro _; rfl
    | succ m ih => intro hm; simp only [unlistedN]; rw [ih (by omega), getD_in (by simp; omega) (getD_replicate_false _ _)]; simp; omega
  have hS0 : S ((Array.replicate l.toArray.size false).getD c true) w.drew := by
    rw [getD_in (by simp; omega) (getD_replicate_false _ _)]; exact hS
  have := wpAny_invS (P := P) (Q := Q) (a0 := a) hB hcn hFp (fun i o hi ho => by
      have := invHeadS_get (l.take n) 0 hop i o (by rw [List.getElem?_take_of_lt hi]; simpa using ho)
      rwa [Nat.zero_add] at this)
    (fun us w' hS' hF => by
      have := wpAny_of_seq (md := .any) (Q' := Q) (l.drop n) n (Region.headDone l.toArray.size n) (putAll l.toArray us n a) w' (fun j => by simp [List.getElem?_drop]) (by rw [hdl]; exact hseq) (hend us w' hS' hF)
      rwa [hdl] at this)
    n (Array.replicate l.toArray.size false) (fun j => match dstOf l.toArray j with | some d => a.tmps.getD d undef | none => undef) w.drew (by simpa using hleft n hle') inv0 hS0 (fun j hj hjl => by
      rw [getD_in (by simp; omega) (getD_replicate_false _ _)] at hjl; cases hjl)
  rw [show putAll l.toArray (fun j => match dstOf l.toArray j with | some d => a.tmps.getD d undef | none => undef) n a = a from putAll_self a n, show n + (l.toArray.size - n) = l.toArray.size by omega] at this
  exact this
end
end Go
