import Derived.Test.YtpodfmnnabepaaaDoorW15
namespace Go.Proofs.YtpodfmnnabepaaaDoor
open Go.RowKit
open Ot (Dg)
/-- The four bytes of a word, the highest first. -/
def wb (u : UInt32) : List UInt8 := [UInt8.ofNat (u.toNat / 16777216), UInt8.ofNat (u.toNat / 65536), UInt8.ofNat (u.toNat / 256), UInt8.ofNat u.toNat]
def raw (m : Dg) (k : Nat) : List UInt8 := (List.range k).flatMap fun j => wb (fnOf m j)
theorem raw_succ (m : Dg) (k : Nat) : raw m (k + 1) = raw m k ++ wb (fnOf m k) := by simp [raw, List.range_succ]
theorem raw_length (m : Dg) (k : Nat) : (raw m k).length = 4 * k := by
  induction k with
  | zero => rfl
  | succ k ih => rw [raw_succ, List.length_append, ih]; simp [wb]; omega
theorem ba_append (xs ys : List UInt8) : (⟨xs.toArray⟩ : ByteArray) ++ ⟨ys.toArray⟩ = ⟨(xs ++ ys).toArray⟩ := by
  apply ByteArray.ext
  simp
def digText (m : Dg) : List UInt8 := hexOf (raw m 4)
set_option maxRecDepth 100000 in
set_option maxHeartbeats 2000000 in
theorem dtext_any (m : Dg) (w : World) : Calls Tryd.prog 45 #[dgv m] w fun e w' => e = .returned (.string ⟨(digText m).toArray⟩) ∧ Below w.heap.size w w' := by
  go_enter Tryd.func45, Tryd.ntmps45
  go_wp2_with fail
  generalize hW : w.alloc (.cells #[.int .u32 m.a.toNat, .int .u32 m.b.toNat, .int .u32 m.c.toNat, .int .u32 m.d.toNat] 24) = W
  have hbW : Below w.heap.size w W := by subst hW; exact (Below.refl _ _).alloc (Nat.le_refl _) _
  have hm0 : Arr W w.heap.size 4 (fnOf m) := by subst hW; exact Arr.new w 4 (fnOf m) 24 _ rfl
  have hsW : w.heap.size + 1 ≤ W.heap.size := by subst hW; simp
  clear hW
  go_loopw [3, 4] (fun v i wr => ∃ k : Nat, k ≤ 4 ∧ i = .int .i64 k ∧ v = .string ⟨(raw m k).toArray⟩ ∧ Below w.heap.size w wr ∧ Arr wr w.heap.size 4 (fnOf m)) (fun _ i wr => 4 - (intOf i).toNat)
  case atStart => exact ⟨0, by omega, rfl, rfl, hbW, hm0⟩
  case round =>
    obtain ⟨k, hk, rfl, rfl, hb, hm⟩ := hrel
    by_cases hlt : k < 4
    · have hk1 : (k : Int) < 4 := by omega
      have hk0 : (0 : Int) ≤ (k : Int) := by omega
      have hd : decide ((k : Int) < 4) = true := by simpa using hk1
      have hck := hm.cell k hlt
      have hsu := raw_succ m k
      have hrl := raw_length m k
      generalize fnOf m k = u at *
      generalize raw m k = xs at *
      have hu : u.toNat < 4294967296 := u.toNat_lt
      have hwb : wb u = [UInt8.ofNat (u.toNat / 16777216), UInt8.ofNat (u.toNat / 65536), UInt8.ofNat (u.toNat / 256), UInt8.ofNat u.toNat] := rfl
      generalize hb0 : UInt8.ofNat (u.toNat / 16777216) = b0 at *
      generalize hb1 : UInt8.ofNat (u.toNat / 65536) = b1 at *
      generalize hb2 : UInt8.ofNat (u.toNat / 256) = b2 at *
      generalize hb3 : UInt8.ofNat u.toNat = b3 at *
      have e0 : ((b0.toNat : Nat) : Int) = (u.toNat / 16777216 % 256 : Nat) := by rw [← hb0, UInt8.toNat_ofNat']
      have e1 : ((b1.toNat : Nat) : Int) = (u.toNat / 65536 % 256 : Nat) := by rw [← hb1, UInt8.toNat_ofNat']
      have e2 : ((b2.toNat : Nat) : Int) = (u.toNat / 256 % 256 : Nat) := by rw [← hb2, UInt8.toNat_ofNat']
      have e3 : ((b3.toNat : Nat) : Int) = (u.toNat % 256 : Nat) := by rw [← hb3, UInt8.toNat_ofNat']
      have Hsu := Lib.hid hsu; clear hsu
      have Hwb := Lib.hid hwb; clear hwb hb0 hb1 hb2 hb3
      go_upto_region 5 with fail
      refine wp_region_inv (fun wx => Below w.heap.size w wx ∧ wx.cell? ⟨w.heap.size, k, none⟩ = some (.int .u32 u.toNat) ∧ Arr wx w.heap.size 4 (fnOf m)) (fun j v w' => match j with | 0 => v = .string ⟨xs.toArray⟩ | 1 => v = .int .i64 k | 2 => v = .pointer (some ⟨w.heap.size, k, none⟩) | 3 => v = .int .u32 u.toNat | 4 => v = .int .u32 (u.toNat / 16777216 : Nat) | 5 => v = .int .u8 b0.toNat | 6 => v = .int .i64 k | 7 => v = .pointer (some ⟨w.heap.size, k, none⟩) | 8 => v = .int .u32 u.toNat | 9 => v = .int .u32 (u.toNat / 65536 : Nat) | 10 => v = .int .u8 b1.toNat | 11 => v = .int .i64 k | 12 => v = .pointer (some ⟨w.heap.size, k, none⟩) | 13 => v = .int .u32 u.toNat | 14 => v = .int .u32 (u.toNat / 256 : Nat) | 15 => v = .int .u8 b2.toNat | 16 => v = .int .i64 k | 17 => v = .pointer (some ⟨w.heap.size, k, none⟩) | 18 => v = .int .u32 u.toNat | 19 => v = .int .u8 b3.toNat | 20 => ∃ B, v = .slice (some ⟨B, 0, none⟩) 4 4 ∧ w'.cell? ⟨B, 0, none⟩ = some (.int .u8 b0.toNat) ∧ w'.cell? ⟨B, 1, none⟩ = some (.int .u8 b1.toNat) ∧ w'.cell? ⟨B, 2, none⟩ = some (.int .u8 b2.toNat) ∧ w'.cell? ⟨B, 3, none⟩ = some (.int .u8 b3.toNat) | 21 => v = .string ⟨[b0, b1, b2, b3].toArray⟩ | _ => True) 22 (by kernel_rfl) (by kernel_rfl) ⟨hb.drew, hck, hm.drew⟩ (fun _ _ h hb => ⟨h.1.trans (hb.mono h.1.size), cell_keep h.2.1 hb, h.2.2.keep hb (by decide)⟩) ?_ ?_ ?_
      · rintro (_|_|_|_|_|_|_|_|_|_|_|_|_|_|_|_|_|_|_|_|_|_|j) v w1 w2 hb h
        all_goals first | exact h | (obtain ⟨B, rfl, h0, h1, h2, h3⟩ := h; exact ⟨B, rfl, cell_keep h0 hb, cell_keep h1 hb, cell_keep h2 hb, cell_keep h3 hb⟩)
      · refine ⟨fun us wx hx hd => ?_, fun us wx hx hd => ?_, fun us wx hx hd => ?_, fun us wx hx hd => ?_, fun us wx hx hd => ?_, fun us wx hx hd => ?_, fun us wx hx hd => ?_, fun us wx hx hd => ?_, fun us wx hx hd => ?_, fun us wx hx hd => ?_, fun us wx hx hd => ?_, fun us wx hx hd => ?_, fun us wx hx hd => ?_, fun us wx hx hd => ?_, fun us wx hx hd => ?_, fun us wx hx hd => ?_, fun us wx hx hd => ?_, fun us wx hx hd => ?_, fun us wx hx hd => ?_, fun us wx hx hd => ?_, fun us wx hx hd => ?_, fun us wx hx hd => ?_, trivial⟩
        all_goals simp only [putAll, dstOf, List.getElem?_toArray, List.getElem?_cons_succ, List.getElem?_cons_zero, Option.bind_some]
        all_goals go_frame
        all_goals (obtain ⟨_, hc, _⟩ := hx)
        · go_simp; exact Below.refl _ _
        · go_simp; exact Below.refl _ _
        · rw [show us 1 = .int .i64 k from hd 1 rfl]; go_simp; exact Below.refl _ _
        · rw [show us 2 = .pointer (some ⟨w.heap.size, k, none⟩) from hd 2 rfl]; go_simp; exact Below.refl _ _
        · rw [show us 3 = .int .u32 u.toNat from hd 3 rfl]; go_simp; exact Below.refl _ _
        · rw [show us 4 = .int .u32 (u.toNat / 16777216 : Nat) from hd 4 rfl]; go_simp; first | exact Below.refl _ _ | exact ⟨by simp [IntKind.wrap, IntKind.bits, IntKind.signed], Below.refl _ _⟩ | exact ⟨by omega, Below.refl _ _⟩
        · go_simp; exact Below.refl _ _
        · rw [show us 6 = .int .i64 k from hd 6 rfl]; go_simp; exact Below.refl _ _
        · rw [show us 7 = .pointer (some ⟨w.heap.size, k, none⟩) from hd 7 rfl]; go_simp; exact Below.refl _ _
        · rw [show us 8 = .int .u32 u.toNat from hd 8 rfl]; go_simp; exact Below.refl _ _
        · rw [show us 9 = .int .u32 (u.toNat / 65536 : Nat) from hd 9 rfl]; go_simp; first | exact Below.refl _ _ | exact ⟨by simp [IntKind.wrap, IntKind.bits, IntKind.signed], Below.refl _ _⟩ | exact ⟨by omega, Below.refl _ _⟩
        · go_simp; exact Below.refl _ _
        · rw [show us 11 = .int .i64 k from hd 11 rfl]; go_simp; exact Below.refl _ _
        · rw [show us 12 = .pointer (some ⟨w.heap.size, k, none⟩) from hd 12 rfl]; go_simp; exact Below.refl _ _
        · rw [show us 13 = .int .u32 u.toNat from hd 13 rfl]; go_simp; exact Below.refl _ _
        · rw [show us 14 = .int .u32 (u.toNat / 256 : Nat) from hd 14 rfl]; go_simp; first | exact Below.refl _ _ | exact ⟨by simp [IntKind.wrap, IntKind.bits, IntKind.signed], Below.refl _ _⟩ | exact ⟨by omega, Below.refl _ _⟩
        · go_simp; exact Below.refl _ _
        · rw [show us 16 = .int .i64 k from hd 16 rfl]; go_simp; exact Below.refl _ _
        · rw [show us 17 = .pointer (some ⟨w.heap.size, k, none⟩) from hd 17 rfl]; go_simp; exact Below.refl _ _
        · rw [show us 18 = .int .u32 u.toNat from hd 18 rfl]; go_simp; first | exact Below.refl _ _ | exact ⟨by simp [IntKind.wrap, IntKind.bits, IntKind.signed], Below.refl _ _⟩ | exact ⟨by omega, Below.refl _ _⟩
        · rw [show us 5 = .int .u8 b0.toNat from hd 5 rfl, show us 10 = .int .u8 b1.toNat from hd 10 rfl, show us 15 = .int .u8 b2.toNat from hd 15 rfl, show us 19 = .int .u8 b3.toNat from hd 19 rfl]
          clear e0 e1 e2 e3
          go_simp
          exact (Below.refl _ _).alloc (Nat.le_refl _) _
        · obtain ⟨B, hB, h0, h1, h2, h3⟩ : ∃ B, us 20 = .slice (some ⟨B, 0, none⟩) 4 4 ∧ wx.cell? ⟨B, 0, none⟩ = some (.int .u8 b0.toNat) ∧ wx.cell? ⟨B, 1, none⟩ = some (.int .u8 b1.toNat) ∧ wx.cell? ⟨B, 2, none⟩ = some (.int .u8 b2.toNat) ∧ wx.cell? ⟨B, 3, none⟩ = some (.int .u8 b3.toNat) := hd 20 rfl
          rw [hB]
          have hcv := run_convert_bytes_back (P := Tryd.prog) wx 83 9 5 ⟨B, 0, none⟩ 4 [b0, b1, b2, b3] Tryd.underlying83 Tryd.underlying5 Tryd.underlying9 (by
            intro j hj
            rw [add_at]
            match j, hj with
            | 0, _ => exact h0
            | 1, _ => exact h1
            | 2, _ => exact h2
            | 3, _ => exact h3)
          simp only [List.length_cons, List.length_nil] at hcv
          clear h0 h1 h2 h3 e0 e1 e2 e3
          go_simp
          exact Below.refl _ _
      rintro us W1 hx hF
      have h0 : us 0 = .string ⟨xs.toArray⟩ := hF 0 (by decide)
      have h1 : us 21 = .string ⟨[b0, b1, b2, b3].toArray⟩ := hF 21 (by decide)
      clear hF
      simp only [putAll, dstOf, List.getElem?_toArray, List.getElem?_cons_succ, List.getElem?_cons_zero, Option.bind_some, List.drop_succ_cons, List.drop_zero]
      rw [h0, h1]
      go_frame
      clear h0 h1 e0 e1 e2 e3
      obtain ⟨hb', _, hm'⟩ := hx
      go_wp2
      go_roundw
      case rel =>
        refine ⟨k + 1, by omega, by go_num, ?_, hb', hm'⟩
        rw [Hsu.out, Hwb.out, ← ba_append]
      case measure => simp [intOf]; omega
    · obtain rfl : k = 4 := by omega
      have hsz : (⟨(raw m 4).toArray⟩ : ByteArray).size = 16 := by
        show (raw m 4).toArray.size = 16
        rw [List.size_toArray, raw_length]
      go_wp2_with fail
      refine (text_any _ (by rw [hsz]; decide) (by rw [hsz]; decide) _).mono ?_
      rintro e w2 ⟨rfl, hb2⟩
      have hr : hexOf (⟨(raw m 4).toArray⟩ : ByteArray).data.toList = digText m := rfl
      rw [hr]
      clear hr hsz
      generalize ht : digText m = t at *
      have Ht := Lib.hid ht; clear ht
      go_wp2
      go_ret
      exact ⟨by rw [Ht.out]; rfl, hb.trans (hb2.mono hb.size)⟩
theorem hexOf_wb (u : UInt32) : hexOf (wb u) = (Ot.nib u.toNat).map sgn := by
  have hu := u.toNat_lt
  simp only [hexOf, wb, List.flatMap_cons, List.flatMap_nil, List.append_nil, List.cons_append, List.nil_append, Ot.nib, List.map_cons, List.map_nil, UInt8.toNat_ofNat']
  congr 1
  · congr 1; omega
  congr 1
  · congr 1; omega
  congr 1
  · congr 1; omega
  congr 1
  · congr 1; omega
  congr 1
  · congr 1; omega
  congr 1
  · congr 1; omega
  congr 1
  · congr 1; omega
  congr 1
  · congr 1; omega
theorem digText_digs (m : Dg) : digText m = (Ot.digs m).map sgn := by
  have h : raw m 4 = wb m.a ++ wb m.b ++ wb m.c ++ wb m.d := by
    rw [show (4 : Nat) = 0 + 1 + 1 + 1 + 1 from rfl, raw_succ, raw_succ, raw_succ, raw_succ]; rfl
  have ha : ∀ x y : List UInt8, hexOf (x ++ y) = hexOf x ++ hexOf y := fun x y => by simp [hexOf]
  rw [digText, h, ha, ha, ha, hexOf_wb, hexOf_wb, hexOf_wb, hexOf_wb, Ot.digs, List.map_append, List.map_append, List.map_append]
end Go.Proofs.YtpodfmnnabepaaaDoor
