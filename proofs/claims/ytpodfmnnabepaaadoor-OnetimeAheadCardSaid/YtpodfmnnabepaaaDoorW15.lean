import Derived.Test.YtpodfmnnabepaaaDoorW13
import Derived.Laws.IdiomStrings
namespace Go.Proofs.YtpodfmnnabepaaaDoor
open Go.RowKit
open Ot (Dg)
theorem own_keep {w w' : World} {base n size : Nat} {e : TypeId} {v : Value} {xs : List Value} (h : w.ownsRow base e size v n xs) (hb : Below w.heap.size w w') : w'.ownsRow base e size v n xs :=
  h.kept (w' := w') (row := none) ⟨hb.os, hb.tape, hb.output, hb.size, fun q hq _ => hb.block q hq⟩ (by cases hv : Value.ownBlock _ <;> simp)
/-- The sign of a number below 16. -/
def sgn (d : Nat) : UInt8 := if d < 10 then UInt8.ofNat (48 + d) else UInt8.ofNat (87 + d)
def hexOf (l : List UInt8) : List UInt8 := l.flatMap fun b => [sgn (b.toNat / 16), sgn (b.toNat % 16)]
def bvs (l : List UInt8) : List Value := l.map fun b => .int .u8 (b.toNat : Nat)
theorem sgn_any (d : Nat) (hd : d ≤ 15) (w : World) : Calls Tryd.prog 74 #[.int .i64 d] w fun e w' => e = .returned (.int .u8 (sgn d).toNat) ∧ w' = w := by
  have e : ((sgn d).toNat : Int) = if (d : Int) < 10 then 48 + (d : Int) else 97 + (d : Int) - 10 := by
    unfold sgn
    by_cases h : d < 10
    · rw [if_pos h, if_pos (by omega), UInt8.toNat_ofNat']; omega
    · rw [if_neg h, if_neg (by omega), UInt8.toNat_ofNat']; omega
  rw [e]
  by_cases h : (d : Int) < 10
  · have hd1 : decide ((d : Int) < 10) = true := by simpa using h
    rw [if_pos h]
    go_enter Tryd.func74, Tryd.ntmps74
    go_wp2
    go_ret
    exact ⟨by first | rfl | (congr 2; go_num), rfl⟩
  · have hd1 : decide ((d : Int) < 10) = false := by simpa using h
    rw [if_neg h]
    go_enter Tryd.func74, Tryd.ntmps74
    go_wp2
    go_ret
    exact ⟨by first | rfl | (congr 2; go_num), rfl⟩
theorem Tryd.info5 : (Tryd.prog.info? 5).map (fun i => (i.zero, i.size, i.bytes)) = some (some (.int .u8 0), 1, 1) := by kernel_rfl
theorem hexOf_snoc (l : List UInt8) (b : UInt8) : hexOf (l ++ [b]) = hexOf l ++ [sgn (b.toNat / 16), sgn (b.toNat % 16)] := by simp [hexOf]
theorem hexOf_length (l : List UInt8) : (hexOf l).length = 2 * l.length := by
  induction l with
  | nil => rfl
  | cons b l ih => simp only [hexOf, List.flatMap_cons, List.length_append, List.length_cons, List.length_nil] at *; omega
theorem take_snoc_b (l : List UInt8) (k : Nat) (hk : k < l.length) : l.take (k + 1) = l.take k ++ [l[k]] := by
  rw [List.take_add_one, List.getElem?_eq_getElem hk]; rfl
theorem cell_two_new (w : World) (u v : Value) (t : TypeId) : ∀ j x, [u, v][j]? = some x → (w.alloc (.cells #[u, v] t)).cell? ((⟨w.heap.size, 0, none⟩ : Addr).add j) = some x := by
  intro j x hx
  rw [show (⟨w.heap.size, 0, none⟩ : Addr).add j = ⟨w.heap.size, j, none⟩ from by unfold Addr.add; split <;> simp_all, World.cell?_alloc_new, ← hx]
  simp
theorem add_at (g j : Nat) : (⟨g, 0, none⟩ : Addr).add j = ⟨g, j, none⟩ := by unfold Addr.add; split <;> simp_all
theorem cells_two {w : World} {B : Nat} {u v : Value} (h0 : w.cell? ⟨B, 0, none⟩ = some u) (h1 : w.cell? ⟨B, 1, none⟩ = some v) : ∀ j x, [u, v][j]? = some x → w.cell? ((⟨B, 0, none⟩ : Addr).add j) = some x := by
  intro j x hx
  rw [add_at]
  match j, hx with
  | 0, hx => simpa using h0.trans hx
  | 1, hx => simpa using h1.trans hx
theorem own_bytes {w : World} {base n : Nat} {v : Value} {l : List UInt8} (h : w.ownsRow base 5 1 v n (bvs l)) (hn : 0 < n) :
    ∃ g cap, v = .slice (some ⟨g, 0, none⟩) l.length cap ∧ l.length = n ∧ ∀ j (hj : j < l.length), w.cell? ((⟨g, 0, none⟩ : Addr).add j) = some (.int .u8 (l[j].toNat : Int)) := by
  have hc := h
  have hl : l.length = n := by have := h.1; simpa [bvs] using this
  rcases h.2 with ⟨rfl, h0⟩ | ⟨g, cap, cur, rfl, hb, hh, h1, h2, _⟩
  · omega
  · refine ⟨g, cap, by rw [hl], hl, fun j hj => ?_⟩
    exact hc.cells (g := g) rfl j (.int .u8 (l[j].toNat : Int)) (by simp [bvs, List.getElem?_eq_getElem hj])
set_option maxRecDepth 100000 in
set_option maxHeartbeats 2000000 in
theorem text_any (s : ByteArray) (hs : s.size ≤ 1000) (hs0 : 0 < s.size) (w : World) : Calls Tryd.prog 62 #[.string s] w fun e w' => e = .returned (.string ⟨(hexOf s.data.toList).toArray⟩) ∧ Below w.heap.size w w' := by
  obtain ⟨i0, hi, hz0, hz1, hz2⟩ := info_parts Tryd.info5
  go_enter Tryd.func62, Tryd.ntmps62
  go_wp2_with fail
  go_loopw [3, 4] (fun v i wr => ∃ k : Nat, k ≤ s.size ∧ i = .int .i64 k ∧ wr.ownsRow w.heap.size 5 1 v (2 * k) (bvs (hexOf (s.data.toList.take k))) ∧ Below w.heap.size w wr) (fun _ i wr => s.size - (intOf i).toNat)
  case atStart => exact ⟨0, by omega, rfl, World.ownsRow_nil _ _ _ _, Below.refl _ _⟩
  case round =>
    obtain ⟨k, hk, rfl, hown, hb⟩ := hrel
    by_cases hlt : k < s.size
    · have hlt' : (k : Int) < (s.size : Int) := by omega
      have hd : decide ((k : Int) < (s.size : Int)) = true := by simpa using hlt'
      have hki : 0 ≤ (k : Int) ∧ (k : Int) < (s.size : Int) := ⟨by omega, hlt'⟩
      have hb8 : (s[k]'hlt).toNat < 256 := (s[k]'hlt).toNat_lt
      have hts : s.data.toList.take (k + 1) = s.data.toList.take k ++ [s[k]'hlt] := take_snoc_b s.data.toList k (by simpa using hlt)
      have hxs : hexOf (s.data.toList.take (k + 1)) = hexOf (s.data.toList.take k) ++ [sgn ((s[k]'hlt).toNat / 16), sgn ((s[k]'hlt).toNat % 16)] := by rw [hts, hexOf_snoc]
      clear hts
      generalize hexOf (s.data.toList.take k) = xs at *
      have hix : ∀ w, (Instr.index 9 (.string s) (.int .i64 k)).run Tryd.prog w = .ok (.int .u8 ((s[k]'hlt).toNat : Nat)) w := fun w => by
        rw [run_index_string w 9 s .i64 k Tryd.underlying9, dif_pos hki]; simp
      generalize (s[k]'hlt).toNat = b at *
      have Hxs := Lib.hid hxs; clear hxs
      have q0 : IntKind.i64.wrap (b : Int) = (b : Int) := IntWalk.i64_in _ (by omega)
      have q1 : (IntKind.i64.wrap ((b : Int) / 16)) = ((b / 16 : Nat) : Int) := by rw [IntWalk.i64_in _ (by omega)]; omega
      go_upto_region 5 with fail
      refine wp_region_inv (fun wx => wx.ownsRow w.heap.size 5 1 u3 (2 * k) (bvs xs) ∧ Below w.heap.size w wx) (fun j v w' => match j with | 0 => v = u3 | 1 => v = .string s | 2 => v = .int .i64 k | 3 => v = .int .u8 b | 4 => v = .int .i64 b | 5 => v = .int .i64 (b / 16 : Nat) | 6 => v = .int .u8 (sgn (b / 16)).toNat | 7 => v = .string s | 8 => v = .int .i64 k | 9 => v = .int .u8 b | 10 => v = .int .i64 b | 11 => v = .int .i64 (b % 16 : Nat) | 12 => v = .int .u8 (sgn (b % 16)).toNat | 13 => ∃ B, v = .slice (some ⟨B, 0, none⟩) 2 2 ∧ B < w'.heap.size ∧ w'.cell? ⟨B, 0, none⟩ = some (.int .u8 (sgn (b / 16)).toNat) ∧ w'.cell? ⟨B, 1, none⟩ = some (.int .u8 (sgn (b % 16)).toNat) | _ => True) 14 (by kernel_rfl) (by kernel_rfl) ⟨hown.drew, hb.drew⟩ (fun _ _ h hb => ⟨own_keep h.1 hb, h.2.trans (hb.mono h.2.size)⟩) ?_ ?_ ?_
      · rintro (_|_|_|_|_|_|_|_|_|_|_|_|_|_|j) v w1 w2 hb h
        all_goals first | exact h | (obtain ⟨B, rfl, hB, h0, h1⟩ := h; exact ⟨B, rfl, Nat.lt_of_lt_of_le hB hb.size, cell_keep h0 hb, cell_keep h1 hb⟩)
      · refine ⟨fun us wx hx hd => ?_, fun us wx hx hd => ?_, fun us wx hx hd => ?_, fun us wx hx hd => ?_, fun us wx hx hd => ?_, fun us wx hx hd => ?_, fun us wx hx hd => ?_, fun us wx hx hd => ?_, fun us wx hx hd => ?_, fun us wx hx hd => ?_, fun us wx hx hd => ?_, fun us wx hx hd => ?_, fun us wx hx hd => ?_, fun us wx hx hd => ?_, trivial⟩
        all_goals simp only [putAll, dstOf, List.getElem?_toArray, List.getElem?_cons_succ, List.getElem?_cons_zero, Option.bind_some]
        all_goals go_frame
        · go_simp; exact Below.refl _ _
        · go_simp; exact Below.refl _ _
        · go_simp; exact Below.refl _ _
        · rw [show us 1 = .string s from hd 1 rfl, show us 2 = .int .i64 k from hd 2 rfl]
          go_simp; exact Below.refl _ _
        · rw [show us 3 = .int .u8 b from hd 3 rfl]
          go_simp
          first | exact Below.refl _ _ | exact ⟨rfl, Below.refl _ _⟩
        · rw [show us 4 = .int .i64 b from hd 4 rfl]
          go_simp
          first | exact Below.refl _ _ | exact ⟨by first | rfl | (go_num), Below.refl _ _⟩
        · rw [show us 5 = .int .i64 (b / 16 : Nat) from hd 5 rfl]
          have Hx := Lib.hid hx; clear hx
          go_simp
          refine (sgn_any (b / 16) (by omega) _).mono ?_
          rintro e w1 ⟨rfl, rfl⟩
          exact ⟨_, rfl, rfl, Below.refl _ _⟩
        · go_simp; exact Below.refl _ _
        · go_simp; exact Below.refl _ _
        · rw [show us 7 = .string s from hd 7 rfl, show us 8 = .int .i64 k from hd 8 rfl]
          go_simp; exact Below.refl _ _
        · rw [show us 9 = .int .u8 b from hd 9 rfl]
          go_simp
          first | exact Below.refl _ _ | exact ⟨rfl, Below.refl _ _⟩
        · rw [show us 10 = .int .i64 b from hd 10 rfl]
          go_simp
          first | exact Below.refl _ _ | exact ⟨by first | rfl | (go_num), Below.refl _ _⟩
        · rw [show us 11 = .int .i64 (b % 16 : Nat) from hd 11 rfl]
          have Hx := Lib.hid hx; clear hx
          go_simp
          refine (sgn_any (b % 16) (by omega) _).mono ?_
          rintro e w1 ⟨rfl, rfl⟩
          exact ⟨_, rfl, rfl, Below.refl _ _⟩
        · rw [show us 6 = .int .u8 (sgn (b / 16)).toNat from hd 6 rfl, show us 12 = .int .u8 (sgn (b % 16)).toNat from hd 12 rfl]
          have Hx := Lib.hid hx; clear hx
          go_simp
          exact (Below.refl _ _).alloc (Nat.le_refl _) _
      rintro us W1 hx hF
      have h0 : us 0 = u3 := hF 0 (by decide)
      obtain ⟨B, hB, hBl, hB0, hB1⟩ : ∃ B, us 13 = .slice (some ⟨B, 0, none⟩) 2 2 ∧ B < W1.heap.size ∧ W1.cell? ⟨B, 0, none⟩ = some (.int .u8 (sgn (b / 16)).toNat) ∧ W1.cell? ⟨B, 1, none⟩ = some (.int .u8 (sgn (b % 16)).toNat) := hF 13 (by decide)
      clear hF
      simp only [putAll, dstOf, List.getElem?_toArray, List.getElem?_cons_succ, List.getElem?_cons_zero, Option.bind_some, List.drop_succ_cons, List.drop_zero]
      rw [h0, hB]
      go_frame
      clear h0 hB
      obtain ⟨hown, hb1⟩ := hx
      have hbs := hb1.size
      go_wp2_with (at_builtin; refine wpList_append_own _ rfl _ _ 83 rfl w.heap.size 5 i0 (.int .u8 0) 1 1 Tryd.underlying83 hi hz0 hz1 hz2 rfl (by decide) _ _ _ rfl hown ⟨B, 0, none⟩ 2 2 [.int .u8 (sgn (b / 16)).toNat, .int .u8 (sgn (b % 16)).toNat] rfl rfl ?c1 ?c2 ?c3 ?c4 ?c5 ?_)
      case c1 => exact cells_two hB0 hB1
      case c2 => intro u hu; simp at hu; rcases hu with rfl | rfl <;> rfl
      case c3 => unfold maxLen; omega
      case c4 => omega
      case c5 => omega
      intro v' w4 hown1 hg1 _
      have hb7 : Below w.heap.size w w4 := hb1.grown hg1 (by omega) (fun q hq => (hown.lt q hq).1)
      clear hg1 hown hb1
      go_wp2
      go_roundw
      case rel =>
        refine ⟨k + 1, by omega, by go_num, ?_, hb7⟩
        rw [Hxs.out, show 2 * (k + 1) = 2 * k + 2 by omega]
        have : bvs (xs ++ [sgn (b / 16), sgn (b % 16)]) = bvs xs ++ [.int .u8 (sgn (b / 16)).toNat, .int .u8 (sgn (b % 16)).toNat] := by simp [bvs]
        rw [this]
        exact hown1
      case measure => simp [intOf]; omega
    · obtain rfl : k = s.size := by omega
      rw [List.take_of_length_le (by simp)] at hown
      generalize hxe : hexOf s.data.toList = xs at *
      have Hxe := Lib.hid hxe; clear hxe
      obtain ⟨g, cap, rfl, hln, hc⟩ := own_bytes hown (by omega)
      have hcv := run_convert_bytes_back (P := Tryd.prog) wr 83 9 5 ⟨g, 0, none⟩ cap xs Tryd.underlying83 Tryd.underlying5 Tryd.underlying9 hc
      rw [hln] at hcv ⊢
      have Hc := Lib.hid hc; clear hc hown
      have Hln := Lib.hid hln; clear hln
      go_wp2
      go_ret
      exact ⟨by rw [Hxe.out]; rfl, hb⟩
end Go.Proofs.YtpodfmnnabepaaaDoor
