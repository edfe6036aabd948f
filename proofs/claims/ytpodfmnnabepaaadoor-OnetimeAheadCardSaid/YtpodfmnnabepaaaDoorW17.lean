import Derived.Test.YtpodfmnnabepaaaDoorW16
namespace Go.Proofs.YtpodfmnnabepaaaDoor
open Go.RowKit
open Ot (Dg)
theorem sgn_low {d : Nat} (h : d < 10) : (sgn d).toNat = 48 + d := by unfold sgn; rw [if_pos h, UInt8.toNat_ofNat']; omega
theorem sgn_high {d : Nat} (h : ¬ d < 10) (h' : d ≤ 15) : (sgn d).toNat = 87 + d := by unfold sgn; rw [if_neg h, UInt8.toNat_ofNat']; omega
set_option maxRecDepth 100000 in
set_option maxHeartbeats 2000000 in
theorem rsteps_any (m : Dg) (w : World) : Calls Tryd.prog 20 #[dgv m] w (StepsPost w (Ot.steps m)) := by
  obtain ⟨i0, hi, hz0, hz1, hz2⟩ := info_parts Tryd.info3
  go_enter Tryd.func20, Tryd.ntmps20
  go_wp2_with fail
  have hb0 : Below w.heap.size w (w.alloc (.cells #[.int .u32 m.a.toNat, .int .u32 m.b.toNat, .int .u32 m.c.toNat, .int .u32 m.d.toNat] 24)) := (Below.refl _ _).alloc (Nat.le_refl _) _
  refine (dtext_any m _).mono ?_
  rintro e w1 ⟨rfl, hb1⟩
  have hb2 := hb0.trans (hb1.mono hb0.size)
  clear hb0 hb1
  have hsz : (⟨(digText m).toArray⟩ : ByteArray).size = 32 := by
    show (digText m).toArray.size = 32
    rw [digText_digs, List.size_toArray, List.length_map, Ot.digs_length]
  have hat : ∀ k : Nat, k < 32 → ∀ w, (Instr.index 9 (.string ⟨(digText m).toArray⟩) (.int .i64 k)).run Tryd.prog w = .ok (.int .u8 ((sgn ((Ot.digs m).getD k 0)).toNat : Nat)) w := fun k hk w => by
    rw [run_index_string w 9 _ .i64 k Tryd.underlying9, dif_pos (by rw [hsz]; omega)]
    have : ((⟨(digText m).toArray⟩ : ByteArray)[(k : Int).toNat]'(by rw [hsz]; omega)) = sgn ((Ot.digs m).getD k 0) := by
      show (digText m)[(k : Int).toNat]'_ = _
      simp only [digText_digs, List.getElem_map, Int.toNat_natCast]
      rw [List.getD_eq_getElem?_getD, List.getElem?_eq_getElem (by rw [Ot.digs_length]; exact hk)]; rfl
    rw [this]
  generalize (⟨(digText m).toArray⟩ : ByteArray) = T at *
  have Hat := Lib.hid hat; clear hat
  go_wp2_with fail
  go_loopw [4, 5, 6] (fun v sm i wr => ∃ k : Nat, k ≤ 32 ∧ i = .int .i64 k ∧ sm = .int .i64 (Ot.rest ((Ot.digs m).take k) : Nat) ∧ wr.ownsRow w1.heap.size 3 1 v k (ivs ((Ot.digs m).take k)) ∧ Below w1.heap.size w1 wr) (fun _ _ i wr => 32 - (intOf i).toNat)
  case atStart => exact ⟨0, by omega, rfl, rfl, World.ownsRow_nil _ _ _ _, Below.refl _ _⟩
  case round =>
    obtain ⟨k, hk, rfl, rfl, hown, hb⟩ := hrel
    have hbs := hb.size
    by_cases hlt : k < 32
    · have hd : decide ((k : Int) < 32) = true := by simp; omega
      have hix := Hat.out k hlt
      have hd15 : (Ot.digs m).getD k 0 ≤ 15 := by
        rw [List.getD_eq_getElem?_getD, List.getElem?_eq_getElem (by rw [Ot.digs_length]; exact hlt)]
        exact Ot.digs_le m _ (List.getElem_mem _)
      have hts := take_snoc' (Ot.digs m) k (by rw [Ot.digs_length]; exact hlt)
      have hr15 := Ot.rest_le ((Ot.digs m).take k)
      have hll : ((Ot.digs m).take k).length ≤ 32 := by rw [List.length_take, Ot.digs_length]; omega
      generalize (Ot.digs m).getD k 0 = d at *
      have Hts := Lib.hid hts; clear hts
      generalize hxs : (Ot.digs m).take k = xs at *
      have Hxs := Lib.hid hxs; clear hxs
      by_cases hd10 : d < 10
      · have hx := sgn_low hd10
        generalize (sgn d).toNat = x at *
        have qa : ((x : Int) - 48) % 256 = (d : Int) := by omega
        have qb : decide ((97 : Int) ≤ (x : Int)) = false := by simp; omega
        clear hx
        go_wp2_with (at_builtin; refine wpList_append_own _ rfl _ _ 27 rfl w1.heap.size 3 i0 (.int .i64 0) 1 8 Tryd.underlying27 hi hz0 hz1 hz2 rfl (by decide) _ _ _ rfl (hown.alloc _) ⟨wr.heap.size, 0, none⟩ 1 1 [.int .i64 d] rfl rfl ?c1 ?c2 ?c3 ?c4 ?c5 ?_)
        case c1 => exact cell_one_new _ _ _
        case c2 => intro u hu; simp at hu; subst hu; rfl
        case c3 => unfold maxLen; omega
        case c4 => omega
        case c5 => simp; omega
        intro v' w2 hown1 hg1 _
        have hb3 : Below w1.heap.size w1 w2 := (hb.alloc (by omega) _).grown hg1 (by simp; omega) (fun q hq => by have := (hown.alloc (.cells #[.int .i64 d] 3)).lt q hq; omega)
        clear hg1 hown hb
        go_wp2
        go_roundw
        case rel =>
          refine ⟨k + 1, by omega, by go_num, ?_, ?_, hb3⟩
          · rw [Hts.out, rest_snoc]
            first | (congr 1; omega) | trace_state
          · rw [Hts.out, ivs_snoc]
            exact hown1
        case measure => simp [intOf]; omega
      · have hx := sgn_high hd10 hd15
        generalize (sgn d).toNat = x at *
        have qb : decide ((97 : Int) ≤ (x : Int)) = true := by simp; omega
        have qc : ((x : Int) - 97) % 256 + 10 = (d : Int) := by omega
        clear hx
        go_wp2_with (at_builtin; refine wpList_append_own _ rfl _ _ 27 rfl w1.heap.size 3 i0 (.int .i64 0) 1 8 Tryd.underlying27 hi hz0 hz1 hz2 rfl (by decide) _ _ _ rfl (hown.alloc _) ⟨wr.heap.size, 0, none⟩ 1 1 [.int .i64 d] rfl rfl ?c1 ?c2 ?c3 ?c4 ?c5 ?_)
        case c1 => exact cell_one_new _ _ _
        case c2 => intro u hu; simp at hu; subst hu; rfl
        case c3 => unfold maxLen; omega
        case c4 => omega
        case c5 => simp; omega
        intro v' w2 hown1 hg1 _
        have hb3 : Below w1.heap.size w1 w2 := (hb.alloc (by omega) _).grown hg1 (by simp; omega) (fun q hq => by have := (hown.alloc (.cells #[.int .i64 d] 3)).lt q hq; omega)
        clear hg1 hown hb
        go_wp2
        go_roundw
        case rel =>
          refine ⟨k + 1, by omega, by go_num, ?_, ?_, hb3⟩
          · rw [Hts.out, rest_snoc]
            first | (congr 1; omega) | trace_state
          · rw [Hts.out, ivs_snoc]
            exact hown1
        case measure => simp [intOf]; omega
    · obtain rfl : k = 32 := by omega
      have e32 : (Ot.digs m).take 32 = Ot.digs m := rfl
      rw [e32] at *
      clear e32
      have hr15 := Ot.rest_le (Ot.digs m)
      rw [Ot.digs_length] at hr15
      have hp : Ot.steps m = Ot.digs m ++ [Ot.rest (Ot.digs m) / 256 % 16, Ot.rest (Ot.digs m) / 16 % 16, Ot.rest (Ot.digs m) % 16] := rfl
      have Hp := Lib.hid hp; clear hp
      have hlen := Ot.digs_length m
      generalize Ot.rest (Ot.digs m) = r at *
      generalize Ot.digs m = ds at *
      rw [List.take_of_length_le (show ds.length ≤ 32 by omega)] at hown
      have b1 : (r : Int) / 256 = ((r / 256 % 16 : Nat) : Int) := by omega
      have b2 : ((r : Int) / 16) % 16 = ((r / 16 % 16 : Nat) : Int) := by omega
      have b3 : (r : Int) % 16 = ((r % 16 : Nat) : Int) := by omega
      generalize h1 : r / 256 % 16 = x1 at *
      generalize h2 : r / 16 % 16 = x2 at *
      generalize h3 : r % 16 = x3 at *
      clear h1 h2 h3
      go_wp2_with (at_builtin; refine wpList_append_own _ rfl _ _ 27 rfl w1.heap.size 3 i0 (.int .i64 0) 1 8 Tryd.underlying27 hi hz0 hz1 hz2 rfl (by decide) _ _ _ rfl (hown.alloc _) ⟨wr.heap.size, 0, none⟩ 3 3 [.int .i64 x1, .int .i64 x2, .int .i64 x3] rfl rfl ?c1 ?c2 ?c3 ?c4 ?c5 ?_)
      case c1 => exact cell_three_new _ _ _ _ _
      case c2 => intro u hu; simp at hu; rcases hu with rfl | rfl | rfl <;> rfl
      case c3 => unfold maxLen; omega
      case c4 => omega
      case c5 => simp; omega
      intro v' w2 hown1 hg1 _
      have hb3 : Below w1.heap.size w1 w2 := (hb.alloc (by omega) _).grown hg1 (by simp; omega) (fun q hq => by have := (hown.alloc (.cells #[.int .i64 x1, .int .i64 x2, .int .i64 x3] 3)).lt q hq; omega)
      clear hg1 hown hb
      go_wp2
      go_ret
      refine ⟨v', rfl, hb2.trans (hb3.mono hb2.size), ?_⟩
      rw [Hp.out]
      have := own_base_le hown1 (B' := w.heap.size) hb2.size
      simpa [ivs, hlen] using this
end Go.Proofs.YtpodfmnnabepaaaDoor
