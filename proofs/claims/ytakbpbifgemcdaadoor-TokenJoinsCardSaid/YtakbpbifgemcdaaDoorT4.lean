/- Walks: token.next at a letter. Conditions: those written in each. -/
import Derived.Test.YtakbpbifgemcdaaDoorT3
namespace Go.Proofs.YtakbpbifgemcdaaDoor
open Go.RowKit
theorem Tb.below {w w' : World} (h : Tb w) (hb : Below w.heap.size w w') : Tb w' :=
  ⟨fun j hj => (hb.cell (World.block_lt_of_cell? w _ (h.1 j hj))).trans (h.1 j hj), fun j hj => (hb.cell (World.block_lt_of_cell? w _ (h.2 j hj))).trans (h.2 j hj)⟩
theorem pw_drewN {B : Nat} {w W : World} (h : Below B w W) (n : Nat) : Below B w (W.drewN n) := ⟨h.os, h.tape, h.output, h.size, h.block⟩
theorem words_in (T : ByteArray) : Lib.containsS ((Tk.words.map bstr).take 10) T = decide (L T ∈ Tk.words) := by
  rw [Bool.eq_iff_iff, Lib.containsS_iff]
  rw [show (Tk.words.map bstr).take 10 = Tk.words.map bstr from rfl, decide_eq_true_iff, List.mem_map]
  constructor
  · rintro ⟨l, hl, rfl⟩; exact hl
  · intro h; exact ⟨_, h, Lib.mk_data _⟩
theorem contains_words (T : ByteArray) (w : World) (h : Tb w) : Calls Tryd.prog 52 #[.slice (some ⟨0, 0, none⟩) 10 10, .string T] w fun e w' => e = .returned (.bool (decide (L T ∈ Tk.words))) ∧ w' = w := by
  rw [← words_in]
  refine slices_Contains_string 0 0 10 10 _ T w (by decide) (by decide) fun j hj => ?_
  have hj' : j < 10 := hj
  have e : (Tk.words.map bstr).getD j ByteArray.empty = bstr (Tk.words.getD j []) := by
    rw [List.getD_eq_getElem?_getD, List.getElem?_map, List.getD_eq_getElem?_getD]
    have : j < Tk.words.length := hj'
    rw [List.getElem?_eq_getElem this]; rfl
  rw [e, Nat.zero_add]
  exact h.1 j hj'
set_option maxHeartbeats 1000000 in
theorem next_name (s : ByteArray) (a : Nat) (ha : a < s.size) (hs : s.size ≤ 4611686018427387904) (hd : Tk.dig (s[a]'ha) = false) (hl : Tk.ltr (s[a]'ha) = true) (w : World) (hT0 : Tb w) :
    Calls Tryd.prog 40 #[.string s, .int .i64 (a : Nat)] w (NextPost w a (Tk.next ((L s).drop a))) := by
  have hrun := fun w => run_any s a _ _ inner_tells hs (Nat.le_of_lt ha) w
  have hml : a + (((L s).drop a).takeWhile Tk.inn).length ≤ s.size := by have := tw_le (p := Tk.inn) ((L s).drop a); rw [List.length_drop] at this; rw [L_size] at ha ⊢; omega
  generalize hm : (((L s).drop a).takeWhile Tk.inn).length = m at *
  have Hrun := Lib.hid hrun; clear hrun
  have q1 : (a : Int) + (m : Int) ≤ (s.size : Int) := by omega
  have q2 : (0 : Int) ≤ (a : Int) + (m : Int) := by omega
  have q3 : (a : Int) ≤ (a : Int) + (m : Int) := by omega
  have q4 : (0 : Int) ≤ (a : Int) := by omega
  have q5 : IntKind.i64.wrap ((a : Int) + (m : Int)) = (a : Int) + (m : Int) := IntWalk.i64_in _ (by omega)
  go_enter Tryd.func40, Tryd.ntmps40
  go_wp2_with (first | (go_at_call 68; refine (digit_any _ _).mono ?_; rw [hd]; rintro e w' ⟨rfl, rfl⟩) | (go_at_call 50; refine (letter_any _ _).mono ?_; rw [hl]; rintro e w' ⟨rfl, rfl⟩))
  go_region_with (go_at_call 38; refine (Hrun.out _).mono ?_; rintro e w' ⟨rfl, rfl⟩)
  rw [show ((a : Int) + (m : Int)).toNat = a + m by omega]
  have hT : L (s.extract a (a + m)) = ((L s).drop a).takeWhile Tk.inn := by
    rw [L_extract, Nat.add_sub_cancel_left, ← hm]
    exact (List.prefix_iff_eq_take.1 (List.takeWhile_prefix _)).symm
  have hnx : Tk.next ((L s).drop a) = (if m > 20 then .error 2 else .ok (if L (s.extract a (a + m)) ∈ Tk.words then 3 else 1, L (s.extract a (a + m)), 0)) := by
    rw [hT]
    unfold Tk.next
    have hh : ((L s).drop a).head? = some (s[a]'ha) := by
      rw [List.head?_drop]
      exact List.getElem?_eq_some_iff.2 ⟨by rw [← L_size]; exact ha, rfl⟩
    rw [hh, if_neg (by simp [hd]), if_pos (by simpa using hl), hm]
  have hsz : (s.extract a (a + m)).size = m := by
    rw [L_size, hT, hm]
  have hbk : bstr (L (s.extract a (a + m))) = s.extract a (a + m) := Lib.mk_data _
  generalize s.extract a (a + m) = T at *
  have Hnx := Lib.hid hnx; clear hnx
  clear hT
  by_cases hgt : m > 20
  · have k1 : (20 : Int) < (m : Int) := by omega
    go_wp2_with fail
    refine bodyPost_ret (v := .tuple #[.agg #[.int .i64 1, .string T, .int .u32 0, .int .i64 a], .int .i64 2]) (by simp [results, Tryd.results40, go_sem]) rfl ⟨?_, (((Below.refl _ _).alloc (Nat.le_refl _) _).alloc (by simp) _).drew⟩
    rw [Hnx.out, if_pos hgt]
    exact ⟨⟨1, L T, 0, a⟩, by simp only [tokV, hbk]; rfl⟩
  · have k1 : (m : Int) ≤ (20 : Int) := by omega
    by_cases hw : L T ∈ Tk.words
    · have hc := fun w' (h : Tb w') => contains_words T w' h
      rw [decide_eq_true hw] at hc
      go_wp2_with fail
      go_region_with (go_at_call 52; refine (hc _ (hT0.below (by first | exact (((Below.refl _ _).alloc (Nat.le_refl _) _).alloc (by simp) _).drew | exact (((Below.refl _ _).alloc (Nat.le_refl _) _).alloc (by simp) _).drew.drew))).mono ?_; rintro e w' ⟨rfl, rfl⟩)
      go_wp2_with fail
      refine bodyPost_ret (v := .tuple #[.agg #[.int .i64 3, .string T, .int .u32 0, .int .i64 a], .int .i64 0]) (by simp [results, Tryd.results40, go_sem]) rfl ⟨?_, (((Below.refl _ _).alloc (Nat.le_refl _) _).alloc (by simp) _).drew.drew⟩
      rw [Hnx.out, if_neg hgt, if_pos hw]
      simp only [tokV, hbk]
      rfl
    · have hc := fun w' (h : Tb w') => contains_words T w' h
      rw [decide_eq_false hw] at hc
      go_wp2_with fail
      go_region_with (go_at_call 52; refine (hc _ (hT0.below (by first | exact (((Below.refl _ _).alloc (Nat.le_refl _) _).alloc (by simp) _).drew | exact (((Below.refl _ _).alloc (Nat.le_refl _) _).alloc (by simp) _).drew.drew))).mono ?_; rintro e w' ⟨rfl, rfl⟩)
      go_wp2_with fail
      refine bodyPost_ret (v := .tuple #[.agg #[.int .i64 1, .string T, .int .u32 0, .int .i64 a], .int .i64 0]) (by simp [results, Tryd.results40, go_sem]) rfl ⟨?_, (((Below.refl _ _).alloc (Nat.le_refl _) _).alloc (by simp) _).drew.drew⟩
      rw [Hnx.out, if_neg hgt, if_neg hw]
      simp only [tokV, hbk]
      rfl
end Go.Proofs.YtakbpbifgemcdaaDoor
