/- Walks: token.next at a quote and at a sign. Conditions: those written in each. -/
import Derived.Test.YtakbpbifgemcdaaDoorT4
namespace Go.Proofs.YtakbpbifgemcdaaDoor
open Go.RowKit
theorem at_drop {s : ByteArray} {a k : Nat} (h : a + k < s.size) : ((L s).drop a)[k]? = some (s[a + k]'h) := by
  rw [List.getElem?_drop]
  exact List.getElem?_eq_some_iff.2 ⟨by rw [← L_size]; exact h, rfl⟩
theorem drop_cons {s : ByteArray} {a : Nat} (h : a < s.size) : (L s).drop a = s[a]'h :: (L s).drop (a + 1) := by
  have hl : a < (L s).length := by rw [← L_size]; exact h
  rw [List.drop_eq_getElem_cons hl]; rfl
theorem quoted_short {s : ByteArray} {a : Nat} (h : ¬ a + 2 < s.size) : Tk.quoted ((L s).drop a) = none := by
  have : ((L s).drop a).length ≤ 2 := by rw [List.length_drop, ← L_size]; omega
  generalize (L s).drop a = l at this
  match l, this with
  | [], _ => rfl
  | [_], _ => rfl
  | [_, _], _ => rfl
  | _ :: _ :: _ :: _, h => simp at h
theorem quoted_at {s : ByteArray} {a : Nat} (h : a + 2 < s.size) : Tk.quoted ((L s).drop a) = if (s[a]'(by omega)).toNat = 39 ∧ (s[a + 2]'h).toNat = 39 ∧ 32 ≤ (s[a + 1]'(by omega)).toNat ∧ (s[a + 1]'(by omega)).toNat ≤ 126 ∧ (s[a + 1]'(by omega)).toNat ≠ 39 ∧ (s[a + 1]'(by omega)).toNat ≠ 92 then some (s[a + 1]'(by omega)) else none := by
  rw [drop_cons (a := a) (by omega), drop_cons (a := a + 1) (by omega), drop_cons (a := a + 1 + 1) (by omega)]
  rfl
theorem digit39 (w : World) : Calls Tryd.prog 68 #[.int .u8 39] w fun e w' => e = .returned (.bool false) ∧ w' = w := digit_any (UInt8.ofNat 39) w
theorem letter39 (w : World) : Calls Tryd.prog 50 #[.int .u8 39] w fun e w' => e = .returned (.bool false) ∧ w' = w := letter_any (UInt8.ofNat 39) w
set_option maxHeartbeats 2000000 in
theorem next_quote (s : ByteArray) (a : Nat) (ha : a < s.size) (hs : s.size ≤ 4611686018427387904) (hc : (s[a]'ha).toNat = 39) (w : World) :
    Calls Tryd.prog 40 #[.string s, .int .i64 (a : Nat)] w (NextPost w a (Tk.next ((L s).drop a))) := by
  have hnx : Tk.next ((L s).drop a) = (match Tk.quoted ((L s).drop a) with | none => .error 3 | some b => .ok (2, ((L s).drop a).take 3, b.toNat)) := by
    have hh : ((L s).drop a).head? = some 39 := by
      rw [drop_cons ha, List.head?_cons, show s[a]'ha = 39 from Tk.byte_eq (n := 39) hc (by decide)]
    unfold Tk.next
    rw [hh, if_neg (by decide), if_neg (by decide), if_pos rfl]
    rfl
  by_cases h2 : a + 2 < s.size
  · rw [quoted_at h2] at hnx
    have Hnx := Lib.hid hnx; clear hnx
    have q1 : (a : Int) + 2 < (s.size : Int) := by omega
    have c0 : ((s[a]'ha).toNat : Int) = 39 := by omega
    go_enter Tryd.func40, Tryd.ntmps40
    go_wp2_with (first | (go_at_call 68; refine (digit39 _).mono ?_; rintro e w' ⟨rfl, rfl⟩) | (go_at_call 50; refine (letter39 _).mono ?_; rintro e w' ⟨rfl, rfl⟩))
    all_goals first
      | (refine bodyPost_ret (v := .tuple #[.agg #[.int .i64 0, .string ⟨#[]⟩, .int .u32 0, .int .i64 a], .int .i64 3]) (by simp [results, Tryd.results40, go_sem]) rfl ⟨?_, (((Below.refl _ _).alloc (Nat.le_refl _) _).alloc (by simp) _)⟩
         rw [Hnx.out, if_neg (by (try simp only [bne_eq_false_iff_eq] at *); omega)]
         exact ⟨⟨0, [], 0, a⟩, rfl⟩)
      | skip
    have hgood : (s[a]'(by omega)).toNat = 39 ∧ (s[a + 2]'h2).toNat = 39 ∧ 32 ≤ (s[a + 1]'(by omega)).toNat ∧ (s[a + 1]'(by omega)).toNat ≤ 126 ∧ (s[a + 1]'(by omega)).toNat ≠ 39 ∧ (s[a + 1]'(by omega)).toNat ≠ 92 := by
      try simp only [bne_iff_ne] at *
      omega
    have hT : L (s.extract a (a + 3)) = ((L s).drop a).take 3 := by rw [L_extract, Nat.add_sub_cancel_left]
    have hbk : bstr (L (s.extract a (a + 3))) = s.extract a (a + 3) := Lib.mk_data _
    have r1 : (a : Int) + 3 ≤ (s.size : Int) := by omega
    have r2 : (0 : Int) ≤ (a : Int) + 3 := by omega
    have r3 : (a : Int) ≤ (a : Int) + 3 := by omega
    have r4 : (0 : Int) ≤ (a : Int) + 1 := by omega
    have r5 : (a : Int) + 1 < (s.size : Int) := by omega
    have r6 : IntKind.i64.wrap ((a : Int) + 3) = (a : Int) + 3 := IntWalk.i64_in _ (by omega)
    have r7 : IntKind.i64.wrap ((a : Int) + 1) = (a : Int) + 1 := IntWalk.i64_in _ (by omega)
    go_region
    go_wp2_with fail
    refine bodyPost_ret (v := .tuple #[.agg #[.int .i64 2, .string (s.extract a (a + 3)), .int .u32 ((s[a + 1]'(by omega)).toNat : Nat), .int .i64 a], .int .i64 0]) (by simp [results, Tryd.results40, go_sem]) rfl ⟨?_, (((Below.refl _ _).alloc (Nat.le_refl _) _).alloc (by simp) _).drew⟩
    rw [Hnx.out, if_pos hgood, ← hT]
    simp only [tokV, hbk]
    rfl
  · rw [quoted_short h2] at hnx
    have Hnx := Lib.hid hnx; clear hnx
    have q1 : (s.size : Int) ≤ (a : Int) + 2 := by omega
    have c0 : ((s[a]'ha).toNat : Int) = 39 := by omega
    go_enter Tryd.func40, Tryd.ntmps40
    go_wp2_with (first | (go_at_call 68; refine (digit39 _).mono ?_; rintro e w' ⟨rfl, rfl⟩) | (go_at_call 50; refine (letter39 _).mono ?_; rintro e w' ⟨rfl, rfl⟩))
    refine bodyPost_ret (v := .tuple #[.agg #[.int .i64 0, .string ⟨#[]⟩, .int .u32 0, .int .i64 a], .int .i64 3]) (by simp [results, Tryd.results40, go_sem]) rfl ⟨?_, (((Below.refl _ _).alloc (Nat.le_refl _) _).alloc (by simp) _)⟩
    rw [Hnx.out]
    exact ⟨⟨0, [], 0, a⟩, rfl⟩
end Go.Proofs.YtakbpbifgemcdaaDoor
