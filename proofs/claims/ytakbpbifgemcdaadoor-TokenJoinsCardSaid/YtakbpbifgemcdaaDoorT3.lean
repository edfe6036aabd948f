/- Walks: token.next. Conditions: those written in each. -/
import Derived.Test.YtakbpbifgemcdaaDoorT2
namespace Go.Proofs.YtakbpbifgemcdaaDoor
open Go.RowKit
def bstr (l : Tk.By) : ByteArray := ⟨l.toArray⟩
/-- The tables of words and signs. -/
def Tb (w : World) : Prop := (∀ j, j < 10 → w.cell? ⟨0, j, none⟩ = some (.string (bstr (Tk.words.getD j [])))) ∧ ∀ j, j < 24 → w.cell? ⟨1, j, none⟩ = some (.string (bstr (Tk.signs.getD j [])))
def tokV (t : Tk.Tok) : Value := .agg #[.int .i64 t.kind, .string (bstr t.text), .int .u32 t.num, .int .i64 t.place]
def NextPost (w : World) (a : Nat) (r : Except Nat (Nat × Tk.By × Nat)) (e : Ending) (w' : World) : Prop :=
  (match r with | .ok (k, t, n) => e = .returned (.tuple #[tokV ⟨k, t, n, a⟩, .int .i64 0]) | .error x => ∃ t : Tk.Tok, e = .returned (.tuple #[tokV t, .int .i64 (x : Nat)])) ∧ Below w.heap.size w w'
set_option maxHeartbeats 1000000 in
theorem next_num (s : ByteArray) (a : Nat) (ha : a < s.size) (hs : s.size ≤ 4611686018427387904) (hd : Tk.dig (s[a]'ha) = true) (w : World) :
    Calls Tryd.prog 40 #[.string s, .int .i64 (a : Nat)] w (NextPost w a (Tk.next ((L s).drop a))) := by
  have hrun := fun w => run_any s a _ _ digit_tells hs (Nat.le_of_lt ha) w
  have hml : a + (((L s).drop a).takeWhile Tk.dig).length ≤ s.size := by have := tw_le (p := Tk.dig) ((L s).drop a); rw [List.length_drop] at this; rw [L_size] at ha ⊢; omega
  generalize hm : (((L s).drop a).takeWhile Tk.dig).length = m at *
  have Hrun := Lib.hid hrun; clear hrun
  have q1 : (a : Int) + (m : Int) ≤ (s.size : Int) := by omega
  have q2 : (0 : Int) ≤ (a : Int) + (m : Int) := by omega
  have q3 : (a : Int) ≤ (a : Int) + (m : Int) := by omega
  have q4 : (0 : Int) ≤ (a : Int) := by omega
  have q5 : IntKind.i64.wrap ((a : Int) + (m : Int)) = (a : Int) + (m : Int) := IntWalk.i64_in _ (by omega)
  go_enter Tryd.func40, Tryd.ntmps40
  go_wp2_with (go_at_call 68; refine (digit_any _ _).mono ?_; rw [hd]; rintro e w' ⟨rfl, rfl⟩)
  go_region_with (go_at_call 38; refine (Hrun.out _).mono ?_; rintro e w' ⟨rfl, rfl⟩)
  rw [show ((a : Int) + (m : Int)).toNat = a + m by omega]
  have hT : L (s.extract a (a + m)) = ((L s).drop a).takeWhile Tk.dig := by
    rw [L_extract, Nat.add_sub_cancel_left, ← hm]
    exact (List.prefix_iff_eq_take.1 (List.takeWhile_prefix _)).symm
  have hnx : Tk.next ((L s).drop a) = (match Tk.value (L (s.extract a (a + m))) 0 with | none => .error 2 | some n => .ok (2, L (s.extract a (a + m)), n)) := by
    rw [hT]
    unfold Tk.next
    have hh : ((L s).drop a).head? = some (s[a]'ha) := by
      rw [List.head?_drop]
      exact List.getElem?_eq_some_iff.2 ⟨by rw [← L_size]; exact ha, rfl⟩
    rw [hh, if_pos (by simpa using hd)]
    rfl
  have hall : ∀ c ∈ L (s.extract a (a + m)), Tk.dig c = true := by rw [hT]; exact Tk.takeWhile_all _ _
  have hsz : (s.extract a (a + m)).size ≤ 4611686018427387904 := by
    have h1 : (L (s.extract a (a + m))).length = m := by rw [hT, hm]
    rw [L_size]; omega
  have hbk : bstr (L (s.extract a (a + m))) = s.extract a (a + m) := Lib.mk_data _
  generalize s.extract a (a + m) = T at *
  have Hnx := Lib.hid hnx; clear hnx
  have hval := fun w => value_any T hall hsz w
  clear hT hall
  have Hval := Lib.hid hval; clear hval
  cases hv : Tk.value (L T) 0 with
  | none =>
    rw [hv] at Hval Hnx
    go_wp2_with (go_at_call 69; refine (Hval.out _).mono ?_; rintro e w' ⟨rfl, rfl⟩; simp only [valueV])
    refine bodyPost_ret (v := .tuple #[.agg #[.int .i64 2, .string T, .int .u32 0, .int .i64 a], .int .i64 2]) (by simp [results, Tryd.results40, go_sem]) rfl ⟨?_, (((Below.refl _ _).alloc (Nat.le_refl _) _).alloc (by simp) _).drew⟩
    rw [Hnx.out]
    exact ⟨⟨2, L T, 0, a⟩, by simp only [tokV, hbk]; rfl⟩
  | some n =>
    rw [hv] at Hval Hnx
    go_wp2_with (go_at_call 69; refine (Hval.out _).mono ?_; rintro e w' ⟨rfl, rfl⟩; simp only [valueV])
    refine bodyPost_ret (v := .tuple #[.agg #[.int .i64 2, .string T, .int .u32 n, .int .i64 a], .int .i64 0]) (by simp [results, Tryd.results40, go_sem]) rfl ⟨?_, (((Below.refl _ _).alloc (Nat.le_refl _) _).alloc (by simp) _).drew⟩
    rw [Hnx.out]
    simp only [tokV, hbk]
    rfl
end Go.Proofs.YtakbpbifgemcdaaDoor
