/- Walks: token.Name. Conditions: those written in each. -/
import Derived.Test.YtakbpbifgemcdaaDoorT10
namespace Go.Proofs.YtakbpbifgemcdaaDoor
open Go.RowKit
theorem tw_all {p : UInt8 → Bool} : ∀ {l : Tk.By}, (l.takeWhile p).length = l.length ↔ l.all p = true
  | [] => by simp
  | a :: l => by
    by_cases h : p a = true
    · simp only [List.takeWhile, h, List.length_cons, List.all_cons, Bool.true_and]
      rw [← tw_all (l := l)]; omega
    · simp [List.takeWhile, h]
set_option maxRecDepth 100000 in
set_option maxHeartbeats 2000000 in
theorem name_any (s : ByteArray) (hs : s.size ≤ 20000) (w : World) (hT0 : Tb w) : Calls Tryd.prog 29 #[.string s] w fun e w' => e = .returned (.bool (Tk.isName (L s))) ∧ w' = w := by
  by_cases h0 : s.size = 0
  · have hl : L s = [] := by have := L_size s; rw [h0] at this; exact List.eq_nil_of_length_eq_zero this.symm
    have hne : s.toList = [] := by rw [Lib.toList_data]; exact hl
    have hn : Tk.isName (L s) = false := by rw [hl]; rfl
    rw [hn]
    go_enter Tryd.func29, Tryd.ntmps29
    go_wp2_with fail
    go_ret
    exact ⟨rfl, rfl⟩
  have hpos : 0 < s.size := by omega
  have hc := drop_cons hpos
  rw [List.drop_zero] at hc
  have hne : s.toList.isEmpty = false := by rw [Lib.toList_data]; show (L s).isEmpty = false; rw [hc]; rfl
  have hix : ∀ w, (Instr.index 9 (.string s) (.int .i64 0)).run Tryd.prog w = .ok (.int .u8 ((s[0]'hpos).toNat : Nat)) w := str_at (k := 0) (by rw [hc]; rfl)
  have hlen := L_size s
  have hnm : Tk.isName (L s) = (Tk.ltr (s[0]'hpos) && decide (s.size ≤ 20) && (L s).all Tk.inn && !decide (L s ∈ Tk.words)) := by
    unfold Tk.isName
    rw [← hlen, hc]; rfl
  rw [hnm]
  clear hnm hc
  by_cases h20 : s.size ≤ 20
  · have q : decide ((s.size : Int) ≤ 20) = true := by simp; omega
    rw [decide_eq_true h20]
    have Hlen := Lib.hid hlen; clear hlen
    cases hl : Tk.ltr (s[0]'hpos) with
    | false =>
      go_enter Tryd.func29, Tryd.ntmps29
      go_wp2_with (go_at_call 50; refine (letter_any _ _).mono ?_; rw [hl]; rintro e w' ⟨rfl, rfl⟩)
      go_ret
      exact ⟨rfl, rfl⟩
    | true =>
      have hrun := fun w => run_any s 0 _ _ inner_tells (by omega) (by omega) w
      rw [List.drop_zero] at hrun
      have hall := tw_all (p := Tk.inn) (l := L s)
      have hle := tw_le (p := Tk.inn) (L s)
      rw [← Hlen.out] at hall hle
      generalize ((L s).takeWhile Tk.inn).length = m at *
      have Hrun := Lib.hid hrun; clear hrun
      cases ha : (L s).all Tk.inn with
      | false =>
        have q2 : ((m : Int) == (s.size : Int)) = false := by
          rw [beq_eq_false_iff_ne]; intro h
          have := hall.1 (by omega)
          rw [ha] at this; cases this
        go_enter Tryd.func29, Tryd.ntmps29
        go_wp2_with (first | (go_at_call 50; refine (letter_any _ _).mono ?_; rw [hl]; rintro e w' ⟨rfl, rfl⟩) | (go_at_call 38; refine (Hrun.out _).mono ?_; rintro e w' ⟨rfl, rfl⟩))
        go_ret
        exact ⟨rfl, rfl⟩
      | true =>
        obtain rfl : m = s.size := hall.2 ha
        clear hall hle
        have hcw := fun w' (h : Tb w') => contains_words s w' h
        have Hcw := Lib.hid hcw; clear hcw
        go_enter Tryd.func29, Tryd.ntmps29
        go_wp2_with (first | (go_at_call 50; refine (letter_any _ _).mono ?_; rw [hl]; rintro e w' ⟨rfl, rfl⟩) | (go_at_call 38; refine (Hrun.out _).mono ?_; rintro e w' ⟨rfl, rfl⟩) | (go_at_call 52; refine (Hcw.out _ hT0).mono ?_; rintro e w' ⟨rfl, rfl⟩))
        go_ret
        exact ⟨rfl, rfl⟩
  · have q : decide ((s.size : Int) ≤ 20) = false := by simp; omega
    rw [decide_eq_false h20]
    clear hlen
    go_enter Tryd.func29, Tryd.ntmps29
    go_wp2_with fail
    go_ret
    exact ⟨ret_bool (by simp), rfl⟩
end Go.Proofs.YtakbpbifgemcdaaDoor
